/- The document's Delete. -/
import Derived.Test.YtemfnjlfcemehaaTreWxq
namespace Go.Proofs.Ytemfnjlfcemehaa
open Go.RowKit

/-- What 'Delete' answers. -/
def RDelTo (F : Nat → Prop) (n : Nat) (w : World) (t : Tr) (key : List UInt8) (e : Ending) (w' : World) : Prop :=
  ∃ p l a m d, e = .returned (.tuple #[.agg #[.int .i64 p, .bool l, .slice a m d], .bool (findT n t key).isSome]) ∧ RNodeOn (Fr F w) (n + 1) w' [.int .i64 p, .bool l, .slice a m d] (delW n t key) ∧ Below w.heap.size w w'
theorem RDelTo.mk {F G : Nat → Prop} {n : Nat} {w w' : World} {t T : Tr} {key : List UInt8} {B : Bool} {r : Nat} {p : Int} {lf : Bool} {a : Option Addr} {m d : Nat} {x0 x1 x2 : Value} (hT : delW n t key = T) (hB : (findT n t key).isSome = B) (hx : Boxes w' [(r, [x0, x1, x2])]) (hr : w.heap.size ≤ r) (hG : ¬ G r) (hGF : ∀ b, G b → Fr F w b) (h : RNodeOn G (n + 1) w' [.int .i64 p, .bool lf, .slice a m d] T) (hb : Below w.heap.size w w') :
    (((w'.setCell ⟨r, 0, none⟩ (.int .i64 p)).setCell ⟨r, 1, none⟩ (.bool lf)).setCell ⟨r, 2, none⟩ (.slice a m d)).cell? ⟨r, 0, none⟩ = some (.int .i64 p) ∧
    (((w'.setCell ⟨r, 0, none⟩ (.int .i64 p)).setCell ⟨r, 1, none⟩ (.bool lf)).setCell ⟨r, 2, none⟩ (.slice a m d)).cell? ⟨r, 1, none⟩ = some (.bool lf) ∧
    (((w'.setCell ⟨r, 0, none⟩ (.int .i64 p)).setCell ⟨r, 1, none⟩ (.bool lf)).setCell ⟨r, 2, none⟩ (.slice a m d)).cell? ⟨r, 2, none⟩ = some (.slice a m d) ∧
    Hid (RDelTo F n w t key (.returned (.tuple #[.agg #[.int .i64 p, .bool lf, .slice a m d], .bool B])) (((w'.setCell ⟨r, 0, none⟩ (.int .i64 p)).setCell ⟨r, 1, none⟩ (.bool lf)).setCell ⟨r, 2, none⟩ (.slice a m d))) := by
  obtain ⟨t0, t1, t2, _⟩ := rend hx hr hG hGF h hb
  subst hB hT
  exact ⟨t0, t1, t2, Lib.hid ⟨_, _, _, _, _, rfl, (h.put3 hG _ _ _).mono hGF, ((hb.setCell (by simpa using hr) _).setCell (by simpa using hr) _).setCell (by simpa using hr) _⟩⟩
set_option maxRecDepth 100000 in
set_option maxHeartbeats 2000000 in
theorem rdel_any {N : Nat} {F : Nat → Prop} {w : World} {cs : List Value} {t : Tr} (key : List UInt8) (hF : ∀ b, F b → b < w.heap.size) (h : RNodeOn F N w cs t) (hw : Whole N t) :
    Calls Try.prog 52 #[.agg cs.toArray, .string (strOf key)] w (RDelTo F N w t key) := by
  have H := Lib.hid h
  cases N with
  | zero => exact h.elim
  | succ N =>
  obtain ⟨a, c, rfl, _, _⟩ := h.at
  obtain ⟨lf, hlf⟩ : ∃ x, t.isLeaf = x := ⟨_, rfl⟩
  obtain ⟨p, hp⟩ : ∃ x, t.page = x := ⟨_, rfl⟩
  obtain ⟨m, hm⟩ : ∃ x, cntT t = x := ⟨_, rfl⟩
  rw [hlf, hp, hm] at h H ⊢
  obtain ⟨W2, hW2⟩ : ∃ x, (w.alloc (.cells #[.int .i64 p, .bool lf, .slice a m c] 26)).alloc (.cells #[.int .i64 0, .bool false, .slice none 0 0] 26) = x := ⟨_, rfl⟩
  have hb2 : Below w.heap.size w W2 := by rw [← hW2]; exact Below.al (Below.al (Below.refl _ _))
  have hx2 : Boxes W2 [(w.heap.size + 1, [.int .i64 0, .bool false, .slice none 0 0]), (w.heap.size, [.int .i64 p, .bool lf, .slice a m c])] := by
    rw [← hW2]
    exact ((Boxes.nil w).alloc #[.int .i64 p, .bool lf, .slice a m c] 26 (b := w.heap.size) rfl).alloc #[.int .i64 0, .bool false, .slice none 0 0] 26 (b := w.heap.size + 1) (by simp)
  have hsz2 : W2.heap.size = w.heap.size + 2 := by rw [← hW2]; simp
  have CF := rfind_any key (h.below hb2) (hw.find key)
  unfold FoundPost at CF
  obtain ⟨s, hs⟩ : ∃ x, (findT (N + 1) t key).getD [] = x := ⟨_, rfl⟩
  obtain ⟨B, hB⟩ : ∃ x, (findT (N + 1) t key).isSome = x := ⟨_, rfl⟩
  rw [hs, hB] at CF
  have n0 := hx2.cell 1 0 rfl rfl
  have n1 := hx2.cell 1 1 rfl rfl
  have n2 := hx2.cell 1 2 rfl rfl
  have HX := Lib.hid hx2
  have HB := Lib.hid hb2
  have HW := Lib.hid hw
  have HBB := Lib.hid hB
  clear h hx2 hb2 hlf hp hm hs hB hw
  show Calls _ _ #[.agg #[.int .i64 p, .bool lf, .slice a m c], .string (strOf key)] _ _
  go_enter Try.func52, Try.ntmps52
  go_wp2_with fail
  refine CF.mono ?_
  rintro e w3 ⟨rfl, hb3⟩
  have hx3 := HX.out.step hb3
  have hbw3 := below_via HB.out hb3
  have hs3 : w.heap.size + 2 ≤ w3.heap.size := by have := hb3.size; omega
  have n0 := hx3.cell 1 0 rfl rfl
  have n1 := hx3.cell 1 1 rfl rfl
  have n2 := hx3.cell 1 2 rfl rfl
  cases B with
  | false =>
    have hT : delW (N + 1) t key = t := by
      unfold delW
      rw [if_pos (by cases hf : findT (N + 1) t key with
        | none => rfl
        | some x => have := HBB.out; rw [hf] at this; cases this)]
    have z0 := hx3.cell 0 0 rfl rfl
    have z1 := hx3.cell 0 1 rfl rfl
    have z2 := hx3.cell 0 2 rfl rfl
    have y0 := hx3.frozen 0 0 rfl
    have y1 := hx3.frozen 0 1 rfl
    have y2 := hx3.frozen 0 2 rfl
    obtain ⟨t0, t1, t2, HE⟩ := RDelTo.mk (F := F) (w := w) (G := F) hT HBB.out (hx3.sub (m := [(w.heap.size + 1, [.int .i64 0, .bool false, .slice none 0 0])]) (by simp)) (by omega) (fun hg => by have := hF _ hg; omega) (fun b hb => .inl hb) ((H.out.below hbw3).more (show N + 1 ≤ N + 1 + 1 by omega)) hbw3
    clear hx3 hbw3 hb3 hT CF hW2
    go_wp2_with fail
    refine bodyPost_ret (v := .tuple #[.agg #[.int .i64 p, .bool lf, .slice a m c], .bool false]) (by simp only [results, Try.results52]; simp [go_sem, t0, t1, t2]) rfl HE.out
  | true =>
  have hfn : findT (N + 1) t key ≠ none := fun e => by have := HBB.out; rw [e] at this; cases this
  obtain ⟨ho, ht⟩ := HW.out.del hfn
  have CWo := rwithout_any key (fun b hb => by have := hF b hb; omega) (H.out.below hbw3) ho
  obtain ⟨T, hT⟩ : ∃ x, delT (N + 1) t key = x := ⟨_, rfl⟩
  have HT : Hid (delW (N + 1) t key = topT (N + 1) T) := Lib.hid (by unfold delW; rw [if_neg hfn, hT])
  rw [hT] at CWo ht
  have HX3 := Lib.hid hx3
  have HB3 := Lib.hid hbw3
  have HTO := Lib.hid ht
  clear hx3 hbw3 hb3 ho ht hT CF hW2 hfn
  go_wp2_with fail
  refine CWo.mono ?_
  rintro e w4 hq
  obtain ⟨p1, l1, a1, m1, d1, rfl, hn1, hb1⟩ := hq.split
  have C2 := rtop_any (F := fun x => Fr F w3 x ∧ x < w4.heap.size) (fun _ h => h.2) hn1.lt HTO.out
  have HX4 := Lib.hid (HX3.out.step hb1)
  have HB4 := Lib.hid (below_via HB3.out hb1)
  have h34 := hb1.size
  clear hn1 hb1 hq CWo n0 n1 n2
  go_wp2_with fail
  refine C2.mono ?_
  rintro e w5 hq
  obtain ⟨p2, l2, a2, m2, d2, rfl, hn2, hb2⟩ := hq.split
  have hx2 := HX4.out.step hb2
  have z0 := hx2.cell 0 0 rfl rfl
  have z1 := hx2.cell 0 1 rfl rfl
  have z2 := hx2.cell 0 2 rfl rfl
  have y0 := hx2.frozen 0 0 rfl
  have y1 := hx2.frozen 0 1 rfl
  have y2 := hx2.frozen 0 2 rfl
  obtain ⟨t0, t1, t2, HE⟩ := RDelTo.mk (F := F) (w := w) HT.out HBB.out (hx2.sub (m := [(w.heap.size + 1, [.int .i64 0, .bool false, .slice none 0 0])]) (by simp)) (by omega) (fun hg => by
    rcases hg with hg | hg
    · rcases hg.1 with hg | hg
      · have := hF _ hg; omega
      · omega
    · omega) (fun b hb => by
    rcases hb with hb | hb
    · rcases hb.1 with hb | hb
      · exact .inl hb
      · exact .inr (by omega)
    · exact .inr (by omega)) hn2 (below_via HB4.out hb2)
  clear hx2 hn2 hb2 hq C2
  go_wp2_with fail
  refine bodyPost_ret (v := .tuple #[.agg #[.int .i64 p2, .bool l2, .slice a2 m2 d2], .bool true]) (by simp only [results, Try.results52]; simp [go_sem, t0, t1, t2]) rfl HE.out
end Go.Proofs.Ytemfnjlfcemehaa
