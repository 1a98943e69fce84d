/- jalousielaw15.spoiled of a branch, one level down (printed by gen_treSz.py). -/
import Derived.Test.YtemfnjlfcemehaaTreSyq
import Derived.Test.YtemfnjlfcemehaaTreDpq
namespace Go.Proofs.Ytemfnjlfcemehaa
open Go.RowKit

theorem elem_b9 : Try.prog.underlying 72 = some (.slice (Try.prog.elem 72)) := by kernel_rfl
theorem size_b9 (w : World) : (sizeOf (Try.prog.elem 72)).run Try.prog w = .ok 1 w := by kernel_rfl
/-- An element's cells of a row of the call's own. -/
theorem own_cells {w : World} {B g n c : Nat} {e : TypeId} {C : List (Cl 5)} (h : w.ownsRow B e 5 (.slice (some ⟨g, 0, none⟩) n c) n (flatC C)) (hn : C.length = n) {k : Nat} (hk : k < n) :
    (∃ x0 x1 x2 x3 x4, w.cell? ⟨g, k * 5, none⟩ = some x0 ∧ w.cell? ⟨g, k * 5 + 1, none⟩ = some x1 ∧ w.cell? ⟨g, k * 5 + 2, none⟩ = some x2 ∧ w.cell? ⟨g, k * 5 + 3, none⟩ = some x3 ∧ w.cell? ⟨g, k * 5 + 4, none⟩ = some x4) ∧ ∀ o, w.frozen? ⟨g, o, none⟩ = false := by
  constructor
  · obtain ⟨a', c', e', hr⟩ := Raw.of_own h hn
    cases e'
    obtain ⟨b', off', y, cs, e1, _, e3, hl, e5, e6⟩ := TabR.at hr hk
    cases e1
    have hl : cs.length = 5 := hl
    obtain ⟨x0, x1, x2, x3, x4, rfl⟩ : ∃ x0 x1 x2 x3 x4, cs = [x0, x1, x2, x3, x4] := by
      match cs, hl with
      | [x0, x1, x2, x3, x4], _ => exact ⟨x0, x1, x2, x3, x4, rfl⟩
    refine ⟨x0, x1, x2, x3, x4, ?_, ?_, ?_, ?_, ?_⟩
    · have := e6 0 _ rfl; simpa using this
    · have := e6 1 _ rfl; simpa using this
    · have := e6 2 _ rfl; simpa using this
    · have := e6 3 _ rfl; simpa using this
    · have := e6 4 _ rfl; simpa using this
  · rcases h.2 with ⟨e1, _⟩ | ⟨g', cap, cur, e1, _, hh, _⟩
    · cases e1
    · cases e1
      intro o
      simp [World.frozen?, hh]
theorem own_setk {w : World} {B g n c : Nat} {e : TypeId} {C : List (Cl 5)} (h : w.ownsRow B e 5 (.slice (some ⟨g, 0, none⟩) n c) n (flatC C)) (hn : C.length = n) {k : Nat} (hk : k < n) (y : Cl 5) {y0 y1 y2 y3 y4 : Value} (hy : y.1 = [y0, y1, y2, y3, y4]) :
    (((((w.setCell ⟨g, k * 5, none⟩ y0).setCell ⟨g, k * 5 + 1, none⟩ y1).setCell ⟨g, k * 5 + 2, none⟩ y2).setCell ⟨g, k * 5 + 3, none⟩ y3).setCell ⟨g, k * 5 + 4, none⟩ y4).ownsRow B e 5 (.slice (some ⟨g, 0, none⟩) n c) n (flatC (C.set k y)) := own_set5 h hn hk y hy
set_option maxRecDepth 100000 in
set_option maxHeartbeats 4000000 in
theorem spoil_down {n : Nat} {kind : Int} {a : Nat} (ha : a < 256) {key : List UInt8} (hk : key.length ≤ 100)
    (IH : ∀ {F : Nat → Prop} {w : World} {cs : List Value} {t : Tr} {wa : Option Addr} {wn wk : Nat} {way : List UInt8}, (∀ b, F b → b < w.heap.size) → NodeOn F n w cs t → Sml n t → Pos n t → Bs w wa wn wk way →
      Calls Try.prog 40 #[.agg cs.toArray, .agg #[.slice wa wn wk, .int .i64 kind, .int .u8 (a : Int), .string (strOf key)]] w (NodeTo F n w (spoilT n way kind a key t)))
    {F : Nat → Prop} {w : World} {cs : List Value} {p : Int} {l : List (List UInt8 × Tr)} (hF : ∀ b, F b → b < w.heap.size) (h : NodeOn F (n + 1) w cs (.node p l)) (hs : Sml (n + 1) (.node p l)) (hp : Pos (n + 1) (.node p l)) {wa : Option Addr} {wn wk : Nat} {x : UInt8} {way : List UInt8} (hw : Bs w wa wn wk (x :: way)) :
    Calls Try.prog 40 #[.agg cs.toArray, .agg #[.slice wa wn wk, .int .i64 kind, .int .u8 (a : Int), .string (strOf key)]] w (NodeTo F (n + 1) w (spoilT (n + 1) (x :: way) kind a key (.node p l))) := by
  obtain ⟨ka, kc, va, vn, vc, ca, cn, cc, V, C, rfl, h1, h2, h3, h4, f1, f2, f3⟩ := h.open
  obtain ⟨_, r1, r2⟩ := h4.toR.lens
  have hV : V = [] := h4.2.1
  have hvn : vn = 0 := by rw [← h2.1, hV]; rfl
  have hcn : cn = l.length := by rw [← h3.1, r2]; rfl
  obtain ⟨m, hm⟩ : ∃ m, l.length = m := ⟨_, rfl⟩
  have hm0 : 0 < m := by rw [← hm]; exact hp.1
  have hm9 : m ≤ 100 := by rw [← hm]; exact hs.1
  have hcm : cntT (.node p l) = m := hm
  rw [hcm] at h1 f1
  rw [hm] at hcn
  subst hvn hcn hV
  obtain ⟨k, hk9⟩ : ∃ k, x.toNat % cn = k := ⟨_, rfl⟩
  have hkm : k < cn := by rw [← hk9]; exact Nat.mod_lt _ hm0
  have hkl : k < l.length := by omega
  have hT : spoilT (n + 1) (x :: way) kind a key (.node p l) = .node p (l.set k (keyAt l k, spoilT n way kind a key (kidAt l k))) := by
    subst hm hk9
    show (if l.length = 0 then _ else _) = _
    rw [if_neg (by omega)]
  rw [hT, hcm]
  obtain ⟨bc, oc, y, yc, rfl, hbc, hy, _, hyc, hcell⟩ := TabR.at h3 hkm
  have hyc : yc = y.1 := hyc
  subst hyc
  have hkid := kid_tells h4.2.2 hy
  obtain ⟨q1, q2, q3, q4, q5, q6, q7, q8, _, _, ey, _⟩ := NodeOn.open_pos hkid
  rw [ey] at hcell hkid
  have hw' := hw
  have hwn : wn = way.length + 1 := by have := Bs.len hw; rw [← this]; rfl
  obtain ⟨g1, g2, g3, _, g4⟩ := hw'
  obtain ⟨bw, ow, rfl, hbw, hwc⟩ : ∃ b off, wa = some ⟨b, off, none⟩ ∧ b < w.heap.size ∧ ∀ i, i < wn → w.cell? ⟨b, off + i, none⟩ = some (.int .u8 ((toI (x :: way))[i]?.getD 0)) := by
    rcases g4 with g4 | g4
    · omega
    · exact g4
  have hw0 : w.cell? ⟨bw, ow, none⟩ = some (.int .u8 (x.toNat : Int)) := hwc 0 (by omega)
  have HBS := Lib.hid hw
  obtain ⟨ad, had, hsl⟩ := slice_from elem_b9 size_b9 (some ⟨bw, ow, none⟩) wn wk 1 (by omega)
  have hxm : ((x.toNat : Int).tmod (cn : Int)) = (k : Int) := by rw [← hk9, Int.tmod_eq_emod_of_nonneg (by omega)]; rfl
  have hxw : IntKind.i64.wrap (x.toNat : Int) = (x.toNat : Int) := IntWalk.i64_in _ (by have := x.toNat_lt; omega)
  have hcn0 : ((cn : Int) == 0) = false := by simp; omega
  have hcn1 : ¬ (cn : Int) = 0 := by omega
  have hcn2 : decide ((cn : Int) = 0) = false := by simp; omega
  have hwn0 : (0 : Int) < (wn : Int) := by omega
  have hwn1 : decide ((0 : Int) < (wn : Int)) = true := by simp; omega
  obtain ⟨W0, hW0⟩ : ∃ z, ((w.alloc (.cells #[.int .i64 p, .bool false, .slice ka cn kc, .slice va 0 vc, .slice (some ⟨bc, oc, none⟩) cn cc] 33)).alloc (.cells #[.slice (some ⟨bw, ow, none⟩) wn wk, .int .i64 kind, .int .u8 (a : Int), .string (strOf key)] 74)).alloc (.cells #[.int .i64 0, .bool false, .slice none 0 0, .slice none 0 0, .slice none 0 0] 33) = z := ⟨_, rfl⟩
  have hx0 : Boxes W0 [(w.heap.size + 1 + 1, [.int .i64 0, .bool false, .slice none 0 0, .slice none 0 0, .slice none 0 0]), (w.heap.size + 1, [.slice (some ⟨bw, ow, none⟩) wn wk, .int .i64 kind, .int .u8 (a : Int), .string (strOf key)]), (w.heap.size, [.int .i64 p, .bool false, .slice ka cn kc, .slice va 0 vc, .slice (some ⟨bc, oc, none⟩) cn cc])] := by
    rw [← hW0]
    exact (((Boxes.nil w).alloc #[.int .i64 p, .bool false, .slice ka cn kc, .slice va 0 vc, .slice (some ⟨bc, oc, none⟩) cn cc] 33 (b := w.heap.size) rfl).alloc #[.slice (some ⟨bw, ow, none⟩) wn wk, .int .i64 kind, .int .u8 (a : Int), .string (strOf key)] 74 (b := w.heap.size + 1) (by simp)).alloc #[.int .i64 0, .bool false, .slice none 0 0, .slice none 0 0, .slice none 0 0] 33 (b := w.heap.size + 1 + 1) (by simp)
  have hb0 : Below w.heap.size w W0 := by rw [← hW0]; exact Below.al (Below.al (Below.al (Below.refl _ _)))
  have hs0 : W0.heap.size = w.heap.size + 1 + 1 + 1 := by rw [← hW0]; simp
  have n0 := hx0.cell 2 0 rfl rfl
  have n1 := hx0.cell 2 1 rfl rfl
  have n2 := hx0.cell 2 2 rfl rfl
  have n3 := hx0.cell 2 3 rfl rfl
  have n4 := hx0.cell 2 4 rfl rfl
  have s0 := hx0.cell 1 0 rfl rfl
  have w0 := (hb0.cell (p := ⟨bw, ow, none⟩) hbw).trans hw0
  have HX0 := Lib.hid hx0
  have HB0 := Lib.hid hb0
  have HS0 := Lib.hid hs0
  have H3 := Lib.hid h3
  have H4 := Lib.hid h4
  have H1 := Lib.hid h1
  have H2 := Lib.hid h2
  have HF1 := Lib.hid f1
  have HCELL := Lib.hid hcell
  have HKID := Lib.hid hkid
  have HSM := Lib.hid hs
  have HPS := Lib.hid hp
  have HM := Lib.hid hm
  have HAD := Lib.hid had
  have HWN := Lib.hid hwn
  obtain ⟨T9, hT9⟩ : ∃ T9, Tr.node p (l.set k (keyAt l k, spoilT n way kind a key (kidAt l k))) = T9 := ⟨_, rfl⟩
  rw [hT9]
  have HT9 := Lib.hid hT9
  have h0k : (0 : Int) ≤ (k : Int) := by omega
  have hkc : (k : Int) < (cn : Int) := by omega
  clear h h1 h2 h3 h4 f1 f2 f3 hT hT9 hw hwc hw0 g1 g2 g3 g4 hy ey hcell hkid hs hp hx0 hb0 hs0 hcm hm hk9 had hwn
  show Calls _ _ #[.agg #[.int .i64 p, .bool false, .slice ka cn kc, .slice va 0 vc, .slice (some ⟨bc, oc, none⟩) cn cc], _] _ _
  go_enter Try.func40, Try.ntmps40
  go_upto_region 4 with (fail)
  go_quiet (fail)
  obtain ⟨W1, hW1⟩ : ∃ z, z = W0.drewN nq := ⟨_, rfl⟩
  rw [← hW1]
  have hb1 : Below W0.heap.size W0 W1 := by rw [hW1]; exact below_drewN (Below.refl _ _) _
  have hx1 := HX0.out.step hb1
  have hbw1 := below_via HB0.out hb1
  obtain ⟨i0, z0, i1, i2, i3, i4, i5⟩ := info_nK
  obtain ⟨v6, w6, hr6, ho6, hg6, hv6⟩ := run_append_raw (P := Try.prog) (w := W1) (L := []) W0.heap.size 31 33 i0 z0 5 88 Try.underlying31 i1 i2 i3 i4 i5 (by decide) (own_nil W1 _ 5 _) (TabR.below (Nat.le_refl _) hbw1 H3.out) (by unfold maxLen; omega) (by omega) hb1.size
  rw [Nat.zero_add, List.nil_append] at ho6
  obtain ⟨a6, c6, rfl, hc61, hc62, hg60⟩ := own_slice ho6
  obtain ⟨g, rfl⟩ := hg60 hm0
  have hglt := World.ownsRow.lt ho6 g rfl
  have hb6 : Below W1.heap.size W1 w6 := (Below.refl _ _).grown hg6 (Nat.le_refl _) (fun j e => by cases e)
  have hx6 := hx1.step hb6
  have hbw6 := below_via hbw1 hb6
  have n4 := hx1.cell 2 4 rfl rfl
  have HO6 := Lib.hid ho6
  have HX6 := Lib.hid hx6
  have hCl : C.length = cn := H3.out.1
  have HB6 := Lib.hid hbw6
  have hc63 : cn ≤ 9223372036854775807 := by omega
  clear n0 n1 n2 n3 s0 w0 hW1 hx1 hbw1 hb1 hb6 ho6 hg6 hv6 hg60 hx6
  go_upto_region 7 with (at_builtin; refine wpList_append_run rfl _ _ _ _ rfl rfl rfl hr6 ?_)
  clear hr6 n4
  have hs0 := HS0.out
  have hlt6 : w.heap.size + 1 + 1 < w6.heap.size := by omega
  have hne : w.heap.size ≠ g := by omega
  have hne1 : w.heap.size + 1 ≠ g := by omega
  have hneb : bc ≠ g := by omega
  have hlb6 : bc < w6.heap.size := by omega
  have n4 : ∀ W, AgreeF (fun x => x ≠ g) w6 W → W.cell? ⟨w.heap.size, 4, none⟩ = _ := fun W hW => (hW.cell hne (by omega)).trans (HX6.out.cell 2 4 rfl rfl)
  have s0 : ∀ W, AgreeF (fun x => x ≠ g) w6 W → W.cell? ⟨w.heap.size + 1, 0, none⟩ = _ := fun W hW => (hW.cell hne1 (by omega)).trans (HX6.out.cell 1 0 rfl rfl)
  have s1 : ∀ W, AgreeF (fun x => x ≠ g) w6 W → W.cell? ⟨w.heap.size + 1, 1, none⟩ = _ := fun W hW => (hW.cell hne1 (by omega)).trans (HX6.out.cell 1 1 rfl rfl)
  have s2 : ∀ W, AgreeF (fun x => x ≠ g) w6 W → W.cell? ⟨w.heap.size + 1, 2, none⟩ = _ := fun W hW => (hW.cell hne1 (by omega)).trans (HX6.out.cell 1 2 rfl rfl)
  have s3 : ∀ W, AgreeF (fun x => x ≠ g) w6 W → W.cell? ⟨w.heap.size + 1, 3, none⟩ = _ := fun W hW => (hW.cell hne1 (by omega)).trans (HX6.out.cell 1 3 rfl rfl)
  have e0 : ∀ W, AgreeF (fun x => x ≠ g) w6 W → W.cell? ⟨bc, oc + k * 5, none⟩ = _ := fun W hW => (hW.cell hneb hlb6).trans ((hbw6.cell (p := ⟨bc, oc + k * 5, none⟩) hbc).trans (HCELL.out 0 _ rfl))
  have e1 : ∀ W, AgreeF (fun x => x ≠ g) w6 W → W.cell? ⟨bc, oc + k * 5 + 1, none⟩ = _ := fun W hW => (hW.cell hneb hlb6).trans ((hbw6.cell (p := ⟨bc, oc + k * 5 + 1, none⟩) hbc).trans (HCELL.out 1 _ rfl))
  have e2 : ∀ W, AgreeF (fun x => x ≠ g) w6 W → W.cell? ⟨bc, oc + k * 5 + 2, none⟩ = _ := fun W hW => (hW.cell hneb hlb6).trans ((hbw6.cell (p := ⟨bc, oc + k * 5 + 2, none⟩) hbc).trans (HCELL.out 2 _ rfl))
  have e3 : ∀ W, AgreeF (fun x => x ≠ g) w6 W → W.cell? ⟨bc, oc + k * 5 + 3, none⟩ = _ := fun W hW => (hW.cell hneb hlb6).trans ((hbw6.cell (p := ⟨bc, oc + k * 5 + 3, none⟩) hbc).trans (HCELL.out 3 _ rfl))
  have e4 : ∀ W, AgreeF (fun x => x ≠ g) w6 W → W.cell? ⟨bc, oc + k * 5 + 4, none⟩ = _ := fun W hW => (hW.cell hneb hlb6).trans ((hbw6.cell (p := ⟨bc, oc + k * 5 + 4, none⟩) hbc).trans (HCELL.out 4 _ rfl))
  have hsl1 : ∀ W, (Instr.slice 72 (.slice (some ⟨bw, ow, none⟩) wn wk) (some (.int .i64 1)) none none).run Try.prog W = .ok (.slice ad (wn - 1) (wk - 1)) W := fun W => hsl .i64 W
  obtain ⟨wn1, hwn1'⟩ : ∃ z, wn - 1 = z := ⟨_, rfl⟩
  obtain ⟨wk1, hwk1'⟩ : ∃ z, wk - 1 = z := ⟨_, rfl⟩
  rw [hwn1', hwk1'] at hsl1
  have hA00 : AgreeF (fun x => x ≠ g) w6 w6.drew := AgreeF.refl _
  obtain ⟨km, hkmem, hkx⟩ := kid_mem (l := l) (k := k) hkl
  have CW := IH (F := F) (w := w6.drew) (wa := ad) (wn := wn1) (wk := wk1) (way := way) (fun b hf => by have := hF b hf; simp; omega) (HKID.out.below (Below.dr hbw6)) (by rw [← hkx]; exact (HSM.out.2 km hkmem).2) (by rw [← hkx]; exact HPS.out.2 km hkmem) (by
    have := Bs.drop 1 (by omega) (Bs.below (Nat.le_refl _) (Below.dr hbw6) HBS.out)
    rw [← HAD.out, hwn1', hwk1'] at this
    exact this)
  obtain ⟨ST, hST⟩ : ∃ z, spoilT n way kind a key (kidAt l k) = z := ⟨_, rfl⟩
  rw [hST] at CW
  have HST := Lib.hid hST
  clear hsl IH hbw6 hwn1' hwk1' hkx hkmem hST
  refine wp_region_noPanic ?_
  refine wp_region_held_drew (S := (fun W => AgreeF (fun x => x ≠ g) w6 W)) (by kernel_rfl) (by (repeat (with_reducible first | assumption | exact AgreeF.refl _ | apply AgreeF.al | apply AgreeF.dr | apply AgreeF.st))) (fun hHeld => ?_)
  refine wpAnyH_take (i := 0) (oi := { dst := some 42, op := Op.move (Operand.tmp 6), type := 31, pos := "law.go:158", after := #[], guard := none }) (v := ?_) rfl (by kernel_rfl) (by kernel_rfl) (by kernel_rfl) (fun _ _ _ h => h) (Or.inl ⟨by rfl, ?_⟩) (by assumption) ?_
  rotate_left
  · (intro W hW; (try dsimp only at hW); go_simp <;> (with_reducible rfl))
  try simp only [Act.put, List.setIfInBounds_toArray, List.set_cons_zero, List.set_cons_succ]
  refine wpAnyH_take (i := 1) (oi := { dst := some 43, op := Op.move (Operand.tmp 5), type := 3, pos := "law.go:158", after := #[], guard := none }) (v := ?_) rfl (by kernel_rfl) (by kernel_rfl) (by kernel_rfl) (fun _ _ _ h => h) (Or.inl ⟨by rfl, ?_⟩) (by assumption) ?_
  rotate_left
  · (intro W hW; (try dsimp only at hW); go_simp <;> (with_reducible rfl))
  try simp only [Act.put, List.setIfInBounds_toArray, List.set_cons_zero, List.set_cons_succ]
  refine wpAnyH_take (i := 2) (oi := { dst := some 44, op := Op.fieldAddr 33 (Operand.tmp 2) 4, type := 0, pos := "law.go:158", after := #[], guard := none }) (v := ?_) rfl (by kernel_rfl) (by kernel_rfl) (by kernel_rfl) (fun _ _ _ h => h) (Or.inl ⟨by rfl, ?_⟩) (by assumption) ?_
  rotate_left
  · (intro W hW; (try dsimp only at hW); go_simp <;> (with_reducible rfl))
  try simp only [Act.put, List.setIfInBounds_toArray, List.set_cons_zero, List.set_cons_succ]
  refine wpAnyH_take (i := 3) (oi := { dst := some 45, op := Op.load 31 (Operand.tmp 44), type := 31, pos := "law.go:158", after := #[{ on := 2, ground := Ground.data }], guard := none }) (v := ?_) rfl (by kernel_rfl) (by kernel_rfl) (by kernel_rfl) (fun _ _ _ h => h) (Or.inl ⟨by rfl, ?_⟩) (by assumption) ?_
  rotate_left
  · (intro W hW; (try dsimp only at hW); go_simp <;> (with_reducible rfl))
  try simp only [Act.put, List.setIfInBounds_toArray, List.set_cons_zero, List.set_cons_succ]
  refine wpAnyH_take (i := 4) (oi := { dst := some 46, op := Op.move (Operand.tmp 5), type := 3, pos := "law.go:158", after := #[], guard := none }) (v := ?_) rfl (by kernel_rfl) (by kernel_rfl) (by kernel_rfl) (fun _ _ _ h => h) (Or.inl ⟨by rfl, ?_⟩) (by assumption) ?_
  rotate_left
  · (intro W hW; (try dsimp only at hW); go_simp <;> (with_reducible rfl))
  try simp only [Act.put, List.setIfInBounds_toArray, List.set_cons_zero, List.set_cons_succ]
  refine wpAnyH_take (i := 5) (oi := { dst := some 47, op := Op.indexAddr 31 (Operand.tmp 45) (Operand.tmp 46), type := 0, pos := "law.go:158", after := #[{ on := 3, ground := Ground.data }, { on := 4, ground := Ground.data }], guard := none }) (v := ?_) rfl (by kernel_rfl) (by kernel_rfl) (by kernel_rfl) (fun _ _ _ h => h) (Or.inl ⟨by rfl, ?_⟩) (by assumption) ?_
  rotate_left
  · (intro W hW; (try dsimp only at hW); go_simp <;> (with_reducible rfl))
  try simp only [Act.put, List.setIfInBounds_toArray, List.set_cons_zero, List.set_cons_succ]
  refine wpAnyH_take (i := 6) (oi := { dst := some 48, op := Op.load 33 (Operand.tmp 47), type := 33, pos := "law.go:158", after := #[{ on := 5, ground := Ground.data }], guard := none }) (v := ?_) rfl (by kernel_rfl) (by kernel_rfl) (by kernel_rfl) (fun _ _ _ h => h) (Or.inl ⟨by rfl, ?_⟩) (by assumption) ?_
  rotate_left
  · (intro W hW; (try dsimp only at hW); go_simp <;> (with_reducible rfl))
  try simp only [Act.put, List.setIfInBounds_toArray, List.set_cons_zero, List.set_cons_succ]
  refine wpAnyH_take (i := 7) (oi := { dst := some 49, op := Op.fieldAddr 74 (Operand.tmp 3) 0, type := 0, pos := "law.go:158", after := #[], guard := none }) (v := ?_) rfl (by kernel_rfl) (by kernel_rfl) (by kernel_rfl) (fun _ _ _ h => h) (Or.inl ⟨by rfl, ?_⟩) (by assumption) ?_
  rotate_left
  · (intro W hW; (try dsimp only at hW); go_simp <;> (with_reducible rfl))
  try simp only [Act.put, List.setIfInBounds_toArray, List.set_cons_zero, List.set_cons_succ]
  refine wpAnyH_take (i := 8) (oi := { dst := some 50, op := Op.load 72 (Operand.tmp 49), type := 72, pos := "law.go:158", after := #[{ on := 7, ground := Ground.data }], guard := none }) (v := ?_) rfl (by kernel_rfl) (by kernel_rfl) (by kernel_rfl) (fun _ _ _ h => h) (Or.inl ⟨by rfl, ?_⟩) (by assumption) ?_
  rotate_left
  · (intro W hW; (try dsimp only at hW); go_simp <;> (with_reducible rfl))
  try simp only [Act.put, List.setIfInBounds_toArray, List.set_cons_zero, List.set_cons_succ]
  refine wpAnyH_take (i := 9) (oi := { dst := some 51, op := Op.slice 72 (Operand.tmp 50) (some (Operand.const (Value.int IntKind.i64 1))) none none, type := 72, pos := "law.go:158", after := #[{ on := 8, ground := Ground.data }], guard := none }) (v := ?_) rfl (by kernel_rfl) (by kernel_rfl) (by kernel_rfl) (fun _ _ _ h => h) (Or.inl ⟨by rfl, ?_⟩) (by assumption) ?_
  rotate_left
  · (intro W hW; (try dsimp only at hW); go_simp <;> (with_reducible rfl))
  try simp only [Act.put, List.setIfInBounds_toArray, List.set_cons_zero, List.set_cons_succ]
  refine wpAnyH_take (i := 10) (oi := { dst := some 52, op := Op.fieldAddr 74 (Operand.tmp 3) 1, type := 0, pos := "law.go:158", after := #[], guard := none }) (v := ?_) rfl (by kernel_rfl) (by kernel_rfl) (by kernel_rfl) (fun _ _ _ h => h) (Or.inl ⟨by rfl, ?_⟩) (by assumption) ?_
  rotate_left
  · (intro W hW; (try dsimp only at hW); go_simp <;> (with_reducible rfl))
  try simp only [Act.put, List.setIfInBounds_toArray, List.set_cons_zero, List.set_cons_succ]
  refine wpAnyH_take (i := 11) (oi := { dst := some 53, op := Op.load 3 (Operand.tmp 52), type := 3, pos := "law.go:158", after := #[{ on := 10, ground := Ground.data }], guard := none }) (v := ?_) rfl (by kernel_rfl) (by kernel_rfl) (by kernel_rfl) (fun _ _ _ h => h) (Or.inl ⟨by rfl, ?_⟩) (by assumption) ?_
  rotate_left
  · (intro W hW; (try dsimp only at hW); go_simp <;> (with_reducible rfl))
  try simp only [Act.put, List.setIfInBounds_toArray, List.set_cons_zero, List.set_cons_succ]
  refine wpAnyH_take (i := 12) (oi := { dst := some 54, op := Op.fieldAddr 74 (Operand.tmp 3) 2, type := 0, pos := "law.go:158", after := #[], guard := none }) (v := ?_) rfl (by kernel_rfl) (by kernel_rfl) (by kernel_rfl) (fun _ _ _ h => h) (Or.inl ⟨by rfl, ?_⟩) (by assumption) ?_
  rotate_left
  · (intro W hW; (try dsimp only at hW); go_simp <;> (with_reducible rfl))
  try simp only [Act.put, List.setIfInBounds_toArray, List.set_cons_zero, List.set_cons_succ]
  refine wpAnyH_take (i := 13) (oi := { dst := some 55, op := Op.load 5 (Operand.tmp 54), type := 5, pos := "law.go:158", after := #[{ on := 12, ground := Ground.data }], guard := none }) (v := ?_) rfl (by kernel_rfl) (by kernel_rfl) (by kernel_rfl) (fun _ _ _ h => h) (Or.inl ⟨by rfl, ?_⟩) (by assumption) ?_
  rotate_left
  · (intro W hW; (try dsimp only at hW); go_simp <;> (with_reducible rfl))
  try simp only [Act.put, List.setIfInBounds_toArray, List.set_cons_zero, List.set_cons_succ]
  refine wpAnyH_take (i := 14) (oi := { dst := some 56, op := Op.fieldAddr 74 (Operand.tmp 3) 3, type := 0, pos := "law.go:158", after := #[], guard := none }) (v := ?_) rfl (by kernel_rfl) (by kernel_rfl) (by kernel_rfl) (fun _ _ _ h => h) (Or.inl ⟨by rfl, ?_⟩) (by assumption) ?_
  rotate_left
  · (intro W hW; (try dsimp only at hW); go_simp <;> (with_reducible rfl))
  try simp only [Act.put, List.setIfInBounds_toArray, List.set_cons_zero, List.set_cons_succ]
  refine wpAnyH_take (i := 15) (oi := { dst := some 57, op := Op.load 9 (Operand.tmp 56), type := 9, pos := "law.go:158", after := #[{ on := 14, ground := Ground.data }], guard := none }) (v := ?_) rfl (by kernel_rfl) (by kernel_rfl) (by kernel_rfl) (fun _ _ _ h => h) (Or.inl ⟨by rfl, ?_⟩) (by assumption) ?_
  rotate_left
  · (intro W hW; (try dsimp only at hW); go_simp <;> (with_reducible rfl))
  try simp only [Act.put, List.setIfInBounds_toArray, List.set_cons_zero, List.set_cons_succ]
  refine wpAnyH_take (i := 16) (oi := { dst := some 58, op := Op.build 74 #[(0, Operand.tmp 51), (1, Operand.tmp 53), (2, Operand.tmp 55), (3, Operand.tmp 57)], type := 74, pos := "law.go:158", after := #[{ on := 9, ground := Ground.data }, { on := 11, ground := Ground.data }, { on := 13, ground := Ground.data }, { on := 15, ground := Ground.data }], guard := none }) (v := ?_) rfl (by kernel_rfl) (by kernel_rfl) (by kernel_rfl) (fun _ _ _ h => h) (Or.inl ⟨by rfl, ?_⟩) (by assumption) ?_
  rotate_left
  · (intro W hW; (try dsimp only at hW); go_simp <;> (with_reducible rfl))
  try simp only [Act.put, List.setIfInBounds_toArray, List.set_cons_zero, List.set_cons_succ]
  refine wpAnyH_ready (rs := [17]) (by kernel_rfl) (by simp) (AllReadyH.cons (o := { dst := some 59, op := Op.call { callee := Callee.value (Operand.func 40), args := #[Operand.tmp 48, Operand.tmp 58], argTypes := #[33, 74] }, type := 33, pos := "law.go:158", after := #[{ on := 6, ground := Ground.data }, { on := 16, ground := Ground.data }], guard := none }) rfl (fun K hK => ?_) AllReadyH.nil)
  (rw [if_pos (by rfl)]; go_simp; (with_reducible refine CW.mono ?_); rintro e w7 ⟨kcs, rfl, hn7, hb7⟩; obtain ⟨u1, u2, u3, u4, u5, u6, u7, u8, _, _, eu, _⟩ := NodeOn.open_pos hn7; subst eu; have hA7 : AgreeF (fun x => x ≠ g) w6 w7 := AgreeF.trans (AgreeF.dr (AgreeF.refl w6)) (AgreeF.of_below hb7); have hgl7 : g < w7.heap.size := Nat.lt_of_lt_of_le hglt.2 hb7.size; have ho7 := own_held HO6.out (show Below w6.heap.size w6 w7 from (Below.dr (Below.refl _ _)).trans hb7); have HN7 := Lib.hid hn7; have HB7 := Lib.hid hb7; have HO7 := Lib.hid ho7; obtain ⟨⟨x0, x1, x2, x3, x4, xc0, xc1, xc2, xc3, xc4⟩, hfz⟩ := own_cells ho7 hCl hkm; have xf0 := hfz (k * 5); have xf1 := hfz (k * 5 + 1); have xf2 := hfz (k * 5 + 2); have xf3 := hfz (k * 5 + 3); have xf4 := hfz (k * 5 + 4); clear CW hn7 hb7 ho7 hfz; dsimp only)
  refine hK.out _ _ (by (repeat (with_reducible first | assumption | exact AgreeF.refl _ | apply AgreeF.al | apply AgreeF.dr | apply AgreeF.st))) (fun hHeld => ?_)
  clear hK K
  try simp only [Act.put, List.setIfInBounds_toArray, List.set_cons_zero, List.set_cons_succ]
  refine wpAnyH_take (i := 18) (oi := { dst := some 60, op := Op.indexAddr 31 (Operand.tmp 42) (Operand.tmp 43), type := 0, pos := "law.go:158", after := #[{ on := 0, ground := Ground.data }, { on := 1, ground := Ground.data }, { on := 0, ground := Ground.phase }, { on := 1, ground := Ground.phase }, { on := 2, ground := Ground.phase }, { on := 3, ground := Ground.phase }, { on := 4, ground := Ground.phase }, { on := 5, ground := Ground.phase }, { on := 6, ground := Ground.phase }, { on := 7, ground := Ground.phase }, { on := 8, ground := Ground.phase }, { on := 9, ground := Ground.phase }, { on := 10, ground := Ground.phase }, { on := 11, ground := Ground.phase }, { on := 12, ground := Ground.phase }, { on := 13, ground := Ground.phase }, { on := 14, ground := Ground.phase }, { on := 15, ground := Ground.phase }, { on := 16, ground := Ground.phase }, { on := 17, ground := Ground.phase }], guard := none }) (v := ?_) rfl (by kernel_rfl) (by kernel_rfl) (by kernel_rfl) (fun _ _ _ h => h) (Or.inl ⟨by rfl, ?_⟩) (by assumption) ?_
  rotate_left
  · (intro W hW; (try dsimp only at hW); go_simp <;> (with_reducible rfl))
  try simp only [Act.put, List.setIfInBounds_toArray, List.set_cons_zero, List.set_cons_succ]
  refine wpAnyH_ready (rs := [19]) (by kernel_rfl) (by simp) (AllReadyH.cons (o := { dst := none, op := Op.store 33 (Operand.tmp 60) (Operand.tmp 59), type := 0, pos := "law.go:158", after := #[{ on := 18, ground := Ground.data }, { on := 17, ground := Ground.data }, { on := 17, ground := Ground.chain }, { on := 0, ground := Ground.phase }, { on := 1, ground := Ground.phase }, { on := 2, ground := Ground.phase }, { on := 3, ground := Ground.phase }, { on := 4, ground := Ground.phase }, { on := 5, ground := Ground.phase }, { on := 6, ground := Ground.phase }, { on := 7, ground := Ground.phase }, { on := 8, ground := Ground.phase }, { on := 9, ground := Ground.phase }, { on := 10, ground := Ground.phase }, { on := 11, ground := Ground.phase }, { on := 12, ground := Ground.phase }, { on := 13, ground := Ground.phase }, { on := 14, ground := Ground.phase }, { on := 15, ground := Ground.phase }, { on := 16, ground := Ground.phase }, { on := 17, ground := Ground.phase }], guard := none }) rfl (fun K hK => ?_) AllReadyH.nil)
  (rw [if_pos (by rfl)]; go_wp2_with (fail))
  refine hK.out _ _ (by (repeat (with_reducible first | assumption | exact AgreeF.refl _ | apply AgreeF.al | apply AgreeF.dr | apply AgreeF.st))) (fun hHeld => ?_)
  clear hK K
  try simp only [Act.put, List.setIfInBounds_toArray, List.set_cons_zero, List.set_cons_succ]
  refine wpAnyH_done (by kernel_rfl) ?_ _
  refine NoPanic.normal ?_
  have hnF : ¬ F g := fun hf => by have := hF _ hf; omega
  obtain ⟨wz, hwz⟩ : ∃ z, z = ((((w7.setCell ⟨g, k * 5, none⟩ (.int .i64 ST.page)).setCell ⟨g, k * 5 + 1, none⟩ (.bool ST.isLeaf)).setCell ⟨g, k * 5 + 2, none⟩ (.slice u1 (cntT ST) u2)).setCell ⟨g, k * 5 + 3, none⟩ (.slice u3 u4 u5)).setCell ⟨g, k * 5 + 4, none⟩ (.slice u6 u7 u8) := ⟨_, rfl⟩
  have hagz : AgreeF (fun x => x ≠ g) w7 wz := by rw [hwz]; exact (((((AgreeF.refl w7).st).st).st).st).st
  have HOW : Hid (wz.ownsRow W0.heap.size 33 5 (.slice (some ⟨g, 0, none⟩) cn c6) cn (flatC (C.set k ⟨[.int .i64 ST.page, .bool ST.isLeaf, .slice u1 (cntT ST) u2, .slice u3 u4 u5, .slice u6 u7 u8], rfl, HN7.out.one⟩))) := Lib.hid (by
    rw [hwz]
    exact own_setk HO7.out hCl hkm _ rfl)
  have HNZ := Lib.hid (HN7.out.agree (hagz.sub fun b hb => by
    rcases hb with hb | hb
    · intro e; subst e; exact hnF hb
    · intro e; subst e; simp at hb; omega))
  have HXZ : Hid (Boxes wz _) := Lib.hid ((HX6.out.step (show Below w6.heap.size w6 w7 from (Below.dr (Below.refl _ _)).trans HB7.out)).agree hagz (by
    intro x hx
    simp at hx
    rcases hx with rfl | rfl | rfl <;> simp <;> omega))
  have hbwz : Below w.heap.size w wz := by
    rw [hwz]
    exact (((((below_via HB6.out (show Below w6.heap.size w6 w7 from (Below.dr (Below.refl _ _)).trans HB7.out)).setCell (p := ⟨g, k * 5, none⟩) (by show w.heap.size ≤ g; omega) _).setCell (p := ⟨g, k * 5 + 1, none⟩) (by show w.heap.size ≤ g; omega) _).setCell (p := ⟨g, k * 5 + 2, none⟩) (by show w.heap.size ≤ g; omega) _).setCell (p := ⟨g, k * 5 + 3, none⟩) (by show w.heap.size ≤ g; omega) _).setCell (p := ⟨g, k * 5 + 4, none⟩) (by show w.heap.size ≤ g; omega) _
  have HBWZ := Lib.hid hbwz
  rw [← hwz]
  have hlz : w.heap.size + 1 + 1 < wz.heap.size := by have := HXZ.out.lt 0 rfl; exact this
  clear hwz xc0 xc1 xc2 xc3 xc4 xf0 xf1 xf2 xf3 xf4 hA7 hHeld n4 s0 s1 s2 s3 e0 e1 e2 e3 e4 hagz hbwz hA00 HO7
  have hNZ9 : NodeOn (fun b => F b ∨ W0.heap.size ≤ b) (n + 1) wz [.int .i64 p, .bool false, .slice ka cn kc, .slice va 0 vc, .slice (some ⟨g, 0, none⟩) cn c6] T9 := by
    rw [← HT9.out, HST.out]
    obtain ⟨_, _, e9, hr9⟩ := Raw.of_own HOW.out (Eq.trans List.length_set hCl)
    cases e9
    have hk9 := set_keys hkl ST
    have hagw : AgreeF F w wz := AgreeF.of_below HBWZ.out
    refine NodeOn.shut (t := .node p (l.set k (keyAt l k, ST))) (V := []) rfl rfl (K := (Tr.node p l).keys.map kCell) (by show (keysOf (l.set k (keyAt l k, ST))).map kCell = (keysOf l).map kCell; rw [hk9]) (TabR.agree H1.out HF1.out hagw (fun _ _ _ h => h)) (TabR.agree H2.out (Fa.zero F _) hagw (fun _ _ _ h => h)) hr9 (HF1.out.mono (fun _ h => .inl h)) (Fa.zero _ _) (.inr fun b off e => by cases e; exact .inr (by omega)) ⟨tells_keys _, rfl, ?_⟩
    rw [List.map_set]
    exact (H4.out.2.2.mono (fun _ _ _ h => (NodeOn.agree h hagw).mono (fun _ hb => .inl hb))).set k (HNZ.out.mono (fun b hb => by
      rcases hb with hb | hb
      · exact .inl hb
      · exact .inr (by simp at hb; omega)))
  have HN9 := Lib.hid hNZ9
  have nz4 := HXZ.out.cell 2 4 rfl rfl
  have nzf := HXZ.out.frozen 2 4 rfl
  clear hNZ9 HNZ HOW HN7
  go_upto_region 9 with (fail)
  obtain ⟨wq, hwq⟩ : ∃ z, z = wz.setCell ⟨w.heap.size, 4, none⟩ (.slice (some ⟨g, 0, none⟩) cn c6) := ⟨_, rfl⟩
  rw [← hwq]
  have hxn : Boxes wq [(w.heap.size, [.int .i64 p, .bool false, .slice ka cn kc, .slice va 0 vc, .slice (some ⟨g, 0, none⟩) cn c6])] := by
    rw [hwq]; exact (HXZ.out.sub (m := [(w.heap.size, [.int .i64 p, .bool false, .slice ka cn kc, .slice va 0 vc, .slice (some ⟨bc, oc, none⟩) cn cc])]) (by simp)).put 4 _ (by simp)
  have hxr : Boxes wq [(w.heap.size + 1 + 1, [.int .i64 0, .bool false, .slice none 0 0, .slice none 0 0, .slice none 0 0])] := by
    rw [hwq]; exact (HXZ.out.sub (m := [(w.heap.size + 1 + 1, [.int .i64 0, .bool false, .slice none 0 0, .slice none 0 0, .slice none 0 0])]) (by simp)).set _ _ (by intro q hq; simp at hq; subst hq; show w.heap.size + 1 + 1 ≠ w.heap.size; omega)
  have hbq : Below w.heap.size w wq := by rw [hwq]; exact HBWZ.out.setCell (by show w.heap.size ≤ w.heap.size; omega) _
  have hnq : NodeOn (fun b => F b ∨ W0.heap.size ≤ b) (n + 1) wq [.int .i64 p, .bool false, .slice ka cn kc, .slice va 0 vc, .slice (some ⟨g, 0, none⟩) cn c6] T9 := by
    rw [hwq]
    exact HN9.out.agree (AgreeF.set (AgreeF.refl wz) (.inl fun hf => by
      rcases hf with hf | hf
      · have := hF _ hf; simp at this
      · simp at hf; omega))
  have o0 := hxn.cell 0 0 rfl rfl
  have o1 := hxn.cell 0 1 rfl rfl
  have o2 := hxn.cell 0 2 rfl rfl
  have o3 := hxn.cell 0 3 rfl rfl
  have o4 := hxn.cell 0 4 rfl rfl
  have u0f := hxr.frozen 0 0 rfl
  have u1f := hxr.frozen 0 1 rfl
  have u2f := hxr.frozen 0 2 rfl
  have u3f := hxr.frozen 0 3 rfl
  have u4f := hxr.frozen 0 4 rfl
  have z0 := hxr.cell 0 0 rfl rfl
  have z1 := hxr.cell 0 1 rfl rfl
  have z2 := hxr.cell 0 2 rfl rfl
  have z3 := hxr.cell 0 3 rfl rfl
  have z4 := hxr.cell 0 4 rfl rfl
  obtain ⟨hxe, hne9⟩ := sp_end (F := F) (G := fun b => F b ∨ W0.heap.size ≤ b) (b := w.heap.size + 1 + 1) hbq hxr (by omega) (by simp) (fun hf => by
    rcases hf with hf | hf
    · have := hF _ hf; omega
    · omega) (fun b hb => by
    rcases hb with hb | hb
    · exact .inl hb
    · exact .inr (by omega)) hnq
  have HG := Lib.hid hxe
  have HE := Lib.hid hne9
  clear hwq nz4 nzf hxn hxr hbq hnq hxe hne9
  go_wp2_with fail
  refine bodyPost_ret (v := .agg #[.int .i64 p, .bool false, .slice ka cn kc, .slice va 0 vc, .slice (some ⟨g, 0, none⟩) cn c6]) (by
    have g0 := HG.out.cell 0 0 rfl rfl
    have g1 := HG.out.cell 0 1 rfl rfl
    have g2 := HG.out.cell 0 2 rfl rfl
    have g3 := HG.out.cell 0 3 rfl rfl
    have g4 := HG.out.cell 0 4 rfl rfl
    unfold set5 at g0 g1 g2 g3 g4
    simp only [results, Try.results40]; simp [go_sem, g0, g1, g2, g3, g4]) rfl HE.out
/-- Whatever way is told, the tree is spoiled so. -/
theorem spoil_any {kind : Int} {a : Nat} (ha : a < 256) {key : List UInt8} (hk : key.length ≤ 100) : ∀ {n : Nat} {F : Nat → Prop} {w : World} {cs : List Value} {t : Tr} {wa : Option Addr} {wn wk : Nat} {way : List UInt8}, (∀ b, F b → b < w.heap.size) → NodeOn F n w cs t → Sml n t → Pos n t → Bs w wa wn wk way →
    Calls Try.prog 40 #[.agg cs.toArray, .agg #[.slice wa wn wk, .int .i64 kind, .int .u8 (a : Int), .string (strOf key)]] w (NodeTo F n w (spoilT n way kind a key t))
  | 0, _, _, _, _, _, _, _, _, _, h, _, _, _ => h.elim
  | _n + 1, _, _, _, .leaf _p _l, wa, wn, wk, way, hF, h, hs, _, _ => spoil_leaf hF h hs wa wn wk way kind a ha key hk
  | _n + 1, _, _, _, .node _p _l, wa, wn, wk, [], hF, h, hs, _, hw => by
    have h0 : wn = 0 := by have := Bs.len hw; simpa using this.symm
    subst h0
    exact spoil_here hF h hs wa wk kind a ha key hk
  | _n + 1, _, _, _, .node _p _l, _, _, _, _x :: _way, hF, h, hs, hp, hw => spoil_down ha hk (fun hF h hs hp hw => spoil_any ha hk hF h hs hp hw) hF h hs hp hw
end Go.Proofs.Ytemfnjlfcemehaa
