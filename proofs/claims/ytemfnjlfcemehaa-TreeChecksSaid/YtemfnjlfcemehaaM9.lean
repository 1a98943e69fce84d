/- Texts that other texts of this claim lean on, one behind the other. -/
import Derived.Test.YtemfnjlfcemehaaM7
import Derived.Test.YtemfnjlfcemehaaM8
import Derived.Test.YtemfnjlfcemehaaM6
import Derived.Test.YtemfnjlfcemehaaM2
import Derived.Deep.DeepCutAuto
import Derived.ChangeArms
import Derived.OpenShut
import Derived.Test.YtemfnjlfcemehaaM4
import Derived.Test.YtemfnjlfcemehaaM1
/- The laws of trees: awake; a tree and its box. -/
namespace Go.Proofs.Ytemfnjlfcemehaa
open Go.RowKit

theorem aw_put : putW 1 (.leaf 0 []) [107] ⟨[118], []⟩ = .leaf 0 [([107], ⟨[118], []⟩)] := by
  unfold putW putT topT
  rw [if_pos (by decide)]; rfl
theorem aw_zero (w : World) : NodeOn (fun _ => False) 1 w [.int .i64 0, .bool false, .slice none 0 0, .slice none 0 0, .slice none 0 0] (.node 0 []) :=
  NodeOn.shut (V := []) (C := []) rfl rfl (K := []) rfl (Raw.nil0 _ _) (Raw.nil0 _ _) (Raw.nil0 _ _) (Fa.zero _ _) (Fa.zero _ _) (Fa.zero _ _) ⟨Tells.nil, rfl, Tells.nil⟩
set_option maxRecDepth 100000 in
set_option maxHeartbeats 4000000 in
theorem awake15_any (w : World) : Calls Try.prog 29 #[] w fun e w' => e = .returned (.bool true) ∧ Below w.heap.size w w' := by
  have E := tempty_any w (fun _ => False)
  go_enter Try.func29, Try.ntmps29
  go_wp2_with fail
  refine E.mono ?_
  rintro e w1 ⟨cs, rfl, h1, hb1⟩
  obtain ⟨a1, c1, a2, n2, c2, a3, n3, c3, e1, _, k1⟩ := h1.words
  replace e1 : cs = [.int .i64 0, .bool true, .slice a1 0 c1, .slice a2 n2 c2, .slice a3 n3 c3] := e1
  subst e1
  have hX := (Boxes.nil w1).alloc #[.int .i64 0, .bool true, .slice a1 0 c1, .slice a2 n2 c2, .slice a3 n3 c3] 33 (b := w1.heap.size) rfl
  have hB : Below w1.heap.size w1 (w1.alloc (.cells #[.int .i64 0, .bool true, .slice a1 0 c1, .slice a2 n2 c2, .slice a3 n3 c3] 33)) := Below.al (Below.refl _ _)
  have P := tPut_whole (h1.below hB) whole_empty [107] [118] ⟨by decide, by decide⟩ (by decide)
  have HX := Lib.hid hX
  have HB := Lib.hid (hb1.trans (hB.mono hb1.size))
  have H1 := Lib.hid (h1.below hB)
  have q0 := hX.cell 0 0 rfl rfl
  have q1 := hX.cell 0 1 rfl rfl
  have q2 := hX.cell 0 2 rfl rfl
  have q3 := hX.cell 0 3 rfl rfl
  have q4 := hX.cell 0 4 rfl rfl
  clear E h1 hb1 hX hB
  go_wp2_with fail
  refine P.mono ?_
  rintro e w2 ⟨m, cs, hm, rfl, h2, hw2, _, hb2⟩
  rw [aw_put] at h2 hw2
  obtain ⟨k, rfl⟩ : ∃ k, m = k + 1 := ⟨m - 1, by have := hw2.low; omega⟩
  have hw1 : Whole 1 (.leaf 0 []) := whole_empty
  obtain ⟨b1, d1, b2, m2, d2, b3, m3, d3, e2, _, k2⟩ := h2.words
  replace e2 : cs = [.int .i64 0, .bool true, .slice b1 1 d1, .slice b2 m2 d2, .slice b3 m3 d3] := e2
  subst e2
  have hX2 := ((HX.out.step hb2).alloc #[.int .i64 0, .bool true, .slice b1 1 d1, .slice b2 m2 d2, .slice b3 m3 d3] 33 (b := w2.heap.size) rfl)
  have hB2 : Below w2.heap.size w2 (w2.alloc (.cells #[.int .i64 0, .bool true, .slice b1 1 d1, .slice b2 m2 d2, .slice b3 m3 d3] 33)) := Below.al (Below.refl _ _)
  obtain ⟨wA, hwA⟩ : ∃ x, w2.alloc (.cells #[.int .i64 0, .bool true, .slice b1 1 d1, .slice b2 m2 d2, .slice b3 m3 d3] 33) = x := ⟨_, rfl⟩
  rw [hwA] at hX2 hB2
  have hBA : Below w.heap.size w wA := HB.out.trans ((hb2.trans (hB2.mono hb2.size)).mono HB.out.size)
  have n1 := (h2.below hB2).toIn
  have n0 := (H1.out.below (hb2.trans (hB2.mono hb2.size))).toIn
  have F1 : ∀ W, Below wA.heap.size wA W → Calls Try.prog 28 #[.agg #[.int .i64 0, .bool true, .slice b1 1 d1, .slice b2 m2 d2, .slice b3 m3 d3], .string (strOf [107])] W (FoundPost W (some [118])) := fun W hW => tfind_any (n1.below hW) [107] (hw2.find _)
  have F2 : ∀ W, Below wA.heap.size wA W → Calls Try.prog 28 #[.agg #[.int .i64 0, .bool true, .slice b1 1 d1, .slice b2 m2 d2, .slice b3 m3 d3], .string (strOf [106])] W (FoundPost W none) := fun W hW => tfind_any (n1.below hW) [106] (hw2.find _)
  have C1 : ∀ W, Below wA.heap.size wA W → Calls Try.prog 39 #[.agg #[.int .i64 0, .bool true, .slice b1 1 d1, .slice b2 m2 d2, .slice b3 m3 d3]] W (fun e w' => e = .returned (.bool true) ∧ Below W.heap.size W w') := fun W hW => (tcheck_any (n1.below hW) hw2.bnd (by omega)).mono fun e w' h => by rw [whole_check hw2] at h; exact h
  have C0 : ∀ W, Below wA.heap.size wA W → Calls Try.prog 39 #[.agg #[.int .i64 0, .bool true, .slice a1 0 c1, .slice a2 n2 c2, .slice a3 n3 c3]] W (fun e w' => e = .returned (.bool true) ∧ Below W.heap.size W w') := fun W hW => (tcheck_any (n0.below hW) hw1.bnd (by omega)).mono fun e w' h => by rw [whole_check hw1] at h; exact h
  have CZ : ∀ W, Calls Try.prog 39 #[.agg #[.int .i64 0, .bool false, .slice none 0 0, .slice none 0 0, .slice none 0 0]] W (fun e w' => e = .returned (.bool false) ∧ Below W.heap.size W w') := fun W => tcheck_any (aw_zero W).toIn ⟨by simp, fun c hc => by cases hc⟩ (by omega)
  have S1 : ∀ W, Below wA.heap.size wA W → Calls Try.prog 58 #[.agg #[.int .i64 0, .bool true, .slice b1 1 d1, .slice b2 m2 d2, .slice b3 m3 d3]] W (SizesPost W [5]) := fun W hW => tsizes_any (n1.below hW) hw2.bnd
  have q0 := hX2.cell 1 0 rfl rfl
  have q1 := hX2.cell 1 1 rfl rfl
  have q2 := hX2.cell 1 2 rfl rfl
  have q3 := hX2.cell 1 3 rfl rfl
  have q4 := hX2.cell 1 4 rfl rfl
  have p0 := hX2.cell 0 0 rfl rfl
  have p1 := hX2.cell 0 1 rfl rfl
  have p2 := hX2.cell 0 2 rfl rfl
  have p3 := hX2.cell 0 3 rfl rfl
  have p4 := hX2.cell 0 4 rfl rfl
  have HX2 := Lib.hid hX2
  have HBA := Lib.hid hBA
  have HSZ := Lib.hid (show w1.heap.size < w2.heap.size from by have := hb2.size; simp at this; omega)
  have hA2 : Below wA.heap.size wA wA := Below.refl _ _
  have hst := strOf_toList
  clear P H1 HB HX h2 hb2 hB2 hBA n1 n0 hw2 hw1
  go_wp2_with fail
  refine (F1 _ hA2).mono ?_
  rintro e w3 ⟨rfl, hb3⟩
  have hX3 := hX2.step hb3
  have hA3 := hA2.trans (hb3.mono hA2.size)
  clear p0 p1 p2 p3 p4 q0 q1 q2 q3 q4
  have p0 := hX3.cell 0 0 rfl rfl
  have p1 := hX3.cell 0 1 rfl rfl
  have p2 := hX3.cell 0 2 rfl rfl
  have p3 := hX3.cell 0 3 rfl rfl
  have p4 := hX3.cell 0 4 rfl rfl
  have q0 := hX3.cell 1 0 rfl rfl
  have q1 := hX3.cell 1 1 rfl rfl
  have q2 := hX3.cell 1 2 rfl rfl
  have q3 := hX3.cell 1 3 rfl rfl
  have q4 := hX3.cell 1 4 rfl rfl
  go_wp2_with fail
  refine (F2 _ hA3).mono ?_
  rintro e w4 ⟨rfl, hb4⟩
  have hX4 := hX3.step hb4
  have hA4 := hA3.trans (hb4.mono hA3.size)
  clear p0 p1 p2 p3 p4 q0 q1 q2 q3 q4
  have p0 := hX4.cell 0 0 rfl rfl
  have p1 := hX4.cell 0 1 rfl rfl
  have p2 := hX4.cell 0 2 rfl rfl
  have p3 := hX4.cell 0 3 rfl rfl
  have p4 := hX4.cell 0 4 rfl rfl
  have q0 := hX4.cell 1 0 rfl rfl
  have q1 := hX4.cell 1 1 rfl rfl
  have q2 := hX4.cell 1 2 rfl rfl
  have q3 := hX4.cell 1 3 rfl rfl
  have q4 := hX4.cell 1 4 rfl rfl
  have hd : ((strOf [118]).toList == (strOf [118]).toList) = true := by simp
  go_wp2_with fail
  refine (S1 _ hA4).mono ?_
  rintro e w5 ⟨v5, rfl, ho5, hb5⟩
  obtain ⟨a5, k5, rfl, row5⟩ := Row.of_own ho5
  have hX5 := (hX4.step hb5).alloc #[.int .i64 5] 3 (b := w5.heap.size) rfl
  have hA5 := (hA4.trans (hb5.mono hA4.size)).alloc (Nat.le_trans hA4.size hb5.size) (.cells #[.int .i64 5] 3)
  have r5 := row5.below (Nat.le_refl _) ((Below.refl _ _).alloc (Nat.le_refl _) (.cells #[.int .i64 5] 3))
  have I5 := ints_any r5 (Row.made .i64 w5 3 [5] rfl (by unfold maxLen; simp))
  clear p0 p1 p2 p3 p4 q0 q1 q2 q3 q4
  have p0 := hX5.cell 1 0 rfl rfl
  have p1 := hX5.cell 1 1 rfl rfl
  have p2 := hX5.cell 1 2 rfl rfl
  have p3 := hX5.cell 1 3 rfl rfl
  have p4 := hX5.cell 1 4 rfl rfl
  have q0 := hX5.cell 2 0 rfl rfl
  have q1 := hX5.cell 2 1 rfl rfl
  have q2 := hX5.cell 2 2 rfl rfl
  have q3 := hX5.cell 2 3 rfl rfl
  have q4 := hX5.cell 2 4 rfl rfl
  clear ho5 row5 r5 hb5
  go_wp2_with fail
  refine I5.mono ?_
  rintro e w6 ⟨rfl, j6, rfl⟩
  have hA6 := below_drewN hA5 j6
  have hX6 : Boxes ((w5.alloc (.cells #[.int .i64 5] 3)).drewN j6) _ := hX5
  clear p0 p1 p2 p3 p4 q0 q1 q2 q3 q4
  have p0 := hX6.cell 1 0 rfl rfl
  have p1 := hX6.cell 1 1 rfl rfl
  have p2 := hX6.cell 1 2 rfl rfl
  have p3 := hX6.cell 1 3 rfl rfl
  have p4 := hX6.cell 1 4 rfl rfl
  have q0 := hX6.cell 2 0 rfl rfl
  have q1 := hX6.cell 2 1 rfl rfl
  have q2 := hX6.cell 2 2 rfl rfl
  have q3 := hX6.cell 2 3 rfl rfl
  have q4 := hX6.cell 2 4 rfl rfl
  go_wp2_with fail
  refine (C1 _ hA6).mono ?_
  rintro e w7 ⟨rfl, hb7⟩
  have hX7 := hX6.step hb7
  have hA7 := hA6.trans (hb7.mono hA6.size)
  clear p0 p1 p2 p3 p4 q0 q1 q2 q3 q4
  have p0 := hX7.cell 1 0 rfl rfl
  have p1 := hX7.cell 1 1 rfl rfl
  have p2 := hX7.cell 1 2 rfl rfl
  have p3 := hX7.cell 1 3 rfl rfl
  have p4 := hX7.cell 1 4 rfl rfl
  have q0 := hX7.cell 2 0 rfl rfl
  have q1 := hX7.cell 2 1 rfl rfl
  have q2 := hX7.cell 2 2 rfl rfl
  have q3 := hX7.cell 2 3 rfl rfl
  have q4 := hX7.cell 2 4 rfl rfl
  go_wp2_with fail
  refine (C0 _ hA7).mono ?_
  rintro e w8 ⟨rfl, hb8⟩
  have hA8 := hA7.trans (hb8.mono hA7.size)
  clear p0 p1 p2 p3 p4 q0 q1 q2 q3 q4
  go_wp2_with fail
  refine (CZ _).mono ?_
  rintro e w9 ⟨rfl, hb9⟩
  have HE := Lib.hid (HBA.out.trans ((hA8.trans (hb9.mono hA8.size)).mono HBA.out.size))
  go_wp2_with fail
  go_ret
  exact ⟨rfl, HE.out⟩
end Go.Proofs.Ytemfnjlfcemehaa

/- Words that laws of trees share: boxes and rows in worlds that agree; small puts and steps. -/
namespace Go.Proofs.Ytemfnjlfcemehaa
open Go.RowKit

theorem Boxes.agree {F : Nat → Prop} {w w' : World} {l : List (Nat × List Value)} (h : Boxes w l) (ha : AgreeF F w w') (hl : ∀ p ∈ l, F p.1) : Boxes w' l := fun p hp => by
  obtain ⟨t, ht⟩ := h p hp
  exact ⟨t, (ha.2 p.1 (hl p hp) (Array.getElem?_eq_some_iff.1 ht).1).trans ht⟩
theorem own_agree {w w' : World} {base : Nat} {e : TypeId} {size : Nat} {v : Value} {n : Nat} {xs : List Value} {F : Nat → Prop} (h : w.ownsRow base e size v n xs) (ha : AgreeF F w w') (hF : ∀ g, v.ownBlock = some g → F g) : w'.ownsRow base e size v n xs := by
  refine ⟨h.1, h.2.imp id fun ⟨g, cap, cur, e1, hg, hh, r⟩ => ⟨g, cap, cur, e1, hg, ?_, r⟩⟩
  subst e1
  rw [ha.2 g (hF g rfl) (Array.getElem?_eq_some_iff.1 hh).1]; exact hh
theorem _root_.List.take_succ_eq_append_of {α : Type} {l : List α} {i : Nat} {y : α} (h : l[i]? = some y) : l.take (i + 1) = l.take i ++ [y] := by
  rw [List.take_add_one, h]; rfl
theorem fr_le {F : Nat → Prop} {W w5 : World} {B b : Nat} (hF : ∀ b, F b → B ≤ b) (hB : B ≤ w5.heap.size) (hW : w5.heap.size ≤ W.heap.size) (h : Fr F W b) : B ≤ b := by
  rcases h with h | h
  · exact hF b h
  · omega
theorem fr_not {F : Nat → Prop} {W : World} {b : Nat} (hF : ¬ F b) (hW : b < W.heap.size) : ¬ Fr F W b := fun h => by
  rcases h with h | h
  · exact hF h
  · omega
theorem lt_alloc (w : World) (o : Obj) : w.heap.size < (w.alloc o).heap.size := by rw [World.size_alloc]; omega
theorem le_alloc {B : Nat} {w : World} (h : B ≤ w.heap.size) (o : Obj) : B ≤ (w.alloc o).heap.size := by rw [World.size_alloc]; omega
theorem okP_facts {l : List Pt} (h : smallP l = true) : l.length ≤ 80 ∧ ∀ y ∈ l, keyOk y.key ∧ ∃ n : Nat, y.size = n ∧ n ≤ 400 := by
  unfold smallP at h
  rw [Bool.and_eq_true] at h
  refine ⟨by simpa using h.2, fun y hy => ?_⟩
  have := List.all_eq_true.1 h.1 y hy
  unfold okP at this
  simp at this
  exact ⟨⟨this.1, this.2.1⟩, y.size.toNat, by omega, by omega⟩
theorem okS_facts {l : List St} (h : smallS l = true) : l.length ≤ 120 ∧ ∀ y ∈ l, keyOk y.key ∧ y.size ≤ 400 := by
  unfold smallS at h
  rw [Bool.and_eq_true] at h
  refine ⟨by simpa using h.2, fun y hy => ?_⟩
  have := List.all_eq_true.1 h.1 y hy
  unfold okS at this
  simp at this
  exact ⟨⟨this.1, this.2.1⟩, this.2.2⟩
theorem fillT_len (f : UInt8) (n : Nat) : (fillT f n).length = n := by simp [fillT]
theorem put_some {N M : Nat} {t T : Tr} {key : List UInt8} {v : Tv} (h : entsT M T = putL key v (entsT N t)) {k : Nat} (hk : (entsT N t).length ≤ k) (hs : Srt (entsT N t)) : (entsT M T).length ≤ k + 1 := by
  rw [h, put_length hs]; split <;> omega
/-- Whole trees' entries stand in order. -/
theorem Whole.srt {n : Nat} {t : Tr} (h : Whole n t) : Srt (entsT n t) := (whole_ents h).1
end Go.Proofs.Ytemfnjlfcemehaa

/- The walks of the laws: a tree as the document has it. -/
namespace Go.Proofs.Ytemfnjlfcemehaa
open Go.RowKit

theorem info_Cc : RowInfo Try.prog 48 4 80 := row_info (by kernel_rfl)
/-- Where a cell lies that was made. -/
def PlCell (F : Nat → Prop) (n B : Nat) (wr : World) (v : Value) (y : Rc) (s : Value) (wx : World) : Prop := ∃ q pa pn pc xa xn xc, s = .pointer (some ⟨q, 0, none⟩) ∧ Boxes wx [(q, [.string (strOf y.key), .string (strOf y.val.data), .slice pa pn pc, .slice xa xn xc])] ∧ wr.heap.size ≤ q ∧ Below wr.heap.size wr wx ∧ RcOn (Gp F B v) n wx [.string (strOf y.key), .string (strOf y.val.data), .slice pa pn pc, .slice xa xn xc] y
set_option maxRecDepth 100000 in
set_option maxHeartbeats 3000000 in
theorem plain15_leaf {n : Nat} {F : Nat → Prop} {w : World} {cs : List Value} {p : Int} {l : List (List UInt8 × Tv)} (hF : ∀ b, F b → b < w.heap.size) (h : NodeOn F (n + 1) w cs (.leaf p l)) (hm : l.length ≤ 1000) :
    Calls Try.prog 37 #[.agg cs.toArray] w (RNodeTo F (n + 1) w (.leaf p l)) := by
  obtain ⟨ka, kn, kc, va, vn, vc, ca, cc, rfl, h1, f1, h2, f2, h3⟩ := h
  obtain ⟨e1, e2, e3⟩ := h1.lens
  obtain ⟨e4, e5, e6⟩ := h2.lens
  have hkl : (keysOf l).length = l.length := by simp [keysOf]
  obtain rfl : kn = vn := by rw [List.length_map] at e4; omega
  have hcl : (cellsR (.leaf p l)).length = kn := by rw [cellsR_len]; show l.length = kn; omega
  have hkn : kn ≤ 1000 := by omega
  have HH1 := Lib.hid h1
  have HV := Lib.hid h2
  have hB0 : Below w.heap.size w (((w.alloc (.cells #[.int .i64 p, .bool true, .slice ka kn kc, .slice va kn vc, .slice ca 0 cc] 33)).alloc (.cells #[.int .i64 0, .bool false, .slice none 0 0] 26)).alloc (.cells #[.int .i64 p, .bool true, .slice none 0 0] 26)) := Below.al (Below.al (Below.al (Below.refl _ _)))
  have HX0 : Hid (Boxes _ [(w.heap.size + 1 + 1, [.int .i64 p, .bool true, .slice none 0 0]), (w.heap.size + 1, [.int .i64 0, .bool false, .slice none 0 0]), (w.heap.size, [.int .i64 p, .bool true, .slice ka kn kc, .slice va kn vc, .slice ca 0 cc])]) := Lib.hid ((((Boxes.nil w).alloc #[.int .i64 p, .bool true, .slice ka kn kc, .slice va kn vc, .slice ca 0 cc] 33 (b := w.heap.size) rfl).alloc #[.int .i64 0, .bool false, .slice none 0 0] 26 (b := w.heap.size + 1) (by simp)).alloc #[.int .i64 p, .bool true, .slice none 0 0] 26 (b := w.heap.size + 1 + 1) (by simp))
  have HB0 := Lib.hid hB0
  have HCL := Lib.hid hcl
  clear h1 f1 h2 h3 hB0 e1 e4 hcl hkl e5 e6
  go_enter Try.func37, Try.ntmps37
  go_wp2_with fail
  go_loopw [4, 5] (fun s4 _ wr => ∃ (i : Nat) (v : Value), i ≤ kn ∧ s4 = .int .i64 i ∧ Boxes wr [(w.heap.size + 1 + 1, [.int .i64 p, .bool true, v]), (w.heap.size + 1, [.int .i64 0, .bool false, .slice none 0 0]), (w.heap.size, [.int .i64 p, .bool true, .slice ka kn kc, .slice va kn vc, .slice ca 0 cc])] ∧ CellsOwn 48 F n (w.heap.size + 3) wr v ((cellsR (.leaf p l)).take i) ∧ Below w.heap.size w wr) (fun s _ _ => kn - (intOf s).toNat)
  case atStart => exact ⟨0, _, Nat.zero_le _, rfl, HX0.out, CellsOwn.nil _ _ _ _ _, HB0.out⟩
  case round =>
    obtain ⟨i, v, hi, rfl, hx, hc, hb⟩ := hrel
    clear HX0 HB0
    have hx0 := hx.lt 2 rfl
    have hx1 := hx.lt 1 rfl
    have hx2 := hx.lt 0 rfl
    have n0 := hx.cell 2 0 rfl rfl
    have n1 := hx.cell 2 1 rfl rfl
    have n2 := hx.cell 2 2 rfl rfl
    have n3 := hx.cell 2 3 rfl rfl
    have n4 := hx.cell 2 4 rfl rfl
    have o0 := hx.cell 0 0 rfl rfl
    have o1 := hx.cell 0 1 rfl rfl
    have o2 := hx.cell 0 2 rfl rfl
    have u2 := hx.frozen 0 2 rfl
    by_cases hlt : i < kn
    · obtain ⟨bk, ok, rfl, hbk9, hck⟩ := HH1.out.at hlt
      have k0 := (hb.cell (p := ⟨bk, ok + i, none⟩) hbk9).trans hck
      obtain ⟨k, hk⟩ : ∃ k, (keysOf l)[i]?.getD [] = k := ⟨_, rfl⟩
      rw [hk] at k0
      have HK := Lib.hid hk
      have HX := Lib.hid hx
      have HC := Lib.hid hc
      have HB := Lib.hid hb
      have hbk8 := Nat.lt_of_lt_of_le hbk9 hb.size
      have hsl := hc.sl
      rw [show ((cellsR (.leaf p l)).take i).length = i by rw [List.length_take, HCL.out]; omega] at hsl
      obtain ⟨va0, vc0, rfl, hvc0, hvm0, _, _⟩ := hsl
      clear hk hck hx hc
      obtain ⟨bv, ov, tv, tcs, rfl, hbv, hyv, _, ⟨pa, pn, pc, rfl, hrow, hfa⟩, hcv⟩ := TabR.at HV.out hlt
      have v0 := (hb.cell (p := ⟨bv, ov + i * 2, none⟩) hbv).trans (hcv 0 _ rfl)
      have v1 := (hb.cell (p := ⟨bv, ov + i * 2 + 1, none⟩) hbv).trans (hcv 1 _ rfl)
      have hbv8 := Nat.lt_of_lt_of_le hbv hb.size
      have HYV := Lib.hid hyv
      have HROW := Lib.hid hrow
      have HFA := Lib.hid hfa
      clear hyv hrow hfa hcv
      obtain ⟨wx, hwx⟩ : ∃ wx, (wr.alloc (.cells #[.string (strOf k), .string (strOf tv.data), .slice pa pn pc, .slice none 0 0] 48)).drew = wx := ⟨_, rfl⟩
      have hwb : Below wr.heap.size wr wx := by rw [← hwx]; exact Below.dr (Below.al (Below.refl _ _))
      have hxq : Boxes wx [(wr.heap.size, [.string (strOf k), .string (strOf tv.data), .slice pa pn pc, .slice none 0 0])] := by rw [← hwx]; exact ((Boxes.nil wr).alloc #[.string (strOf k), .string (strOf tv.data), .slice pa pn pc, .slice none 0 0] 48 rfl).drew
      have hy : RcOn (Gp F (w.heap.size + 3) (.slice va0 i vc0)) n wx [.string (strOf k), .string (strOf tv.data), .slice pa pn pc, .slice none 0 0] ⟨k, tv, none⟩ := ⟨pa, pn, pc, none, 0, 0, rfl, (HROW.out.below (Nat.le_refl _) hb).below (Nat.le_refl _) hwb, HFA.out.mono (fun b hf => ⟨.inl hf, fun e => by have := HC.out.block e; have := hF b hf; omega⟩), TabR.nil _, Fa.zero _ _⟩
      have hyi : (cellsR (.leaf p l))[i]? = some ⟨k, tv, none⟩ := by
        rw [cellsR_leaf]
        have := HYV.out
        rw [List.getElem?_map] at this
        obtain ⟨c, hc1, hc2⟩ := Option.map_eq_some_iff.1 this
        have hk := HK.out
        rw [hc1, ← hk, ← hc2]
        simp [keysOf, hc1]
      obtain ⟨v', w8, hr8, hc8, hg8⟩ := CellsOwn.append (P := Try.prog) (t := 24) Try.underlying24 info_Cc (HC.out.below hwb) (by have := hwb.size; omega) (fun b hf => by have := hF b hf; omega) (by rw [List.length_take]; omega) hy
      rw [← List.take_succ_eq_append_of hyi] at hc8
      have hlen : ((cellsR (.leaf p l)).take (i + 1)).length = i + 1 := by rw [List.length_take, HCL.out]; omega
      have hsl8 := hc8.sl
      rw [hlen] at hsl8
      obtain ⟨va8, vc8, rfl, hvc8, hvm8, _, _⟩ := hsl8
      have hge : ∀ b, (Value.slice va0 i vc0).ownBlock = some b → w.heap.size + 3 ≤ b := fun b hb => (HC.out.block hb).1
      have hx8 := (HX.out.step hwb).grown hg8 (by intro p hp e; simp at hp; have := hge _ e; rcases hp with rfl | rfl | rfl <;> simp at this <;> omega)
      have hb8 := (hb.trans (hwb.mono hb.size)).grown hg8 (Nat.le_trans hb.size hwb.size) (fun k hk => by have := hge k hk; omega)
      have HX8 := Lib.hid hx8
      have HB8 := Lib.hid hb8
      have HC8 := Lib.hid hc8
      have r2 := hx8.cell 0 2 rfl rfl
      have ru := hx8.frozen 0 2 rfl
      have z0 := hxq.cell 0 0 rfl rfl
      have z1 := hxq.cell 0 1 rfl rfl
      have z2 := hxq.cell 0 2 rfl rfl
      have z3 := hxq.cell 0 3 rfl rfl
      have y2 := (HX.out.step hwb).cell 0 2 rfl rfl
      have y4 := (HX.out.step hwb).cell 2 4 rfl rfl
      clear hx8 hb8 hc8 hg8 hxq hy hyi hge hlen

      clear n0 n1 o0 o1
      go_wp2_with fail
      go_region
      go_upto_region 10 with (fail)
      try rw [hwx]
      clear hwx
      go_wp2_with (at_builtin; refine wpList_append_run rfl _ _ _ _ rfl rfl rfl hr8 ?_)
      go_roundw
      case rel => exact ⟨i + 1, _, hlt, by go_num, HX8.out.put 2 _ (by intro p hp; simp at hp; rcases hp with rfl | rfl <;> simp <;> omega), HC8.out.set _ (by simp) (fun hf => by have := hF _ hf; simp at this; omega), HB8.out.setCell (by show w.heap.size ≤ w.heap.size + 1 + 1; omega) _⟩
      case measure => simp [intOf]; omega
    · obtain rfl : i = kn := by omega
      have hc9 : CellsOwn 48 F n (w.heap.size + 3) wr v (cellsR (.leaf p l)) := by
        have := hc
        rwa [List.take_of_length_le (by rw [HCL.out]; exact Nat.le_refl _)] at this
      have hsl := hc9.sl
      rw [HCL.out] at hsl
      obtain ⟨va0, vc0, rfl, hvc0, hvm0, _, _⟩ := hsl
      have HC := Lib.hid hc9
      have HB := Lib.hid hb
      have z0 := hx.cell 1 0 rfl rfl
      have z1 := hx.cell 1 1 rfl rfl
      have z2 := hx.cell 1 2 rfl rfl
      have y0 := hx.frozen 1 0 rfl
      have y1 := hx.frozen 1 1 rfl
      have y2 := hx.frozen 1 2 rfl
      have HXE := Lib.hid hx
      clear hc hc9 hx hb
      have hend : RNodeTo F (n + 1) w (.leaf p l) (.returned (.agg #[.int .i64 p, .bool true, .slice va0 i vc0])) (((wr.setCell ⟨w.heap.size + 1, 0, none⟩ (.int .i64 p)).setCell ⟨w.heap.size + 1, 1, none⟩ (.bool true)).setCell ⟨w.heap.size + 1, 2, none⟩ (.slice va0 i vc0)) := by
        have h9 : ∀ j, ¬ F (⟨w.heap.size + 1, j, none⟩ : Addr).block := fun j hf => by have := hF _ hf; simp at this; omega
        have h8 : ∀ j, (⟨w.heap.size + 1, j, none⟩ : Addr).block < w.heap.size + 3 := fun j => by show w.heap.size + 1 < _; omega
        have h7 : ∀ j, w.heap.size ≤ (⟨w.heap.size + 1, j, none⟩ : Addr).block := fun j => by show _ ≤ w.heap.size + 1; omega
        exact ⟨[.int .i64 p, .bool true, .slice va0 i vc0], rfl, (((HC.out.set _ (h8 0) (h9 0)).set _ (h8 1) (h9 1)).set _ (h8 2) (h9 2)).node (by omega), ((HB.out.setCell (h7 0) _).setCell (h7 1) _).setCell (h7 2) _⟩
      have hxw := (((HXE.out.sub (m := [(w.heap.size + 1, [.int .i64 0, .bool false, .slice none 0 0])]) (by simp)).put 0 (.int .i64 p) (by simp)).put 1 (.bool true) (by simp)).put 2 (.slice va0 i vc0) (by simp)
      have g0 := hxw.cell 0 0 rfl rfl
      have g1 := hxw.cell 0 1 rfl rfl
      have g2 := hxw.cell 0 2 rfl rfl
      have HG := Lib.hid (And.intro g0 (And.intro g1 g2))
      clear g0 g1 g2 hxw
      have HE := Lib.hid hend
      clear hend
      go_wp2_with fail
      refine bodyPost_ret (v := .agg #[.int .i64 p, .bool true, .slice va0 i vc0]) (by obtain ⟨g0, g1, g2⟩ := HG.out; simp only [results, Try.results37]; simp [go_sem, g0, g1, g2]) rfl ?_
      exact HE.out
set_option maxRecDepth 100000 in
set_option maxHeartbeats 3000000 in
theorem plain15_node {n : Nat} (IH : ∀ {F : Nat → Prop} {w : World} {cs : List Value} {t : Tr}, (∀ b, F b → b < w.heap.size) → NodeOn F n w cs t → Bnd n t → Calls Try.prog 37 #[.agg cs.toArray] w (RNodeTo F n w t)) {F : Nat → Prop} {w : World} {cs : List Value} {p : Int} {l : List (List UInt8 × Tr)} (hF : ∀ b, F b → b < w.heap.size) (h : NodeOn F (n + 1) w cs (.node p l)) (hm : l.length ≤ 1000) (hbk : ∀ c ∈ l, Bnd n c.2) :
    Calls Try.prog 37 #[.agg cs.toArray] w (RNodeTo F (n + 1) w (.node p l)) := by
  obtain ⟨ka, kn, kc, va, vc, ca, cn, cc, rfl, h1, f1, h2, h3, f3⟩ := h
  obtain ⟨e1, e2, e3⟩ := h1.lens
  obtain ⟨e4, e5, e6⟩ := h3.lens
  have hkl : (keysOf l).length = l.length := by simp [keysOf]
  obtain rfl : kn = cn := by rw [List.length_map] at e4; omega
  have hcl : (cellsR (.node p l)).length = kn := by rw [cellsR_len]; show l.length = kn; omega
  have hkn : kn ≤ 1000 := by omega
  have HH1 := Lib.hid h1
  have HV := Lib.hid h3
  have hB0 : Below w.heap.size w (((w.alloc (.cells #[.int .i64 p, .bool false, .slice ka kn kc, .slice va 0 vc, .slice ca kn cc] 33)).alloc (.cells #[.int .i64 0, .bool false, .slice none 0 0] 26)).alloc (.cells #[.int .i64 p, .bool false, .slice none 0 0] 26)) := Below.al (Below.al (Below.al (Below.refl _ _)))
  have HX0 : Hid (Boxes _ [(w.heap.size + 1 + 1, [.int .i64 p, .bool false, .slice none 0 0]), (w.heap.size + 1, [.int .i64 0, .bool false, .slice none 0 0]), (w.heap.size, [.int .i64 p, .bool false, .slice ka kn kc, .slice va 0 vc, .slice ca kn cc])]) := Lib.hid ((((Boxes.nil w).alloc #[.int .i64 p, .bool false, .slice ka kn kc, .slice va 0 vc, .slice ca kn cc] 33 (b := w.heap.size) rfl).alloc #[.int .i64 0, .bool false, .slice none 0 0] 26 (b := w.heap.size + 1) (by simp)).alloc #[.int .i64 p, .bool false, .slice none 0 0] 26 (b := w.heap.size + 1 + 1) (by simp))
  have HB0 := Lib.hid hB0
  have HCL := Lib.hid hcl
  clear h1 f1 h2 h3 hB0 e1 e4 hcl hkl
  go_enter Try.func37, Try.ntmps37
  go_wp2_with fail
  go_loopw [4, 5] (fun s4 _ wr => ∃ (i : Nat) (v : Value), i ≤ kn ∧ s4 = .int .i64 i ∧ Boxes wr [(w.heap.size + 1 + 1, [.int .i64 p, .bool false, v]), (w.heap.size + 1, [.int .i64 0, .bool false, .slice none 0 0]), (w.heap.size, [.int .i64 p, .bool false, .slice ka kn kc, .slice va 0 vc, .slice ca kn cc])] ∧ CellsOwn 48 F n (w.heap.size + 3) wr v ((cellsR (.node p l)).take i) ∧ Below w.heap.size w wr) (fun s _ _ => kn - (intOf s).toNat)
  case atStart => exact ⟨0, _, Nat.zero_le _, rfl, HX0.out, CellsOwn.nil _ _ _ _ _, HB0.out⟩
  case round =>
    obtain ⟨i, v, hi, rfl, hx, hc, hb⟩ := hrel
    clear HX0 HB0
    have hx0 := hx.lt 2 rfl
    have hx1 := hx.lt 1 rfl
    have hx2 := hx.lt 0 rfl
    have n0 := hx.cell 2 0 rfl rfl
    have n1 := hx.cell 2 1 rfl rfl
    have n2 := hx.cell 2 2 rfl rfl
    have n3 := hx.cell 2 3 rfl rfl
    have n4 := hx.cell 2 4 rfl rfl
    have o0 := hx.cell 0 0 rfl rfl
    have o1 := hx.cell 0 1 rfl rfl
    have o2 := hx.cell 0 2 rfl rfl
    have u2 := hx.frozen 0 2 rfl
    by_cases hlt : i < kn
    · obtain ⟨bk, ok, rfl, hbk9, hck⟩ := HH1.out.at hlt
      have k0 := (hb.cell (p := ⟨bk, ok + i, none⟩) hbk9).trans hck
      obtain ⟨k, hk⟩ : ∃ k, (keysOf l)[i]?.getD [] = k := ⟨_, rfl⟩
      rw [hk] at k0
      have HK := Lib.hid hk
      have HX := Lib.hid hx
      have HC := Lib.hid hc
      have HB := Lib.hid hb
      have hbk8 := Nat.lt_of_lt_of_le hbk9 hb.size
      have hsl := hc.sl
      rw [show ((cellsR (.node p l)).take i).length = i by rw [List.length_take, HCL.out]; omega] at hsl
      obtain ⟨va0, vc0, rfl, hvc0, hvm0, _, _⟩ := hsl
      clear hk hck hx hc
      obtain ⟨bv, ov, kid, kcs, rfl, hbv, hyv, _, hkid, hcv⟩ := TabR.at HV.out hlt
      have hkid9 := hkid
      cases n with
      | zero => exact hkid.elim
      | succ n =>
      obtain ⟨y1, y2, y3, y4, y5, y6, y7, y8, _, _, ey, _⟩ := hkid.open
      subst ey
      have v0 := (hb.cell (p := ⟨bv, ov + i * 5, none⟩) hbv).trans (hcv 0 _ rfl)
      have v1 := (hb.cell (p := ⟨bv, ov + i * 5 + 1, none⟩) hbv).trans (hcv 1 _ rfl)
      have v2 := (hb.cell (p := ⟨bv, ov + i * 5 + 2, none⟩) hbv).trans (hcv 2 _ rfl)
      have v3 := (hb.cell (p := ⟨bv, ov + i * 5 + 3, none⟩) hbv).trans (hcv 3 _ rfl)
      have v4 := (hb.cell (p := ⟨bv, ov + i * 5 + 4, none⟩) hbv).trans (hcv 4 _ rfl)
      have hbv8 := Nat.lt_of_lt_of_le hbv hb.size
      obtain ⟨c, hc1, hc2⟩ : ∃ c, l[i]? = some c ∧ c.2 = kid := by
        rw [List.getElem?_map] at hyv
        exact Option.map_eq_some_iff.1 hyv
      have hyi : (cellsR (.node p l))[i]? = some ⟨k, ⟨[], []⟩, some kid⟩ := by
        rw [cellsR_node, hc1, ← hc2, ← HK.out]
        simp [keysOf, hc1]
      have hal : Below wr.heap.size wr (wr.alloc (.cells #[.string (strOf k), .string ⟨#[]⟩, .slice none 0 0, .slice none 0 0] 48)) := Below.al (Below.refl _ _)
      have CK := IH (F := F) (w := wr.alloc (.cells #[.string (strOf k), .string ⟨#[]⟩, .slice none 0 0, .slice none 0 0] 48)) (fun b hf => by have := hF b hf; simp; omega) ((hkid.below hb).below hal) (by rw [← hc2]; exact hbk c (List.mem_of_getElem? hc1))
      have HYI := Lib.hid hyi
      clear hyv hcv hkid hkid9 hc1 hc2 hyi
      go_wp2_with fail
      refine CK.mono ?_
      rintro e w2 ⟨cs2, rfl, hkn, hb2⟩
      obtain ⟨a3, c3, ecs, _, _⟩ := hkn.at
      subst ecs
      have hxq0 := ((Boxes.nil wr).alloc #[.string (strOf k), .string ⟨#[]⟩, .slice none 0 0, .slice none 0 0] 48 rfl).step hb2
      have hxq1 : Boxes (w2.alloc (.cells #[.int .i64 kid.page, .bool kid.isLeaf, .slice a3 (cntT kid) c3] 26)) _ := Boxes.al hxq0
      have q3 := hxq1.cell 0 3 rfl rfl
      have q3' := hxq1.frozen 0 3 rfl
      clear hxq1
      obtain ⟨wx, hwx⟩ : ∃ wx, (w2.alloc (.cells #[.int .i64 kid.page, .bool kid.isLeaf, .slice a3 (cntT kid) c3] 26)).setCell ⟨wr.heap.size, 3, none⟩ (.slice (some ⟨w2.heap.size, 0, none⟩) 1 1) = wx := ⟨_, rfl⟩
      have hz2 : wr.heap.size + 1 ≤ w2.heap.size := by have := hb2.size; simpa using this
      have hwb2 : Below wr.heap.size wr w2 := hal.trans (hb2.mono hal.size)
      have hwb : Below wr.heap.size wr wx := by rw [← hwx]; exact Below.st (Below.al hwb2) (Nat.le_refl _)
      have hxq : Boxes wx [(wr.heap.size, [.string (strOf k), .string ⟨#[]⟩, .slice none 0 0, .slice (some ⟨w2.heap.size, 0, none⟩) 1 1])] := by rw [← hwx]; exact (Boxes.al hxq0).put 3 _ (by simp)
      have hxk : Boxes wx [(w2.heap.size, [.int .i64 kid.page, .bool kid.isLeaf, .slice a3 (cntT kid) c3])] := by rw [← hwx]; exact Boxes.st ((Boxes.nil w2).alloc #[.int .i64 kid.page, .bool kid.isLeaf, .slice a3 (cntT kid) c3] 26 rfl) (by intro p hp; simp at hp; subst hp; simp; omega)
      have hagr : AgreeF (Fr F (wr.alloc (.cells #[.string (strOf k), .string ⟨#[]⟩, .slice none 0 0, .slice none 0 0] 48))) w2 wx := by
        rw [← hwx]
        refine AgreeF.set (AgreeF.of_below (Below.al (Below.refl _ _))) (.inl fun hf => ?_)
        rcases hf with hf | hf
        · have := hF _ hf; simp at this; have := hb.size; omega
        · simp at hf; omega
      have hge0 : ∀ b, (Value.slice va0 i vc0).ownBlock = some b → w.heap.size + 3 ≤ b ∧ b < wr.heap.size := fun b hb => HC.out.block hb
      have hkx : RNodeOn (Gp F (w.heap.size + 3) (.slice va0 i vc0)) (n + 1) wx [.int .i64 kid.page, .bool kid.isLeaf, .slice a3 (cntT kid) c3] kid := (hkn.agree hagr).mono (fun b hf => by
        rcases hf with hf | hf
        · exact ⟨.inl hf, fun e => by have := (hge0 b e).1; have := hF b hf; omega⟩
        · simp at hf
          exact ⟨.inr (by omega), fun e => by have := (hge0 b e).2; omega⟩)
      have hy : RcOn (Gp F (w.heap.size + 3) (.slice va0 i vc0)) (n + 1) wx [.string (strOf k), .string ⟨#[]⟩, .slice none 0 0, .slice (some ⟨w2.heap.size, 0, none⟩) 1 1] ⟨k, ⟨[], []⟩, some kid⟩ := by
        refine ⟨none, 0, 0, some ⟨w2.heap.size, 0, none⟩, 1, 1, rfl, ⟨rfl, Nat.le_refl _, by unfold maxLen; omega, fun _ => rfl, .inl rfl⟩, Fa.zero _ _, ⟨rfl, Nat.le_refl _, by unfold maxLen; omega, fun h => (by cases h), .inr ⟨w2.heap.size, 0, rfl, hxk.lt 0 rfl, fun j y hj => ?_⟩⟩, .inr fun b off e => ?_⟩
        · cases j with
          | succ j => cases hj
          | zero =>
            cases hj
            exact ⟨_, rfl, hkx, fun j v hv => by have := hxk.cell 0 j rfl hv; simpa using this⟩
        · cases e
          exact ⟨.inr (by omega), fun e => by have := (hge0 _ e).2; omega⟩
      have hyi := HYI.out
      clear hkn hagr hkx hge0 hxk hxq0 hwb2 CK hb2
      obtain ⟨v', w8, hr8, hc8, hg8⟩ := CellsOwn.append (P := Try.prog) (t := 24) Try.underlying24 info_Cc (HC.out.below hwb) (by have := hwb.size; omega) (fun b hf => by have := hF b hf; omega) (by rw [List.length_take]; omega) hy
      rw [← List.take_succ_eq_append_of hyi] at hc8
      have hlen : ((cellsR (.node p l)).take (i + 1)).length = i + 1 := by rw [List.length_take, HCL.out]; omega
      have hsl8 := hc8.sl
      rw [hlen] at hsl8
      obtain ⟨va8, vc8, rfl, hvc8, hvm8, _, _⟩ := hsl8
      have hge : ∀ b, (Value.slice va0 i vc0).ownBlock = some b → w.heap.size + 3 ≤ b := fun b hb => (HC.out.block hb).1
      have hx8 := (HX.out.step hwb).grown hg8 (by intro p hp e; simp at hp; have := hge _ e; rcases hp with rfl | rfl | rfl <;> simp at this <;> omega)
      have hb8 := (hb.trans (hwb.mono hb.size)).grown hg8 (Nat.le_trans hb.size hwb.size) (fun k hk => by have := hge k hk; omega)
      have HX8 := Lib.hid hx8
      have HB8 := Lib.hid hb8
      have HC8 := Lib.hid hc8
      have r2 := hx8.cell 0 2 rfl rfl
      have ru := hx8.frozen 0 2 rfl
      have z0 := hxq.cell 0 0 rfl rfl
      have z1 := hxq.cell 0 1 rfl rfl
      have z2 := hxq.cell 0 2 rfl rfl
      have z3 := hxq.cell 0 3 rfl rfl
      have y2 := (HX.out.step hwb).cell 0 2 rfl rfl
      have y4 := (HX.out.step hwb).cell 2 4 rfl rfl
      clear hx8 hb8 hc8 hg8 hxq hy hyi hge hlen
      go_upto_region 10 with (fail)
      try rw [hwx]
      clear hwx
      go_wp2_with (at_builtin; refine wpList_append_run rfl _ _ _ _ rfl rfl rfl hr8 ?_)
      go_roundw
      case rel => exact ⟨i + 1, _, hlt, by go_num, HX8.out.put 2 _ (by intro p hp; simp at hp; rcases hp with rfl | rfl <;> simp <;> omega), HC8.out.set _ (by simp) (fun hf => by have := hF _ hf; simp at this; omega), HB8.out.setCell (by show w.heap.size ≤ w.heap.size + 1 + 1; omega) _⟩
      case measure => simp [intOf]; omega
    · obtain rfl : i = kn := by omega
      have hc9 : CellsOwn 48 F n (w.heap.size + 3) wr v (cellsR (.node p l)) := by
        have := hc
        rwa [List.take_of_length_le (by rw [HCL.out]; exact Nat.le_refl _)] at this
      have hsl := hc9.sl
      rw [HCL.out] at hsl
      obtain ⟨va0, vc0, rfl, hvc0, hvm0, _, _⟩ := hsl
      have HC := Lib.hid hc9
      have HB := Lib.hid hb
      have z0 := hx.cell 1 0 rfl rfl
      have z1 := hx.cell 1 1 rfl rfl
      have z2 := hx.cell 1 2 rfl rfl
      have y0 := hx.frozen 1 0 rfl
      have y1 := hx.frozen 1 1 rfl
      have y2 := hx.frozen 1 2 rfl
      have HXE := Lib.hid hx
      clear hc hc9 hx hb
      have hend : RNodeTo F (n + 1) w (.node p l) (.returned (.agg #[.int .i64 p, .bool false, .slice va0 i vc0])) (((wr.setCell ⟨w.heap.size + 1, 0, none⟩ (.int .i64 p)).setCell ⟨w.heap.size + 1, 1, none⟩ (.bool false)).setCell ⟨w.heap.size + 1, 2, none⟩ (.slice va0 i vc0)) := by
        have h9 : ∀ j, ¬ F (⟨w.heap.size + 1, j, none⟩ : Addr).block := fun j hf => by have := hF _ hf; simp at this; omega
        have h8 : ∀ j, (⟨w.heap.size + 1, j, none⟩ : Addr).block < w.heap.size + 3 := fun j => by show w.heap.size + 1 < _; omega
        have h7 : ∀ j, w.heap.size ≤ (⟨w.heap.size + 1, j, none⟩ : Addr).block := fun j => by show _ ≤ w.heap.size + 1; omega
        exact ⟨[.int .i64 p, .bool false, .slice va0 i vc0], rfl, (((HC.out.set _ (h8 0) (h9 0)).set _ (h8 1) (h9 1)).set _ (h8 2) (h9 2)).node (by omega), ((HB.out.setCell (h7 0) _).setCell (h7 1) _).setCell (h7 2) _⟩
      have hxw := (((HXE.out.sub (m := [(w.heap.size + 1, [.int .i64 0, .bool false, .slice none 0 0])]) (by simp)).put 0 (.int .i64 p) (by simp)).put 1 (.bool false) (by simp)).put 2 (.slice va0 i vc0) (by simp)
      have g0 := hxw.cell 0 0 rfl rfl
      have g1 := hxw.cell 0 1 rfl rfl
      have g2 := hxw.cell 0 2 rfl rfl
      have HG := Lib.hid (And.intro g0 (And.intro g1 g2))
      clear g0 g1 g2 hxw
      have HE := Lib.hid hend
      clear hend
      go_wp2_with fail
      refine bodyPost_ret (v := .agg #[.int .i64 p, .bool false, .slice va0 i vc0]) (by obtain ⟨g0, g1, g2⟩ := HG.out; simp only [results, Try.results37]; simp [go_sem, g0, g1, g2]) rfl ?_
      exact HE.out
theorem plain15_any : ∀ {n : Nat} {F : Nat → Prop} {w : World} {cs : List Value} {t : Tr}, (∀ b, F b → b < w.heap.size) → NodeOn F n w cs t → Bnd n t → Calls Try.prog 37 #[.agg cs.toArray] w (RNodeTo F n w t)
  | 0, _, _, _, _, _, h, _ => h.elim
  | _n + 1, _, _, _, .leaf _p _l, hF, h, hb => plain15_leaf hF h hb.1
  | _n + 1, _, _, _, .node _p _l, hF, h, hb => plain15_node (fun hF h hb => plain15_any hF h hb) hF h hb.1 (fun c hc => (hb.2 c hc).2)
set_option maxRecDepth 100000 in
set_option maxHeartbeats 3000000 in
theorem plain16_leaf {n : Nat} {F : Nat → Prop} {w : World} {cs : List Value} {p : Int} {l : List (List UInt8 × Tv)} (hF : ∀ b, F b → b < w.heap.size) (h : NodeOn F (n + 1) w cs (.leaf p l)) (hm : l.length ≤ 1000) :
    Calls Try.prog 53 #[.agg cs.toArray] w (RNodeTo F (n + 1) w (.leaf p l)) := by
  obtain ⟨ka, kn, kc, va, vn, vc, ca, cc, rfl, h1, f1, h2, f2, h3⟩ := h
  obtain ⟨e1, e2, e3⟩ := h1.lens
  obtain ⟨e4, e5, e6⟩ := h2.lens
  have hkl : (keysOf l).length = l.length := by simp [keysOf]
  obtain rfl : kn = vn := by rw [List.length_map] at e4; omega
  have hcl : (cellsR (.leaf p l)).length = kn := by rw [cellsR_len]; show l.length = kn; omega
  have hkn : kn ≤ 1000 := by omega
  have HH1 := Lib.hid h1
  have HV := Lib.hid h2
  have hB0 : Below w.heap.size w (((w.alloc (.cells #[.int .i64 p, .bool true, .slice ka kn kc, .slice va kn vc, .slice ca 0 cc] 33)).alloc (.cells #[.int .i64 0, .bool false, .slice none 0 0] 26)).alloc (.cells #[.int .i64 p, .bool true, .slice none 0 0] 26)) := Below.al (Below.al (Below.al (Below.refl _ _)))
  have HX0 : Hid (Boxes _ [(w.heap.size + 1 + 1, [.int .i64 p, .bool true, .slice none 0 0]), (w.heap.size + 1, [.int .i64 0, .bool false, .slice none 0 0]), (w.heap.size, [.int .i64 p, .bool true, .slice ka kn kc, .slice va kn vc, .slice ca 0 cc])]) := Lib.hid ((((Boxes.nil w).alloc #[.int .i64 p, .bool true, .slice ka kn kc, .slice va kn vc, .slice ca 0 cc] 33 (b := w.heap.size) rfl).alloc #[.int .i64 0, .bool false, .slice none 0 0] 26 (b := w.heap.size + 1) (by simp)).alloc #[.int .i64 p, .bool true, .slice none 0 0] 26 (b := w.heap.size + 1 + 1) (by simp))
  have HB0 := Lib.hid hB0
  have HCL := Lib.hid hcl
  clear h1 f1 h2 h3 hB0 e1 e4 hcl hkl e5 e6
  go_enter Try.func53, Try.ntmps53
  go_wp2_with fail
  go_loopw [4, 5] (fun s4 _ wr => ∃ (i : Nat) (v : Value), i ≤ kn ∧ s4 = .int .i64 i ∧ Boxes wr [(w.heap.size + 1 + 1, [.int .i64 p, .bool true, v]), (w.heap.size + 1, [.int .i64 0, .bool false, .slice none 0 0]), (w.heap.size, [.int .i64 p, .bool true, .slice ka kn kc, .slice va kn vc, .slice ca 0 cc])] ∧ CellsOwn 48 F n (w.heap.size + 3) wr v ((cellsR (.leaf p l)).take i) ∧ Below w.heap.size w wr) (fun s _ _ => kn - (intOf s).toNat)
  case atStart => exact ⟨0, _, Nat.zero_le _, rfl, HX0.out, CellsOwn.nil _ _ _ _ _, HB0.out⟩
  case round =>
    obtain ⟨i, v, hi, rfl, hx, hc, hb⟩ := hrel
    clear HX0 HB0
    have hx0 := hx.lt 2 rfl
    have hx1 := hx.lt 1 rfl
    have hx2 := hx.lt 0 rfl
    have n0 := hx.cell 2 0 rfl rfl
    have n1 := hx.cell 2 1 rfl rfl
    have n2 := hx.cell 2 2 rfl rfl
    have n3 := hx.cell 2 3 rfl rfl
    have n4 := hx.cell 2 4 rfl rfl
    have o0 := hx.cell 0 0 rfl rfl
    have o1 := hx.cell 0 1 rfl rfl
    have o2 := hx.cell 0 2 rfl rfl
    have u2 := hx.frozen 0 2 rfl
    by_cases hlt : i < kn
    · obtain ⟨bk, ok, rfl, hbk9, hck⟩ := HH1.out.at hlt
      have k0 := (hb.cell (p := ⟨bk, ok + i, none⟩) hbk9).trans hck
      obtain ⟨k, hk⟩ : ∃ k, (keysOf l)[i]?.getD [] = k := ⟨_, rfl⟩
      rw [hk] at k0
      have HK := Lib.hid hk
      have HX := Lib.hid hx
      have HC := Lib.hid hc
      have HB := Lib.hid hb
      have hbk8 := Nat.lt_of_lt_of_le hbk9 hb.size
      have hsl := hc.sl
      rw [show ((cellsR (.leaf p l)).take i).length = i by rw [List.length_take, HCL.out]; omega] at hsl
      obtain ⟨va0, vc0, rfl, hvc0, hvm0, _, _⟩ := hsl
      clear hk hck hx hc
      obtain ⟨bv, ov, tv, tcs, rfl, hbv, hyv, _, ⟨pa, pn, pc, rfl, hrow, hfa⟩, hcv⟩ := TabR.at HV.out hlt
      have v0 := (hb.cell (p := ⟨bv, ov + i * 2, none⟩) hbv).trans (hcv 0 _ rfl)
      have v1 := (hb.cell (p := ⟨bv, ov + i * 2 + 1, none⟩) hbv).trans (hcv 1 _ rfl)
      have hbv8 := Nat.lt_of_lt_of_le hbv hb.size
      have HYV := Lib.hid hyv
      have HROW := Lib.hid hrow
      have HFA := Lib.hid hfa
      clear hyv hrow hfa hcv
      obtain ⟨wx, hwx⟩ : ∃ wx, (wr.alloc (.cells #[.string (strOf k), .string (strOf tv.data), .slice pa pn pc, .slice none 0 0] 48)).drew = wx := ⟨_, rfl⟩
      have hwb : Below wr.heap.size wr wx := by rw [← hwx]; exact Below.dr (Below.al (Below.refl _ _))
      have hxq : Boxes wx [(wr.heap.size, [.string (strOf k), .string (strOf tv.data), .slice pa pn pc, .slice none 0 0])] := by rw [← hwx]; exact ((Boxes.nil wr).alloc #[.string (strOf k), .string (strOf tv.data), .slice pa pn pc, .slice none 0 0] 48 rfl).drew
      have hy : RcOn (Gp F (w.heap.size + 3) (.slice va0 i vc0)) n wx [.string (strOf k), .string (strOf tv.data), .slice pa pn pc, .slice none 0 0] ⟨k, tv, none⟩ := ⟨pa, pn, pc, none, 0, 0, rfl, (HROW.out.below (Nat.le_refl _) hb).below (Nat.le_refl _) hwb, HFA.out.mono (fun b hf => ⟨.inl hf, fun e => by have := HC.out.block e; have := hF b hf; omega⟩), TabR.nil _, Fa.zero _ _⟩
      have hyi : (cellsR (.leaf p l))[i]? = some ⟨k, tv, none⟩ := by
        rw [cellsR_leaf]
        have := HYV.out
        rw [List.getElem?_map] at this
        obtain ⟨c, hc1, hc2⟩ := Option.map_eq_some_iff.1 this
        have hk := HK.out
        rw [hc1, ← hk, ← hc2]
        simp [keysOf, hc1]
      obtain ⟨v', w8, hr8, hc8, hg8⟩ := CellsOwn.append (P := Try.prog) (t := 24) Try.underlying24 info_Cc (HC.out.below hwb) (by have := hwb.size; omega) (fun b hf => by have := hF b hf; omega) (by rw [List.length_take]; omega) hy
      rw [← List.take_succ_eq_append_of hyi] at hc8
      have hlen : ((cellsR (.leaf p l)).take (i + 1)).length = i + 1 := by rw [List.length_take, HCL.out]; omega
      have hsl8 := hc8.sl
      rw [hlen] at hsl8
      obtain ⟨va8, vc8, rfl, hvc8, hvm8, _, _⟩ := hsl8
      have hge : ∀ b, (Value.slice va0 i vc0).ownBlock = some b → w.heap.size + 3 ≤ b := fun b hb => (HC.out.block hb).1
      have hx8 := (HX.out.step hwb).grown hg8 (by intro p hp e; simp at hp; have := hge _ e; rcases hp with rfl | rfl | rfl <;> simp at this <;> omega)
      have hb8 := (hb.trans (hwb.mono hb.size)).grown hg8 (Nat.le_trans hb.size hwb.size) (fun k hk => by have := hge k hk; omega)
      have HX8 := Lib.hid hx8
      have HB8 := Lib.hid hb8
      have HC8 := Lib.hid hc8
      have r2 := hx8.cell 0 2 rfl rfl
      have ru := hx8.frozen 0 2 rfl
      have z0 := hxq.cell 0 0 rfl rfl
      have z1 := hxq.cell 0 1 rfl rfl
      have z2 := hxq.cell 0 2 rfl rfl
      have z3 := hxq.cell 0 3 rfl rfl
      have y2 := (HX.out.step hwb).cell 0 2 rfl rfl
      have y4 := (HX.out.step hwb).cell 2 4 rfl rfl
      clear hx8 hb8 hc8 hg8 hxq hy hyi hge hlen

      clear n0 n1 o0 o1
      go_wp2_with fail
      go_region
      go_upto_region 10 with (fail)
      try rw [hwx]
      clear hwx
      go_wp2_with (at_builtin; refine wpList_append_run rfl _ _ _ _ rfl rfl rfl hr8 ?_)
      go_roundw
      case rel => exact ⟨i + 1, _, hlt, by go_num, HX8.out.put 2 _ (by intro p hp; simp at hp; rcases hp with rfl | rfl <;> simp <;> omega), HC8.out.set _ (by simp) (fun hf => by have := hF _ hf; simp at this; omega), HB8.out.setCell (by show w.heap.size ≤ w.heap.size + 1 + 1; omega) _⟩
      case measure => simp [intOf]; omega
    · obtain rfl : i = kn := by omega
      have hc9 : CellsOwn 48 F n (w.heap.size + 3) wr v (cellsR (.leaf p l)) := by
        have := hc
        rwa [List.take_of_length_le (by rw [HCL.out]; exact Nat.le_refl _)] at this
      have hsl := hc9.sl
      rw [HCL.out] at hsl
      obtain ⟨va0, vc0, rfl, hvc0, hvm0, _, _⟩ := hsl
      have HC := Lib.hid hc9
      have HB := Lib.hid hb
      have z0 := hx.cell 1 0 rfl rfl
      have z1 := hx.cell 1 1 rfl rfl
      have z2 := hx.cell 1 2 rfl rfl
      have y0 := hx.frozen 1 0 rfl
      have y1 := hx.frozen 1 1 rfl
      have y2 := hx.frozen 1 2 rfl
      have HXE := Lib.hid hx
      clear hc hc9 hx hb
      have hend : RNodeTo F (n + 1) w (.leaf p l) (.returned (.agg #[.int .i64 p, .bool true, .slice va0 i vc0])) (((wr.setCell ⟨w.heap.size + 1, 0, none⟩ (.int .i64 p)).setCell ⟨w.heap.size + 1, 1, none⟩ (.bool true)).setCell ⟨w.heap.size + 1, 2, none⟩ (.slice va0 i vc0)) := by
        have h9 : ∀ j, ¬ F (⟨w.heap.size + 1, j, none⟩ : Addr).block := fun j hf => by have := hF _ hf; simp at this; omega
        have h8 : ∀ j, (⟨w.heap.size + 1, j, none⟩ : Addr).block < w.heap.size + 3 := fun j => by show w.heap.size + 1 < _; omega
        have h7 : ∀ j, w.heap.size ≤ (⟨w.heap.size + 1, j, none⟩ : Addr).block := fun j => by show _ ≤ w.heap.size + 1; omega
        exact ⟨[.int .i64 p, .bool true, .slice va0 i vc0], rfl, (((HC.out.set _ (h8 0) (h9 0)).set _ (h8 1) (h9 1)).set _ (h8 2) (h9 2)).node (by omega), ((HB.out.setCell (h7 0) _).setCell (h7 1) _).setCell (h7 2) _⟩
      have hxw := (((HXE.out.sub (m := [(w.heap.size + 1, [.int .i64 0, .bool false, .slice none 0 0])]) (by simp)).put 0 (.int .i64 p) (by simp)).put 1 (.bool true) (by simp)).put 2 (.slice va0 i vc0) (by simp)
      have g0 := hxw.cell 0 0 rfl rfl
      have g1 := hxw.cell 0 1 rfl rfl
      have g2 := hxw.cell 0 2 rfl rfl
      have HG := Lib.hid (And.intro g0 (And.intro g1 g2))
      clear g0 g1 g2 hxw
      have HE := Lib.hid hend
      clear hend
      go_wp2_with fail
      refine bodyPost_ret (v := .agg #[.int .i64 p, .bool true, .slice va0 i vc0]) (by obtain ⟨g0, g1, g2⟩ := HG.out; simp only [results, Try.results53]; simp [go_sem, g0, g1, g2]) rfl ?_
      exact HE.out
set_option maxRecDepth 100000 in
set_option maxHeartbeats 3000000 in
theorem plain16_node {n : Nat} (IH : ∀ {F : Nat → Prop} {w : World} {cs : List Value} {t : Tr}, (∀ b, F b → b < w.heap.size) → NodeOn F n w cs t → Bnd n t → Calls Try.prog 53 #[.agg cs.toArray] w (RNodeTo F n w t)) {F : Nat → Prop} {w : World} {cs : List Value} {p : Int} {l : List (List UInt8 × Tr)} (hF : ∀ b, F b → b < w.heap.size) (h : NodeOn F (n + 1) w cs (.node p l)) (hm : l.length ≤ 1000) (hbk : ∀ c ∈ l, Bnd n c.2) :
    Calls Try.prog 53 #[.agg cs.toArray] w (RNodeTo F (n + 1) w (.node p l)) := by
  obtain ⟨ka, kn, kc, va, vc, ca, cn, cc, rfl, h1, f1, h2, h3, f3⟩ := h
  obtain ⟨e1, e2, e3⟩ := h1.lens
  obtain ⟨e4, e5, e6⟩ := h3.lens
  have hkl : (keysOf l).length = l.length := by simp [keysOf]
  obtain rfl : kn = cn := by rw [List.length_map] at e4; omega
  have hcl : (cellsR (.node p l)).length = kn := by rw [cellsR_len]; show l.length = kn; omega
  have hkn : kn ≤ 1000 := by omega
  have HH1 := Lib.hid h1
  have HV := Lib.hid h3
  have hB0 : Below w.heap.size w (((w.alloc (.cells #[.int .i64 p, .bool false, .slice ka kn kc, .slice va 0 vc, .slice ca kn cc] 33)).alloc (.cells #[.int .i64 0, .bool false, .slice none 0 0] 26)).alloc (.cells #[.int .i64 p, .bool false, .slice none 0 0] 26)) := Below.al (Below.al (Below.al (Below.refl _ _)))
  have HX0 : Hid (Boxes _ [(w.heap.size + 1 + 1, [.int .i64 p, .bool false, .slice none 0 0]), (w.heap.size + 1, [.int .i64 0, .bool false, .slice none 0 0]), (w.heap.size, [.int .i64 p, .bool false, .slice ka kn kc, .slice va 0 vc, .slice ca kn cc])]) := Lib.hid ((((Boxes.nil w).alloc #[.int .i64 p, .bool false, .slice ka kn kc, .slice va 0 vc, .slice ca kn cc] 33 (b := w.heap.size) rfl).alloc #[.int .i64 0, .bool false, .slice none 0 0] 26 (b := w.heap.size + 1) (by simp)).alloc #[.int .i64 p, .bool false, .slice none 0 0] 26 (b := w.heap.size + 1 + 1) (by simp))
  have HB0 := Lib.hid hB0
  have HCL := Lib.hid hcl
  clear h1 f1 h2 h3 hB0 e1 e4 hcl hkl
  go_enter Try.func53, Try.ntmps53
  go_wp2_with fail
  go_loopw [4, 5] (fun s4 _ wr => ∃ (i : Nat) (v : Value), i ≤ kn ∧ s4 = .int .i64 i ∧ Boxes wr [(w.heap.size + 1 + 1, [.int .i64 p, .bool false, v]), (w.heap.size + 1, [.int .i64 0, .bool false, .slice none 0 0]), (w.heap.size, [.int .i64 p, .bool false, .slice ka kn kc, .slice va 0 vc, .slice ca kn cc])] ∧ CellsOwn 48 F n (w.heap.size + 3) wr v ((cellsR (.node p l)).take i) ∧ Below w.heap.size w wr) (fun s _ _ => kn - (intOf s).toNat)
  case atStart => exact ⟨0, _, Nat.zero_le _, rfl, HX0.out, CellsOwn.nil _ _ _ _ _, HB0.out⟩
  case round =>
    obtain ⟨i, v, hi, rfl, hx, hc, hb⟩ := hrel
    clear HX0 HB0
    have hx0 := hx.lt 2 rfl
    have hx1 := hx.lt 1 rfl
    have hx2 := hx.lt 0 rfl
    have n0 := hx.cell 2 0 rfl rfl
    have n1 := hx.cell 2 1 rfl rfl
    have n2 := hx.cell 2 2 rfl rfl
    have n3 := hx.cell 2 3 rfl rfl
    have n4 := hx.cell 2 4 rfl rfl
    have o0 := hx.cell 0 0 rfl rfl
    have o1 := hx.cell 0 1 rfl rfl
    have o2 := hx.cell 0 2 rfl rfl
    have u2 := hx.frozen 0 2 rfl
    by_cases hlt : i < kn
    · obtain ⟨bk, ok, rfl, hbk9, hck⟩ := HH1.out.at hlt
      have k0 := (hb.cell (p := ⟨bk, ok + i, none⟩) hbk9).trans hck
      obtain ⟨k, hk⟩ : ∃ k, (keysOf l)[i]?.getD [] = k := ⟨_, rfl⟩
      rw [hk] at k0
      have HK := Lib.hid hk
      have HX := Lib.hid hx
      have HC := Lib.hid hc
      have HB := Lib.hid hb
      have hbk8 := Nat.lt_of_lt_of_le hbk9 hb.size
      have hsl := hc.sl
      rw [show ((cellsR (.node p l)).take i).length = i by rw [List.length_take, HCL.out]; omega] at hsl
      obtain ⟨va0, vc0, rfl, hvc0, hvm0, _, _⟩ := hsl
      clear hk hck hx hc
      obtain ⟨bv, ov, kid, kcs, rfl, hbv, hyv, _, hkid, hcv⟩ := TabR.at HV.out hlt
      have hkid9 := hkid
      cases n with
      | zero => exact hkid.elim
      | succ n =>
      obtain ⟨y1, y2, y3, y4, y5, y6, y7, y8, _, _, ey, _⟩ := hkid.open
      subst ey
      have v0 := (hb.cell (p := ⟨bv, ov + i * 5, none⟩) hbv).trans (hcv 0 _ rfl)
      have v1 := (hb.cell (p := ⟨bv, ov + i * 5 + 1, none⟩) hbv).trans (hcv 1 _ rfl)
      have v2 := (hb.cell (p := ⟨bv, ov + i * 5 + 2, none⟩) hbv).trans (hcv 2 _ rfl)
      have v3 := (hb.cell (p := ⟨bv, ov + i * 5 + 3, none⟩) hbv).trans (hcv 3 _ rfl)
      have v4 := (hb.cell (p := ⟨bv, ov + i * 5 + 4, none⟩) hbv).trans (hcv 4 _ rfl)
      have hbv8 := Nat.lt_of_lt_of_le hbv hb.size
      obtain ⟨c, hc1, hc2⟩ : ∃ c, l[i]? = some c ∧ c.2 = kid := by
        rw [List.getElem?_map] at hyv
        exact Option.map_eq_some_iff.1 hyv
      have hyi : (cellsR (.node p l))[i]? = some ⟨k, ⟨[], []⟩, some kid⟩ := by
        rw [cellsR_node, hc1, ← hc2, ← HK.out]
        simp [keysOf, hc1]
      have hal : Below wr.heap.size wr (wr.alloc (.cells #[.string (strOf k), .string ⟨#[]⟩, .slice none 0 0, .slice none 0 0] 48)) := Below.al (Below.refl _ _)
      have CK := IH (F := F) (w := wr.alloc (.cells #[.string (strOf k), .string ⟨#[]⟩, .slice none 0 0, .slice none 0 0] 48)) (fun b hf => by have := hF b hf; simp; omega) ((hkid.below hb).below hal) (by rw [← hc2]; exact hbk c (List.mem_of_getElem? hc1))
      have HYI := Lib.hid hyi
      clear hyv hcv hkid hkid9 hc1 hc2 hyi
      go_wp2_with fail
      refine CK.mono ?_
      rintro e w2 ⟨cs2, rfl, hkn, hb2⟩
      obtain ⟨a3, c3, ecs, _, _⟩ := hkn.at
      subst ecs
      have hxq0 := ((Boxes.nil wr).alloc #[.string (strOf k), .string ⟨#[]⟩, .slice none 0 0, .slice none 0 0] 48 rfl).step hb2
      have hxq1 : Boxes (w2.alloc (.cells #[.int .i64 kid.page, .bool kid.isLeaf, .slice a3 (cntT kid) c3] 26)) _ := Boxes.al hxq0
      have q3 := hxq1.cell 0 3 rfl rfl
      have q3' := hxq1.frozen 0 3 rfl
      clear hxq1
      obtain ⟨wx, hwx⟩ : ∃ wx, (w2.alloc (.cells #[.int .i64 kid.page, .bool kid.isLeaf, .slice a3 (cntT kid) c3] 26)).setCell ⟨wr.heap.size, 3, none⟩ (.slice (some ⟨w2.heap.size, 0, none⟩) 1 1) = wx := ⟨_, rfl⟩
      have hz2 : wr.heap.size + 1 ≤ w2.heap.size := by have := hb2.size; simpa using this
      have hwb2 : Below wr.heap.size wr w2 := hal.trans (hb2.mono hal.size)
      have hwb : Below wr.heap.size wr wx := by rw [← hwx]; exact Below.st (Below.al hwb2) (Nat.le_refl _)
      have hxq : Boxes wx [(wr.heap.size, [.string (strOf k), .string ⟨#[]⟩, .slice none 0 0, .slice (some ⟨w2.heap.size, 0, none⟩) 1 1])] := by rw [← hwx]; exact (Boxes.al hxq0).put 3 _ (by simp)
      have hxk : Boxes wx [(w2.heap.size, [.int .i64 kid.page, .bool kid.isLeaf, .slice a3 (cntT kid) c3])] := by rw [← hwx]; exact Boxes.st ((Boxes.nil w2).alloc #[.int .i64 kid.page, .bool kid.isLeaf, .slice a3 (cntT kid) c3] 26 rfl) (by intro p hp; simp at hp; subst hp; simp; omega)
      have hagr : AgreeF (Fr F (wr.alloc (.cells #[.string (strOf k), .string ⟨#[]⟩, .slice none 0 0, .slice none 0 0] 48))) w2 wx := by
        rw [← hwx]
        refine AgreeF.set (AgreeF.of_below (Below.al (Below.refl _ _))) (.inl fun hf => ?_)
        rcases hf with hf | hf
        · have := hF _ hf; simp at this; have := hb.size; omega
        · simp at hf; omega
      have hge0 : ∀ b, (Value.slice va0 i vc0).ownBlock = some b → w.heap.size + 3 ≤ b ∧ b < wr.heap.size := fun b hb => HC.out.block hb
      have hkx : RNodeOn (Gp F (w.heap.size + 3) (.slice va0 i vc0)) (n + 1) wx [.int .i64 kid.page, .bool kid.isLeaf, .slice a3 (cntT kid) c3] kid := (hkn.agree hagr).mono (fun b hf => by
        rcases hf with hf | hf
        · exact ⟨.inl hf, fun e => by have := (hge0 b e).1; have := hF b hf; omega⟩
        · simp at hf
          exact ⟨.inr (by omega), fun e => by have := (hge0 b e).2; omega⟩)
      have hy : RcOn (Gp F (w.heap.size + 3) (.slice va0 i vc0)) (n + 1) wx [.string (strOf k), .string ⟨#[]⟩, .slice none 0 0, .slice (some ⟨w2.heap.size, 0, none⟩) 1 1] ⟨k, ⟨[], []⟩, some kid⟩ := by
        refine ⟨none, 0, 0, some ⟨w2.heap.size, 0, none⟩, 1, 1, rfl, ⟨rfl, Nat.le_refl _, by unfold maxLen; omega, fun _ => rfl, .inl rfl⟩, Fa.zero _ _, ⟨rfl, Nat.le_refl _, by unfold maxLen; omega, fun h => (by cases h), .inr ⟨w2.heap.size, 0, rfl, hxk.lt 0 rfl, fun j y hj => ?_⟩⟩, .inr fun b off e => ?_⟩
        · cases j with
          | succ j => cases hj
          | zero =>
            cases hj
            exact ⟨_, rfl, hkx, fun j v hv => by have := hxk.cell 0 j rfl hv; simpa using this⟩
        · cases e
          exact ⟨.inr (by omega), fun e => by have := (hge0 _ e).2; omega⟩
      have hyi := HYI.out
      clear hkn hagr hkx hge0 hxk hxq0 hwb2 CK hb2
      obtain ⟨v', w8, hr8, hc8, hg8⟩ := CellsOwn.append (P := Try.prog) (t := 24) Try.underlying24 info_Cc (HC.out.below hwb) (by have := hwb.size; omega) (fun b hf => by have := hF b hf; omega) (by rw [List.length_take]; omega) hy
      rw [← List.take_succ_eq_append_of hyi] at hc8
      have hlen : ((cellsR (.node p l)).take (i + 1)).length = i + 1 := by rw [List.length_take, HCL.out]; omega
      have hsl8 := hc8.sl
      rw [hlen] at hsl8
      obtain ⟨va8, vc8, rfl, hvc8, hvm8, _, _⟩ := hsl8
      have hge : ∀ b, (Value.slice va0 i vc0).ownBlock = some b → w.heap.size + 3 ≤ b := fun b hb => (HC.out.block hb).1
      have hx8 := (HX.out.step hwb).grown hg8 (by intro p hp e; simp at hp; have := hge _ e; rcases hp with rfl | rfl | rfl <;> simp at this <;> omega)
      have hb8 := (hb.trans (hwb.mono hb.size)).grown hg8 (Nat.le_trans hb.size hwb.size) (fun k hk => by have := hge k hk; omega)
      have HX8 := Lib.hid hx8
      have HB8 := Lib.hid hb8
      have HC8 := Lib.hid hc8
      have r2 := hx8.cell 0 2 rfl rfl
      have ru := hx8.frozen 0 2 rfl
      have z0 := hxq.cell 0 0 rfl rfl
      have z1 := hxq.cell 0 1 rfl rfl
      have z2 := hxq.cell 0 2 rfl rfl
      have z3 := hxq.cell 0 3 rfl rfl
      have y2 := (HX.out.step hwb).cell 0 2 rfl rfl
      have y4 := (HX.out.step hwb).cell 2 4 rfl rfl
      clear hx8 hb8 hc8 hg8 hxq hy hyi hge hlen
      go_upto_region 10 with (fail)
      try rw [hwx]
      clear hwx
      go_wp2_with (at_builtin; refine wpList_append_run rfl _ _ _ _ rfl rfl rfl hr8 ?_)
      go_roundw
      case rel => exact ⟨i + 1, _, hlt, by go_num, HX8.out.put 2 _ (by intro p hp; simp at hp; rcases hp with rfl | rfl <;> simp <;> omega), HC8.out.set _ (by simp) (fun hf => by have := hF _ hf; simp at this; omega), HB8.out.setCell (by show w.heap.size ≤ w.heap.size + 1 + 1; omega) _⟩
      case measure => simp [intOf]; omega
    · obtain rfl : i = kn := by omega
      have hc9 : CellsOwn 48 F n (w.heap.size + 3) wr v (cellsR (.node p l)) := by
        have := hc
        rwa [List.take_of_length_le (by rw [HCL.out]; exact Nat.le_refl _)] at this
      have hsl := hc9.sl
      rw [HCL.out] at hsl
      obtain ⟨va0, vc0, rfl, hvc0, hvm0, _, _⟩ := hsl
      have HC := Lib.hid hc9
      have HB := Lib.hid hb
      have z0 := hx.cell 1 0 rfl rfl
      have z1 := hx.cell 1 1 rfl rfl
      have z2 := hx.cell 1 2 rfl rfl
      have y0 := hx.frozen 1 0 rfl
      have y1 := hx.frozen 1 1 rfl
      have y2 := hx.frozen 1 2 rfl
      have HXE := Lib.hid hx
      clear hc hc9 hx hb
      have hend : RNodeTo F (n + 1) w (.node p l) (.returned (.agg #[.int .i64 p, .bool false, .slice va0 i vc0])) (((wr.setCell ⟨w.heap.size + 1, 0, none⟩ (.int .i64 p)).setCell ⟨w.heap.size + 1, 1, none⟩ (.bool false)).setCell ⟨w.heap.size + 1, 2, none⟩ (.slice va0 i vc0)) := by
        have h9 : ∀ j, ¬ F (⟨w.heap.size + 1, j, none⟩ : Addr).block := fun j hf => by have := hF _ hf; simp at this; omega
        have h8 : ∀ j, (⟨w.heap.size + 1, j, none⟩ : Addr).block < w.heap.size + 3 := fun j => by show w.heap.size + 1 < _; omega
        have h7 : ∀ j, w.heap.size ≤ (⟨w.heap.size + 1, j, none⟩ : Addr).block := fun j => by show _ ≤ w.heap.size + 1; omega
        exact ⟨[.int .i64 p, .bool false, .slice va0 i vc0], rfl, (((HC.out.set _ (h8 0) (h9 0)).set _ (h8 1) (h9 1)).set _ (h8 2) (h9 2)).node (by omega), ((HB.out.setCell (h7 0) _).setCell (h7 1) _).setCell (h7 2) _⟩
      have hxw := (((HXE.out.sub (m := [(w.heap.size + 1, [.int .i64 0, .bool false, .slice none 0 0])]) (by simp)).put 0 (.int .i64 p) (by simp)).put 1 (.bool false) (by simp)).put 2 (.slice va0 i vc0) (by simp)
      have g0 := hxw.cell 0 0 rfl rfl
      have g1 := hxw.cell 0 1 rfl rfl
      have g2 := hxw.cell 0 2 rfl rfl
      have HG := Lib.hid (And.intro g0 (And.intro g1 g2))
      clear g0 g1 g2 hxw
      have HE := Lib.hid hend
      clear hend
      go_wp2_with fail
      refine bodyPost_ret (v := .agg #[.int .i64 p, .bool false, .slice va0 i vc0]) (by obtain ⟨g0, g1, g2⟩ := HG.out; simp only [results, Try.results53]; simp [go_sem, g0, g1, g2]) rfl ?_
      exact HE.out
theorem plain16_any : ∀ {n : Nat} {F : Nat → Prop} {w : World} {cs : List Value} {t : Tr}, (∀ b, F b → b < w.heap.size) → NodeOn F n w cs t → Bnd n t → Calls Try.prog 53 #[.agg cs.toArray] w (RNodeTo F n w t)
  | 0, _, _, _, _, _, h, _ => h.elim
  | _n + 1, _, _, _, .leaf _p _l, hF, h, hb => plain16_leaf hF h hb.1
  | _n + 1, _, _, _, .node _p _l, hF, h, hb => plain16_node (fun hF h hb => plain16_any hF h hb) hF h hb.1 (fun c hc => (hb.2 c hc).2)
end Go.Proofs.Ytemfnjlfcemehaa

/- The laws of trees: a tree's entries, by the document's node. -/
namespace Go.Proofs.Ytemfnjlfcemehaa
open Go.RowKit

/-- What 'plain' answers: a node whose entries are these. -/
def PlainTo (E : List (List UInt8 × Tv)) (W : World) (e : Ending) (w' : World) : Prop :=
  ∃ p lf a m c, e = .returned (.agg #[.int .i64 p, .bool lf, .slice a m c]) ∧ Below W.heap.size W w' ∧ ∀ W', Below w'.heap.size w' W' → Calls Try.prog 27 #[.agg #[.int .i64 p, .bool lf, .slice a m c]] W' (EntsTo W' E)
theorem plainTo {F : Nat → Prop} {n : Nat} {w : World} {t : Tr} (hb : Bnd n t) (he : (entsT n t).length ≤ 100000) {e : Ending} {w' : World} (h : RNodeTo F n w t e w') : PlainTo (entsT n t) w e w' := by
  obtain ⟨cs, rfl, h1, h2⟩ := h
  cases n with
  | zero => exact h1.elim
  | succ n =>
    obtain ⟨a, c, ecs, _, _⟩ := h1.at
    subst ecs
    refine ⟨_, _, a, _, c, rfl, h2, fun W' hW => ?_⟩
    refine (entries_any (h1.below hW) hb he).mono fun e w'' h => ?_
    obtain ⟨a, c, rfl, _, _, ho, hb⟩ := h.sl
    exact ⟨a, _, c, rfl, Raw.of_sl ho rfl, hb⟩
theorem plain15_ents {F : Nat → Prop} {n : Nat} {w : World} {cs : List Value} {t : Tr} (h : NodeOn F n w cs t) (hw : Whole n t) (he : (entsT n t).length ≤ 100000) : Calls Try.prog 37 #[.agg cs.toArray] w (PlainTo (entsT n t) w) :=
  (plain15_any (fun _b hb => hb.2) h.lt hw.bnd).mono fun _e _w' h => plainTo hw.bnd he h
theorem plain16_ents {F : Nat → Prop} {n : Nat} {w : World} {cs : List Value} {t : Tr} (h : NodeOn F n w cs t) (hw : Whole n t) (he : (entsT n t).length ≤ 100000) : Calls Try.prog 53 #[.agg cs.toArray] w (PlainTo (entsT n t) w) :=
  (plain16_any (fun _b hb => hb.2) h.lt hw.bnd).mono fun _e _w' h => plainTo hw.bnd he h
end Go.Proofs.Ytemfnjlfcemehaa

/- Entries ahead of a put, and behind it, one by one: plain. -/
namespace Go.Proofs.Ytemfnjlfcemehaa

/-- How many of the entries ahead of a put have been seen. -/
def kAt (A : List (List UInt8 × Tv)) (key : List UInt8) (j : Nat) : Nat := if j ≤ posK key (keysOf A) then j else j - 1 + (if hasK key (keysOf A) then 1 else 0)
theorem pos_has {key : List UInt8} {A : List (List UInt8 × Tv)} (h : hasK key (keysOf A) = true) : ∃ x, A[posK key (keysOf A)]? = some x ∧ x.1 = key := by
  unfold hasK at h
  have h : (keysOf A)[posK key (keysOf A)]? = some key := by simpa using h
  rw [keysOf, List.getElem?_map] at h
  exact Option.map_eq_some_iff.1 h
theorem pos_not {key : List UInt8} {A : List (List UInt8 × Tv)} (h : hasK key (keysOf A) = false) {x : List UInt8 × Tv} (hx : A[posK key (keysOf A)]? = some x) : x.1 ≠ key := by
  intro e
  unfold hasK at h
  have h2 : (keysOf A)[posK key (keysOf A)]? = some x.1 := by rw [keysOf, List.getElem?_map] at *; rw [hx]; rfl
  rw [h2, e] at h
  simp at h
theorem put_len (A : List (List UInt8 × Tv)) (key : List UInt8) (v : Tv) : (putL key v A).length + (if hasK key (keysOf A) then 1 else 0) = A.length + 1 ∧ posK key (keysOf A) + (if hasK key (keysOf A) then 1 else 0) ≤ A.length := by
  have hle : posK key (keysOf A) ≤ A.length := by have := posK_le key (keysOf A); simpa [keysOf] using this
  have h1 : posK key (keysOf A) + (if hasK key (keysOf A) then 1 else 0) ≤ A.length := by
    cases h : hasK key (keysOf A) with
    | false => simpa using hle
    | true =>
      obtain ⟨x, hx, _⟩ := pos_has h
      have := (List.getElem?_eq_some_iff.1 hx).1
      simp; omega
  refine ⟨?_, h1⟩
  rw [putL_pos]
  simp
  omega
theorem stays_step {A : List (List UInt8 × Tv)} {key : List UInt8} {v : Tv} {j : Nat} {y : List UInt8 × Tv} (hA : Srt A) (hy : (putL key v A)[j]? = some y) :
    ∃ own same : Bool, decide (y.1 = key) = own ∧ (own = false → ∃ x, A[kAt A key j]? = some x ∧ x.1 = y.1 ∧ x.2.data = y.2.data) ∧ (∀ x, A[kAt A key j]? = some x → decide (x.1 = y.1) = same) ∧ (A.length ≤ kAt A key j → same = false) ∧ kAt A key (j + 1) = (if same then kAt A key j + 1 else kAt A key j) := by
  have hs := srt_put (key := key) (v := v) hA
  obtain ⟨hl, hp⟩ := put_len A key v
  have hjl := (List.getElem?_eq_some_iff.1 hy).1
  rw [putL_pos] at hy
  obtain ⟨p, hpp⟩ : ∃ p, posK key (keysOf A) = p := ⟨_, rfl⟩
  obtain ⟨o, ho⟩ : ∃ o, hasK key (keysOf A) = o := ⟨_, rfl⟩
  have hk : ∀ j, kAt A key j = if j ≤ p then j else j - 1 + (if o then 1 else 0) := fun j => by unfold kAt; rw [hpp, ho]
  have hpl : p ≤ A.length := by omega
  have htl : (A.take p).length = p := by simp; omega
  have hput : putL key v A = A.take p ++ (key, v) :: A.drop (p + (if o then 1 else 0)) := by rw [putL_pos, hpp, ho]
  rw [hpp, ho] at hy
  by_cases hjp : j = p
  · subst hjp
    have hy' : y = (key, v) := by
      rw [List.getElem?_append_right (by omega)] at hy
      simpa [htl] using hy.symm
    subst hy'
    refine ⟨true, o, by simp, (fun h => by cases h), ?_, ?_, ?_⟩
    · intro x hx
      rw [hk, if_pos (Nat.le_refl _)] at hx
      cases o with
      | true =>
        obtain ⟨z, hz1, hz2⟩ := pos_has ho
        rw [hpp, hx] at hz1
        cases hz1
        exact decide_eq_true hz2
      | false => exact decide_eq_false (pos_not ho (by rw [hpp]; exact hx))
    · intro h
      rw [hk, if_pos (Nat.le_refl _)] at h
      cases o with
      | false => rfl
      | true => rw [hpp, ho] at hp; simp at hp; omega
    · rw [hk (j + 1), hk j, if_neg (show ¬ j + 1 ≤ j by omega), if_pos (Nat.le_refl _)]
      cases o <;> simp
  · have hmem : y ∈ putL key v A := by rw [hput]; exact List.mem_of_getElem? hy
    have hx : A[kAt A key j]? = some y := by
      rw [hk]
      by_cases h : j < p
      · rw [if_pos (by omega)]
        rw [List.getElem?_append_left (by omega), List.getElem?_take_of_lt h] at hy
        exact hy
      · rw [if_neg (by omega)]
        rw [List.getElem?_append_right (by omega), htl] at hy
        obtain ⟨q, hq⟩ : ∃ q, j - p = q + 1 := ⟨j - p - 1, by omega⟩
        rw [hq, List.getElem?_cons_succ, List.getElem?_drop] at hy
        rw [← hy]
        congr 1
        omega
    have hne : y.1 ≠ key := by
      intro e
      have hmk : (key, v) ∈ putL key v A := by rw [hput]; simp
      have := srt_key hs hmem hmk (by exact e)
      subst this
      have hnd : (keysOf (putL key v A)).Pairwise (fun a b => a < b) := hs
      have hkj : (keysOf (putL key v A))[j]? = some key := by
        rw [keysOf, List.getElem?_map, hput, hy]; rfl
      have hkp : (keysOf (putL key v A))[p]? = some key := by
        rw [keysOf, List.getElem?_map, hput, List.getElem?_append_right (by omega)]; simp [htl]
      have hjl' := (List.getElem?_eq_some_iff.1 hkj).1
      have hpl' := (List.getElem?_eq_some_iff.1 hkp).1
      rcases Nat.lt_or_ge j p with h | h
      · have := pair_get hnd h hpl'
        rw [hkj, hkp] at this
        exact klt_irrefl _ this
      · have := pair_get hnd (show p < j by omega) hjl'
        rw [hkj, hkp] at this
        exact klt_irrefl _ this
    refine ⟨false, true, decide_eq_false hne, fun _ => ⟨y, hx, rfl, rfl⟩, ?_, ?_, ?_⟩
    · intro x hx'
      rw [hx] at hx'
      cases hx'
      exact decide_eq_true rfl
    · intro h
      have := (List.getElem?_eq_some_iff.1 hx).1
      omega
    · rw [hk (j + 1), hk j]
      simp only [if_true]
      by_cases h : j < p
      · rw [if_pos (show j + 1 ≤ p by omega), if_pos (show j ≤ p by omega)]
      · rw [if_neg (show ¬ j + 1 ≤ p by omega), if_neg (show ¬ j ≤ p by omega)]; omega
theorem stays_zero (A : List (List UInt8 × Tv)) (key : List UInt8) : kAt A key 0 = 0 := by unfold kAt; rw [if_pos (Nat.zero_le _)]
theorem stays_end (A : List (List UInt8 × Tv)) (key : List UInt8) (v : Tv) : kAt A key (putL key v A).length = A.length := by
  obtain ⟨hl, hp⟩ := put_len A key v
  unfold kAt
  cases h : hasK key (keysOf A) <;> rw [h] at hl hp <;> simp at hl hp ⊢
  · rw [if_neg (by omega)]; omega
  · rw [if_neg (by omega)]; omega
theorem stays_rise {A : List (List UInt8 × Tv)} (h : Srt A) {j : Nat} {x y : List UInt8 × Tv} (hx : A[j]? = some x) (hy : A[j + 1]? = some y) : x.1 < y.1 := by
  have hl := (List.getElem?_eq_some_iff.1 hy).1
  have := pair_get (l := keysOf A) h (i := j) (j := j + 1) (by omega) (by simpa [keysOf] using hl)
  simpa [keysOf, hx, hy] using this
end Go.Proofs.Ytemfnjlfcemehaa

/- A tree in its box, put into a new box: what the laws' rounds share. -/
namespace Go.Proofs.Ytemfnjlfcemehaa
open Go.RowKit

/-- A tree whose node lies in a box. -/
def TrBox (B b : Nat) (wr : World) (N : Nat) (t : Tr) : Prop :=
  ∃ p lf a1 n1 c1 a2 n2 c2 a3 n3 c3, Boxes wr [(b, [.int .i64 p, .bool lf, .slice a1 n1 c1, .slice a2 n2 c2, .slice a3 n3 c3])] ∧ NodeOn (fun x => B ≤ x) N wr [.int .i64 p, .bool lf, .slice a1 n1 c1, .slice a2 n2 c2, .slice a3 n3 c3] t ∧ Whole N t
theorem TrBox.below {B b : Nat} {w w' : World} {N : Nat} {t : Tr} (h : TrBox B b w N t) (hb : Below w.heap.size w w') : TrBox B b w' N t := by
  obtain ⟨p, lf, a1, n1, c1, a2, n2, c2, a3, n3, c3, h1, h2, h3⟩ := h
  exact ⟨p, lf, a1, n1, c1, a2, n2, c2, a3, n3, c3, h1.step hb, h2.below hb, h3⟩
theorem TrBox.new {B : Nat} {w : World} {N : Nat} {t : Tr} {p : Int} {lf : Bool} {a1 : Option Addr} {n1 c1 : Nat} {a2 : Option Addr} {n2 c2 : Nat} {a3 : Option Addr} {n3 c3 : Nat} {G : Nat → Prop} (h : NodeOn G N w [.int .i64 p, .bool lf, .slice a1 n1 c1, .slice a2 n2 c2, .slice a3 n3 c3] t) (hG : ∀ b, G b → B ≤ b) (hw : Whole N t) (ty : TypeId) :
    TrBox B w.heap.size (w.alloc (.cells #[.int .i64 p, .bool lf, .slice a1 n1 c1, .slice a2 n2 c2, .slice a3 n3 c3] ty)) N t :=
  ⟨p, lf, a1, n1, c1, a2, n2, c2, a3, n3, c3, (Boxes.nil w).alloc #[.int .i64 p, .bool lf, .slice a1 n1 c1, .slice a2 n2 c2, .slice a3 n3 c3] ty rfl, (h.below (Below.al (Below.refl _ _))).mono hG, hw⟩
theorem TrBox.set5 {B b : Nat} {w : World} {N : Nat} {t : Tr} {G : Nat → Prop} {x0 x1 x2 x3 x4 : Value} {p : Int} {lf : Bool} {a1 : Option Addr} {n1 c1 : Nat} {a2 : Option Addr} {n2 c2 : Nat} {a3 : Option Addr} {n3 c3 : Nat} (hx : Boxes w [(b, [x0, x1, x2, x3, x4])]) (h : NodeOn G N w [.int .i64 p, .bool lf, .slice a1 n1 c1, .slice a2 n2 c2, .slice a3 n3 c3] t) (hG : ∀ b, G b → B ≤ b) (hb : ¬ G b) (hw : Whole N t) :
    TrBox B b (set5 w b (.int .i64 p) (.bool lf) (.slice a1 n1 c1) (.slice a2 n2 c2) (.slice a3 n3 c3)) N t :=
  ⟨p, lf, a1, n1, c1, a2, n2, c2, a3, n3, c3, set5_box hx (by simp) _ _ _ _ _, (h.agree (agree_set5 hb _ _ _ _ _)).mono hG, hw⟩
/-- The empty tree stands on no block. -/
theorem empty_on {F G : Nat → Prop} {w : World} {cs : List Value} (h : NodeOn G 1 w cs (.leaf 0 [])) : ∃ a1 c1 a2 c2 a3 c3, cs = [.int .i64 0, .bool true, .slice a1 0 c1, .slice a2 0 c2, .slice a3 0 c3] ∧ NodeOn F 1 w cs (.leaf 0 []) := by
  obtain ⟨ka, kn, kc, va, vn, vc, ca, cc, e, h1, _, h2, _, h3⟩ := h
  obtain rfl : kn = 0 := h1.1.symm
  obtain rfl : vn = 0 := h2.1.symm
  exact ⟨ka, kc, va, vc, ca, cc, e, ka, 0, kc, va, 0, vc, ca, cc, e, h1, Fa.zero _ _, unit_any (α := Tv) h2, Fa.zero _ _, h3⟩
/-- What a drawn 'm := tree.Put(..)' leaves. -/
def PutMid (B : Nat) (w2 : World) (N : Nat) (T : Tr) (EP : List (List UInt8 × Tv)) (s8 : Value) (wx : World) : Prop :=
  ∃ b8 M, s8 = .pointer (some ⟨b8, 0, none⟩) ∧ TrBox B b8 wx M T ∧ Below w2.heap.size w2 wx ∧ w2.heap.size ≤ b8 ∧ M ≤ N + 1 ∧ entsT M T = EP
/-- The same, before its words are told. -/
theorem PutMid.a {B : Nat} {w2 w9 : World} {N M : Nat} {T : Tr} {G : Nat → Prop} {p : Int} {lf : Bool} {a1 : Option Addr} {n1 c1 : Nat} {a2 : Option Addr} {n2 c2 : Nat} {a3 : Option Addr} {n3 c3 : Nat} (ty : TypeId) (hB : Below w2.heap.size w2 w9) (h : NodeOn G M w9 [.int .i64 p, .bool lf, .slice a1 n1 c1, .slice a2 n2 c2, .slice a3 n3 c3] T) (hG : ∀ b, G b → B ≤ b) (hw : Whole M T) (hM : M ≤ N + 1) {EP : List (List UInt8 × Tv)} (hE : entsT M T = EP) :
    PutMid B w2 N T EP (.pointer (some ⟨w9.heap.size, 0, none⟩)) (w9.alloc (.cells #[.int .i64 p, .bool lf, .slice a1 n1 c1, .slice a2 n2 c2, .slice a3 n3 c3] ty)) :=
  ⟨_, M, rfl, TrBox.new h hG hw ty, Below.al hB, hB.size, hM, hE⟩
theorem PutMid.b {B b : Nat} {w2 w9 : World} {N M : Nat} {T : Tr} {G : Nat → Prop} {p : Int} {lf : Bool} {a1 : Option Addr} {n1 c1 : Nat} {a2 : Option Addr} {n2 c2 : Nat} {a3 : Option Addr} {n3 c3 : Nat} (hB : Below w2.heap.size w2 w9) (hz : BoxAt w9 b #[.int .i64 0, .bool false, .slice none 0 0, .slice none 0 0, .slice none 0 0]) (hb2 : w2.heap.size ≤ b) (h : NodeOn G M w9 [.int .i64 p, .bool lf, .slice a1 n1 c1, .slice a2 n2 c2, .slice a3 n3 c3] T) (hG : ∀ b, G b → B ≤ b) (hb : ¬ G b) (hw : Whole M T) (hM : M ≤ N + 1) {EP : List (List UInt8 × Tv)} (hE : entsT M T = EP) :
    PutMid B w2 N T EP (.pointer (some ⟨b, 0, none⟩)) (set5 w9 b (.int .i64 p) (.bool lf) (.slice a1 n1 c1) (.slice a2 n2 c2) (.slice a3 n3 c3)) :=
  ⟨_, M, rfl, TrBox.set5 hz.boxes h hG hb hw, set5_below hB hb2 _ _ _ _ _, hb2, hM, hE⟩
end Go.Proofs.Ytemfnjlfcemehaa

/- What came in, opened: puts, steps. -/
namespace Go.Proofs.Ytemfnjlfcemehaa
open Go.RowKit Go.Deep Go.WideShapes Go.ChangeShapes

section
variable {H : Type} {enc : TypeId × Value → H} {P : Program} {w : World} {base : Nat}
theorem rd_pt {t : TypeId} {f0 f1 f2 : Field} (ht : P.underlying t = some (.struct #[f0, f1, f2])) (o0 : f0.offset = 0) (o1 : f1.offset = 1) (o2 : f2.offset = 2)
    (c0 : P.cellsOf f0.type = 1) (c1 : P.cellsOf f1.type = 1) (c2 : P.cellsOf f2.type = 1) (u0 : P.underlying f0.type = some .string) (u1 : P.underlying f1.type = some (.int .u8)) (u2 : P.underlying f2.type = some (.int .i64)) :
    ∀ n cs x, cs.length = 3 → DataW.trod enc P w 0 (fun _ => true) true n t cs = some x → ∃ y : Pt, IsPt cs y := by
  intro n cs x hlen h
  obtain ⟨xs, k, _, _, _, hxl, hf⟩ := DataW.trod_struct ht h
  match xs, hxl, cs, hlen with
  | [y0, y1, y2], _, [v0, v1, v2], _ =>
    have g0 := hf 0 f0 rfl
    have g1 := hf 1 f1 rfl
    have g2 := hf 2 f2 rfl
    simp [o0, o1, o2, c0, c1, c2] at g0 g1 g2
    obtain ⟨s, e0, _, _⟩ := DataW.trod_string u0 g0
    obtain ⟨n1, e1, _, w1⟩ := DataW.trod_int u1 g1
    obtain ⟨n2, e2, _, _⟩ := DataW.trod_int u2 g2
    simp at e0 e1 e2
    simp [Lit.wf, IntKind.min, IntKind.max, IntKind.signed, IntKind.bits] at w1
    refine ⟨⟨s.data.toList, UInt8.ofNat n1.toNat, n2⟩, ?_⟩
    have : ((UInt8.ofNat n1.toNat).toNat : Int) = n1 := by
      simp [UInt8.toNat_ofNat']; omega
    show _ = ptC _
    rw [e0, e1, e2]
    simp only [ptC, this]
    rfl
theorem rd_st {t : TypeId} {f0 f1 : Field} (ht : P.underlying t = some (.struct #[f0, f1])) (o0 : f0.offset = 0) (o1 : f1.offset = 1)
    (c0 : P.cellsOf f0.type = 1) (c1 : P.cellsOf f1.type = 1) (u0 : P.underlying f0.type = some .string) (u1 : P.underlying f1.type = some (.int .i64)) :
    ∀ n cs x, cs.length = 2 → DataW.trod enc P w 0 (fun _ => true) true n t cs = some x → ∃ y : St, IsSt cs y := by
  intro n cs x hlen h
  obtain ⟨xs, k, _, _, _, hxl, hf⟩ := DataW.trod_struct ht h
  match xs, hxl, cs, hlen with
  | [y0, y1], _, [v0, v1], _ =>
    have g0 := hf 0 f0 rfl
    have g1 := hf 1 f1 rfl
    simp [o0, o1, c0, c1] at g0 g1
    obtain ⟨s, e0, _, _⟩ := DataW.trod_string u0 g0
    obtain ⟨n1, e1, _, _⟩ := DataW.trod_int u1 g1
    simp at e0 e1
    refine ⟨⟨s.data.toList, n1⟩, ?_⟩
    show _ = stC _
    rw [e0, e1]
    rfl
end
set_option maxRecDepth 100000 in
theorem open_pts {H : Type} {enc : TypeId × Value → H} {w : World} {base : Nat} {v : Value} {d : DataW H} {p : List MemPlace} (hv : Value.okWide Try.prog w .any base 58 v) (h : DataW.Trod enc Try.prog w 0 (fun _ => true) true 58 v d p) :
    ∃ a len cap l, v = .slice a len cap ∧ Pts w a len cap l :=
  open_tab Try.underlying58 (show Try.prog.cellsOf 64 = 3 by kernel_rfl) (by decide) IsPt (rd_pt Try.underlying64 rfl rfl rfl (by kernel_rfl) (by kernel_rfl) (by kernel_rfl) Try.underlying9 Try.underlying5 Try.underlying3) hv h
set_option maxRecDepth 100000 in
theorem open_sts16 {H : Type} {enc : TypeId × Value → H} {w : World} {base : Nat} {v : Value} {d : DataW H} {p : List MemPlace} (hv : Value.okWide Try.prog w .any base 86 v) (h : DataW.Trod enc Try.prog w 0 (fun _ => true) true 86 v d p) :
    ∃ a len cap l, v = .slice a len cap ∧ Sts w a len cap l :=
  open_tab Try.underlying86 (show Try.prog.cellsOf 89 = 2 by kernel_rfl) (by decide) IsSt (rd_st Try.underlying89 rfl rfl (by kernel_rfl) (by kernel_rfl) Try.underlying9 Try.underlying3) hv h
set_option maxRecDepth 100000 in
theorem open_sts17 {H : Type} {enc : TypeId × Value → H} {w : World} {base : Nat} {v : Value} {d : DataW H} {p : List MemPlace} (hv : Value.okWide Try.prog w .any base 22 v) (h : DataW.Trod enc Try.prog w 0 (fun _ => true) true 22 v d p) :
    ∃ a len cap l, v = .slice a len cap ∧ Sts w a len cap l :=
  open_tab Try.underlying22 (show Try.prog.cellsOf 99 = 2 by kernel_rfl) (by decide) IsSt (rd_st Try.underlying99 rfl rfl (by kernel_rfl) (by kernel_rfl) Try.underlying9 Try.underlying3) hv h
end Go.Proofs.Ytemfnjlfcemehaa

/- Rows of the document's cells: a row appended; 'with'. -/
namespace Go.Proofs.Ytemfnjlfcemehaa
open Go.RowKit

/-- A row of cells appended to one of the call's own. -/
theorem CellsOwn.row {P : Program} {E t : TypeId} (ht : P.underlying t = some (.slice E)) (hi : RowInfo P E 4 80) {F : Nat → Prop} {n B : Nat} {w : World} {v : Value} {l : List Rc} (h : CellsOwn E F n B w v l) (hB : B ≤ w.heap.size) (hl : l.length ≤ 100000) {a : Option Addr} {m c : Nat} {l2 : List Rc} (hr : TabR 4 (RcOn (Gp F B v) n w) w a m c l2) (hm : m ≤ 100000) :
    ∃ v' w', (Builtin.append_ #[t, t] t #[v, .slice a m c]).run P w = .ok v' w' ∧ CellsOwn E F n B w' v' (l ++ l2) ∧ w.grownBy w' v.ownBlock := by
  obtain ⟨L, h1, h2⟩ := h
  obtain ⟨L2, r1, r2⟩ := TabR.raw hr (fun _ _ h => h.one)
  obtain ⟨i, z, i1, i2, i3, i4, i5⟩ := hi
  have hlm : l2.length = m := by rw [← r2.1]; exact r1.1
  obtain ⟨v', w', hr, ho, hg, hv⟩ := run_append_raw (P := P) B t E i z 4 80 ht i1 i2 i3 i4 i5 (by decide) h1 r1 (by unfold maxLen; omega) (by omega) hB
  refine ⟨v', w', hr, ⟨L ++ L2, ?_, ?_⟩, hg⟩
  · rw [List.length_append, hlm]; exact ho
  · have hag : AgreeF (fun b => v.ownBlock ≠ some b) w w' := ⟨hg.size, fun b hb hlt => hg.block b hlt (fun e => hb e.symm)⟩
    have step : ∀ {cs : List Value} {y : Rc}, RcOn (Gp F B v) n w cs y → RcOn (Gp F B v') n w' cs y := fun h =>
      (h.lt.agree (hag.sub (fun b hb => hb.1.2))).mono (fun b hb => ⟨hb.1.1, fun e => by
        rcases hv with hv | hv
        · rw [hv] at e; exact hb.1.2 e
        · rw [hv] at e; have := Option.some.inj e; have := hb.2; omega⟩)
    exact (h2.mono (fun _ _ _ h => step h)).append (r2.mono (fun _ _ _ h => step h))
/-- Cells on blocks that were there ahead may be put into the row. -/
theorem RcOn.gp {E : TypeId} {F : Nat → Prop} {n B : Nat} {w : World} {v : Value} {l : List Rc} (h : CellsOwn E F n B w v l) (hF : ∀ b, F b → b < B) {cs : List Value} {y : Rc} {W : World} (hy : RcOn F n W cs y) : RcOn (Gp F B v) n W cs y :=
  hy.mono (fun b hb => ⟨.inl hb, fun e => by have := (h.block e).1; have := hF b hb; omega⟩)
/-- What answers a row of cells. -/
def CellsTo (F : Nat → Prop) (n : Nat) (w : World) (l : List Rc) (e : Ending) (w' : World) : Prop := ∃ v, e = .returned v ∧ CellsOwn 48 F n w.heap.size w' v l ∧ Below w.heap.size w w'
theorem info_Cw : RowInfo Try.prog 48 4 80 := row_info (by kernel_rfl)
theorem elem_Cw : Try.prog.underlying 24 = some (.slice (Try.prog.elem 24)) := by kernel_rfl
theorem size_Cw (w : World) : (sizeOf (Try.prog.elem 24)).run Try.prog w = .ok 4 w := by kernel_rfl
set_option maxRecDepth 100000 in
set_option maxHeartbeats 1000000 in
theorem with_any {F : Nat → Prop} {n : Nat} {w : World} {a : Option Addr} {m c : Nat} {l : List Rc} {a2 : Option Addr} {m2 c2 : Nat} {l2 : List Rc} (hF : ∀ b, F b → b < w.heap.size) (h : TabR 4 (RcOn F n w) w a m c l) (g : TabR 4 (RcOn F n w) w a2 m2 c2 l2) {k : Nat} (hk : k < m) (hm : m ≤ 2000) (hm2 : m2 ≤ 2000) :
    Calls Try.prog 75 #[.slice a m c, .int .i64 (k : Int), .slice a2 m2 c2] w (CellsTo F n w (l.take k ++ l2 ++ l.drop (k + 1))) := by
  obtain ⟨e1, e2, e3⟩ := h.lens
  obtain ⟨g1, g2, g3⟩ := g.lens
  have c0 : CellsOwn 48 F n w.heap.size w (.slice none 0 0) [] := CellsOwn.nil _ _ _ _ _
  obtain ⟨v1, w1, hr1, c1, hg1⟩ := c0.row Try.underlying24 info_Cw (Nat.le_refl _) (by simp) (TabR.mono (TabR.tk h (show k ≤ m by omega)) (fun _ _ h => RcOn.gp c0 hF h)) (by omega)
  have hb1 : Below w.heap.size w w1 := (Below.refl _ _).grown hg1 (Nat.le_refl _) (fun g hg => by cases hg)
  have r2 : TabR 4 (RcOn (Gp F w.heap.size v1) n w1) w1 a2 m2 c2 l2 := TabR.mono (TabR.below (Nat.le_refl _) hb1 g) (fun cs y hy => RcOn.gp c1 hF (RcOn.below hy hb1))
  have l1 : ([] ++ l.take k).length ≤ 100000 := by simp; omega
  obtain ⟨v2, w2, hr2, c2', hg2⟩ := c1.row Try.underlying24 info_Cw hb1.size l1 r2 (by omega)
  have hb2 : Below w.heap.size w w2 := hb1.grown hg2 hb1.size (fun g hg => (c1.block hg).1)
  obtain ⟨a3, ha3, hsl⟩ := slice_from elem_Cw size_Cw a m c (k + 1) (by omega)
  have hrow : TabR 4 (RcOn F n w) w a3 (m - (k + 1)) (c - (k + 1)) (l.drop (k + 1)) := by rw [ha3]; exact TabR.dp h (show k + 1 ≤ m by omega)
  have r3 : TabR 4 (RcOn (Gp F w.heap.size v2) n w2) w2 a3 (m - (k + 1)) (c - (k + 1)) (l.drop (k + 1)) := TabR.mono (TabR.below (Nat.le_refl _) hb2 hrow) (fun cs y hy => RcOn.gp c2' hF (RcOn.below hy hb2))
  have l3 : ([] ++ l.take k ++ l2).length ≤ 100000 := by simp; omega
  obtain ⟨v3, w3, hr3, c3, hg3⟩ := c2'.row Try.underlying24 info_Cw hb2.size l3 r3 (by omega)
  have hb3 : Below w.heap.size w w3 := hb2.grown hg3 hb2.size (fun g hg => (c2'.block hg).1)
  have HE : Hid (CellsTo F n w (l.take k ++ l2 ++ l.drop (k + 1)) (.returned v3) w3) := Lib.hid ⟨v3, rfl, by simpa using c3, hb3⟩
  have hkc : k ≤ c := by omega
  rw [show ((k + 1 : Nat) : Int) = (k : Int) + 1 by omega] at hsl
  clear c0 c1 c2' c3 r2 r3 l1 l3 hb1 hb2 hb3 hg1 hg2 hg3 ha3 hrow h g hF e1 g1
  go_enter Try.func75, Try.ntmps75
  go_upto_region 3 with (at_builtin; refine wpList_append_run rfl _ _ _ _ rfl rfl rfl hr1 ?_)
  go_upto_region 4 with (at_builtin; refine wpList_append_run rfl _ _ _ _ rfl rfl rfl hr2 ?_)
  go_wp2_with (at_builtin; refine wpList_append_run rfl _ _ _ _ rfl rfl rfl hr3 ?_)
  go_ret
  exact HE.out
end Go.Proofs.Ytemfnjlfcemehaa

/- Rows of the document's cells: the first one's key written over; a node's parts. -/
namespace Go.Proofs.Ytemfnjlfcemehaa
open Go.RowKit

/-- A row of cells of the call's own whose cells stand on some blocks alone. -/
def CellsF (E : TypeId) (F : Nat → Prop) (n B : Nat) (w : World) (v : Value) (l : List Rc) : Prop := ∃ L : List (Cl 4), w.ownsRow B E 4 v l.length (flatC L) ∧ Tells (RcOn F n w) L l
theorem CellsF.nil (E : TypeId) (F : Nat → Prop) (n B : Nat) (w : World) : CellsF E F n B w (.slice none 0 0) [] := ⟨[], own_nil w E 4 B, Tells.nil⟩
theorem CellsF.below {E : TypeId} {F : Nat → Prop} {n B : Nat} {w w' : World} {v : Value} {l : List Rc} (h : CellsF E F n B w v l) (hb : Below w.heap.size w w') : CellsF E F n B w' v l := by
  obtain ⟨L, h1, h2⟩ := h
  exact ⟨L, own_held h1 hb, h2.mono (fun _ _ _ h => h.below hb)⟩
theorem CellsF.set {E : TypeId} {F : Nat → Prop} {n B : Nat} {w : World} {v : Value} {l : List Rc} (h : CellsF E F n B w v l) {p : Addr} (u : Value) (hp : v.ownBlock ≠ some p.block) (hF : ¬ F p.block) : CellsF E F n B (w.setCell p u) v l := by
  obtain ⟨L, h1, h2⟩ := h
  exact ⟨L, own_set h1 p u hp, h2.mono (fun _ _ _ h => h.agree (AgreeF.set ⟨Nat.le_refl _, fun _ _ _ => rfl⟩ (.inl hF)))⟩
theorem CellsF.ge {E : TypeId} {F : Nat → Prop} {n B : Nat} {w : World} {v : Value} {l : List Rc} (h : CellsF E F n B w v l) {b : Nat} (hb : v.ownBlock = some b) : B ≤ b ∧ b < w.heap.size := by
  obtain ⟨L, h1, _⟩ := h
  refine ⟨own_ge h1 b hb, ?_⟩
  rcases h1.2 with ⟨rfl, _⟩ | ⟨g, cap, cur, rfl, _, hg, _⟩
  · cases hb
  · cases hb; exact (Array.getElem?_eq_some_iff.1 hg).1
theorem CellsF.own {E : TypeId} {F : Nat → Prop} {n B : Nat} {w : World} {v : Value} {l : List Rc} (h : CellsF E F n B w v l) (hF : ∀ b, F b → b < B) : CellsOwn E F n B w v l := by
  have hge := fun b hb => (h.ge (b := b) hb).1
  obtain ⟨L, h1, h2⟩ := h
  exact ⟨L, h1, h2.mono (fun _ _ _ h => h.mono (fun b hb => ⟨.inl hb, fun e => by have := hge b e; have := hF b hb; omega⟩))⟩
theorem CellsF.row {P : Program} {E t : TypeId} (ht : P.underlying t = some (.slice E)) (hi : RowInfo P E 4 80) {F : Nat → Prop} {n B : Nat} {w : World} {v : Value} {l : List Rc} (h : CellsF E F n B w v l) (hB : B ≤ w.heap.size) (hF : ∀ b, F b → b < B) (hl : l.length ≤ 100000) {a : Option Addr} {m c : Nat} {l2 : List Rc} (hr : TabR 4 (RcOn F n w) w a m c l2) (hm : m ≤ 100000) :
    ∃ v' w', (Builtin.append_ #[t, t] t #[v, .slice a m c]).run P w = .ok v' w' ∧ CellsF E F n B w' v' (l ++ l2) ∧ w.grownBy w' v.ownBlock := by
  have hge := fun b hb => (h.ge (b := b) hb).1
  obtain ⟨L, h1, h2⟩ := h
  obtain ⟨L2, r1, r2⟩ := TabR.raw hr (fun _ _ h => h.one)
  obtain ⟨i, z, i1, i2, i3, i4, i5⟩ := hi
  have hlm : l2.length = m := by rw [← r2.1]; exact r1.1
  obtain ⟨v', w', hr, ho, hg, hv⟩ := run_append_raw (P := P) B t E i z 4 80 ht i1 i2 i3 i4 i5 (by decide) h1 r1 (by unfold maxLen; omega) (by omega) hB
  refine ⟨v', w', hr, ⟨L ++ L2, ?_, ?_⟩, hg⟩
  · rw [List.length_append, hlm]; exact ho
  · have hag : AgreeF F w w' := ⟨hg.size, fun b hb hlt => hg.block b hlt (fun e => by have := hge b e.symm; have := hF b hb; omega)⟩
    exact (h2.mono (fun _ _ _ h => h.agree hag)).append (r2.mono (fun _ _ _ h => h.agree hag))
/-- The first cell's key written over. -/
theorem CellsF.key0 {E : TypeId} {F : Nat → Prop} {n B : Nat} {w : World} {g m c : Nat} {y : Rc} {r : List Rc} (h : CellsF E F n B w (.slice (some ⟨g, 0, none⟩) m c) (y :: r)) (hF : ¬ F g) (key : List UInt8) :
    CellsF E F n B (w.setCell ⟨g, 0, none⟩ (.string (strOf key))) (.slice (some ⟨g, 0, none⟩) m c) (⟨key, y.val, y.kid⟩ :: r) := by
  obtain ⟨L, h1, h2⟩ := h
  have hag : AgreeF F w (w.setCell ⟨g, 0, none⟩ (.string (strOf key))) := AgreeF.set ⟨Nat.le_refl _, fun _ _ _ => rfl⟩ (.inl hF)
  cases L with
  | nil => have := h2.1; simp at this
  | cons x L' =>
    have hx : RcOn F n w x.1 y := h2.2 0 x y rfl rfl
    obtain ⟨pa, pn, pc, ka, kn, kc, ex, k1, k2, k3, k4⟩ := hx
    have hx' : RcOn F n w [.string (strOf key), .string (strOf y.val.data), .slice pa pn pc, .slice ka kn kc] ⟨key, y.val, y.kid⟩ := ⟨pa, pn, pc, ka, kn, kc, rfl, k1, k2, k3, k4⟩
    have hlen : (y :: r).length = m := by
      rcases h1.2 with ⟨e, _⟩ | ⟨g', cap, cur, e, _⟩
      · cases e
      · cases e; rfl
    have g0 := own_put (by rw [hlen] at h1; exact h1) 0 (.string (strOf key)) (by rw [← hlen]; simp)
    refine ⟨⟨_, hx'.len, hx'.one⟩ :: L', ?_, Tells.cons (hx'.agree hag) ?_⟩
    · have e1 : flatC (x :: L') = x.1 ++ flatC L' := rfl
      have e2 : flatC ((⟨[.string (strOf key), .string (strOf y.val.data), .slice pa pn pc, .slice ka kn kc], hx'.len, hx'.one⟩ : Cl 4) :: L') = [.string (strOf key), .string (strOf y.val.data), .slice pa pn pc, .slice ka kn kc] ++ flatC L' := rfl
      rw [e2]
      rw [e1, ex] at g0
      rw [show (⟨key, y.val, y.kid⟩ :: r : List Rc).length = m by rw [← hlen]; rfl]
      exact g0
    · refine ⟨by have := h2.1; simpa using this, fun i a b ha hb => ?_⟩
      exact (h2.2 (i + 1) a b (by simpa using ha) (by simpa using hb)).agree hag
/-- The cells of a node's parts. -/
theorem cells_part (A : Nat) (kid : Tr) : cellsR (partT A kid).1 = (cellsR kid).take A ∧ (partT A kid).1.page = 0 ∧ (partT A kid).1.isLeaf = kid.isLeaf ∧ (partT A kid).2.1.page = 0 ∧ (partT A kid).2.1.isLeaf = kid.isLeaf := by
  cases kid <;> simp [partT, cellsR, Tr.page, Tr.isLeaf]
theorem cells_part_leaf (A : Nat) (p : Int) (l : List (List UInt8 × Tv)) : cellsR (partT A (.leaf p l)).2.1 = (cellsR (.leaf p l)).drop A := by simp [partT, cellsR]
theorem cells_part_node (A : Nat) (p : Int) (l : List (List UInt8 × Tr)) {y : Rc} {r : List Rc} (h : (cellsR (.node p l)).drop A = y :: r) : cellsR (partT A (.node p l)).2.1 = ⟨[], y.val, y.kid⟩ :: r := by
  simp only [partT, cellsR] at h ⊢
  rw [← List.map_drop] at h
  cases hd : l.drop A with
  | nil => rw [hd] at h; cases h
  | cons c q =>
    rw [hd] at h
    cases h
    rfl
theorem part_key (A : Nat) (kid : Tr) {y : Rc} {r : List Rc} (h : (cellsR kid).drop A = y :: r) : (partT A kid).2.2 = y.key := by
  have hk : (cellsR kid)[A]? = some y := by
    have := congrArg (fun l => l[0]?) h
    simpa [List.getElem?_drop] using this
  cases kid with
  | leaf p l =>
    rw [cellsR_leaf] at hk
    obtain ⟨c, h1, h2⟩ := Option.map_eq_some_iff.1 hk
    subst h2
    simp [partT, keyAt, h1]
  | node p l =>
    rw [cellsR_node] at hk
    obtain ⟨c, h1, h2⟩ := Option.map_eq_some_iff.1 hk
    subst h2
    simp [partT, keyAt, h1]
end Go.Proofs.Ytemfnjlfcemehaa

/- The document's cells with one kid each, made of fresh blocks. -/
namespace Go.Proofs.Ytemfnjlfcemehaa
open Go.RowKit

theorem agr {F : Nat → Prop} (w : World) : AgreeF F w w := ⟨Nat.le_refl _, fun _ _ _ => rfl⟩
theorem agal {F : Nat → Prop} {a w : World} {o : Obj} (h : AgreeF F a w) : AgreeF F a (w.alloc o) := h.trans (.of_below (Below.al (Below.refl _ _)))
theorem agdr {F : Nat → Prop} {a w : World} (h : AgreeF F a w) : AgreeF F a w.drew := h
theorem agst {r : Nat} {a w : World} {i : Nat} {u : Value} (h : AgreeF (fun b => b ≠ r) a w) : AgreeF (fun b => b ≠ r) a (w.setCell ⟨r, i, none⟩ u) := h.set (.inl fun h => h rfl)
/-- A row of one node. -/
theorem one_kid {G : Nat → Prop} {n : Nat} {W : World} {b : Nat} {x0 x1 x2 : Value} {t : Tr} (hx : BoxAt W b #[x0, x1, x2]) (h : RNodeOn G n W [x0, x1, x2] t) : TabR 3 (RNodeOn G n W) W (some ⟨b, 0, none⟩) 1 1 [t] := by
  have hr := raw_box (w := W) (b := b) (L := [(⟨[x0, x1, x2], rfl, h.one⟩ : Cl 3)]) hx (by show 1 ≤ 1000; omega)
  exact Raw.tab hr (Tells.one h)
/-- A cell of a kid. -/
theorem cell_kid {G : Nat → Prop} {n : Nat} {W : World} {b : Nat} {x0 x1 x2 : Value} {t : Tr} (key : List UInt8) (hx : BoxAt W b #[x0, x1, x2]) (h : RNodeOn G n W [x0, x1, x2] t) (hb : G b) :
    RcOn G n W [.string (strOf key), .string (strOf []), .slice none 0 0, .slice (some ⟨b, 0, none⟩) 1 1] ⟨key, ⟨[], []⟩, some t⟩ :=
  ⟨none, 0, 0, some ⟨b, 0, none⟩, 1, 1, rfl, ⟨rfl, Nat.le_refl _, by unfold maxLen; omega, fun _ => rfl, .inl rfl⟩, .inl rfl, one_kid hx h, .inr fun b' off e => by cases e; exact hb⟩
/-- A row of two cells. -/
theorem two_cells {G : Nat → Prop} {n : Nat} {W : World} {z : Nat} {u0 u1 u2 u3 v0 v1 v2 v3 : Value} {y y' : Rc} (hz : BoxAt W z #[u0, u1, u2, u3, v0, v1, v2, v3]) (h : RcOn G n W [u0, u1, u2, u3] y) (g : RcOn G n W [v0, v1, v2, v3] y') :
    TabR 4 (RcOn G n W) W (some ⟨z, 0, none⟩) 2 2 [y, y'] := by
  have hr := raw_box (w := W) (b := z) (L := [(⟨[u0, u1, u2, u3], rfl, h.one⟩ : Cl 4), ⟨[v0, v1, v2, v3], rfl, g.one⟩]) hz (by show 2 ≤ 1000; omega)
  exact Raw.tab hr (Tells.cons h (Tells.one g))
/-- A row of one cell. -/
theorem one_cell {G : Nat → Prop} {n : Nat} {W : World} {z : Nat} {u0 u1 u2 u3 : Value} {y : Rc} (hz : BoxAt W z #[u0, u1, u2, u3]) (h : RcOn G n W [u0, u1, u2, u3] y) :
    TabR 4 (RcOn G n W) W (some ⟨z, 0, none⟩) 1 1 [y] := by
  have hr := raw_box (w := W) (b := z) (L := [(⟨[u0, u1, u2, u3], rfl, h.one⟩ : Cl 4)]) hz (by show 1 ≤ 1000; omega)
  exact Raw.tab hr (Tells.one h)
/-- What is parted, as cells. -/
theorem split_cells {l : List (List UInt8 × Tr)} {k A : Nat} {kid : Tr} {xk : List UInt8} (hx : l[k]? = some (xk, kid)) (hA : atF (sizesT kid) = (A : Int)) (h0 : 0 < A) (p : Int) :
    ∃ m, splitT l k = some m ∧ cellsR (.node 0 m) = (cellsR (.node p l)).take k ++ [⟨xk, ⟨[], []⟩, some (partT A kid).1⟩, ⟨(partT A kid).2.2, ⟨[], []⟩, some (partT A kid).2.1⟩] ++ (cellsR (.node p l)).drop (k + 1) := by
  have hkey : keyAt l k = xk := by unfold keyAt; rw [hx]; rfl
  have hkd : kidAt l k = kid := by unfold kidAt; rw [hx]; rfl
  refine ⟨l.take k ++ ((xk, (partT A kid).1) :: ((partT A kid).2.2, (partT A kid).2.1) :: l.drop (k + 1)), ?_, ?_⟩
  · unfold splitT
    rw [hkd, hkey, hA, if_neg (by omega), Int.toNat_natCast]
  · simp [cellsR, List.map_take, List.map_drop]
/-- What a call of 'with' leaves: a row that is a node's, on some blocks. -/
def RowTo (G : Nat → Prop) (n : Nat) (wc : World) (t : Tr) (m : Nat) (e : Ending) (w' : World) : Prop :=
  ∃ a d, e = .returned (.slice a m d) ∧ RNodeOn G (n + 1) w' [.int .i64 0, .bool t.isLeaf, .slice a m d] t ∧ Below wc.heap.size wc w'
theorem row_to {G : Nat → Prop} {n : Nat} {wc W w' : World} {e : Ending} {t : Tr} {m : Nat} {cs : List Rc} (hp : t.page = 0) (hm : cntT t = m) (hl : cellsR t = cs) (hb : Below wc.heap.size wc W) (hG : ∀ b, W.heap.size ≤ b → G b)
    (h : CellsTo (fun x => G x ∧ x < W.heap.size) n W cs e w') : RowTo G n wc t m e w' := by
  subst hl hm
  obtain ⟨v, rfl, h1, h2⟩ := h
  obtain ⟨a, d, rfl, _, _, k1, k2⟩ := h1.sl
  rw [cellsR_len] at k1 k2 ⊢
  refine ⟨a, d, rfl, ?_, below_via hb h2⟩
  have := RNodeOn.mk (t := t) (F := G) (TabR.mono k1 (fun _ _ h => h.mono (fun b hb => by
    rcases hb.1 with hb | hb
    · exact hb.1
    · exact hG b hb))) (k2.mono hG)
  rw [hp] at this
  exact this
/-- 'with', for a node. -/
theorem with_to {G : Nat → Prop} {n : Nat} {wc W : World} {a : Option Addr} {m c : Nat} {L : List Rc} {a2 : Option Addr} {m2 c2 k : Nat} {l2 : List Rc} {t : Tr} {q : Nat} (hp : t.page = 0) (hq : cntT t = q) (hl : cellsR t = L.take k ++ l2 ++ L.drop (k + 1)) (hb : Below wc.heap.size wc W) (hG : ∀ b, wc.heap.size ≤ b → G b)
    (h : TabR 4 (RcOn G n W) W a m c L) (g : TabR 4 (RcOn G n W) W a2 m2 c2 l2) (hk : k < m) (hm : m ≤ 2000) (hm2 : m2 ≤ 2000) :
    Calls Try.prog 75 #[.slice a m c, .int .i64 (k : Int), .slice a2 m2 c2] W (RowTo G n wc t q) :=
  (with_any (fun _ h => h.2) (TabR.mono h (fun _ _ hy => RcOn.lt hy)) (TabR.mono g (fun _ _ hy => RcOn.lt hy)) hk hm hm2).mono fun _ _ h => row_to hp hq hl hb (fun b h => hG b (Nat.le_trans hb.size h)) h
/-- 'with' of two fresh cells. -/
theorem with_two {G : Nat → Prop} {n : Nat} {wc W : World} {a : Option Addr} {m c k : Nat} {L : List Rc} {t : Tr} {q : Nat} (hp : t.page = 0) (hq : cntT t = q) (hb : Below wc.heap.size wc W) (hG : ∀ b, wc.heap.size ≤ b → G b) (h : TabR 4 (RcOn G n wc) wc a m c L) (hk : k < m) (hm : m ≤ 2000) {ra rb z : Nat} {xk key : List UInt8} {TA TB : Tr} {x0 x1 x2 y0 y1 y2 : Value} {v0 : _}
    (hl : cellsR t = L.take k ++ [⟨xk, ⟨[], []⟩, some TA⟩, ⟨key, ⟨[], []⟩, some TB⟩] ++ L.drop (k + 1)) (hv : v0 = strOf []) (g1 : RNodeOn G n wc [x0, x1, x2] TA) (g2 : RNodeOn G n wc [y0, y1, y2] TB) (r1 : wc.heap.size ≤ ra) (r2 : wc.heap.size ≤ rb)
    (hA : BoxAt W ra #[x0, x1, x2]) (hB : BoxAt W rb #[y0, y1, y2]) (hz : BoxAt W z #[.string (strOf xk), .string v0, .slice none 0 0, .slice (some ⟨ra, 0, none⟩) 1 1, .string (strOf key), .string v0, .slice none 0 0, .slice (some ⟨rb, 0, none⟩) 1 1]) :
    Calls Try.prog 75 #[.slice a m c, .int .i64 (k : Int), .slice (some ⟨z, 0, none⟩) 2 2] W (RowTo G n wc t q) := by
  subst hv
  exact with_to hp hq hl hb hG (TabR.mono (TabR.below (Nat.le_refl _) hb h) (fun _ _ hy => RcOn.below hy hb)) (two_cells hz (cell_kid xk hA (g1.below hb) (hG _ r1)) (cell_kid key hB (g2.below hb) (hG _ r2))) hk hm (by omega)
/-- 'with' of one fresh cell. -/
theorem with_one {G : Nat → Prop} {n : Nat} {wc W : World} {a : Option Addr} {m c k : Nat} {L : List Rc} {t : Tr} {q : Nat} (hp : t.page = 0) (hq : cntT t = q) (hb : Below wc.heap.size wc W) (hG : ∀ b, wc.heap.size ≤ b → G b) (h : TabR 4 (RcOn G n wc) wc a m c L) (hk : k < m) (hm : m ≤ 2000) {ra z : Nat} {xk : List UInt8} {TA : Tr} {x0 x1 x2 : Value} {v0 : _}
    (hl : cellsR t = L.take k ++ [⟨xk, ⟨[], []⟩, some TA⟩] ++ L.drop (k + 1)) (hv : v0 = strOf []) (g1 : RNodeOn G n wc [x0, x1, x2] TA) (r1 : wc.heap.size ≤ ra)
    (hA : BoxAt W ra #[x0, x1, x2]) (hz : BoxAt W z #[.string (strOf xk), .string v0, .slice none 0 0, .slice (some ⟨ra, 0, none⟩) 1 1]) :
    Calls Try.prog 75 #[.slice a m c, .int .i64 (k : Int), .slice (some ⟨z, 0, none⟩) 1 1] W (RowTo G n wc t q) := by
  subst hv
  exact with_to hp hq hl hb hG (TabR.mono (TabR.below (Nat.le_refl _) hb h) (fun _ _ hy => RcOn.below hy hb)) (one_cell hz (cell_kid xk hA (g1.below hb) (hG _ r1))) hk hm (by omega)
/-- A node beside a box that is none of its blocks: the box written over. -/
theorem RNodeOn.put3 {G : Nat → Prop} {n : Nat} {W : World} {cs : List Value} {t : Tr} (h : RNodeOn G n W cs t) {r : Nat} (hr : ¬ G r) (u0 u1 u2 : Value) : RNodeOn G n (((W.setCell ⟨r, 0, none⟩ u0).setCell ⟨r, 1, none⟩ u1).setCell ⟨r, 2, none⟩ u2) cs t :=
  h.agree (((AgreeF.set (AgreeF.set (AgreeF.set ⟨Nat.le_refl _, fun _ _ _ => rfl⟩ (.inl hr)) (.inl hr)) (.inl hr))))
end Go.Proofs.Ytemfnjlfcemehaa
