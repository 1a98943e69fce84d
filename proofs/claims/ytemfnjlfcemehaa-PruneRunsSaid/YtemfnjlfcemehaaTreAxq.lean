/- The laws of prune: awake (printed by gen_treAx.py). -/
import Derived.Test.YtemfnjlfcemehaaTreWoq
import Derived.Test.YtemfnjlfcemehaaM8
import Derived.Test.YtemfnjlfcemehaaTreCqq
namespace Go.Proofs.Ytemfnjlfcemehaa
open Go.RowKit

theorem good_some : ∀ {n : Nat} {lo hi : List UInt8} {t : Tr}, Good n lo hi t → entsT n t ≠ []
  | 0, _, _, _, h => h.1.elim
  | n + 1, lo, hi, .leaf p l, h => by
    intro e
    have e : l = [] := e
    subst e
    have := h.2.1
    simp [sumT, sizesT, sumI] at this
  | n + 1, lo, hi, .node p l, h => by
    intro e
    have e : entsK n l = [] := e
    have hk := (shape_kids h.1).1
    cases l with
    | nil => exact kids_ne hk rfl
    | cons c r =>
      obtain ⟨_, _, hg⟩ := kids_each hk c (by simp)
      rw [entsK_cons] at e
      exact good_some hg (List.append_eq_nil_iff.1 e).1
theorem whole_none {m : Nat} {T : Tr} (hw : Whole m T) (h : entsT m T = []) : T = .leaf 0 [] ∧ m = 1 := by
  refine empty_of hw ?_
  cases m with
  | zero => exact hw.1.1.elim
  | succ m =>
    cases T with
    | leaf p l => have h : l = [] := h; subst h; rfl
    | node p l =>
      have h : entsK m l = [] := h
      have hk := (shape_kids hw.1.1).1
      cases l with
      | nil => exact absurd rfl (kids_ne hk)
      | cons c r =>
        obtain ⟨_, _, hg⟩ := kids_each hk c (by simp)
        rw [entsK_cons] at h
        exact absurd (List.append_eq_nil_iff.1 h).1 (good_some hg)
theorem ax_put : putW 1 (.leaf 0 []) [107] ⟨[118], []⟩ = .leaf 0 [([107], ⟨[118], []⟩)] := by
  unfold putW putT topT
  rw [if_pos (by decide)]; rfl
theorem ax_del : delW 1 (.leaf 0 [([107], ⟨[118], []⟩)]) [107] = .leaf 0 [] := by
  unfold delW
  rw [if_neg (by decide)]
  show topT 1 (.leaf 0 (delL [107] [([107], ⟨[118], []⟩)])) = _
  unfold topT
  rw [if_pos (by decide)]
  rfl
theorem keys_made (W : World) (t : TypeId) (ks : List (List UInt8)) (h9 : ks.length ≤ 1000) : KeysIn (W.alloc (.cells (ks.map fun k => Value.string (strOf k)).toArray t)) (some ⟨W.heap.size, 0, none⟩) ks.length ks.length ks := by
  have := raw_box (w := W.alloc (.cells (ks.map fun k => Value.string (strOf k)).toArray t)) (b := W.heap.size) (L := ks.map kCell) (by rw [flat_keys]; exact BoxAt.here) (by simpa using h9)
  rw [List.length_map] at this
  exact Raw.tab this (tells_keys ks)
set_option maxRecDepth 100000 in
set_option maxHeartbeats 4000000 in
theorem awake16_any (w : World) : Calls Try.prog 48 #[] w fun e w' => e = .returned (.bool true) ∧ Below w.heap.size w w' := by
  have E := tempty_any w (fun _ => False)
  go_enter Try.func48, Try.ntmps48
  go_wp2_with fail
  refine E.mono ?_
  rintro e w1 ⟨cs, rfl, h1, hb1⟩
  obtain ⟨a1, c1, a2, c2, a3, c3, e1, h1⟩ := empty_on (F := fun _ => False) h1
  subst e1
  have P := tPut_whole h1 whole_empty [107] [118] ⟨by decide, by decide⟩ (by decide)
  clear E h1
  go_wp2_with fail
  refine P.mono ?_
  rintro e w2 ⟨m, cs, hm, rfl, h2, hw2, _, hb2⟩
  rw [ax_put] at h2 hw2
  have hw0 : Whole 1 (.leaf 0 [([107], ⟨[118], []⟩)]) := by
    obtain ⟨m', hm', hw', _⟩ := whole_put (key := [107]) (v := ⟨[118], []⟩) whole_empty ⟨by decide, by decide⟩ ⟨by decide, fun h => absurd rfl h⟩
    rw [ax_put] at hw'
    cases m' with
    | zero => exact hw'.1.1.elim
    | succ q =>
      have : q = 0 := hw'.1.1.1
      subst this
      exact hw'
  obtain rfl : m = 1 := whole_level hw2 hw0
  obtain ⟨b1, d1, b2, m2, d2, b3, m3, d3, e2, _, k2⟩ := h2.words
  replace e2 : cs = [.int .i64 0, .bool true, .slice b1 1 d1, .slice b2 m2 d2, .slice b3 m3 d3] := e2
  subst e2
  have hX2 := (Boxes.nil w2).alloc #[.int .i64 0, .bool true, .slice b1 1 d1, .slice b2 m2 d2, .slice b3 m3 d3] 33 (b := w2.heap.size) rfl
  have hB2 : Below w2.heap.size w2 (w2.alloc (.cells #[.int .i64 0, .bool true, .slice b1 1 d1, .slice b2 m2 d2, .slice b3 m3 d3] 33)) := Below.al (Below.refl _ _)
  obtain ⟨wA, hwA⟩ : ∃ x, w2.alloc (.cells #[.int .i64 0, .bool true, .slice b1 1 d1, .slice b2 m2 d2, .slice b3 m3 d3] 33) = x := ⟨_, rfl⟩
  rw [hwA] at hX2 hB2
  have hb12 := hb1.trans ((hb2.trans (hB2.mono hb2.size)).mono hb1.size)
  have n1 := h2.below hB2
  have HBA := Lib.hid hb12
  have DK : ∀ W, Below wA.heap.size wA W → Calls Try.prog 51 #[.agg #[.int .i64 0, .bool true, .slice b1 1 d1, .slice b2 m2 d2, .slice b3 m3 d3], .string (strOf [107])] W (fun e w' => ∃ x1 y1 x2 n2 y2 x3 n3 y3, e = .returned (.tuple #[.agg #[.int .i64 0, .bool true, .slice x1 0 y1, .slice x2 n2 y2, .slice x3 n3 y3], .bool true]) ∧ NodeIn 1 w' [.int .i64 0, .bool true, .slice x1 0 y1, .slice x2 n2 y2, .slice x3 n3 y3] (.leaf 0 []) ∧ Below W.heap.size W w') := fun W hW => (pdel_any [107] (n1.below hW) hw0).mono fun e w' h => by
    obtain ⟨m, p, lf, a1, n1, c1, a2, n2, c2, a3, n3, c3, _, rfl, hn, hw, _, hb⟩ := h
    rw [ax_del] at hn hw
    obtain ⟨_, _, _, _, _, _, _, _, he, _, _⟩ := hn.words
    have hm1 : m = 1 := by
      cases m with
      | zero => exact hw.1.1.elim
      | succ q => have : q = 0 := hw.1.1.1; omega
    subst hm1
    simp [Tr.page, Tr.isLeaf, cntT] at he
    obtain ⟨rfl, rfl, ⟨rfl, rfl, rfl⟩, ⟨rfl, rfl, rfl⟩, ⟨rfl, rfl, rfl⟩⟩ := he
    exact ⟨_, _, _, _, _, _, _, _, rfl, hn.toIn, hb⟩
  have DJ : ∀ W, Below wA.heap.size wA W → Calls Try.prog 51 #[.agg #[.int .i64 0, .bool true, .slice b1 1 d1, .slice b2 m2 d2, .slice b3 m3 d3], .string (strOf [106])] W (fun e w' => ∃ p lf x1 n1 y1 x2 n2 y2 x3 n3 y3, e = .returned (.tuple #[.agg #[.int .i64 p, .bool lf, .slice x1 n1 y1, .slice x2 n2 y2, .slice x3 n3 y3], .bool false]) ∧ Below W.heap.size W w') := fun W hW => (pdel_any [106] (n1.below hW) hw0).mono fun e w' h => by
    obtain ⟨m, p, lf, a1, n1, c1, a2, n2, c2, a3, n3, c3, _, rfl, _, _, _, hb⟩ := h
    exact ⟨_, _, _, _, _, _, _, _, _, _, _, rfl, hb⟩
  have WO : ∀ W (a : Option Addr), Below wA.heap.size wA W → KeysIn W a 3 3 [[97], [107], [107]] → Calls Try.prog 54 #[.agg #[.int .i64 0, .bool true, .slice b1 1 d1, .slice b2 m2 d2, .slice b3 m3 d3], .slice a 3 3] W (fun e w' => ∃ x1 y1 x2 n2 y2 x3 n3 y3, e = .returned (.tuple #[.agg #[.int .i64 0, .bool true, .slice x1 0 y1, .slice x2 n2 y2, .slice x3 n3 y3], .int .i64 1]) ∧ Below W.heap.size W w') := fun W a hW hK => (without_any (n1.below hW) hw0 hK (by decide)).mono fun e w' h => by
    obtain ⟨m, T, p, lf, a1, n1, c1, a2, n2, c2, a3, n3, c3, _, rfl, hn, hw, he, _, hb⟩ := h
    obtain ⟨rfl, rfl⟩ := whole_none hw (by rw [he]; decide)
    obtain ⟨_, _, _, _, _, _, _, _, he, _, _⟩ := hn.words
    simp [Tr.page, Tr.isLeaf, cntT] at he
    obtain ⟨rfl, rfl, ⟨rfl, rfl, rfl⟩, ⟨rfl, rfl, rfl⟩, ⟨rfl, rfl, rfl⟩⟩ := he
    exact ⟨_, _, _, _, _, _, _, _, rfl, hb⟩
  have hA2 : Below wA.heap.size wA wA := Below.refl _ _
  have q0 := hX2.cell 0 0 rfl rfl
  have q1 := hX2.cell 0 1 rfl rfl
  have q2 := hX2.cell 0 2 rfl rfl
  have q3 := hX2.cell 0 3 rfl rfl
  have q4 := hX2.cell 0 4 rfl rfl
  have HZ2 := Lib.hid (show w.heap.size ≤ w2.heap.size from by have := hb1.size; have := hb2.size; omega)
  clear P h2 hb1 hb2 hB2 hb12 n1 hw2
  go_wp2_with fail
  try rw [hwA]
  refine (DK _ hA2).mono ?_
  rintro e w3 ⟨x1, y1, x2, n2, y2, x3, n3, y3, rfl, hn3, hb3⟩
  have hal3 : Below w3.heap.size w3 (w3.alloc (.cells #[.int .i64 0, .bool true, .slice x1 0 y1, .slice x2 n2 y2, .slice x3 n3 y3] 33)) := Below.al (Below.refl _ _)
  have hX3 := (hX2.step hb3).alloc #[.int .i64 0, .bool true, .slice x1 0 y1, .slice x2 n2 y2, .slice x3 n3 y3] 33 (b := w3.heap.size) rfl
  have hn3' := hn3.below hal3
  obtain ⟨wB, hwB⟩ : ∃ x, w3.alloc (.cells #[.int .i64 0, .bool true, .slice x1 0 y1, .slice x2 n2 y2, .slice x3 n3 y3] 33) = x := ⟨_, rfl⟩
  rw [hwB] at hal3 hX3 hn3'
  have hA3 := hA2.trans ((hb3.trans (hal3.mono hb3.size)).mono hA2.size)
  clear q0 q1 q2 q3 q4
  have q0 := hX3.cell 1 0 rfl rfl
  have q1 := hX3.cell 1 1 rfl rfl
  have q2 := hX3.cell 1 2 rfl rfl
  have q3 := hX3.cell 1 3 rfl rfl
  have q4 := hX3.cell 1 4 rfl rfl
  clear hwA hb3 hal3 hn3
  go_wp2_with fail
  try rw [hwB]
  refine (DJ _ hA3).mono ?_
  rintro e w4 ⟨p4, l4, z1, i1, j1, z2, i2, j2, z3, i3, j3, rfl, hb4⟩
  have hal4 : Below w4.heap.size w4 (w4.alloc (.cells #[.int .i64 p4, .bool l4, .slice z1 i1 j1, .slice z2 i2 j2, .slice z3 i3 j3] 33)) := Below.al (Below.refl _ _)
  obtain ⟨wC, hwC⟩ : ∃ x, w4.alloc (.cells #[.int .i64 p4, .bool l4, .slice z1 i1 j1, .slice z2 i2 j2, .slice z3 i3 j3] 33) = x := ⟨_, rfl⟩
  rw [hwC] at hal4
  have hBC : Below wB.heap.size wB wC := hb4.trans (hal4.mono hb4.size)
  have hX4 := hX3.step hBC
  have hA4 := hA3.trans (hBC.mono hA3.size)
  have hK4 := keys_made wC 9 [[97], [107], [107]] (by decide)
  have hal5 : Below wC.heap.size wC (wC.alloc (.cells ([[97], [107], [107]].map fun k => Value.string (strOf k)).toArray 9)) := Below.al (Below.refl _ _)
  have W5 := WO _ _ (hA4.trans (hal5.mono hA4.size)) hK4
  clear q0 q1 q2 q3 q4
  have q0 := hX4.cell 1 0 rfl rfl
  have q1 := hX4.cell 1 1 rfl rfl
  have q2 := hX4.cell 1 2 rfl rfl
  have q3 := hX4.cell 1 3 rfl rfl
  have q4 := hX4.cell 1 4 rfl rfl
  clear hwB hb4 hal4
  go_wp2_with fail
  try rw [hwC]

  refine W5.mono ?_
  rintro e w5 ⟨g1, f1, g2, o2, f2, g3, o3, f3, rfl, hb5⟩
  have hal6 : Below w5.heap.size w5 (w5.alloc (.cells #[.int .i64 0, .bool true, .slice g1 0 f1, .slice g2 o2 f2, .slice g3 o3 f3] 33)) := Below.al (Below.refl _ _)
  have hX5 := ((hX4.step (hal5.trans (hb5.mono hal5.size))).alloc #[.int .i64 0, .bool true, .slice g1 0 f1, .slice g2 o2 f2, .slice g3 o3 f3] 33 (b := w5.heap.size) rfl)
  obtain ⟨wE, hwE⟩ : ∃ x, w5.alloc (.cells #[.int .i64 0, .bool true, .slice g1 0 f1, .slice g2 o2 f2, .slice g3 o3 f3] 33) = x := ⟨_, rfl⟩
  rw [hwE] at hal6 hX5
  have hCE : Below wC.heap.size wC wE := (hal5.trans (hb5.mono hal5.size)).trans (hal6.mono (hal5.trans (hb5.mono hal5.size)).size)
  have hBE := hBC.trans (hCE.mono hBC.size)
  have CC : Calls Try.prog 39 #[.agg #[.int .i64 0, .bool true, .slice x1 0 y1, .slice x2 n2 y2, .slice x3 n3 y3]] wE (fun e w' => e = .returned (.bool true) ∧ Below wE.heap.size wE w') := (tcheck_any (hn3'.below hBE) whole_empty.bnd (by omega)).mono fun e w' h => by rw [whole_check whole_empty] at h; exact h
  have hA6 := hA4.trans (hCE.mono hA4.size)
  clear q0 q1 q2 q3 q4
  have q0 := hX5.cell 1 0 rfl rfl
  have q1 := hX5.cell 1 1 rfl rfl
  have q2 := hX5.cell 1 2 rfl rfl
  have q3 := hX5.cell 1 3 rfl rfl
  have q4 := hX5.cell 1 4 rfl rfl
  have r0 := hX5.cell 0 0 rfl rfl
  have r1 := hX5.cell 0 1 rfl rfl
  have r2 := hX5.cell 0 2 rfl rfl
  have r3 := hX5.cell 0 3 rfl rfl
  have r4 := hX5.cell 0 4 rfl rfl
  have HX5 := Lib.hid hX5
  have HA6 := Lib.hid hA6
  clear hwC hb5 hal5 hal6 hX5 hBE hCE hA6 W5 WO DJ DK
  go_wp2_with fail
  try rw [hwE]
  refine CC.mono ?_
  rintro e w6 ⟨rfl, hb6⟩
  have hX6 := HX5.out.step hb6
  have HE := Lib.hid (HBA.out.trans ((HA6.out.trans (hb6.mono HA6.out.size)).mono HBA.out.size))
  clear q0 q1 q2 q3 q4 r0 r1 r2 r3 r4
  have q0 := hX6.cell 1 0 rfl rfl
  have q1 := hX6.cell 1 1 rfl rfl
  have q2 := hX6.cell 1 2 rfl rfl
  have q3 := hX6.cell 1 3 rfl rfl
  have q4 := hX6.cell 1 4 rfl rfl
  have r0 := hX6.cell 0 0 rfl rfl
  have r1 := hX6.cell 0 1 rfl rfl
  have r2 := hX6.cell 0 2 rfl rfl
  have r3 := hX6.cell 0 3 rfl rfl
  have r4 := hX6.cell 0 4 rfl rfl
  clear hX6 hb6 CC
  go_wp2_with fail
  go_ret
  exact ⟨rfl, HE.out⟩
end Go.Proofs.Ytemfnjlfcemehaa
