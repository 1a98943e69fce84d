/- prune.Delete: the walk. -/
import Derived.Test.YtemfnjlfcemehaaTreDeq
namespace Go.Proofs.Ytemfnjlfcemehaa
open Go.RowKit

/-- A tree that a delete leaves, and whether the key was there. -/
def DelTo (F : Nat → Prop) (n : Nat) (w : World) (t : Tr) (key : List UInt8) (e : Ending) (w' : World) : Prop :=
  ∃ m p lf a1 n1 c1 a2 n2 c2 a3 n3 c3, m ≤ n + 1 ∧ e = .returned (.tuple #[.agg #[.int .i64 p, .bool lf, .slice a1 n1 c1, .slice a2 n2 c2, .slice a3 n3 c3], .bool (lookT (entsT n t) key).isSome]) ∧
    NodeOn (Fr F w) m w' [.int .i64 p, .bool lf, .slice a1 n1 c1, .slice a2 n2 c2, .slice a3 n3 c3] (delW n t key) ∧ Whole m (delW n t key) ∧ entsT m (delW n t key) = delL key (entsT n t) ∧ Below w.heap.size w w'
/-- Whatever is found or not. -/
theorem res_end {F : Nat → Prop} {n m : Nat} {w w3 : World} {t T : Tr} {key : List UInt8} {B : Nat} {p : Int} {l : Bool} {a : Option Addr} {k c : Nat} {a2 : Option Addr} {n2 c2 : Nat} {a3 : Option Addr} {n3 c3 : Nat} {x0 x1 x2 x3 x4 : Value} {b : Bool} (hm : m ≤ n + 1) (hT : delW n t key = T) (hb : (lookT (entsT n t) key).isSome = b) (hw : Whole m T) (he : entsT m T = delL key (entsT n t))
    (hB : Below w.heap.size w w3) (hX : Boxes w3 [(B, [x0, x1, x2, x3, x4])]) (hwB : w.heap.size ≤ B) (hn : NodeOn (fun b => (F b ∧ b < w.heap.size) ∨ B + 1 ≤ b) m w3 [.int .i64 p, .bool l, .slice a k c, .slice a2 n2 c2, .slice a3 n3 c3] T) :
    Boxes (set5 w3 B (.int .i64 p) (.bool l) (.slice a k c) (.slice a2 n2 c2) (.slice a3 n3 c3)) [(B, [.int .i64 p, .bool l, .slice a k c, .slice a2 n2 c2, .slice a3 n3 c3])] ∧
    DelTo F n w t key (.returned (.tuple #[.agg #[.int .i64 p, .bool l, .slice a k c, .slice a2 n2 c2, .slice a3 n3 c3], .bool b])) (set5 w3 B (.int .i64 p) (.bool l) (.slice a k c) (.slice a2 n2 c2) (.slice a3 n3 c3)) := by
  subst hT hb
  have hne : ¬ ((F B ∧ B < w.heap.size) ∨ B + 1 ≤ B) := by omega
  refine ⟨set5_box hX (by simp) _ _ _ _ _, m, p, l, a, k, c, a2, n2, c2, a3, n3, c3, hm, rfl, NodeOn.mono (fun b h => ?_) (hn.agree (agree_set5 hne _ _ _ _ _)), hw, he, set5_below hB hwB _ _ _ _ _⟩
  rcases h with h | h
  · exact .inl h.1
  · exact .inr (by omega)
theorem empty_of {m : Nat} {T : Tr} (hw : Whole m T) (h : cntT T = 0) : T = .leaf 0 [] ∧ m = 1 := by
  rcases hw.2 with h1 | h1
  · cases T with
    | node p l => cases h1
    | leaf p l =>
      unfold emptyB at h1
      simp at h1
      obtain ⟨rfl, rfl⟩ := h1
      refine ⟨rfl, ?_⟩
      cases m with
      | zero => exact hw.1.1.elim
      | succ m => have : m = 0 := hw.1.1.1; omega
  · omega
set_option maxRecDepth 100000 in
set_option maxHeartbeats 2000000 in
theorem pdel_any {N : Nat} {F : Nat → Prop} {w : World} {cs : List Value} {t : Tr} (key : List UInt8) (h : NodeOn F N w cs t) (hw : Whole N t) :
    Calls Try.prog 51 #[.agg cs.toArray, .string (strOf key)] w (DelTo F N w t key) := by
  have hlt := h.lt
  obtain ⟨a1, c1, a2, n2, c2, a3, n3, c3, ecs, _, _⟩ := h.words
  subst ecs
  have hfl := whole_find hw key
  obtain ⟨m1, hm1, hwd, hed⟩ := whole_del (key := key) hw
  obtain ⟨TD, hTD⟩ : ∃ T, delW N t key = T := ⟨_, rfl⟩
  rw [hTD] at hwd hed
  obtain ⟨p, hp⟩ : ∃ x, t.page = x := ⟨_, rfl⟩
  obtain ⟨lf, hlf⟩ : ∃ x, t.isLeaf = x := ⟨_, rfl⟩
  obtain ⟨n1, hn1⟩ : ∃ x, cntT t = x := ⟨_, rfl⟩
  rw [hp, hlf, hn1] at h hlt ⊢
  clear hp hlf hn1
  have hB0 : Below w.heap.size w (((w.alloc (.cells #[.int .i64 p, .bool lf, .slice a1 n1 c1, .slice a2 n2 c2, .slice a3 n3 c3] 33)).alloc (.cells #[.string (strOf key)] 9)).alloc (.cells #[.int .i64 0, .bool false, .slice none 0 0, .slice none 0 0, .slice none 0 0] 33)) := Below.al (Below.al (Below.al (Below.refl _ _)))
  have hX0 : Boxes _ [(w.heap.size + 1 + 1, [.int .i64 0, .bool false, .slice none 0 0, .slice none 0 0, .slice none 0 0]), (w.heap.size + 1, [.string (strOf key)]), (w.heap.size, [.int .i64 p, .bool lf, .slice a1 n1 c1, .slice a2 n2 c2, .slice a3 n3 c3])] := ((((Boxes.nil w).alloc #[.int .i64 p, .bool lf, .slice a1 n1 c1, .slice a2 n2 c2, .slice a3 n3 c3] 33 rfl).alloc #[.string (strOf key)] 9 (b := w.heap.size + 1) (by simp)).alloc #[.int .i64 0, .bool false, .slice none 0 0, .slice none 0 0, .slice none 0 0] 33 (b := w.heap.size + 1 + 1) (by simp))
  obtain ⟨wA, hwA⟩ : ∃ wA, ((w.alloc (.cells #[.int .i64 p, .bool lf, .slice a1 n1 c1, .slice a2 n2 c2, .slice a3 n3 c3] 33)).alloc (.cells #[.string (strOf key)] 9)).alloc (.cells #[.int .i64 0, .bool false, .slice none 0 0, .slice none 0 0, .slice none 0 0] 33) = wA := ⟨_, rfl⟩
  have hzA : w.heap.size + 3 ≤ wA.heap.size := by rw [← hwA]; simp
  rw [hwA] at hB0 hX0
  have CF := tfind_any (hlt.below hB0).toIn key (hw.find key)
  have n0 := hX0.cell 2 0 rfl rfl
  have n1' := hX0.cell 2 1 rfl rfl
  have n2' := hX0.cell 2 2 rfl rfl
  have n3' := hX0.cell 2 3 rfl rfl
  have n4 := hX0.cell 2 4 rfl rfl
  have k0 := hX0.cell 1 0 rfl rfl
  have HX := Lib.hid hX0
  have HB := Lib.hid hB0
  have HN := Lib.hid hlt
  have HW := Lib.hid hw
  have HWD := Lib.hid hwd
  have HED := Lib.hid hed
  have HTD := Lib.hid hTD
  have HFL := Lib.hid hfl
  clear h hlt hX0 hB0 hw hwd hed hTD hfl
  go_enter Try.func51, Try.ntmps51
  go_wp2_with fail
  try rw [hwA]
  clear hwA
  refine CF.mono ?_
  rintro e w1 ⟨rfl, hb1⟩
  have hX1 := HX.out.step hb1
  have hb01 := HB.out.trans (hb1.mono HB.out.size)
  clear CF n0 n1' n2' n3' n4 k0
  have n0 := hX1.cell 2 0 rfl rfl
  have n1' := hX1.cell 2 1 rfl rfl
  have n2' := hX1.cell 2 2 rfl rfl
  have n3' := hX1.cell 2 3 rfl rfl
  have n4 := hX1.cell 2 4 rfl rfl
  have z0 := hX1.cell 0 0 rfl rfl
  have z1 := hX1.cell 0 1 rfl rfl
  have z2 := hX1.cell 0 2 rfl rfl
  have z3 := hX1.cell 0 3 rfl rfl
  have z4 := hX1.cell 0 4 rfl rfl
  have u0 := hX1.frozen 0 0 rfl
  have u1 := hX1.frozen 0 1 rfl
  have u2 := hX1.frozen 0 2 rfl
  have u3 := hX1.frozen 0 3 rfl
  have u4 := hX1.frozen 0 4 rfl
  obtain ⟨r, hr⟩ : ∃ r, findT N t key = r := ⟨_, rfl⟩
  have hrl : (lookT (entsT N t) key).isSome = r.isSome := by rw [← HFL.out, hr]
  rw [hr]
  cases r with
  | none =>
    have hTt : TD = t := by rw [← HTD.out]; unfold delW; rw [if_pos hr]
    have hse := res_end (F := F) (m := N) (by omega) (HTD.out.trans hTt) hrl HW.out (by
      rw [← HFL.out] at hrl
      refine (delL_none fun c hc => look_not ?_ c hc).symm
      rw [← HFL.out]; exact hr) hb01 (hX1.sub (m := [(w.heap.size + 1 + 1, [.int .i64 0, .bool false, .slice none 0 0, .slice none 0 0, .slice none 0 0])]) (by simp)) (by omega) (NodeOn.mono (fun b h => .inl h) (HN.out.below hb01))
    have t0 := hse.1.cell 0 0 rfl rfl
    have t1 := hse.1.cell 0 1 rfl rfl
    have t2 := hse.1.cell 0 2 rfl rfl
    have t3 := hse.1.cell 0 3 rfl rfl
    have t4 := hse.1.cell 0 4 rfl rfl
    have fin := Lib.hid hse.2
    unfold set5 at t0 t1 t2 t3 t4
    clear hse hr hrl hX1 hb01 hb1 hTt
    go_wp2_with fail
    refine bodyPost_ret (v := .tuple #[.agg #[.int .i64 p, .bool lf, .slice a1 n1 c1, .slice a2 n2 c2, .slice a3 n3 c3], .bool false]) (by simp [results, Try.results51, go_sem, t0, t1, t2, t3, t4]) rfl ?_
    exact fin.out
  | some r =>
    obtain ⟨hdo, hto⟩ := HW.out.del (key := key) (by rw [hr]; simp)
    have hTt : topT N (delT N t key) = TD := by rw [← HTD.out]; unfold delW; rw [if_neg (by rw [hr]; simp)]
    have hbd : Below w1.heap.size w1 (w1.alloc (.cells #[.func (Fn.func 76) #[] #[.pointer (some ⟨w.heap.size + 1, 0, none⟩), .pointer (some ⟨w1.heap.size, 0, none⟩)]] 78)) := Below.al (Below.refl _ _)
    have hcapt : Capt (w1.alloc (.cells #[.func (Fn.func 76) #[] #[.pointer (some ⟨w.heap.size + 1, 0, none⟩), .pointer (some ⟨w1.heap.size, 0, none⟩)]] 78)) (w.heap.size + 1) w1.heap.size key := ⟨BoxAt.below (by obtain ⟨ty, hty⟩ := hX1 _ (show (w.heap.size + 1, [Value.string (strOf key)]) ∈ _ by simp); exact ⟨ty, hty⟩) hbd, BoxAt.here⟩
    have hxd := (Boxes.nil w1).alloc #[Value.func (Fn.func 76) #[] #[.pointer (some ⟨w.heap.size + 1, 0, none⟩), .pointer (some ⟨w1.heap.size, 0, none⟩)]] 78 (b := w1.heap.size) rfl
    have hXD := hX1.step hbd
    have hnD := (HN.out.below hb01).below hbd
    have hb0D := hb01.trans (hbd.mono hb01.size)
    obtain ⟨wD, hwD⟩ : ∃ x, w1.alloc (.cells #[.func (Fn.func 76) #[] #[.pointer (some ⟨w.heap.size + 1, 0, none⟩), .pointer (some ⟨w1.heap.size, 0, none⟩)]] 78) = x := ⟨_, rfl⟩
    have hwD9 : w.heap.size + 3 ≤ wD.heap.size := by rw [← hwD]; have := hb1.size; simp; omega
    rw [hwD] at hcapt hxd hXD hnD hb0D
    have CD := down_any hnD hdo hcapt
    obtain ⟨TT, hTT⟩ : ∃ T, delT N t key = T := ⟨_, rfl⟩
    rw [hTT] at CD hto hTt
    have d0 := hxd.cell 0 0 rfl rfl
    have e0 := hXD.cell 2 0 rfl rfl
    have e1 := hXD.cell 2 1 rfl rfl
    have e2 := hXD.cell 2 2 rfl rfl
    have e3 := hXD.cell 2 3 rfl rfl
    have e4 := hXD.cell 2 4 rfl rfl
    have HXD := Lib.hid hXD
    have HBD := Lib.hid hb0D
    have HTO := Lib.hid hto
    have HTT := Lib.hid hTt
    have HRL := Lib.hid hrl
    have hcf := call_down
    clear n0 n1' n2' n3' n4 z0 z1 z2 z3 z4 u0 u1 u2 u3 u4 hX1 hb01 hb1 hr hrl hdo hto hTt hbd hcapt hxd hXD hnD hb0D hTT
    go_upto_region 6 with (fail)
    go_wp2_with fail
    refine CD.mono ?_
    rintro e w2 ⟨cs2, rfl, hn2, hb2⟩
    obtain ⟨b1, d1, b2, m2, d2, b3, m3, d3, ecs2, _, _⟩ := hn2.words
    subst ecs2
    have CT := ttop_any hn2 HTO.out
    rw [HTT.out] at CT
    have hX2 := HXD.out.step hb2
    have hB2 := HBD.out.trans (hb2.mono HBD.out.size)
    have hz2 : wD.heap.size ≤ w2.heap.size := hb2.size
    have HX2 := Lib.hid hX2
    have HB2 := Lib.hid hB2
    clear CD hn2 hb2 hX2 hB2 d0 e0 e1 e2 e3 e4
    generalize TT.page = pt at *
    generalize TT.isLeaf = lt at *
    generalize cntT TT = ct at *
    go_wp2_with fail
    refine CT.mono ?_
    rintro e w3 ⟨cs3, rfl, hn3, hb3⟩
    obtain ⟨g1, f1, g2, i2, f2, g3, i3, f3, ecs3, _, _⟩ := hn3.words
    subst ecs3
    have hn3' := hn3.less HWD.out.1.1
    have hal : Below w3.heap.size w3 (w3.alloc (.cells #[.int .i64 TD.page, .bool TD.isLeaf, .slice g1 (cntT TD) f1, .slice g2 i2 f2, .slice g3 i3 f3] 33)) := Below.al (Below.refl _ _)
    have hB3 := (HB2.out.trans (hb3.mono HB2.out.size)).trans (hal.mono (HB2.out.trans (hb3.mono HB2.out.size)).size)
    have hX3 := (HX2.out.step hb3).alloc #[.int .i64 TD.page, .bool TD.isLeaf, .slice g1 (cntT TD) f1, .slice g2 i2 f2, .slice g3 i3 f3] 33 (b := w3.heap.size) rfl
    have hn4 := hn3'.below hal
    obtain ⟨w4, hw4⟩ : ∃ x, w3.alloc (.cells #[.int .i64 TD.page, .bool TD.isLeaf, .slice g1 (cntT TD) f1, .slice g2 i2 f2, .slice g3 i3 f3] 33) = x := ⟨_, rfl⟩
    rw [hw4] at hB3 hX3 hn4
    have y0 := hX3.cell 0 0 rfl rfl
    have y1 := hX3.cell 0 1 rfl rfl
    have y2 := hX3.cell 0 2 rfl rfl
    have y3 := hX3.cell 0 3 rfl rfl
    have y4 := hX3.cell 0 4 rfl rfl
    by_cases hc0 : cntT TD = 0
    · have dz : ((cntT TD : Int) == 0) = true := by simp [hc0]
      obtain ⟨hTl, hm1'⟩ := empty_of HWD.out hc0
      have HTL := Lib.hid hTl
      have HM1 := Lib.hid hm1'
      have E := tempty_any w4 F
      have HX3 := Lib.hid hX3
      have HB3 := Lib.hid hB3
      clear hc0 hTl hm1' hn4 hn3' hn3 hb3 hal hX3 hB3 CT
      generalize cntT TD = cz at *
      go_wp2_with fail
      try rw [hw4]
      clear hw4
      go_wp2_with fail
      refine E.mono ?_
      rintro e w5 ⟨cs5, rfl, hn5, hb5⟩
      obtain ⟨x1, k1, x2, k2, x3, k3, ecs5, hn5⟩ := empty_on (F := fun b => (F b ∧ b < w.heap.size) ∨ (w.heap.size + 1 + 1) + 1 ≤ b) hn5
      subst ecs5
      have hX5 := HX3.out.step hb5
      have hB5 := HB3.out.trans (hb5.mono HB3.out.size)
      have hwd := HWD.out
      have hed := HED.out
      rw [HM1.out, HTL.out] at hwd hed
      have hse := res_end (F := F) (n := N) (m := 1) (by omega) (HTD.out.trans HTL.out) HRL.out hwd hed hB5 (hX5.sub (m := [(w.heap.size + 1 + 1, [.int .i64 0, .bool false, .slice none 0 0, .slice none 0 0, .slice none 0 0])]) (by simp)) (by omega) hn5
      have t0 := hse.1.cell 0 0 rfl rfl
      have t1 := hse.1.cell 0 1 rfl rfl
      have t2 := hse.1.cell 0 2 rfl rfl
      have t3 := hse.1.cell 0 3 rfl rfl
      have t4 := hse.1.cell 0 4 rfl rfl
      have fin := Lib.hid hse.2
      unfold set5 at t0 t1 t2 t3 t4
      have z0 := hX5.cell 1 0 rfl rfl
      have z1 := hX5.cell 1 1 rfl rfl
      have z2 := hX5.cell 1 2 rfl rfl
      have z3 := hX5.cell 1 3 rfl rfl
      have z4 := hX5.cell 1 4 rfl rfl
      have u0 := hX5.frozen 1 0 rfl
      have u1 := hX5.frozen 1 1 rfl
      have u2 := hX5.frozen 1 2 rfl
      have u3 := hX5.frozen 1 3 rfl
      have u4 := hX5.frozen 1 4 rfl
      clear hse hX5 hB5 hn5 hb5 hwd hed y0 y1 y2 y3 y4 dz E
      go_wp2_with fail
      refine bodyPost_ret (v := .tuple #[.agg #[.int .i64 0, .bool true, .slice x1 0 k1, .slice x2 0 k2, .slice x3 0 k3], .bool true]) (by simp [results, Try.results51, go_sem, t0, t1, t2, t3, t4]) rfl ?_
      exact fin.out
    · have dz : ((cntT TD : Int) == 0) = false := by simp; omega
      have hse := res_end (F := F) (n := N) (m := m1) hm1 HTD.out HRL.out HWD.out HED.out hB3 (hX3.sub (m := [(w.heap.size + 1 + 1, [.int .i64 0, .bool false, .slice none 0 0, .slice none 0 0, .slice none 0 0])]) (by simp)) (by omega) (NodeOn.mono (fun b h => by rcases h with (h | h) | h; exact .inl h; exact .inr (by omega); exact .inr (by omega)) hn4)
      have t0 := hse.1.cell 0 0 rfl rfl
      have t1 := hse.1.cell 0 1 rfl rfl
      have t2 := hse.1.cell 0 2 rfl rfl
      have t3 := hse.1.cell 0 3 rfl rfl
      have t4 := hse.1.cell 0 4 rfl rfl
      have fin := Lib.hid hse.2
      unfold set5 at t0 t1 t2 t3 t4
      have z0 := hX3.cell 1 0 rfl rfl
      have z1 := hX3.cell 1 1 rfl rfl
      have z2 := hX3.cell 1 2 rfl rfl
      have z3 := hX3.cell 1 3 rfl rfl
      have z4 := hX3.cell 1 4 rfl rfl
      have u0 := hX3.frozen 1 0 rfl
      have u1 := hX3.frozen 1 1 rfl
      have u2 := hX3.frozen 1 2 rfl
      have u3 := hX3.frozen 1 3 rfl
      have u4 := hX3.frozen 1 4 rfl
      clear hse hX3 hB3 hn4 hn3' hn3 hb3 hal CT hc0
      generalize TD.page = pz at *
      generalize TD.isLeaf = lz at *
      generalize cntT TD = cz at *
      go_wp2_with fail
      try rw [hw4]
      try go_wp2_with fail
      refine bodyPost_ret (v := .tuple #[.agg #[.int .i64 pz, .bool lz, .slice g1 cz f1, .slice g2 i2 f2, .slice g3 i3 f3], .bool true]) (by simp [results, Try.results51, go_sem, t0, t1, t2, t3, t4]) rfl ?_
      exact fin.out
end Go.Proofs.Ytemfnjlfcemehaa
