/- Texts that other texts of this claim lean on, one behind the other. -/
import Derived.Test.YtpghlmcoajaiiaaGreatDoorM4
import Derived.Test.YtpghlmcoajaiiaaGreatDoorM3
import Derived.Test.YtpghlmcoajaiiaaGreatDoorM2
import Derived.Test.YtpghlmcoajaiiaaGreatDoorM1
import Derived.OwnWalk
/- The walks of trees: mending (printed by gen_treM.py). -/
namespace Go.Proofs.YtpghlmcoajaiiaaGreatDoor
open Go.RowKit

def MendMid (F' : Nat → Prop) (n : Nat) (w w2 : World) (T : Tr) (s7 : Value) (wx : World) : Prop :=
  ∃ b7 p l a k c a2 n2 c2 a3 n3 c3, s7 = .pointer (some ⟨b7, 0, none⟩) ∧ Boxes wx [(b7, [.int .i64 p, .bool l, .slice a k c, .slice a2 n2 c2, .slice a3 n3 c3])] ∧ Below w2.heap.size w2 wx ∧ w2.heap.size ≤ b7 ∧
    NodeOn (fun b => F' b ∨ w.heap.size + 2 ≤ b) n wx [.int .i64 p, .bool l, .slice a k c, .slice a2 n2 c2, .slice a3 n3 c3] T
set_option maxRecDepth 100000 in
set_option maxHeartbeats 1500000 in
theorem tmend_any {F : Nat → Prop} {n : Nat} {w : World} {cs : List Value} {p : Int} {l : List (List UInt8 × Tr)} (h : NodeOn F (n + 2) w cs (.node p l)) (k : Nat) (hk : k < l.length) (ho : MendOk n l) :
    Calls Tryz.prog 156 #[.agg cs.toArray, .int .i64 (k : Int)] w (NodeTo F (n + 2) w (mendT p l k)) := by
  have hlt := h.lt
  obtain ⟨ka, kc, va, vn, vc, ca, cn, cc, V, C, rfl, h1, h2, h3, h4, f1, _, f3⟩ := hlt.open
  obtain ⟨_, r1, r2⟩ := h4.toR.lens
  have hV : V = [] := h4.2.1
  have hcn : cn = l.length := by rw [← h3.1, r2]; rfl
  have hvn : vn = 0 := by rw [← h2.1, hV]; rfl
  subst hV hcn hvn
  have hcA : cntT (Tr.node p l) = l.length := rfl
  have hpA : (Tr.node p l).page = p := rfl
  have hfA : (Tr.node p l).isLeaf = false := rfl
  have hkA : (Tr.node p l).keys = keysOf l := rfl
  rw [hcA, hpA, hfA] at hlt ⊢
  rw [hcA, hkA] at h1
  rw [hcA] at f1
  rw [hkA] at h4
  obtain ⟨m, hm⟩ : ∃ m, l.length = m := ⟨_, rfl⟩
  rw [hm] at hk h1 h3 f1 f3 hlt ⊢
  have hm9 : m ≤ 1000 := by rw [← hm]; exact ho.len
  obtain ⟨_, e2, e3⟩ := h1.lens
  obtain ⟨_, e5, e6⟩ := h3.lens
  obtain ⟨kidm, hkm, hkx⟩ := kid_mem (l := l) (k := k) (by omega)
  have hkb : Bnd (n + 1) (kidAt l k) := by rw [← hkx]; exact ho.bnd _ hkm
  have hB0 : Below w.heap.size w ((w.alloc (.cells #[.int .i64 p, .bool false, .slice ka m kc, .slice va 0 vc, .slice ca m cc] 50)).alloc (.cells #[.int .i64 0, .bool false, .slice none 0 0, .slice none 0 0, .slice none 0 0] 50)) := Below.al (Below.al (Below.refl _ _))
  have hX0 : Boxes _ [(w.heap.size + 1, [.int .i64 0, .bool false, .slice none 0 0, .slice none 0 0, .slice none 0 0]), (w.heap.size, [.int .i64 p, .bool false, .slice ka m kc, .slice va 0 vc, .slice ca m cc])] := (((Boxes.nil w).alloc #[.int .i64 p, .bool false, .slice ka m kc, .slice va 0 vc, .slice ca m cc] 50 rfl).alloc #[.int .i64 0, .bool false, .slice none 0 0, .slice none 0 0, .slice none 0 0] 50 (b := w.heap.size + 1) (by simp))
  obtain ⟨wA, hwA⟩ : ∃ wA, (w.alloc (.cells #[.int .i64 p, .bool false, .slice ka m kc, .slice va 0 vc, .slice ca m cc] 50)).alloc (.cells #[.int .i64 0, .bool false, .slice none 0 0, .slice none 0 0, .slice none 0 0] 50) = wA := ⟨_, rfl⟩
  have hzA : w.heap.size + 2 ≤ wA.heap.size := by rw [← hwA]; simp
  rw [hwA] at hB0 hX0
  have CS := tsplit_any (hlt.below hB0) k (by omega) ho.len hkb
  have f0 := hX0.cell 1 0 rfl rfl
  have f11 := hX0.cell 1 1 rfl rfl
  have f2 := hX0.cell 1 2 rfl rfl
  have f33 := hX0.cell 1 3 rfl rfl
  have f4 := hX0.cell 1 4 rfl rfl
  have HX := Lib.hid hX0
  have HB := Lib.hid hB0
  have H1 := Lib.hid h1
  have H3 := Lib.hid h3
  have H4 := Lib.hid h4
  have HN := Lib.hid hlt
  have HO := Lib.hid ho
  have HM := Lib.hid hm
  have HKB := Lib.hid hkb
  clear hX0 hB0 h1 h2 h3 h4 h hlt ho hm hkb r1 r2 hcA hpA hfA hkA kidm hkm hkx
  obtain ⟨T1, hT1⟩ : ∃ T, splitR p l k = T := ⟨_, rfl⟩
  obtain ⟨B1, hB1⟩ : ∃ B, (splitT l k).isSome = B := ⟨_, rfl⟩
  rw [hT1, hB1] at CS
  have HT1 := Lib.hid hT1
  have HB1 := Lib.hid hB1
  clear hT1 hB1
  go_enter Tryz.func156, Tryz.ntmps156
  go_wp2_with fail
  refine CS.mono ?_
  rintro e w1 ⟨x5, rfl, hn5, hb5⟩
  obtain ⟨g1, g2, g3, g4, g5, g6, g7, g8, _, _, ex5, _⟩ := hn5.open
  subst ex5
  obtain ⟨lf5, hlf5⟩ : ∃ t, T1.isLeaf = t := ⟨_, rfl⟩
  obtain ⟨pg5, hpg5⟩ : ∃ t, T1.page = t := ⟨_, rfl⟩
  obtain ⟨cn5, hcn5⟩ : ∃ t, cntT T1 = t := ⟨_, rfl⟩
  rw [hlf5, hpg5, hcn5] at hn5 ⊢
  have HN5 := Lib.hid hn5
  have HB5 := Lib.hid hb5
  have HX5 := Lib.hid (HX.out.step hb5)
  have hz5 : w.heap.size + 2 ≤ w1.heap.size := Nat.le_trans hzA hb5.size
  have HBW := Lib.hid (HB.out.trans (hb5.mono HB.out.size))
  clear CS hn5 hb5 hlf5 hpg5 hcn5 f0 f11 f2 f33 f4 hwA
  have hX6 : Boxes (w1.alloc (.cells #[.int .i64 pg5, .bool lf5, .slice g1 cn5 g2, .slice g3 g4 g5, .slice g6 g7 g8] 50)) [(w1.heap.size, [.int .i64 pg5, .bool lf5, .slice g1 cn5 g2, .slice g3 g4 g5, .slice g6 g7 g8]), (w.heap.size + 1, [.int .i64 0, .bool false, .slice none 0 0, .slice none 0 0, .slice none 0 0]), (w.heap.size, [.int .i64 p, .bool false, .slice ka m kc, .slice va 0 vc, .slice ca m cc])] := HX5.out.alloc #[.int .i64 pg5, .bool lf5, .slice g1 cn5 g2, .slice g3 g4 g5, .slice g6 g7 g8] 50 rfl
  have hB6 : Below w1.heap.size w1 (w1.alloc (.cells #[.int .i64 pg5, .bool lf5, .slice g1 cn5 g2, .slice g3 g4 g5, .slice g6 g7 g8] 50)) := Below.al (Below.refl _ _)
  obtain ⟨wB, hwB⟩ : ∃ wB, w1.alloc (.cells #[.int .i64 pg5, .bool lf5, .slice g1 cn5 g2, .slice g3 g4 g5, .slice g6 g7 g8] 50) = wB := ⟨_, rfl⟩
  rw [hwB] at hX6 hB6
  have hzB : w1.heap.size + 1 ≤ wB.heap.size := by rw [← hwB]; simp
  have HXB := Lib.hid hX6
  have HBB := Lib.hid (HBW.out.trans (hB6.mono HBW.out.size))
  have HN6 := Lib.hid (HN5.out.below hB6)
  have m0 := hX6.cell 0 0 rfl rfl
  have m1 := hX6.cell 0 1 rfl rfl
  have m2 := hX6.cell 0 2 rfl rfl
  have m3 := hX6.cell 0 3 rfl rfl
  have m4 := hX6.cell 0 4 rfl rfl
  have z0 := hX6.cell 1 0 rfl rfl
  have z1 := hX6.cell 1 1 rfl rfl
  have z2 := hX6.cell 1 2 rfl rfl
  have z3 := hX6.cell 1 3 rfl rfl
  have z4 := hX6.cell 1 4 rfl rfl
  have u0 := hX6.frozen 1 0 rfl
  have u1 := hX6.frozen 1 1 rfl
  have u2 := hX6.frozen 1 2 rfl
  have u3 := hX6.frozen 1 3 rfl
  have u4 := hX6.frozen 1 4 rfl
  have n0 := hX6.cell 2 0 rfl rfl
  have n1 := hX6.cell 2 1 rfl rfl
  have n2 := hX6.cell 2 2 rfl rfl
  have n3 := hX6.cell 2 3 rfl rfl
  have n4 := hX6.cell 2 4 rfl rfl
  clear hX6 hB6
  cases B1 with
  | true =>
    have hX7 := set5_box (HXB.out.sub (m := [(w.heap.size + 1, [.int .i64 0, .bool false, .slice none 0 0, .slice none 0 0, .slice none 0 0])]) (by simp)) (by simp) (.int .i64 pg5) (.bool lf5) (.slice g1 cn5 g2) (.slice g3 g4 g5) (.slice g6 g7 g8)
    obtain ⟨w6, hw6⟩ : ∃ w6, set5 wB (w.heap.size + 1) (.int .i64 pg5) (.bool lf5) (.slice g1 cn5 g2) (.slice g3 g4 g5) (.slice g6 g7 g8) = w6 := ⟨_, rfl⟩
    have hB7 := set5_below HBB.out (b := w.heap.size + 1) (by omega) (.int .i64 pg5) (.bool lf5) (.slice g1 cn5 g2) (.slice g3 g4 g5) (.slice g6 g7 g8)
    have hA7 : ∀ G : Nat → Prop, ¬ G (w.heap.size + 1) → AgreeF G wB (set5 wB (w.heap.size + 1) (.int .i64 pg5) (.bool lf5) (.slice g1 cn5 g2) (.slice g3 g4 g5) (.slice g6 g7 g8)) := fun G hG => (((((AgreeF.of_below (Below.refl _ _)).set (.inl hG)).set (.inl hG)).set (.inl hG)).set (.inl hG)).set (.inl hG)
    rw [hw6] at hX7 hB7 hA7
    unfold set5 at hw6
    have HB7 := Lib.hid hB7
    have HA7 := Lib.hid hA7
    have t0 := hX7.cell 0 0 rfl rfl
    have t1 := hX7.cell 0 1 rfl rfl
    have t2 := hX7.cell 0 2 rfl rfl
    have t3 := hX7.cell 0 3 rfl rfl
    have t4 := hX7.cell 0 4 rfl rfl
    clear hX7 hB7 hA7
    go_wp2_with fail
    refine bodyPost_ret (v := .agg #[.int .i64 pg5, .bool lf5, .slice g1 cn5 g2, .slice g3 g4 g5, .slice g6 g7 g8]) (by simp [results, Tryz.results156, go_sem, t0, t1, t2, t3, t4]) rfl ⟨[.int .i64 pg5, .bool lf5, .slice g1 cn5 g2, .slice g3 g4 g5, .slice g6 g7 g8], rfl, ?_, by first | exact HB7.out | (rw [hw6]; exact HB7.out)⟩
    rw [mend_split HB1.out, HT1.out]
    have := (HN6.out.agree (HA7.out _ (fun h => by rcases h with h | h <;> omega))).mono (G := Fr F w) (fun b h => by rcases h with h | h; exact .inl h.1; exact .inr (by omega))
    first | exact this | (rw [hw6]; exact this)
  | false =>
    obtain ⟨bc, oc, y, yc, eca, hbc, hy, _, hyc, hcell⟩ := TabR.at H3.out hk
    have hyc : yc = y.1 := hyc
    subst hyc eca
    have hkid := kid_tells H4.out.2.2 hy
    obtain ⟨q1, q2, q3, q4, q5, q6, q7, q8, _, _, ey, _⟩ := hkid.open
    rw [ey] at hcell hkid
    obtain ⟨kid, hkd⟩ : ∃ kid, kidAt l k = kid := ⟨_, rfl⟩
    rw [hkd] at hcell hkid
    obtain ⟨kl, hkl⟩ : ∃ kl, kid.isLeaf = kl := ⟨_, rfl⟩
    obtain ⟨kp, hkp⟩ : ∃ kp, kid.page = kp := ⟨_, rfl⟩
    obtain ⟨kcn, hkc⟩ : ∃ kcn, cntT kid = kcn := ⟨_, rfl⟩
    rw [hkl, hkp, hkc] at hcell hkid
    have hbB : bc < w.heap.size := hbc
    have e0 := (HBB.out.cell (p := ⟨bc, oc + k * 5, none⟩) hbB).trans (hcell 0 _ rfl)
    have e1 := (HBB.out.cell (p := ⟨bc, oc + k * 5 + 1, none⟩) hbB).trans (hcell 1 _ rfl)
    have e2 := (HBB.out.cell (p := ⟨bc, oc + k * 5 + 2, none⟩) hbB).trans (hcell 2 _ rfl)
    have e3 := (HBB.out.cell (p := ⟨bc, oc + k * 5 + 3, none⟩) hbB).trans (hcell 3 _ rfl)
    have e4 := (HBB.out.cell (p := ⟨bc, oc + k * 5 + 4, none⟩) hbB).trans (hcell 4 _ rfl)
    have hKB := HKB.out
    rw [hkd] at hKB
    have CS2 := tsizes_any (hkid.below HBB.out).toIn hKB
    have hSm := hKB.small
    have HKD := Lib.hid hkd
    have HKID := Lib.hid hkid
    clear hcell hkid ey hkd hkl hkp hkc hy hKB
    obtain ⟨S, hS⟩ : ∃ S, sizesT kid = S := ⟨_, rfl⟩
    rw [hS] at CS2 hSm
    have HS := Lib.hid hS
    have HSm := Lib.hid hSm
    clear hS hSm
    go_wp2_with fail
    refine CS2.mono ?_
    rintro e w2 ⟨v2, rfl, ho2, hb2⟩
    obtain ⟨sa, sc, rfl, hrow⟩ := Row.of_own ho2
    clear CS2 ho2
    go_wp2_with fail
    refine (low_any _ _ _ _ _ hrow HSm.out).mono ?_
    rintro e w3 ⟨rfl, rfl⟩
    have hbW := HBB.out.trans (hb2.mono HBB.out.size)
    have HB3 := Lib.hid hb2
    have HBW3 := Lib.hid hbW
    have hX8 := HXB.out.step hb2
    have HX8 := Lib.hid hX8
    have hz8 : w1.heap.size + 1 ≤ w2.heap.size := Nat.le_trans hzB hb2.size
    clear e0 e1 e2 e3 e4 m0 m1 m2 m3 m4 z0 z1 z2 z3 z4 u0 u1 u2 u3 u4 n0 n1 n2 n3 n4 hrow hb2 hbW
    have n0 := hX8.cell 2 0 rfl rfl
    have n1 := hX8.cell 2 1 rfl rfl
    have n2 := hX8.cell 2 2 rfl rfl
    have n3 := hX8.cell 2 3 rfl rfl
    have n4 := hX8.cell 2 4 rfl rfl
    obtain ⟨lo, hlo⟩ : ∃ lo, decide (sumI S < 30) = lo := ⟨_, rfl⟩
    have HLO : Hid (lowT (kidAt l k) = lo) := Lib.hid (by rw [HKD.out, ← hlo, ← HS.out]; rfl)
    rw [hlo]
    clear hlo
    by_cases hsame : lo = false ∨ m < 2
    · have z0 := hX8.cell 1 0 rfl rfl
      have z1 := hX8.cell 1 1 rfl rfl
      have z2 := hX8.cell 1 2 rfl rfl
      have z3 := hX8.cell 1 3 rfl rfl
      have z4 := hX8.cell 1 4 rfl rfl
      have u0 := hX8.frozen 1 0 rfl
      have u1 := hX8.frozen 1 1 rfl
      have u2 := hX8.frozen 1 2 rfl
      have u3 := hX8.frozen 1 3 rfl
      have u4 := hX8.frozen 1 4 rfl
      have hX7 := set5_box (HX8.out.sub (m := [(w.heap.size + 1, [.int .i64 0, .bool false, .slice none 0 0, .slice none 0 0, .slice none 0 0])]) (by simp)) (by simp) (.int .i64 p) (.bool false) (.slice ka m kc) (.slice va 0 vc) (.slice (some ⟨bc, oc, none⟩) m cc)
      obtain ⟨w6, hw6⟩ : ∃ w6, set5 w2 (w.heap.size + 1) (.int .i64 p) (.bool false) (.slice ka m kc) (.slice va 0 vc) (.slice (some ⟨bc, oc, none⟩) m cc) = w6 := ⟨_, rfl⟩
      have hB7 := set5_below HBW3.out (b := w.heap.size + 1) (by omega) (.int .i64 p) (.bool false) (.slice ka m kc) (.slice va 0 vc) (.slice (some ⟨bc, oc, none⟩) m cc)
      rw [hw6] at hX7 hB7
      unfold set5 at hw6
      have HB7 := Lib.hid hB7
      have t0 := hX7.cell 0 0 rfl rfl
      have t1 := hX7.cell 0 1 rfl rfl
      have t2 := hX7.cell 0 2 rfl rfl
      have t3 := hX7.cell 0 3 rfl rfl
      have t4 := hX7.cell 0 4 rfl rfl
      have HSAME := Lib.hid hsame
      have fin : Hid (NodeTo F (n + 2) w (mendT p l k) (.returned (.agg #[.int .i64 p, .bool false, .slice ka m kc, .slice va 0 vc, .slice (some ⟨bc, oc, none⟩) m cc])) w6) := Lib.hid ⟨[.int .i64 p, .bool false, .slice ka m kc, .slice va 0 vc, .slice (some ⟨bc, oc, none⟩) m cc], rfl, by
        rw [mend_same HB1.out (by rw [HLO.out, HM.out]; exact HSAME.out)]
        exact NodeOn.mono (fun b h => .inl h.1) (HN.out.below HB7.out), HB7.out⟩
      clear hX7 hB7 hX8
      rcases hsame with rfl | hm2
      · go_wp2_with fail
        refine bodyPost_ret (v := .agg #[.int .i64 p, .bool false, .slice ka m kc, .slice va 0 vc, .slice (some ⟨bc, oc, none⟩) m cc]) (by simp [results, Tryz.results156, go_sem, t0, t1, t2, t3, t4]) rfl ?_
        first | exact fin.out | (rw [hw6]; exact fin.out)
      · cases lo with
        | false =>
          go_wp2_with fail
          refine bodyPost_ret (v := .agg #[.int .i64 p, .bool false, .slice ka m kc, .slice va 0 vc, .slice (some ⟨bc, oc, none⟩) m cc]) (by simp [results, Tryz.results156, go_sem, t0, t1, t2, t3, t4]) rfl ?_
          first | exact fin.out | (rw [hw6]; exact fin.out)
        | true =>
          have d2 : decide ((m : Int) < 2) = true := by simp; omega
          have d2' : decide (m < 2) = true := by simp; omega
          go_wp2_with fail
          refine bodyPost_ret (v := .agg #[.int .i64 p, .bool false, .slice ka m kc, .slice va 0 vc, .slice (some ⟨bc, oc, none⟩) m cc]) (by simp [results, Tryz.results156, go_sem, t0, t1, t2, t3, t4]) rfl ?_
          first | exact fin.out | (rw [hw6]; exact fin.out)
    · obtain ⟨rfl, hm2⟩ : lo = true ∧ 2 ≤ m := by
        cases lo with
        | false => exact absurd (.inl rfl) hsame
        | true => exact ⟨rfl, by omega⟩
      have d2 : decide ((m : Int) < 2) = false := by simp; omega
      have d2' : decide (m < 2) = false := by simp; omega
      clear hsame
      obtain ⟨g, hg, hj⟩ : ∃ g : Nat, neighF (m : Int) (k : Int) = (g : Int) ∧ min k g = joinAt m k := by
        unfold neighF joinAt
        by_cases hk1 : k + 1 < m
        · exact ⟨k + 1, by rw [if_pos (by omega)]; rfl, by rw [if_pos hk1]; omega⟩
        · exact ⟨k - 1, by rw [if_neg (by omega)]; omega, by rw [if_neg hk1]; omega⟩
      have hj1 : joinAt m k + 1 < m := by unfold joinAt; split <;> omega
      have hg9 : g ≤ 2000 := by
        unfold neighF at hg
        split at hg <;> omega
      have CN := neighbour_any (m : Int) (k : Int) w2 (by omega) (by omega)
      rw [hg] at CN
      obtain ⟨jj, hjj⟩ : ∃ jj, joinAt m k = jj := ⟨_, rfl⟩
      rw [hjj] at hj hj1
      have HJJ := Lib.hid hjj
      have hmin1 : (if (g : Int) < (k : Int) then (g : Int) else (k : Int)) = (jj : Int) := by split <;> omega
      have hmin2 : (if g < k then (g : Int) else (k : Int)) = (jj : Int) := by split <;> omega
      clear hg hjj hj
      go_wp2_with fail
      refine CN.mono ?_
      rintro e w4 ⟨rfl, rfl⟩
      clear CN
      obtain ⟨bc1, oc1, y1, yc1, eca1, _, hy1, _, hyc1, hcell1⟩ := TabR.at H3.out (show jj < m by omega)
      obtain ⟨bc2, oc2, y2, yc2, eca2, _, hy2, _, hyc2, hcell2⟩ := TabR.at H3.out hj1
      cases eca1
      cases eca2
      have hyc1 : yc1 = y1.1 := hyc1
      have hyc2 : yc2 = y2.1 := hyc2
      subst hyc1 hyc2
      have hkid1 := kid_tells H4.out.2.2 hy1
      have hkid2 := kid_tells H4.out.2.2 hy2
      obtain ⟨a1, a2, a3, a4, a5, a6, a7, a8, _, _, ey1, _⟩ := hkid1.open
      obtain ⟨b1, b2, b3, b4, b5, b6, b7, b8, _, _, ey2, _⟩ := hkid2.open
      rw [ey1] at hcell1 hkid1
      rw [ey2] at hcell2 hkid2
      obtain ⟨kb, ko, ekb, hkb, hkcell⟩ := H1.out.key_at hj1
      subst ekb
      have HTJ : Hid (∀ W, Below w2.heap.size w2 W → Calls Tryz.prog 192 #[.agg #[.int .i64 (kidAt l jj).page, .bool (kidAt l jj).isLeaf, .slice a1 (cntT (kidAt l jj)) a2, .slice a3 a4 a5, .slice a6 a7 a8], .agg #[.int .i64 (kidAt l (jj + 1)).page, .bool (kidAt l (jj + 1)).isLeaf, .slice b1 (cntT (kidAt l (jj + 1))) b2, .slice b3 b4 b5, .slice b6 b7 b8], .string (strOf ((keysOf l)[jj + 1]?.getD []))] W (NodeTo (fun b => F b ∧ b < w.heap.size) (n + 1) W (joinT (keyAt l (jj + 1)) (kidAt l jj) (kidAt l (jj + 1))))) := Lib.hid (fun W hW => by
        obtain ⟨c1, hc1, hx1⟩ := kid_mem (l := l) (k := jj) (by rw [HM.out]; omega)
        obtain ⟨c2, hc2, hx2⟩ := kid_mem (l := l) (k := jj + 1) (by rw [HM.out]; omega)
        have hb := below_via HBW3.out hW
        have hkk : (keysOf l)[jj + 1]?.getD [] = keyAt l (jj + 1) := by simp [keyAt, keysOf]
        rw [hkk]
        exact tjoin_any (keyAt l (jj + 1)) (hkid1.below hb) (hkid2.below hb) (by rw [← hx1, ← hx2]; exact HO.out.kind c1 hc1 c2 hc2) (by rw [← hx2]; exact HO.out.some_ c2 hc2) (by rw [← hx1]; exact (HO.out.bnd c1 hc1).cnt) (by rw [← hx2]; exact (HO.out.bnd c2 hc2).cnt))
      clear hkid1 hkid2 ey1 ey2 hy1 hy2
      generalize (kidAt l jj).page = p1 at *
      generalize (kidAt l jj).isLeaf = l1 at *
      generalize cntT (kidAt l jj) = c1 at *
      generalize (kidAt l (jj + 1)).page = p2 at *
      generalize (kidAt l (jj + 1)).isLeaf = l2 at *
      generalize cntT (kidAt l (jj + 1)) = c2 at *
      generalize (keysOf l)[jj + 1]?.getD [] = kkey at *
      obtain ⟨TJ, hTJ⟩ : ∃ t, joinT (keyAt l (jj + 1)) (kidAt l jj) (kidAt l (jj + 1)) = t := ⟨_, rfl⟩
      rw [hTJ] at HTJ
      have HTJE := Lib.hid hTJ
      clear hTJ
      have HJ := HTJ.out
      have k2 : ∀ W, Below w2.heap.size w2 W → W.cell? ⟨w.heap.size, 2, none⟩ = some (.slice (some ⟨kb, ko, none⟩) m kc) := fun W hW => (HX8.out.step hW).cell 2 2 rfl rfl
      have k4 : ∀ W, Below w2.heap.size w2 W → W.cell? ⟨w.heap.size, 4, none⟩ = some (.slice (some ⟨bc, oc, none⟩) m cc) := fun W hW => (HX8.out.step hW).cell 2 4 rfl rfl
      have kk : ∀ W, Below w2.heap.size w2 W → W.cell? ⟨kb, ko + (jj + 1), none⟩ = some (.string (strOf kkey)) := fun W hW => ((below_via HBW3.out hW).cell (p := ⟨kb, ko + (jj + 1), none⟩) hkb).trans hkcell
      have kka0 : ∀ W, Below w2.heap.size w2 W → W.cell? ⟨bc, oc + jj * 5, none⟩ = some (.int .i64 p1) := fun W hW => ((below_via HBW3.out hW).cell (p := ⟨bc, oc + jj * 5, none⟩) hbB).trans (hcell1 0 _ rfl)
      have kka1 : ∀ W, Below w2.heap.size w2 W → W.cell? ⟨bc, oc + jj * 5 + 1, none⟩ = some (.bool l1) := fun W hW => ((below_via HBW3.out hW).cell (p := ⟨bc, oc + jj * 5 + 1, none⟩) hbB).trans (hcell1 1 _ rfl)
      have kka2 : ∀ W, Below w2.heap.size w2 W → W.cell? ⟨bc, oc + jj * 5 + 2, none⟩ = some (.slice a1 c1 a2) := fun W hW => ((below_via HBW3.out hW).cell (p := ⟨bc, oc + jj * 5 + 2, none⟩) hbB).trans (hcell1 2 _ rfl)
      have kka3 : ∀ W, Below w2.heap.size w2 W → W.cell? ⟨bc, oc + jj * 5 + 3, none⟩ = some (.slice a3 a4 a5) := fun W hW => ((below_via HBW3.out hW).cell (p := ⟨bc, oc + jj * 5 + 3, none⟩) hbB).trans (hcell1 3 _ rfl)
      have kka4 : ∀ W, Below w2.heap.size w2 W → W.cell? ⟨bc, oc + jj * 5 + 4, none⟩ = some (.slice a6 a7 a8) := fun W hW => ((below_via HBW3.out hW).cell (p := ⟨bc, oc + jj * 5 + 4, none⟩) hbB).trans (hcell1 4 _ rfl)
      have kkb0 : ∀ W, Below w2.heap.size w2 W → W.cell? ⟨bc, oc + (jj + 1) * 5, none⟩ = some (.int .i64 p2) := fun W hW => ((below_via HBW3.out hW).cell (p := ⟨bc, oc + (jj + 1) * 5, none⟩) hbB).trans (hcell2 0 _ rfl)
      have kkb1 : ∀ W, Below w2.heap.size w2 W → W.cell? ⟨bc, oc + (jj + 1) * 5 + 1, none⟩ = some (.bool l2) := fun W hW => ((below_via HBW3.out hW).cell (p := ⟨bc, oc + (jj + 1) * 5 + 1, none⟩) hbB).trans (hcell2 1 _ rfl)
      have kkb2 : ∀ W, Below w2.heap.size w2 W → W.cell? ⟨bc, oc + (jj + 1) * 5 + 2, none⟩ = some (.slice b1 c2 b2) := fun W hW => ((below_via HBW3.out hW).cell (p := ⟨bc, oc + (jj + 1) * 5 + 2, none⟩) hbB).trans (hcell2 2 _ rfl)
      have kkb3 : ∀ W, Below w2.heap.size w2 W → W.cell? ⟨bc, oc + (jj + 1) * 5 + 3, none⟩ = some (.slice b3 b4 b5) := fun W hW => ((below_via HBW3.out hW).cell (p := ⟨bc, oc + (jj + 1) * 5 + 3, none⟩) hbB).trans (hcell2 3 _ rfl)
      have kkb4 : ∀ W, Below w2.heap.size w2 W → W.cell? ⟨bc, oc + (jj + 1) * 5 + 4, none⟩ = some (.slice b6 b7 b8) := fun W hW => ((below_via HBW3.out hW).cell (p := ⟨bc, oc + (jj + 1) * 5 + 4, none⟩) hbB).trans (hcell2 4 _ rfl)
      have hw1 : IntKind.i64.wrap ((jj : Int) + 1) = (jj : Int) + 1 := IntWalk.i64_in _ (by omega)
      have hw2 : ((jj : Int) + 1).toNat = jj + 1 := by omega
      have hw3 : (0 : Int) ≤ (jj : Int) + 1 := by omega
      have hw4 : decide ((jj : Int) + 1 < m) = true := by simp; omega
      have hw5 : decide ((jj : Int) < m) = true := by simp; omega
      have hw6 : (jj : Int) + 1 < m := by omega
      have hw7 : (jj : Int) < m := by omega
      have hC0 : Below w2.heap.size w2 w2.drew := (Below.refl _ _).drew
      clear hcell1 hcell2 hkcell n0 n1 n2 n3 n4
      go_upto_region 7 with (fail)
      clear hmin1 hmin2
      go_cut [7] (fun s7 wx => MendMid (fun b => F b ∧ b < w.heap.size) (n + 1) w w2 TJ s7 wx)
      case first =>
        go_region_held3 (fun W => Below w2.heap.size w2 W) (first | with_reducible assumption | (repeat (with_reducible first | assumption | exact Nat.le_refl _ | exact Below.refl _ _ | apply Below.al | apply Below.dr | apply Below.st))) (first | (go_at_call 192; (with_reducible refine (HJ _ ?_).mono ?_); (focus (repeat (with_reducible first | assumption | exact Below.refl _ _ | apply Below.al | apply Below.dr))); rintro e w9 hq9; obtain ⟨x9, rfl, hn9, hb9⟩ := hq9; obtain ⟨g1, g2, g3, g4, g5, g6, g7, g8, _, _, ex9, _⟩ := hn9.open; subst ex9; have hB9 : Below w2.heap.size w2 w9 := below_via (by (repeat (with_reducible first | assumption | exact Below.refl _ _ | apply Below.al | apply Below.dr))) hb9; (try (refine lay (P := BoxAt w9 w2.heap.size #[.int .i64 0, .bool false, .slice none 0 0, .slice none 0 0, .slice none 0 0]) (BoxAt.below ?_ hb9) ?_; (focus ((repeat (with_reducible first | assumption | exact BoxAt.here3 | exact BoxAt.here2 | exact BoxAt.here | apply BoxAt.dr | apply BoxAt.al)); done)); intro hz9; have z0 := hz9.cell (i := 0) rfl; have z1 := hz9.cell (i := 1) rfl; have z2 := hz9.cell (i := 2) rfl; have z3 := hz9.cell (i := 3) rfl; have z4 := hz9.cell (i := 4) rfl; have u0 := hz9.frozen 0; have u1 := hz9.frozen 1; have u2 := hz9.frozen 2; have u3 := hz9.frozen 3; have u4 := hz9.frozen 4))))
        all_goals
          go_wp2_with fail
          go_meet
          first
            | (have hA : MendMid (fun b => F b ∧ b < w.heap.size) (n + 1) w w2 TJ (.pointer (some ⟨w9.heap.size, 0, none⟩)) (w9.alloc (.cells #[.int .i64 TJ.page, .bool TJ.isLeaf, .slice g1 (cntT TJ) g2, .slice g3 g4 g5, .slice g6 g7 g8] 50)) := ⟨_, _, _, _, _, _, _, _, _, _, _, _, rfl, (Boxes.nil w9).alloc #[.int .i64 TJ.page, .bool TJ.isLeaf, .slice g1 (cntT TJ) g2, .slice g3 g4 g5, .slice g6 g7 g8] 50 rfl, Below.al hB9, hB9.size, NodeOn.mono (fun b h => by rcases h with h | h; exact .inl h; (have h : w2.heap.size ≤ b := h); exact .inr (by omega)) (hn9.below (Below.al (Below.refl _ _)))⟩
               with_reducible exact hA)
            | (have hn8 : ¬ Fr (fun b => F b ∧ b < w.heap.size) (w2.alloc (.cells #[.int .i64 0, .bool false, .slice none 0 0, .slice none 0 0, .slice none 0 0] 50)).drew w2.heap.size := fun h => by
                 rcases h with h | h
                 · exact absurd h.2 (by omega)
                 · have h : (w2.alloc (.cells #[.int .i64 0, .bool false, .slice none 0 0, .slice none 0 0, .slice none 0 0] 50)).heap.size ≤ w2.heap.size := h
                   simp at h <;> omega
               have hA : MendMid (fun b => F b ∧ b < w.heap.size) (n + 1) w w2 TJ (.pointer (some ⟨w2.heap.size, 0, none⟩)) (set5 w9 w2.heap.size (.int .i64 TJ.page) (.bool TJ.isLeaf) (.slice g1 (cntT TJ) g2) (.slice g3 g4 g5) (.slice g6 g7 g8)) := ⟨w2.heap.size, _, _, _, _, _, _, _, _, _, _, _, rfl, set5_box hz9.boxes (by simp) _ _ _ _ _, set5_below hB9 (Nat.le_refl _) _ _ _ _ _, Nat.le_refl _, NodeOn.mono (fun b h => by rcases h with h | h; exact .inl h; (have h : (w2.alloc (.cells #[.int .i64 0, .bool false, .slice none 0 0, .slice none 0 0, .slice none 0 0] 50)).heap.size ≤ b := h); simp at h; exact .inr (by omega)) (hn9.agree ((((((AgreeF.of_below (Below.refl _ _)).set (.inl hn8)).set (.inl hn8)).set (.inl hn8)).set (.inl hn8)).set (.inl hn8)))⟩
               unfold set5 at hA
               with_reducible exact hA)
      case rest =>
      unfold MendMid at hcut
      obtain ⟨b7, p9, l9, x1, x2, x3, x4, x5, x6, x7, x8, x9, rfl, hx7, hbc7, hb7, hn7⟩ := hcut
      clear k2 k4 kk kka0 kka1 kka2 kka3 kka4 kkb0 kkb1 kkb2 kkb3 kkb4 hw4 hw5 hw6 hw7 hC0 hj1
      have hj1 : jj + 1 < m := by unfold joinAt at HJJ; have := HJJ.out; split at this <;> omega
      have HXC := Lib.hid (HX8.out.step hbc7)
      have HB7X := Lib.hid hx7
      have HBC := Lib.hid (HBW3.out.trans (hbc7.mono HBW3.out.size))
      have HN7 := Lib.hid hn7
      have hzc : w.heap.size + 2 ≤ wc.heap.size := by have := hbc7.size; omega
      have hb7c : b7 < wc.heap.size := hx7.lt 0 rfl
      obtain ⟨LK, hLK⟩ : ∃ L, swapL ((keysOf l).map kCell) (jj + 1) 1 [] = L := ⟨_, rfl⟩
      obtain ⟨c9, hc9⟩ : ∃ c : Cl 5, c.1 = [.int .i64 p9, .bool l9, .slice x1 x2 x3, .slice x4 x5 x6, .slice x7 x8 x9] := ⟨⟨[.int .i64 p9, .bool l9, .slice x1 x2 x3, .slice x4 x5 x6, .slice x7 x8 x9], rfl, by intro u hu; simp at hu; rcases hu with rfl | rfl | rfl | rfl | rfl <;> rfl⟩, rfl⟩
      obtain ⟨LC, hLC⟩ : ∃ L, swapL C jj 2 [c9] = L := ⟨_, rfl⟩
      have hLKl : LK.length = m - 1 := by
        have := len_swapL (l := (keysOf l).map kCell) (s := []) (i := jj + 1) (j := 1) (by have := H1.out.1; omega)
        rw [hLK, H1.out.1] at this
        simp at this
        omega
      have hLCl : LC.length = m - 1 := by
        have := len_swapL (l := C) (s := [c9]) (i := jj) (j := 2) (by have := H3.out.1; omega)
        rw [hLC, H3.out.1] at this
        simp at this
        omega
      have hkind := HO.out.kind
      obtain ⟨d1, hd1, hd1x⟩ := kid_mem (l := l) (k := jj) (by rw [HM.out]; omega)
      obtain ⟨d2, hd2, hd2x⟩ := kid_mem (l := l) (k := jj + 1) (by rw [HM.out]; omega)
      have hkk : (kidAt l jj).isLeaf = (kidAt l (jj + 1)).isLeaf := by rw [← hd1x, ← hd2x]; exact hkind d1 hd1 d2 hd2
      have hTJs : TJ.isLeaf = false → 0 < cntT TJ := by
        rw [← HTJE.out]
        intro he
        rw [join_cnt hkk]
        rw [(join_keys hkk).2.2, ← hd1x] at he
        have := HO.out.some_ d1 hd1 he
        rw [hd1x] at this
        omega
      have hLCz : ∀ x ∈ LC, x.1 ≠ zero5.toList := by
        intro x hx
        rw [← hLC] at hx
        rcases mem_swapL hx with hx | hx
        · obtain ⟨i, hi, rfl⟩ := List.getElem_of_mem hx
          have hy : C[i]? = some C[i] := List.getElem?_eq_getElem hi
          have hnn := kid_tells H4.out.2.2 hy
          obtain ⟨d, hd, hdx⟩ := kid_mem (l := l) (k := i) (by rw [HM.out, ← H3.out.1]; exact hi)
          exact node_not_zero hnn (by rw [← hdx]; exact HO.out.some_ d hd)
        · simp at hx
          subst hx
          rw [hc9]
          exact node_not_zero HN7.out hTJs
      have hLKe : LK = (swapL (keysOf l) (jj + 1) 1 []).map kCell := by rw [← hLK, swap_map]; rfl
      have HZ1 := Lib.hid (keys_not_zero (ks := swapL (keysOf l) (jj + 1) 1 []) (by rw [← List.length_map (f := kCell), ← hLKe, hLKl]; omega))
      rw [← hLKe] at HZ1
      have HZ2 := Lib.hid (nodes_not_zero (L := LC) (by omega) hLCz)
      have HC1 : ∀ (W : World), Below wc.heap.size wc W → Calls Tryz.prog 160 #[.slice (some ⟨kb, ko, none⟩) m kc, .int .i64 ((jj : Int) + 1), .int .i64 1, .slice none 0 0] W (RowOut 9 1 wc W LK) := fun W hW => by
        have := swap_s (H1.out.below (below_via HBC.out hW)) (Raw.nil0 1 W) (jj + 1) 1 (by omega) (by omega)
        rw [hLK] at this
        have h2 : Calls Tryz.prog 160 #[.slice (some ⟨kb, ko, none⟩) m kc, .int .i64 ((jj : Int) + 1), .int .i64 1, .slice none 0 0] W (OwnRaw 9 1 W LK) := by simpa using this
        exact h2.mono fun e w' h => OwnRaw.row hW h
      have HC2 : ∀ (W : World) (x : Nat), Below wc.heap.size wc W → BoxAt W x #[.int .i64 p9, .bool l9, .slice x1 x2 x3, .slice x4 x5 x6, .slice x7 x8 x9] → Calls Tryz.prog 158 #[.slice (some ⟨bc, oc, none⟩) m cc, .int .i64 (jj : Int), .int .i64 2, .slice (some ⟨x, 0, none⟩) 1 1] W (RowOut 50 5 wc W LC) := fun W x hW hX => by
        have := swap_n (H3.out.below (below_via HBC.out hW)) (raw_box (L := [c9]) (by simpa [flatC, hc9] using hX) (by simp)) jj 2 (by omega) (by simp; omega)
        rw [hLC] at this
        have h2 : Calls Tryz.prog 158 #[.slice (some ⟨bc, oc, none⟩) m cc, .int .i64 (jj : Int), .int .i64 2, .slice (some ⟨x, 0, none⟩) 1 1] W (OwnRaw 50 5 W LC) := by simpa using this
        exact h2.mono fun e w' h => OwnRaw.row hW h
      obtain ⟨T2, hT2⟩ : ∃ t, splitR 0 (joined l jj) jj = t := ⟨_, rfl⟩
      obtain ⟨B2, hB2⟩ : ∃ t, (splitT (joined l jj) jj).isSome = t := ⟨_, rfl⟩
      have HC3 : ∀ (W : World) (a1 a2 : Option Addr) (c1 c2 : Nat), Below wc.heap.size wc W → W.ownsRow wc.heap.size 9 1 (.slice a1 LK.length c1) LK.length (flatC LK) → W.ownsRow wc.heap.size 50 5 (.slice a2 LC.length c2) LC.length (flatC LC) →
          Calls Tryz.prog 190 #[.agg #[.int .i64 0, .bool false, .slice a1 LK.length c1, .slice none 0 0, .slice a2 LC.length c2], .int .i64 (jj : Int)] W (fun e w' => SplitPost (MF (fun b => F b ∧ b < w.heap.size) w wc a1 a2) (n + 2) W T2 B2 e w' ∧ wc.heap.size ≤ W.heap.size) := fun W a1 a2 c1 c2 hW o1 o2 => by
        have hB9 : NodeOn (MF (fun b => F b ∧ b < w.heap.size) w wc a1 a2) (n + 1) W c9.1 (joinT (keyAt l (jj + 1)) (kidAt l jj) (kidAt l (jj + 1))) := by
          rw [hc9, HTJE.out]
          exact NodeOn.mono (fun b h => by rcases h with ⟨h | h, h2⟩; exact .inl h; exact .inr (.inl ⟨h, h2⟩)) (HN7.out.lt.below hW)
        obtain ⟨r1, r2, r3, r4⟩ := joinedR (p := p) (V := []) (B := c9) (j := jj) (NodeRF.mono (G := MF (fun b => F b ∧ b < w.heap.size) w wc a1 a2) (H4.out.below (below_via HBC.out hW)) (fun b h => .inl h)) (by rw [HM.out]; omega) hB9
        rw [hLC] at r1
        have hnode : NodeOn (MF (fun b => F b ∧ b < w.heap.size) w wc a1 a2) (n + 2) W [.int .i64 0, .bool false, .slice a1 LK.length c1, .slice none 0 0, .slice a2 LC.length c2] (.node 0 (joined l jj)) :=
          NodeOn.shut rfl rfl (by rw [show (Tr.node 0 (joined l jj)).keys = keysOf (joined l jj) from rfl, r2, ← hLKe]) (Raw.of_sl o1 rfl) (Raw.nil0 _ _) (Raw.of_sl o2 rfl) (.inr fun b off e => .inr (.inr (.inl ⟨off, e⟩))) (Fa.zero _ _) (.inr fun b off e => .inr (.inr (.inr ⟨off, e⟩))) r1
        have hml : l.length = m := HM.out
        have := tsplit_any hnode jj (by omega) (by omega) (by rw [r3]; exact HO.out.both jj (by rw [HM.out]; omega))
        rw [hT2, hB2] at this
        exact this.mono fun e w' h => ⟨h, hW.size⟩
      have hj0 : joinAt m k = jj := HJJ.out
      have HT2 : Hid (mendT p l k = T2) := Lib.hid (by rw [mend_join HB1.out HLO.out (by rw [HM.out]; exact hm2), HM.out, hj0, hT2])
      have HLKl := Lib.hid hLKl
      have k2 : ∀ W, Below wc.heap.size wc W → W.cell? ⟨w.heap.size, 2, none⟩ = some (.slice (some ⟨kb, ko, none⟩) m kc) := fun W hW => (HXC.out.step hW).cell 2 2 rfl rfl
      have k4 : ∀ W, Below wc.heap.size wc W → W.cell? ⟨w.heap.size, 4, none⟩ = some (.slice (some ⟨bc, oc, none⟩) m cc) := fun W hW => (HXC.out.step hW).cell 2 4 rfl rfl
      have k70 : ∀ W, Below wc.heap.size wc W → W.cell? ⟨b7, 0, none⟩ = some (.int .i64 p9) := fun W hW => (HB7X.out.step hW).cell 0 0 rfl rfl
      have k71 : ∀ W, Below wc.heap.size wc W → W.cell? ⟨b7, 1, none⟩ = some (.bool l9) := fun W hW => (HB7X.out.step hW).cell 0 1 rfl rfl
      have k72 : ∀ W, Below wc.heap.size wc W → W.cell? ⟨b7, 2, none⟩ = some (.slice x1 x2 x3) := fun W hW => (HB7X.out.step hW).cell 0 2 rfl rfl
      have k73 : ∀ W, Below wc.heap.size wc W → W.cell? ⟨b7, 3, none⟩ = some (.slice x4 x5 x6) := fun W hW => (HB7X.out.step hW).cell 0 3 rfl rfl
      have k74 : ∀ W, Below wc.heap.size wc W → W.cell? ⟨b7, 4, none⟩ = some (.slice x7 x8 x9) := fun W hW => (HB7X.out.step hW).cell 0 4 rfl rfl
      have hC0 : Below wc.heap.size wc wc.drew := (Below.refl _ _).drew
      clear hLK hc9 hLC hLKl hLCl hkind hd1 hd1x hd2 hd2x hkk hTJs hLCz hLKe hT2 hB2 hj0 hx7 hbc7 hn7
      go_upto_region 8 with (fail)
      go_cut [8] (fun s8 wx => MendLast F (n + 2) w T2 s8 wx)
      case first =>
        go_region_held3 (fun W => Below wc.heap.size wc W) (first | with_reducible assumption | (repeat (with_reducible first | assumption | exact Below.refl _ _ | exact Nat.le_refl _ | exact Nat.le_succ _ | exact hB1.size | exact hB2.size | exact Nat.le_succ_of_le hB1.size | exact Nat.le_succ_of_le hB2.size | apply Below.al | apply Below.dr | apply Below.st))) (first | (go_at_call 160; (with_reducible refine (HC1 _ ?_).mono ?_); (focus (repeat (with_reducible first | assumption | exact Below.refl _ _ | apply Below.al | apply Below.dr))); rintro e w1 hq1; obtain ⟨a1, c1, rfl, i11, i12, ho1, hb1, hB1⟩ := hq1; have U1 := fun b cs h => BoxAt.below (b := b) (cs := cs) h hb1; (try (apply lay_zero (cs := #[.int .i64 0, .bool false, .slice none 0 0, .slice none 0 0, .slice none 0 0]) hb1; (focus ((repeat (with_reducible first | assumption | exact BoxAt.here3 | exact BoxAt.here2 | exact BoxAt.here | apply BoxAt.dr | apply BoxAt.al)); done)); rintro ⟨hz1, hzl1⟩))) | (go_at_call 158; (with_reducible refine (HC2 _ _ ?_ ?_).mono ?_); (focus (repeat (with_reducible first | assumption | exact Below.refl _ _ | apply Below.al | apply Below.dr))); (focus (repeat (with_reducible first | assumption | exact BoxAt.here3 | exact BoxAt.here2 | exact BoxAt.here | apply BoxAt.dr | apply BoxAt.al | apply U1))); rintro e w2 hq2; obtain ⟨a2, c2, rfl, i21, i22, ho2, hb2, hB2⟩ := hq2; have U2 := fun b cs h => BoxAt.below (b := b) (cs := cs) h hb2; (try (apply lay_zero (cs := #[.int .i64 0, .bool false, .slice none 0 0, .slice none 0 0, .slice none 0 0]) hb2; (focus ((repeat (with_reducible first | assumption | exact BoxAt.here3 | exact BoxAt.here2 | exact BoxAt.here | apply BoxAt.dr | apply BoxAt.al | apply U1)); done)); rintro ⟨hz2, hzl2⟩)); have hk12 := below_via (a := w1) (by (repeat (with_reducible first | exact Below.refl _ _ | apply Below.al | apply Below.dr))) hb2) | (go_at_call 190; (with_reducible refine (HC3 _ _ _ _ _ ?_ ?_ ?_).mono ?_); (focus (repeat (with_reducible first | assumption | exact Below.refl _ _ | apply Below.al | apply Below.dr))); (focus (refine own_held (own_held ho1 hk12) ?_; (repeat (with_reducible first | exact Below.refl _ _ | apply Below.al | apply Below.dr)))); (focus (refine own_held ho2 ?_; (repeat (with_reducible first | exact Below.refl _ _ | apply Below.al | apply Below.dr)))); rintro e w3 hq3; obtain ⟨⟨y3, rfl, hn3, hb3⟩, hws⟩ := hq3; obtain ⟨y1, y2, y4, y5, y6, y7, y8, y9, _, _, ey3, _⟩ := hn3.open; subst ey3; have hB3 : Below wc.heap.size wc w3 := below_via (by (repeat (with_reducible first | assumption | exact Below.refl _ _ | apply Below.al | apply Below.dr))) hb3; have hk23 := below_via (a := w2) (by (repeat (with_reducible first | exact Below.refl _ _ | apply Below.al | apply Below.dr))) hb3; (try (apply lay_zero (cs := #[.int .i64 0, .bool false, .slice none 0 0, .slice none 0 0, .slice none 0 0]) hb3; (focus ((repeat (with_reducible first | assumption | exact BoxAt.here3 | exact BoxAt.here2 | exact BoxAt.here | apply BoxAt.dr | apply BoxAt.al)); done)); rintro ⟨hz3, hzl3⟩; have z0 := hz3.cell (i := 0) rfl; have z1 := hz3.cell (i := 1) rfl; have z2 := hz3.cell (i := 2) rfl; have z3 := hz3.cell (i := 3) rfl; have z4 := hz3.cell (i := 4) rfl; have u0 := hz3.frozen 0; have u1 := hz3.frozen 1; have u2 := hz3.frozen 2; have u3 := hz3.frozen 3; have u4 := hz3.frozen 4))))
        all_goals
          go_wp2_with fail
          go_meet
          have s1 := hB1.size
          have s2 := hB2.size
          have o1 := own_held (own_held ho1 hk12) hk23
          have o2 := own_held ho2 hk23
          have hXz : Boxes wc [(w.heap.size + 1, zero5.toList)] := HXC.out.sub (by intro x hx; simp only [List.mem_cons, List.not_mem_nil, or_false] at hx; subst hx; simp [zero5])
          first
            | (have hA := mendlast_a (F := F) 50 HBC.out hzc hws hB3 hXz o1 o2 hn3
               with_reducible exact hA)
            | (have hA := mendlast_b (F := F) HBC.out hzc hws hB3 hXz o1 o2 HZ1.out HZ2.out hz3 hzl3 (by omega) hn3
               unfold set5 at hA
               with_reducible exact hA)
      case rest =>
      unfold MendLast at hcut
      obtain ⟨b8, p8, l8, y1, y2, y3, y4, y5, y6, y7, y8, y9, rfl, hx8, hb8, hb8c, hn8⟩ := hcut
      unfold zero5 at hx8
      have m0 := hx8.cell 0 0 rfl rfl
      have m1 := hx8.cell 0 1 rfl rfl
      have m2 := hx8.cell 0 2 rfl rfl
      have m3 := hx8.cell 0 3 rfl rfl
      have m4 := hx8.cell 0 4 rfl rfl
      have z0 := hx8.cell 1 0 rfl rfl
      have z1 := hx8.cell 1 1 rfl rfl
      have z2 := hx8.cell 1 2 rfl rfl
      have z3 := hx8.cell 1 3 rfl rfl
      have z4 := hx8.cell 1 4 rfl rfl
      have u0 := hx8.frozen 1 0 rfl
      have u1 := hx8.frozen 1 1 rfl
      have u2 := hx8.frozen 1 2 rfl
      have u3 := hx8.frozen 1 3 rfl
      have u4 := hx8.frozen 1 4 rfl
      have hX7 := set5_box (hx8.sub (m := [(w.heap.size + 1, [.int .i64 0, .bool false, .slice none 0 0, .slice none 0 0, .slice none 0 0])]) (by simp)) (by simp) (.int .i64 p8) (.bool l8) (.slice y1 y2 y3) (.slice y4 y5 y6) (.slice y7 y8 y9)
      have hB7 := set5_below hb8 (b := w.heap.size + 1) (by omega) (.int .i64 p8) (.bool l8) (.slice y1 y2 y3) (.slice y4 y5 y6) (.slice y7 y8 y9)
      have hne : ¬ ((F (w.heap.size + 1) ∧ w.heap.size + 1 < w.heap.size) ∨ w.heap.size + 2 ≤ w.heap.size + 1) := by omega
      have hN7 := NodeOn.mono (G := Fr F w) (fun b h => by rcases h with h | h; exact .inl h.1; exact .inr (by omega)) (hn8.agree ((((((AgreeF.of_below (Below.refl _ _)).set (p := ⟨w.heap.size + 1, 0, none⟩) (u := .int .i64 p8) (.inl hne)).set (p := ⟨w.heap.size + 1, 1, none⟩) (u := .bool l8) (.inl hne)).set (p := ⟨w.heap.size + 1, 2, none⟩) (u := .slice y1 y2 y3) (.inl hne)).set (p := ⟨w.heap.size + 1, 3, none⟩) (u := .slice y4 y5 y6) (.inl hne)).set (p := ⟨w.heap.size + 1, 4, none⟩) (u := .slice y7 y8 y9) (.inl hne)))
      have fin : Hid (NodeTo F (n + 2) w (mendT p l k) (.returned (.agg #[.int .i64 p8, .bool l8, .slice y1 y2 y3, .slice y4 y5 y6, .slice y7 y8 y9])) (set5 _ (w.heap.size + 1) (.int .i64 p8) (.bool l8) (.slice y1 y2 y3) (.slice y4 y5 y6) (.slice y7 y8 y9))) := Lib.hid ⟨[.int .i64 p8, .bool l8, .slice y1 y2 y3, .slice y4 y5 y6, .slice y7 y8 y9], rfl, by rw [HT2.out]; exact hN7, hB7⟩
      have t0 := hX7.cell 0 0 rfl rfl
      have t1 := hX7.cell 0 1 rfl rfl
      have t2 := hX7.cell 0 2 rfl rfl
      have t3 := hX7.cell 0 3 rfl rfl
      have t4 := hX7.cell 0 4 rfl rfl
      unfold set5 at t0 t1 t2 t3 t4
      clear hX7 hB7 hN7 hx8 hb8 hn8 k2 k4 k70 k71 k72 k73 k74 HC1 HC2 HC3
      go_wp2_with fail
      refine bodyPost_ret (v := .agg #[.int .i64 p8, .bool l8, .slice y1 y2 y3, .slice y4 y5 y6, .slice y7 y8 y9]) (by simp [results, Tryz.results156, go_sem, t0, t1, t2, t3, t4]) rfl ?_
      exact fin.out
end Go.Proofs.YtpghlmcoajaiiaaGreatDoor

/- The walks of trees: the top (printed by gen_treT.py). -/
namespace Go.Proofs.YtpghlmcoajaiiaaGreatDoor
open Go.RowKit

theorem agree_set5 {G : Nat → Prop} {w : World} {b : Nat} (h : ¬ G b) (y0 y1 y2 y3 y4 : Value) : AgreeF G w (set5 w b y0 y1 y2 y3 y4) := (((((AgreeF.of_below (Below.refl _ _)).set (.inl h)).set (.inl h)).set (.inl h)).set (.inl h)).set (.inl h)
theorem NodeOn.open_pos {F : Nat → Prop} {n : Nat} {w : World} {cs : List Value} {t : Tr} (h : NodeOn F n w cs t) :
    ∃ ka kc va vn vc ca cn cc V C, cs = [.int .i64 t.page, .bool t.isLeaf, .slice ka (cntT t) kc, .slice va vn vc, .slice ca cn cc] ∧ Raw 1 w ka (cntT t) kc (t.keys.map kCell) ∧ Raw 2 w va vn vc V ∧ Raw 5 w ca cn cc C := by
  cases n with
  | zero => exact h.elim
  | succ n =>
    obtain ⟨ka, kc, va, vn, vc, ca, cn, cc, V, C, e, h1, h2, h3, _⟩ := h.open
    exact ⟨ka, kc, va, vn, vc, ca, cn, cc, V, C, e, h1, h2, h3⟩
/-- What the top asks of a tree. -/
def TopOk : Nat → Tr → Prop
  | 0, _ => False
  | n + 1, t => Bnd (n + 1) t ∧ (t.isLeaf = false → 0 < cntT t) ∧ ∀ p l, t = .node p l → l.length = 1 → TopOk n (kidAt l 0)
theorem topT_kid {n : Nat} {p : Int} {l : List (List UInt8 × Tr)} (h : l.length = 1) : topT (n + 1) (.node p l) = topT n (kidAt l 0) := by
  show (if l.length = 1 then _ else _) = _
  rw [if_pos h]
theorem topT_same {n : Nat} {t : Tr} (h : ∀ p l, t = .node p l → l.length ≠ 1) (ha : atF (sizesT t) = 0) : topT (n + 1) t = t := by
  cases t with
  | leaf p l => show (if _ then _ else _) = _; rw [if_pos ha]
  | node p l =>
    show (if l.length = 1 then _ else if _ then _ else _) = _
    rw [if_neg (h p l rfl), if_pos ha]
theorem topT_mend {n : Nat} {t : Tr} (h : ∀ p l, t = .node p l → l.length ≠ 1) (ha : atF (sizesT t) ≠ 0) : topT (n + 1) t = mendT 0 [([], t)] 0 := by
  cases t with
  | leaf p l => show (if _ then _ else _) = _; rw [if_neg ha]
  | node p l =>
    show (if l.length = 1 then _ else if _ then _ else _) = _
    rw [if_neg (h p l rfl), if_neg ha]
set_option maxRecDepth 100000 in
set_option maxHeartbeats 2000000 in
theorem ttop_any : ∀ {N : Nat} {F : Nat → Prop} {w : World} {cs : List Value} {t : Tr}, NodeOn F N w cs t → TopOk N t → Calls Tryz.prog 119 #[.agg cs.toArray] w (NodeTo F (N + 1) w (topT N t))
  | 0, _, _, _, _, h, _ => h.elim
  | N + 1, F, w, cs, t, h, ho => by
    have IH := fun {F : Nat → Prop} {w : World} {cs : List Value} {t : Tr} (h : NodeOn F N w cs t) (ho : TopOk N t) => ttop_any h ho
    obtain ⟨o1, o2, o3⟩ := ho
    have hlt := h.lt
    obtain ⟨ka, kc, va, vn, vc, ca, cn, cc, V, C, rfl, h1, h2, h3, h4, f1, f2, f3⟩ := hlt.open
    obtain ⟨lf, hlf⟩ : ∃ x, t.isLeaf = x := ⟨_, rfl⟩
    obtain ⟨p, hp⟩ : ∃ x, t.page = x := ⟨_, rfl⟩
    obtain ⟨m, hm⟩ : ∃ x, cntT t = x := ⟨_, rfl⟩
    obtain ⟨_, r1, r2⟩ := h4.toR.lens
    have hcn : cn = if lf then 0 else m := by rw [← h3.1, r2, hlf, hm]
    have hm9 : m ≤ 1000 := by rw [← hm]; exact o1.cnt
    rw [hlf, hp, hm] at hlt ⊢
    have hB0 : Below w.heap.size w ((w.alloc (.cells #[.int .i64 p, .bool lf, .slice ka m kc, .slice va vn vc, .slice ca cn cc] 50)).alloc (.cells #[.int .i64 0, .bool false, .slice none 0 0, .slice none 0 0, .slice none 0 0] 50)) := Below.al (Below.al (Below.refl _ _))
    have hX0 : Boxes _ [(w.heap.size + 1, [.int .i64 0, .bool false, .slice none 0 0, .slice none 0 0, .slice none 0 0]), (w.heap.size, [.int .i64 p, .bool lf, .slice ka m kc, .slice va vn vc, .slice ca cn cc])] := (((Boxes.nil w).alloc #[.int .i64 p, .bool lf, .slice ka m kc, .slice va vn vc, .slice ca cn cc] 50 rfl).alloc #[.int .i64 0, .bool false, .slice none 0 0, .slice none 0 0, .slice none 0 0] 50 (b := w.heap.size + 1) (by simp))
    obtain ⟨wA, hwA⟩ : ∃ wA, (w.alloc (.cells #[.int .i64 p, .bool lf, .slice ka m kc, .slice va vn vc, .slice ca cn cc] 50)).alloc (.cells #[.int .i64 0, .bool false, .slice none 0 0, .slice none 0 0, .slice none 0 0] 50) = wA := ⟨_, rfl⟩
    have hzA : w.heap.size + 2 ≤ wA.heap.size := by rw [← hwA]; simp
    rw [hwA] at hB0 hX0
    have CS := tsizes_any (hlt.below hB0).toIn o1
    obtain ⟨S, hS⟩ : ∃ x, sizesT t = x := ⟨_, rfl⟩
    rw [hS] at CS
    have hSm := o1.small
    rw [hS] at hSm
    have hSm := Lib.hid hSm
    have n0 := hX0.cell 1 0 rfl rfl
    have n1 := hX0.cell 1 1 rfl rfl
    have n2 := hX0.cell 1 2 rfl rfl
    have n3 := hX0.cell 1 3 rfl rfl
    have n4 := hX0.cell 1 4 rfl rfl
    have HN := Lib.hid hlt
    have HX := Lib.hid hX0
    have HB := Lib.hid hB0
    have H3 := Lib.hid h3
    have H4 := Lib.hid h4
    have HLF := Lib.hid hlf
    have HM := Lib.hid hm
    have HO1 := Lib.hid o1
    have HO2 := Lib.hid o2
    have HO3 := Lib.hid o3
    have HS := Lib.hid hS
    have HCN := Lib.hid hcn
    have hF : ∀ b, Fr (fun b => F b ∧ b < w.heap.size) wA b → Fr F w b := fun b h => by rcases h with h | h; exact .inl h.1; exact .inr (by omega)
    have hne : ¬ Fr (fun b => F b ∧ b < w.heap.size) wA (w.heap.size + 1) := fun h => by rcases h with h | h <;> omega
    have HF := Lib.hid hF
    clear h h1 h2 h3 h4 hlt o1 o2 o3 hX0 hB0 hlf hp hm r1 r2 hS hcn hF
    by_cases hkid : lf = false ∧ m = 1
    · obtain ⟨rfl, rfl⟩ := hkid
      have hcn : cn = 1 := HCN.out
      subst hcn
      obtain ⟨bc, oc, y, yc, eca, hbc, hy, _, hyc, hcell⟩ := TabR.at H3.out (show 0 < 1 by omega)
      have hyc : yc = y.1 := hyc
      subst hyc eca
      cases t with
      | leaf p0 l => have := HLF.out; simp [Tr.isLeaf] at this
      | node p0 l =>
      have hl1 : l.length = 1 := HM.out
      have hkid := kid_tells H4.out.2.2 hy
      obtain ⟨q1, q2, q3, q4, q5, q6, q7, q8, _, _, ey, _⟩ := (NodeOn.open_pos hkid)
      rw [ey] at hcell hkid
      have e0 := (HB.out.cell (p := ⟨bc, oc, none⟩) hbc).trans (by have := hcell 0 _ rfl; simpa using this)
      have e1 := (HB.out.cell (p := ⟨bc, oc + 1, none⟩) hbc).trans (by have := hcell 1 _ rfl; simpa using this)
      have e2 := (HB.out.cell (p := ⟨bc, oc + 2, none⟩) hbc).trans (by have := hcell 2 _ rfl; simpa using this)
      have e3 := (HB.out.cell (p := ⟨bc, oc + 3, none⟩) hbc).trans (by have := hcell 3 _ rfl; simpa using this)
      have e4 := (HB.out.cell (p := ⟨bc, oc + 4, none⟩) hbc).trans (by have := hcell 4 _ rfl; simpa using this)
      have CT := IH (hkid.below HB.out) (HO3.out p0 l rfl hl1)
      have HTE : Hid (topT (N + 1) (.node p0 l) = topT N (kidAt l 0)) := Lib.hid (topT_kid hl1)
      clear hcell hkid ey hy CS IH hl1
      generalize (kidAt l 0).page = kp at *
      generalize (kidAt l 0).isLeaf = kl at *
      generalize cntT (kidAt l 0) = kcn at *
      go_enter Tryz.func119, Tryz.ntmps119
      go_wp2_with fail
      refine CT.mono ?_
      rintro e w1 ⟨x, rfl, hn, hb1⟩
      obtain ⟨x1, x3, x4, x5, x6, x7, x8, x9, _, _, ex, _⟩ := NodeOn.open_pos hn
      subst ex
      generalize (topT N (kidAt l 0)).page = xp at *
      generalize (topT N (kidAt l 0)).isLeaf = xl at *
      generalize cntT (topT N (kidAt l 0)) = x2 at *
      have hX1 := HX.out.step hb1
      have hBW := HB.out.trans (hb1.mono HB.out.size)
      have hz1 : w.heap.size + 2 ≤ w1.heap.size := Nat.le_trans hzA hb1.size
      clear CT n0 n1 n2 n3 n4 e0 e1 e2 e3 e4
      have hX7 := set5_box (hX1.sub (m := [(w.heap.size + 1, [.int .i64 0, .bool false, .slice none 0 0, .slice none 0 0, .slice none 0 0])]) (by simp)) (by simp) (.int .i64 xp) (.bool xl) (.slice x1 x2 x3) (.slice x4 x5 x6) (.slice x7 x8 x9)
      have hB7 := set5_below hBW (b := w.heap.size + 1) (by omega) (.int .i64 xp) (.bool xl) (.slice x1 x2 x3) (.slice x4 x5 x6) (.slice x7 x8 x9)
      have hN7 := NodeOn.more (m := N + 2) (NodeOn.mono HF.out (hn.agree (agree_set5 hne (.int .i64 xp) (.bool xl) (.slice x1 x2 x3) (.slice x4 x5 x6) (.slice x7 x8 x9)))) (by omega)
      rw [← HTE.out] at hN7
      have fin : Hid (NodeTo F (N + 2) w (topT (N + 1) (.node p0 l)) (.returned (.agg #[.int .i64 xp, .bool xl, .slice x1 x2 x3, .slice x4 x5 x6, .slice x7 x8 x9])) (set5 _ (w.heap.size + 1) (.int .i64 xp) (.bool xl) (.slice x1 x2 x3) (.slice x4 x5 x6) (.slice x7 x8 x9))) := Lib.hid ⟨[.int .i64 xp, .bool xl, .slice x1 x2 x3, .slice x4 x5 x6, .slice x7 x8 x9], rfl, hN7, hB7⟩
      have t0 := hX7.cell 0 0 rfl rfl
      have t1 := hX7.cell 0 1 rfl rfl
      have t2 := hX7.cell 0 2 rfl rfl
      have t3 := hX7.cell 0 3 rfl rfl
      have t4 := hX7.cell 0 4 rfl rfl
      unfold set5 at t0 t1 t2 t3 t4
      have z0 := hX1.cell 0 0 rfl rfl
      have z1 := hX1.cell 0 1 rfl rfl
      have z2 := hX1.cell 0 2 rfl rfl
      have z3 := hX1.cell 0 3 rfl rfl
      have z4 := hX1.cell 0 4 rfl rfl
      have u0 := hX1.frozen 0 0 rfl
      have u1 := hX1.frozen 0 1 rfl
      have u2 := hX1.frozen 0 2 rfl
      have u3 := hX1.frozen 0 3 rfl
      have u4 := hX1.frozen 0 4 rfl
      clear hX7 hB7 hN7
      go_wp2_with fail
      refine bodyPost_ret (v := .agg #[.int .i64 xp, .bool xl, .slice x1 x2 x3, .slice x4 x5 x6, .slice x7 x8 x9]) (by simp [results, Tryz.results119, go_sem, t0, t1, t2, t3, t4]) rfl ?_
      exact fin.out
    · have hrest : Hid (∀ p l, t = .node p l → l.length ≠ 1) := Lib.hid (fun p l e hl => hkid ⟨by rw [← HLF.out, e]; rfl, by rw [← HM.out, e]; exact hl⟩)
      have hguard : lf = true ∨ ((m : Int) == 1) = false := by
        cases lf with
        | true => exact .inl rfl
        | false => exact .inr (by simp; intro e; exact hkid ⟨rfl, by omega⟩)
      clear hkid IH
      rcases hguard with rfl | hguard
      · go_enter Tryz.func119, Tryz.ntmps119
        go_wp2_with fail
        refine CS.mono ?_
        rintro e w1 ⟨v1, rfl, ho1, hb1⟩
        obtain ⟨sa, sc, rfl, hrow⟩ := Row.of_own ho1
        clear CS ho1
        go_wp2_with fail
        refine (at_any _ _ _ _ _ hrow hSm.out).mono ?_
        rintro e w2 ⟨rfl, hb2⟩
        have hbA := below_via hb1 hb2
        have hX2 := HX.out.step hbA
        have hBW := HB.out.trans (hbA.mono HB.out.size)
        have hz2 : w.heap.size + 2 ≤ w2.heap.size := Nat.le_trans hzA hbA.size
        clear hb1 hb2 hrow n0 n1 n2 n3 n4 hbA
        have n0 := hX2.cell 1 0 rfl rfl
        have n1 := hX2.cell 1 1 rfl rfl
        have n2 := hX2.cell 1 2 rfl rfl
        have n3 := hX2.cell 1 3 rfl rfl
        have n4 := hX2.cell 1 4 rfl rfl
        by_cases hat : atF S = 0
        · have HAT := Lib.hid hat
          have HTE : Hid (topT (N + 1) t = t) := Lib.hid (topT_same hrest.out (by rw [HS.out]; exact hat))
          rw [hat]
          clear hat
          have hX7 := set5_box (hX2.sub (m := [(w.heap.size + 1, [.int .i64 0, .bool false, .slice none 0 0, .slice none 0 0, .slice none 0 0])]) (by simp)) (by simp) (.int .i64 p) (.bool true) (.slice ka m kc) (.slice va vn vc) (.slice ca cn cc)
          have hB7 := set5_below hBW (b := w.heap.size + 1) (by omega) (.int .i64 p) (.bool true) (.slice ka m kc) (.slice va vn vc) (.slice ca cn cc)
          have hN7 := NodeOn.more (m := N + 2) (NodeOn.mono (G := Fr F w) (fun b h => .inl h.1) (HN.out.below hB7)) (by omega)
          rw [← HTE.out] at hN7
          have fin : Hid (NodeTo F (N + 2) w (topT (N + 1) t) (.returned (.agg #[.int .i64 p, .bool true, .slice ka m kc, .slice va vn vc, .slice ca cn cc])) (set5 _ (w.heap.size + 1) (.int .i64 p) (.bool true) (.slice ka m kc) (.slice va vn vc) (.slice ca cn cc))) := Lib.hid ⟨[.int .i64 p, .bool true, .slice ka m kc, .slice va vn vc, .slice ca cn cc], rfl, hN7, hB7⟩
          have t0 := hX7.cell 0 0 rfl rfl
          have t1 := hX7.cell 0 1 rfl rfl
          have t2 := hX7.cell 0 2 rfl rfl
          have t3 := hX7.cell 0 3 rfl rfl
          have t4 := hX7.cell 0 4 rfl rfl
          unfold set5 at t0 t1 t2 t3 t4
          have z0 := hX2.cell 0 0 rfl rfl
          have z1 := hX2.cell 0 1 rfl rfl
          have z2 := hX2.cell 0 2 rfl rfl
          have z3 := hX2.cell 0 3 rfl rfl
          have z4 := hX2.cell 0 4 rfl rfl
          have u0 := hX2.frozen 0 0 rfl
          have u1 := hX2.frozen 0 1 rfl
          have u2 := hX2.frozen 0 2 rfl
          have u3 := hX2.frozen 0 3 rfl
          have u4 := hX2.frozen 0 4 rfl
          clear hX7 hB7 hN7
          go_wp2_with fail
          refine bodyPost_ret (v := .agg #[.int .i64 p, .bool true, .slice ka m kc, .slice va vn vc, .slice ca cn cc]) (by simp [results, Tryz.results119, go_sem, t0, t1, t2, t3, t4]) rfl ?_
          exact fin.out
        · have HTE : Hid (topT (N + 1) t = mendT 0 [([], t)] 0) := Lib.hid (topT_mend hrest.out (by rw [HS.out]; exact hat))
          have hae : ((atF S : Int) == 0) = false := by simpa using hat
          generalize atF S = A at *
          clear hat
          have hSe : Calls Tryz.prog 156 #[.agg #[.int .i64 0, .bool false, .slice (some ⟨w2.heap.size, 0, none⟩) 1 1, .slice none 0 0, .slice (some ⟨w2.heap.size + 1, 0, none⟩) 1 1], .int .i64 0] ((w2.alloc (.cells #[.string ⟨#[]⟩] 9)).alloc (.cells #[.int .i64 p, .bool true, .slice ka m kc, .slice va vn vc, .slice ca cn cc] 50)) (NodeTo (fun b => (F b ∧ b < w.heap.size) ∨ w.heap.size + 2 ≤ b) (N + 2) ((w2.alloc (.cells #[.string ⟨#[]⟩] 9)).alloc (.cells #[.int .i64 p, .bool true, .slice ka m kc, .slice va vn vc, .slice ca cn cc] 50)) (mendT 0 [([], t)] 0)) := by
            have hW : Below w2.heap.size w2 ((w2.alloc (.cells #[.string ⟨#[]⟩] 9)).alloc (.cells #[.int .i64 p, .bool true, .slice ka m kc, .slice va vn vc, .slice ca cn cc] 50)) := Below.al (Below.al (Below.refl _ _))
            obtain ⟨cN, hcN⟩ : ∃ c : Cl 5, c.1 = [.int .i64 p, .bool true, .slice ka m kc, .slice va vn vc, .slice ca cn cc] := ⟨⟨[.int .i64 p, .bool true, .slice ka m kc, .slice va vn vc, .slice ca cn cc], rfl, by intro u hu; simp at hu; rcases hu with rfl | rfl | rfl | rfl | rfl <;> rfl⟩, rfl⟩
            have hnode : NodeOn (fun b => (F b ∧ b < w.heap.size) ∨ w.heap.size + 2 ≤ b) (N + 2) ((w2.alloc (.cells #[.string ⟨#[]⟩] 9)).alloc (.cells #[.int .i64 p, .bool true, .slice ka m kc, .slice va vn vc, .slice ca cn cc] 50)) [.int .i64 0, .bool false, .slice (some ⟨w2.heap.size, 0, none⟩) 1 1, .slice none 0 0, .slice (some ⟨w2.heap.size + 1, 0, none⟩) 1 1] (.node 0 [([], t)]) := by
              refine NodeOn.shut (V := []) (C := [cN]) rfl rfl (K := [kCell []]) rfl (raw_box (L := [kCell []]) (BoxAt.al BoxAt.here) (by simp)) (Raw.nil0 _ _) (raw_box (L := [cN]) (by simpa [flatC, hcN] using (BoxAt.here2 (w := w2) (o := .cells #[.string ⟨#[]⟩] 9) (cs := #[.int .i64 p, .bool true, .slice ka m kc, .slice va vn vc, .slice ca cn cc]) (t := 50))) (by simp)) ?_ (Fa.zero _ _) ?_ ⟨tells_keys _, rfl, Tells.one ?_⟩
              · exact .inr fun b off e => by cases e; exact .inr (by omega)
              · exact .inr fun b off e => by cases e; exact .inr (by omega)
              · rw [hcN]
                exact NodeOn.mono (fun b h => .inl h) (HN.out.below (hBW.trans (hW.mono hBW.size)))
            exact tmend_any hnode 0 (by simp) ⟨by simp, fun c hc => by simp at hc; subst hc; exact HO1.out, fun c hc d hd => by simp at hc hd; subst hc hd; rfl, fun c hc hl => by simp at hc; subst hc; exact HO2.out hl, fun j hj => by simp at hj⟩
          have hX2a : Boxes (w2.alloc (.cells #[.string ⟨#[]⟩] 9)) _ := Boxes.al hX2
          have s0 := hX2a.cell 1 0 rfl rfl
          have s1 := hX2a.cell 1 1 rfl rfl
          have s2 := hX2a.cell 1 2 rfl rfl
          have s3 := hX2a.cell 1 3 rfl rfl
          have s4 := hX2a.cell 1 4 rfl rfl
          go_wp2_with fail
          clear hX2a s0 s1 s2 s3 s4
          refine hSe.mono ?_
          rintro e w3 ⟨x, rfl, hn, hb3⟩
          obtain ⟨x1, x3, x4, x5, x6, x7, x8, x9, _, _, ex, _⟩ := NodeOn.open_pos hn
          subst ex
          rw [← HTE.out] at hn ⊢
          have hb3' : Below w2.heap.size w2 w3 := below_via (Below.al (Below.al (Below.refl _ _))) hb3
          have hX3 := hX2.step hb3'
          have hBW3 := hBW.trans (hb3'.mono hBW.size)
          have hne3 : ¬ Fr (fun b => (F b ∧ b < w.heap.size) ∨ w.heap.size + 2 ≤ b) ((w2.alloc (.cells #[.string ⟨#[]⟩] 9)).alloc (.cells #[.int .i64 p, .bool true, .slice ka m kc, .slice va vn vc, .slice ca cn cc] 50)) (w.heap.size + 1) := fun h => by
            rcases h with h | h
            · omega
            · simp at h; omega
          have hF3 : ∀ b, Fr (fun b => (F b ∧ b < w.heap.size) ∨ w.heap.size + 2 ≤ b) ((w2.alloc (.cells #[.string ⟨#[]⟩] 9)).alloc (.cells #[.int .i64 p, .bool true, .slice ka m kc, .slice va vn vc, .slice ca cn cc] 50)) b → Fr F w b := fun b h => by
            rcases h with h | h
            · rcases h with h | h; exact .inl h.1; exact .inr (by omega)
            · simp at h; exact .inr (by omega)
          have hne := hne3
          generalize (topT (N + 1) t).page = xp at *
          generalize (topT (N + 1) t).isLeaf = xl at *
          generalize cntT (topT (N + 1) t) = x2 at *
          clear hSe n0 n1 n2 n3 n4
          have hX7 := set5_box (hX3.sub (m := [(w.heap.size + 1, [.int .i64 0, .bool false, .slice none 0 0, .slice none 0 0, .slice none 0 0])]) (by simp)) (by simp) (.int .i64 xp) (.bool xl) (.slice x1 x2 x3) (.slice x4 x5 x6) (.slice x7 x8 x9)
          have hB7 := set5_below hBW3 (b := w.heap.size + 1) (by omega) (.int .i64 xp) (.bool xl) (.slice x1 x2 x3) (.slice x4 x5 x6) (.slice x7 x8 x9)
          have hN7 := NodeOn.mono hF3 (hn.agree (agree_set5 hne (.int .i64 xp) (.bool xl) (.slice x1 x2 x3) (.slice x4 x5 x6) (.slice x7 x8 x9)))
          have fin : Hid (NodeTo F (N + 2) w (topT (N + 1) t) (.returned (.agg #[.int .i64 xp, .bool xl, .slice x1 x2 x3, .slice x4 x5 x6, .slice x7 x8 x9])) (set5 _ (w.heap.size + 1) (.int .i64 xp) (.bool xl) (.slice x1 x2 x3) (.slice x4 x5 x6) (.slice x7 x8 x9))) := Lib.hid ⟨[.int .i64 xp, .bool xl, .slice x1 x2 x3, .slice x4 x5 x6, .slice x7 x8 x9], rfl, hN7, hB7⟩
          have t0 := hX7.cell 0 0 rfl rfl
          have t1 := hX7.cell 0 1 rfl rfl
          have t2 := hX7.cell 0 2 rfl rfl
          have t3 := hX7.cell 0 3 rfl rfl
          have t4 := hX7.cell 0 4 rfl rfl
          unfold set5 at t0 t1 t2 t3 t4
          have z0 := hX3.cell 0 0 rfl rfl
          have z1 := hX3.cell 0 1 rfl rfl
          have z2 := hX3.cell 0 2 rfl rfl
          have z3 := hX3.cell 0 3 rfl rfl
          have z4 := hX3.cell 0 4 rfl rfl
          have u0 := hX3.frozen 0 0 rfl
          have u1 := hX3.frozen 0 1 rfl
          have u2 := hX3.frozen 0 2 rfl
          have u3 := hX3.frozen 0 3 rfl
          have u4 := hX3.frozen 0 4 rfl
          clear hX7 hB7 hN7
          go_wp2_with fail
          refine bodyPost_ret (v := .agg #[.int .i64 xp, .bool xl, .slice x1 x2 x3, .slice x4 x5 x6, .slice x7 x8 x9]) (by simp [results, Tryz.results119, go_sem, t0, t1, t2, t3, t4]) rfl ?_
          exact fin.out
      · cases lf with
        | true =>
          go_enter Tryz.func119, Tryz.ntmps119
          go_wp2_with fail
          refine CS.mono ?_
          rintro e w1 ⟨v1, rfl, ho1, hb1⟩
          obtain ⟨sa, sc, rfl, hrow⟩ := Row.of_own ho1
          clear CS ho1
          go_wp2_with fail
          refine (at_any _ _ _ _ _ hrow hSm.out).mono ?_
          rintro e w2 ⟨rfl, hb2⟩
          have hbA := below_via hb1 hb2
          have hX2 := HX.out.step hbA
          have hBW := HB.out.trans (hbA.mono HB.out.size)
          have hz2 : w.heap.size + 2 ≤ w2.heap.size := Nat.le_trans hzA hbA.size
          clear hb1 hb2 hrow n0 n1 n2 n3 n4 hbA
          have n0 := hX2.cell 1 0 rfl rfl
          have n1 := hX2.cell 1 1 rfl rfl
          have n2 := hX2.cell 1 2 rfl rfl
          have n3 := hX2.cell 1 3 rfl rfl
          have n4 := hX2.cell 1 4 rfl rfl
          by_cases hat : atF S = 0
          · have HAT := Lib.hid hat
            have HTE : Hid (topT (N + 1) t = t) := Lib.hid (topT_same hrest.out (by rw [HS.out]; exact hat))
            rw [hat]
            clear hat
            have hX7 := set5_box (hX2.sub (m := [(w.heap.size + 1, [.int .i64 0, .bool false, .slice none 0 0, .slice none 0 0, .slice none 0 0])]) (by simp)) (by simp) (.int .i64 p) (.bool true) (.slice ka m kc) (.slice va vn vc) (.slice ca cn cc)
            have hB7 := set5_below hBW (b := w.heap.size + 1) (by omega) (.int .i64 p) (.bool true) (.slice ka m kc) (.slice va vn vc) (.slice ca cn cc)
            have hN7 := NodeOn.more (m := N + 2) (NodeOn.mono (G := Fr F w) (fun b h => .inl h.1) (HN.out.below hB7)) (by omega)
            rw [← HTE.out] at hN7
            have fin : Hid (NodeTo F (N + 2) w (topT (N + 1) t) (.returned (.agg #[.int .i64 p, .bool true, .slice ka m kc, .slice va vn vc, .slice ca cn cc])) (set5 _ (w.heap.size + 1) (.int .i64 p) (.bool true) (.slice ka m kc) (.slice va vn vc) (.slice ca cn cc))) := Lib.hid ⟨[.int .i64 p, .bool true, .slice ka m kc, .slice va vn vc, .slice ca cn cc], rfl, hN7, hB7⟩
            have t0 := hX7.cell 0 0 rfl rfl
            have t1 := hX7.cell 0 1 rfl rfl
            have t2 := hX7.cell 0 2 rfl rfl
            have t3 := hX7.cell 0 3 rfl rfl
            have t4 := hX7.cell 0 4 rfl rfl
            unfold set5 at t0 t1 t2 t3 t4
            have z0 := hX2.cell 0 0 rfl rfl
            have z1 := hX2.cell 0 1 rfl rfl
            have z2 := hX2.cell 0 2 rfl rfl
            have z3 := hX2.cell 0 3 rfl rfl
            have z4 := hX2.cell 0 4 rfl rfl
            have u0 := hX2.frozen 0 0 rfl
            have u1 := hX2.frozen 0 1 rfl
            have u2 := hX2.frozen 0 2 rfl
            have u3 := hX2.frozen 0 3 rfl
            have u4 := hX2.frozen 0 4 rfl
            clear hX7 hB7 hN7
            go_wp2_with fail
            refine bodyPost_ret (v := .agg #[.int .i64 p, .bool true, .slice ka m kc, .slice va vn vc, .slice ca cn cc]) (by simp [results, Tryz.results119, go_sem, t0, t1, t2, t3, t4]) rfl ?_
            exact fin.out
          · have HTE : Hid (topT (N + 1) t = mendT 0 [([], t)] 0) := Lib.hid (topT_mend hrest.out (by rw [HS.out]; exact hat))
            have hae : ((atF S : Int) == 0) = false := by simpa using hat
            generalize atF S = A at *
            clear hat
            have hSe : Calls Tryz.prog 156 #[.agg #[.int .i64 0, .bool false, .slice (some ⟨w2.heap.size, 0, none⟩) 1 1, .slice none 0 0, .slice (some ⟨w2.heap.size + 1, 0, none⟩) 1 1], .int .i64 0] ((w2.alloc (.cells #[.string ⟨#[]⟩] 9)).alloc (.cells #[.int .i64 p, .bool true, .slice ka m kc, .slice va vn vc, .slice ca cn cc] 50)) (NodeTo (fun b => (F b ∧ b < w.heap.size) ∨ w.heap.size + 2 ≤ b) (N + 2) ((w2.alloc (.cells #[.string ⟨#[]⟩] 9)).alloc (.cells #[.int .i64 p, .bool true, .slice ka m kc, .slice va vn vc, .slice ca cn cc] 50)) (mendT 0 [([], t)] 0)) := by
              have hW : Below w2.heap.size w2 ((w2.alloc (.cells #[.string ⟨#[]⟩] 9)).alloc (.cells #[.int .i64 p, .bool true, .slice ka m kc, .slice va vn vc, .slice ca cn cc] 50)) := Below.al (Below.al (Below.refl _ _))
              obtain ⟨cN, hcN⟩ : ∃ c : Cl 5, c.1 = [.int .i64 p, .bool true, .slice ka m kc, .slice va vn vc, .slice ca cn cc] := ⟨⟨[.int .i64 p, .bool true, .slice ka m kc, .slice va vn vc, .slice ca cn cc], rfl, by intro u hu; simp at hu; rcases hu with rfl | rfl | rfl | rfl | rfl <;> rfl⟩, rfl⟩
              have hnode : NodeOn (fun b => (F b ∧ b < w.heap.size) ∨ w.heap.size + 2 ≤ b) (N + 2) ((w2.alloc (.cells #[.string ⟨#[]⟩] 9)).alloc (.cells #[.int .i64 p, .bool true, .slice ka m kc, .slice va vn vc, .slice ca cn cc] 50)) [.int .i64 0, .bool false, .slice (some ⟨w2.heap.size, 0, none⟩) 1 1, .slice none 0 0, .slice (some ⟨w2.heap.size + 1, 0, none⟩) 1 1] (.node 0 [([], t)]) := by
                refine NodeOn.shut (V := []) (C := [cN]) rfl rfl (K := [kCell []]) rfl (raw_box (L := [kCell []]) (BoxAt.al BoxAt.here) (by simp)) (Raw.nil0 _ _) (raw_box (L := [cN]) (by simpa [flatC, hcN] using (BoxAt.here2 (w := w2) (o := .cells #[.string ⟨#[]⟩] 9) (cs := #[.int .i64 p, .bool true, .slice ka m kc, .slice va vn vc, .slice ca cn cc]) (t := 50))) (by simp)) ?_ (Fa.zero _ _) ?_ ⟨tells_keys _, rfl, Tells.one ?_⟩
                · exact .inr fun b off e => by cases e; exact .inr (by omega)
                · exact .inr fun b off e => by cases e; exact .inr (by omega)
                · rw [hcN]
                  exact NodeOn.mono (fun b h => .inl h) (HN.out.below (hBW.trans (hW.mono hBW.size)))
              exact tmend_any hnode 0 (by simp) ⟨by simp, fun c hc => by simp at hc; subst hc; exact HO1.out, fun c hc d hd => by simp at hc hd; subst hc hd; rfl, fun c hc hl => by simp at hc; subst hc; exact HO2.out hl, fun j hj => by simp at hj⟩
            have hX2a : Boxes (w2.alloc (.cells #[.string ⟨#[]⟩] 9)) _ := Boxes.al hX2
            have s0 := hX2a.cell 1 0 rfl rfl
            have s1 := hX2a.cell 1 1 rfl rfl
            have s2 := hX2a.cell 1 2 rfl rfl
            have s3 := hX2a.cell 1 3 rfl rfl
            have s4 := hX2a.cell 1 4 rfl rfl
            go_wp2_with fail
            clear hX2a s0 s1 s2 s3 s4
            refine hSe.mono ?_
            rintro e w3 ⟨x, rfl, hn, hb3⟩
            obtain ⟨x1, x3, x4, x5, x6, x7, x8, x9, _, _, ex, _⟩ := NodeOn.open_pos hn
            subst ex
            rw [← HTE.out] at hn ⊢
            have hb3' : Below w2.heap.size w2 w3 := below_via (Below.al (Below.al (Below.refl _ _))) hb3
            have hX3 := hX2.step hb3'
            have hBW3 := hBW.trans (hb3'.mono hBW.size)
            have hne3 : ¬ Fr (fun b => (F b ∧ b < w.heap.size) ∨ w.heap.size + 2 ≤ b) ((w2.alloc (.cells #[.string ⟨#[]⟩] 9)).alloc (.cells #[.int .i64 p, .bool true, .slice ka m kc, .slice va vn vc, .slice ca cn cc] 50)) (w.heap.size + 1) := fun h => by
              rcases h with h | h
              · omega
              · simp at h; omega
            have hF3 : ∀ b, Fr (fun b => (F b ∧ b < w.heap.size) ∨ w.heap.size + 2 ≤ b) ((w2.alloc (.cells #[.string ⟨#[]⟩] 9)).alloc (.cells #[.int .i64 p, .bool true, .slice ka m kc, .slice va vn vc, .slice ca cn cc] 50)) b → Fr F w b := fun b h => by
              rcases h with h | h
              · rcases h with h | h; exact .inl h.1; exact .inr (by omega)
              · simp at h; exact .inr (by omega)
            have hne := hne3
            generalize (topT (N + 1) t).page = xp at *
            generalize (topT (N + 1) t).isLeaf = xl at *
            generalize cntT (topT (N + 1) t) = x2 at *
            clear hSe n0 n1 n2 n3 n4
            have hX7 := set5_box (hX3.sub (m := [(w.heap.size + 1, [.int .i64 0, .bool false, .slice none 0 0, .slice none 0 0, .slice none 0 0])]) (by simp)) (by simp) (.int .i64 xp) (.bool xl) (.slice x1 x2 x3) (.slice x4 x5 x6) (.slice x7 x8 x9)
            have hB7 := set5_below hBW3 (b := w.heap.size + 1) (by omega) (.int .i64 xp) (.bool xl) (.slice x1 x2 x3) (.slice x4 x5 x6) (.slice x7 x8 x9)
            have hN7 := NodeOn.mono hF3 (hn.agree (agree_set5 hne (.int .i64 xp) (.bool xl) (.slice x1 x2 x3) (.slice x4 x5 x6) (.slice x7 x8 x9)))
            have fin : Hid (NodeTo F (N + 2) w (topT (N + 1) t) (.returned (.agg #[.int .i64 xp, .bool xl, .slice x1 x2 x3, .slice x4 x5 x6, .slice x7 x8 x9])) (set5 _ (w.heap.size + 1) (.int .i64 xp) (.bool xl) (.slice x1 x2 x3) (.slice x4 x5 x6) (.slice x7 x8 x9))) := Lib.hid ⟨[.int .i64 xp, .bool xl, .slice x1 x2 x3, .slice x4 x5 x6, .slice x7 x8 x9], rfl, hN7, hB7⟩
            have t0 := hX7.cell 0 0 rfl rfl
            have t1 := hX7.cell 0 1 rfl rfl
            have t2 := hX7.cell 0 2 rfl rfl
            have t3 := hX7.cell 0 3 rfl rfl
            have t4 := hX7.cell 0 4 rfl rfl
            unfold set5 at t0 t1 t2 t3 t4
            have z0 := hX3.cell 0 0 rfl rfl
            have z1 := hX3.cell 0 1 rfl rfl
            have z2 := hX3.cell 0 2 rfl rfl
            have z3 := hX3.cell 0 3 rfl rfl
            have z4 := hX3.cell 0 4 rfl rfl
            have u0 := hX3.frozen 0 0 rfl
            have u1 := hX3.frozen 0 1 rfl
            have u2 := hX3.frozen 0 2 rfl
            have u3 := hX3.frozen 0 3 rfl
            have u4 := hX3.frozen 0 4 rfl
            clear hX7 hB7 hN7
            go_wp2_with fail
            refine bodyPost_ret (v := .agg #[.int .i64 xp, .bool xl, .slice x1 x2 x3, .slice x4 x5 x6, .slice x7 x8 x9]) (by simp [results, Tryz.results119, go_sem, t0, t1, t2, t3, t4]) rfl ?_
            exact fin.out
        | false =>
          have hcm : cn = m := HCN.out
          subst hcm
          go_enter Tryz.func119, Tryz.ntmps119
          go_wp2_with fail
          refine CS.mono ?_
          rintro e w1 ⟨v1, rfl, ho1, hb1⟩
          obtain ⟨sa, sc, rfl, hrow⟩ := Row.of_own ho1
          clear CS ho1
          go_wp2_with fail
          refine (at_any _ _ _ _ _ hrow hSm.out).mono ?_
          rintro e w2 ⟨rfl, hb2⟩
          have hbA := below_via hb1 hb2
          have hX2 := HX.out.step hbA
          have hBW := HB.out.trans (hbA.mono HB.out.size)
          have hz2 : w.heap.size + 2 ≤ w2.heap.size := Nat.le_trans hzA hbA.size
          clear hb1 hb2 hrow n0 n1 n2 n3 n4 hbA
          have n0 := hX2.cell 1 0 rfl rfl
          have n1 := hX2.cell 1 1 rfl rfl
          have n2 := hX2.cell 1 2 rfl rfl
          have n3 := hX2.cell 1 3 rfl rfl
          have n4 := hX2.cell 1 4 rfl rfl
          by_cases hat : atF S = 0
          · have HAT := Lib.hid hat
            have HTE : Hid (topT (N + 1) t = t) := Lib.hid (topT_same hrest.out (by rw [HS.out]; exact hat))
            rw [hat]
            clear hat
            have hX7 := set5_box (hX2.sub (m := [(w.heap.size + 1, [.int .i64 0, .bool false, .slice none 0 0, .slice none 0 0, .slice none 0 0])]) (by simp)) (by simp) (.int .i64 p) (.bool false) (.slice ka cn kc) (.slice va vn vc) (.slice ca cn cc)
            have hB7 := set5_below hBW (b := w.heap.size + 1) (by omega) (.int .i64 p) (.bool false) (.slice ka cn kc) (.slice va vn vc) (.slice ca cn cc)
            have hN7 := NodeOn.more (m := N + 2) (NodeOn.mono (G := Fr F w) (fun b h => .inl h.1) (HN.out.below hB7)) (by omega)
            rw [← HTE.out] at hN7
            have fin : Hid (NodeTo F (N + 2) w (topT (N + 1) t) (.returned (.agg #[.int .i64 p, .bool false, .slice ka cn kc, .slice va vn vc, .slice ca cn cc])) (set5 _ (w.heap.size + 1) (.int .i64 p) (.bool false) (.slice ka cn kc) (.slice va vn vc) (.slice ca cn cc))) := Lib.hid ⟨[.int .i64 p, .bool false, .slice ka cn kc, .slice va vn vc, .slice ca cn cc], rfl, hN7, hB7⟩
            have t0 := hX7.cell 0 0 rfl rfl
            have t1 := hX7.cell 0 1 rfl rfl
            have t2 := hX7.cell 0 2 rfl rfl
            have t3 := hX7.cell 0 3 rfl rfl
            have t4 := hX7.cell 0 4 rfl rfl
            unfold set5 at t0 t1 t2 t3 t4
            have z0 := hX2.cell 0 0 rfl rfl
            have z1 := hX2.cell 0 1 rfl rfl
            have z2 := hX2.cell 0 2 rfl rfl
            have z3 := hX2.cell 0 3 rfl rfl
            have z4 := hX2.cell 0 4 rfl rfl
            have u0 := hX2.frozen 0 0 rfl
            have u1 := hX2.frozen 0 1 rfl
            have u2 := hX2.frozen 0 2 rfl
            have u3 := hX2.frozen 0 3 rfl
            have u4 := hX2.frozen 0 4 rfl
            clear hX7 hB7 hN7
            go_wp2_with fail
            refine bodyPost_ret (v := .agg #[.int .i64 p, .bool false, .slice ka cn kc, .slice va vn vc, .slice ca cn cc]) (by simp [results, Tryz.results119, go_sem, t0, t1, t2, t3, t4]) rfl ?_
            exact fin.out
          · have HTE : Hid (topT (N + 1) t = mendT 0 [([], t)] 0) := Lib.hid (topT_mend hrest.out (by rw [HS.out]; exact hat))
            have hae : ((atF S : Int) == 0) = false := by simpa using hat
            generalize atF S = A at *
            clear hat
            have hSe : Calls Tryz.prog 156 #[.agg #[.int .i64 0, .bool false, .slice (some ⟨w2.heap.size, 0, none⟩) 1 1, .slice none 0 0, .slice (some ⟨w2.heap.size + 1, 0, none⟩) 1 1], .int .i64 0] ((w2.alloc (.cells #[.string ⟨#[]⟩] 9)).alloc (.cells #[.int .i64 p, .bool false, .slice ka cn kc, .slice va vn vc, .slice ca cn cc] 50)) (NodeTo (fun b => (F b ∧ b < w.heap.size) ∨ w.heap.size + 2 ≤ b) (N + 2) ((w2.alloc (.cells #[.string ⟨#[]⟩] 9)).alloc (.cells #[.int .i64 p, .bool false, .slice ka cn kc, .slice va vn vc, .slice ca cn cc] 50)) (mendT 0 [([], t)] 0)) := by
              have hW : Below w2.heap.size w2 ((w2.alloc (.cells #[.string ⟨#[]⟩] 9)).alloc (.cells #[.int .i64 p, .bool false, .slice ka cn kc, .slice va vn vc, .slice ca cn cc] 50)) := Below.al (Below.al (Below.refl _ _))
              obtain ⟨cN, hcN⟩ : ∃ c : Cl 5, c.1 = [.int .i64 p, .bool false, .slice ka cn kc, .slice va vn vc, .slice ca cn cc] := ⟨⟨[.int .i64 p, .bool false, .slice ka cn kc, .slice va vn vc, .slice ca cn cc], rfl, by intro u hu; simp at hu; rcases hu with rfl | rfl | rfl | rfl | rfl <;> rfl⟩, rfl⟩
              have hnode : NodeOn (fun b => (F b ∧ b < w.heap.size) ∨ w.heap.size + 2 ≤ b) (N + 2) ((w2.alloc (.cells #[.string ⟨#[]⟩] 9)).alloc (.cells #[.int .i64 p, .bool false, .slice ka cn kc, .slice va vn vc, .slice ca cn cc] 50)) [.int .i64 0, .bool false, .slice (some ⟨w2.heap.size, 0, none⟩) 1 1, .slice none 0 0, .slice (some ⟨w2.heap.size + 1, 0, none⟩) 1 1] (.node 0 [([], t)]) := by
                refine NodeOn.shut (V := []) (C := [cN]) rfl rfl (K := [kCell []]) rfl (raw_box (L := [kCell []]) (BoxAt.al BoxAt.here) (by simp)) (Raw.nil0 _ _) (raw_box (L := [cN]) (by simpa [flatC, hcN] using (BoxAt.here2 (w := w2) (o := .cells #[.string ⟨#[]⟩] 9) (cs := #[.int .i64 p, .bool false, .slice ka cn kc, .slice va vn vc, .slice ca cn cc]) (t := 50))) (by simp)) ?_ (Fa.zero _ _) ?_ ⟨tells_keys _, rfl, Tells.one ?_⟩
                · exact .inr fun b off e => by cases e; exact .inr (by omega)
                · exact .inr fun b off e => by cases e; exact .inr (by omega)
                · rw [hcN]
                  exact NodeOn.mono (fun b h => .inl h) (HN.out.below (hBW.trans (hW.mono hBW.size)))
              exact tmend_any hnode 0 (by simp) ⟨by simp, fun c hc => by simp at hc; subst hc; exact HO1.out, fun c hc d hd => by simp at hc hd; subst hc hd; rfl, fun c hc hl => by simp at hc; subst hc; exact HO2.out hl, fun j hj => by simp at hj⟩
            have hX2a : Boxes (w2.alloc (.cells #[.string ⟨#[]⟩] 9)) _ := Boxes.al hX2
            have s0 := hX2a.cell 1 0 rfl rfl
            have s1 := hX2a.cell 1 1 rfl rfl
            have s2 := hX2a.cell 1 2 rfl rfl
            have s3 := hX2a.cell 1 3 rfl rfl
            have s4 := hX2a.cell 1 4 rfl rfl
            go_wp2_with fail
            clear hX2a s0 s1 s2 s3 s4
            refine hSe.mono ?_
            rintro e w3 ⟨x, rfl, hn, hb3⟩
            obtain ⟨x1, x3, x4, x5, x6, x7, x8, x9, _, _, ex, _⟩ := NodeOn.open_pos hn
            subst ex
            rw [← HTE.out] at hn ⊢
            have hb3' : Below w2.heap.size w2 w3 := below_via (Below.al (Below.al (Below.refl _ _))) hb3
            have hX3 := hX2.step hb3'
            have hBW3 := hBW.trans (hb3'.mono hBW.size)
            have hne3 : ¬ Fr (fun b => (F b ∧ b < w.heap.size) ∨ w.heap.size + 2 ≤ b) ((w2.alloc (.cells #[.string ⟨#[]⟩] 9)).alloc (.cells #[.int .i64 p, .bool false, .slice ka cn kc, .slice va vn vc, .slice ca cn cc] 50)) (w.heap.size + 1) := fun h => by
              rcases h with h | h
              · omega
              · simp at h; omega
            have hF3 : ∀ b, Fr (fun b => (F b ∧ b < w.heap.size) ∨ w.heap.size + 2 ≤ b) ((w2.alloc (.cells #[.string ⟨#[]⟩] 9)).alloc (.cells #[.int .i64 p, .bool false, .slice ka cn kc, .slice va vn vc, .slice ca cn cc] 50)) b → Fr F w b := fun b h => by
              rcases h with h | h
              · rcases h with h | h; exact .inl h.1; exact .inr (by omega)
              · simp at h; exact .inr (by omega)
            have hne := hne3
            generalize (topT (N + 1) t).page = xp at *
            generalize (topT (N + 1) t).isLeaf = xl at *
            generalize cntT (topT (N + 1) t) = x2 at *
            clear hSe n0 n1 n2 n3 n4
            have hX7 := set5_box (hX3.sub (m := [(w.heap.size + 1, [.int .i64 0, .bool false, .slice none 0 0, .slice none 0 0, .slice none 0 0])]) (by simp)) (by simp) (.int .i64 xp) (.bool xl) (.slice x1 x2 x3) (.slice x4 x5 x6) (.slice x7 x8 x9)
            have hB7 := set5_below hBW3 (b := w.heap.size + 1) (by omega) (.int .i64 xp) (.bool xl) (.slice x1 x2 x3) (.slice x4 x5 x6) (.slice x7 x8 x9)
            have hN7 := NodeOn.mono hF3 (hn.agree (agree_set5 hne (.int .i64 xp) (.bool xl) (.slice x1 x2 x3) (.slice x4 x5 x6) (.slice x7 x8 x9)))
            have fin : Hid (NodeTo F (N + 2) w (topT (N + 1) t) (.returned (.agg #[.int .i64 xp, .bool xl, .slice x1 x2 x3, .slice x4 x5 x6, .slice x7 x8 x9])) (set5 _ (w.heap.size + 1) (.int .i64 xp) (.bool xl) (.slice x1 x2 x3) (.slice x4 x5 x6) (.slice x7 x8 x9))) := Lib.hid ⟨[.int .i64 xp, .bool xl, .slice x1 x2 x3, .slice x4 x5 x6, .slice x7 x8 x9], rfl, hN7, hB7⟩
            have t0 := hX7.cell 0 0 rfl rfl
            have t1 := hX7.cell 0 1 rfl rfl
            have t2 := hX7.cell 0 2 rfl rfl
            have t3 := hX7.cell 0 3 rfl rfl
            have t4 := hX7.cell 0 4 rfl rfl
            unfold set5 at t0 t1 t2 t3 t4
            have z0 := hX3.cell 0 0 rfl rfl
            have z1 := hX3.cell 0 1 rfl rfl
            have z2 := hX3.cell 0 2 rfl rfl
            have z3 := hX3.cell 0 3 rfl rfl
            have z4 := hX3.cell 0 4 rfl rfl
            have u0 := hX3.frozen 0 0 rfl
            have u1 := hX3.frozen 0 1 rfl
            have u2 := hX3.frozen 0 2 rfl
            have u3 := hX3.frozen 0 3 rfl
            have u4 := hX3.frozen 0 4 rfl
            clear hX7 hB7 hN7
            go_wp2_with fail
            refine bodyPost_ret (v := .agg #[.int .i64 xp, .bool xl, .slice x1 x2 x3, .slice x4 x5 x6, .slice x7 x8 x9]) (by simp [results, Tryz.results119, go_sem, t0, t1, t2, t3, t4]) rfl ?_
            exact fin.out
end Go.Proofs.YtpghlmcoajaiiaaGreatDoor

/- Worlds that have the same but of one block: words for walks that end in a store; what a put asks. -/
namespace Go.Proofs.YtpghlmcoajaiiaaGreatDoor
open Go.RowKit

theorem AgreeF.refl {F : Nat → Prop} (w : World) : AgreeF F w w := ⟨Nat.le_refl _, fun _ _ _ => rfl⟩
theorem AgreeF.below {F : Nat → Prop} {a w w' : World} (h : AgreeF F a w) (hb : Below w.heap.size w w') : AgreeF F a w' := h.trans (.of_below hb)
theorem AgreeF.al {F : Nat → Prop} {a w : World} {o : Obj} (h : AgreeF F a w) : AgreeF F a (w.alloc o) := h.below (Below.al (Below.refl _ _))
theorem AgreeF.dr {F : Nat → Prop} {a w : World} (h : AgreeF F a w) : AgreeF F a w.drew := h
theorem AgreeF.st {r : Nat} {a w : World} {i : Nat} {u : Value} (h : AgreeF (fun b => b ≠ r) a w) : AgreeF (fun b => b ≠ r) a (w.setCell ⟨r, i, none⟩ u) := h.set (.inl fun h => h rfl)
theorem AgreeF.boxes {r : Nat} {a w : World} {l : List (Nat × List Value)} (h : AgreeF (fun b => b ≠ r) a w) (hx : Boxes a l) (hl : ∀ p ∈ l, p.1 ≠ r) : Boxes w l := by
  intro p hp
  obtain ⟨t, ht⟩ := hx p hp
  exact ⟨t, (h.2 p.1 (hl p hp) (Array.getElem?_eq_some_iff.1 ht).1).trans ht⟩
/-- What a put asks of a tree. -/
def PutOk : Nat → Tr → List UInt8 → Tv → Prop
  | 0, _, _, _ => False
  | _ + 1, .leaf _ l, _, _ => l.length ≤ 900 ∧ (keysOf l).Pairwise (fun a b => a < b)
  | n + 1, .node _ l, key, v => 0 < l.length ∧ l.length ≤ 1000 ∧ PutOk n (kidAt l (wayF (keysOf l) key)) key v ∧ ∃ m, n = m + 1 ∧ MendOk m (l.set (wayF (keysOf l) key) (keyAt l (wayF (keysOf l) key), putT n (kidAt l (wayF (keysOf l) key)) key v))
theorem set_keys {l : List (List UInt8 × Tr)} {k : Nat} (hk : k < l.length) (t : Tr) : keysOf (l.set k (keyAt l k, t)) = keysOf l := by
  obtain ⟨a, c, b, rfl, rfl⟩ := list_at hk
  rw [keyAt_at, List.set_append_right _ _ (Nat.le_refl _), Nat.sub_self, List.set_cons_zero]
  simp [keysOf]
theorem setR {F : Nat → Prop} {n : Nat} {w : World} {p : Int} {l : List (List UInt8 × Tr)} {k : Nat} {K : List (Cl 1)} {V : List (Cl 2)} {C : List (Cl 5)} {B : Cl 5} {t : Tr} (h : NodeRF F n w K V C (.node p l)) (hk : k < l.length) (hB : NodeOn F n w B.1 t) :
    NodeRF F n w ((keysOf (l.set k (keyAt l k, t))).map kCell) [] (swapL C k 1 [B]) (.node 0 (l.set k (keyAt l k, t))) := by
  obtain ⟨a, c, b, rfl, rfl⟩ := list_at hk
  rw [keyAt_at, List.set_append_right _ _ (Nat.le_refl _), Nat.sub_self, List.set_cons_zero]
  refine ⟨tells_keys _, rfl, ?_⟩
  have := (h.2.2).swap (Tells.one hB) a.length 1
  have h2 : (a.map (·.2)).length = a.length := by simp
  simpa [swapL, mid_drop h2] using this
theorem wayF_lt {ks : List (List UInt8)} (key : List UInt8) (h : 0 < ks.length) : wayF ks key < ks.length := (wayF_spec (key := key) (List.length_pos_iff.1 h)).1
def oldN (b : Bool) : Nat := if b then 1 else 0
theorem putL_swap (key : List UInt8) (v : Tv) (l : List (List UInt8 × Tv)) : putL key v l = swapL l (posK key (keysOf l)) (oldN (hasK key (keysOf l))) [(key, v)] := by
  rw [putL_pos]; rfl
theorem pos_old {key : List UInt8} {ks : List (List UInt8)} : posK key ks + oldN (hasK key ks) ≤ ks.length := by
  have := posK_le key ks
  unfold oldN
  split
  · rename_i h
    unfold hasK at h
    by_cases hp : posK key ks < ks.length
    · omega
    · rw [List.getElem?_eq_none (by omega)] at h; simp at h
  · omega
def vCell (v : List UInt8) : Cl 2 := ⟨[.string (strOf v), .slice none 0 0], rfl, by intro u hu; simp at hu; rcases hu with rfl | rfl <;> rfl⟩
theorem vCell_is (F : Nat → Prop) (w : World) (d : List UInt8) : TvOn F w (vCell d).1 ⟨d, []⟩ := ⟨none, 0, 0, rfl, ⟨rfl, Nat.le_refl _, by unfold maxLen; omega, fun _ => rfl, .inl rfl⟩, Fa.zero _ _⟩
theorem putR {F : Nat → Prop} {n : Nat} {w : World} {p : Int} {l : List (List UInt8 × Tv)} {K : List (Cl 1)} {V : List (Cl 2)} {C : List (Cl 5)} (key d : List UInt8) (h : NodeRF F n w K V C (.leaf p l)) :
    NodeRF F n w ((keysOf (putL key ⟨d, []⟩ l)).map kCell) (swapL V (posK key (keysOf l)) (oldN (hasK key (keysOf l))) [vCell d]) [] (.leaf 0 (putL key ⟨d, []⟩ l)) ∧ keysOf (putL key ⟨d, []⟩ l) = swapL (keysOf l) (posK key (keysOf l)) (oldN (hasK key (keysOf l))) [key] := by
  rw [putL_swap]
  refine ⟨⟨tells_keys _, ?_, rfl⟩, ?_⟩
  · rw [swap_map]; exact (h.2.1).swap (Tells.one (vCell_is F w d)) _ _
  · unfold keysOf; rw [swap_map]; rfl
/-- A node that a call answers, its cells told. -/
def NodeGo (G : Nat → Prop) (n : Nat) (W : World) (T : Tr) (e : Ending) (w' : World) : Prop :=
  ∃ p l a k c a2 n2 c2 a3 n3 c3, e = .returned (.agg #[.int .i64 p, .bool l, .slice a k c, .slice a2 n2 c2, .slice a3 n3 c3]) ∧ NodeOn G n w' [.int .i64 p, .bool l, .slice a k c, .slice a2 n2 c2, .slice a3 n3 c3] T ∧ Below W.heap.size W w'
theorem NodeTo.go {F G : Nat → Prop} {n : Nat} {W : World} {T : Tr} {e : Ending} {w' : World} (h : NodeTo F n W T e w') (hG : ∀ b, Fr F W b → G b) : NodeGo G n W T e w' := by
  obtain ⟨x, rfl, hn, hb⟩ := h
  obtain ⟨g1, g2, g3, g4, g5, g6, g7, g8, _, _, ey, _⟩ := NodeOn.open_pos hn
  subst ey
  exact ⟨_, _, _, _, _, _, _, _, _, _, _, rfl, NodeOn.mono hG hn, hb⟩
/-- A walk's end: five cells stored into the result's box. -/
theorem node_end {F : Nat → Prop} {n : Nat} {w w3 : World} {T : Tr} {p : Int} {l : Bool} {a : Option Addr} {k c : Nat} {a2 : Option Addr} {n2 c2 : Nat} {a3 : Option Addr} {n3 c3 : Nat} {x0 x1 x2 x3 x4 : Value} (hB : Below w.heap.size w w3) (hX : Boxes w3 [(w.heap.size + 1, [x0, x1, x2, x3, x4])])
    (hn : NodeOn (fun b => (F b ∧ b < w.heap.size) ∨ w.heap.size + 2 ≤ b) n w3 [.int .i64 p, .bool l, .slice a k c, .slice a2 n2 c2, .slice a3 n3 c3] T) :
    Boxes (set5 w3 (w.heap.size + 1) (.int .i64 p) (.bool l) (.slice a k c) (.slice a2 n2 c2) (.slice a3 n3 c3)) [(w.heap.size + 1, [.int .i64 p, .bool l, .slice a k c, .slice a2 n2 c2, .slice a3 n3 c3])] ∧
    NodeTo F n w T (.returned (.agg #[.int .i64 p, .bool l, .slice a k c, .slice a2 n2 c2, .slice a3 n3 c3])) (set5 w3 (w.heap.size + 1) (.int .i64 p) (.bool l) (.slice a k c) (.slice a2 n2 c2) (.slice a3 n3 c3)) := by
  have hne : ¬ ((F (w.heap.size + 1) ∧ w.heap.size + 1 < w.heap.size) ∨ w.heap.size + 2 ≤ w.heap.size + 1) := by omega
  refine ⟨set5_box hX (by simp) _ _ _ _ _, [.int .i64 p, .bool l, .slice a k c, .slice a2 n2 c2, .slice a3 n3 c3], rfl, NodeOn.mono (fun b h => ?_) (hn.agree (agree_set5 hne _ _ _ _ _)), set5_below hB (by omega) _ _ _ _ _⟩
  rcases h with h | h
  · exact .inl h.1
  · exact .inr (by omega)
end Go.Proofs.YtpghlmcoajaiiaaGreatDoor

/- The laws' own functions of the chapters on trees: puts, steps; small, value (printed by gen_trePt.py). -/
namespace Go.Proofs.YtpghlmcoajaiiaaGreatDoor
open Go.RowKit

/-- A put. -/
structure Pt where
  key : List UInt8
  fill : UInt8
  size : Int
def ptC (y : Pt) : List Value := [.string (strOf y.key), .int .u8 (y.fill.toNat : Int), .int .i64 y.size]
def IsPt (cs : List Value) (y : Pt) : Prop := cs = ptC y
def Pts (w : World) (a : Option Addr) (n c : Nat) (l : List Pt) : Prop := TabR 3 IsPt w a n c l
/-- A step. -/
structure St where
  key : List UInt8
  size : Int
def stC (y : St) : List Value := [.string (strOf y.key), .int .i64 y.size]
def IsSt (cs : List Value) (y : St) : Prop := cs = stC y
def Sts (w : World) (a : Option Addr) (n c : Nat) (l : List St) : Prop := TabR 2 IsSt w a n c l
theorem Pts.at {w : World} {a : Option Addr} {n c : Nat} {l : List Pt} (h : Pts w a n c l) {k : Nat} (hk : k < n) :
    ∃ b off y, a = some ⟨b, off, none⟩ ∧ b < w.heap.size ∧ l[k]? = some y ∧ w.cell? ⟨b, off + k * 3, none⟩ = some (.string (strOf y.key)) ∧ w.cell? ⟨b, off + k * 3 + 1, none⟩ = some (.int .u8 (y.fill.toNat : Int)) ∧ w.cell? ⟨b, off + k * 3 + 2, none⟩ = some (.int .i64 y.size) := by
  obtain ⟨b, off, y, cs, e1, e2, e3, _, e5, e6⟩ := TabR.at h hk
  obtain rfl : cs = ptC y := e5
  exact ⟨b, off, y, e1, e2, e3, e6 0 _ rfl, e6 1 _ rfl, e6 2 _ rfl⟩
theorem Sts.at {w : World} {a : Option Addr} {n c : Nat} {l : List St} (h : Sts w a n c l) {k : Nat} (hk : k < n) :
    ∃ b off y, a = some ⟨b, off, none⟩ ∧ b < w.heap.size ∧ l[k]? = some y ∧ w.cell? ⟨b, off + k * 2, none⟩ = some (.string (strOf y.key)) ∧ w.cell? ⟨b, off + k * 2 + 1, none⟩ = some (.int .i64 y.size) := by
  obtain ⟨b, off, y, cs, e1, e2, e3, _, e5, e6⟩ := TabR.at h hk
  obtain rfl : cs = stC y := e5
  exact ⟨b, off, y, e1, e2, e3, e6 0 _ rfl, e6 1 _ rfl⟩



end Go.Proofs.YtpghlmcoajaiiaaGreatDoor

/- Trees that may be, without a key; the top once more; entries of the top: plain laws. -/
namespace Go.Proofs.YtpghlmcoajaiiaaGreatDoor

/-! entries, whatever the fuel -/
theorem kids_each {P : List UInt8 → List UInt8 → Tr → Prop} : ∀ {l : List (List UInt8 × Tr)} {lo hi : List UInt8}, KidsP P lo hi l → ∀ c ∈ l, ∃ lo' hi', P lo' hi' c.2
  | [c], lo, hi, h, d, hd => by
    rcases List.mem_cons.1 hd with rfl | hd
    · exact ⟨_, _, h⟩
    · cases hd
  | c :: e :: r, lo, hi, h, d, hd => by
    rcases List.mem_cons.1 hd with rfl | hd
    · exact ⟨_, _, h.1⟩
    · exact kids_each h.2.2.2.2 d hd
theorem flatMap_same {α β : Type} {f g : α → List β} : ∀ {l : List α}, (∀ x ∈ l, f x = g x) → l.flatMap f = l.flatMap g
  | [], _ => rfl
  | x :: r, h => by
    rw [List.flatMap_cons, List.flatMap_cons, h x (by simp), flatMap_same (fun y hy => h y (by simp [hy]))]
theorem ents_more : ∀ {n m : Nat} {lo hi : List UInt8} {t : Tr}, Shape n lo hi t → n ≤ m → entsT m t = entsT n t
  | 0, _, _, _, _, h, _ => h.elim
  | _ + 1, 0, _, _, _, _, h => by omega
  | _ + 1, _ + 1, _, _, .leaf p l, _, _ => rfl
  | n + 1, m + 1, lo, hi, .node p l, h, hm => by
    rw [ents_node, ents_node]
    refine flatMap_same (fun c hc => ?_)
    obtain ⟨lo', hi', hg⟩ := kids_each (shape_kids h).1 c hc
    exact ents_more hg.1 (by omega)
theorem ents_top : ∀ {N n : Nat} {t : Tr}, Shape n [] [] t → n ≤ N → entsT (N + 1) (topT N t) = entsT n t
  | 0, n, _, h, hn => by
    obtain rfl : n = 0 := by omega
    exact h.elim
  | N + 1, 0, _, h, hn => h.elim
  | N + 1, n + 1, .leaf p l, h, hn => by
    unfold topT
    split
    · rfl
    · rw [show ([([], Tr.leaf p l)] : List (List UInt8 × Tr)) = [] ++ ([], Tr.leaf p l) :: [] from rfl]
      have := ents_mend (n := N) (p := 0) (a := []) (b := []) (k := []) (t := .leaf p l) (by intro c hc; simp at hc; rw [hc])
      rw [List.length_nil] at this
      rw [this]
      simp [entsK, entsT]
  | N + 1, n + 1, .node p l, h, hn => by
    unfold topT
    split
    · rename_i h1
      obtain ⟨c, rfl⟩ := List.length_eq_one_iff.1 h1
      have hg : Good n [] [] c.2 := (shape_kids h).1
      have e : entsT (n + 1) (.node p [c]) = entsT n c.2 := by rw [ents_node]; simp [entsK]
      have e2 : kidAt [c] 0 = c.2 := rfl
      rw [e, e2]
      have h3 := ents_top hg.1 (show n ≤ N by omega)
      obtain ⟨m, hm1, hm2⟩ := top_ok hg.1 (by have := hg.2.2; omega) (show n ≤ N by omega)
      rw [← h3]
      rw [ents_more hm2.1 (show m ≤ N + 1 + 1 by omega), ents_more hm2.1 (show m ≤ N + 1 by omega)]
    · split
      · exact ents_more h (by omega)
      · rw [show ([([], Tr.node p l)] : List (List UInt8 × Tr)) = [] ++ ([], Tr.node p l) :: [] from rfl]
        have := ents_mend (n := N) (p := 0) (a := []) (b := []) (k := []) (t := .node p l) (by intro c hc; simp at hc; rw [hc])
        rw [List.length_nil] at this
        rw [this]
        rw [show entsK (N + 1) ([] ++ ([], Tr.node p l) :: []) = entsT (N + 1) (.node p l) by simp [entsK]]
        exact ents_more h (by omega)
/-- A top of no cells is the empty tree. -/
theorem top_some : ∀ {N n : Nat} {t : Tr}, Shape n [] [] t → sumT t ≤ 200 → (∀ p l, t = .leaf p l → p = 0 ∨ l ≠ []) → n ≤ N → emptyB (topT N t) = true ∨ 0 < cntT (topT N t)
  | 0, n, _, h, _, _, hn => by
    obtain rfl : n = 0 := by omega
    exact h.elim
  | N + 1, 0, _, h, _, _, hn => h.elim
  | N + 1, n + 1, .leaf p l, h, hs, h0, hn => by
    unfold topT
    split
    · cases l with
      | nil =>
        rcases h0 p [] rfl with rfl | h0
        · exact .inl rfl
        · exact absurd rfl h0
      | cons c r => exact .inr (by simp [cntT])
    · rename_i hat
      rw [part_two hat]
      exact .inr (by simp [cntT])
  | N + 1, n + 1, .node p l, h, hs, h0, hn => by
    unfold topT
    split
    · rename_i h1
      obtain ⟨c, rfl⟩ := List.length_eq_one_iff.1 h1
      have hg : Good n [] [] c.2 := (shape_kids h).1
      have e2 : kidAt [c] 0 = c.2 := rfl
      rw [e2]
      refine top_some hg.1 (by have := hg.2.2; omega) (fun p l e => .inr (fun el => ?_)) (show n ≤ N by omega)
      have := hg.2.1
      rw [e, el, sum_leaf] at this
      simp [sumI_nil] at this
    · split
      · have := List.length_pos_iff.2 (kids_ne (shape_kids h).1)
        exact .inr (by simpa [cntT] using this)
      · rename_i hat
        rw [part_two hat]
        exact .inr (by simp [cntT])

/-! whole trees -/
/-- A whole tree that may be, and is told so. -/
def Whole (n : Nat) (t : Tr) : Prop := Root n t ∧ (emptyB t = true ∨ 0 < cntT t)
theorem whole_empty : Whole 1 (.leaf 0 []) := ⟨root_empty, .inl rfl⟩
def putW (n : Nat) (t : Tr) (key : List UInt8) (v : Tv) : Tr := topT n (putT n t key v)
theorem whole_put {n : Nat} {t : Tr} {key : List UInt8} {v : Tv} (h : Whole n t) (hk : keyOk key) (hv : valOk v) : ∃ m, m ≤ n + 1 ∧ Whole m (putW n t key v) ∧ entsT m (putW n t key v) = putL key v (entsT n t) := by
  obtain ⟨h1, h2, h3⟩ := put_ok h.1.1 h.1.2.1 h.1.2.2 hk (knil key) (ltH_nil _) hv
  obtain ⟨m, e1, e2⟩ := top_ok (N := n) h1 (by omega) (Nat.le_refl _)
  refine ⟨m, e1, ⟨e2, top_some h1 (by omega) (fun p l e => .inr (fun el => ?_)) (Nat.le_refl _)⟩, ?_⟩
  · have := h3 p l e
    rw [el] at this
    simp at this
  · have g1 := ents_top (N := n) h1 (Nat.le_refl _)
    have g2 := ents_put h.1.1 hk (knil key) (ltH_nil _) hv h.1.2.1 h.1.2.2
    show entsT m (topT n (putT n t key v)) = _
    rw [← g2, ← g1, ents_more e2.1 e1]

/-! a key struck out -/
end Go.Proofs.YtpghlmcoajaiiaaGreatDoor

/- Entries as a set of pairs: put, struck out, in whichever order: plain laws. -/
namespace Go.Proofs.YtpghlmcoajaiiaaGreatDoor


/-! many put, many struck out -/
end Go.Proofs.YtpghlmcoajaiiaaGreatDoor

/- Words that laws of trees share: boxes and rows in worlds that agree; small puts and steps. -/
namespace Go.Proofs.YtpghlmcoajaiiaaGreatDoor
open Go.RowKit

theorem Boxes.agree {F : Nat → Prop} {w w' : World} {l : List (Nat × List Value)} (h : Boxes w l) (ha : AgreeF F w w') (hl : ∀ p ∈ l, F p.1) : Boxes w' l := fun p hp => by
  obtain ⟨t, ht⟩ := h p hp
  exact ⟨t, (ha.2 p.1 (hl p hp) (Array.getElem?_eq_some_iff.1 ht).1).trans ht⟩
theorem own_agree {w w' : World} {base : Nat} {e : TypeId} {size : Nat} {v : Value} {n : Nat} {xs : List Value} {F : Nat → Prop} (h : w.ownsRow base e size v n xs) (ha : AgreeF F w w') (hF : ∀ g, v.ownBlock = some g → F g) : w'.ownsRow base e size v n xs := by
  refine ⟨h.1, h.2.imp id fun ⟨g, cap, cur, e1, hg, hh, r⟩ => ⟨g, cap, cur, e1, hg, ?_, r⟩⟩
  subst e1
  rw [ha.2 g (hF g rfl) (Array.getElem?_eq_some_iff.1 hh).1]; exact hh
theorem _root_.List.take_succ_eq_append_of {α : Type} {l : List α} {i : Nat} {y : α} (h : l[i]? = some y) : l.take (i + 1) = l.take i ++ [y] := by
  rw [List.take_add_one, h]; rfl
end Go.Proofs.YtpghlmcoajaiiaaGreatDoor
