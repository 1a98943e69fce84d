/- The law WalkMoves (printed by gen_treLm.py). -/
import Derived.Test.YtemfnjlfcemehaaM15
import Derived.Deep.QuietTactic
import Derived.BigQuiet
import Derived.Deep.RegionHeld3
import Derived.Deep.DeepCutAuto
import Derived.Deep.CutBlock
import Derived.Test.YtemfnjlfcemehaaTreTwoq
namespace Go.Proofs.Ytemfnjlfcemehaa
open Go.RowKit

set_option maxRecDepth 100000 in
set_option maxHeartbeats 8000000 in
theorem lMoves {w : World} {a : Option Addr} {n c : Nat} {l : List St} (h : Sts w a n c l) {ta : Option Addr} {tn tc : Nat} {tl : List Bool} (ht : Bls w ta tn tc tl) :
    Calls Try.prog 5 #[.slice a n c, .slice ta tn tc] w fun e w' => e = .returned (.bool true) ∧ Below w.heap.size w w' := by
  have HP := Lib.hid h
  have A := awake17_any w
  clear h
  have HT := Lib.hid ht
  obtain ⟨e91, e92, e93⟩ := TabR.lens ht
  clear ht
  go_enter Try.func5, Try.ntmps5
  go_wp2_with fail
  refine A.mono ?_
  rintro e w1 ⟨rfl, hb1⟩
  have hp1 : Sts w1 a n c l := TabR.below (Nat.le_refl _) hb1 HP.out
  clear A
  go_wp2_with fail
  refine (built_any hp1).mono ?_
  rintro e w2 ⟨hb2, h2⟩
  have HB2 := Lib.hid (below_via hb1 hb2)
  rcases h2 with ⟨hs, p, lf, a3, m3, d3, rfl⟩ | ⟨hs, N, T, p, lf, a3, m3, d3, rfl, hR, hW, hN, hE⟩
  · clear hp1 hb1 hb2 hs
    go_wp2_with fail
    go_ret
    exact ⟨rfl, Below.al HB2.out⟩
  have hl120 : l.length ≤ 120 := (okS_facts hs).1
  have hN200 : N ≤ 200 := by omega
  have hE120 : (entsT N T).length ≤ 120 := by omega
  obtain ⟨W2, hW2⟩ : ∃ x, w2.alloc (.cells #[.int .i64 p, .bool lf, .slice a3 m3 d3] 26) = x := ⟨_, rfl⟩
  have hx2 : Boxes W2 [(w2.heap.size, [.int .i64 p, .bool lf, .slice a3 m3 d3])] := by
    rw [← hW2]; exact (Boxes.nil w2).alloc #[.int .i64 p, .bool lf, .slice a3 m3 d3] 26 (b := w2.heap.size) rfl
  have hb22 : Below w2.heap.size w2 W2 := by rw [← hW2]; exact Below.al (Below.refl _ _)
  have hRl : RNodeOn (fun x => x < w2.heap.size) N W2 [.int .i64 p, .bool lf, .slice a3 m3 d3] T := (hR.lt.mono (fun _ h => h.2)).below hb22
  have CN := node17_any (fun x (hx : x < w2.heap.size) => Nat.lt_of_lt_of_le hx hb22.size) hRl hW.bnd
  have HX2 := Lib.hid hx2
  have HR2 := Lib.hid hRl
  have HB22 := Lib.hid (below_via HB2.out hb22)
  have HWH := Lib.hid hW
  have m0 := hx2.cell 0 0 rfl rfl
  have m1 := hx2.cell 0 1 rfl rfl
  have m2 := hx2.cell 0 2 rfl rfl
  have h22 : w2.heap.size < W2.heap.size := hx2.lt 0 rfl
  clear hp1 hb1 hb2 hs hR hW hN hE hx2 hb22 hRl HB2
  by_cases h300 : 300 < tn
  · have h300' : (300 : Int) < (tn : Int) := by omega
    clear CN
    go_wp2_with fail
    go_ret
    exact ⟨rfl, HB22.out⟩
  have h300' : decide ((300 : Int) < (tn : Int)) = false := by simp; omega
  have h300'' : decide (300 < tn) = false := by simp; omega
  go_wp2_with fail
  refine CN.mono ?_
  rintro e w3 ⟨cs, rfl, hn3, hb3⟩
  obtain ⟨x1, k1, x2, n2, k2, x3, n3, k3, ecs, _, _⟩ := hn3.words
  subst ecs
  obtain ⟨W3, hW3⟩ : ∃ x, w3.alloc (.cells #[.int .i64 T.page, .bool T.isLeaf, .slice x1 (cntT T) k1, .slice x2 n2 k2, .slice x3 n3 k3] 33) = x := ⟨_, rfl⟩
  have hb33 : Below w3.heap.size w3 W3 := by rw [← hW3]; exact Below.al (Below.refl _ _)
  have hx3 : Boxes W3 [(w3.heap.size, [.int .i64 T.page, .bool T.isLeaf, .slice x1 (cntT T) k1, .slice x2 n2 k2, .slice x3 n3 k3]), (w2.heap.size, [.int .i64 p, .bool lf, .slice a3 m3 d3])] := by
    rw [← hW3]; exact (HX2.out.step hb3).alloc #[.int .i64 T.page, .bool T.isLeaf, .slice x1 (cntT T) k1, .slice x2 n2 k2, .slice x3 n3 k3] 33 (b := w3.heap.size) rfl
  have HN3 : Hid (NodeOn (fun x => x < w3.heap.size) N W3 [.int .i64 T.page, .bool T.isLeaf, .slice x1 (cntT T) k1, .slice x2 n2 k2, .slice x3 n3 k3] T) := Lib.hid ((hn3.lt.mono fun _ h => h.2).below hb33)
  have HR3 := Lib.hid ((HR2.out.below hb3).below hb33)
  have HB3 := Lib.hid (below_via (below_via HB22.out hb3) hb33)
  have h23 : w2.heap.size < w3.heap.size := by have := hb3.size; omega
  have h33 : w3.heap.size < W3.heap.size := hx3.lt 0 rfl
  have HX3 := Lib.hid hx3
  clear CN hn3 hb3 hb33 hx3 m0 m1 m2 HX2 HR2 HB22
  have hne0 : 0 < N := HWH.out.low
  have hXg := HX3.out.step (Below.refl _ _)
  have gn0 := hXg.cell 0 0 rfl rfl
  have gn1 := hXg.cell 0 1 rfl rfl
  have gn2 := hXg.cell 0 2 rfl rfl
  have gn3 := hXg.cell 0 3 rfl rfl
  have gn4 := hXg.cell 0 4 rfl rfl
  have gm0 := hXg.cell 1 0 rfl rfl
  have gm1 := hXg.cell 1 1 rfl rfl
  have gm2 := hXg.cell 1 2 rfl rfl
  clear hXg
  obtain ⟨E, hE⟩ : ∃ E, entsT N T = E := ⟨_, rfl⟩
  have hz : posK [] (keysOf E) = 0 := posK_eq (Nat.zero_le _) (fun j hj => by omega) (fun _ => knil _)
  have CS : ∀ (W : World), Below W3.heap.size W3 W → Calls Try.prog 20 #[.agg #[.int .i64 T.page, .bool T.isLeaf, .slice x1 (cntT T) k1, .slice x2 n2 k2, .slice x3 n3 k3], .string (strOf [])] W fun e w' => ∃ b v, e = .returned (.pointer (some ⟨b, 0, none⟩)) ∧ W.heap.size ≤ b ∧ Cur N (b + 1) b (fun x => x < w3.heap.size) w' v E ∧ Below W.heap.size W w' := fun W hW =>
    (seek_whole (fun x (hx : x < w3.heap.size) => by have := hW.size; omega) (HN3.out.below hW) HWH.out hN200 []).mono fun e w' ⟨v, e1, h1, h2⟩ => ⟨_, v, e1, by omega, by rw [hE, hz, List.drop_zero] at h1; exact h1, h2⟩
  rw [hE] at hE120
  have HEE := Lib.hid hE
  clear hE hz
  go_wp2_with fail
  refine (CS W3 (Below.refl _ _)).mono ?_
  rintro e w4 ⟨b1, v1, rfl, hb1, hc4, hb4⟩
  clear gn0 gn1 gn2 gn3 gn4 gm0 gm1 gm2
  have HC4 := Lib.hid hc4
  have HB4 := Lib.hid hb4
  clear hc4
  have hX := HX3.out.step hb4
  have p0 := hX.cell 0 0 rfl rfl
  have p1 := hX.cell 0 1 rfl rfl
  have p2 := hX.cell 0 2 rfl rfl
  have p3 := hX.cell 0 3 rfl rfl
  have p4 := hX.cell 0 4 rfl rfl
  clear hX hb4
  go_wp2_with fail
  refine (CS w4 HB4.out).mono ?_
  rintro e w5 ⟨b2, v2, rfl, hb2, hc5, hb5⟩
  have hb1w : w3.heap.size ≤ b1 := by omega
  have HTW := Lib.hid (Two.mk' HC4.out (fun x (hx : x < w3.heap.size) => by omega) hb5 hc5 hb2)
  have HB5 := Lib.hid (below_via HB4.out hb5)
  have CE := ents_from (HR3.out.below (below_via HB4.out hb5)) HWH.out.bnd (by rw [HEE.out]; omega)
  rw [HEE.out] at CE
  have hX := HX3.out.step (below_via HB4.out hb5)
  have q0 := hX.cell 1 0 rfl rfl
  have q1 := hX.cell 1 1 rfl rfl
  have q2 := hX.cell 1 2 rfl rfl
  clear hX hb5 hc5 CS p0 p1 p2 p3 p4
  go_wp2_with fail
  refine CE.mono ?_
  rintro e w6 ⟨a5, m5, c5, rfl, he5, hf5, hb6⟩
  clear CE q0 q1 q2
  obtain ⟨e51, e52, e53⟩ := he5.len
  have hm5 : m5 ≤ 120 := by omega
  have HT6 := Lib.hid (HTW.out.below hb6)
  have HTW6 : Hid (Two N b1 b2 (fun x => x < w3.heap.size) w6 v1 v2 E E a5 m5) := Lib.hid ⟨HT6.out.c1, HT6.out.c2, HT6.out.lt, HT6.out.hF, HT6.out.ap, hf5.mono fun x hx => by
    have l1 := HTW.out.c1.lt9
    have l2 := HTW.out.c2.lt9
    exact ⟨⟨by omega, fun e => by have := (HTW.out.c1.ge x e).2; omega⟩, ⟨by omega, fun e => by have := (HTW.out.c2.ge x e).2; omega⟩⟩⟩
  have HE6 := Lib.hid he5
  have HB6 := Lib.hid (below_via HB5.out hb6)
  have HL5 := Lib.hid e51
  have CD := depth_cur HTW6.out.c1
  obtain ⟨D, hD⟩ : ∃ D, deepC N E = D := ⟨_, rfl⟩
  rw [hD] at CD
  have HD := Lib.hid hD
  clear he5 hf5 hb6 e51 HT6 hD
  go_wp2_with fail
  refine CD.mono ?_
  rintro e w7 ⟨rfl, rfl⟩
  clear CD
  go_wp2_with fail
  go_loopw [12, 13, 15] (fun s12 s13 s15 wr => ∃ (t i k : Nat) (v1 v2 : Value), t ≤ tn ∧ i ≤ t ∧ k ≤ t ∧ s12 = .int .i64 i ∧ s13 = .int .i64 k ∧ s15 = .int .i64 t ∧ Two N b1 b2 (fun x => x < w3.heap.size) wr v1 v2 (E.drop i) (E.drop k) a5 m5 ∧ EntIn wr a5 m5 c5 E ∧ Below W3.heap.size W3 wr) (fun _ _ s _ => tn - (intOf s).toNat)
  case atStart => exact ⟨0, 0, 0, v1, v2, Nat.zero_le _, Nat.le_refl _, Nat.le_refl _, rfl, rfl, rfl, HTW6.out, HE6.out, HB6.out⟩
  case round =>
    clear HTW6 HE6 HB6
    obtain ⟨t, i, k, v1, v2, htn, hit, hkt, rfl, rfl, rfl, htw, he, hb⟩ := hrel
    by_cases hlt : t < tn
    · obtain ⟨bt, ot, tb, rfl, hbt, _, t0⟩ := Bls.at HT.out hlt
      have hbw : Below w.heap.size w wr := below_via HB3.out hb
      have t1 := (hbw.cell (p := ⟨bt, ot + t, none⟩) hbt).trans t0
      have HTW := Lib.hid htw
      have HE := Lib.hid he
      have HB := Lib.hid hb
      have hlt' : (t : Int) < (tn : Int) := by omega
      have h0t : (0 : Int) ≤ (t : Int) := by omega
      have hwt : IntKind.i64.wrap ((t : Int) + 1) = (t : Int) + 1 := IntWalk.i64_in _ (by omega)
      have hwi : IntKind.i64.wrap ((i : Int) + 1) = (i : Int) + 1 := IntWalk.i64_in _ (by omega)
      have hwk : IntKind.i64.wrap ((k : Int) + 1) = (k : Int) + 1 := IntWalk.i64_in _ (by omega)
      have h0i : (0 : Int) ≤ (i : Int) := by omega
      have h0k : (0 : Int) ≤ (k : Int) := by omega
      clear htw he hb hbw t0
      cases tb with
      | true =>
        by_cases hin : i < m5
        · obtain ⟨bq, oq, y, rfl, hbq, hy, _, _⟩ := HE.out.at hin
          have hdr := drop_at hy
          obtain ⟨yk, yv⟩ := y
          have CX := next_cur HTW.out.c1 (by have := HTW.out.c1.lt9; omega) hN200
          rw [hdr] at CX
          have HY := Lib.hid hy
          have HDR := Lib.hid hdr
          have hin' : (i : Int) < (m5 : Int) := by omega
          have hkk : ((strOf yk).toList == (strOf yk).toList) = true := by simp
          clear hy hdr
          go_wp2_with fail
          refine CX.mono ?_
          rintro e w8 ⟨rfl, v8, hc8, hst8⟩
          dsimp only [keyH, someH, valH, List.tail_cons] at hc8 ⊢
          have hb8 := HB.out.trans (HTW.out.stay hst8 (show W3.heap.size ≤ b1 by omega))
          have he8 : EntIn w8 (some ⟨bq, oq, none⟩) m5 c5 E := TabR.agree HE.out (HTW.out.row.mono fun x hx => ⟨hx.1.1, hx.1.2⟩) hst8.1 (fun _ _ _ h => h)
          have htw := HTW.out.stepA (TabR.block HE.out) (by rw [HDR.out]; exact hc8) hst8
          rw [HDR.out, List.tail_cons] at htw
          obtain ⟨_, _, y9, eqa, _, hy9, c0, _⟩ := he8.at hin
          cases eqa
          rw [HY.out] at hy9
          cases hy9
          clear CX hc8 hst8
          dsimp only at c0
          go_upto_region 26 with (fail)
          clear c0
          by_cases hn1 : i + 1 < m5
          · by_cases ho : k < m5
            · have CD1 := depth_cur htw.c1
              rw [deep_some (i := (i + 1)) (by have := HL5.out; omega)] at CD1
              have ia1 : ((i : Int) + 1) < (m5 : Int) := by omega
              have ia2 : decide ((m5 : Int) ≤ ((i : Int) + 1)) = false := by simp; omega
              have CD2 := depth_cur htw.c2
              rw [deep_some (i := k) (by have := HL5.out; omega)] at CD2
              have ka1 : (k : Int) < (m5 : Int) := by omega
              obtain rfl : N = D := by
                have := HD.out
                rw [← this]
                exact (deep_some (i := 0) (by have := HL5.out; omega)).symm
              have hDD : ((N : Int) == (N : Int)) = true := by simp
              have HREL : Hid (∃ (t' i' k' : Nat) (v1 v2 : Value), t' ≤ tn ∧ i' ≤ t' ∧ k' ≤ t' ∧ Value.int .i64 ((i : Int) + 1) = .int .i64 i' ∧ Value.int .i64 (k : Int) = .int .i64 k' ∧ Value.int .i64 ((t : Int) + 1) = .int .i64 t' ∧ Two N b1 b2 (fun x => x < w3.heap.size) w8 v1 v2 (E.drop i') (E.drop k') (some ⟨bq, oq, none⟩) m5 ∧ EntIn w8 (some ⟨bq, oq, none⟩) m5 c5 E ∧ Below W3.heap.size W3 w8) := Lib.hid ⟨t + 1, (i + 1), k, _, _, hlt, by omega, by omega, by go_num, by go_num, by go_num, htw, he8, hb8⟩
              clear htw he8 hb8
              go_wp2_with fail
              refine CD1.mono ?_
              rintro e w9 ⟨rfl, rfl⟩
              clear CD1
              go_wp2_with fail
              refine CD2.mono ?_
              rintro e w9 ⟨rfl, rfl⟩
              clear CD2
              go_wp2_with fail
              go_roundw
              case rel => exact HREL.out
              case measure => simp [intOf]; omega
            · have CD1 := depth_cur htw.c1
              rw [deep_some (i := (i + 1)) (by have := HL5.out; omega)] at CD1
              have ia1 : ((i : Int) + 1) < (m5 : Int) := by omega
              have ia2 : decide ((m5 : Int) ≤ ((i : Int) + 1)) = false := by simp; omega
              have ka1 : decide ((k : Int) < (m5 : Int)) = false := by simp; omega
              obtain rfl : N = D := by
                have := HD.out
                rw [← this]
                exact (deep_some (i := 0) (by have := HL5.out; omega)).symm
              have hDD : ((N : Int) == (N : Int)) = true := by simp
              have HREL : Hid (∃ (t' i' k' : Nat) (v1 v2 : Value), t' ≤ tn ∧ i' ≤ t' ∧ k' ≤ t' ∧ Value.int .i64 ((i : Int) + 1) = .int .i64 i' ∧ Value.int .i64 (k : Int) = .int .i64 k' ∧ Value.int .i64 ((t : Int) + 1) = .int .i64 t' ∧ Two N b1 b2 (fun x => x < w3.heap.size) w8 v1 v2 (E.drop i') (E.drop k') (some ⟨bq, oq, none⟩) m5 ∧ EntIn w8 (some ⟨bq, oq, none⟩) m5 c5 E ∧ Below W3.heap.size W3 w8) := Lib.hid ⟨t + 1, (i + 1), k, _, _, hlt, by omega, by omega, by go_num, by go_num, by go_num, htw, he8, hb8⟩
              clear htw he8 hb8
              go_wp2_with fail
              refine CD1.mono ?_
              rintro e w9 ⟨rfl, rfl⟩
              clear CD1
              go_wp2_with fail
              go_roundw
              case rel => exact HREL.out
              case measure => simp [intOf]; omega
          · by_cases ho : k < m5
            · have CD1 := depth_cur htw.c1
              rw [deep_none (i := (i + 1)) (by have := HL5.out; omega)] at CD1
              have ia1 : decide (((i : Int) + 1) < (m5 : Int)) = false := by simp; omega
              have ia2 : (m5 : Int) ≤ ((i : Int) + 1) := by omega
              have CD2 := depth_cur htw.c2
              rw [deep_some (i := k) (by have := HL5.out; omega)] at CD2
              have ka1 : (k : Int) < (m5 : Int) := by omega
              obtain rfl : N = D := by
                have := HD.out
                rw [← this]
                exact (deep_some (i := 0) (by have := HL5.out; omega)).symm
              have hDD : ((N : Int) == (N : Int)) = true := by simp
              have HREL : Hid (∃ (t' i' k' : Nat) (v1 v2 : Value), t' ≤ tn ∧ i' ≤ t' ∧ k' ≤ t' ∧ Value.int .i64 ((i : Int) + 1) = .int .i64 i' ∧ Value.int .i64 (k : Int) = .int .i64 k' ∧ Value.int .i64 ((t : Int) + 1) = .int .i64 t' ∧ Two N b1 b2 (fun x => x < w3.heap.size) w8 v1 v2 (E.drop i') (E.drop k') (some ⟨bq, oq, none⟩) m5 ∧ EntIn w8 (some ⟨bq, oq, none⟩) m5 c5 E ∧ Below W3.heap.size W3 w8) := Lib.hid ⟨t + 1, (i + 1), k, _, _, hlt, by omega, by omega, by go_num, by go_num, by go_num, htw, he8, hb8⟩
              clear htw he8 hb8
              go_wp2_with fail
              refine CD1.mono ?_
              rintro e w9 ⟨rfl, rfl⟩
              clear CD1
              go_wp2_with fail
              refine CD2.mono ?_
              rintro e w9 ⟨rfl, rfl⟩
              clear CD2
              go_wp2_with fail
              go_roundw
              case rel => exact HREL.out
              case measure => simp [intOf]; omega
            · have CD1 := depth_cur htw.c1
              rw [deep_none (i := (i + 1)) (by have := HL5.out; omega)] at CD1
              have ia1 : decide (((i : Int) + 1) < (m5 : Int)) = false := by simp; omega
              have ia2 : (m5 : Int) ≤ ((i : Int) + 1) := by omega
              have ka1 : decide ((k : Int) < (m5 : Int)) = false := by simp; omega
              have HREL : Hid (∃ (t' i' k' : Nat) (v1 v2 : Value), t' ≤ tn ∧ i' ≤ t' ∧ k' ≤ t' ∧ Value.int .i64 ((i : Int) + 1) = .int .i64 i' ∧ Value.int .i64 (k : Int) = .int .i64 k' ∧ Value.int .i64 ((t : Int) + 1) = .int .i64 t' ∧ Two N b1 b2 (fun x => x < w3.heap.size) w8 v1 v2 (E.drop i') (E.drop k') (some ⟨bq, oq, none⟩) m5 ∧ EntIn w8 (some ⟨bq, oq, none⟩) m5 c5 E ∧ Below W3.heap.size W3 w8) := Lib.hid ⟨t + 1, (i + 1), k, _, _, hlt, by omega, by omega, by go_num, by go_num, by go_num, htw, he8, hb8⟩
              clear htw he8 hb8
              go_wp2_with fail
              refine CD1.mono ?_
              rintro e w9 ⟨rfl, rfl⟩
              clear CD1
              go_wp2_with fail
              go_roundw
              case rel => exact HREL.out
              case measure => simp [intOf]; omega
        · have hdr : E.drop i = [] := List.drop_of_length_le (by have := HL5.out; omega)
          have CX := next_cur HTW.out.c1 (by have := HTW.out.c1.lt9; omega) hN200
          rw [hdr] at CX
          have HDR := Lib.hid hdr
          have hin' : decide ((i : Int) < (m5 : Int)) = false := by simp; omega
          clear hdr
          go_wp2_with fail
          refine CX.mono ?_
          rintro e w8 ⟨rfl, v8, hc8, hst8⟩
          dsimp only [keyH, someH, valH, List.tail_nil] at hc8 ⊢
          have hb8 := HB.out.trans (HTW.out.stay hst8 (show W3.heap.size ≤ b1 by omega))
          have he8 : EntIn w8 a5 m5 c5 E := TabR.agree HE.out (HTW.out.row.mono fun x hx => ⟨hx.1.1, hx.1.2⟩) hst8.1 (fun _ _ _ h => h)
          have htw := HTW.out.stepA (TabR.block HE.out) (by rw [HDR.out]; exact hc8) hst8
          rw [tail_drop] at htw
          clear CX hc8 hst8
          go_upto_region 26 with (fail)
          by_cases ho : k < m5
          · have CD1 := depth_cur htw.c1
            rw [deep_none (i := (i + 1)) (by have := HL5.out; omega)] at CD1
            have ia1 : decide (((i : Int) + 1) < (m5 : Int)) = false := by simp; omega
            have ia2 : (m5 : Int) ≤ ((i : Int) + 1) := by omega
            have CD2 := depth_cur htw.c2
            rw [deep_some (i := k) (by have := HL5.out; omega)] at CD2
            have ka1 : (k : Int) < (m5 : Int) := by omega
            obtain rfl : N = D := by
              have := HD.out
              rw [← this]
              exact (deep_some (i := 0) (by have := HL5.out; omega)).symm
            have hDD : ((N : Int) == (N : Int)) = true := by simp
            have HREL : Hid (∃ (t' i' k' : Nat) (v1 v2 : Value), t' ≤ tn ∧ i' ≤ t' ∧ k' ≤ t' ∧ Value.int .i64 ((i : Int) + 1) = .int .i64 i' ∧ Value.int .i64 (k : Int) = .int .i64 k' ∧ Value.int .i64 ((t : Int) + 1) = .int .i64 t' ∧ Two N b1 b2 (fun x => x < w3.heap.size) w8 v1 v2 (E.drop i') (E.drop k') a5 m5 ∧ EntIn w8 a5 m5 c5 E ∧ Below W3.heap.size W3 w8) := Lib.hid ⟨t + 1, (i + 1), k, _, _, hlt, by omega, by omega, by go_num, by go_num, by go_num, htw, he8, hb8⟩
            clear htw he8 hb8
            go_wp2_with fail
            refine CD1.mono ?_
            rintro e w9 ⟨rfl, rfl⟩
            clear CD1
            go_wp2_with fail
            refine CD2.mono ?_
            rintro e w9 ⟨rfl, rfl⟩
            clear CD2
            go_wp2_with fail
            go_roundw
            case rel => exact HREL.out
            case measure => simp [intOf]; omega
          · have CD1 := depth_cur htw.c1
            rw [deep_none (i := (i + 1)) (by have := HL5.out; omega)] at CD1
            have ia1 : decide (((i : Int) + 1) < (m5 : Int)) = false := by simp; omega
            have ia2 : (m5 : Int) ≤ ((i : Int) + 1) := by omega
            have ka1 : decide ((k : Int) < (m5 : Int)) = false := by simp; omega
            have HREL : Hid (∃ (t' i' k' : Nat) (v1 v2 : Value), t' ≤ tn ∧ i' ≤ t' ∧ k' ≤ t' ∧ Value.int .i64 ((i : Int) + 1) = .int .i64 i' ∧ Value.int .i64 (k : Int) = .int .i64 k' ∧ Value.int .i64 ((t : Int) + 1) = .int .i64 t' ∧ Two N b1 b2 (fun x => x < w3.heap.size) w8 v1 v2 (E.drop i') (E.drop k') a5 m5 ∧ EntIn w8 a5 m5 c5 E ∧ Below W3.heap.size W3 w8) := Lib.hid ⟨t + 1, (i + 1), k, _, _, hlt, by omega, by omega, by go_num, by go_num, by go_num, htw, he8, hb8⟩
            clear htw he8 hb8
            go_wp2_with fail
            refine CD1.mono ?_
            rintro e w9 ⟨rfl, rfl⟩
            clear CD1
            go_wp2_with fail
            go_roundw
            case rel => exact HREL.out
            case measure => simp [intOf]; omega
      | false =>
        by_cases hin : k < m5
        · obtain ⟨bq, oq, y, rfl, hbq, hy, _, _⟩ := HE.out.at hin
          have hdr := drop_at hy
          obtain ⟨yk, yv⟩ := y
          have CX := next_cur HTW.out.c2 (by have := HTW.out.c2.lt9; omega) hN200
          rw [hdr] at CX
          have HY := Lib.hid hy
          have HDR := Lib.hid hdr
          have hin' : (k : Int) < (m5 : Int) := by omega
          have hkk : ((strOf yk).toList == (strOf yk).toList) = true := by simp
          clear hy hdr
          go_wp2_with fail
          refine CX.mono ?_
          rintro e w8 ⟨rfl, v8, hc8, hst8⟩
          dsimp only [keyH, someH, valH, List.tail_cons] at hc8 ⊢
          have hb8 := HB.out.trans (HTW.out.stay2 hst8 (show W3.heap.size ≤ b2 by have := HTW.out.lt; omega))
          have he8 : EntIn w8 (some ⟨bq, oq, none⟩) m5 c5 E := TabR.agree HE.out (HTW.out.row.mono fun x hx => ⟨hx.2.1, hx.2.2⟩) hst8.1 (fun _ _ _ h => h)
          have htw := HTW.out.stepB (TabR.block HE.out) (by rw [HDR.out]; exact hc8) hst8
          rw [HDR.out, List.tail_cons] at htw
          obtain ⟨_, _, y9, eqa, _, hy9, c0, _⟩ := he8.at hin
          cases eqa
          rw [HY.out] at hy9
          cases hy9
          clear CX hc8 hst8
          dsimp only at c0
          go_upto_region 26 with (fail)
          clear c0
          by_cases hn1 : k + 1 < m5
          · by_cases ho : i < m5
            · have CD1 := depth_cur htw.c1
              rw [deep_some (i := i) (by have := HL5.out; omega)] at CD1
              have ia1 : (i : Int) < (m5 : Int) := by omega
              have ia2 : decide ((m5 : Int) ≤ (i : Int)) = false := by simp; omega
              have CD2 := depth_cur htw.c2
              rw [deep_some (i := (k + 1)) (by have := HL5.out; omega)] at CD2
              have ka1 : ((k : Int) + 1) < (m5 : Int) := by omega
              obtain rfl : N = D := by
                have := HD.out
                rw [← this]
                exact (deep_some (i := 0) (by have := HL5.out; omega)).symm
              have hDD : ((N : Int) == (N : Int)) = true := by simp
              have HREL : Hid (∃ (t' i' k' : Nat) (v1 v2 : Value), t' ≤ tn ∧ i' ≤ t' ∧ k' ≤ t' ∧ Value.int .i64 (i : Int) = .int .i64 i' ∧ Value.int .i64 ((k : Int) + 1) = .int .i64 k' ∧ Value.int .i64 ((t : Int) + 1) = .int .i64 t' ∧ Two N b1 b2 (fun x => x < w3.heap.size) w8 v1 v2 (E.drop i') (E.drop k') (some ⟨bq, oq, none⟩) m5 ∧ EntIn w8 (some ⟨bq, oq, none⟩) m5 c5 E ∧ Below W3.heap.size W3 w8) := Lib.hid ⟨t + 1, i, (k + 1), _, _, hlt, by omega, by omega, by go_num, by go_num, by go_num, htw, he8, hb8⟩
              clear htw he8 hb8
              go_wp2_with fail
              refine CD1.mono ?_
              rintro e w9 ⟨rfl, rfl⟩
              clear CD1
              go_wp2_with fail
              refine CD2.mono ?_
              rintro e w9 ⟨rfl, rfl⟩
              clear CD2
              go_wp2_with fail
              go_roundw
              case rel => exact HREL.out
              case measure => simp [intOf]; omega
            · have CD1 := depth_cur htw.c1
              rw [deep_none (i := i) (by have := HL5.out; omega)] at CD1
              have ia1 : decide ((i : Int) < (m5 : Int)) = false := by simp; omega
              have ia2 : (m5 : Int) ≤ (i : Int) := by omega
              have CD2 := depth_cur htw.c2
              rw [deep_some (i := (k + 1)) (by have := HL5.out; omega)] at CD2
              have ka1 : ((k : Int) + 1) < (m5 : Int) := by omega
              obtain rfl : N = D := by
                have := HD.out
                rw [← this]
                exact (deep_some (i := 0) (by have := HL5.out; omega)).symm
              have hDD : ((N : Int) == (N : Int)) = true := by simp
              have HREL : Hid (∃ (t' i' k' : Nat) (v1 v2 : Value), t' ≤ tn ∧ i' ≤ t' ∧ k' ≤ t' ∧ Value.int .i64 (i : Int) = .int .i64 i' ∧ Value.int .i64 ((k : Int) + 1) = .int .i64 k' ∧ Value.int .i64 ((t : Int) + 1) = .int .i64 t' ∧ Two N b1 b2 (fun x => x < w3.heap.size) w8 v1 v2 (E.drop i') (E.drop k') (some ⟨bq, oq, none⟩) m5 ∧ EntIn w8 (some ⟨bq, oq, none⟩) m5 c5 E ∧ Below W3.heap.size W3 w8) := Lib.hid ⟨t + 1, i, (k + 1), _, _, hlt, by omega, by omega, by go_num, by go_num, by go_num, htw, he8, hb8⟩
              clear htw he8 hb8
              go_wp2_with fail
              refine CD1.mono ?_
              rintro e w9 ⟨rfl, rfl⟩
              clear CD1
              go_wp2_with fail
              refine CD2.mono ?_
              rintro e w9 ⟨rfl, rfl⟩
              clear CD2
              go_wp2_with fail
              go_roundw
              case rel => exact HREL.out
              case measure => simp [intOf]; omega
          · by_cases ho : i < m5
            · have CD1 := depth_cur htw.c1
              rw [deep_some (i := i) (by have := HL5.out; omega)] at CD1
              have ia1 : (i : Int) < (m5 : Int) := by omega
              have ia2 : decide ((m5 : Int) ≤ (i : Int)) = false := by simp; omega
              have ka1 : decide (((k : Int) + 1) < (m5 : Int)) = false := by simp; omega
              obtain rfl : N = D := by
                have := HD.out
                rw [← this]
                exact (deep_some (i := 0) (by have := HL5.out; omega)).symm
              have hDD : ((N : Int) == (N : Int)) = true := by simp
              have HREL : Hid (∃ (t' i' k' : Nat) (v1 v2 : Value), t' ≤ tn ∧ i' ≤ t' ∧ k' ≤ t' ∧ Value.int .i64 (i : Int) = .int .i64 i' ∧ Value.int .i64 ((k : Int) + 1) = .int .i64 k' ∧ Value.int .i64 ((t : Int) + 1) = .int .i64 t' ∧ Two N b1 b2 (fun x => x < w3.heap.size) w8 v1 v2 (E.drop i') (E.drop k') (some ⟨bq, oq, none⟩) m5 ∧ EntIn w8 (some ⟨bq, oq, none⟩) m5 c5 E ∧ Below W3.heap.size W3 w8) := Lib.hid ⟨t + 1, i, (k + 1), _, _, hlt, by omega, by omega, by go_num, by go_num, by go_num, htw, he8, hb8⟩
              clear htw he8 hb8
              go_wp2_with fail
              refine CD1.mono ?_
              rintro e w9 ⟨rfl, rfl⟩
              clear CD1
              go_wp2_with fail
              go_roundw
              case rel => exact HREL.out
              case measure => simp [intOf]; omega
            · have CD1 := depth_cur htw.c1
              rw [deep_none (i := i) (by have := HL5.out; omega)] at CD1
              have ia1 : decide ((i : Int) < (m5 : Int)) = false := by simp; omega
              have ia2 : (m5 : Int) ≤ (i : Int) := by omega
              have ka1 : decide (((k : Int) + 1) < (m5 : Int)) = false := by simp; omega
              have HREL : Hid (∃ (t' i' k' : Nat) (v1 v2 : Value), t' ≤ tn ∧ i' ≤ t' ∧ k' ≤ t' ∧ Value.int .i64 (i : Int) = .int .i64 i' ∧ Value.int .i64 ((k : Int) + 1) = .int .i64 k' ∧ Value.int .i64 ((t : Int) + 1) = .int .i64 t' ∧ Two N b1 b2 (fun x => x < w3.heap.size) w8 v1 v2 (E.drop i') (E.drop k') (some ⟨bq, oq, none⟩) m5 ∧ EntIn w8 (some ⟨bq, oq, none⟩) m5 c5 E ∧ Below W3.heap.size W3 w8) := Lib.hid ⟨t + 1, i, (k + 1), _, _, hlt, by omega, by omega, by go_num, by go_num, by go_num, htw, he8, hb8⟩
              clear htw he8 hb8
              go_wp2_with fail
              refine CD1.mono ?_
              rintro e w9 ⟨rfl, rfl⟩
              clear CD1
              go_wp2_with fail
              go_roundw
              case rel => exact HREL.out
              case measure => simp [intOf]; omega
        · have hdr : E.drop k = [] := List.drop_of_length_le (by have := HL5.out; omega)
          have CX := next_cur HTW.out.c2 (by have := HTW.out.c2.lt9; omega) hN200
          rw [hdr] at CX
          have HDR := Lib.hid hdr
          have hin' : decide ((k : Int) < (m5 : Int)) = false := by simp; omega
          clear hdr
          go_wp2_with fail
          refine CX.mono ?_
          rintro e w8 ⟨rfl, v8, hc8, hst8⟩
          dsimp only [keyH, someH, valH, List.tail_nil] at hc8 ⊢
          have hb8 := HB.out.trans (HTW.out.stay2 hst8 (show W3.heap.size ≤ b2 by have := HTW.out.lt; omega))
          have he8 : EntIn w8 a5 m5 c5 E := TabR.agree HE.out (HTW.out.row.mono fun x hx => ⟨hx.2.1, hx.2.2⟩) hst8.1 (fun _ _ _ h => h)
          have htw := HTW.out.stepB (TabR.block HE.out) (by rw [HDR.out]; exact hc8) hst8
          rw [tail_drop] at htw
          clear CX hc8 hst8
          go_upto_region 26 with (fail)
          by_cases ho : i < m5
          · have CD1 := depth_cur htw.c1
            rw [deep_some (i := i) (by have := HL5.out; omega)] at CD1
            have ia1 : (i : Int) < (m5 : Int) := by omega
            have ia2 : decide ((m5 : Int) ≤ (i : Int)) = false := by simp; omega
            have ka1 : decide (((k : Int) + 1) < (m5 : Int)) = false := by simp; omega
            obtain rfl : N = D := by
              have := HD.out
              rw [← this]
              exact (deep_some (i := 0) (by have := HL5.out; omega)).symm
            have hDD : ((N : Int) == (N : Int)) = true := by simp
            have HREL : Hid (∃ (t' i' k' : Nat) (v1 v2 : Value), t' ≤ tn ∧ i' ≤ t' ∧ k' ≤ t' ∧ Value.int .i64 (i : Int) = .int .i64 i' ∧ Value.int .i64 ((k : Int) + 1) = .int .i64 k' ∧ Value.int .i64 ((t : Int) + 1) = .int .i64 t' ∧ Two N b1 b2 (fun x => x < w3.heap.size) w8 v1 v2 (E.drop i') (E.drop k') a5 m5 ∧ EntIn w8 a5 m5 c5 E ∧ Below W3.heap.size W3 w8) := Lib.hid ⟨t + 1, i, (k + 1), _, _, hlt, by omega, by omega, by go_num, by go_num, by go_num, htw, he8, hb8⟩
            clear htw he8 hb8
            go_wp2_with fail
            refine CD1.mono ?_
            rintro e w9 ⟨rfl, rfl⟩
            clear CD1
            go_wp2_with fail
            go_roundw
            case rel => exact HREL.out
            case measure => simp [intOf]; omega
          · have CD1 := depth_cur htw.c1
            rw [deep_none (i := i) (by have := HL5.out; omega)] at CD1
            have ia1 : decide ((i : Int) < (m5 : Int)) = false := by simp; omega
            have ia2 : (m5 : Int) ≤ (i : Int) := by omega
            have ka1 : decide (((k : Int) + 1) < (m5 : Int)) = false := by simp; omega
            have HREL : Hid (∃ (t' i' k' : Nat) (v1 v2 : Value), t' ≤ tn ∧ i' ≤ t' ∧ k' ≤ t' ∧ Value.int .i64 (i : Int) = .int .i64 i' ∧ Value.int .i64 ((k : Int) + 1) = .int .i64 k' ∧ Value.int .i64 ((t : Int) + 1) = .int .i64 t' ∧ Two N b1 b2 (fun x => x < w3.heap.size) w8 v1 v2 (E.drop i') (E.drop k') a5 m5 ∧ EntIn w8 a5 m5 c5 E ∧ Below W3.heap.size W3 w8) := Lib.hid ⟨t + 1, i, (k + 1), _, _, hlt, by omega, by omega, by go_num, by go_num, by go_num, htw, he8, hb8⟩
            clear htw he8 hb8
            go_wp2_with fail
            refine CD1.mono ?_
            rintro e w9 ⟨rfl, rfl⟩
            clear CD1
            go_wp2_with fail
            go_roundw
            case rel => exact HREL.out
            case measure => simp [intOf]; omega
    · obtain rfl : t = tn := by omega
      have hlt' : decide ((t : Int) < (t : Int)) = false := by simp
      have HEND := Lib.hid (below_via HB3.out hb)
      clear htw he hb
      go_wp2_with fail
      go_ret
      exact ⟨rfl, HEND.out⟩
end Go.Proofs.Ytemfnjlfcemehaa
