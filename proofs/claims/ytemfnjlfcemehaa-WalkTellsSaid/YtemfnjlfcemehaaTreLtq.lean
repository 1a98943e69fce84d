/- The law WalkTells (printed by gen_treLt.py). -/
import Derived.Test.YtemfnjlfcemehaaM15
import Derived.Deep.QuietTactic
import Derived.BigQuiet
import Derived.Deep.RegionHeld3
import Derived.Deep.DeepCutAuto
import Derived.Deep.CutBlock
namespace Go.Proofs.Ytemfnjlfcemehaa
open Go.RowKit

set_option maxRecDepth 100000 in
set_option maxHeartbeats 4000000 in
theorem lTells {w : World} {a : Option Addr} {n c : Nat} {l : List St} (h : Sts w a n c l) (key : List UInt8) :
    Calls Try.prog 3 #[.slice a n c, .string (strOf key)] w fun e w' => e = .returned (.bool true) ∧ Below w.heap.size w w' := by
  have HP := Lib.hid h
  have A := awake17_any w
  clear h
  obtain ⟨kl, hkl⟩ : ∃ kl, key.length = kl := ⟨_, rfl⟩
  have hsz : (strOf key).size = kl := by rw [strOf_size, hkl]
  go_enter Try.func3, Try.ntmps3
  go_wp2_with fail
  refine A.mono ?_
  rintro e w1 ⟨rfl, hb1⟩
  have hp1 : Sts w1 a n c l := TabR.below (Nat.le_refl _) hb1 HP.out
  clear A
  go_wp2_with fail
  refine (built_any hp1).mono ?_
  rintro e w2 ⟨hb2, h2⟩
  have HB2 := Lib.hid (below_via hb1 hb2)
  rcases h2 with ⟨hs, p, lf, a3, m3, d3, rfl⟩ | ⟨hs, N, T, p, lf, a3, m3, d3, rfl, hR, hW, hN, hE⟩
  · clear hp1 hb1 hb2 hs
    go_wp2_with fail
    go_ret
    exact ⟨rfl, Below.al HB2.out⟩
  have hl120 : l.length ≤ 120 := (okS_facts hs).1
  have hN200 : N ≤ 200 := by omega
  have hE120 : (entsT N T).length ≤ 120 := by omega
  obtain ⟨W2, hW2⟩ : ∃ x, w2.alloc (.cells #[.int .i64 p, .bool lf, .slice a3 m3 d3] 26) = x := ⟨_, rfl⟩
  have hx2 : Boxes W2 [(w2.heap.size, [.int .i64 p, .bool lf, .slice a3 m3 d3])] := by
    rw [← hW2]; exact (Boxes.nil w2).alloc #[.int .i64 p, .bool lf, .slice a3 m3 d3] 26 (b := w2.heap.size) rfl
  have hb22 : Below w2.heap.size w2 W2 := by rw [← hW2]; exact Below.al (Below.refl _ _)
  have hRl : RNodeOn (fun x => x < w2.heap.size) N W2 [.int .i64 p, .bool lf, .slice a3 m3 d3] T := (hR.lt.mono (fun _ h => h.2)).below hb22
  have CN := node17_any (fun x (hx : x < w2.heap.size) => Nat.lt_of_lt_of_le hx hb22.size) hRl hW.bnd
  have HX2 := Lib.hid hx2
  have HR2 := Lib.hid hRl
  have HB22 := Lib.hid (below_via HB2.out hb22)
  have HWH := Lib.hid hW
  have m0 := hx2.cell 0 0 rfl rfl
  have m1 := hx2.cell 0 1 rfl rfl
  have m2 := hx2.cell 0 2 rfl rfl
  have h22 : w2.heap.size < W2.heap.size := hx2.lt 0 rfl
  clear hp1 hb1 hb2 hs hR hW hN hE hx2 hb22 hRl HB2
  by_cases h100 : 100 < kl
  · have h100' : (100 : Int) < (kl : Int) := by omega
    clear CN
    go_wp2_with fail
    go_ret
    exact ⟨rfl, HB22.out⟩
  have h100' : decide ((100 : Int) < (kl : Int)) = false := by simp; omega
  have h100'' : decide (100 < kl) = false := by simp; omega
  go_wp2_with fail
  refine CN.mono ?_
  rintro e w3 ⟨cs, rfl, hn3, hb3⟩
  obtain ⟨x1, k1, x2, n2, k2, x3, n3, k3, ecs, _, _⟩ := hn3.words
  subst ecs
  obtain ⟨W3, hW3⟩ : ∃ x, w3.alloc (.cells #[.int .i64 T.page, .bool T.isLeaf, .slice x1 (cntT T) k1, .slice x2 n2 k2, .slice x3 n3 k3] 33) = x := ⟨_, rfl⟩
  have hb33 : Below w3.heap.size w3 W3 := by rw [← hW3]; exact Below.al (Below.refl _ _)
  have hx3 : Boxes W3 [(w3.heap.size, [.int .i64 T.page, .bool T.isLeaf, .slice x1 (cntT T) k1, .slice x2 n2 k2, .slice x3 n3 k3]), (w2.heap.size, [.int .i64 p, .bool lf, .slice a3 m3 d3])] := by
    rw [← hW3]; exact (HX2.out.step hb3).alloc #[.int .i64 T.page, .bool T.isLeaf, .slice x1 (cntT T) k1, .slice x2 n2 k2, .slice x3 n3 k3] 33 (b := w3.heap.size) rfl
  have HN3 : Hid (NodeOn (fun x => x < w3.heap.size) N W3 [.int .i64 T.page, .bool T.isLeaf, .slice x1 (cntT T) k1, .slice x2 n2 k2, .slice x3 n3 k3] T) := Lib.hid ((hn3.lt.mono fun _ h => h.2).below hb33)
  have HR3 := Lib.hid ((HR2.out.below hb3).below hb33)
  have HB3 := Lib.hid (below_via (below_via HB22.out hb3) hb33)
  have h23 : w2.heap.size < w3.heap.size := by have := hb3.size; omega
  have h33 : w3.heap.size < W3.heap.size := hx3.lt 0 rfl
  have HX3 := Lib.hid hx3
  clear CN hn3 hb3 hb33 hx3 m0 m1 m2 HX2 HR2 HB22
  have hne0 : 0 < N := HWH.out.low
  have hX := HX3.out.step (Below.refl _ _)
  have n0 := hX.cell 0 0 rfl rfl
  have n1 := hX.cell 0 1 rfl rfl
  have n2 := hX.cell 0 2 rfl rfl
  have n3 := hX.cell 0 3 rfl rfl
  have n4 := hX.cell 0 4 rfl rfl
  have m0 := hX.cell 1 0 rfl rfl
  have m1 := hX.cell 1 1 rfl rfl
  have m2 := hX.cell 1 2 rfl rfl
  clear hX
  obtain ⟨R, hR⟩ : ∃ R, (entsT N T).drop (posK key (keysOf (entsT N T))) = R := ⟨_, rfl⟩
  have CS := seek_whole (fun x (hx : x < w3.heap.size) => Nat.lt_trans hx h33) HN3.out HWH.out hN200 key
  rw [hR] at CS
  have HRR := Lib.hid hR
  clear hR
  go_wp2_with fail
  refine CS.mono ?_
  rintro e w4 ⟨v4, rfl, hc4, hb4⟩
  clear CS n0 n1 n2 n3 n4 m0 m1 m2
  have hX := HX3.out.step hb4
  have m0 := hX.cell 1 0 rfl rfl
  have m1 := hX.cell 1 1 rfl rfl
  have m2 := hX.cell 1 2 rfl rfl
  clear hX
  have CF := from_any key (HR3.out.below hb4) HWH.out.bnd (by omega)
  rw [HRR.out] at CF
  have HC4 := Lib.hid hc4
  have HB4 := Lib.hid hb4
  clear hc4 hb4
  go_wp2_with fail
  refine CF.mono ?_
  rintro e w5 ⟨a5, m5, c5, rfl, he5, hf5, hb5⟩
  clear CF m0 m1 m2
  have hge4 := HC4.out.ge
  have hlt4 := HC4.out.lt9
  obtain ⟨e51, e52, e53⟩ := he5.len
  have hm5 : m5 ≤ 120 := by rw [← e51, ← HRR.out, List.length_drop]; omega
  have HE5 := Lib.hid he5
  have HF5 : Hid (Fa (fun x => x ≠ W3.heap.size + 1 ∧ v4.ownBlock ≠ some x) a5 m5) := Lib.hid (hf5.mono fun x hx => ⟨by have := HB4.out.size; omega, fun e => by have := hge4 x e; omega⟩)
  have HC5 := Lib.hid (HC4.out.below hb5)
  have HB5 := Lib.hid (below_via HB4.out hb5)
  have HL5 := Lib.hid e51
  clear he5 hf5 hb5 hge4 hlt4 HC4 HB4 e51
  go_wp2_with fail
  go_loopw [11] (fun s11 wr => ∃ (i : Nat) (v : Value), i ≤ m5 ∧ s11 = .int .i64 i ∧ Cur N (W3.heap.size + 2) (W3.heap.size + 1) (fun x => x < w3.heap.size) wr v (R.drop i) ∧ EntIn wr a5 m5 c5 R ∧ Fa (fun x => x ≠ W3.heap.size + 1 ∧ v.ownBlock ≠ some x) a5 m5 ∧ Below W3.heap.size W3 wr) (fun s _ => m5 - (intOf s).toNat)
  case atStart => exact ⟨0, v4, Nat.zero_le _, rfl, HC5.out, HE5.out, HF5.out, HB5.out⟩
  case round =>
    clear HC5 HE5 HF5 HB5
    obtain ⟨i, v, hi, rfl, hc, he, hf, hb⟩ := hrel
    by_cases him : i < m5
    · obtain ⟨bq, oq, y, rfl, hbq, hy, _, _⟩ := he.at him
      have hdr : R.drop i = y :: R.drop (i + 1) := by
        obtain ⟨h1, h2⟩ := List.getElem?_eq_some_iff.1 hy
        rw [List.drop_eq_getElem_cons h1, h2]
      rw [hdr] at hc
      have HY := Lib.hid hy
      have CP := peek_cur hc (by omega)
      have HC := Lib.hid hc
      have HE := Lib.hid he
      have HF := Lib.hid hf
      have HB := Lib.hid hb
      have him' : (i : Int) < (m5 : Int) := by omega
      have h0i : (0 : Int) ≤ (i : Int) := by omega
      have hwi : IntKind.i64.wrap ((i : Int) + 1) = (i : Int) + 1 := IntWalk.i64_in _ (by omega)
      obtain ⟨yk, yv⟩ := y
      clear hy hdr hc he hf hb
      go_wp2_with fail
      refine CP.mono ?_
      rintro e w6 ⟨rfl, hb6⟩
      dsimp only [keyH, someH]
      have hc6 := HC.out.below hb6
      have he6 := HE.out.below hb6
      have CD := depth_cur hc6
      have CX := next_cur hc6 (by have := hc6.lt9; omega) hN200
      have HB6 := Lib.hid (below_via HB.out hb6)
      have HE6 := Lib.hid he6
      have hge6 := hc6.ge
      have hs6 := hb6.size
      clear CP hb6 hc6 he6
      go_wp2_with fail
      refine CD.mono ?_
      rintro e w7 ⟨rfl, rfl⟩
      dsimp only [deepC]
      go_wp2_with fail
      refine CX.mono ?_
      rintro e w8 ⟨rfl, v8, hc8, hst8⟩
      dsimp only [keyH, someH, valH, List.tail_cons] at hc8 ⊢
      have hb8 := HB6.out.trans (hst8.toBelow (by omega) (fun g hg => by have := hge6 g hg; omega) HB6.out.size)
      have he8 : EntIn w8 (some ⟨bq, oq, none⟩) m5 c5 R := TabR.agree HE6.out HF.out hst8.1 (fun _ _ _ h => h)
      have hf8 : Fa (fun x => x ≠ W3.heap.size + 1 ∧ v8.ownBlock ≠ some x) (some ⟨bq, oq, none⟩) m5 := .inr fun b off e => by
        cases e
        rcases HF.out with h0 | hf
        · omega
        · have := hf bq oq rfl
          refine ⟨this.1, fun e => ?_⟩
          rcases hst8.2.1 with h9 | h9
          · rw [h9] at e; exact this.2 e
          · have := h9 bq e; omega
      obtain ⟨_, _, y9, eqa, _, hy9, c0, c1⟩ := he8.at him
      cases eqa
      rw [HY.out] at hy9
      cases hy9
      have hX := HX3.out.step hb8
      have m0 := hX.cell 1 0 rfl rfl
      have m1 := hX.cell 1 1 rfl rfl
      have m2 := hX.cell 1 2 rfl rfl
      clear hX
      have FR := far_any (HR3.out.below hb8) HWH.out.1.1 (by omega)
      have hkk : ((strOf yk).toList == (strOf yk).toList) = true := by simp
      have hkd : ((strOf yv.data).toList == (strOf yv.data).toList) = true := by simp
      have hNN : ((N : Int) == (N : Int)) = true := by simp
      have HB8 := Lib.hid hb8
      have HC8 := Lib.hid hc8
      have HE8 := Lib.hid he8
      have HF8 := Lib.hid hf8
      have hbq8 : bq < w8.heap.size := by have := hst8.1.1; omega
      clear CD CX hb8 hc8 he8 hf8 hst8 hge6
      go_wp2_with fail
      refine FR.mono ?_
      rintro e w9 ⟨rfl, hb9⟩
      have f0 := (hb9.cell (p := ⟨bq, oq + i * 4, none⟩) hbq8).trans c0
      have f1 := (hb9.cell (p := ⟨bq, oq + i * 4 + 1, none⟩) hbq8).trans c1
      have HREL : Hid (∃ (i' : Nat) (v : Value), i' ≤ m5 ∧ Value.int .i64 ((i : Int) + 1) = .int .i64 i' ∧ Cur N (W3.heap.size + 2) (W3.heap.size + 1) (fun x => x < w3.heap.size) w9 v (R.drop i') ∧ EntIn w9 (some ⟨bq, oq, none⟩) m5 c5 R ∧ Fa (fun x => x ≠ W3.heap.size + 1 ∧ v.ownBlock ≠ some x) (some ⟨bq, oq, none⟩) m5 ∧ Below W3.heap.size W3 w9) := Lib.hid ⟨i + 1, v8, him, by go_num, HC8.out.below hb9, HE8.out.below hb9, HF8.out, below_via HB8.out hb9⟩
      clear FR hb9 c0 c1 m0 m1 m2
      go_wp2_with fail
      go_roundw
      case rel => exact HREL.out
      case measure => simp [intOf]; omega
    · obtain rfl : i = m5 := by omega
      have hdr : R.drop i = [] := List.drop_of_length_le (by have := HL5.out; omega)
      rw [hdr] at hc
      have him' : decide ((i : Int) < (i : Int)) = false := by simp
      have HC := Lib.hid hc
      have HB := Lib.hid hb
      clear hdr hc he hf hb
      go_wp2_with fail
      go_loopw [18] (fun s18 wr => ∃ (j : Nat) (v : Value), j ≤ 3 ∧ s18 = .int .i64 j ∧ Cur N (W3.heap.size + 2) (W3.heap.size + 1) (fun x => x < w3.heap.size) wr v [] ∧ Below W3.heap.size W3 wr) (fun s _ => 3 - (intOf s).toNat)
      case atStart => exact ⟨0, v, by omega, rfl, HC.out, HB.out⟩
      case round =>
        clear HC HB
        obtain ⟨j, v, hj, rfl, hc, hb⟩ := hrel
        by_cases hj3 : j < 3
        · have CP := peek_cur hc (by omega)
          have HC := Lib.hid hc
          have HB := Lib.hid hb
          have hj3' : (j : Int) < 3 := by omega
          have hwj : IntKind.i64.wrap ((j : Int) + 1) = (j : Int) + 1 := IntWalk.i64_in _ (by omega)
          clear hc hb
          go_wp2_with fail
          refine CP.mono ?_
          rintro e w6 ⟨rfl, hb6⟩
          dsimp only [keyH, someH]
          have hc6 := HC.out.below hb6
          have CX := next_cur hc6 (by have := hc6.lt9; omega) hN200
          have HB6 := Lib.hid (below_via HB.out hb6)
          have hge6 := hc6.ge
          clear CP hb6 hc6
          go_wp2_with fail
          refine CX.mono ?_
          rintro e w8 ⟨rfl, v8, hc8, hst8⟩
          dsimp only [keyH, someH, valH, List.tail_nil] at hc8 ⊢
          have hb8 := HB6.out.trans (hst8.toBelow (by omega) (fun g hg => by have := hge6 g hg; omega) HB6.out.size)
          have CD := depth_cur hc8
          have HREL : Hid (∃ (j' : Nat) (v : Value), j' ≤ 3 ∧ Value.int .i64 ((j : Int) + 1) = .int .i64 j' ∧ Cur N (W3.heap.size + 2) (W3.heap.size + 1) (fun x => x < w3.heap.size) w8 v [] ∧ Below W3.heap.size W3 w8) := Lib.hid ⟨j + 1, v8, hj3, by go_num, hc8, hb8⟩
          have hst := strOf_toList
          clear CX hc8 hst8 hb8 hge6
          dsimp only [deepC] at CD
          go_wp2_with fail
          refine CD.mono ?_
          rintro e w9 ⟨rfl, rfl⟩
          go_wp2_with fail
          go_roundw
          case rel => exact HREL.out
          case measure => simp [intOf]; omega
        · obtain rfl : j = 3 := by omega
          have HB := Lib.hid hb
          clear hc hb
          go_wp2_with fail
          refine (peek_nil _).mono ?_
          rintro e w6 ⟨rfl, hb6⟩
          dsimp only [keyH, someH]
          go_wp2_with fail
          refine (next_nil _).mono ?_
          rintro e w7 ⟨rfl, hb7⟩
          have hb9 := below_via (below_via HB.out hb6) hb7
          have HB9 := Lib.hid hb9
          clear hb6 hb7
          have hlt2 : w2.heap.size < w7.heap.size := by have := hb9.size; omega
          have hlt3 : w3.heap.size < w7.heap.size := by have := hb9.size; omega
          have hX := HX3.out.step hb9
          have L0 : ∀ W, Below w7.heap.size w7 W → W.cell? ⟨w3.heap.size, 0, none⟩ = _ := fun W hW => (hW.cell (p := ⟨w3.heap.size, 0, none⟩) hlt3).trans (hX.cell 0 0 rfl rfl)
          have L1 : ∀ W, Below w7.heap.size w7 W → W.cell? ⟨w3.heap.size, 1, none⟩ = _ := fun W hW => (hW.cell (p := ⟨w3.heap.size, 1, none⟩) hlt3).trans (hX.cell 0 1 rfl rfl)
          have L2 : ∀ W, Below w7.heap.size w7 W → W.cell? ⟨w3.heap.size, 2, none⟩ = _ := fun W hW => (hW.cell (p := ⟨w3.heap.size, 2, none⟩) hlt3).trans (hX.cell 0 2 rfl rfl)
          have L3 : ∀ W, Below w7.heap.size w7 W → W.cell? ⟨w3.heap.size, 3, none⟩ = _ := fun W hW => (hW.cell (p := ⟨w3.heap.size, 3, none⟩) hlt3).trans (hX.cell 0 3 rfl rfl)
          have L4 : ∀ W, Below w7.heap.size w7 W → W.cell? ⟨w3.heap.size, 4, none⟩ = _ := fun W hW => (hW.cell (p := ⟨w3.heap.size, 4, none⟩) hlt3).trans (hX.cell 0 4 rfl rfl)
          have M0 : ∀ W, Below w7.heap.size w7 W → W.cell? ⟨w2.heap.size, 0, none⟩ = _ := fun W hW => (hW.cell (p := ⟨w2.heap.size, 0, none⟩) hlt2).trans (hX.cell 1 0 rfl rfl)
          have M1 : ∀ W, Below w7.heap.size w7 W → W.cell? ⟨w2.heap.size, 1, none⟩ = _ := fun W hW => (hW.cell (p := ⟨w2.heap.size, 1, none⟩) hlt2).trans (hX.cell 1 1 rfl rfl)
          have M2 : ∀ W, Below w7.heap.size w7 W → W.cell? ⟨w2.heap.size, 2, none⟩ = _ := fun W hW => (hW.cell (p := ⟨w2.heap.size, 2, none⟩) hlt2).trans (hX.cell 1 2 rfl rfl)
          have CC := fun W (hW : Below w7.heap.size w7 W) => count_any (HN3.out.below (below_via hb9 hW)).toIn (by omega)
          have CE := fun W (hW : Below w7.heap.size w7 W) => ents_from (HR3.out.below (below_via hb9 hW)) HWH.out.bnd (by omega)
          obtain ⟨M, hM⟩ : ∃ M, (entsT N T).length = M := ⟨_, rfl⟩
          have hMM : ((M : Int) == (M : Int)) = true := by simp
          have HM := Lib.hid hM
          simp only [hM] at CC
          have hA0 : Below w7.heap.size w7 w7.drew := Below.dr (Below.refl _ _)
          clear hX hb9 hM
          go_upto_region 28 with (fail)
          go_region_held3 (fun W => Below w7.heap.size w7 W) (first | with_reducible assumption | (repeat (with_reducible first | assumption | exact Below.refl _ _ | apply Below.al | apply Below.dr))) (first | (go_at_call 23; (with_reducible refine (depth_nil _).mono ?_); rintro e w11 ⟨rfl, rfl⟩) | (go_at_call 26; (with_reducible refine (CC _ ?_).mono ?_); (focus (repeat (with_reducible first | assumption | apply Below.dr))); rintro e w12 ⟨rfl, hb12⟩; have hA12 := below_via (a := w7) (by (repeat (with_reducible first | assumption | apply Below.dr))) hb12) | (go_at_call 27; (with_reducible refine (CE _ ?_).mono ?_); (focus (repeat (with_reducible first | assumption | apply Below.dr))); rintro e w13 ⟨a13, m13, c13, rfl, he13, hf13, hb13⟩; have hA13 := below_via (a := w7) (by (repeat (with_reducible first | assumption | apply Below.dr))) hb13; obtain rfl := he13.len.1.symm.trans HM.out))
          have HEND := Lib.hid (below_via HB3.out (below_via HB9.out hA13))
          go_wp2_with fail
          go_ret
          exact ⟨rfl, HEND.out⟩
end Go.Proofs.Ytemfnjlfcemehaa
