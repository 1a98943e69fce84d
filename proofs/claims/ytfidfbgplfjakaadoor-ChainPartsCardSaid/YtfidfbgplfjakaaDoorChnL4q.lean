/- The law ChainParts (printed by gen_chnL.py). -/
import Derived.Test.YtfidfbgplfjakaaDoorChnL1q
import Derived.Test.YtfidfbgplfjakaaDoorM10
namespace Go.Proofs.YtfidfbgplfjakaaDoor
open Go.RowKit

/-- What a page's cell is. -/
theorem cellC_facts {v : List UInt8} {at_ : List Int} (h : putOkC v at_ = true) {i : Nat} (hi : i < at_.length) : ∃ n C, nextC at_ i = ((n : Nat) : Int) ∧ n < 65536 ∧ cellC v at_ i = C ∧ 3 ≤ C.length ∧ C.length ≤ 121 ∧ (i + 1 < at_.length → C.length = 121) ∧
    256 * ((C[0]?.getD 0).toNat : Int) + ((C[1]?.getD 0).toNat : Int) = (n : Int) ∧ v.take (119 * i) ++ C.drop 2 = v.take (119 * (i + 1)) := by
  obtain ⟨h1, h2, h3⟩ := putC_parts h
  have hf := needC_fit h1
  obtain ⟨n, hn⟩ := Int.eq_ofNat_of_zero_le (nextC_lt h3 i).1
  have hn2 := (nextC_lt h3 i).2
  have hpl := partC_length (v := v) (i := i)
  have hcl := cellC_length v at_ i
  refine ⟨n, _, hn, by omega, rfl, by omega, by omega, by omega, ?_, ?_⟩
  · rw [cellC, wordC, hn, Int.toNat_natCast]
    have e : beBytes n 2 = [UInt8.ofNat (n / 256), UInt8.ofNat n] := by simp [beBytes]
    rw [e]
    show 256 * ((UInt8.ofNat (n / 256)).toNat : Int) + ((UInt8.ofNat n).toNat : Int) = n
    rw [UInt8.toNat_ofNat', UInt8.toNat_ofNat']
    omega
  · have hw := wordC_length (nextC at_ i)
    rw [cellC, List.drop_append_of_le_length (by omega), List.drop_of_length_le (by omega), List.nil_append, take_part]

set_option maxRecDepth 100000 in
set_option maxHeartbeats 4000000 in
theorem lParts (v : List UInt8) (a2 : Option Addr) (m cap2 : Nat) (at_ : List Int) (w : World) (hv : v.length ≤ 9223372036854775807) (h2 : Row .i64 w a2 m cap2 at_) (i2 : ∀ n ∈ at_, I64 n) (hh : Half w) :
    Calls Tryd.prog 6 #[.string (strOf v), .slice a2 m cap2] w fun e w' => e = .returned (.bool true) ∧ Below w.heap.size w w' := by
  have A := awake_any w hh
  obtain ⟨e2, hc2, hm2⟩ := h2.lensC
  have hsz := strOf_size v
  by_cases hbig : ¬ (v.length ≤ 600 ∧ m ≤ 20)
  · have hd := big_cases hbig
    clear h2 e2 hbig
    rcases hd with ⟨d1, d1'⟩ | ⟨d1, d1', d2, d2'⟩
    all_goals
      go_enter Tryd.func6, Tryd.ntmps6
      go_wp2_with fail
      refine A.mono ?_
      rintro e w2 ⟨rfl, hb2⟩
      go_wp2_with fail
      go_ret
      exact ⟨rfl, hb2⟩
  obtain ⟨hv6, hm⟩ := Decidable.not_not.1 hbig
  clear hbig
  have d1 : decide ((600 : Int) < v.length) = false := by simp; omega
  have d1' : decide (600 < v.length) = false := by simp; omega
  have d2 : decide ((20 : Int) < m) = false := by simp; omega
  have d2' : decide (20 < m) = false := by simp; omega
  have H2 := Lib.hid h2
  have E2 := Lib.hid e2
  clear h2 e2
  go_enter Tryd.func6, Tryd.ntmps6
  go_wp2_with fail
  refine A.mono ?_
  rintro e w2 ⟨rfl, hb2⟩
  have P := cput_any (H2.out.below (Nat.le_refl _) hb2) i2 v (by omega) (hh.below (Nat.le_refl _) hb2)
  clear A
  go_wp2_with fail
  refine P.mono ?_
  rintro e w3 ⟨v3, rfl, ho3, hb3⟩
  have hw3 := below_then hb2 hb3
  have hb2s := hb2.size
  clear P hb2 hb3
  cases hok : putOkC v at_
  · rw [putLC, hok] at ho3
    rw [putEC, hok]
    have HOK := Lib.hid hok
    obtain ⟨a3, c3, rfl, hb⟩ := ho3.bss
    simp only [Bool.false_eq_true, if_false, List.length_nil]
    clear ho3 hb hok
    go_wp2_with fail
    go_ret
    exact ⟨rfl, hw3⟩
  rw [putEC, hok, if_pos rfl]
  have hpl := putLC_len hok
  rw [E2.out] at hpl
  obtain ⟨vs, hvs, hvs3⟩ := ho3
  obtain ⟨a3, c3, rfl, hc3, hcm3, _⟩ := own_slice hvs
  have HO3 := Lib.hid (show OwnBss w3 w2.heap.size (.slice a3 (putLC v at_).length c3) (putLC v at_) from ⟨vs, hvs, hvs3⟩)
  rw [hpl] at hc3 ⊢
  unfold maxLen at hcm3
  have HPL := Lib.hid hpl
  have HOK := Lib.hid hok
  have hm4 := needC_le (v.length : Int)
  have hmp := (putC_parts hok).2.1
  have hn0 := (putC_parts hok).1
  rw [E2.out] at hmp
  have HMP := Lib.hid hmp
  have hm0 : 0 < m := by omega
  have hm1 : m ≤ 4 := by omega
  clear hpl hok hvs hvs3 hm4 hmp hn0
  go_wp2_with fail
  go_loopw [8, 9] (fun s8 s9 wr => ∃ i : Nat, i ≤ m ∧ s9 = .int .i64 i ∧ s8 = .string (strOf (v.take (119 * i))) ∧ Below w3.heap.size w3 wr) (fun _ s _ => m - (intOf s).toNat)
  case atStart => exact ⟨0, Nat.zero_le _, rfl, rfl, Below.refl _ _⟩
  case round =>
    obtain ⟨i, hi, rfl, rfl, hb⟩ := hrel
    by_cases hlt : i < m
    · obtain ⟨g, k, a7, c7, e7, _, _, hg, hge, hcell, hbs, hgx⟩ := HO3.out.get (putLC_get HOK.out (i := i) (by rw [E2.out]; exact hlt))
      cases e7
      rw [pageC_len] at hcell hbs
      have c1 := (hb.cell (p := ⟨g, i, none⟩) hg).trans hcell
      have hbs1 := hbs.below (Nat.le_refl _) hb
      have hcv := conv_string (P := Tryd.prog) Tryd.underlying31 Tryd.underlying5 Tryd.underlying9 hbs1
      obtain ⟨u1, u2, u3⟩ := page_back 3 [cellC v at_ i] (pageC_fits v at_ i)
      have hpg : pageOf 3 [cellC v at_ i] = pageC v at_ i := rfl
      rw [hpg] at u1 u2 u3
      have hun := runpack_any (pageC v at_ i) wr (by rw [pageC_len]; omega)
      rw [u1, u2, u3] at hun
      obtain ⟨n, C, q1, q2, q3, q4, q5, q6, q7, q8⟩ := cellC_facts HOK.out (i := i) (by rw [E2.out]; exact hlt)
      rw [q3] at hun
      rw [E2.out] at q6
      have hC := hbs.cap
      unfold maxLen at hC
      have HNX := Lib.hid q1
      clear hcell hbs hbs1 hgx u1 u2 u3 hpg q1 q3
      go_wp2_with fail
      refine hun.mono ?_
      rintro e w4 ⟨v4, rfl, ho4, hb4⟩
      obtain ⟨a4, c4, rfl, hss⟩ := Strs.of_own ho4
      have hw4 := below_then hb hb4
      obtain ⟨bb, off, rfl, hbb, hc0⟩ := hss.at (k := 0) (by simp)
      have hls := hss.2.1
      have hls2 := hss.2.2.1
      unfold maxLen at hls2
      rw [Nat.add_zero] at hc0
      have hc0 : w4.cell? ⟨bb, off, none⟩ = some (.string (strOf C)) := hc0
      rw [show ([C] : List (List UInt8)).length = 1 from rfl] at hls ⊢
      have hsC := strOf_size C
      have g0 := strOf_get C 0 (by omega)
      have g1 := strOf_get C 1 (by omega)
      obtain ⟨L, hL⟩ : ∃ L, C.length = L := ⟨_, rfl⟩
      rw [hL] at hsC q4 q5 q6
      have hdr : (strOf C).extract 2 L = strOf (C.drop 2) := by
        rw [strOf_extract, List.take_of_length_le (by simp; omega)]
      have hap := strOf_append (v.take (119 * i)) (C.drop 2)
      rw [q8] at hap
      have hdl : (C.drop 2).length = L - 2 := by rw [List.length_drop]; omega
      have hbn : (strOf (v.take (119 * i))).size + (strOf (C.drop 2)).size ≤ 9223372036854775807 := by rw [strOf_size, strOf_size, hdl]; simp; omega
      have l0 := (C[0]?.getD 0).toNat_lt
      have l1 := (C[1]?.getD 0).toNat_lt
      generalize (C[0]?.getD 0) = y0 at *
      generalize (C[1]?.getD 0) = y1 at *
      have z3 : decide ((L : Int) < 3) = false := by simp; omega
      have z3' : decide (L < 3) = false := by simp; omega
      have HB4 := Lib.hid hw4
      clear hun ho4 hss hb4 hw4 hb hdl q8 c1 hcv
      generalize v.take (119 * i) = vi at *
      obtain ⟨vj, hvj⟩ : ∃ vj, v.take (119 * (i + 1)) = vj := ⟨_, rfl⟩
      rw [hvj] at hap
      have HVJ := Lib.hid hvj
      clear hvj
      generalize C.drop 2 = D at *
      by_cases hnx : i + 1 < m
      · have d5 : decide ((i : Int) + 1 < m) = true := by simp; omega
        have q9 := q6 hnx
        have z4 : ((L : Int) != 121) = false := by rw [bne_eq_false_iff_eq]; omega
        have z5 : ((L : Int) == 121) = true := by rw [beq_iff_eq]; omega
        obtain ⟨b2, o2, hadr, hb2, hcell2⟩ := H2.out.cellC hnx
        subst hadr
        have hnx1 : nextC at_ i = atC at_ (i + 1) := by rw [nextC, if_pos (by rw [E2.out]; exact hnx)]
        have c2 : w4.cell? ⟨b2, o2 + (i + 1), none⟩ = some (.int .i64 (n : Int)) := by
          rw [((below_then hw3 HB4.out).cell (p := ⟨b2, o2 + (i + 1), none⟩) hb2)]
          rw [hcell2 (i + 1) hnx, ← hnx1, HNX.out]
        have c2' : ∀ k, (w4.drewN k).cell? ⟨b2, o2 + (i + 1), none⟩ = some (.int .i64 (n : Int)) := fun k => c2
        have e1 : ((i : Int) + 1 == m) = false := by rw [beq_eq_false_iff_ne]; omega
        clear hcell2 hnx1 q6 q9
        go_wp2_with fail
        go_quiet (fail)
        have c3 := c2' nq
        have c4 : (w4.drewN nq).cell? ⟨bb, off, none⟩ = some (.string (strOf C)) := hc0
        have HB5 := Lib.hid (below_drewN HB4.out nq)
        clear c2 c2' hc0
        generalize w4.drewN nq = w5 at *
        have n1 : ((n : Int) != n) = false := by simp
        have n2 : ((n : Int) == n) = true := by simp
        go_wp2_with fail
        go_roundw
        case rel => exact ⟨i + 1, hlt, by go_num, by rw [HVJ.out], HB5.out⟩
        case measure => simp [intOf]; omega
      · have him : i + 1 = m := by omega
        have d5 : decide ((i : Int) + 1 < m) = false := by simp; omega
        have e1 : ((i : Int) + 1 == m) = true := by rw [beq_iff_eq]; omega
        have hnx1 : nextC at_ i = 0 := by rw [nextC, if_neg (by rw [E2.out]; exact hnx)]
        have hn0 : n = 0 := by have := HNX.out; omega
        subst hn0
        clear hnx1 q6
        go_wp2_with fail
        go_quiet (fail)
        have c4 : (w4.drewN nq).cell? ⟨bb, off, none⟩ = some (.string (strOf C)) := hc0
        have HB5 := Lib.hid (below_drewN HB4.out nq)
        clear hc0
        generalize w4.drewN nq = w5 at *
        try rw [q7]
        go_wp2_with fail
        go_roundw
        case rel => exact ⟨i + 1, hlt, by go_num, by rw [HVJ.out], HB5.out⟩
        case measure => simp [intOf]; omega
    · obtain rfl : i = m := by omega
      have N1 := cneed_any (v.length : Int) wr
      rw [← HMP.out] at N1
      have hall : v.take (119 * i) = v := List.take_of_length_le (by
        have h1 := (putC_parts HOK.out).1
        have h2 := needC_fit h1
        have := HMP.out
        omega)
      rw [hall]
      have hwr := below_then hw3 hb
      clear hb hall HO3
      go_wp2_with fail
      refine N1.mono ?_
      rintro e w7 ⟨rfl, rfl⟩
      go_wp2_with fail
      go_ret
      exact ⟨rfl, hwr⟩
end Go.Proofs.YtfidfbgplfjakaaDoor
