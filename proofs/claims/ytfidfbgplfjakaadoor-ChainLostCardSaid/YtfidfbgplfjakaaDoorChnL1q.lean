/- The law ChainPuts. -/
import Derived.Test.YtfidfbgplfjakaaDoorM9
namespace Go.Proofs.YtfidfbgplfjakaaDoor
open Go.RowKit

/-- What is too great is passed by. -/
theorem big_cases {L n : Nat} (h : ¬ (L ≤ 600 ∧ n ≤ 20)) : (decide ((600 : Int) < L) = true ∧ decide (600 < L) = true) ∨ (decide ((600 : Int) < L) = false ∧ decide (600 < L) = false ∧ decide ((20 : Int) < n) = true ∧ decide (20 < n) = true) := by
  by_cases h1 : 600 < L
  · left; exact ⟨by simp; omega, by simp; omega⟩
  · right; exact ⟨by simp; omega, by simp; omega, by simp; omega, by simp; omega⟩
theorem i64_wf {l : List Int} (h : ∀ n ∈ l, (Lit.int .i64 n).wf = true) : ∀ n ∈ l, I64 n := fun n hn => by
  have := h n hn
  simp [Lit.wf, IntKind.min, IntKind.max, IntKind.signed, IntKind.bits] at this
  unfold I64; omega

set_option maxRecDepth 100000 in
set_option maxHeartbeats 2000000 in
theorem lPuts (v : List UInt8) (a2 : Option Addr) (m cap2 : Nat) (at_ : List Int) (size : Int) (w : World) (hv : v.length ≤ 9223372036854775807) (h2 : Row .i64 w a2 m cap2 at_) (i2 : ∀ n ∈ at_, I64 n) (hh : Half w) :
    Calls Tryd.prog 3 #[.string (strOf v), .slice a2 m cap2, .int .i64 size] w fun e w' => e = .returned (.bool true) ∧ Below w.heap.size w w' := by
  have A := awake_any w hh
  obtain ⟨k0, hk0, hx0, hx1, hx2⟩ := info_parts info_strC
  obtain ⟨e2, hc2, hm2⟩ := h2.lensC
  have hsz := strOf_size v
  by_cases hbig : v.length ≤ 600 ∧ m ≤ 20
  · obtain ⟨hv6, hm⟩ := hbig
    have d1 : decide ((600 : Int) < v.length) = false := by simp; omega
    have d1' : decide (600 < v.length) = false := by simp; omega
    have d2 : decide ((20 : Int) < m) = false := by simp; omega
    have d2' : decide (20 < m) = false := by simp; omega
    have H2 := Lib.hid h2
    have hpm : (putLC v at_).length ≤ 20 := by unfold putLC; split <;> simp <;> omega
    clear h2 e2
    go_enter Tryd.func3, Tryd.ntmps3
    go_wp2_with fail
    refine A.mono ?_
    rintro e w2 ⟨rfl, hb2⟩
    have P := cput_any (H2.out.below (Nat.le_refl _) hb2) i2 v (by omega) (hh.below (Nat.le_refl _) hb2)
    clear A
    go_wp2_with fail
    refine P.mono ?_
    rintro e w3 ⟨v3, rfl, ho3, hb3⟩
    have hw3 := below_then hb2 hb3
    obtain ⟨a3, c3, rfl, hbss⟩ := ho3.bss
    have R := crput_any (H2.out.below (Nat.le_refl _) hw3) v (by omega) (by omega)
    clear P hb2 hb3 ho3
    go_wp2_with fail
    refine R.mono ?_
    rintro e w4 ⟨v4, rfl, ho4, hb4⟩
    have hw4 := below_then hw3 hb4
    have hbss4 := hbss.below (Nat.le_refl _) hb4
    obtain ⟨a4, c4, rfl, hst4⟩ := Strs.of_own ho4
    obtain ⟨E, hE⟩ : ∃ E, putEC v at_ = E := ⟨_, rfl⟩
    obtain ⟨L, hL⟩ : ∃ L, putLC v at_ = L := ⟨_, rfl⟩
    rw [hE]
    rw [hL] at hbss4 hst4 hpm ⊢
    obtain ⟨q, hq⟩ : ∃ q, L.length = q := ⟨_, rfl⟩
    rw [hq] at hbss4 hst4 hpm ⊢
    have hcc := hbss4.2.1
    have hcm := hbss4.2.2.1
    unfold maxLen at hcm
    have HQ := Lib.hid hq
    have HB4 := Lib.hid hbss4
    have HW4 := Lib.hid hw4
    clear R hbss hw3 hb4 ho4 hE hL hq hbss4 hw4
    go_wp2_with fail
    go_loopw [12, 13] (fun v i wr => ∃ k : Nat, k ≤ q ∧ i = .int .i64 k ∧ wr.ownsRow w4.heap.size 9 1 v k ((L.take k).map sv) ∧ Below w4.heap.size w4 wr) (fun _ i _ => q - (intOf i).toNat)
    case atStart => exact ⟨0, Nat.zero_le _, rfl, World.ownsRow_nil _ _ _ _, Below.refl _ _⟩
    case round =>
      obtain ⟨k, hk, rfl, hown, hb⟩ := hrel
      by_cases hlt : k < q
      · obtain ⟨b, off, a', n', cap', rfl, hbb, hcell, hbs⟩ := (HB4.out.below (Nat.le_refl _) hb).at hlt
        have hst := Lib.hid (show L.take (k + 1) = L.take k ++ [L[k]?.getD []] by rw [List.take_succ_eq_append_getElem (by rw [HQ.out]; exact hlt), List.getElem?_eq_getElem (by rw [HQ.out]; exact hlt)]; rfl)
        generalize L[k]?.getD [] = c at *
        have hcv := conv_string Tryd.underlying31 Tryd.underlying5 Tryd.underlying9 hbs
        have hsz := hb.size
        obtain ⟨v10, w10, hr10, ho10, hg10, _⟩ := run_append_new (P := Tryd.prog) (w := wr) w4.heap.size 28 9 k0 _ 1 16 Tryd.underlying28 hk0 hx0 hx1 hx2 rfl (by decide) hown #[.string (strOf c)] rfl (by intro u hu; simp at hu; subst hu; rfl) (by unfold maxLen; omega) (by omega) hsz
        have HB10 := Lib.hid (hb.grown hg10 hsz (own_ge hown))
        have HO10 : Hid (w10.ownsRow w4.heap.size 9 1 v10 (k + 1) ((L.take (k + 1)).map sv)) := Lib.hid (by rw [hst.out, List.map_append]; exact ho10)
        clear ho10 hg10 hown hb hbs
        go_wp2_with (at_builtin; refine wpList_append_run rfl _ _ _ _ rfl rfl rfl hr10 ?_)
        go_roundw
        case rel => exact ⟨k + 1, hlt, by go_num, HO10.out, HB10.out⟩
        case measure => simp [intOf]; omega
      · obtain rfl : k = q := by omega
        rw [List.take_of_length_le (by rw [HQ.out]; exact Nat.le_refl _)] at hown
        obtain ⟨a5, c5, rfl, hst5⟩ := Strs.of_own (l := L) (n := k) hown
        have S := same_any a5 a4 k c5 k c4 L L wr hst5 (hst4.below (Nat.le_refl _) hb)
        rw [show (L == L) = true by simp] at S
        have HW := Lib.hid (below_then HW4.out hb)
        have N1 := cneed_any size wr
        have N2 := crneed_any size wr
        have eE : (E == E) = true := by simp
        clear hown hb hst5 hst4 HB4
        go_wp2_with fail
        refine N1.mono ?_
        rintro e w6 ⟨rfl, rfl⟩
        go_wp2_with fail
        refine N2.mono ?_
        rintro e w6 ⟨rfl, rfl⟩
        have eN : ((needC size : Int) == (needC size : Int)) = true := by simp
        generalize needC size = z at *
        clear N1 N2
        go_wp2_with fail
        refine S.mono ?_
        rintro e w6 ⟨j, rfl, rfl⟩
        have HW2 := Lib.hid (below_drewN HW.out j)
        clear S
        go_wp2_with fail
        go_ret
        exact ⟨rfl, HW2.out⟩
  · have hd := big_cases hbig
    clear h2 e2 hbig
    rcases hd with ⟨d1, d1'⟩ | ⟨d1, d1', d2, d2'⟩
    all_goals
      go_enter Tryd.func3, Tryd.ntmps3
      go_wp2_with fail
      refine A.mono ?_
      rintro e w2 ⟨rfl, hb2⟩
      go_wp2_with fail
      go_ret
      exact ⟨rfl, hb2⟩
end Go.Proofs.YtfidfbgplfjakaaDoor
