/- The walks of the chapter on pages of cells: the law on kinds. -/
import Derived.Test.YtoaiiiblakgopaaDoorCelA
namespace Go.Proofs.YtoaiiiblakgopaaDoor
open Go.RowKit

theorem packE_kind (a b : UInt8) (l : List (List UInt8)) (ha : a ≠ 0) (hb : b ≠ 0) : packE a l = packE b l := by
  simp [packE, fits, ha, hb]
theorem fits_of (kind : UInt8) (l : List (List UInt8)) (h : packE kind l = 0) : fits kind l = true := by
  unfold packE at h; split at h
  · assumption
  · simp at h
theorem page_kinds (a b : UInt8) (l : List (List UInt8)) (ha : fits a l = true) (hb : fits b l = true) : (pageOf a l == pageOf b l) = (a == b) := by
  by_cases h : a = b
  · subst h; simp
  · have : pageOf a l ≠ pageOf b l := fun e => h (by rw [← (page_back a l ha).2.1, e, (page_back b l hb).2.1])
    rw [beq_eq_false_iff_ne.2 this, beq_eq_false_iff_ne.2 h]
theorem u8_ne {a : UInt8} (h : a ≠ 0) : ((a.toNat : Int) == 0) = false := by
  have : a.toNat ≠ 0 := fun e => h (UInt8.toNat_inj.1 e)
  simpa using this
theorem u8_eq (a b : UInt8) : ((a.toNat : Int) == (b.toNat : Int)) = (a == b) := by
  by_cases h : a = b
  · subst h; simp
  · have : a.toNat ≠ b.toNat := fun e => h (UInt8.toNat_inj.1 e)
    rw [beq_eq_false_iff_ne.2 h, beq_eq_false_iff_ne.2 (show (a.toNat : Int) ≠ (b.toNat : Int) by omega)]

set_option maxRecDepth 100000 in
set_option maxHeartbeats 4000000 in
theorem lKinds (ka kb : UInt8) (a : Option Addr) (len cap : Nat) (l : List (List UInt8)) (w : World) (h : Bss w a len cap l) (hh : Half w) :
    Calls Tryd.prog 7 #[.int .u8 ka.toNat, .int .u8 kb.toNat, .slice a len cap] w fun e w' => e = .returned (.bool true) ∧ Below w.heap.size w w' := by
  have hll := h.1
  have haw := awake_any w hh
  have hsm : ∀ W, Below w.heap.size w W → Calls Tryd.prog 9 #[.slice a len cap] W fun e w' => e = .returned (.bool (smallF l)) ∧ W = w' := fun W hW => small_any a len cap l W (h.below (Nat.le_refl _) hW)
  by_cases hs : smallF l = true ∧ ka ≠ 0 ∧ kb ≠ 0
  · obtain ⟨hs, ha, hb⟩ := hs
    rw [hs] at hsm
    have hsz := smallF_true hs
    have hPk : ∀ k W, Below w.heap.size w W → Calls Tryd.prog 10 #[.int .u8 ((k : UInt8).toNat : Int), .slice a len cap] W (PackAny W (packV k l) (packE k l)) := fun k W hW => pack_any k a len cap l W (h.below (Nat.le_refl _) hW) (hh.below (Nat.le_refl _) hW) (by omega)
    have ha0 := u8_ne ha
    have hb0 := u8_ne hb
    have he := packE_kind kb ka l hb ha
    by_cases hf : fits ka l = true
    · have hfe : packE ka l = 0 := by rw [packE, if_pos hf]
      rw [hfe] at he
      have hfb := fits_of kb l he
      have hpa : packV ka l = pageOf ka l := by rw [packV, if_pos hf]
      have hpb : packV kb l = pageOf kb l := by rw [packV, if_pos hfb]
      have hP1 := hPk ka
      have hP2 := hPk kb
      rw [hfe, hpa] at hP1
      rw [he, hpb] at hP2
      obtain ⟨u1, u2, u3⟩ := page_back ka l hf
      have hU : ∀ W x n c, Below w.heap.size w W → Bs W x n c (pageOf ka l) → Calls Tryd.prog 15 #[.slice x n c] W (UnpPost W ka l 0) := fun W x n c hW h2 => by
        have := unpack_any x n c (pageOf ka l) W h2 (hh.below (Nat.le_refl _) hW)
        rwa [u1, u2, u3] at this
      have hq := page_kinds ka kb l hf hfb
      have hab := u8_eq ka kb
      have hst := strOf_toList
      generalize pageOf ka l = pa at *
      generalize pageOf kb l = pb at *
      rw [← hq] at hab
      have HL := Lib.hid hll
      clear hpa hpb hfe he hPk u1 u2 u3 hq hsz hll hs
      have hkk : ((ka.toNat : Int) == (ka.toNat : Int)) = true := by simp
      have hll2 : (((l.length : Nat) : Int) == ((len : Nat) : Int)) = true := by rw [HL.out]; simp
      go_enter Tryd.func7, Tryd.ntmps7
      go_wp2_with fail
      refine haw.mono ?_
      rintro e w1 ⟨rfl, hb⟩
      go_wp2_with fail
      refine (hsm w1 hb).mono ?_
      rintro e w2 ⟨rfl, rfl⟩
      go_wp2_with fail
      refine (hP1 w1 hb).mono ?_
      rintro e w2 ⟨v2, rfl, hown2, hb2⟩
      have hb := below_then hb hb2
      obtain ⟨a2, c2, rfl, hbs2⟩ := Bs.of_own hown2
      clear hown2 hb2
      go_wp2_with fail
      refine (hP2 w2 hb).mono ?_
      rintro e w3 ⟨v3, rfl, hown3, hb3⟩
      have hb := below_then hb hb3
      have hbs2 := hbs2.below (Nat.le_refl _) hb3
      obtain ⟨a3, c3, rfl, hbs3⟩ := Bs.of_own hown3
      clear hown3 hb3
      go_wp2_with fail
      refine (hU w3 a2 _ c2 hb hbs2).mono ?_
      rintro e w4 ⟨v4, rfl, ho4, hb4⟩
      have hb := below_then hb hb4
      have hbs2 := hbs2.below (Nat.le_refl _) hb4
      have hbs3 := hbs3.below (Nat.le_refl _) hb4
      obtain ⟨a4, c4, rfl, _⟩ := ho4.bss
      clear ho4 hb4
      have hcv1 := conv_string Tryd.underlying25 Tryd.underlying5 Tryd.underlying9 hbs2
      have hcv2 := conv_string Tryd.underlying25 Tryd.underlying5 Tryd.underlying9 hbs3
      cases hcase : (pa == pb)
      all_goals
        rw [hcase] at hab
        go_wp2_with fail
        go_ret
        exact ⟨rfl, hb⟩
    · have hfe : packE ka l = 1 := by rw [packE, if_neg hf]
      rw [hfe] at he
      have hP1 := hPk ka
      have hP2 := hPk kb
      rw [hfe] at hP1
      rw [he] at hP2
      clear hfe he hPk hsz hll hs hf
      generalize packV ka l = pa at *
      generalize packV kb l = pb at *
      go_enter Tryd.func7, Tryd.ntmps7
      go_wp2_with fail
      refine haw.mono ?_
      rintro e w1 ⟨rfl, hb⟩
      go_wp2_with fail
      refine (hsm w1 hb).mono ?_
      rintro e w2 ⟨rfl, rfl⟩
      go_wp2_with fail
      refine (hP1 w1 hb).mono ?_
      rintro e w2 ⟨v2, rfl, hown2, hb2⟩
      have hb := below_then hb hb2
      clear hown2 hb2
      go_wp2_with fail
      refine (hP2 w2 hb).mono ?_
      rintro e w3 ⟨v3, rfl, hown3, hb3⟩
      have hb := below_then hb hb3
      clear hown3 hb3
      go_wp2_with fail
      go_ret
      exact ⟨rfl, hb⟩
  · have hcase : smallF l = false ∨ smallF l = true ∧ ka = 0 ∨ smallF l = true ∧ ka ≠ 0 ∧ kb = 0 := by
      cases hx : smallF l
      · exact .inl rfl
      · by_cases hy : ka = 0
        · exact .inr (.inl ⟨rfl, hy⟩)
        · by_cases hz : kb = 0
          · exact .inr (.inr ⟨rfl, hy, hz⟩)
          · exact absurd ⟨hx, hy, hz⟩ hs
    clear hs hll
    rcases hcase with hx | ⟨hx, rfl⟩ | ⟨hx, hy, rfl⟩
    · rw [hx] at hsm
      clear hx
      go_enter Tryd.func7, Tryd.ntmps7
      go_wp2_with fail
      refine haw.mono ?_
      rintro e w1 ⟨rfl, hb⟩
      go_wp2_with fail
      refine (hsm w1 hb).mono ?_
      rintro e w2 ⟨rfl, rfl⟩
      go_wp2_with fail
      go_ret
      exact ⟨rfl, hb⟩
    · rw [hx] at hsm
      clear hx
      go_enter Tryd.func7, Tryd.ntmps7
      go_wp2_with fail
      refine haw.mono ?_
      rintro e w1 ⟨rfl, hb⟩
      go_wp2_with fail
      refine (hsm w1 hb).mono ?_
      rintro e w2 ⟨rfl, rfl⟩
      go_wp2_with fail
      go_ret
      exact ⟨rfl, hb⟩
    · rw [hx] at hsm
      have ha0 := u8_ne hy
      clear hx hy
      go_enter Tryd.func7, Tryd.ntmps7
      go_wp2_with fail
      refine haw.mono ?_
      rintro e w1 ⟨rfl, hb⟩
      go_wp2_with fail
      refine (hsm w1 hb).mono ?_
      rintro e w2 ⟨rfl, rfl⟩
      go_wp2_with fail
      go_ret
      exact ⟨rfl, hb⟩
end Go.Proofs.YtoaiiiblakgopaaDoor
