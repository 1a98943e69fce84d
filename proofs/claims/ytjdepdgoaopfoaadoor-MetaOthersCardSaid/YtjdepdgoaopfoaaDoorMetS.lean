/- The walks of the chapter on metas: a page's meta, in one; the document's, plain laws. -/
import Derived.Test.YtjdepdgoaopfoaaDoorMetH
namespace Go.Proofs.YtjdepdgoaopfoaaDoor
open Go.RowKit

theorem unp_page (b : List UInt8) (h : unpE b = 0) : b.length = 128 ∧ b = pageOf (unpK b) (unpL b) ∧ fits (unpK b) (unpL b) = true := by
  have h0 := h
  unfold unpE at h
  split at h
  · simp at h
  · rename_i h1
    split at h
    · simp at h
    · split at h
      · rename_i h3
        simp only [unpB, Bool.and_eq_true, beq_iff_eq] at h3
        have hk : unpK b = kindS b := by rw [unpK, if_pos h0]
        have hl : unpL b = cutS b (min (numS b) 122) := by rw [unpL, if_pos h0]
        rw [hk, hl]
        exact ⟨by omega, h3.2.2.symm, h3.2.1⟩
      · simp at h
theorem unpL_cell (b : List UInt8) (h : unpE b = 0) (c : List UInt8) (hc : c ∈ unpL b) : c.length ≤ 128 := by
  have hl := (unp_page b h).1
  rw [unpL, if_pos h, cutS, List.mem_map] at hc
  obtain ⟨i, _, rfl⟩ := hc
  rw [cellS, List.length_take, List.length_drop]
  omega
theorem pageOf_inj {k k' : UInt8} {l l' : List (List UInt8)} (h : fits k l = true) (h' : fits k' l' = true) (e : pageOf k l = pageOf k' l') : k = k' ∧ l = l' := by
  have a := page_back k l h
  have b := page_back k' l' h'
  rw [e] at a
  exact ⟨by rw [← a.2.1, b.2.1], by rw [← a.2.2, b.2.2]⟩

theorem mget_any (a : Option Addr) (n cap : Nat) (b : List UInt8) (w : World) (h : Bs w a n cap b) (hh : Half w) :
    Calls Tryd.prog 21 #[.slice a n cap] w (GetPost w (getM b) (getE b)) := by
  by_cases hE : unpE b = 0
  · by_cases hk : unpK b = 5 ∧ (unpL b).length = 1
    · obtain ⟨hk, hl⟩ := hk
      obtain ⟨c, hc⟩ : ∃ c, unpL b = [c] := by
        match hx : unpL b, hl with
        | [c], _ => exact ⟨c, rfl⟩
      refine (mget_form a n cap b w h hh hE hk c hc (unpL_cell b hE c (by rw [hc]; simp))).mono ?_
      intro e w' hp
      unfold GetForm at hp
      have hcm : cellM b = c := by rw [cellM, hc]; rfl
      have hgb : getB b = (decide (c.length = 19) && (c.take 4 == markB && metaOk (decM (c.drop 4)))) := by
        rw [getB, hk, hc, hcm]; rfl
      by_cases hB : getB b = true
      · have hB' := hB
        rw [hgb] at hB'
        rw [if_pos hB'] at hp
        have hE2 : getE b = 0 := by rw [getE, if_neg (by rw [hE]; simp), if_pos hB]
        rw [getM, hE2, hcm]; exact hp
      · have hB' := hB
        rw [hgb] at hB'
        rw [if_neg hB'] at hp
        have hE2 : getE b = 11 := by rw [getE, if_neg (by rw [hE]; simp), if_neg hB]
        rw [getM, hE2]; exact hp
    · refine (mget_kind a n cap b w h hh hE hk).mono ?_
      intro e w' hp
      have hB : getB b = false := by
        rw [getB]
        by_cases h5 : unpK b = 5
        · have hl : ¬ (unpL b).length = 1 := fun e => hk ⟨h5, e⟩
          simp [hl]
        · simp [h5]
      have hE2 : getE b = 11 := by rw [getE, if_neg (by rw [hE]; simp), hB]; rfl
      rw [getM, hE2]; exact hp
  · refine (mget_err a n cap b w h hh hE).mono ?_
    intro e w' hp
    have hE2 : getE b = unpE b := by rw [getE, if_pos hE]
    rw [getM, hE2, if_neg hE]; exact hp

/-- What the document's way gives. -/
theorem getB_page (b c : List UInt8) (hE : unpE b = 0) (hc : unpL b = [c]) (hl : c.length = 19) (hok : metaOk (decM (c.drop 4)) = true) : (pageOf 5 [metaB (decM (c.drop 4))] == b) = getB b := by
  obtain ⟨_, hb, hf⟩ := unp_page b hE
  have hcm : cellM b = c := by rw [cellM, hc]; rfl
  have hr : (c.drop 4).length = 15 := by simp [hl]
  have hmb : metaB (decM (c.drop 4)) = markB ++ c.drop 4 := by rw [metaB, encM_decM _ hr]
  have hgb : getB b = (unpK b == 5 && c.take 4 == markB) := by rw [getB, hc, hcm, hl, hok]; simp
  rw [hgb]
  by_cases h5 : unpK b = 5 ∧ c.take 4 = markB
  · have : pageOf 5 [metaB (decM (c.drop 4))] = b := by
      conv => rhs; rw [hb]
      rw [h5.1, hc, hmb, ← h5.2, List.take_append_drop]
    rw [this, h5.1, h5.2]; simp
  · have : pageOf 5 [metaB (decM (c.drop 4))] ≠ b := by
      intro e
      rw [hb] at e
      obtain ⟨e1, e2⟩ := pageOf_inj (fits_meta _) hf e
      apply h5
      refine ⟨e1.symm, ?_⟩
      rw [hc, hmb] at e2
      have e3 : markB ++ c.drop 4 = c := by simpa using e2
      rw [← e3]
      exact take_app _ _ 4 rfl
    rw [beq_eq_false_iff_ne.2 this]
    symm
    rw [Bool.and_eq_false_iff]
    by_cases h6 : unpK b = 5
    · right; exact beq_eq_false_iff_ne.2 fun e => h5 ⟨h6, e⟩
    · left; exact beq_eq_false_iff_ne.2 h6
end Go.Proofs.YtjdepdgoaopfoaaDoor
