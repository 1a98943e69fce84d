/- The law DiskSyncs: plain. -/
import Derived.Test.YtopnfpobbemfbaaDskG
namespace Go.Proofs.Ytopnfpobbemfbaa
open Go.RowKit

/-- Two regions that go, with so many loose writes at most. -/
def SyGood (k : Nat) (d : List Rg) : Prop := ∃ x0 x1 : Rg, d = [x0, x1] ∧ x0.size = 4 ∧ x1.size = 4 ∧ x0.left = -1 ∧ x1.left = -1 ∧ x0.down = false ∧ x1.down = false ∧ x0.loose.length + x1.loose.length ≤ k
theorem syGood_new : SyGood 0 (newD [4, 4]) := ⟨Rg.new 4, Rg.new 4, rfl, rfl, rfl, rfl, rfl, rfl, rfl, Nat.le_refl _⟩
theorem SyGood.mono {k m : Nat} {d : List Rg} (h : SyGood k d) (hk : k ≤ m) : SyGood m d := by
  obtain ⟨x0, x1, h1, h2, h3, h4, h5, h6, h7, h8⟩ := h
  exact ⟨x0, x1, h1, h2, h3, h4, h5, h6, h7, by omega⟩
theorem SyGood.write {k : Nat} {d : List Rg} (h : SyGood k d) (r p : Int) (b : List UInt8) : SyGood (k + 1) (writeD d r p b) := by
  unfold writeD
  split
  · rename_i hu
    obtain ⟨i, pn, x, rfl, rfl, hx, _, _⟩ := pagedE_zero hu.1
    obtain ⟨x0, x1, rfl, h2, h3, h4, h5, h6, h7, h8⟩ := h
    have hi := (List.getElem?_eq_some_iff.1 hx).1
    simp at hi
    rw [atR_of hx, Int.toNat_natCast, Int.toNat_natCast]
    rcases (show i = 0 ∨ i = 1 by omega) with rfl | rfl
    · simp at hx; subst hx
      refine ⟨_, x1, rfl, ?_, h3, ?_, h5, ?_, h7, ?_⟩
      · simp [wroteR, cntE, cntR, h4, h2]
      · simp [wroteR, cntE, cntR, h4]
      · simp [wroteR, cntE, cntR, h4, h6]
      · simp [wroteR, cntE, cntR, h4]; omega
    · simp at hx; subst hx
      refine ⟨x0, _, rfl, h2, ?_, h4, ?_, h6, ?_, ?_⟩
      · simp [wroteR, cntE, cntR, h5, h3]
      · simp [wroteR, cntE, cntR, h5]
      · simp [wroteR, cntE, cntR, h5, h7]
      · simp [wroteR, cntE, cntR, h5]; omega
  · exact h.mono (by omega)
theorem laid_eq (keep keep' : Nat → Bool) : ∀ (l : List (Nat × P128)) (i : Nat) (f : Nat → P128), (∀ j, i ≤ j → j < i + l.length → keep j = keep' j) → laid keep i l f = laid keep' i l f
  | [], _, _, _ => rfl
  | w :: l, i, f, h => by
    simp only [laid]
    rw [h i (Nat.le_refl _) (by simp), laid_eq keep keep' l (i + 1) _ (fun j h1 h2 => h j (by omega) (by simp; omega))]
def ff6 : List UInt8 := [255, 255, 255, 255, 255, 255]
theorem ff6_bits : ∀ q : Fin 48, bitB ff6 q.val = true := by decide
def syEnd (d : List Rg) : List Rg := d.map fun x => settled x (fun _ => true)
theorem syGood_sync {k : Nat} {d : List Rg} (h : SyGood k d) : syncD (syncD d 0) 1 = syEnd d := by
  obtain ⟨x0, x1, rfl, h2, h3, h4, h5, h6, h7, h8⟩ := h
  have e0 : syncD [x0, x1] 0 = [settled x0 (fun _ => true), x1] := by
    unfold syncD
    rw [if_pos (by simp [upE, h6])]
    simp [atR, syncR, cntE, cntR, h4]
  rw [e0]
  unfold syncD
  rw [if_pos (by simp [upE, h7])]
  simp [atR, syncR, cntE, cntR, h5, syEnd]
theorem syGood_crash {k : Nat} {d : List Rg} (h : SyGood k d) (hk : k ≤ 40) : crashD d [ff6, ff6] = syEnd d := by
  obtain ⟨x0, x1, rfl, h2, h3, h4, h5, h6, h7, h8⟩ := h
  have e : ∀ r, r < 2 → ∀ x : Rg, x.left = -1 → x.down = false → x.loose.length ≤ 40 → crashR x (keepB [ff6, ff6] r) = settled x (fun _ => true) := by
    intro r hr x hl hd hn
    have hkb : ∀ j, j < 48 → keepB [ff6, ff6] r j = true := by
      intro j hj
      have : keepB [ff6, ff6] r j = bitB ff6 j := by
        unfold keepB
        rcases (show r = 0 ∨ r = 1 by omega) with rfl | rfl <;> rfl
      rw [this]; exact ff6_bits ⟨j, hj⟩
    simp only [crashR, settled]
    rw [laid_eq _ (fun _ => true) x.loose 0 x.pages (fun j _ h2 => hkb j (by omega)), ← hl, ← hd]
  unfold crashD syEnd
  simp only [List.mapIdx_cons, List.mapIdx_nil, List.map_cons, List.map_nil]
  rw [e 0 (by omega) x0 h4 h6 (by omega), e (0 + 1) (by omega) x1 h5 h7 (by omega)]
theorem syEnd_page {k : Nat} {d : List Rg} (h : SyGood k d) (r p : Nat) (hr : r < 2) (hp : p < 4) : pagedE (syEnd d) r p = 0 := by
  obtain ⟨x0, x1, rfl, h2, h3, h4, h5, h6, h7, h8⟩ := h
  rcases (show r = 0 ∨ r = 1 by omega) with rfl | rfl
  · simp [pagedE, upE, atR, syEnd, settled, h6, h2]; omega
  · simp [pagedE, upE, atR, syEnd, settled, h7, h3]; omega
theorem syEnd_loose {k : Nat} {d : List Rg} (h : SyGood k d) (r : Nat) (hr : r < 2) : ∃ x, (syEnd d)[r]? = some x ∧ (x.loose.map (·.1)).length = 0 := by
  obtain ⟨x0, x1, rfl, h2, h3, h4, h5, h6, h7, h8⟩ := h
  rcases (show r = 0 ∨ r = 1 by omega) with rfl | rfl
  · exact ⟨_, rfl, rfl⟩
  · exact ⟨_, rfl, rfl⟩
end Go.Proofs.Ytopnfpobbemfbaa
