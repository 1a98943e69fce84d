/- What the top of a fine tree is: plain. -/
import Derived.Test.YtemfnjlfcemehaaTreSnq
namespace Go.Proofs.Ytemfnjlfcemehaa

theorem Pos.up : ∀ {n : Nat} {t : Tr}, Pos n t → Pos (n + 1) t
  | 0, _, h => h.elim
  | _ + 1, .leaf _ _, _ => trivial
  | _ + 1, .node _ _, h => ⟨h.1, fun c hc => Pos.up (h.2 c hc)⟩
theorem Fit.up {B : Nat} : ∀ {n : Nat} {t : Tr}, Pos n t → Fit B n t → Fit B (n + 1) t
  | 0, _, h, _ => h.elim
  | _ + 1, .leaf _ _, _, g => g
  | _ + 1, .node _ _, h, g => ⟨g.1, fun c hc => ⟨(g.2 c hc).1, Fit.up (h.2 c hc) (g.2 c hc).2⟩⟩
theorem wrap_fine {B n : Nat} (hB : 2 * B ≤ 1000) (h1 : 0 < B) {t : Tr} (h : Fit B (n + 1) t) (hp : Pos (n + 1) t) : Fit (2 * B) (n + 2) (mendT 0 [([], t)] 0) ∧ Pos (n + 2) (mendT 0 [([], t)] 0) :=
  mend_fine hB (by simp) (by simp; omega) fun c hc => by
    rw [List.mem_singleton] at hc
    subst hc
    exact ⟨by simp, h, hp⟩
theorem top_fine {B : Nat} (hB : 2 * B ≤ 1000) (h1 : 0 < B) : ∀ {n : Nat} {t : Tr}, Fit B n t → Pos n t → Fit (2 * B) (n + 1) (topT n t) ∧ Pos (n + 1) (topT n t)
  | 0, _, _, h => h.elim
  | n + 1, .leaf p l, h, hp => by
    show Fit _ _ (if atF (sizesT (.leaf p l)) = 0 then _ else _) ∧ Pos _ (if atF (sizesT (.leaf p l)) = 0 then _ else _)
    split
    · exact ⟨(Fit.up hp h).more (by omega), hp.up⟩
    · exact wrap_fine hB h1 h hp
  | n + 1, .node p l, h, hp => by
    by_cases hl : l.length = 1
    · rw [topT_kid hl]
      obtain ⟨c, rfl⟩ := List.length_eq_one_iff.1 hl
      have hk : kidAt [c] 0 = c.2 := by simp [kidAt]
      rw [hk]
      obtain ⟨g1, g2⟩ := top_fine hB h1 (h.2 c (by simp)).2 (hp.2 c (by simp))
      exact ⟨Fit.up g2 g1, g2.up⟩
    · show Fit _ _ (if l.length = 1 then _ else if atF (sizesT (.node p l)) = 0 then _ else _) ∧ Pos _ (if l.length = 1 then _ else if atF (sizesT (.node p l)) = 0 then _ else _)
      rw [if_neg hl]
      split
      · exact ⟨(Fit.up hp h).more (by omega), hp.up⟩
      · exact wrap_fine hB h1 h hp
/-- The top of a whole tree. -/
theorem whole_top {n : Nat} {t : Tr} (h : Whole n t) : TopOk n t ∧ Bnd (n + 1) (topT n t) :=
  ⟨topOk_pos h.bnd (shape_pos h.1.1), Fit.bnd (B := 202) (by omega) (top_fine (B := 101) (by omega) (by omega) h.sml.fit (shape_pos h.1.1)).1⟩
/-- The top of a mended branch. -/
theorem mended_top2 {n : Nat} {kind : Int} (h : kind = 2 ∨ kind = 3) (a : Nat) {p : Int} {l : List (List UInt8 × Tr)} {k : Nat} (hk : k < l.length) (hw : Whole (n + 2) (.node p l)) : TopOk (n + 2) (mendT p (spoiledL n kind a l k) k) ∧ Bnd (n + 2) (mendT p (spoiledL n kind a l k) k) ∧ Bnd (n + 3) (topT (n + 2) (mendT p (spoiledL n kind a l k) k)) := by
  obtain ⟨g1, g2, g3, _⟩ := spoiled_fine h a hk hw
  obtain ⟨q1, q2⟩ := mend_fine (B := 101) (by omega) (p := p) (l := spoiledL n kind a l k) (k := k) (by omega) (by omega) g1
  exact ⟨topOk_pos (Fit.bnd (by omega) q1) q2, Fit.bnd (by omega) q1, Fit.bnd (B := 404) (by omega) (top_fine (B := 202) (by omega) (by omega) q1 q2).1⟩
/-- A whole branch has two levels. -/
theorem whole_two {N : Nat} {p : Int} {l : List (List UInt8 × Tr)} (h : Whole N (.node p l)) : ∃ n, N = n + 2 := by
  have hp := shape_pos h.1.1
  cases N with
  | zero => exact hp.elim
  | succ n => cases n with
    | zero =>
      obtain ⟨h1, h2⟩ := hp
      obtain ⟨c, r, rfl⟩ : ∃ c r, l = c :: r := by
        cases l with
        | nil => simp at h1
        | cons c r => exact ⟨c, r, rfl⟩
      exact (h2 c (by simp)).elim
    | succ n => exact ⟨n, rfl⟩
end Go.Proofs.Ytemfnjlfcemehaa
