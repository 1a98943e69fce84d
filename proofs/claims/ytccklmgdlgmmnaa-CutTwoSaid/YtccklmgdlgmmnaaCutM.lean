/- Plain laws of the place at which sizes are parted; no program in sight. -/
import Derived.Test.YtccklmgdlgmmnaaCutSpec
namespace Go.Proofs.Ytccklmgdlgmmnaa

theorem worse_lo {l : List Int} (k : Nat) : sumI l - worse l k ≤ sumI (l.take k) ∧ sumI l - worse l k ≤ sumI (l.drop k) ∧ sumI (l.take k) ≤ worse l k ∧ sumI (l.drop k) ≤ worse l k ∧ (worse l k = sumI (l.take k) ∨ worse l k = sumI l - sumI (l.take k)) := by
  have e := sumI_split l k
  unfold worse; omega

/-- The best so far is the first of the least. -/
theorem bestTo_least {l : List Int} (h : Small l) (n : Nat) : ∃ m : Nat, 1 ≤ m ∧ m ≤ n + 1 ∧ bestTo l (n + 1) = (worse l m, (m : Int)) ∧
    ∀ k, 1 ≤ k → k ≤ n + 1 → worse l m ≤ worse l k ∧ (worse l k = worse l m → m ≤ k) := by
  induction n with
  | zero =>
    obtain ⟨m, h1, h2, e⟩ := bestTo_pos h 0
    exact ⟨m, h1, h2, e, fun k a b => by
      obtain rfl : k = m := by omega
      omega⟩
  | succ n ih =>
    obtain ⟨m, h1, h2, e, hl⟩ := ih
    rw [bestTo_succ (n := n + 1), e, better]
    by_cases hlt : worse l (n + 1 + 1) < worse l m
    · rw [if_pos (by simpa using hlt)]
      refine ⟨n + 1 + 1, by omega, by omega, by simp, fun k a b => ?_⟩
      by_cases e : k = n + 1 + 1
      · subst e; omega
      · have := hl k a (by omega); omega
    · rw [if_neg (by simpa using hlt)]
      refine ⟨m, h1, by omega, rfl, fun k a b => ?_⟩
      by_cases e : k = n + 1 + 1
      · subst e; omega
      · exact hl k a (by omega)

/-- The place: none, where all fits or nothing can be parted; else the first of the best ones. -/
theorem atF_cases {l : List Int} (h : Small l) : (atF l = 0 ∧ (sumI l ≤ 122 ∨ l.length < 2)) ∨
    (122 < sumI l ∧ ∃ m : Nat, 1 ≤ m ∧ m < l.length ∧ atF l = (m : Int) ∧ ∀ k, 1 ≤ k → k < l.length → worse l m ≤ worse l k ∧ (worse l k = worse l m → m ≤ k)) := by
  by_cases hle : sumI l ≤ 122
  · exact .inl ⟨by simp [atF, hle], .inl hle⟩
  · by_cases h2 : l.length < 2
    · refine .inl ⟨?_, .inr h2⟩
      have e : l.length - 1 = 0 := by omega
      simp [atF, hle, e, bestTo_zero]
    · obtain ⟨n, hn⟩ : ∃ n, l.length = n + 2 := ⟨l.length - 2, by omega⟩
      obtain ⟨m, h1, h3, e, hl⟩ := bestTo_least h n
      refine .inr ⟨by omega, m, h1, by omega, ?_, fun k a b => hl k a (by omega)⟩
      have : l.length - 1 = n + 1 := by omega
      simp [atF, hle, this, e]

theorem sumI_take_all (l : List Int) : sumI (l.take l.length) = sumI l := by rw [List.take_length]

/-- A first place at which half of all, or more, is ahead. -/
theorem first_half (l : List Int) (h : Small l) (hpos : 0 < sumI l) : ∃ k, k < l.length ∧ 2 * sumI (l.take k) < sumI l ∧ sumI l ≤ 2 * sumI (l.take (k + 1)) := by
  have key : ∀ n, n ≤ l.length → sumI l ≤ 2 * sumI (l.take n) → ∃ k, k < n ∧ 2 * sumI (l.take k) < sumI l ∧ sumI l ≤ 2 * sumI (l.take (k + 1)) := by
    intro n
    induction n with
    | zero => intro _ h0; simp [sumI_nil] at h0; omega
    | succ n ih =>
      intro hn h0
      by_cases hc : sumI l ≤ 2 * sumI (l.take n)
      · obtain ⟨k, a, b, c⟩ := ih (by omega) hc
        exact ⟨k, by omega, b, c⟩
      · exact ⟨n, by omega, by omega, h0⟩
  exact key l.length (Nat.le_refl _) (by rw [sumI_take_all]; omega)

/-- Cells of 37 at most, more than a page and 159 at most together: both parts of the best place go into a page, and neither is low. -/
theorem fits {l : List Int} (h : Small l) (h37 : ∀ x ∈ l, x ≤ 37) (h1 : 122 < sumI l) (h2 : sumI l ≤ 159) {m : Nat} (hl : ∀ k, 1 ≤ k → k < l.length → worse l m ≤ worse l k) :
    worse l m ≤ 122 ∧ 30 ≤ sumI (l.take m) ∧ 30 ≤ sumI (l.drop m) := by
  obtain ⟨k, hk, ha, hb⟩ := first_half l h (by omega)
  have hs := sumI_take_succ l k hk
  have hx : l[k]?.getD 0 ≤ 37 := by simp [hk]; exact h37 _ (List.getElem_mem hk)
  have w0 := (h.take k).bd
  have hlow := worse_lo (l := l) m
  have g : 2 * worse l m ≤ sumI l + 37 := by
    by_cases hd : 2 * sumI (l.take (k + 1)) ≤ sumI l + 37
    · have hk1 : k + 1 < l.length := by
        by_cases e : k + 1 = l.length
        · rw [e, sumI_take_all] at hd; omega
        · omega
      have := hl (k + 1) (by omega) hk1
      have := worse_lo (l := l) (k + 1)
      omega
    · have hk0 : 1 ≤ k := by
        by_cases e : k = 0
        · subst e; simp [sumI_nil] at *; omega
        · omega
      have := hl k hk0 hk
      have := worse_lo (l := l) k
      omega
  omega

/-! the other way round -/
theorem sumI_reverse (l : List Int) : sumI l.reverse = sumI l := by
  induction l with
  | nil => rfl
  | cons x l ih => rw [List.reverse_cons, sumI_append, ih, sumI_cons, sumI_cons, sumI_nil]; omega
theorem Small.reverse {l : List Int} (h : Small l) : Small l.reverse := ⟨by simpa using h.1, fun x hx => h.2 x (by simpa using hx)⟩
theorem worse_reverse (l : List Int) (k : Nat) (hk : k ≤ l.length) : worse l.reverse k = worse l (l.length - k) := by
  unfold worse
  rw [List.take_reverse, List.drop_reverse, sumI_reverse, sumI_reverse]; omega
theorem turned {l : List Int} (h : Small l) : (atF l = 0 ∧ atF l.reverse = 0) ∨
    ∃ m n : Nat, 1 ≤ m ∧ m < l.length ∧ 1 ≤ n ∧ n < l.length ∧ atF l = (m : Int) ∧ atF l.reverse = (n : Int) ∧ worse l m = worse l.reverse n := by
  rcases atF_cases h with ⟨e, hc⟩ | ⟨hs, m, h1, h2, e, hm⟩
  · rcases atF_cases h.reverse with ⟨e', _⟩ | ⟨hs', m', h1', h2', e', hm'⟩
    · exact .inl ⟨e, e'⟩
    · rw [sumI_reverse] at hs'; simp at h2'; omega
  · rcases atF_cases h.reverse with ⟨e', hc'⟩ | ⟨hs', m', h1', h2', e', hm'⟩
    · rw [sumI_reverse] at hc'; simp at hc'; omega
    · simp at h2' hm'
      refine .inr ⟨m, m', h1, h2, h1', h2', e, e', ?_⟩
      have a := (hm (l.length - m') (by omega) (by omega)).1
      have b := (hm' (l.length - m) (by omega) (by omega)).1
      rw [worse_reverse l (l.length - m) (by omega)] at b
      rw [show l.length - (l.length - m) = m by omega] at b
      have c := worse_reverse l m' (by omega)
      rw [c] at b ⊢
      omega

/-! a nought at the end -/
theorem worse_nought (l : List Int) (k : Nat) (hk : k ≤ l.length) : worse (l ++ [0]) k = worse l k := by
  unfold worse
  rw [List.take_append_of_le_length hk, List.drop_append_of_le_length hk, sumI_append]
  simp [sumI_cons, sumI_nil]
theorem bestTo_nought {l : List Int} (n : Nat) (hn : n ≤ l.length) : bestTo (l ++ [0]) n = bestTo l n := by
  induction n with
  | zero => rw [bestTo_zero, bestTo_zero, sumI_append]; simp [sumI_cons, sumI_nil]
  | succ n ih => rw [bestTo_succ, bestTo_succ, ih (by omega), worse_nought l (n + 1) hn]
theorem atF_nought {l : List Int} (h : Small l) (h2 : 2 ≤ l.length) : atF (l ++ [0]) = atF l := by
  have e : sumI (l ++ [0]) = sumI l := by rw [sumI_append]; simp [sumI_cons, sumI_nil]
  unfold atF
  rw [e]
  by_cases hle : sumI l ≤ 122
  · simp [hle]
  · rw [if_neg hle, if_neg hle]
    obtain ⟨n, hn⟩ : ∃ n, l.length = n + 2 := ⟨l.length - 2, by omega⟩
    have e1 : (l ++ [0]).length - 1 = n + 1 + 1 := by simp; omega
    have e2 : l.length - 1 = n + 1 := by omega
    rw [e1, e2, bestTo_succ, bestTo_nought _ (by omega), worse_nought _ _ (by omega)]
    obtain ⟨m, h1, h3, e3⟩ := bestTo_pos h n
    rw [e3, better, if_neg]
    have := worse_lo (l := l) m
    have hb := (h.take m).bd
    have hb' := (h.drop m).bd
    have hw : worse l (n + 1 + 1) = sumI l := by
      have hb := h.bd
      unfold worse
      rw [show n + 1 + 1 = l.length by omega, List.take_length, List.drop_length, sumI_nil]; omega
    have := sumI_split l m
    simp only [hw]; omega
/-! the greatest -/
def mx (l : List Int) : Int := l.foldl max 0
theorem mx_snoc (l : List Int) (k : Nat) (h : k < l.length) : mx (l.take (k + 1)) = max (mx (l.take k)) (l[k]?.getD 0) := by
  rw [List.take_add_one, mx, List.foldl_append]; simp [h, mx]
theorem mx_le (l : List Int) : ∀ x ∈ l, x ≤ mx l := by
  have key : ∀ (l : List Int) (a : Int), a ≤ l.foldl max a ∧ ∀ x ∈ l, x ≤ l.foldl max a := by
    intro l
    induction l with
    | nil => intro a; simp
    | cons y l ih =>
      intro a
      have h := ih (max a y)
      refine ⟨by simp only [List.foldl_cons]; omega, fun x hx => ?_⟩
      simp only [List.foldl_cons]
      rcases List.mem_cons.1 hx with rfl | hx
      · omega
      · exact h.2 x hx
  exact (key l 0).2

end Go.Proofs.Ytccklmgdlgmmnaa
