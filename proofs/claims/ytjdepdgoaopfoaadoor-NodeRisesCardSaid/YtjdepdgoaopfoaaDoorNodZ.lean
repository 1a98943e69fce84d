/- Leaves and branches: entries the other way round, or twice, or of the other kind may not be. -/
import Derived.Test.YtjdepdgoaopfoaaDoorNodSpec
namespace Go.Proofs.YtjdepdgoaopfoaaDoor

theorem kle_refl (a : List UInt8) : kle a a = true := by simp [kle]
theorem kle_total : ∀ (a b : List UInt8), kle a b = false → kle b a = true
  | [], [], h => by simp [kle] at h
  | [], b :: y, h => by simp [kle] at h
  | a :: x, [], _ => by simp [kle]
  | a :: x, b :: y, h => by
    have ih := kle_total x y
    simp only [kle, Bool.or_eq_false_iff, decide_eq_false_iff_not, beq_eq_false_iff_ne, List.cons_lt_cons_iff, not_or, not_and] at h ih
    simp only [kle, Bool.or_eq_true, decide_eq_true_eq, beq_iff_eq, List.cons_lt_cons_iff] at ih ⊢
    obtain ⟨⟨h1, h2⟩, h3⟩ := h
    by_cases hab : a = b
    · subst hab
      rcases ih ⟨h2 rfl, fun e => h3 (by rw [e])⟩ with hh | hh
      · exact .inl (.inr ⟨rfl, hh⟩)
      · exact .inr (by rw [hh])
    · refine .inl (.inl ?_)
      rcases UInt8.lt_or_eq_of_le (UInt8.not_lt.1 h1) with hlt | he
      · exact hlt
      · exact absurd he.symm hab
theorem nodeB_falls {leaf : Bool} {l : List En} {k : Nat} (hk : k < l.length) (h : stepN leaf l k = false) : nodeB leaf l = false := by
  have h1 : upN leaf l (k + 1) = false := by rw [upN_succ, h, Bool.and_false]
  rw [nodeB, upN_mono leaf l h1 hk]; rfl
theorem nodeB_rises {leaf : Bool} {l : List En} (h : nodeB leaf l = true) {k : Nat} {x y : En} (hx : l[k]? = some x) (hy : l[k + 1]? = some y) : kle x.key y.key = true := by
  have hk := (List.getElem?_eq_some_iff.1 hy).1
  simp only [nodeB, Bool.and_eq_true] at h
  have := upN_may h.1 hk
  simp only [stepN, hy, hx, Option.getD_some, Nat.add_sub_cancel, Bool.and_eq_true, Bool.not_eq_true', Nat.zero_lt_succ, decide_true, Bool.true_and] at this
  exact kle_total _ _ this.2
/-- Entries that stand the other way round. -/
theorem node_swapped {leaf : Bool} {l : List En} (h : nodeB leaf l = true) {k : Nat} {x y : En} (hx : l[k]? = some x) (hy : l[k + 1]? = some y) : nodeB leaf ((l.set k y).set (k + 1) x) = false := by
  have hk := (List.getElem?_eq_some_iff.1 hy).1
  have h1 : ((l.set k y).set (k + 1) x)[k + 1]? = some x := by simp [hk]
  have h2 : ((l.set k y).set (k + 1) x)[k]? = some y := by rw [List.getElem?_set_ne (by omega), List.getElem?_set_self (by omega)]
  refine nodeB_falls (k := k + 1) (by simpa using hk) ?_
  simp only [stepN, h1, h2, Option.getD_some, Nat.add_sub_cancel, nodeB_rises h hx hy, Nat.zero_lt_succ, decide_true, Bool.true_and, Bool.not_true, Bool.and_false]
/-- An entry that stands twice. -/
theorem node_twice {leaf : Bool} {l : List En} {k : Nat} {x : En} (hx : l[k]? = some x) : nodeB leaf (l.take (k + 1) ++ l.drop k) = false := by
  have hk := (List.getElem?_eq_some_iff.1 hx).1
  have h1 : (l.take (k + 1) ++ l.drop k)[k + 1]? = some x := by rw [List.getElem?_append_right (by simp; omega)]; simp [hx, Nat.min_eq_left (show k + 1 ≤ l.length by omega)]
  have h2 : (l.take (k + 1) ++ l.drop k)[k]? = some x := by rw [List.getElem?_append_left (by simp; omega), List.getElem?_take_of_lt (by omega)]; exact hx
  refine nodeB_falls (k := k + 1) (by simp; omega) ?_
  simp only [stepN, h1, h2, Option.getD_some, Nat.add_sub_cancel, kle_refl, Nat.zero_lt_succ, decide_true, Bool.true_and, Bool.not_true, Bool.and_false]
/-- The other kind. -/
theorem node_other {leaf : Bool} {l : List En} (h : nodeB leaf l = true) (hl : 0 < l.length) : nodeB (!leaf) l = false := by
  obtain ⟨x, hx⟩ : ∃ x, l[0]? = some x := ⟨_, List.getElem?_eq_getElem hl⟩
  simp only [nodeB, Bool.and_eq_true] at h
  have hm := upN_may h.1 hl
  simp only [stepN, hx, Option.getD_some, Bool.and_eq_true] at hm
  refine nodeB_falls hl ?_
  simp only [stepN, hx, Option.getD_some]
  have : mayN (!leaf) 0 x = false := by
    have hm1 := hm.1
    cases leaf
    · simp only [mayN, mayB, firstB, Bool.false_eq_true, if_false, if_true, Bool.and_eq_true, beq_iff_eq] at hm1
      simp only [mayN, mayL, Bool.not_false, if_true, keyB, hm1.1]
      split <;> rfl
    · simp only [mayN, mayL, if_true] at hm1
      have hk : keyB x.key = true := by
        split at hm1 <;> (simp only [Bool.and_eq_true] at hm1; exact hm1.1)
      simp only [keyB, Bool.and_eq_true, bne_iff_ne, ne_eq] at hk
      simp [mayN, mayB, firstB, hk.1]
  rw [this, Bool.false_and]
end Go.Proofs.YtjdepdgoaopfoaaDoor
