/- Entries ahead of a delete, and behind it, one by one: plain. -/
import Derived.Test.YtemfnjlfcemehaaM9
namespace Go.Proofs.Ytemfnjlfcemehaa

/-- How many of the first entries stay. -/
def kDel (key : List UInt8) (A : List (List UInt8 × Tv)) (j : Nat) : Nat := (delL key (A.take j)).length
theorem kdel_zero (key : List UInt8) (A : List (List UInt8 × Tv)) : kDel key A 0 = 0 := rfl
theorem kdel_end {key : List UInt8} {A : List (List UInt8 × Tv)} {j : Nat} (h : A.length ≤ j) : kDel key A j = (delL key A).length := by unfold kDel; rw [List.take_of_length_le h]
theorem kdel_key {key : List UInt8} {A : List (List UInt8 × Tv)} {j : Nat} {x : List UInt8 × Tv} (hx : A[j]? = some x) (h : x.1 = key) : kDel key A (j + 1) = kDel key A j := by
  unfold kDel
  rw [List.take_add_one, hx, delL_append]
  have : delL key [x] = [] := by unfold delL; simp [h]
  simp [this]
theorem kdel_stay {key : List UInt8} {A : List (List UInt8 × Tv)} {j : Nat} {x : List UInt8 × Tv} (hx : A[j]? = some x) (h : x.1 ≠ key) : kDel key A (j + 1) = kDel key A j + 1 ∧ (delL key A)[kDel key A j]? = some x := by
  have hl := (List.getElem?_eq_some_iff.1 hx).1
  have h1 : delL key [x] = [x] := by unfold delL; simp [h]
  refine ⟨?_, ?_⟩
  · unfold kDel
    rw [List.take_add_one, hx, delL_append]
    simp [h1]
  · have he : A = A.take j ++ ([x] ++ A.drop (j + 1)) := by
      rw [← (List.getElem?_eq_some_iff.1 hx).2]; simp
    obtain ⟨q, hq⟩ : ∃ q, kDel key A j = q := ⟨_, rfl⟩
    have hq' : (delL key (A.take j)).length = q := hq
    rw [hq]
    conv => lhs; rw [he]
    rw [delL_append, delL_append, h1, List.getElem?_append_right (by omega), hq', Nat.sub_self]
    rfl
theorem del_le (key : List UInt8) (A : List (List UInt8 × Tv)) : (delL key A).length ≤ A.length := by unfold delL; exact List.length_filter_le _ _
end Go.Proofs.Ytemfnjlfcemehaa
