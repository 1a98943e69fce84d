/- Pages of cells, said plainly. -/
import Derived.Test.YtjdepdgoaopfoaaDoorCrcSpec
import Derived.Test.YtjdepdgoaopfoaaDoorOctSpec
import Derived.Laws.CopyOwn
namespace Go.Proofs.YtjdepdgoaopfoaaDoor

def lens (l : List (List UInt8)) : Nat := (l.map List.length).sum
theorem lens_nil : lens [] = 0 := rfl
theorem lens_append (a b : List (List UInt8)) : lens (a ++ b) = lens a + lens b := by simp [lens]
theorem lens_one (c : List UInt8) : lens [c] = c.length := by simp [lens]
theorem take_snoc {α : Type} (l : List α) (k : Nat) (d : α) (h : k < l.length) : l.take (k + 1) = l.take k ++ [l[k]?.getD d] := by
  rw [List.take_add_one, List.getElem?_eq_getElem h]; rfl
theorem lens_take_succ (l : List (List UInt8)) (k : Nat) (h : k < l.length) : lens (l.take (k + 1)) = lens (l.take k) + (l[k]?.getD []).length := by
  rw [take_snoc l k [] h, lens_append, lens_one]
theorem lens_take_le (l : List (List UInt8)) (k : Nat) : lens (l.take k) ≤ lens l := by
  have h := lens_append (l.take k) (l.drop k)
  rw [List.take_append_drop] at h
  omega

/-- The slots: where each cell begins, the first one's end being 'e'. -/
def slotsOf : Nat → List (List UInt8) → List UInt8
  | _, [] => []
  | e, c :: r => UInt8.ofNat (e - c.length) :: slotsOf (e - c.length) r
/-- The cells, the last one ahead. -/
def backOf (l : List (List UInt8)) : List UInt8 := l.reverse.flatten
theorem slotsOf_length (l : List (List UInt8)) : ∀ e, (slotsOf e l).length = l.length := by
  induction l with
  | nil => intro e; rfl
  | cons c r ih => intro e; simp [slotsOf, ih]
theorem slotsOf_append (l m : List (List UInt8)) : ∀ e, slotsOf e (l ++ m) = slotsOf e l ++ slotsOf (e - lens l) m := by
  induction l with
  | nil => intro e; simp [slotsOf, lens]
  | cons c r ih => intro e; simp [slotsOf, ih, lens, Nat.sub_sub]
theorem backOf_append (l m : List (List UInt8)) : backOf (l ++ m) = backOf m ++ backOf l := by simp [backOf]
theorem backOf_one (c : List UInt8) : backOf [c] = c := by simp [backOf]
theorem backOf_length (l : List (List UInt8)) : (backOf l).length = lens l := by
  induction l with
  | nil => rfl
  | cons c r ih =>
    have h1 : c :: r = [c] ++ r := rfl
    rw [h1, backOf_append, List.length_append, ih, backOf_one, lens_append, lens_one]; omega

/-- What is summed of a page. -/
def bodyOf (kind : UInt8) (n : Nat) (l : List (List UInt8)) : List UInt8 :=
  kind :: UInt8.ofNat n :: (slotsOf 128 l ++ (List.replicate (122 - l.length - lens l) 0 ++ backOf l))
def pageOf (kind : UInt8) (l : List (List UInt8)) : List UInt8 := beBytes (crcOf (bodyOf kind l.length l)) 4 ++ bodyOf kind l.length l
theorem bodyOf_length (kind : UInt8) (n : Nat) (l : List (List UInt8)) (h : l.length + lens l ≤ 122) : (bodyOf kind n l).length = 124 := by
  simp [bodyOf, slotsOf_length, backOf_length]; omega

/-- The page while it is laid: no sum yet. -/
def rawOf (kind : UInt8) (n : Nat) (l : List (List UInt8)) : List UInt8 := [0, 0, 0, 0] ++ bodyOf kind n l
theorem rawOf_length (kind : UInt8) (n : Nat) (l : List (List UInt8)) (h : l.length + lens l ≤ 122) : (rawOf kind n l).length = 128 := by
  rw [rawOf, List.length_append, bodyOf_length kind n l h]; rfl
theorem rawOf_nil (kind : UInt8) (n : Nat) : rawOf kind n [] = ((List.replicate 128 (0 : UInt8)).set 4 kind).set 5 (UInt8.ofNat n) := by
  simp [rawOf, bodyOf, slotsOf, backOf, lens, List.replicate, List.set]

theorem splice_mid {α : Type} (a z c b : List α) (h : c.length ≤ z.length) : splice (a ++ (z ++ b)) (a.length + (z.length - c.length)) c = a ++ (z.take (z.length - c.length) ++ (c ++ b)) := by
  unfold splice
  have e1 : (a ++ (z ++ b)).take (a.length + (z.length - c.length)) = a ++ z.take (z.length - c.length) := by
    rw [List.take_append, List.take_of_length_le (by omega)]
    congr 1
    rw [List.take_append_of_le_length (by omega)]
    congr 1; omega
  have e2 : (a ++ (z ++ b)).drop (a.length + (z.length - c.length) + c.length) = b := by
    have : a.length + (z.length - c.length) + c.length = (a ++ z).length := by simp; omega
    rw [this, ← List.append_assoc, List.drop_append, List.drop_length]; simp
  rw [e1, e2]; simp

/-- One cell more is laid. -/
theorem raw_step (kind : UInt8) (n : Nat) (l : List (List UInt8)) (c : List UInt8) (h : l.length + 1 + lens l + c.length ≤ 122) :
    (splice (rawOf kind n l) (128 - lens l - c.length) c).set (6 + l.length) (UInt8.ofNat (128 - lens l - c.length)) = rawOf kind n (l ++ [c]) := by
  have e1 : rawOf kind n l = ([0, 0, 0, 0, kind, UInt8.ofNat n] ++ slotsOf 128 l) ++ (List.replicate (122 - l.length - lens l) 0 ++ backOf l) := by simp [rawOf, bodyOf]
  have e2 := splice_mid ([0, 0, 0, 0, kind, UInt8.ofNat n] ++ slotsOf 128 l) (List.replicate (122 - l.length - lens l) 0) c (backOf l) (by simp; omega)
  have e3 : ([0, 0, 0, 0, kind, UInt8.ofNat n] ++ slotsOf 128 l).length + ((List.replicate (122 - l.length - lens l) (0 : UInt8)).length - c.length) = 128 - lens l - c.length := by
    simp [slotsOf_length]; omega
  rw [e3] at e2
  rw [e1, e2, List.set_append_right _ _ (by simp [slotsOf_length]; omega)]
  have e4 : 6 + l.length - ([0, 0, 0, 0, kind, UInt8.ofNat n] ++ slotsOf 128 l).length = 0 := by simp [slotsOf_length]; omega
  obtain ⟨m, hm⟩ : ∃ m, 122 - l.length - lens l - c.length = m + 1 := ⟨122 - l.length - lens l - c.length - 1, by omega⟩
  have e5 : (List.replicate (122 - l.length - lens l) (0 : UInt8)).take ((List.replicate (122 - l.length - lens l) (0 : UInt8)).length - c.length) = 0 :: List.replicate m 0 := by
    rw [List.length_replicate, List.take_replicate, Nat.min_eq_left (by omega), hm, List.replicate_succ]
  rw [e4, e5]
  have e6 : 122 - (l ++ [c]).length - lens (l ++ [c]) = m := by simp [lens_append, lens_one]; omega
  simp only [rawOf, bodyOf, slotsOf_append, backOf_append, backOf_one, e6, slotsOf, List.cons_append, List.nil_append, List.append_assoc, List.set_cons_zero]

/-- The sum is laid. -/
theorem raw_sum (kind : UInt8) (n : Nat) (l : List (List UInt8)) (s : List UInt8) (h : s.length = 4) : splice (rawOf kind n l) 0 s = s ++ bodyOf kind n l := by
  unfold splice rawOf
  rw [h]; rfl
end Go.Proofs.YtjdepdgoaopfoaaDoor
