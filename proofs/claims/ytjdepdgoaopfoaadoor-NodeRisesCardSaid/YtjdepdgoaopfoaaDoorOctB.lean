/- Plain laws of numbers that are put and taken; no program in sight. -/
import Derived.Test.YtjdepdgoaopfoaaDoorOctSpec
namespace Go.Proofs.YtjdepdgoaopfoaaDoor

theorem beVal_beBytes (x n : Nat) : beVal (beBytes x n) = x % 256 ^ n := by
  induction n generalizing x with
  | zero => simp [beBytes, beVal_nil, Nat.mod_one]
  | succ n ih =>
    have e : 256 ^ (n + 1) = 256 * 256 ^ n := by rw [Nat.pow_succ, Nat.mul_comm]
    have e2 : x % 2 ^ 8 = x % 256 := rfl
    rw [beBytes, beVal_snoc, ih, UInt8.toNat_ofNat', e, Nat.mod_mul, e2]
    omega

/-- A number's bytes, behind which others stand, are taken as the number. -/
theorem tNum_be (x n : Nat) (h1 : 1 ≤ n) (h8 : n ≤ 8) (hx : x < 256 ^ n) (r : List UInt8) : tNum ⟨beBytes x n ++ r, 0⟩ (n : Int) = (x, ⟨r, 0⟩) := by
  have hl := beBytes_length x n
  rw [tNum, if_neg (by simp; omega)]
  have : takeF ⟨beBytes x n ++ r, 0⟩ n = (beBytes x n, ⟨r, 0⟩) := by
    simp only [takeF]
    rw [if_neg (by simp), if_neg (by simp [hl])]
    simp [hl]
  rw [Int.toNat_natCast, this, beVal_beBytes, Nat.mod_eq_of_lt hx]
theorem tText_text (s : List UInt8) (h : s.length ≤ 255) : tText ⟨UInt8.ofNat s.length :: s, 0⟩ = (s, ⟨[], 0⟩) := by
  have e := tNum_be s.length 1 (by omega) (by omega) (by omega) s
  have e2 : beBytes s.length 1 ++ s = UInt8.ofNat s.length :: s := by simp [beBytes]
  rw [e2] at e
  have e3 : tNum ⟨UInt8.ofNat s.length :: s, 0⟩ 1 = (s.length, ⟨s, 0⟩) := e
  rw [tText, e3]
  simp [takeF]
theorem tText_short (s : List UInt8) (h : s.length ≤ 255) : (tText ⟨(UInt8.ofNat s.length :: s).dropLast, 0⟩).2.e = 10 := by
  cases hs : s with
  | nil => decide
  | cons c r =>
    have e0 : (UInt8.ofNat (c :: r).length :: c :: r).dropLast = UInt8.ofNat (c :: r).length :: (c :: r).dropLast := rfl
    rw [e0]
    have hr : (c :: r).length ≤ 255 := by rw [← hs]; exact h
    have e := tNum_be (c :: r).length 1 (by omega) (by omega) (by omega) (c :: r).dropLast
    have e2 : beBytes (c :: r).length 1 ++ (c :: r).dropLast = UInt8.ofNat (c :: r).length :: (c :: r).dropLast := by simp [beBytes]
    rw [e2] at e
    have e3 : tNum ⟨UInt8.ofNat (c :: r).length :: (c :: r).dropLast, 0⟩ 1 = ((c :: r).length, ⟨(c :: r).dropLast, 0⟩) := e
    rw [tText, e3]
    have hl : (c :: r).dropLast.length < (c :: r).length := by simp
    simp only [takeF]
    rw [if_neg (by simp), if_pos hl]

section
variable (X N : Nat → Nat)
/-- The numbers from one place on, so many, one behind the other. -/
def encN : Nat → Nat → List UInt8
  | 0, _ => []
  | k + 1, i => beBytes (X i) (N i) ++ encN k (i + 1)
theorem encN_snoc (k i : Nat) : encN X N (k + 1) i = encN X N k i ++ beBytes (X (i + k)) (N (i + k)) := by
  induction k generalizing i with
  | zero => simp [encN]
  | succ k ih =>
    have e : i + 1 + k = i + (k + 1) := by omega
    rw [encN, ih (i + 1), encN, List.append_assoc, e]
theorem encN_length (h : ∀ i, N i ≤ 8) (k i : Nat) : (encN X N k i).length ≤ 8 * k := by
  induction k generalizing i with
  | zero => simp [encN]
  | succ k ih =>
    rw [encN, List.length_append, beBytes_length]
    have := ih (i + 1)
    have := h i
    omega
end
end Go.Proofs.YtjdepdgoaopfoaaDoor
