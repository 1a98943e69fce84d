/- Sums of bytes, bit by bit; plain laws, no program in sight. -/
namespace Go.Proofs.YtjdepdgoaopfoaaDoor

/-- One bit. -/
def stepB (x : Nat) : Nat := if x % 2 = 1 then (x / 2) ^^^ 3988292384 else x / 2
def steps : Nat → Nat → Nat
  | 0, x => x
  | n + 1, x => steps n (stepB x)
theorem steps_add (m n x : Nat) : steps (m + n) x = steps n (steps m x) := by
  induction m generalizing x with
  | zero => simp [steps]
  | succ m ih => rw [show m + 1 + n = (m + n) + 1 by omega]; simp only [steps]; exact ih _
theorem steps_succ (n x : Nat) : steps (n + 1) x = stepB (steps n x) := by
  rw [steps_add n 1]; rfl
/-- One byte. -/
def stepC (x : Nat) (b : UInt8) : Nat := steps 8 (x ^^^ b.toNat)
/-- The inner state behind bytes. -/
def crcX (x : Nat) (l : List UInt8) : Nat := l.foldl stepC x
def crcOn (sum : Nat) (l : List UInt8) : Nat := 4294967295 - crcX (4294967295 - sum) l
def crcOf (l : List UInt8) : Nat := crcOn 0 l

theorem xor_lt {a b : Nat} (ha : a < 4294967296) (hb : b < 4294967296) : a ^^^ b < 4294967296 := Nat.xor_lt_two_pow (n := 32) ha hb
theorem stepB_lt {x : Nat} (h : x < 4294967296) : stepB x < 4294967296 := by
  unfold stepB; split
  · exact xor_lt (by omega) (by omega)
  · omega
theorem steps_lt (n : Nat) {x : Nat} (h : x < 4294967296) : steps n x < 4294967296 := by
  induction n generalizing x with
  | zero => exact h
  | succ n ih => exact ih (stepB_lt h)
theorem stepC_lt {x : Nat} (h : x < 4294967296) (b : UInt8) : stepC x b < 4294967296 := steps_lt 8 (xor_lt h (by have := b.toNat_lt; omega))
theorem crcX_lt (l : List UInt8) {x : Nat} (h : x < 4294967296) : crcX x l < 4294967296 := by
  induction l generalizing x with
  | nil => exact h
  | cons b l ih => exact ih (stepC_lt h b)
theorem crcOn_lt (sum : Nat) (l : List UInt8) : crcOn sum l < 4294967296 := by unfold crcOn; omega
theorem crcX_snoc (x : Nat) (l : List UInt8) (b : UInt8) : crcX x (l ++ [b]) = stepC (crcX x l) b := by simp [crcX]

/-! a step can be told from what it leaves -/
theorem testBit_poly (x : Nat) (h : x < 2147483648) : (x ^^^ 3988292384).testBit 31 = true := by
  rw [Nat.testBit_xor, Nat.testBit_lt_two_pow (show x < 2 ^ 31 from h)]
  decide
theorem stepB_inj {x y : Nat} (hx : x < 4294967296) (hy : y < 4294967296) (h : stepB x = stepB y) : x = y := by
  have bit : ∀ z, z < 4294967296 → (stepB z).testBit 31 = decide (z % 2 = 1) := by
    intro z hz
    unfold stepB; split
    · rename_i h1; rw [testBit_poly _ (by omega)]; simp [h1]
    · rename_i h1; rw [Nat.testBit_lt_two_pow (show z / 2 < 2 ^ 31 by omega)]; simp [h1]
  have hb := bit x hx
  rw [h, bit y hy] at hb
  have hp : (x % 2 = 1 ↔ y % 2 = 1) := by
    constructor
    · intro e; by_cases e' : y % 2 = 1
      · exact e'
      · simp [e, e'] at hb
    · intro e; by_cases e' : x % 2 = 1
      · exact e'
      · simp [e, e'] at hb
  unfold stepB at h
  by_cases e : x % 2 = 1
  · rw [if_pos e, if_pos (hp.1 e)] at h
    have h2 : x / 2 = y / 2 := by
      have := congrArg (· ^^^ 3988292384) h
      simpa [Nat.xor_assoc] using this
    have := hp.1 e
    omega
  · rw [if_neg e, if_neg (fun e' => e (hp.2 e'))] at h
    have : ¬ y % 2 = 1 := fun e' => e (hp.2 e')
    omega
theorem steps_inj (n : Nat) {x y : Nat} (hx : x < 4294967296) (hy : y < 4294967296) (h : steps n x = steps n y) : x = y := by
  induction n generalizing x y with
  | zero => exact h
  | succ n ih => exact stepB_inj hx hy (ih (stepB_lt hx) (stepB_lt hy) h)
theorem xor_cancel {a b c : Nat} (h : a ^^^ c = b ^^^ c) : a = b := by
  have := congrArg (· ^^^ c) h
  simpa [Nat.xor_assoc] using this
theorem stepC_inj {x y : Nat} {b : UInt8} (hx : x < 4294967296) (hy : y < 4294967296) (h : stepC x b = stepC y b) : x = y :=
  xor_cancel (steps_inj 8 (xor_lt hx (by have := b.toNat_lt; omega)) (xor_lt hy (by have := b.toNat_lt; omega)) h)
theorem stepC_byte {x : Nat} {b c : UInt8} (hx : x < 4294967296) (h : stepC x b = stepC x c) : b = c := by
  have h1 := steps_inj 8 (xor_lt hx (by have := b.toNat_lt; omega)) (xor_lt hx (by have := c.toNat_lt; omega)) h
  rw [Nat.xor_comm x, Nat.xor_comm x] at h1
  exact UInt8.toNat_inj.1 (xor_cancel h1)
theorem crcX_inj (l : List UInt8) {x y : Nat} (hx : x < 4294967296) (hy : y < 4294967296) (h : crcX x l = crcX y l) : x = y := by
  induction l generalizing x y with
  | nil => exact h
  | cons b l ih => exact stepC_inj hx hy (ih (stepC_lt hx b) (stepC_lt hy b) h)
/-- A byte that is another one is told by the sum. -/
theorem crcOf_turned (a r : List UInt8) {b c : UInt8} (h : crcOf (a ++ b :: r) = crcOf (a ++ c :: r)) : b = c := by
  have hl := crcX_lt a (x := 4294967295 - 0) (by omega)
  have e : ∀ d : UInt8, crcX (4294967295 - 0) (a ++ d :: r) = crcX (stepC (crcX (4294967295 - 0) a) d) r := by intro d; simp [crcX]
  have h1 := crcX_lt r (stepC_lt hl b)
  have h2 := crcX_lt r (stepC_lt hl c)
  unfold crcOf crcOn at h
  rw [e b, e c] at h
  exact stepC_byte hl (crcX_inj r (stepC_lt hl b) (stepC_lt hl c) (by omega))

/-! half a byte by a table -/
def half : List Nat := [0, 498536548, 997073096, 651767980, 1994146192, 1802195444, 1303535960, 1342533948, 3988292384, 4027552580, 3604390888, 3412177804, 2607071920, 2262029012, 2685067896, 3183342108]
theorem half_eq (k : Nat) (h : k < 16) : half[k]? = some (steps 4 k) := by
  have : ∀ k : Fin 16, half[k.val]? = some (steps 4 k.val) := by decide
  exact this ⟨k, h⟩
theorem stepB_xor (a b : Nat) (ha : a % 2 = 0) : stepB (a ^^^ b) = a / 2 ^^^ stepB b := by
  have hp : (a ^^^ b) % 2 = b % 2 := by
    have := Nat.xor_mod_two_pow (a := a) (b := b) (n := 1)
    simp only [Nat.pow_one] at this
    rw [this, ha, Nat.zero_xor]
    try omega
  have hd : (a ^^^ b) / 2 = a / 2 ^^^ b / 2 := by
    have := Nat.shiftRight_xor_distrib (a := a) (b := b) (i := 1)
    simpa [Nat.shiftRight_eq_div_pow] using this
  unfold stepB
  rw [hp, hd]
  by_cases hb : b % 2 = 1
  · rw [if_pos hb, if_pos hb, Nat.xor_assoc]
  · rw [if_neg hb, if_neg hb]
theorem steps_xor (n a b : Nat) (ha : a % 2 ^ n = 0) : steps n (a ^^^ b) = a / 2 ^ n ^^^ steps n b := by
  induction n generalizing a b with
  | zero => simp [steps]
  | succ n ih =>
    have h2 : a % 2 = 0 := by
      have : 2 ∣ a := Nat.dvd_trans (by rw [Nat.pow_succ]; exact Nat.dvd_mul_left 2 _) (Nat.dvd_of_mod_eq_zero ha)
      omega
    have h3 : a / 2 % 2 ^ n = 0 := by
      have hd := Nat.dvd_of_mod_eq_zero ha
      rw [Nat.pow_succ] at hd
      obtain ⟨q, rfl⟩ := hd
      rw [Nat.mul_comm (2 ^ n) 2, Nat.mul_assoc, Nat.mul_div_cancel_left _ (by decide), Nat.mul_mod_right]
    simp only [steps]
    rw [stepB_xor a b h2, ih (a / 2) (stepB b) h3, Nat.div_div_eq_div_mul, Nat.pow_succ, Nat.mul_comm 2]
/-- Four bits at once. -/
theorem steps_four (x : Nat) : steps 4 x = x / 16 ^^^ (half[x % 16]?.getD 0) := by
  have e : x = 16 * (x / 16) ^^^ x % 16 := by
    have h1 : 16 * (x / 16) ^^^ x % 16 = 16 * (x / 16) + x % 16 := by
      have hb : x % 16 < 2 ^ 4 := by omega
      apply Nat.eq_of_testBit_eq
      intro j
      have e1 := Nat.testBit_two_pow_mul_add (x / 16) hb j
      have e2 : (2 ^ 4 * (x / 16)).testBit j = (decide (j ≥ 4) && (x / 16).testBit (j - 4)) := Nat.testBit_two_pow_mul ..
      rw [Nat.testBit_xor]
      show ((2 ^ 4 * (x / 16)).testBit j ^^ (x % 16).testBit j) = (2 ^ 4 * (x / 16) + x % 16).testBit j
      rw [e1, e2]
      by_cases hj : j < 4
      · have h4 : ¬ j ≥ 4 := by omega
        rw [if_pos hj]; simp [h4]
      · have h0 : (x % 16).testBit j = false := Nat.testBit_lt_two_pow (Nat.lt_of_lt_of_le hb (Nat.pow_le_pow_right (by decide) (by omega)))
        have h4 : j ≥ 4 := by omega
        rw [if_neg hj, h0]; simp [h4]
    rw [h1]; omega
  have h2 := steps_xor 4 (16 * (x / 16)) (x % 16) (by omega)
  rw [← e] at h2
  rw [h2, half_eq (x % 16) (by omega)]
  simp
theorem not32 (s : Nat) (h : s < 4294967296) : 4294967295 ^^^ s = 4294967295 - s := by
  apply Nat.eq_of_testBit_eq
  intro i
  have e := Nat.testBit_two_pow_sub_succ (n := 32) h i
  have e1 : 2 ^ 32 - (s + 1) = 4294967295 - s := by omega
  have e2 := Nat.testBit_two_pow_sub_one 32 i
  rw [e1] at e
  rw [Nat.testBit_xor, e]
  show ((2 ^ 32 - 1).testBit i ^^ s.testBit i) = _
  rw [e2]
  by_cases hi : i < 32
  · simp [hi]
  · have : s.testBit i = false := Nat.testBit_lt_two_pow (Nat.lt_of_lt_of_le h (show 2 ^ 32 ≤ 2 ^ i from Nat.pow_le_pow_right (by decide) (by omega)))
    simp [hi, this]

end Go.Proofs.YtjdepdgoaopfoaaDoor
