/- Plain functions of the chapter on numbers and texts as bytes; no program in sight. -/
namespace Go.Proofs.YtjdepdgoaopfoaaDoor

/-- A number's lowest bytes, the highest first. -/
def beBytes (x : Nat) : Nat → List UInt8
  | 0 => []
  | n + 1 => beBytes (x / 256) n ++ [UInt8.ofNat x]
theorem beBytes_length (x n : Nat) : (beBytes x n).length = n := by
  induction n generalizing x with
  | zero => rfl
  | succ n ih => simp [beBytes, ih]
/-- The number that bytes are, the highest first. -/
def beVal (l : List UInt8) : Nat := l.foldl (fun x b => x * 256 + b.toNat) 0
theorem beVal_nil : beVal [] = 0 := rfl
theorem beVal_snoc (l : List UInt8) (b : UInt8) : beVal (l ++ [b]) = beVal l * 256 + b.toNat := by simp [beVal]
theorem beVal_lt (l : List UInt8) : beVal l < 256 ^ l.length := by
  have key : ∀ (l : List UInt8) (a : Nat), l.foldl (fun x b => x * 256 + b.toNat) a < (a + 1) * 256 ^ l.length := by
    intro l
    induction l with
    | nil => intro a; simp
    | cons b l ih =>
      intro a
      have h := ih (a * 256 + b.toNat)
      have hb := b.toNat_lt
      simp only [List.foldl_cons, List.length_cons, Nat.pow_succ]
      calc _ < (a * 256 + b.toNat + 1) * 256 ^ l.length := h
        _ ≤ ((a + 1) * 256) * 256 ^ l.length := Nat.mul_le_mul_right _ (by omega)
        _ = (a + 1) * (256 ^ l.length * 256) := by rw [Nat.mul_assoc, Nat.mul_comm 256]
  have h := key l 0
  simp at h; exact h
theorem beBytes_cons (x n : Nat) : beBytes x (n + 1) = UInt8.ofNat (x / 256 ^ n) :: beBytes x n := by
  induction n generalizing x with
  | zero => simp [beBytes]
  | succ n ih =>
    rw [beBytes, ih (x / 256)]
    simp only [List.cons_append]
    rw [Nat.div_div_eq_div_mul, Nat.pow_succ, Nat.mul_comm 256]
    rfl

theorem be_set (x n k : Nat) (hk : k < n) : (List.replicate (n - k) 0 ++ beBytes x k).set (n - 1 - k) (UInt8.ofNat (x / 256 ^ k)) = List.replicate (n - (k + 1)) 0 ++ beBytes x (k + 1) := by
  obtain ⟨m, rfl⟩ : ∃ m, n = k + 1 + m := ⟨n - k - 1, by omega⟩
  have e1 : k + 1 + m - k = m + 1 := by omega
  have e2 : k + 1 + m - 1 - k = m := by omega
  have e3 : k + 1 + m - (k + 1) = m := by omega
  rw [e1, e2, e3, beBytes_cons, List.replicate_succ', List.append_assoc, List.set_append_right _ _ (by simp), List.length_replicate, Nat.sub_self]
  rfl
theorem be_at (x n k : Nat) (hk : k < n) : (List.replicate (n - k) (0 : UInt8) ++ beBytes x k)[n - 1 - k]? = some 0 := by
  rw [List.getElem?_append_left (by simp; omega), List.getElem?_replicate, if_pos (by omega)]

theorem be_byte (x k : Nat) : ((x : Int) / 2 ^ (8 * k) % 256) = ((UInt8.ofNat (x / 256 ^ k)).toNat : Int) := by
  have e : (256 : Nat) ^ k = 2 ^ (8 * k) := by rw [Nat.pow_mul]
  rw [UInt8.toNat_ofNat', e, Int.natCast_emod, Int.natCast_ediv, Int.natCast_pow]
  rfl

/-- 'octet.Num'. -/
def numF (x : Int) (size : Int) : List UInt8 := if size < 1 ∨ 8 < size then [] else beBytes x.toNat size.toNat
/-- 'octet.Text'. -/
def textF (l : List UInt8) : List UInt8 := UInt8.ofNat (l.take 255).length :: l.take 255

/-- What is left to take, and what went wrong first. -/
structure TSt where
  l : List UInt8
  e : Int
deriving DecidableEq

/-- So many bytes, taken. -/
def takeF (s : TSt) (n : Nat) : List UInt8 × TSt :=
  if s.e ≠ 0 then ([], s) else if s.l.length < n then ([], { s with e := 10 }) else (s.l.take n, { s with l := s.l.drop n })
def tNum (s : TSt) (size : Int) : Nat × TSt :=
  if s.e = 0 ∧ (size < 1 ∨ 8 < size) then (0, { s with e := 1 }) else (beVal (takeF s size.toNat).1, (takeF s size.toNat).2)
def tText (s : TSt) : List UInt8 × TSt := takeF (tNum s 1).2 (tNum s 1).1
def tRest (s : TSt) : List UInt8 × TSt := takeF s s.l.length
def tDone (s : TSt) : Int := if s.e ≠ 0 ∨ s.l.length = 0 then s.e else 11

/-! what went wrong first stays -/
def OkE (e : Int) : Prop := e = 0 ∨ e = 1 ∨ e = 10
theorem takeF_facts (s : TSt) (n : Nat) (h : OkE s.e) : OkE (takeF s n).2.e ∧ ((s.e ≠ 0 ∧ takeF s n = ([], s)) ∨ (s.e = 0 ∧ (takeF s n).2.e = 0) ∨ (s.e = 0 ∧ (takeF s n).2.e ≠ 0 ∧ (takeF s n).1 = [])) := by
  by_cases he : s.e = 0
  · by_cases hn : s.l.length < n
    · have : takeF s n = ([], { s with e := 10 }) := by simp [takeF, he, hn]
      rw [this]; exact ⟨.inr (.inr rfl), .inr (.inr ⟨he, by simp, rfl⟩)⟩
    · have : takeF s n = (s.l.take n, { s with l := s.l.drop n }) := by simp [takeF, he, hn]
      rw [this]; exact ⟨h, .inr (.inl ⟨he, he⟩)⟩
  · have : takeF s n = ([], s) := by simp [takeF, he]
    rw [this]; exact ⟨h, .inl ⟨he, rfl⟩⟩
theorem tNum_facts (s : TSt) (y : Int) (h : OkE s.e) : OkE (tNum s y).2.e ∧ ((s.e ≠ 0 ∧ tNum s y = (0, s)) ∨ (s.e = 0 ∧ (tNum s y).2.e = 0) ∨ (s.e = 0 ∧ (tNum s y).2.e ≠ 0 ∧ (tNum s y).1 = 0)) := by
  by_cases hc : s.e = 0 ∧ (y < 1 ∨ 8 < y)
  · have : tNum s y = (0, { s with e := 1 }) := by rw [tNum, if_pos hc]
    rw [this]; exact ⟨.inr (.inl rfl), .inr (.inr ⟨hc.1, by simp, rfl⟩)⟩
  · have e : tNum s y = (beVal (takeF s y.toNat).1, (takeF s y.toNat).2) := by rw [tNum, if_neg hc]
    rw [e]
    obtain ⟨h1, h2⟩ := takeF_facts s y.toNat h
    refine ⟨h1, ?_⟩
    rcases h2 with ⟨a, b⟩ | ⟨a, b⟩ | ⟨a, b, c⟩
    · exact .inl ⟨a, by rw [b]; rfl⟩
    · exact .inr (.inl ⟨a, b⟩)
    · exact .inr (.inr ⟨a, b, by show beVal (takeF s y.toNat).1 = 0; rw [c]; rfl⟩)
theorem tText_facts (s : TSt) (h : OkE s.e) : OkE (tText s).2.e ∧ ((s.e ≠ 0 ∧ tText s = ([], s)) ∨ (s.e = 0 ∧ (tText s).2.e = 0) ∨ (s.e = 0 ∧ (tText s).2.e ≠ 0 ∧ (tText s).1 = [])) := by
  obtain ⟨h1, h2⟩ := tNum_facts s 1 h
  obtain ⟨h3, h4⟩ := takeF_facts (tNum s 1).2 (tNum s 1).1 h1
  refine ⟨h3, ?_⟩
  rcases h2 with ⟨a, b⟩ | ⟨a, b⟩ | ⟨a, b, c⟩
  · refine .inl ⟨a, ?_⟩
    rw [tText, b]; simp [takeF, a]
  · rcases h4 with ⟨a', b'⟩ | ⟨a', b'⟩ | ⟨a', b', c'⟩
    · exact absurd b a'
    · exact .inr (.inl ⟨a, b'⟩)
    · exact .inr (.inr ⟨a, b', c'⟩)
  · rcases h4 with ⟨a', b'⟩ | ⟨a', b'⟩ | ⟨a', b', c'⟩
    · refine .inr (.inr ⟨a, ?_, ?_⟩)
      · rw [tText, b']; exact b
      · rw [tText, b']
    · exact absurd a' b
    · exact absurd a' b

end Go.Proofs.YtjdepdgoaopfoaaDoor
