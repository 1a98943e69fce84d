/- The chapter on metas: two versions on end, pages that are spoiled, others' pages: plain laws. -/
import Derived.Test.YtjdepdgoaopfoaaDoorMetD
import Derived.Deep.RegionHeld3
namespace Go.Proofs.YtjdepdgoaopfoaaDoor

def nextM (m : Mt) : Mt := ⟨m.label, m.txn + 1, 0, m.list, m.high⟩
theorem nextM_ok {m : Mt} (h : metaOk m = true) : metaOk (nextM m) = true := by
  rw [metaOk_iff] at h ⊢
  obtain ⟨h1, h2, h3, h4, h5, h6, h7, h8⟩ := h
  exact ⟨h1, h2, by show 0 < m.txn + 1; omega, h4, h5, by rw [placeB_iff]; exact .inl rfl, by rw [placeB_iff] at h7 ⊢; exact h7, .inl rfl⟩

theorem xor8_val (x : UInt8) : (UInt8.ofNat (x.toNat ^^^ 8)).toNat = x.toNat ^^^ 8 := by
  have e : (x.toNat ^^^ 8) < 256 := Nat.xor_lt_two_pow (n := 8) x.toNat_lt (by decide)
  rw [UInt8.toNat_ofNat', Nat.mod_eq_of_lt e]
theorem xor8_ne (x : UInt8) : UInt8.ofNat (x.toNat ^^^ 8) ≠ x := by
  intro h
  have e := congrArg UInt8.toNat h
  rw [xor8_val] at e
  have := congrArg (fun y => x.toNat ^^^ y) e
  simp [← Nat.xor_assoc] at this
/-- A page of which a byte was turned. -/
def spoil (p : List UInt8) (k : Nat) : List UInt8 := p.set k (UInt8.ofNat ((p[k]?.getD 0).toNat ^^^ 8))
theorem spoil_length (p : List UInt8) (k : Nat) : (spoil p k).length = p.length := by simp [spoil]
theorem page_len5 (m : Mt) : (pageOf 5 [metaB m]).length = 128 := pageOf_length 5 _ (by
  have h := fits_meta m
  simp only [fits, Bool.and_eq_true, decide_eq_true_eq] at h; exact h.2)
theorem counts_spoil (m : Mt) (k : Nat) (hk : k < 128) (slot : Nat) (label : Int) : countsB (spoil (pageOf 5 [metaB m]) k) slot label = false := by
  have hl := page_len5 m
  have hg : (pageOf 5 [metaB m])[k]? = some ((pageOf 5 [metaB m])[k]?.getD 0) := by rw [List.getElem?_eq_getElem (by omega)]; rfl
  have hu := page_turned 5 [metaB m] (fits_meta m) k hk (UInt8.ofNat (((pageOf 5 [metaB m])[k]?.getD 0).toNat ^^^ 8)) (by
    rw [hg]; intro e; exact xor8_ne _ (Option.some.inj e).symm)
  have he : getE (spoil (pageOf 5 [metaB m]) k) = 12 := by
    show getE ((pageOf 5 [metaB m]).set k _) = 12
    rw [getE, hu]; rfl
  rw [countsB, he]; rfl
/-- What is told of two pages of a version and the next one, and of them spoiled. -/
def FallsTold (m : Mt) (a b a' b' : List UInt8) : Prop :=
  newM a b m.label = nextM m ∧ newB a b m.label = true ∧ newM a' b m.label = m ∧ newB a' b m.label = true ∧ newB a' b' m.label = false
theorem falls_even (m : Mt) (h : metaOk m = true) (ht : m.txn + 1 < 18446744073709551616) (k : Nat) (hk : k < 128) (he : m.txn % 2 = 0) :
    newM (putV m) (putV (nextM m)) m.label = nextM m ∧ newB (putV m) (putV (nextM m)) m.label = true ∧
    newM (putV m) (spoil (putV (nextM m)) k) m.label = m ∧ newB (putV m) (spoil (putV (nextM m)) k) m.label = true ∧ newB (spoil (putV m) k) (spoil (putV (nextM m)) k) m.label = false := by
  have h2 := nextM_ok h
  obtain ⟨e1, g1⟩ := get_put m h (by omega)
  obtain ⟨e2, g2⟩ := get_put (nextM m) h2 ht
  have c1 := counts_put m h (by omega)
  have c2 := counts_put (nextM m) h2 ht
  have s1 := counts_spoil m k hk
  have s2 := counts_spoil (nextM m) k hk
  rw [(putV_ok h).1, (putV_ok h2).1]
  have hn : (nextM m).txn % 2 = 1 := by show (m.txn + 1) % 2 = 1; omega
  have hl : (nextM m).label = m.label := rfl
  have ht2 : m.txn < (nextM m).txn := Nat.lt_succ_self _
  simp [newM, newB, c1, c2, s1, s2, g1, g2, he, hn, hl, ht2]
theorem falls_odd (m : Mt) (h : metaOk m = true) (ht : m.txn + 1 < 18446744073709551616) (k : Nat) (hk : k < 128) (he : m.txn % 2 = 1) :
    newM (putV (nextM m)) (putV m) m.label = nextM m ∧ newB (putV (nextM m)) (putV m) m.label = true ∧
    newM (spoil (putV (nextM m)) k) (putV m) m.label = m ∧ newB (spoil (putV (nextM m)) k) (putV m) m.label = true ∧ newB (spoil (putV (nextM m)) k) (spoil (putV m) k) m.label = false := by
  have h2 := nextM_ok h
  obtain ⟨e1, g1⟩ := get_put m h (by omega)
  obtain ⟨e2, g2⟩ := get_put (nextM m) h2 ht
  have c1 := counts_put m h (by omega)
  have c2 := counts_put (nextM m) h2 ht
  have s1 := counts_spoil m k hk
  have s2 := counts_spoil (nextM m) k hk
  rw [(putV_ok h).1, (putV_ok h2).1]
  have hn : (nextM m).txn % 2 = 0 := by show (m.txn + 1) % 2 = 0; omega
  have hl : (nextM m).label = m.label := rfl
  have ht2 : ¬ (nextM m).txn < m.txn := by show ¬ m.txn + 1 < m.txn; omega
  simp [newM, newB, c1, c2, s1, s2, g1, g2, he, hn, hl, ht2]

/-- Another one's page. -/
def otherM (o : Int) (txn : Nat) : Mt := ⟨o, max txn 1, 0, 0, 2⟩
theorem otherM_ok (o : Nat) (h : o < 64) (txn : Nat) : metaOk (otherM o txn) = true := by
  rw [metaOk_iff]
  exact ⟨by show (0 : Int) ≤ (o : Int); omega, by show (o : Int) < 64; omega, by show 0 < max txn 1; omega, by show (2 : Int) ≤ 2; omega, by show (2 : Int) ≤ 1000; omega, by rw [placeB_iff]; exact .inl rfl, by rw [placeB_iff]; exact .inl rfl, .inl rfl⟩
/-- In its own slot, beside another one's page: its own label's newest is it, or one that is no elder. -/
theorem others_even (m : Mt) (h : metaOk m = true) (ht : m.txn < 18446744073709551616) (o : Nat) (ho : o < 64) (txn : Nat) (hx : txn < 18446744073709551616) (he : m.txn % 2 = 0) :
    newB (putV m) (putV (otherM o txn)) m.label = true ∧ m.txn ≤ (newM (putV m) (putV (otherM o txn)) m.label).txn ∧
    ((o : Int) ≠ m.label → newM (putV m) (putV (otherM o txn)) m.label = m ∧ newB (putV (otherM o txn)) (putV m) m.label = false ∧ (newM (putV (otherM o txn)) (putV m) m.label).txn = 0) := by
  have h2 := otherM_ok o ho txn
  have hx2 : (otherM o txn).txn < 18446744073709551616 := by show max txn 1 < _; omega
  obtain ⟨e1, g1⟩ := get_put m h ht
  obtain ⟨e2, g2⟩ := get_put _ h2 hx2
  have c1 := counts_put m h ht
  have c2 := counts_put _ h2 hx2
  rw [(putV_ok h).1, (putV_ok h2).1]
  have hl : (otherM o txn).label = (o : Int) := rfl
  refine ⟨by simp [newB, c1, he], ?_, fun hne => ?_⟩
  · rw [newM, c1, c2, g1, g2]
    simp only [he, BEq.rfl, decide_true, Bool.and_self, Bool.not_true, Bool.false_or, if_true]
    split
    · rename_i hh; simp at hh; omega
    · exact Nat.le_refl _
  · have hf : ((otherM o txn).label == m.label) = false := by rw [hl]; simpa using hne
    simp [newM, newB, c1, c2, g1, g2, he, hf, Mt.zero]
theorem others_odd (m : Mt) (h : metaOk m = true) (ht : m.txn < 18446744073709551616) (o : Nat) (ho : o < 64) (txn : Nat) (hx : txn < 18446744073709551616) (he : m.txn % 2 = 1) :
    newB (putV (otherM o txn)) (putV m) m.label = true ∧ m.txn ≤ (newM (putV (otherM o txn)) (putV m) m.label).txn ∧
    ((o : Int) ≠ m.label → newM (putV (otherM o txn)) (putV m) m.label = m ∧ newB (putV m) (putV (otherM o txn)) m.label = false ∧ (newM (putV m) (putV (otherM o txn)) m.label).txn = 0) := by
  have h2 := otherM_ok o ho txn
  have hx2 : (otherM o txn).txn < 18446744073709551616 := by show max txn 1 < _; omega
  obtain ⟨e1, g1⟩ := get_put m h ht
  obtain ⟨e2, g2⟩ := get_put _ h2 hx2
  have c1 := counts_put m h ht
  have c2 := counts_put _ h2 hx2
  rw [(putV_ok h).1, (putV_ok h2).1]
  have hl : (otherM o txn).label = (o : Int) := rfl
  refine ⟨by simp [newB, c1, he], ?_, fun hne => ?_⟩
  · rw [newM, c1, c2, g1, g2]
    simp only [he, BEq.rfl, decide_true, Bool.and_self, Bool.true_and]
    split
    · exact Nat.le_refl _
    · rename_i hh
      split
      · rename_i h3
        simp [h3] at hh; omega
      · rename_i h3
        simp [h3] at hh
  · have hf : ((otherM o txn).label == m.label) = false := by rw [hl]; simpa using hne
    simp [newM, newB, c1, c2, g1, g2, he, hf, Mt.zero]
end Go.Proofs.YtjdepdgoaopfoaaDoor
