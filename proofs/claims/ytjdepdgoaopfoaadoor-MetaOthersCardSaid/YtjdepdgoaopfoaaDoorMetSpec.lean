/- Where a tree stands: metas as bytes; plain laws. -/
import Derived.Test.YtjdepdgoaopfoaaDoorCelB
import Derived.Test.YtjdepdgoaopfoaaDoorCelX
namespace Go.Proofs.YtjdepdgoaopfoaaDoor

/-- A meta. -/
structure Mt where
  label : Int
  txn : Nat
  root : Int
  list : Int
  high : Int
deriving DecidableEq
def Mt.zero : Mt := ⟨0, 0, 0, 0, 0⟩
/-- The numbers fit their kinds. -/
def Mt.wf (m : Mt) : Prop := (-9223372036854775808 ≤ m.label ∧ m.label ≤ 9223372036854775807) ∧ m.txn < 18446744073709551616 ∧ (-9223372036854775808 ≤ m.root ∧ m.root ≤ 9223372036854775807) ∧ (-9223372036854775808 ≤ m.list ∧ m.list ≤ 9223372036854775807) ∧ (-9223372036854775808 ≤ m.high ∧ m.high ≤ 9223372036854775807)

def placeB (m : Mt) (n : Int) : Bool := n == 0 || (decide (2 ≤ n) && decide (n < m.high))
/-- May a meta be? -/
def metaOk (m : Mt) : Bool := decide (0 ≤ m.label) && (decide (m.label < 64) && (decide (0 < m.txn) && (decide (2 ≤ m.high) && (decide (m.high ≤ 1000) && (placeB m m.root && (placeB m m.list && (m.root == 0 || m.root != m.list)))))))
theorem placeB_iff (m : Mt) (n : Int) : placeB m n = true ↔ n = 0 ∨ 2 ≤ n ∧ n < m.high := by simp [placeB]
theorem metaOk_iff (m : Mt) : metaOk m = true ↔ 0 ≤ m.label ∧ m.label < 64 ∧ 0 < m.txn ∧ 2 ≤ m.high ∧ m.high ≤ 1000 ∧ placeB m m.root = true ∧ placeB m m.list = true ∧ (m.root = 0 ∨ m.root ≠ m.list) := by simp [metaOk]

def markB : List UInt8 := [109, 101, 116, 97]
def encM (m : Mt) : List UInt8 := beBytes m.label.toNat 1 ++ (beBytes m.txn 8 ++ (beBytes m.root.toNat 2 ++ (beBytes m.list.toNat 2 ++ beBytes m.high.toNat 2)))
def metaB (m : Mt) : List UInt8 := markB ++ encM m
theorem encM_length (m : Mt) : (encM m).length = 15 := by simp [encM, beBytes_length]
theorem metaB_length (m : Mt) : (metaB m).length = 19 := by rw [metaB, List.length_append, encM_length]; rfl
/-- The meta that fifteen bytes are. -/
def decM (r : List UInt8) : Mt := ⟨beVal (r.take 1), beVal ((r.drop 1).take 8), beVal ((r.drop 9).take 2), beVal ((r.drop 11).take 2), beVal ((r.drop 13).take 2)⟩

theorem beVal_be (x n : Nat) (h : x < 256 ^ n) : beVal (beBytes x n) = x := by rw [beVal_beBytes, Nat.mod_eq_of_lt h]
theorem part_be (t : List UInt8) (n : Nat) (h : t.length = n) : beBytes (beVal t) n = t := by subst h; exact beBytes_beVal t

theorem encM_decM (r : List UInt8) (h : r.length = 15) : encM (decM r) = r := by
  have e1 := part_be (r.take 1) 1 (by simp; omega)
  have e2 := part_be ((r.drop 1).take 8) 8 (by simp; omega)
  have e3 := part_be ((r.drop 9).take 2) 2 (by simp; omega)
  have e4 := part_be ((r.drop 11).take 2) 2 (by simp; omega)
  have e5 := part_be ((r.drop 13).take 2) 2 (by simp; omega)
  unfold encM decM
  simp only [Int.toNat_natCast]
  rw [e1, e2, e3, e4, e5]
  have s5 : (r.drop 13).take 2 = r.drop 13 := List.take_of_length_le (by simp; omega)
  have j4 : (r.drop 11).take 2 ++ r.drop 13 = r.drop 11 := by
    have := List.take_append_drop 2 (r.drop 11); rwa [List.drop_drop] at this
  have j3 : (r.drop 9).take 2 ++ r.drop 11 = r.drop 9 := by
    have := List.take_append_drop 2 (r.drop 9); rwa [List.drop_drop] at this
  have j2 : (r.drop 1).take 8 ++ r.drop 9 = r.drop 1 := by
    have := List.take_append_drop 8 (r.drop 1); rwa [List.drop_drop] at this
  rw [s5, j4, j3, j2, List.take_append_drop]

theorem take_app {α : Type} (a b : List α) (n : Nat) (h : a.length = n) : (a ++ b).take n = a := by
  subst h; exact List.take_left
theorem drop_app {α : Type} (a b : List α) (n : Nat) (h : a.length = n) : (a ++ b).drop n = b := by
  subst h; exact List.drop_left
theorem decM_encM (m : Mt) (h : metaOk m = true) (ht : m.txn < 18446744073709551616) : decM (encM m) = m := by
  rw [metaOk_iff, placeB_iff, placeB_iff] at h
  obtain ⟨h1, h2, _, h4, h5, h6, h7, _⟩ := h
  have d1 : (encM m).drop 1 = beBytes m.txn 8 ++ (beBytes m.root.toNat 2 ++ (beBytes m.list.toNat 2 ++ beBytes m.high.toNat 2)) := drop_app _ _ 1 (beBytes_length _ _)
  have d9 : (encM m).drop 9 = beBytes m.root.toNat 2 ++ (beBytes m.list.toNat 2 ++ beBytes m.high.toNat 2) := by
    rw [show 9 = 1 + 8 from rfl, ← List.drop_drop, d1]; exact drop_app _ _ 8 (beBytes_length _ _)
  have d11 : (encM m).drop 11 = beBytes m.list.toNat 2 ++ beBytes m.high.toNat 2 := by
    rw [show 11 = 9 + 2 from rfl, ← List.drop_drop, d9]; exact drop_app _ _ 2 (beBytes_length _ _)
  have d13 : (encM m).drop 13 = beBytes m.high.toNat 2 := by
    rw [show 13 = 11 + 2 from rfl, ← List.drop_drop, d11]; exact drop_app _ _ 2 (beBytes_length _ _)
  have t1 : (encM m).take 1 = beBytes m.label.toNat 1 := take_app _ _ 1 (beBytes_length _ _)
  unfold decM
  rw [d1, d9, d11, d13, t1, take_app _ _ 8 (beBytes_length _ _), take_app _ _ 2 (beBytes_length _ _), take_app _ _ 2 (beBytes_length _ _), List.take_of_length_le (by rw [beBytes_length]; omega)]
  rw [beVal_be _ _ (by omega), beVal_be _ _ (by omega), beVal_be _ _ (by omega), beVal_be _ _ (by omega), beVal_be _ _ (by omega)]
  obtain ⟨a, b, c, d, e⟩ := m
  simp only at h1 h2 h4 h5 h6 h7 ⊢
  congr <;> omega
theorem decM_wf (r : List UInt8) : (decM r).wf := by
  have key : ∀ (t : List UInt8) (k n : Nat), t.length ≤ k → 256 ^ k = n → beVal t < n := by
    intro t k n hk hn
    have h1 := beVal_lt t
    have h2 : 256 ^ t.length ≤ 256 ^ k := Nat.pow_le_pow_right (by decide) hk
    omega
  have k1 := key (r.take 1) 1 256 (by simp; omega) (by decide)
  have k2 := key ((r.drop 1).take 8) 8 18446744073709551616 (by simp; omega) (by decide)
  have k3 := key ((r.drop 9).take 2) 2 65536 (by simp; omega) (by decide)
  have k4 := key ((r.drop 11).take 2) 2 65536 (by simp; omega) (by decide)
  have k5 := key ((r.drop 13).take 2) 2 65536 (by simp; omega) (by decide)
  unfold Mt.wf decM
  simp only
  omega

/-! what is put, what is got -/
def putV (m : Mt) : List UInt8 := if metaOk m then pageOf 5 [metaB m] else []
def putE (m : Mt) : Int := if metaOk m then 0 else 1
theorem fits_meta (m : Mt) : fits 5 [metaB m] = true := by simp [fits, lens, metaB_length]
/-- The lone cell of a page. -/
def cellM (b : List UInt8) : List UInt8 := (unpL b)[0]?.getD []
def getB (b : List UInt8) : Bool := unpK b == 5 && (decide ((unpL b).length = 1) && (decide ((cellM b).length = 19) && ((cellM b).take 4 == markB && metaOk (decM ((cellM b).drop 4)))))
def getE (b : List UInt8) : Int := if unpE b ≠ 0 then unpE b else if getB b then 0 else 11
def getM (b : List UInt8) : Mt := if getE b = 0 then decM ((cellM b).drop 4) else Mt.zero
theorem getM_wf (b : List UInt8) : (getM b).wf := by
  unfold getM; split
  · exact decM_wf _
  · simp [Mt.wf, Mt.zero]
theorem getM_ok (b : List UInt8) (h : getE b = 0) : metaOk (getM b) = true := by
  have h' := h
  rw [getM, if_pos h]
  unfold getE at h'
  split at h'
  · rename_i h1; exact absurd h' h1
  · split at h'
    · rename_i h2
      simp only [getB, Bool.and_eq_true] at h2
      exact h2.2.2.2.2
    · simp at h'
/-- What is put is got. -/
theorem get_put (m : Mt) (h : metaOk m = true) (ht : m.txn < 18446744073709551616) : getE (pageOf 5 [metaB m]) = 0 ∧ getM (pageOf 5 [metaB m]) = m := by
  obtain ⟨u1, u2, u3⟩ := page_back 5 [metaB m] (fits_meta m)
  have hc : cellM (pageOf 5 [metaB m]) = metaB m := by rw [cellM, u3]; rfl
  have hd : (metaB m).drop 4 = encM m := drop_app _ _ 4 rfl
  have ht4 : (metaB m).take 4 = markB := take_app markB (encM m) 4 rfl
  have hB : getB (pageOf 5 [metaB m]) = true := by
    rw [getB, u2, hc, u3, hd, decM_encM m h ht, h, metaB_length, ht4]
    rfl
  have hE : getE (pageOf 5 [metaB m]) = 0 := by rw [getE, if_neg (by rw [u1]; simp), if_pos hB]
  exact ⟨hE, by rw [getM, if_pos hE, hc, hd, decM_encM m h ht]⟩

/-- Does a page count? -/
def countsB (b : List UInt8) (slot : Nat) (label : Int) : Bool := getE b == 0 && ((getM b).label == label && decide ((getM b).txn % 2 = slot))
/-- The newest one of two. -/
def newM (a b : List UInt8) (label : Int) : Mt :=
  if countsB b 1 label && (!countsB a 0 label || decide ((getM a).txn < (getM b).txn)) then getM b else if countsB a 0 label then getM a else Mt.zero
def newB (a b : List UInt8) (label : Int) : Bool := countsB a 0 label || countsB b 1 label
end Go.Proofs.YtjdepdgoaopfoaaDoor
