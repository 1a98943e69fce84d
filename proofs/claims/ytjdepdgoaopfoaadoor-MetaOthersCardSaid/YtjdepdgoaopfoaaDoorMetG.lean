/- The walks of the chapter on metas: a page's meta. -/
import Derived.Test.YtjdepdgoaopfoaaDoorMetQ
import Derived.Test.YtjdepdgoaopfoaaDoorOctR
namespace Go.Proofs.YtjdepdgoaopfoaaDoor
open Go.RowKit

/-! what is taken -/
theorem tNum_take (l : List UInt8) (n : Nat) (h1 : 1 ≤ n) (h8 : n ≤ 8) (h : n ≤ l.length) : tNum ⟨l, 0⟩ (n : Int) = (beVal (l.take n), ⟨l.drop n, 0⟩) := by
  rw [tNum, if_neg (by simp; omega)]
  simp [takeF, show ¬ l.length < n by omega]
theorem tNum_left (s : TSt) (n : Nat) (h1 : 1 ≤ n) (h8 : n ≤ 8) (h : (tNum s (n : Int)).2.e = 0) : s.e = 0 ∧ (tNum s (n : Int)).2.l.length + n = s.l.length := by
  obtain ⟨l, e⟩ := s
  by_cases he : e = 0
  · subst he
    rw [tNum, if_neg (by simp; omega)] at h ⊢
    simp only [Int.toNat_natCast, takeF] at h ⊢
    by_cases hl : l.length < n
    · simp [hl] at h
    · simp [hl]; omega
  · exfalso
    rw [tNum, if_neg (by simp [he])] at h
    simp [takeF, he] at h

/-- The states of what is taken. -/
def mSt (r : List UInt8) : Nat → TSt
  | 0 => (tNum (tNum ⟨r, 0⟩ 1).2 8).2
  | k + 1 => (tNum (mSt r k) 2).2
def mVl (r : List UInt8) (k : Nat) : Nat := (tNum (mSt r k) 2).1
def mMt (r : List UInt8) (k : Nat) : Mt := ⟨(tNum ⟨r, 0⟩ 1).1, (tNum (tNum ⟨r, 0⟩ 1).2 8).1, if 0 < k then mVl r 0 else 0, if 1 < k then mVl r 1 else 0, if 2 < k then mVl r 2 else 0⟩
theorem mMt_set (r : List UInt8) (k : Nat) (h : k < 3) : mcells (mMt r (k + 1)) = (mcells (mMt r k)).setIfInBounds (k + 2) (.int .i64 (mVl r k : Int)) := by
  match k, h with
  | 0, _ => simp [mcells, mMt]
  | 1, _ => simp [mcells, mMt]
  | 2, _ => simp [mcells, mMt]
theorem mSt_done (r : List UInt8) : tDone (mSt r 3) = 0 ↔ r.length = 15 := by
  constructor
  · intro h
    have he : (mSt r 3).e = 0 ∧ (mSt r 3).l.length = 0 := by
      unfold tDone at h
      split at h
      · rename_i h2; rcases h2 with h2 | h2
        · exact absurd h h2
        · exact ⟨h, h2⟩
      · simp at h
    obtain ⟨a1, b1⟩ := tNum_left (mSt r 2) 2 (by omega) (by omega) he.1
    obtain ⟨a2, b2⟩ := tNum_left (mSt r 1) 2 (by omega) (by omega) a1
    obtain ⟨a3, b3⟩ := tNum_left (mSt r 0) 2 (by omega) (by omega) a2
    obtain ⟨a4, b4⟩ := tNum_left (tNum ⟨r, 0⟩ 1).2 8 (by omega) (by omega) a3
    obtain ⟨a5, b5⟩ := tNum_left ⟨r, 0⟩ 1 (by omega) (by omega) a4
    have c1 : (mSt r 3).l.length + 2 = (mSt r 2).l.length := b1
    have c2 : (mSt r 2).l.length + 2 = (mSt r 1).l.length := b2
    have c3 : (mSt r 1).l.length + 2 = (mSt r 0).l.length := b3
    have c4 : (mSt r 0).l.length + 8 = (tNum ⟨r, 0⟩ 1).2.l.length := b4
    have c5 : (tNum ⟨r, 0⟩ 1).2.l.length + 1 = r.length := b5
    omega
  · intro h
    have t1 : tNum ⟨r, 0⟩ 1 = (beVal (r.take 1), ⟨r.drop 1, 0⟩) := tNum_take r 1 (by omega) (by omega) (by omega)
    have t2 : tNum ⟨r.drop 1, 0⟩ 8 = (beVal ((r.drop 1).take 8), ⟨r.drop 9, 0⟩) := by
      have := tNum_take (r.drop 1) 8 (by omega) (by omega) (by simp; omega); rwa [List.drop_drop] at this
    have t3 : tNum ⟨r.drop 9, 0⟩ 2 = (beVal ((r.drop 9).take 2), ⟨r.drop 11, 0⟩) := by
      have := tNum_take (r.drop 9) 2 (by omega) (by omega) (by simp; omega); rwa [List.drop_drop] at this
    have t4 : tNum ⟨r.drop 11, 0⟩ 2 = (beVal ((r.drop 11).take 2), ⟨r.drop 13, 0⟩) := by
      have := tNum_take (r.drop 11) 2 (by omega) (by omega) (by simp; omega); rwa [List.drop_drop] at this
    have t5 : tNum ⟨r.drop 13, 0⟩ 2 = (beVal ((r.drop 13).take 2), ⟨r.drop 15, 0⟩) := by
      have := tNum_take (r.drop 13) 2 (by omega) (by omega) (by simp; omega); rwa [List.drop_drop] at this
    have : mSt r 3 = ⟨r.drop 15, 0⟩ := by simp only [mSt, t1, t2, t3, t4, t5]
    rw [this, tDone]
    simp [h]
theorem mMt_dec (r : List UInt8) (h : r.length = 15) : mMt r 3 = decM r := by
  have t1 : tNum ⟨r, 0⟩ 1 = (beVal (r.take 1), ⟨r.drop 1, 0⟩) := tNum_take r 1 (by omega) (by omega) (by omega)
  have t2 : tNum ⟨r.drop 1, 0⟩ 8 = (beVal ((r.drop 1).take 8), ⟨r.drop 9, 0⟩) := by
    have := tNum_take (r.drop 1) 8 (by omega) (by omega) (by simp; omega); rwa [List.drop_drop] at this
  have t3 : tNum ⟨r.drop 9, 0⟩ 2 = (beVal ((r.drop 9).take 2), ⟨r.drop 11, 0⟩) := by
    have := tNum_take (r.drop 9) 2 (by omega) (by omega) (by simp; omega); rwa [List.drop_drop] at this
  have t4 : tNum ⟨r.drop 11, 0⟩ 2 = (beVal ((r.drop 11).take 2), ⟨r.drop 13, 0⟩) := by
    have := tNum_take (r.drop 11) 2 (by omega) (by omega) (by simp; omega); rwa [List.drop_drop] at this
  have t5 : tNum ⟨r.drop 13, 0⟩ 2 = (beVal ((r.drop 13).take 2), ⟨r.drop 15, 0⟩) := by
    have := tNum_take (r.drop 13) 2 (by omega) (by omega) (by simp; omega); rwa [List.drop_drop] at this
  have e0 : mSt r 0 = ⟨r.drop 9, 0⟩ := by simp only [mSt, t1, t2]
  have e1 : mSt r 1 = ⟨r.drop 11, 0⟩ := by rw [mSt, e0, t3]
  have e2 : mSt r 2 = ⟨r.drop 13, 0⟩ := by rw [mSt, e1, t4]
  simp only [mMt, mVl, e0, e1, e2, t1, t2, t3, t4, t5, decM]
  simp
theorem mVl_lt (r : List UInt8) (k : Nat) : mVl r k < 65536 := tNum_lt (mSt r k) 2
theorem mSt_len (r : List UInt8) (k : Nat) : (mSt r k).l.length ≤ r.length := by
  induction k with
  | zero => exact Nat.le_trans (tNum_len _ _) (tNum_len _ _)
  | succ k ih => exact Nat.le_trans (tNum_len _ _) ih

set_option maxRecDepth 100000 in
set_option maxHeartbeats 1000000 in
theorem prefix_any (a : Option Addr) (n cap : Nat) (l : List UInt8) (b : Option Addr) (m cap2 : Nat) (r : List UInt8) (w : World) (h1 : Bs w a n cap l) (h2 : Bs w b m cap2 r) :
    Calls Tryd.prog 48 #[.slice a n cap, .slice b m cap2] w fun e w' => e = .returned (.bool (l.take m == r)) ∧ w = w' := by
  have hl1 := h1.len
  have hl2 := h2.len
  have hc1 := h1.cap
  have hc2 := h2.cap
  unfold maxLen at hc1 hc2
  by_cases hlt : m ≤ n
  · have ht := h1.take m hlt
    clear hl1 hl2
    go_enter Tryd.func48, Tryd.ntmps48
    go_wp2_with fail
    refine (equal_any _ _ _ _ _ _ _ _ w ht h2).mono ?_
    rintro e w' ⟨rfl, rfl⟩
    go_wp2_with fail
    go_ret
    exact ⟨rfl, rfl⟩
  · have hlt2 : n < m := by omega
    have HR : Hid ((l.take m == r) = false) := Lib.hid (by
      rw [beq_eq_false_iff_ne]
      intro e
      have := congrArg List.length e
      simp [hl1, hl2] at this; omega)
    clear hl1 hl2
    go_enter Tryd.func48, Tryd.ntmps48
    go_wp2_with fail
    go_ret
    exact ⟨ret_bool (by rw [HR.out]), rfl⟩
end Go.Proofs.YtjdepdgoaopfoaaDoor
