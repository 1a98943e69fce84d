/- Keys of records rise with their numbers: plain. -/
import Derived.Test.YtpghlmcoajaiiaaDoorM7
import Derived.Test.YtpghlmcoajaiiaaDoorM1
namespace Go.Proofs.YtpghlmcoajaiiaaDoor

theorem lt_app : ∀ {a b : List UInt8} (s t : List UInt8), a.length = b.length → a < b → a ++ s < b ++ t
  | [], [], _, _, _, h => absurd h (by simp)
  | [], _ :: _, _, _, h, _ => by simp at h
  | _ :: _, [], _, _, h, _ => by simp at h
  | x :: r, y :: q, s, t, hl, h => by
    rcases List.cons_lt_cons_iff.1 h with h1 | ⟨e, h1⟩
    · exact List.cons_lt_cons_iff.2 (.inl h1)
    · exact List.cons_lt_cons_iff.2 (.inr ⟨e, lt_app s t (by simpa using hl) h1⟩)
theorem app_lt : ∀ (a : List UInt8) {s t : List UInt8}, s < t → a ++ s < a ++ t
  | [], _, _, h => h
  | _ :: r, _, _, h => List.cons_lt_cons_iff.2 (.inr ⟨rfl, app_lt r h⟩)
theorem be_lt : ∀ (n : Nat) {x y : Nat}, x < y → y < 256 ^ n → beBytes x n < beBytes y n
  | 0, x, y, h, hy => by simp at hy; omega
  | n + 1, x, y, h, hy => by
    show beBytes (x / 256) n ++ [UInt8.ofNat x] < beBytes (y / 256) n ++ [UInt8.ofNat y]
    by_cases hd : x / 256 < y / 256
    · exact lt_app _ _ (by rw [beBytes_length, beBytes_length]) (be_lt n hd (by rw [Nat.pow_succ] at hy; omega))
    · have e : x / 256 = y / 256 := by
        have := Nat.div_le_div_right (c := 256) (Nat.le_of_lt h)
        omega
      rw [e]
      refine app_lt _ (List.cons_lt_cons_iff.2 (.inl ?_))
      show (UInt8.ofNat x).toNat < (UInt8.ofNat y).toNat
      rw [UInt8.toNat_ofNat', UInt8.toNat_ofNat']
      omega
/-- A number's key is below the next one's. -/
theorem keyB_lt {m n : Nat} (h : m < n) (hn : n < 18446744073709551616) : keyB (m : Int) < keyB (n : Int) := by
  have e : ∀ k : Nat, k < 18446744073709551616 → keyB (k : Int) = beBytes k 8 := fun k hk => by
    have hu : u64w (k : Int) = (k : Int) := by
      unfold u64w IntKind.wrap
      simp [IntKind.signed, IntKind.bits]
      omega
    unfold keyB numF
    rw [hu, if_neg (by omega)]
    rfl
  rw [e m (by omega), e n hn]
  exact be_lt 8 h (by omega)
end Go.Proofs.YtpghlmcoajaiiaaDoor
