/- The law ListOwns. -/
import Derived.Test.YtopnfpobbemfbaaDoorM8
namespace Go.Proofs.YtopnfpobbemfbaaDoor
open Go.RowKit

set_option maxRecDepth 100000 in
set_option maxHeartbeats 8000000 in
theorem lOwns (a0 a1 : Int) (w0 : (Lit.int .u16 a0).wf = true) (w1 : (Lit.int .u16 a1).wf = true) (w : World) (hh : Half w) : Calls Tryd.prog 6 #[.int .u16 a0, .int .u16 a1] w fun e w' => e = .returned (.bool true) ∧ Below w.heap.size w w' := by
  simp [Lit.wf, IntKind.min, IntKind.max, IntKind.signed, IntKind.bits] at w0 w1
  obtain ⟨f, hf⟩ : ∃ f : Nat, a0 % 900 = f := ⟨(a0 % 900).toNat, by omega⟩
  obtain ⟨v, hv⟩ : ∃ f : Nat, a1 % 900 = f := ⟨(a1 % 900).toNat, by omega⟩
  have hf9 : f < 900 := by omega
  have hv9 : v < 900 := by omega
  have OWN : ∀ (W : World) (x y : Int) (F V : Nat), x = F → y = V → F ≤ 1000 → V ≤ 1000 → Calls Tryd.prog 14 #[.int .i64 x, .int .i64 y] W fun e w' => e = .returned (.int .i64 (ownF F V : Int)) ∧ W = w' := by
    intro W x y F V hx hy h1 h2
    subst hx hy
    have := own_any F V W (by omega) (by omega) (by omega) (by omega)
    simpa using this
  have NEED : ∀ (W : World) (x : Int), x = ((f + v : Nat) : Int) → Calls Tryd.prog 11 #[.int .i64 x] W fun e w' => e = .returned (.int .i64 (needF ((f + v : Nat) : Int) : Int)) ∧ W = w' := by
    intro W x hx
    subst hx
    exact lneed_any _ W (by omega)
  obtain ⟨k, hk⟩ : ∃ k, ownF f v = k := ⟨_, rfl⟩
  obtain ⟨a, ha⟩ : ∃ k, ownF (f + 1) v = k := ⟨_, rfl⟩
  obtain ⟨b, hb⟩ : ∃ k, ownF f (v + 1) = k := ⟨_, rfl⟩
  obtain ⟨q, hq⟩ : ∃ k, needF ((f + v : Nat) : Int) = k := ⟨_, rfl⟩
  have hkq : k ≤ q := by rw [← hk, ← hq]; unfold ownF needF; split <;> omega
  have hka : k ≤ a ∧ a ≤ k + 1 := by rw [← hk, ← ha]; unfold ownF; omega
  have hkb : k ≤ b ∧ b ≤ k + 1 := by rw [← hk, ← hb]; unfold ownF; omega
  have hk0 : (0 < k ↔ 0 < f + v) := by rw [← hk]; unfold ownF; omega
  have hk1 : k ≤ 10000 := by rw [← hk]; unfold ownF; omega
  have HK := Lib.hid hk
  have HA := Lib.hid ha
  have HB := Lib.hid hb
  have HQ := Lib.hid hq
  clear hk ha hb
  rw [hq] at NEED
  clear hq
  go_enter Tryd.func6, Tryd.ntmps6
  go_wp2_with fail
  refine (awake_any w hh).mono ?_
  rintro e w2 ⟨rfl, hb2⟩
  go_wp2_with fail
  refine (OWN w2 _ _ f v (by omega) (by omega) (by omega) (by omega)).mono ?_
  rintro e w3 ⟨rfl, rfl⟩
  rw [HK.out]
  go_wp2_with fail
  refine (OWN w2 _ _ (f + 1) v (by omega) (by omega) (by omega) (by omega)).mono ?_
  rintro e w3 ⟨rfl, rfl⟩
  rw [HA.out]
  go_wp2_with fail
  refine (OWN w2 _ _ f (v + 1) (by omega) (by omega) (by omega) (by omega)).mono ?_
  rintro e w3 ⟨rfl, rfl⟩
  rw [HB.out]
  have c0 : decide ((0 : Int) ≤ (k : Int)) = true := by simp
  have c1 : decide ((0 : Int) ≤ (a : Int) - (k : Int)) = true := by simp; omega
  have c2 : decide ((a : Int) - (k : Int) ≤ 1) = true := by simp; omega
  have c3 : decide ((0 : Int) ≤ (b : Int) - (k : Int)) = true := by simp; omega
  have c4 : decide ((b : Int) - (k : Int) ≤ 1) = true := by simp; omega
  have c5 : decide ((k : Int) ≤ (q : Int)) = true := by simp; omega
  go_wp2_with fail
  refine (NEED w2 _ (by omega)).mono ?_
  rintro e w3 ⟨rfl, rfl⟩
  by_cases hz : 0 < k
  · have hz2 : 0 < f + v := hk0.1 hz
    have d0 : decide ((0 : Int) < (k : Int)) = true := by simp; omega
    have d1 : decide ((0 : Int) < (f : Int) + (v : Int)) = true := by simp; omega
    clear hk0
    obtain ⟨ka1, ka2⟩ := hka
    obtain ⟨kb1, kb2⟩ := hkb
    have ka3 : decide (k ≤ a) = true := by simpa using ka1
    have kb3 : decide (k ≤ b) = true := by simpa using kb1
    have kq3 : decide (k ≤ q) = true := by simpa using hkq
    go_wp2_with fail
    go_ret
    exact ⟨rfl, hb2⟩
  · have hz2 : ¬ 0 < f + v := fun h => hz (hk0.2 h)
    have d0 : decide ((0 : Int) < (k : Int)) = false := by simp; omega
    have d1 : decide ((0 : Int) < (f : Int) + (v : Int)) = false := by simp; omega
    clear hk0
    obtain ⟨ka1, ka2⟩ := hka
    obtain ⟨kb1, kb2⟩ := hkb
    have ka3 : decide (k ≤ a) = true := by simpa using ka1
    have kb3 : decide (k ≤ b) = true := by simpa using kb1
    have kq3 : decide (k ≤ q) = true := by simpa using hkq
    go_wp2_with fail
    go_ret
    exact ⟨rfl, hb2⟩
end Go.Proofs.YtopnfpobbemfbaaDoor
