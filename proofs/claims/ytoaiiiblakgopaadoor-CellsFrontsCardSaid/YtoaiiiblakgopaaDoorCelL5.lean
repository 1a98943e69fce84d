/- The walks of the chapter on pages of cells: the law on what comes back, whole. -/
import Derived.Test.YtoaiiiblakgopaaDoorCelL4
namespace Go.Proofs.YtoaiiiblakgopaaDoor
open Go.RowKit

theorem u8_of {a : Int} (h : (Lit.int .u8 a).wf = true) : ∃ k : UInt8, a = (k.toNat : Int) := ⟨UInt8.ofNat a.toNat, by
  simp [Lit.wf, IntKind.min, IntKind.max, IntKind.signed, IntKind.bits] at h
  rw [UInt8.toNat_ofNat']; omega⟩

set_option maxRecDepth 100000 in
set_option maxHeartbeats 4000000 in
theorem lBack (kind : UInt8) (a a2 : Option Addr) (len cap len2 cap2 : Nat) (l m : List (List UInt8)) (w : World) (h : Bss w a len cap l) (h2 : Bss w a2 len2 cap2 m) (hh : Half w) :
    Calls Tryd.prog 5 #[.int .u8 kind.toNat, .slice a len cap, .slice a2 len2 cap2] w fun e w' => e = .returned (.bool true) ∧ Below w.heap.size w w' := by
  have haw := awake_any w hh
  have hsm : ∀ W, Below w.heap.size w W → Calls Tryd.prog 9 #[.slice a len cap] W fun e w' => e = .returned (.bool (smallF l)) ∧ W = w' := fun W hW => small_any a len cap l W (h.below (Nat.le_refl _) hW)
  have hsm2 : ∀ W, Below w.heap.size w W → Calls Tryd.prog 9 #[.slice a2 len2 cap2] W fun e w' => e = .returned (.bool (smallF m)) ∧ W = w' := fun W hW => small_any a2 len2 cap2 m W (h2.below (Nat.le_refl _) hW)
  by_cases hs : smallF l = true ∧ smallF m = true
  · by_cases hf : fits kind l = true
    · exact lBack_ok kind a a2 len cap len2 cap2 l m w h h2 hh hs.1 hs.2 hf
    · exact lBack_bad kind a a2 len cap len2 cap2 l m w h h2 hh hs.1 hs.2 hf
  · have hcase : smallF l = false ∨ smallF l = true ∧ smallF m = false := by
      cases hx : smallF l
      · exact .inl rfl
      · cases hy : smallF m
        · exact .inr ⟨rfl, rfl⟩
        · exact absurd ⟨hx, hy⟩ hs
    clear hs
    generalize smallF l = b1 at *
    generalize smallF m = b2 at *
    rcases hcase with rfl | ⟨rfl, rfl⟩
    all_goals
      go_enter Tryd.func5, Tryd.ntmps5
      go_wp2_with fail
      refine haw.mono ?_
      rintro e w1 ⟨rfl, hb⟩
      go_wp2_with fail
      refine (hsm w1 hb).mono ?_
      rintro e w2 ⟨rfl, rfl⟩
      go_wp2_with fail
      refine (hsm2 w1 hb).mono ?_
      rintro e w2 ⟨rfl, rfl⟩
      go_wp2_with fail
      go_ret
      exact ⟨rfl, hb⟩
end Go.Proofs.YtoaiiiblakgopaaDoor
