/- The walks of the chapter on pages of cells: the laws. -/
import Derived.Test.YtoaiiiblakgopaaDoorCelA
namespace Go.Proofs.YtoaiiiblakgopaaDoor
open Go.RowKit

set_option maxRecDepth 100000 in
set_option maxHeartbeats 2000000 in
theorem lPack (kind : UInt8) (a : Option Addr) (len cap : Nat) (l : List (List UInt8)) (w : World) (h : Bss w a len cap l) (hh : Half w) :
    Calls Tryd.prog 3 #[.int .u8 kind.toNat, .slice a len cap] w fun e w' => e = .returned (.bool true) ∧ Below w.heap.size w w' := by
  have hll := h.1
  have haw := awake_any w hh
  have hsm : ∀ W, Below w.heap.size w W → Calls Tryd.prog 9 #[.slice a len cap] W fun e w' => e = .returned (.bool (smallF l)) ∧ W = w' := fun W hW => small_any a len cap l W (h.below (Nat.le_refl _) hW)
  cases hs : smallF l
  · rw [hs] at hsm
    clear hll hs
    go_enter Tryd.func3, Tryd.ntmps3
    go_wp2_with fail
    refine haw.mono ?_
    rintro e w1 ⟨rfl, hb⟩
    go_wp2_with fail
    refine (hsm w1 hb).mono ?_
    rintro e w2 ⟨rfl, rfl⟩
    go_wp2_with fail
    go_ret
    exact ⟨rfl, hb⟩
  · rw [hs] at hsm
    have hsz := smallF_true hs
    have hl3 : len ≤ 300 := by omega
    have hPk : ∀ W, Below w.heap.size w W → Calls Tryd.prog 10 #[.int .u8 kind.toNat, .slice a len cap] W (PackAny W (packV kind l) (packE kind l)) := fun W hW => pack_any kind a len cap l W (h.below (Nat.le_refl _) hW) (hh.below (Nat.le_refl _) hW) (by omega)
    have hTx : ∀ W, Below w.heap.size w W → Calls Tryd.prog 12 #[.slice a len cap] W (OwnStrs W l) := fun W hW => texts_any a len cap l W (h.below (Nat.le_refl _) hW) (by omega)
    have hSz : ∀ W, Below w.heap.size w W → Calls Tryd.prog 13 #[.slice a len cap] W fun e w' => e = .returned (.int .i64 ((len + lens l : Nat) : Int)) ∧ W = w' := fun W hW => csize_any a len cap l W (h.below (Nat.le_refl _) hW) (by omega)
    have hRs : ∀ W a2 c2, Strs W a2 len c2 l → Calls Tryd.prog 14 #[.slice a2 len c2] W fun e w' => e = .returned (.int .i64 ((len + lens l : Nat) : Int)) ∧ W = w' := fun W a2 c2 hW => rsize_any a2 len c2 l W hW (by omega)
    have hRp : ∀ W a2 c2, Strs W a2 len c2 l → Calls Tryd.prog 11 #[.int .u8 kind.toNat, .slice a2 len c2] W (StrPost W (packV kind l) (packE kind l)) := fun W a2 c2 hW => rpack_any kind a2 len c2 l W hW (by omega)
    have HLL := Lib.hid hll
    have hst := strOf_toList
    generalize len + lens l = q at *
    generalize packV kind l = pv at *
    generalize packE kind l = pe at *
    clear hll hs hsz
    go_enter Tryd.func3, Tryd.ntmps3
    go_wp2_with fail
    refine haw.mono ?_
    rintro e w1 ⟨rfl, hb⟩
    go_wp2_with fail
    refine (hsm w1 hb).mono ?_
    rintro e w2 ⟨rfl, rfl⟩
    go_wp2_with fail
    refine (hPk w1 hb).mono ?_
    rintro e w2 ⟨v2, rfl, hown2, hb2⟩
    have hb := below_then hb hb2
    obtain ⟨a2, c2, rfl, hbs2⟩ := Bs.of_own hown2
    clear hown2 hb2 hPk
    go_wp2_with fail
    refine (hTx w2 hb).mono ?_
    rintro e w3 ⟨v3, rfl, hown3, hb3⟩
    have hb := below_then hb hb3
    rw [HLL.out] at hown3
    obtain ⟨a3, c3, rfl, hss3⟩ := Strs.of_own hown3
    have hbs2 := hbs2.below (Nat.le_refl _) hb3
    clear hown3 hb3
    go_wp2_with fail
    refine (hRp w3 a3 c3 hss3).mono ?_
    rintro e w4 ⟨rfl, hb4⟩
    have hb := below_then hb hb4
    have hbs2 := hbs2.below (Nat.le_refl _) hb4
    clear hb4
    go_wp2_with fail
    refine (hSz w4 hb).mono ?_
    rintro e w5 ⟨rfl, rfl⟩
    go_wp2_with fail
    refine (hTx w4 hb).mono ?_
    rintro e w5 ⟨v5, rfl, hown5, hb5⟩
    have hb := below_then hb hb5
    rw [HLL.out] at hown5
    obtain ⟨a5, c5, rfl, hss5⟩ := Strs.of_own hown5
    have hbs2 := hbs2.below (Nat.le_refl _) hb5
    clear hown5 hb5
    go_wp2_with fail
    refine (hRs w5 a5 c5 hss5).mono ?_
    rintro e w6 ⟨rfl, rfl⟩
    have hcv := conv_string Tryd.underlying25 Tryd.underlying5 Tryd.underlying9 hbs2
    go_wp2_with fail
    go_ret
    exact ⟨rfl, hb⟩
end Go.Proofs.YtoaiiiblakgopaaDoor
