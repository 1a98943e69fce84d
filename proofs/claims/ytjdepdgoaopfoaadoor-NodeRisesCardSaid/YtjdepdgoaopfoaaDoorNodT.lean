/- The walks of the chapter on nodes: the reference's page of a node; sameness. -/
import Derived.Test.YtjdepdgoaopfoaaDoorNodS
namespace Go.Proofs.YtjdepdgoaopfoaaDoor
open Go.RowKit

set_option maxRecDepth 100000 in
set_option maxHeartbeats 4000000 in
theorem rnput_any (leaf : Bool) (a : Option Addr) (len cap : Nat) (l : List En) (w : World) (h : Ents w a len cap l) (hlen : len ≤ 65536) (hd : SmE l) :
    Calls Tryd.prog 29 #[.agg #[.bool leaf, .slice a len cap]] w (StrPost w (putN leaf l) (putNE leaf l)) := by
  have hB := below_one w (.cells #[.bool leaf, .slice a len cap] 56)
  have BX := (Boxes.nil w).alloc #[.bool leaf, .slice a len cap] 56 rfl
  have h1 := h.below (Nat.le_refl _) hB
  have CK := rcheck_any leaf a len cap l _ h1 hlen hd
  cases hn : nodeB leaf l with
  | false =>
    rw [hn] at CK
    have hp : putN leaf l = [] := by rw [putN, hn]; rfl
    have he : putNE leaf l = 1 := by rw [putNE, hn]; rfl
    rw [hp, he]
    clear hp he hn
    go_enter Tryd.func29, Tryd.ntmps29
    go_wp2_with fail
    refine CK.mono ?_
    rintro e w1 ⟨rfl, hb1⟩
    have hb := below_then hB hb1
    go_wp2_with fail
    go_ret2
    exact ⟨rfl, hb⟩
  | true =>
    rw [hn] at CK
    obtain ⟨q1, q2⟩ := pack_node hn
    have hlens := cellsN_lens leaf 1000000 l (fun e he => (hd e he).2)
    have hll := h.len
    rw [hll] at hlens
    have CE : ∀ W, Below w.heap.size w W → Calls Tryd.prog 33 #[.agg #[.bool leaf, .slice a len cap]] W (OwnStrs W (cellsN leaf l)) := fun W hW => rcells_any leaf a len cap l W (h.below (Nat.le_refl _) hW) hlen hd
    have PK : ∀ W a2 n2 c2, Strs W a2 n2 c2 (cellsN leaf l) → Calls Tryd.prog 36 #[.int .u8 (kindN leaf).toNat, .slice a2 n2 c2] W (StrPost W (putN leaf l) (putNE leaf l)) := fun W a2 n2 c2 h2 => by
      have hk2 : n2 = len := by have := h2.1; rw [cellsN_length, hll] at this; exact this.symm
      subst hk2
      have := rpack_any (kindN leaf) a2 n2 c2 (cellsN leaf l) W h2 (by omega)
      rwa [q1, q2] at this
    clear q1 q2 hlens hn hd hll h1
    generalize putN leaf l = pn at *
    generalize putNE leaf l = pe at *
    generalize cellsN leaf l = cl at *
    cases leaf
    all_goals
      have PK : ∀ W a2 n2 c2, Strs W a2 n2 c2 cl → Calls Tryd.prog 36 #[.int .u8 _, .slice a2 n2 c2] W (StrPost W pn pe) := PK
      simp only [kindN, if_true, Bool.false_eq_true, if_false] at PK
      go_enter Tryd.func29, Tryd.ntmps29
      go_wp2_with fail
      refine CK.mono ?_
      rintro e w1 ⟨rfl, hb1⟩
      have hb := below_then hB hb1
      have BX := BX.step hb1
      have d0 := BX.cell 0 0 rfl rfl
      have d1 := BX.cell 0 1 rfl rfl
      clear CK hb1 hB
      go_wp2_with fail
      refine (CE _ hb).mono ?_
      rintro e w3 ⟨v3, rfl, ho3, hb3⟩
      obtain ⟨a3, k3, rfl, hs3⟩ := Strs.of_own ho3
      have hb := below_then hb hb3
      clear d0 d1
      go_wp2_with fail
      refine (PK _ _ _ _ hs3).mono ?_
      rintro e w4 ⟨rfl, hb4⟩
      have hb := below_then hb hb4
      go_wp2_with fail
      go_ret2
      exact ⟨rfl, hb⟩
end Go.Proofs.YtjdepdgoaopfoaaDoor
