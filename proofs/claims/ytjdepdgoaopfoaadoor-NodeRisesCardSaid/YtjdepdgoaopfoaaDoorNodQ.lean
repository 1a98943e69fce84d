/- The walks of the chapter on nodes: a node's page. -/
import Derived.Test.YtjdepdgoaopfoaaDoorNodK
namespace Go.Proofs.YtjdepdgoaopfoaaDoor
open Go.RowKit

set_option maxRecDepth 100000 in
set_option maxHeartbeats 4000000 in
theorem nput_any (leaf : Bool) (a : Option Addr) (len cap : Nat) (l : List En) (w : World) (h : Ents w a len cap l) (hlen : len ≤ 65536) (hd : SmE l) (hh : Half w) :
    Calls Tryd.prog 28 #[.agg #[.bool leaf, .slice a len cap]] w (PackAny w (putN leaf l) (putNE leaf l)) := by
  have hB := below_one w (.cells #[.bool leaf, .slice a len cap] 52)
  have BX := (Boxes.nil w).alloc #[.bool leaf, .slice a len cap] 52 rfl
  have h1 := h.below (Nat.le_refl _) hB
  have hh1 := hh.below (Nat.le_refl _) hB
  have CK := check_any leaf a len cap l _ h1 hlen hd
  cases hn : nodeB leaf l with
  | false =>
    rw [hn] at CK
    have hp : putN leaf l = [] := by rw [putN, hn]; rfl
    have he : putNE leaf l = 1 := by rw [putNE, hn]; rfl
    rw [hp, he]
    clear hp he hn
    go_enter Tryd.func28, Tryd.ntmps28
    go_wp2_with fail
    refine CK.mono ?_
    rintro e w1 ⟨rfl, hb1⟩
    have hb := below_then hB hb1
    go_wp2_with fail
    go_ret2
    exact ⟨_, rfl, ⟨rfl, .inl ⟨rfl, rfl⟩⟩, hb⟩
  | true =>
    rw [hn] at CK
    obtain ⟨q1, q2⟩ := pack_node hn
    have hlens := cellsN_lens leaf 1000000 l (fun e he => (hd e he).2)
    have hll := h.len
    rw [hll] at hlens
    have KI := fun W => kind_any leaf (.slice a len cap) W
    have CE : ∀ W, Below w.heap.size w W → Calls Tryd.prog 32 #[.agg #[.bool leaf, .slice a len cap]] W (BssPost W (cellsN leaf l)) := fun W hW => cells_any leaf a len cap l W (h.below (Nat.le_refl _) hW) hlen (fun e he => by have := hd e he; omega)
    have PK : ∀ W a2 n2 c2, Below w.heap.size w W → Bss W a2 n2 c2 (cellsN leaf l) → Calls Tryd.prog 41 #[.int .u8 (kindN leaf).toNat, .slice a2 n2 c2] W (PackAny W (putN leaf l) (putNE leaf l)) := fun W a2 n2 c2 hW h2 => by
      have hk2 : n2 = len := by have := h2.1; rw [cellsN_length, hll] at this; exact this.symm
      subst hk2
      have := pack_any (kindN leaf) a2 n2 c2 (cellsN leaf l) W h2 (hh.below (Nat.le_refl _) hW) (by omega)
      rwa [q1, q2] at this
    clear q1 q2 hlens hn hd
    generalize (kindN leaf).toNat = kd at *
    generalize putN leaf l = pn at *
    generalize putNE leaf l = pe at *
    generalize cellsN leaf l = cl at *
    have HL := Lib.hid hll
    clear hll hh hh1 h1
    go_enter Tryd.func28, Tryd.ntmps28
    go_wp2_with fail
    refine CK.mono ?_
    rintro e w1 ⟨rfl, hb1⟩
    have hb := below_then hB hb1
    have BX := BX.step hb1
    clear CK hb1 hB
    have c0 : ∀ W, Below w1.heap.size w1 W → W.cell? ⟨w.heap.size, 0, none⟩ = some (.bool leaf) := fun W hW => (BX.step hW).cell 0 0 rfl rfl
    have c1 : ∀ W, Below w1.heap.size w1 W → W.cell? ⟨w.heap.size, 1, none⟩ = some (.slice a len cap) := fun W hW => (BX.step hW).cell 0 1 rfl rfl
    have hC : Below w1.heap.size w1 w1.drew := (Below.refl _ _).drew
    go_wp2_with fail
    go_region_held3 (fun W => Below w1.heap.size w1 W) (first | with_reducible assumption) (first | (go_at_call 55; (with_reducible refine (KI _).mono ?_); rintro e w2 ⟨rfl, hb2⟩; have hC2 := hC.trans (hb2.mono hC.size)) | (go_at_call 32; (with_reducible refine (CE _ (below_then hb hC2)).mono ?_); rintro e w3 ⟨v3, rfl, ho3, hb3⟩; have hC3 := hC2.trans (hb3.mono hC2.size); obtain ⟨a3, k3, rfl, hs3⟩ := ho3.bss) | (go_at_call 41; (with_reducible refine (PK _ _ _ _ (below_then hb hC3) hs3).mono ?_); rintro e w4 ⟨v4, rfl, ho4, hb4⟩; have hC4 := hC3.trans (hb4.mono hC3.size)))
    have hb9 := below_then hb hC4
    have ho := own_base ho4 (Nat.le_trans hb.size hC3.size)
    go_wp2_with fail
    go_ret2
    exact ⟨_, rfl, ho, hb9⟩
end Go.Proofs.YtjdepdgoaopfoaaDoor
