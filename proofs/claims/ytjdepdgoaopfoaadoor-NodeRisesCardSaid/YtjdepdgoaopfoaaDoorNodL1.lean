/- The laws of the chapter on nodes: what is put is the document's. -/
import Derived.Test.YtjdepdgoaopfoaaDoorNodA
namespace Go.Proofs.YtjdepdgoaopfoaaDoor
open Go.RowKit

theorem Ents.drew {w : World} {a : Option Addr} {len cap : Nat} {l : List En} (h : Ents w a len cap l) : Ents w.drew a len cap l := h
set_option maxRecDepth 100000 in
set_option maxHeartbeats 16000000 in
theorem lPuts (leaf : Bool) (a : Option Addr) (len cap : Nat) (l : List En) (w : World) (h : Ents w a len cap l) (hh : Half w) :
    Calls Tryd.prog 8 #[.agg #[.bool leaf, .slice a len cap]] w fun e w' => e = .returned (.bool true) ∧ Below w.heap.size w w' := by
  have hB := below_one w (.cells #[.bool leaf, .slice a len cap] 52)
  have BX := (Boxes.nil w).alloc #[.bool leaf, .slice a len cap] 52 rfl
  have AW : ∀ W, Below w.heap.size w W → Calls Tryd.prog 25 #[] W fun e w' => e = .returned (.bool true) ∧ Below W.heap.size W w' := fun W hW => nawake_any W (hh.below (Nat.le_refl _) hW)
  have SM : ∀ W, Below w.heap.size w W → Calls Tryd.prog 26 #[.agg #[.bool leaf, .slice a len cap]] W fun e w' => e = .returned (.bool (smallN l)) ∧ Below W.heap.size W w' := fun W hW => nsmall_any leaf a len cap l W (h.below (Nat.le_refl _) hW)
  cases hs : smallN l with
  | false =>
    rw [hs] at SM
    clear hs
    go_enter Tryd.func8, Tryd.ntmps8
    go_wp2_with fail
    refine (AW _ hB).mono ?_
    rintro e w1 ⟨rfl, hb1⟩
    have BX := BX.step hb1
    have hb := below_then hB hb1
    have d0 := BX.cell 0 0 rfl rfl
    have d1 := BX.cell 0 1 rfl rfl
    go_wp2_with fail
    refine (SM _ hb).mono ?_
    rintro e w2 ⟨rfl, hb2⟩
    have hb := below_then hb hb2
    go_wp2_with fail
    go_ret
    exact ⟨rfl, hb⟩
  | true =>
    rw [hs] at SM
    obtain ⟨hl40, hsm⟩ := smallN_true hs
    have hll := h.len
    have hlen : len ≤ 65536 := by omega
    have PL : ∀ W, Below w.heap.size w W → Calls Tryd.prog 27 #[.agg #[.bool leaf, .slice a len cap]] W (PlainPost W leaf l) := fun W hW => nplain_any leaf a len cap l W (h.below (Nat.le_refl _) hW) hlen
    have PU : ∀ W, Below w.heap.size w W → Calls Tryd.prog 28 #[.agg #[.bool leaf, .slice a len cap]] W (PackAny W (putN leaf l) (putNE leaf l)) := fun W hW => nput_any leaf a len cap l W (h.below (Nat.le_refl _) hW) hlen hsm (hh.below (Nat.le_refl _) hW)
    have RP : ∀ W a2 c2, Ents W a2 len c2 l → Calls Tryd.prog 29 #[.agg #[.bool leaf, .slice a2 len c2]] W (StrPost W (putN leaf l) (putNE leaf l)) := fun W a2 c2 h2 => rnput_any leaf a2 len c2 l W h2 hlen hsm
    have CE : ∀ W, Below w.heap.size w W → Calls Tryd.prog 32 #[.agg #[.bool leaf, .slice a len cap]] W (BssPost W (cellsN leaf l)) := fun W hW => cells_any leaf a len cap l W (h.below (Nat.le_refl _) hW) hlen (fun e he => by have := hsm e he; omega)
    have TX : ∀ W a2 n2 c2, Bss W a2 n2 c2 (cellsN leaf l) → Calls Tryd.prog 31 #[.slice a2 n2 c2] W (OwnStrs W (cellsN leaf l)) := fun W a2 n2 c2 h2 => texts_any a2 n2 c2 _ W h2 (by have := h2.1; rw [cellsN_length] at this; omega)
    have RC : ∀ W a2 c2, Ents W a2 len c2 l → Calls Tryd.prog 33 #[.agg #[.bool leaf, .slice a2 len c2]] W (OwnStrs W (cellsN leaf l)) := fun W a2 c2 h2 => rcells_any leaf a2 len c2 l W h2 hlen hsm
    have SE : ∀ W a2 n2 c2 a3 n3 c3, Strs W a2 n2 c2 (cellsN leaf l) → Strs W a3 n3 c3 (cellsN leaf l) → Calls Tryd.prog 30 #[.slice a2 n2 c2, .slice a3 n3 c3] W (DrewB W true) := fun W a2 n2 c2 a3 n3 c3 h2 h3 => by
      have := same_any a2 a3 n2 c2 n3 c3 _ _ W h2 h3
      rwa [beq_self_eq_true] at this
    have CK : ∀ W, Below w.heap.size w W → Calls Tryd.prog 34 #[.agg #[.bool leaf, .slice a len cap]] W fun e w' => e = .returned (.bool (nodeB leaf l)) ∧ Below W.heap.size W w' := fun W hW => check_any leaf a len cap l W (h.below (Nat.le_refl _) hW) hlen hsm
    have RK : ∀ W a2 c2, Ents W a2 len c2 l → Calls Tryd.prog 35 #[.agg #[.bool leaf, .slice a2 len c2]] W fun e w' => e = .returned (.bool (nodeB leaf l)) ∧ Below W.heap.size W w' := fun W a2 c2 h2 => rcheck_any leaf a2 len c2 l W h2 hlen hsm
    generalize putN leaf l = p at *
    generalize putNE leaf l = pe at *
    generalize cellsN leaf l = cl at *
    generalize nodeB leaf l = nb at *
    have HPU := Lib.hid PU
    have HRP := Lib.hid RP
    have HCE := Lib.hid CE
    have HTX := Lib.hid TX
    have HRC := Lib.hid RC
    have HSE := Lib.hid SE
    have HCK := Lib.hid CK
    have HRK := Lib.hid RK
    have HPL := Lib.hid PL
    have HLL := Lib.hid hll
    clear hs hsm hl40 PU RP CE TX RC SE CK RK PL hll hh h
    go_enter Tryd.func8, Tryd.ntmps8
    go_wp2_with fail
    refine (AW _ hB).mono ?_
    rintro e w1 ⟨rfl, hb1⟩
    have BX := BX.step hb1
    have hb := below_then hB hb1
    have d0 := BX.cell 0 0 rfl rfl
    have d1 := BX.cell 0 1 rfl rfl
    clear hB AW hb1
    go_wp2_with fail
    refine (SM _ hb).mono ?_
    rintro e w2 ⟨rfl, hb2⟩
    have BX := BX.step hb2
    have hb := below_then hb hb2
    clear d0 d1 SM hb2
    have d0 := BX.cell 0 0 rfl rfl
    have d1 := BX.cell 0 1 rfl rfl
    go_wp2_with fail
    refine (HPL.out _ hb).mono ?_
    rintro e w3 ⟨v3, rfl, ho3, hb3⟩
    obtain ⟨a3, k3, rfl, hs3⟩ := ho3.ents
    rw [HLL.out] at hs3 ⊢
    have hx3 := below_one w3 (.cells #[.bool leaf, .slice a3 len k3] 56)
    have hb := below_then (below_then hb hb3) hx3
    have BX := ((BX.step hb3).alloc #[.bool leaf, .slice a3 len k3] 56 rfl)
    have hs3 := hs3.below (Nat.le_refl _) hx3
    clear d0 d1 ho3 hb3 hx3 HPL
    have d0 := BX.cell 1 0 rfl rfl
    have d1 := BX.cell 1 1 rfl rfl
    go_wp2_with fail
    generalize w3.alloc _ = W3 at *
    generalize w3.heap.size = b3 at *
    refine (HPU.out _ hb).mono ?_
    rintro e w4 ⟨v4, rfl, ho4, hb4⟩
    obtain ⟨a4, k4, rfl, hs4⟩ := Bs.of_own ho4
    have BX := BX.step hb4
    have hb := below_then hb hb4
    have hs3 := hs3.below (Nat.le_refl _) hb4
    clear d0 d1 ho4 hb4 HPU
    have d0 := BX.cell 0 0 rfl rfl
    have d1 := BX.cell 0 1 rfl rfl
    go_wp2_with fail
    refine (HRP.out _ _ _ hs3).mono ?_
    rintro e w5 ⟨rfl, hb5⟩
    have BX := BX.step hb5
    have hb := below_then hb hb5
    have hs3 := hs3.below (Nat.le_refl _) hb5
    have hs4 := hs4.below (Nat.le_refl _) hb5
    clear d0 d1 hb5 HRP
    go_wp2_with fail
    have c0 : ∀ W, Below w5.heap.size w5 W → W.cell? ⟨b3, 0, none⟩ = some (.bool leaf) := fun W hW => (BX.step hW).cell 0 0 rfl rfl
    have c1 : ∀ W, Below w5.heap.size w5 W → W.cell? ⟨b3, 1, none⟩ = some (.slice a3 len k3) := fun W hW => (BX.step hW).cell 0 1 rfl rfl
    have c2 : ∀ W, Below w5.heap.size w5 W → W.cell? ⟨w.heap.size, 0, none⟩ = some (.bool leaf) := fun W hW => (BX.step hW).cell 1 0 rfl rfl
    have c3 : ∀ W, Below w5.heap.size w5 W → W.cell? ⟨w.heap.size, 1, none⟩ = some (.slice a len cap) := fun W hW => (BX.step hW).cell 1 1 rfl rfl
    have hcv : ∀ W, Below w5.heap.size w5 W → (convert 26 9 (.slice a4 p.length k4)).run Tryd.prog W = .ok (.string (strOf p)) W := fun W hW => conv_string Tryd.underlying26 Tryd.underlying5 Tryd.underlying9 (hs4.below (Nat.le_refl _) hW)
    have hst := strOf_toList
    have hpp : (p == p) = true := by simp
    have hee : (pe == pe) = true := by simp
    have hnn : (nb == nb) = true := by simp
    have hC : Below w5.heap.size w5 w5.drew := (Below.refl _ _).drew
    clear BX
    go_region_held3 (fun W => Below w5.heap.size w5 W) (first | with_reducible assumption) (first | (go_at_call 32; (with_reducible refine (HCE.out _ (below_then hb hC)).mono ?_); rintro e w6 ⟨v6, rfl, ho6, hb6⟩; have hC6 := hC.trans (hb6.mono hC.size); obtain ⟨a6, k6, rfl, hs6⟩ := ho6.bss) | (go_at_call 31; (with_reducible refine (HTX.out _ _ _ _ hs6).mono ?_); rintro e w7 ⟨v7, rfl, ho7, hb7⟩; have hC7 := hC6.trans (hb7.mono hC6.size); obtain ⟨a7, k7, rfl, hs7⟩ := Strs.of_own ho7) | (go_at_call 33; (with_reducible refine (HRC.out _ _ _ (hs3.below (Nat.le_refl _) hC7)).mono ?_); rintro e w8 ⟨v8, rfl, ho8, hb8⟩; have hC8 := hC7.trans (hb8.mono hC7.size); obtain ⟨a8, k8, rfl, hs8⟩ := Strs.of_own ho8) | (go_at_call 30; (with_reducible refine (HSE.out _ _ _ _ _ _ _ (hs7.below (Nat.le_refl _) hb8) hs8).mono ?_); rintro e w9 ⟨q9, rfl, rfl⟩; have hC9 := below_drewN hC8 q9) | (go_at_call 34; (with_reducible refine (HCK.out _ (below_then hb hC9)).mono ?_); rintro e w10 ⟨rfl, hb10⟩; have hC10 := hC9.trans (hb10.mono hC9.size)) | (go_at_call 35; (with_reducible refine (HRK.out _ _ _ (hs3.below (Nat.le_refl _) hC10)).mono ?_); rintro e w11 ⟨rfl, hb11⟩; have hC11 := hC10.trans (hb11.mono hC10.size)))
    have hb := below_then hb hC11
    go_wp2_with fail
    go_ret
    exact ⟨rfl, hb⟩
end Go.Proofs.YtjdepdgoaopfoaaDoor
