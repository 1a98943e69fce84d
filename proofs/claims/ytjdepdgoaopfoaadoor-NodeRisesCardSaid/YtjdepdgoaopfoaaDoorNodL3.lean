/- The laws of the chapter on nodes: what is put is got, and an entry less may be, too. -/
import Derived.Test.YtjdepdgoaopfoaaDoorNodL1
import Derived.Test.YtjdepdgoaopfoaaDoorNodD
import Derived.Test.YtjdepdgoaopfoaaDoorCelF
namespace Go.Proofs.YtjdepdgoaopfoaaDoor
open Go.RowKit

theorem elem_entry (w : World) : (sizeOf (Tryd.prog.elem 50)).run Tryd.prog w = .ok 5 w := by kernel_rfl
theorem slice_entry : Tryd.prog.underlying 50 = some (.slice (Tryd.prog.elem 50)) := by kernel_rfl
set_option maxRecDepth 100000 in
set_option maxHeartbeats 16000000 in
theorem lBack (leaf : Bool) (a : Option Addr) (len cap : Nat) (l : List En) (w : World) (h : Ents w a len cap l) (hh : Half w) :
    Calls Tryd.prog 10 #[.agg #[.bool leaf, .slice a len cap]] w fun e w' => e = .returned (.bool true) ∧ Below w.heap.size w w' := by
  have hB := below_one w (.cells #[.bool leaf, .slice a len cap] 52)
  have BX := (Boxes.nil w).alloc #[.bool leaf, .slice a len cap] 52 rfl
  have AW : ∀ W, Below w.heap.size w W → Calls Tryd.prog 25 #[] W fun e w' => e = .returned (.bool true) ∧ Below W.heap.size W w' := fun W hW => nawake_any W (hh.below (Nat.le_refl _) hW)
  have SM : ∀ W, Below w.heap.size w W → Calls Tryd.prog 26 #[.agg #[.bool leaf, .slice a len cap]] W fun e w' => e = .returned (.bool (smallN l)) ∧ Below W.heap.size W w' := fun W hW => nsmall_any leaf a len cap l W (h.below (Nat.le_refl _) hW)
  cases hs : smallN l with
  | false =>
    rw [hs] at SM
    clear hs
    go_enter Tryd.func10, Tryd.ntmps10
    go_wp2_with fail
    refine (AW _ hB).mono ?_
    rintro e w1 ⟨rfl, hb1⟩
    have BX := BX.step hb1
    have hb := below_then hB hb1
    have d0 := BX.cell 0 0 rfl rfl
    have d1 := BX.cell 0 1 rfl rfl
    go_wp2_with fail
    refine (SM _ hb).mono ?_
    rintro e w2 ⟨rfl, hb2⟩
    have hb := below_then hb hb2
    go_wp2_with fail
    go_ret
    exact ⟨rfl, hb⟩
  | true =>
    rw [hs] at SM
    obtain ⟨hl40, hsm⟩ := smallN_true hs
    have hll := h.len
    have hlen : len ≤ 65536 := by omega
    have PU : ∀ W, Below w.heap.size w W → Calls Tryd.prog 28 #[.agg #[.bool leaf, .slice a len cap]] W (PackAny W (putN leaf l) (putNE leaf l)) := fun W hW => nput_any leaf a len cap l W (h.below (Nat.le_refl _) hW) hlen hsm (hh.below (Nat.le_refl _) hW)
    have CK : ∀ W, Below w.heap.size w W → Calls Tryd.prog 34 #[.agg #[.bool leaf, .slice a len cap]] W fun e w' => e = .returned (.bool (nodeB leaf l)) ∧ Below W.heap.size W w' := fun W hW => check_any leaf a len cap l W (h.below (Nat.le_refl _) hW) hlen hsm
    cases hn : nodeB leaf l with
    | false =>
      have p1 : putN leaf l = [] := by rw [putN, hn]; rfl
      have p2 : putNE leaf l = 1 := by rw [putNE, hn]; rfl
      rw [hn] at CK
      rw [p1, p2] at PU
      have HPU := Lib.hid PU
      have HCK := Lib.hid CK
      clear hs hsm hl40 hn p1 p2 PU CK
      go_enter Tryd.func10, Tryd.ntmps10
      go_wp2_with fail
      refine (AW _ hB).mono ?_
      rintro e w1 ⟨rfl, hb1⟩
      have BX := BX.step hb1
      have hb := below_then hB hb1
      have d0 := BX.cell 0 0 rfl rfl
      have d1 := BX.cell 0 1 rfl rfl
      clear hB AW hb1
      go_wp2_with fail
      refine (SM _ hb).mono ?_
      rintro e w2 ⟨rfl, hb2⟩
      have BX := BX.step hb2
      have hb := below_then hb hb2
      clear d0 d1 SM hb2
      have d0 := BX.cell 0 0 rfl rfl
      have d1 := BX.cell 0 1 rfl rfl
      go_wp2_with fail
      refine (HPU.out _ hb).mono ?_
      rintro e w3 ⟨v3, rfl, ho3, hb3⟩
      obtain ⟨a3, k3, rfl, hs3⟩ := Bs.of_own ho3
      have BX := BX.step hb3
      have hb := below_then hb hb3
      clear d0 d1 ho3 hs3 hb3
      have d0 := BX.cell 0 0 rfl rfl
      have d1 := BX.cell 0 1 rfl rfl
      go_wp2_with fail
      refine (HCK.out _ hb).mono ?_
      rintro e w4 ⟨rfl, hb4⟩
      have hb := below_then hb hb4
      go_wp2_with fail
      go_ret
      exact ⟨rfl, hb⟩
    | true =>
      have p2 : putNE leaf l = 0 := by rw [putNE, hn]; rfl
      obtain ⟨q1, q2, q3⟩ := get_putN hn
      have hless := node_less hn
      have hpos : 1 ≤ l.length := by
        have hx := hn
        simp only [nodeB, Bool.and_eq_true, decide_eq_true_eq] at hx
        have := hx.2.1
        cases leaf <;> simp [leastN] at this <;> omega
      rw [p2] at PU
      have NG : ∀ W a3 n3 c3, Below w.heap.size w W → Bs W a3 n3 c3 (putN leaf l) → Calls Tryd.prog 37 #[.slice a3 n3 c3] W (GetNPost W leaf l 0) := fun W a3 n3 c3 hW hq => by
        have := nget_any a3 n3 c3 _ W hq (hh.below (Nat.le_refl _) hW)
        rwa [q1, q2, q3] at this
      have PL : ∀ W a3 c3, Ents W a3 len c3 l → Calls Tryd.prog 27 #[.agg #[.bool leaf, .slice a3 len c3]] W (PlainPost W leaf l) := fun W a3 c3 h3 => nplain_any leaf a3 len c3 l W h3 hlen
      have SA : ∀ W a3 n3 c3 a4 n4 c4, Ents W a3 n3 c3 l → Ents W a4 n4 c4 l → Calls Tryd.prog 39 #[.agg #[.bool leaf, .slice a3 n3 c3], .agg #[.bool leaf, .slice a4 n4 c4]] W fun e w' => e = .returned (.bool true) ∧ Below W.heap.size W w' := fun W a3 n3 c3 a4 n4 c4 h3 h4 => by
        have := nsame_any leaf leaf a3 a4 n3 c3 n4 c4 l l W h3 h4 (by have := h3.len; omega)
        rwa [show sameB leaf leaf l l = true by simp [sameB]] at this
      have CL : ∀ W, Below w.heap.size w W → Calls Tryd.prog 34 #[.agg #[.bool leaf, .slice a (len - 1) cap]] W fun e w' => e = .returned (.bool (decide (leastN leaf ≤ len - 1))) ∧ Below W.heap.size W w' := fun W hW => by
        have := check_any leaf a (len - 1) cap (l.take (len - 1)) W ((TabR.take (len - 1) (by omega) h).below (Nat.le_refl _) hW) (by omega) (fun e he => hsm e (List.mem_of_mem_take he))
        rw [hll] at hless
        rwa [hless] at this
      have hsl : ∀ W, (Instr.slice 50 (.slice a len cap) none (some (.int .i64 ((len : Int) - 1))) none).run Tryd.prog W = .ok (.slice a (len - 1) cap) W := fun W => by
        rw [run_slice_h W 50 a len cap slice_entry .i64 ((len : Int) - 1) (by omega) (by have := h.2.1; omega), elem_entry]
        have e : ((len : Int) - 1).toNat = len - 1 := by omega
        obtain ⟨b0, off0, _, ha, _⟩ := h.at (k := 0) (by omega)
        simp [Result.andThen, sliced, e, ha, add_none]
      have hlc : (len : Int) - 1 ≤ (cap : Int) := by have := h.2.1; omega
      generalize putN leaf l = p at *
      have HPU := Lib.hid PU
      have HNG := Lib.hid NG
      have HPL := Lib.hid PL
      have HSA := Lib.hid SA
      have HCL := Lib.hid CL
      have HX := Lib.hid h
      have HLL := Lib.hid hll
      clear hs hsm hl40 hn p2 q1 q2 q3 hless PU CK NG PL SA CL hh
      go_enter Tryd.func10, Tryd.ntmps10
      go_wp2_with fail
      refine (AW _ hB).mono ?_
      rintro e w1 ⟨rfl, hb1⟩
      have BX := BX.step hb1
      have hb := below_then hB hb1
      have d0 := BX.cell 0 0 rfl rfl
      have d1 := BX.cell 0 1 rfl rfl
      clear hB AW hb1
      go_wp2_with fail
      refine (SM _ hb).mono ?_
      rintro e w2 ⟨rfl, hb2⟩
      have BX := BX.step hb2
      have hb := below_then hb hb2
      clear d0 d1 SM hb2
      have d0 := BX.cell 0 0 rfl rfl
      have d1 := BX.cell 0 1 rfl rfl
      go_wp2_with fail
      refine (HPU.out _ hb).mono ?_
      rintro e w3 ⟨v3, rfl, ho3, hb3⟩
      obtain ⟨a3, k3, rfl, hs3⟩ := Bs.of_own ho3
      have BX := BX.step hb3
      have hb := below_then hb hb3
      clear d0 d1 ho3 hb3
      go_wp2_with fail
      refine (HNG.out _ _ _ _ hb hs3).mono ?_
      rintro e w4 ⟨v4, rfl, ho4, hb4⟩
      obtain ⟨a4, k4, rfl, hs4⟩ := ho4.ents
      rw [HLL.out] at hs4 ⊢
      have hx := below_one w4 (.cells #[.bool leaf, .slice a4 len k4] 52)
      have BX := ((BX.step hb4).alloc #[.bool leaf, .slice a4 len k4] 52 rfl)
      have hb := below_then (below_then hb hb4) hx
      have hs4 := hs4.below (Nat.le_refl _) hx
      clear ho4 hb4 hx
      go_wp2_with fail
      generalize w4.alloc _ = W5 at *
      generalize w4.heap.size = b4 at *
      have c0 : ∀ W, Below W5.heap.size W5 W → W.cell? ⟨b4, 0, none⟩ = some (.bool leaf) := fun W hW => (BX.step hW).cell 0 0 rfl rfl
      have c1 : ∀ W, Below W5.heap.size W5 W → W.cell? ⟨b4, 1, none⟩ = some (.slice a4 len k4) := fun W hW => (BX.step hW).cell 0 1 rfl rfl
      have c2 : ∀ W, Below W5.heap.size W5 W → W.cell? ⟨w.heap.size, 0, none⟩ = some (.bool leaf) := fun W hW => (BX.step hW).cell 1 0 rfl rfl
      have c3 : ∀ W, Below W5.heap.size W5 W → W.cell? ⟨w.heap.size, 1, none⟩ = some (.slice a len cap) := fun W hW => (BX.step hW).cell 1 1 rfl rfl
      have hC : Below W5.heap.size W5 W5.drew := (Below.refl _ _).drew
      go_region_held3 (fun W => Below W5.heap.size W5 W) (first | with_reducible assumption) (first | (go_at_call 27; (with_reducible refine (HPL.out _ _ _ (hs4.below (Nat.le_refl _) hC)).mono ?_); rintro e w8 ⟨v8, rfl, ho8, hb8⟩; have hC8 := hC.trans (hb8.mono hC.size); obtain ⟨a8, k8, rfl, hs8⟩ := ho8.ents; rw [HLL.out] at hs8 ⊢) | (go_at_call 27; (with_reducible refine (HPL.out _ _ _ (HX.out.below (Nat.le_refl _) (below_then hb hC8))).mono ?_); rintro e w9 ⟨v9, rfl, ho9, hb9⟩; have hC9 := hC8.trans (hb9.mono hC8.size); obtain ⟨a9, k9, rfl, hs9⟩ := ho9.ents; rw [HLL.out] at hs9 ⊢) | (go_at_call 39; (with_reducible refine (HSA.out _ _ _ _ _ _ _ (hs8.below (Nat.le_refl _) hb9) hs9).mono ?_); rintro e w10 ⟨rfl, hb10⟩; have hC10 := hC9.trans (hb10.mono hC9.size)))
      have hb := below_then hb hC10
      have BX := BX.step hC10
      clear c0 c1 c2 c3
      have d0 := BX.cell 1 0 rfl rfl
      have d1 := BX.cell 1 1 rfl rfl
      have e0 : ∀ W, Below w10.heap.size w10 W → W.cell? ⟨w.heap.size, 0, none⟩ = some (.bool leaf) := fun W hW => (BX.step hW).cell 1 0 rfl rfl
      have e1 : ∀ W, Below w10.heap.size w10 W → W.cell? ⟨w.heap.size, 1, none⟩ = some (.slice a len cap) := fun W hW => (BX.step hW).cell 1 1 rfl rfl
      have hD : Below w10.heap.size w10 w10.drew := (Below.refl _ _).drew
      have HC2 := Lib.hid hC10
      clear BX hC10 hC9 hC8 hC
      obtain ⟨t, ht⟩ : ∃ t, decide (leastN leaf ≤ len - 1) = t := ⟨_, rfl⟩
      rw [ht] at HCL
      have htt : (t == t) = true := by simp
      have ht2 : leaf = false → decide ((2 : Int) ≤ (len : Int) - 1) = t := fun hf => by rw [← ht, hf]; apply decide_eq_decide.2; simp [leastN]; omega
      have ht1 : leaf = true → decide ((1 : Int) ≤ (len : Int) - 1) = t := fun hf => by rw [← ht, hf]; apply decide_eq_decide.2; simp [leastN]; omega
      have HT2 := Lib.hid ht2
      have HT1 := Lib.hid ht1
      clear ht ht2 ht1
      cases leaf
      all_goals
        first | (have hq := HT2.out rfl) | (have hq := HT1.out rfl)
        go_wp2_with fail
        go_region_held3 (fun W => Below w10.heap.size w10 W) (first | with_reducible assumption | (with_reducible exact (below_one w10 _).drew)) (fail)
        clear e0 e1 hD
        go_wp2_with fail
        (with_reducible refine (HCL.out _ (below_then hb (below_one w10 _).drew)).mono ?_)
        rintro e w11 ⟨rfl, hb11⟩
        have hb := below_then (below_then hb (below_one w10 _).drew) hb11
        go_wp2_with fail
        go_ret
        exact ⟨rfl, hb⟩
end Go.Proofs.YtjdepdgoaopfoaaDoor
