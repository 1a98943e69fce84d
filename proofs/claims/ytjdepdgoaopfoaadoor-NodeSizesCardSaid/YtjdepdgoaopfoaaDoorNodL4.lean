/- The laws of the chapter on nodes: how great cells are. -/
import Derived.Test.YtjdepdgoaopfoaaDoorNodL1
import Derived.Test.YtjdepdgoaopfoaaDoorNodD
namespace Go.Proofs.YtjdepdgoaopfoaaDoor
open Go.RowKit

theorem cellN_size (leaf : Bool) (e : En) : (cellN leaf e).length = min e.key.length 255 + (if leaf then (if e.v.far then 6 else 2 + e.v.data.length) else 3) := by
  rw [cellN, List.length_append, textF_length, encV_length]
  cases leaf
  · simp only [Bool.false_eq_true, if_false]
  · cases e.v.far <;> simp <;> omega
set_option maxRecDepth 100000 in
set_option maxHeartbeats 16000000 in
theorem lSizes (leaf : Bool) (a : Option Addr) (len cap : Nat) (l : List En) (w : World) (h : Ents w a len cap l) (hh : Half w) :
    Calls Tryd.prog 11 #[.agg #[.bool leaf, .slice a len cap]] w fun e w' => e = .returned (.bool true) ∧ Below w.heap.size w w' := by
  have hB := below_one w (.cells #[.bool leaf, .slice a len cap] 52)
  have BX := (Boxes.nil w).alloc #[.bool leaf, .slice a len cap] 52 rfl
  have AW : ∀ W, Below w.heap.size w W → Calls Tryd.prog 25 #[] W fun e w' => e = .returned (.bool true) ∧ Below W.heap.size W w' := fun W hW => nawake_any W (hh.below (Nat.le_refl _) hW)
  have SM : ∀ W, Below w.heap.size w W → Calls Tryd.prog 26 #[.agg #[.bool leaf, .slice a len cap]] W fun e w' => e = .returned (.bool (smallN l)) ∧ Below W.heap.size W w' := fun W hW => nsmall_any leaf a len cap l W (h.below (Nat.le_refl _) hW)
  cases hs : smallN l with
  | false =>
    rw [hs] at SM
    clear hs
    go_enter Tryd.func11, Tryd.ntmps11
    go_wp2_with fail
    refine (AW _ hB).mono ?_
    rintro e w1 ⟨rfl, hb1⟩
    have BX := BX.step hb1
    have hb := below_then hB hb1
    have d0 := BX.cell 0 0 rfl rfl
    have d1 := BX.cell 0 1 rfl rfl
    go_wp2_with fail
    refine (SM _ hb).mono ?_
    rintro e w2 ⟨rfl, hb2⟩
    have hb := below_then hb hb2
    go_wp2_with fail
    go_ret
    exact ⟨rfl, hb⟩
  | true =>
    rw [hs] at SM
    obtain ⟨hl40, hsm⟩ := smallN_true hs
    have hll := h.len
    have hlen : len ≤ 65536 := by omega
    have CE : ∀ W, Below w.heap.size w W → Calls Tryd.prog 32 #[.agg #[.bool leaf, .slice a len cap]] W (BssPost W (cellsN leaf l)) := fun W hW => cells_any leaf a len cap l W (h.below (Nat.le_refl _) hW) hlen (fun e he => by have := hsm e he; omega)
    have hcl := cellsN_length leaf l
    rw [hll] at hcl
    have HCE := Lib.hid CE
    have HCL := Lib.hid hcl
    have HSM := Lib.hid hsm
    have HLL := Lib.hid hll
    have hlen2 : (len : Int) ≤ 65536 := by omega
    clear hs hl40 CE hcl hsm hll hh
    go_enter Tryd.func11, Tryd.ntmps11
    go_wp2_with fail
    refine (AW _ hB).mono ?_
    rintro e w1 ⟨rfl, hb1⟩
    have BX := BX.step hb1
    have hb := below_then hB hb1
    have d0 := BX.cell 0 0 rfl rfl
    have d1 := BX.cell 0 1 rfl rfl
    clear hB AW hb1
    go_wp2_with fail
    refine (SM _ hb).mono ?_
    rintro e w2 ⟨rfl, hb2⟩
    have BX := BX.step hb2
    have hb := below_then hb hb2
    clear d0 d1 SM hb2
    have d0 := BX.cell 0 0 rfl rfl
    have d1 := BX.cell 0 1 rfl rfl
    go_wp2_with fail
    refine (HCE.out _ hb).mono ?_
    rintro e w3 ⟨v3, rfl, ho3, hb3⟩
    obtain ⟨a3, k3, rfl, hs3⟩ := ho3.bss
    rw [HCL.out] at hs3 ⊢
    have BX := BX.step hb3
    have hb := below_then hb hb3
    clear d0 d1 ho3 hb3
    have d1 := BX.cell 0 1 rfl rfl
    have hnn : ((len : Int) != (len : Int)) = false := by simp
    go_wp2_with fail
    clear d1
    have HX := Lib.hid BX
    have HB := Lib.hid hb
    have HS := Lib.hid hs3
    clear BX hb hs3
    go_loopw [6] (fun i wr => ∃ (k : Nat), k ≤ len ∧ i = .int .i64 k ∧ Boxes wr [(w.heap.size, [.bool leaf, .slice a len cap])] ∧ Below w3.heap.size w3 wr) (fun i _ => len - (intOf i).toNat)
    case atStart => exact ⟨0, Nat.zero_le _, rfl, HX.out, Below.refl _ _⟩
    case round =>
      obtain ⟨k, hk, rfl, BX, hbw⟩ := hrel
      have hbb := below_then HB.out hbw
      have d0 := BX.cell 0 0 rfl rfl
      have d1 := BX.cell 0 1 rfl rfl
      by_cases hlt : k < len
      · obtain ⟨b, off, e, rfl, hb0, hy, e0, e1, e2, e3, e4⟩ := (h.below (Nat.le_refl _) hbb).at hlt
        obtain ⟨b5, off5, a5, n5, c5, rfl, hb5, hcell5, hbs5⟩ := (HS.out.below (Nat.le_refl _) hbw).at hlt
        have hce : (cellsN leaf l)[k]?.getD [] = cellN leaf e := by rw [cellsN, List.getElem?_map, hy]; rfl
        rw [hce] at hbs5
        have h5 := hbs5.len
        have hsz := cellN_size leaf e
        rw [h5] at hsz
        have hs0 := strOf_size e.key
        have hs1 := strOf_size e.v.data
        obtain ⟨hk1, hk2⟩ := HSM.out e (List.mem_of_getElem? hy)
        have BX6 := Lib.hid (BX.step (below_one wr (.cells #[.string (strOf e.v.data), .bool e.v.far, .int .i64 e.v.size, .int .i64 e.v.page] 74)))
        have BW6 := Lib.hid (below_then hbw (below_one wr (.cells #[.string (strOf e.v.data), .bool e.v.far, .int .i64 e.v.size, .int .i64 e.v.page] 74)))
        have hlt0 := BX.lt 0 rfl
        clear hce hbs5 h5 BX hbw hbb hy
        generalize e.v.data.length = dl at *
        generalize e.key.length = kl at *
        cases leaf with
        | false =>
          have hq : ((n5 : Int) != (if (255 : Int) < (kl : Int) then 255 else (kl : Int)) + 3) = false := by
            simp only [Bool.false_eq_true, if_false] at hsz
            rw [bne_eq_false_iff_eq]; split <;> omega
          have HQ := Lib.hid hsz
          clear hsz
          go_wp2_with fail
          go_roundw
          case rel => exact ⟨k + 1, by omega, by go_num, BX6.out, BW6.out⟩
          case measure => simp [intOf]; omega
        | true =>
          cases hf : e.v.far with
          | true =>
            rw [hf] at hsz BX6 BW6 e2
            have hq : ((n5 : Int) != (if (255 : Int) < (kl : Int) then 255 else (kl : Int)) + 6) = false := by
              simp only [if_true] at hsz
              rw [bne_eq_false_iff_eq]; split <;> omega
            clear hf
            have HQ := Lib.hid hsz
            clear hsz
            go_wp2_with fail
            go_roundw
            case rel => exact ⟨k + 1, by omega, by go_num, BX6.out, BW6.out⟩
            case measure => simp [intOf]; omega
          | false =>
            rw [hf] at hsz BX6 BW6 e2
            have hq : ((n5 : Int) != (if (255 : Int) < (kl : Int) then 255 else (kl : Int)) + (2 + (dl : Int))) = false := by
              simp only [if_true, Bool.false_eq_true, if_false] at hsz
              rw [bne_eq_false_iff_eq]; split <;> omega
            clear hf
            have HQ := Lib.hid hsz
            clear hsz
            go_wp2_with fail
            go_roundw
            case rel => exact ⟨k + 1, by omega, by go_num, BX6.out, BW6.out⟩
            case measure => simp [intOf]; omega
      · obtain rfl : k = len := by omega
        clear d0 d1
        go_wp2_with fail
        go_ret
        exact ⟨rfl, hbb⟩
end Go.Proofs.YtjdepdgoaopfoaaDoor
