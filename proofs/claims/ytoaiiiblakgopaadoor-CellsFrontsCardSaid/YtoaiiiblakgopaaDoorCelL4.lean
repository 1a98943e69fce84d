/- The walks of the chapter on pages of cells: the law on what comes back. -/
import Derived.Test.YtoaiiiblakgopaaDoorCelL3
import Derived.Deep.RegionWith
import Derived.Deep.RegionHeld3
import Derived.Outline
namespace Go.Proofs.YtoaiiiblakgopaaDoor
open Go.RowKit

theorem xor1_ne (x : UInt8) : UInt8.ofNat (x.toNat ^^^ 1) ≠ x := by
  have : ∀ k : Fin 256, (k.val ^^^ 1) % 256 ≠ k.val := by decide +kernel
  intro e
  have h := congrArg UInt8.toNat e
  rw [UInt8.toNat_ofNat'] at h
  exact this ⟨x.toNat, x.toNat_lt⟩ h
theorem xor1_val (x : UInt8) : (UInt8.ofNat (x.toNat ^^^ 1)).toNat = x.toNat ^^^ 1 := by
  have e : (x.toNat ^^^ 1) < 256 := Nat.xor_lt_two_pow (n := 8) x.toNat_lt (by decide)
  rw [UInt8.toNat_ofNat', Nat.mod_eq_of_lt e]

/-- A page of which a byte was turned has a wrong sum. -/
theorem page_turned (kind : UInt8) (l : List (List UInt8)) (h : fits kind l = true) (at_ : Nat) (hat : at_ < 128) (c : UInt8) (hc : (pageOf kind l)[at_]? ≠ some c) : unpE ((pageOf kind l).set at_ c) = 12 := by
  have hfit : l.length + lens l ≤ 122 := by
    simp only [fits, Bool.and_eq_true, decide_eq_true_eq] at h; exact h.2
  have hlen := pageOf_length kind l hfit
  obtain ⟨hd, bd, hp, h4, hs⟩ : ∃ hd bd : List UInt8, pageOf kind l = hd ++ bd ∧ hd.length = 4 ∧ beVal hd = crcOf bd := by
    refine ⟨_, _, rfl, beBytes_length _ _, ?_⟩
    have hx := crcOn_lt 0 (bodyOf kind l.length l)
    rw [beVal_beBytes, Nat.mod_eq_of_lt (by exact hx)]
  rw [hp] at hc hlen ⊢
  have hne : beVal (((hd ++ bd).set at_ c).take 4) ≠ crcOf (((hd ++ bd).set at_ c).drop 4) := by
    by_cases h1 : at_ < 4
    · rw [List.set_append_left _ _ (by omega)]
      have e1 : (hd.set at_ c ++ bd).take 4 = hd.set at_ c := by
        have := List.take_left (l₁ := hd.set at_ c) (l₂ := bd); rwa [List.length_set, h4] at this
      have e2 : (hd.set at_ c ++ bd).drop 4 = bd := by
        have := List.drop_left (l₁ := hd.set at_ c) (l₂ := bd); rwa [List.length_set, h4] at this
      rw [e1, e2, ← hs]
      intro e
      have b1 := beBytes_beVal hd
      have b2 := beBytes_beVal (hd.set at_ c)
      rw [List.length_set, e, b1] at b2
      apply hc
      rw [List.getElem?_append_left (by omega), b2]
      simp [h4, h1]
    · rw [List.set_append_right _ _ (by omega), h4]
      have e1 : (hd ++ bd.set (at_ - 4) c).take 4 = hd := by
        have := List.take_left (l₁ := hd) (l₂ := bd.set (at_ - 4) c); rwa [h4] at this
      have e2 : (hd ++ bd.set (at_ - 4) c).drop 4 = bd.set (at_ - 4) c := by
        have := List.drop_left (l₁ := hd) (l₂ := bd.set (at_ - 4) c); rwa [h4] at this
      rw [e1, e2, hs]
      intro e
      have hbl : at_ - 4 < bd.length := by simp at hlen; omega
      have hbd : bd = bd.take (at_ - 4) ++ bd[at_ - 4] :: bd.drop (at_ - 4 + 1) := by simp
      rw [List.set_eq_take_append_cons_drop, if_pos hbl] at e
      conv at e => lhs; rw [hbd]
      have := crcOf_turned _ _ e
      apply hc
      rw [List.getElem?_append_right (by omega), h4, List.getElem?_eq_getElem hbl, this]
  rw [unpE, if_neg (by rw [List.length_set]; omega), if_pos hne]

theorem page_eq (kind : UInt8) (l m : List (List UInt8)) (hl : fits kind l = true) (hm : fits kind m = true) : (pageOf kind l == pageOf kind m) = (l == m) := by
  by_cases h : l = m
  · subst h; simp
  · have : pageOf kind l ≠ pageOf kind m := fun e => h (by rw [← (page_back kind l hl).2.2, e, (page_back kind m hm).2.2])
    rw [beq_eq_false_iff_ne.2 this, beq_eq_false_iff_ne.2 h]

set_option maxRecDepth 100000 in
set_option maxHeartbeats 4000000 in
theorem lBack_bad (kind : UInt8) (a a2 : Option Addr) (len cap len2 cap2 : Nat) (l m : List (List UInt8)) (w : World) (h : Bss w a len cap l) (h2 : Bss w a2 len2 cap2 m) (hh : Half w) (hs : smallF l = true) (hs2 : smallF m = true) (hf : ¬ fits kind l = true) :
    Calls Tryd.prog 5 #[.int .u8 kind.toNat, .slice a len cap, .slice a2 len2 cap2] w fun e w' => e = .returned (.bool true) ∧ Below w.heap.size w w' := by
  have hll := h.1
  have hll2 := h2.1
  have hsz := smallF_true hs
  have hsz2 := smallF_true hs2
  have haw := awake_any w hh
  have hsm : ∀ W, Below w.heap.size w W → Calls Tryd.prog 9 #[.slice a len cap] W fun e w' => e = .returned (.bool true) ∧ W = w' := fun W hW => by rw [← hs]; exact small_any a len cap l W (h.below (Nat.le_refl _) hW)
  have hsm2 : ∀ W, Below w.heap.size w W → Calls Tryd.prog 9 #[.slice a2 len2 cap2] W fun e w' => e = .returned (.bool true) ∧ W = w' := fun W hW => by rw [← hs2]; exact small_any a2 len2 cap2 m W (h2.below (Nat.le_refl _) hW)
  have hP1 : ∀ W, Below w.heap.size w W → Calls Tryd.prog 10 #[.int .u8 kind.toNat, .slice a len cap] W (PackAny W (packV kind l) (packE kind l)) := fun W hW => pack_any kind a len cap l W (h.below (Nat.le_refl _) hW) (hh.below (Nat.le_refl _) hW) (by omega)
  have hP2 : ∀ W, Below w.heap.size w W → Calls Tryd.prog 10 #[.int .u8 kind.toNat, .slice a2 len2 cap2] W (PackAny W (packV kind m) (packE kind m)) := fun W hW => pack_any kind a2 len2 cap2 m W (h2.below (Nat.le_refl _) hW) (hh.below (Nat.le_refl _) hW) (by omega)
  have hSz : ∀ W, Below w.heap.size w W → Calls Tryd.prog 13 #[.slice a len cap] W fun e w' => e = .returned (.int .i64 ((len + lens l : Nat) : Int)) ∧ W = w' := fun W hW => csize_any a len cap l W (h.below (Nat.le_refl _) hW) (by omega)
  have hpv : packV kind l = [] := by rw [packV, if_neg hf]
  have hpe : packE kind l = 1 := by rw [packE, if_neg hf]
  rw [hpv, hpe] at hP1
  have hk : kind = 0 ∨ kind ≠ 0 ∧ 122 < len + lens l := by
    by_cases hk : kind = 0
    · exact .inl hk
    · refine .inr ⟨hk, ?_⟩
      simp only [fits, Bool.and_eq_true, decide_eq_true_eq, not_and, bne_iff_ne, ne_eq] at hf
      have := hf hk
      omega
  generalize packV kind m = pm at *
  generalize packE kind m = em at *
  clear hpv hpe hf hsz hsz2 hs hs2 hll hll2
  rcases hk with rfl | ⟨hk, hbig⟩
  · go_enter Tryd.func5, Tryd.ntmps5
    go_wp2_with fail
    refine haw.mono ?_
    rintro e w1 ⟨rfl, hb⟩
    go_wp2_with fail
    refine (hsm w1 hb).mono ?_
    rintro e w2 ⟨rfl, rfl⟩
    go_wp2_with fail
    refine (hsm2 w1 hb).mono ?_
    rintro e w2 ⟨rfl, rfl⟩
    go_wp2_with fail
    refine (hP1 w1 hb).mono ?_
    rintro e w2 ⟨v2, rfl, hown2, hb2⟩
    have hb := below_then hb hb2
    obtain ⟨c2, c3, rfl, _⟩ := Bs.of_own hown2
    clear hown2 hb2
    go_wp2_with fail
    refine (hP2 w2 hb).mono ?_
    rintro e w3 ⟨v3, rfl, hown3, hb3⟩
    have hb := below_then hb hb3
    clear hown3 hb3
    go_wp2_with fail
    go_ret
    exact ⟨rfl, hb⟩
  · have hk0 := u8_ne hk
    have hk1 : ((kind.toNat : Int) != 0) = true := by rw [bne, hk0]; rfl
    have hdq : decide ((122 : Int) < ((len + lens l : Nat) : Int)) = true := by simp; omega
    generalize len + lens l = q at *
    go_enter Tryd.func5, Tryd.ntmps5
    go_wp2_with fail
    refine haw.mono ?_
    rintro e w1 ⟨rfl, hb⟩
    go_wp2_with fail
    refine (hsm w1 hb).mono ?_
    rintro e w2 ⟨rfl, rfl⟩
    go_wp2_with fail
    refine (hsm2 w1 hb).mono ?_
    rintro e w2 ⟨rfl, rfl⟩
    go_wp2_with fail
    refine (hP1 w1 hb).mono ?_
    rintro e w2 ⟨v2, rfl, hown2, hb2⟩
    have hb := below_then hb hb2
    obtain ⟨c2, c3, rfl, _⟩ := Bs.of_own hown2
    clear hown2 hb2
    go_wp2_with fail
    refine (hP2 w2 hb).mono ?_
    rintro e w3 ⟨v3, rfl, hown3, hb3⟩
    have hb := below_then hb hb3
    clear hown3 hb3
    go_wp2_with fail
    refine (hSz w3 hb).mono ?_
    rintro e w4 ⟨rfl, rfl⟩
    go_wp2_with fail
    go_ret
    exact ⟨rfl, hb⟩

set_option maxRecDepth 100000 in
set_option maxHeartbeats 8000000 in
theorem lBack_ok (kind : UInt8) (a a2 : Option Addr) (len cap len2 cap2 : Nat) (l m : List (List UInt8)) (w : World) (h : Bss w a len cap l) (h2 : Bss w a2 len2 cap2 m) (hh : Half w) (hs : smallF l = true) (hs2 : smallF m = true) (hf : fits kind l = true) :
    Calls Tryd.prog 5 #[.int .u8 kind.toNat, .slice a len cap, .slice a2 len2 cap2] w fun e w' => e = .returned (.bool true) ∧ Below w.heap.size w w' := by
  have hll := h.1
  have hll2 := h2.1
  have hsz := smallF_true hs
  have hsz2 := smallF_true hs2
  have haw := awake_any w hh
  have hsm : ∀ W, Below w.heap.size w W → Calls Tryd.prog 9 #[.slice a len cap] W fun e w' => e = .returned (.bool true) ∧ W = w' := fun W hW => by rw [← hs]; exact small_any a len cap l W (h.below (Nat.le_refl _) hW)
  have hsm2 : ∀ W, Below w.heap.size w W → Calls Tryd.prog 9 #[.slice a2 len2 cap2] W fun e w' => e = .returned (.bool true) ∧ W = w' := fun W hW => by rw [← hs2]; exact small_any a2 len2 cap2 m W (h2.below (Nat.le_refl _) hW)
  have hP1 : ∀ W, Below w.heap.size w W → Calls Tryd.prog 10 #[.int .u8 kind.toNat, .slice a len cap] W (PackAny W (packV kind l) (packE kind l)) := fun W hW => pack_any kind a len cap l W (h.below (Nat.le_refl _) hW) (hh.below (Nat.le_refl _) hW) (by omega)
  have hP2 : ∀ W, Below w.heap.size w W → Calls Tryd.prog 10 #[.int .u8 kind.toNat, .slice a2 len2 cap2] W (PackAny W (packV kind m) (packE kind m)) := fun W hW => pack_any kind a2 len2 cap2 m W (h2.below (Nat.le_refl _) hW) (hh.below (Nat.le_refl _) hW) (by omega)
  have hSz : ∀ W, Below w.heap.size w W → Calls Tryd.prog 13 #[.slice a2 len2 cap2] W fun e w' => e = .returned (.int .i64 ((len2 + lens m : Nat) : Int)) ∧ W = w' := fun W hW => csize_any a2 len2 cap2 m W (h2.below (Nat.le_refl _) hW) (by omega)
  have hTx : ∀ W, Below w.heap.size w W → Calls Tryd.prog 12 #[.slice a len cap] W (OwnStrs W l) := fun W hW => texts_any a len cap l W (h.below (Nat.le_refl _) hW) (by omega)
  have hTx2 : ∀ W, Below w.heap.size w W → Calls Tryd.prog 12 #[.slice a2 len2 cap2] W (OwnStrs W m) := fun W hW => texts_any a2 len2 cap2 m W (h2.below (Nat.le_refl _) hW) (by omega)
  have hpv : packV kind l = pageOf kind l := by rw [packV, if_pos hf]
  have hpe : packE kind l = 0 := by rw [packE, if_pos hf]
  rw [hpv, hpe] at hP1
  obtain ⟨u1, u2, u3⟩ := page_back kind l hf
  have hU : ∀ W x n c, Below w.heap.size w W → Bs W x n c (pageOf kind l) → Calls Tryd.prog 15 #[.slice x n c] W (UnpPost W kind l 0) := fun W x n c hW hx => by
    have := unpack_any x n c (pageOf kind l) W hx (hh.below (Nat.le_refl _) hW)
    rwa [u1, u2, u3] at this
  have hfit : l.length + lens l ≤ 122 := by
    simp only [fits, Bool.and_eq_true, decide_eq_true_eq] at hf; exact hf.2
  have hPL := pageOf_length kind l hfit
  have hTurn := page_turned kind l hf
  have hEq : packE kind m = 0 → (pageOf kind l == packV kind m) = (l == m) := fun he => by
    have hfm := fits_of kind m he
    rw [packV, if_pos hfm]; exact page_eq kind l m hf hfm
  have hpe01 : packE kind m = 0 ∨ packE kind m = 1 := by unfold packE; split <;> simp
  obtain ⟨at_, hat, hat2⟩ : ∃ t, t = (len2 + lens m) % 128 ∧ t < 128 := ⟨_, rfl, by omega⟩
  have hrem : ((len2 + lens m : Nat) : Int) % 128 = (at_ : Int) := by omega
  have hq0 : 0 ≤ len2 + lens m ∧ len2 + lens m ≤ 100000 := by omega
  generalize len2 + lens m = q at *
  generalize packV kind m = pm at *
  generalize packE kind m = em at *
  have HL := Lib.hid hll
  have HL2 := Lib.hid hll2
  have hl3 : len ≤ 122 := by omega
  clear hpv hpe hsz hsz2 hs hs2 hll hll2 u1 u2 u3 hf hfit hat
  have hX := fun b : UInt8 => xor1_val b
  have hX2 := fun b : UInt8 => xor1_ne b
  generalize pageOf kind l = pg at *
  have HPL := Lib.hid hPL
  have HT := Lib.hid hTurn
  have HEQ := Lib.hid hEq
  clear hPL hTurn hEq
  go_enter Tryd.func5, Tryd.ntmps5
  go_wp2_with fail
  refine haw.mono ?_
  rintro e w1 ⟨rfl, hb⟩
  go_wp2_with fail
  refine (hsm w1 hb).mono ?_
  rintro e w2 ⟨rfl, rfl⟩
  go_wp2_with fail
  refine (hsm2 w1 hb).mono ?_
  rintro e w2 ⟨rfl, rfl⟩
  go_wp2_with fail
  refine (hP1 w1 hb).mono ?_
  rintro e w2 ⟨v2, rfl, hown2, hb2⟩
  have hown2 := own_base hown2 hb.size
  have hb := below_then hb hb2
  rw [HPL.out] at hown2
  clear hb2
  obtain ⟨ap, cp, rfl, hcp1, hcp2, hap⟩ := own_slice hown2
  obtain ⟨g, rfl⟩ := hap (by decide)
  go_wp2_with fail
  refine (hP2 w2 hb).mono ?_
  rintro e w3 ⟨v3, rfl, hown3, hb3⟩
  have hb := below_then hb hb3
  have hown2 := own_below hown2 (Nat.le_refl _) hb3
  obtain ⟨a3, c3, rfl, hbs3⟩ := Bs.of_own hown3
  clear hown3 hb3
  go_wp2_with fail
  refine (hU w3 _ _ cp hb (Bs.own hown2)).mono ?_
  rintro e w4 ⟨v4, rfl, ho4, hb4⟩
  have hb := below_then hb hb4
  have hbs3 := hbs3.below (Nat.le_refl _) hb4
  have hown2 := own_below hown2 (Nat.le_refl _) hb4
  obtain ⟨a4, c4, rfl, hbs4⟩ := ho4.bss
  clear ho4 hb4
  go_wp2_with fail
  refine (texts_any a4 _ c4 l w4 hbs4 (by have := HL.out; omega)).mono ?_
  rintro e w5 ⟨v5, rfl, ho5, hb5⟩
  have hb := below_then hb hb5
  have hbs3 := hbs3.below (Nat.le_refl _) hb5
  have hown2 := own_below hown2 (Nat.le_refl _) hb5
  obtain ⟨a5, c5, rfl, hss5⟩ := Strs.of_own ho5
  clear ho5 hb5 hbs4
  go_wp2_with fail
  refine (hTx w5 hb).mono ?_
  rintro e w6 ⟨v6, rfl, ho6, hb6⟩
  have hb := below_then hb hb6
  have hbs3 := hbs3.below (Nat.le_refl _) hb6
  have hown2 := own_below hown2 (Nat.le_refl _) hb6
  have hss5 := hss5.below (Nat.le_refl _) hb6
  obtain ⟨a6, c6, rfl, hss6⟩ := Strs.of_own ho6
  clear ho6 hb6
  go_wp2_with fail
  refine (same_any a5 a6 _ c5 _ c6 l l w6 hss5 hss6).mono ?_
  rintro e w7 ⟨q7, rfl, rfl⟩
  have hbq : (l == l) = true := by simp
  have hb := below_drewN hb q7
  have hbs3 : Bs (w6.drewN q7) a3 _ c3 pm := hbs3
  have hown2 : (w6.drewN q7).ownsRow _ _ _ _ _ _ := hown2
  clear hss5 hss6
  generalize w6.drewN q7 = w7 at *
  have hst := strOf_toList
  have hC7 : Below w7.heap.size w7 w7.drew := (Below.refl _ _).drew
  have hcb : ∀ W, Below w7.heap.size w7 W → (convert 25 9 (.slice (some ⟨g, 0, none⟩) 128 cp)).run Tryd.prog W = .ok (.string (strOf pg)) W := fun W hW => conv_string Tryd.underlying25 Tryd.underlying5 Tryd.underlying9 ((Bs.own hown2).below (Nat.le_refl _) hW)
  have hcc : ∀ W, Below w7.heap.size w7 W → (convert 25 9 (.slice a3 pm.length c3)).run Tryd.prog W = .ok (.string (strOf pm)) W := fun W hW => conv_string Tryd.underlying25 Tryd.underlying5 Tryd.underlying9 (hbs3.below (Nat.le_refl _) hW)
  have hT7 : ∀ W, Below w7.heap.size w7 W → Calls Tryd.prog 12 #[.slice a len cap] W (OwnStrs W l) := fun W hW => hTx W (below_then hb hW)
  have hU7 : ∀ W, Below w7.heap.size w7 W → Calls Tryd.prog 12 #[.slice a2 len2 cap2] W (OwnStrs W m) := fun W hW => hTx2 W (below_then hb hW)
  have HO := Lib.hid hown2
  clear hown2 hbs3
  rcases hpe01 with rfl | rfl
  · have hq := HEQ.out rfl
    go_wp2_with fail
    go_region_held3 (fun W => Below w7.heap.size w7 W) (assumption) (first | (go_at_call 12; (with_reducible refine (hT7 _ (by assumption)).mono ?_); rintro e wa ⟨va, rfl, hoa, hba⟩; have hC8 := hC7.trans (hba.mono hC7.size); obtain ⟨aa, ca, rfl, hssa⟩ := Strs.of_own hoa; clear hoa hba) | (go_at_call 12; (with_reducible refine (hU7 _ (by assumption)).mono ?_); rintro e wb ⟨vb, rfl, hob, hbb⟩; have hC9 := hC8.trans (hbb.mono hC8.size); have hssa := hssa.below (Nat.le_refl _) hbb; obtain ⟨ab, cb, rfl, hssb⟩ := Strs.of_own hob; clear hob hbb) | (go_at_call 17; refine (same_any _ _ _ _ _ _ l m _ hssa hssb).mono ?_; rintro e wd ⟨qd, rfl, rfl⟩; have hCd := below_drewN hC9 qd))
    have hb8 := below_then hb hCd
    have HO8 := Lib.hid (own_below HO.out (Nat.le_refl _) hCd)
    clear hssa hssb hC8 hC9 hcb hcc hT7 hU7
    have hbb : ((l == m) != (l == m)) = false := by simp
    go_wp2_with fail
    refine (hSz _ hb8).mono ?_
    rintro e w9 ⟨rfl, rfl⟩
    have hown := HO8.out
    have hcell := hown.cellAt at_ (by omega)
    have hfr := hown.frozenAt at_
    have hst8 := (hown.stored at_ (.int .u8 (((pg[at_]?.getD 0).toNat ^^^ 1 : Nat) : Int)))
    have hlist : ((toI pg).map (Value.int .u8)).set at_ (.int .u8 (((pg[at_]?.getD 0).toNat ^^^ 1 : Nat) : Int)) = (toI (pg.set at_ (UInt8.ofNat ((pg[at_]?.getD 0).toNat ^^^ 1)))).map (Value.int .u8) := by
      simp only [toI, List.map_set, hX]
    rw [hlist] at hst8
    have hpg : pg[at_]? = some (pg[at_]?.getD 0) := by rw [List.getElem?_eq_getElem (by rw [HPL.out]; exact hat2)]; rfl
    have hcell2 : ((toI pg).map (Value.int .u8))[at_]? = some (.int .u8 ((pg[at_]?.getD 0).toNat : Int)) := by
      rw [List.getElem?_map, toI, List.getElem?_map, hpg]; rfl
    rw [hcell2] at hcell
    have hx2 := hX2 (pg[at_]?.getD 0)
    have hE := HT.out at_ hat2 (UInt8.ofNat ((pg[at_]?.getD 0).toNat ^^^ 1)) (by rw [hpg]; intro e; exact hx2 (Option.some.inj e).symm)
    clear hlist hcell2 hpg hx2 hown hX hX2
    generalize UInt8.ofNat ((pg[at_]?.getD 0).toNat ^^^ 1) = c at *
    generalize pg[at_]?.getD 0 = c0 at *
    have hxb : bits .xor .u8 (c0.toNat : Int) 1 = ((c0.toNat ^^^ 1 : Nat) : Int) := u8_xor_nat c0.toNat 1 c0.toNat_lt (by decide)
    have hgb := own_ge HO8.out g rfl
    have hb10 := hb8.setCell (p := ⟨g, at_, none⟩) hgb (.int .u8 ((c0.toNat ^^^ 1 : Nat) : Int))
    have HS := Lib.hid hst8.1
    have HE := Lib.hid hE
    clear hst8 hE
    go_wp2_with fail
    refine (unpack_any _ _ cp (pg.set at_ c) _ (Bs.own HS.out) (hh.below (Nat.le_refl _) hb10)).mono ?_
    rw [HE.out]
    rintro e w11 ⟨v11, rfl, ho11, hb11⟩
    have hb11 := below_then hb10 hb11
    clear ho11
    go_wp2_with fail
    go_ret
    exact ⟨rfl, hb11⟩
  · go_wp2_with fail
    go_quiet (fail)
    have hC8 := below_drewN (Below.refl w7.heap.size w7) nq
    generalize w7.drewN nq = w8 at *
    have hb8 := below_then hb hC8
    have HO8 := Lib.hid (own_below HO.out (Nat.le_refl _) hC8)
    clear hcb hcc hT7 hU7
    go_wp2_with fail
    refine (hSz _ hb8).mono ?_
    rintro e w9 ⟨rfl, rfl⟩
    have hown := HO8.out
    have hcell := hown.cellAt at_ (by omega)
    have hfr := hown.frozenAt at_
    have hst8 := (hown.stored at_ (.int .u8 (((pg[at_]?.getD 0).toNat ^^^ 1 : Nat) : Int)))
    have hlist : ((toI pg).map (Value.int .u8)).set at_ (.int .u8 (((pg[at_]?.getD 0).toNat ^^^ 1 : Nat) : Int)) = (toI (pg.set at_ (UInt8.ofNat ((pg[at_]?.getD 0).toNat ^^^ 1)))).map (Value.int .u8) := by
      simp only [toI, List.map_set, hX]
    rw [hlist] at hst8
    have hpg : pg[at_]? = some (pg[at_]?.getD 0) := by rw [List.getElem?_eq_getElem (by rw [HPL.out]; exact hat2)]; rfl
    have hcell2 : ((toI pg).map (Value.int .u8))[at_]? = some (.int .u8 ((pg[at_]?.getD 0).toNat : Int)) := by
      rw [List.getElem?_map, toI, List.getElem?_map, hpg]; rfl
    rw [hcell2] at hcell
    have hx2 := hX2 (pg[at_]?.getD 0)
    have hE := HT.out at_ hat2 (UInt8.ofNat ((pg[at_]?.getD 0).toNat ^^^ 1)) (by rw [hpg]; intro e; exact hx2 (Option.some.inj e).symm)
    clear hlist hcell2 hpg hx2 hown hX hX2
    generalize UInt8.ofNat ((pg[at_]?.getD 0).toNat ^^^ 1) = c at *
    generalize pg[at_]?.getD 0 = c0 at *
    have hxb : bits .xor .u8 (c0.toNat : Int) 1 = ((c0.toNat ^^^ 1 : Nat) : Int) := u8_xor_nat c0.toNat 1 c0.toNat_lt (by decide)
    have hgb := own_ge HO8.out g rfl
    have hb10 := hb8.setCell (p := ⟨g, at_, none⟩) hgb (.int .u8 ((c0.toNat ^^^ 1 : Nat) : Int))
    have HS := Lib.hid hst8.1
    have HE := Lib.hid hE
    clear hst8 hE
    go_wp2_with fail
    refine (unpack_any _ _ cp (pg.set at_ c) _ (Bs.own HS.out) (hh.below (Nat.le_refl _) hb10)).mono ?_
    rw [HE.out]
    rintro e w11 ⟨v11, rfl, ho11, hb11⟩
    have hb11 := below_then hb10 hb11
    clear ho11
    go_wp2_with fail
    go_ret
    exact ⟨rfl, hb11⟩
end Go.Proofs.YtoaiiiblakgopaaDoor
