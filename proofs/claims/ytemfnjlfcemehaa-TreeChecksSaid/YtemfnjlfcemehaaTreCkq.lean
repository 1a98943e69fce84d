/- The document's node of a leaf (printed by gen_treCk.py). -/
import Derived.Test.YtemfnjlfcemehaaTreCpq
import Derived.Test.YtemfnjlfcemehaaM8
import Derived.Test.YtemfnjlfcemehaaM10
import Derived.Test.YtemfnjlfcemehaaM4
import Derived.Test.YtemfnjlfcemehaaM2
import Derived.Deep.DeepCutAuto
import Derived.Deep.CutBlock
import Derived.Deep.QuietTactic
import Derived.BigQuiet
namespace Go.Proofs.Ytemfnjlfcemehaa
open Go.RowKit

set_option maxRecDepth 100000 in
set_option maxHeartbeats 16000000 in
theorem rnode_leaf {n : Nat}
    {F : Nat → Prop} {w : World} {cs : List Value} {p : Int} {l : List (List UInt8 × Tv)} (h : RNodeOn F (n + 1) w cs (.leaf p l)) (hb : Bnd (n + 1) (.leaf p l)) (hn : n ≤ 1000) (lo hi : List UInt8) (root : Bool) (hlo : lo.length ≤ 1000) (hhi : hi.length ≤ 1000) :
    Calls Try.prog 62 #[.agg cs.toArray, .string (strOf lo), .string (strOf hi), .bool root] w fun e w' => e = .returned (.int .i64 (depI (depthT (n + 1) (.leaf p l) lo hi root))) ∧ Below w.heap.size w w' := by
  have CS := fun W (hW : Below w.heap.size w W) => rsizes_any (h.below hW) hb
  have hSm := hb.small
  obtain ⟨a, c, rfl, h1, _⟩ := h.at
  obtain ⟨g1, g2⟩ := hb
  obtain ⟨e1, e2, e3⟩ := h1.lens
  obtain ⟨m, hml⟩ : ∃ m, cntT (.leaf p l) = m := ⟨_, rfl⟩
  have hlm : l.length = m := hml
  obtain ⟨R, hR⟩ : ∃ R, depthT (n + 1) (.leaf p l) lo hi root = R := ⟨_, rfl⟩
  obtain ⟨S, hS⟩ : ∃ S, sizesT (.leaf p l) = S := ⟨_, rfl⟩
  have hsz : sizeB root (.leaf p l) = (decide (1 ≤ m) && (decide (sumI S ≤ 122) && (root || !decide (sumI S < 30)))) := by
    unfold sizeB sumT lowT; rw [hml, ← hS]; rfl
  obtain ⟨sm, hsm⟩ : ∃ x, sumI S = x := ⟨_, rfl⟩
  rw [hS] at CS hSm
  rw [hsm] at hsz
  have hd := depthT_leaf n p l lo hi root
  rw [hR] at hd
  have hfit : fitT lo hi (.leaf p l) = (fitTo lo hi true (keysOf l) m && l.all fun c => valB c.2) := by rw [← hlm]; rfl
  generalize sizeB root (.leaf p l) = SZ at *
  generalize fitT lo hi (.leaf p l) = FT at *
  rw [hR, show (Tr.leaf p l).page = p from rfl, show (Tr.leaf p l).isLeaf = true from rfl]
  rw [hml] at h1 e1 e2 CS ⊢
  have HV := Lib.hid h1
  have HSm := Lib.hid hSm
  have HSM := Lib.hid hsm
  have HSZ := Lib.hid hsz
  have HD := Lib.hid hd
  have HFT := Lib.hid hfit
  have HL := Lib.hid hlm
  have HG := Lib.hid g2
  have hm9 : m ≤ 1000 := by omega
  have HB0 := Lib.hid ((Below.refl _ _).alloc (Nat.le_refl _) _ : Below w.heap.size w (w.alloc (.cells #[.int .i64 p, .bool true, .slice a m c] 26)))
  have HX0 := Lib.hid ((Boxes.nil w).alloc #[.int .i64 p, .bool true, .slice a m c] 26 (b := w.heap.size) rfl)
  obtain ⟨W1, hW1⟩ : ∃ x, w.alloc (.cells #[.int .i64 p, .bool true, .slice a m c] 26) = x := ⟨_, rfl⟩
  rw [hW1] at HB0 HX0
  have CS1 := CS _ HB0.out
  have CS2 : ∀ W, Below W1.heap.size W1 W → Calls Try.prog 65 #[.agg #[.int .i64 p, .bool true, .slice a m c]] W (SizesPost W S) := fun W hW => CS W (below_via HB0.out hW)
  clear h h1 g1 g2 e1 hml hS hR hd hfit hsz hsm hSm hlm CS
  have n0 := HX0.out.cell 0 0 rfl rfl
  have n1 := HX0.out.cell 0 1 rfl rfl
  have n2 := HX0.out.cell 0 2 rfl rfl
  show Calls _ _ #[.agg #[.int .i64 p, .bool true, .slice a m c], .string (strOf lo), .string (strOf hi), .bool root] _ _
  go_enter Try.func62, Try.ntmps62
  go_wp2_with fail
  try rw [hW1]
  clear hW1
  refine CS1.mono ?_
  rintro e w2 ⟨v2, rfl, ho2, hb2⟩
  obtain ⟨sa, sc, rfl, hrow⟩ := Row.of_own ho2
  have HB2 := Lib.hid (below_via HB0.out hb2)
  have HX2 := Lib.hid (HX0.out.step hb2)
  have CSum : ∀ W, Below w2.heap.size w2 W → Calls Try.prog 90 #[.slice sa S.length sc] W (fun e w' => e = .returned (.int .i64 sm) ∧ W = w') := fun W hW => by
    have := refSum_any _ _ _ _ W (Row.below (Nat.le_refl _) hW hrow) HSm.out
    rwa [HSM.out] at this
  have CLow : ∀ W, Below w2.heap.size w2 W → Calls Try.prog 73 #[.slice sa S.length sc] W (fun e w' => e = .returned (.bool (decide (sm < 30))) ∧ W = w') := fun W hW => by
    have := refLow_any _ _ _ _ W (Row.below (Nat.le_refl _) hW hrow) HSm.out
    rwa [HSM.out] at this
  clear n0 n1 n2 ho2 hrow CS1 CS2
  have n0 := HX2.out.cell 0 0 rfl rfl
  have n1 := HX2.out.cell 0 1 rfl rfl
  have n2 := HX2.out.cell 0 2 rfl rfl
  clear hb2
  go_upto_region 2 with (fail)
  go_cut [46] (fun s wq => s = .bool (!SZ) ∧ w2 = wq)
  case first =>

    by_cases h0 : m = 0
    · have c0 : ((m : Int) == 0) = true := by simp; omega
      have H0 := Lib.hid h0
      clear h0
      have HE : Hid (SZ = false) := Lib.hid (by rw [HSZ.out]; simp [H0.out])
      go_wp2_with (first | (go_at_call 90; refine (CSum _ (by first | exact Below.refl _ _ | assumption)).mono ?_; rintro e w9 ⟨rfl, rfl⟩) | (go_at_call 73; refine (CLow _ (by first | exact Below.refl _ _ | assumption)).mono ?_; rintro e w9 ⟨rfl, rfl⟩))
      go_meet
      exact ⟨by rw [HE.out]; rfl, rfl⟩
    have c0 : ((m : Int) == 0) = false := beq_eq_false_iff_ne.2 (by omega)
    have H0 := Lib.hid h0
    clear h0
    by_cases h2 : 122 < sm
    · have c2 : decide ((122 : Int) < sm) = true := by simp; omega
      have H2 := Lib.hid h2
      clear h2
      have HE : Hid (SZ = false) := Lib.hid (by rw [HSZ.out]; have := H2.out; simp; intros; omega)
      go_wp2_with (first | (go_at_call 90; refine (CSum _ (by first | exact Below.refl _ _ | assumption)).mono ?_; rintro e w9 ⟨rfl, rfl⟩) | (go_at_call 73; refine (CLow _ (by first | exact Below.refl _ _ | assumption)).mono ?_; rintro e w9 ⟨rfl, rfl⟩))
      go_meet
      exact ⟨by rw [HE.out]; rfl, rfl⟩
    have c2 : decide ((122 : Int) < sm) = false := by simp; omega
    have H2 := Lib.hid h2
    clear h2
    cases root with
    | true =>
      have HE : Hid (SZ = true) := Lib.hid (by rw [HSZ.out]; have := H0.out; have := H2.out; simp; omega)
      go_wp2_with (first | (go_at_call 90; refine (CSum _ (by first | exact Below.refl _ _ | assumption)).mono ?_; rintro e w9 ⟨rfl, rfl⟩) | (go_at_call 73; refine (CLow _ (by first | exact Below.refl _ _ | assumption)).mono ?_; rintro e w9 ⟨rfl, rfl⟩))
      go_meet
      exact ⟨by rw [HE.out]; rfl, rfl⟩
    | false =>
      by_cases h3 : sm < 30
      · simp only [h3, decide_true] at CLow
        have H3 := Lib.hid h3
        clear h3
        have HE : Hid (SZ = false) := Lib.hid (by rw [HSZ.out]; have := H3.out; simp; intros; omega)
        go_wp2_with (first | (go_at_call 90; refine (CSum _ (by first | exact Below.refl _ _ | assumption)).mono ?_; rintro e w9 ⟨rfl, rfl⟩) | (go_at_call 73; refine (CLow _ (by first | exact Below.refl _ _ | assumption)).mono ?_; rintro e w9 ⟨rfl, rfl⟩))
        go_meet
        exact ⟨by rw [HE.out]; rfl, rfl⟩
      simp only [h3, decide_false] at CLow
      have H3 := Lib.hid h3
      clear h3
      have HE : Hid (SZ = true) := Lib.hid (by rw [HSZ.out]; have := H0.out; have := H2.out; have := H3.out; simp; omega)
      go_wp2_with (first | (go_at_call 90; refine (CSum _ (by first | exact Below.refl _ _ | assumption)).mono ?_; rintro e w9 ⟨rfl, rfl⟩) | (go_at_call 73; refine (CLow _ (by first | exact Below.refl _ _ | assumption)).mono ?_; rintro e w9 ⟨rfl, rfl⟩))
      go_meet
      exact ⟨by rw [HE.out]; rfl, rfl⟩
  case rest =>
  obtain ⟨rfl, rfl⟩ := hcut

  cases SZ with
  | false =>
    have HR : Hid (R = none) := Lib.hid (by rw [HD.out, Bool.and_false]; rfl)
    go_wp2_with fail
    go_ret
    exact ⟨by rw [HR.out]; rfl, HB2.out⟩
  | true =>
  go_wp2_with fail
  go_loopw [10, 11] (fun s10 s11 wr => ∃ i far : Nat, i ≤ m ∧ s11 = .int .i64 i ∧ s10 = .int .i64 far ∧ far = 0 ∧ fitTo lo hi true (keysOf l) i = true ∧ (∀ j c, j < i → l[j]? = some c → valB c.2 = true) ∧ Below w.heap.size w wr ∧ Boxes wr [(w.heap.size, [.int .i64 p, .bool true, .slice a m c])]) (fun _ s _ => m - (intOf s).toNat)
  case atStart => exact ⟨0, 0, Nat.zero_le _, rfl, rfl, rfl, rfl, (fun j c h => by omega), HB2.out, HX2.out⟩
  case round =>
    clear n0 n1 n2 CSum CLow HX2 HB2 HX0 HB0
    obtain ⟨i, far, hi', rfl, rfl, hfar, hfit, hrest, hb, hx⟩ := hrel
    subst hfar
    by_cases hlt : i < m
    rotate_left
    · obtain rfl : i = m := by omega
      have HR : Hid (R = some 0) := Lib.hid (by
        rw [HD.out, HFT.out, hfit, if_pos]
        simp only [Bool.true_and, Bool.and_true, List.all_eq_true]
        intro c hc
        obtain ⟨j, hj, rfl⟩ := List.getElem_of_mem hc
        exact hrest j _ (by rw [← HL.out]; exact hj) (List.getElem?_eq_getElem hj))
      have HB := Lib.hid hb
      have f2 := hx.cell 0 2 rfl rfl
      have d0 : decide ((i : Int) < (i : Int)) = false := by simp
      clear hfit hrest hb hx
      go_wp2_with fail
      go_ret
      exact ⟨by rw [HR.out]; rfl, HB.out⟩
    obtain ⟨b, off, y, pa, pn, pc, ka, kn, kc, rfl, hbb, hy, _, hpg, _, hkt, _, c0, c1, c2, c3⟩ := RNodeOn.cell HV.out hlt
    rw [cellsR_leaf] at hy
    obtain ⟨x, hx1, hx2⟩ := Option.map_eq_some_iff.1 hy
    subst hx2
    clear hy
    obtain ⟨k, yv⟩ := x
    have hg := HG.out _ (List.mem_of_getElem? hx1)
    have hKK : (keysOf l)[i]?.getD [] = k := by simp [keysOf, hx1]
    have hbb9 := Nat.lt_of_lt_of_le hbb hb.size
    dsimp only at hg c0 c1 c2 c3 hpg hkt
    obtain ⟨q1, q2, q3⟩ := hkt.lens
    have hkn : kn = 0 := by rw [← q1]; rfl
    subst hkn
    have HPN := Lib.hid (hpg.1)
    obtain ⟨dl, hdl⟩ : ∃ z, yv.data.length = z := ⟨_, rfl⟩
    have HDL := Lib.hid hdl
    have hsd := strOf_size yv.data
    rw [hdl] at hg hsd
    have hpc : pn ≤ pc ∧ pc ≤ maxLen := ⟨hpg.2.1, hpg.2.2.1⟩
    unfold maxLen at hpc
    have CN := fun W => crneed_any (dl : Int) W
    clear hdl hpg
    have hkl := hg.1
    have hsz := strOf_size k
    have HKK := Lib.hid hKK
    have HA := Lib.hid hfit
    have HRS := Lib.hid hrest
    have HX1 := Lib.hid hx1
    obtain ⟨BAD, hbad⟩ : ∃ z, (!(fitAt lo hi true (keysOf l) i && valB yv)) = z := ⟨_, rfl⟩
    have HBAD := Lib.hid hbad.symm
    clear hbad hKK hfit hrest hx1
    have v0 := (hb.cell (p := ⟨b, off + i * 4, none⟩) hbb).trans c0
    have v1 := (hb.cell (p := ⟨b, off + i * 4 + 1, none⟩) hbb).trans c1
    have v2 := (hb.cell (p := ⟨b, off + i * 4 + 2, none⟩) hbb).trans c2
    have v3 := (hb.cell (p := ⟨b, off + i * 4 + 3, none⟩) hbb).trans c3
    have f1 := hx.cell 0 1 rfl rfl
    have f2 := hx.cell 0 2 rfl rfl
    have hxc := hx.alloc #[.string (strOf k), .string (strOf yv.data), .slice pa pn pc, .slice ka 0 kc] 48 (b := wr.heap.size) rfl
    have hbc : Below wr.heap.size wr (wr.alloc (.cells #[.string (strOf k), .string (strOf yv.data), .slice pa pn pc, .slice ka 0 kc] 48)) := Below.al (Below.refl _ _)
    obtain ⟨wc, hwc⟩ : ∃ x, wr.alloc (.cells #[.string (strOf k), .string (strOf yv.data), .slice pa pn pc, .slice ka 0 kc] 48) = x := ⟨_, rfl⟩
    rw [hwc] at hxc hbc
    have HB := Lib.hid (below_via hb hbc)
    have HX := Lib.hid (hxc)
    have hwx := hx.lt 0 rfl
    have u1 := hxc.cell 1 1 rfl rfl
    have u2 := hxc.cell 1 2 rfl rfl
    have m0 := hxc.cell 0 0 rfl rfl
    have m1 := hxc.cell 0 1 rfl rfl
    have m2 := hxc.cell 0 2 rfl rfl
    have m3 := hxc.cell 0 3 rfl rfl
    have d0 : decide ((i : Int) < (m : Int)) = true := by simp; omega
    have d0' : decide (i < m) = true := by simp; omega
    clear hxc c0 c1 c2 c3 hg q1
    go_upto_region 9 with (fail)
    go_cut [13] (fun s wq => s = .bool false ∧ wc = wq)
    case first =>
      by_cases h0 : i = 0
      · have d5 : ((i : Int) == 0) = true := by rw [h0]; rfl
        clear h0
        go_wp2_with fail
        go_meet
        exact ⟨rfl, rfl⟩
      · have d5 : ((i : Int) == 0) = false := beq_eq_false_iff_ne.2 (by omega)
        clear h0
        go_wp2_with fail
        go_meet
        exact ⟨rfl, rfl⟩
    case rest =>
    obtain ⟨rfl, rfl⟩ := hcut
    go_upto_region 10 with (fail)
    go_cut [143] (fun s wq => s = .bool BAD ∧ Below wc.heap.size wc wq)
    case first =>
      clear hwc v0 v1 v2 v3
      obtain ⟨E, hE⟩ : ∃ z : Bool, (decide (k = [])) = z := ⟨_, rfl⟩
      have HE3 : Hid ((E = true ∧ (strOf k).toList = [] ∧ (strOf k).toList.isEmpty = true) ∨ (E = false ∧ ¬ (strOf k).toList = [] ∧ (strOf k).toList.isEmpty = false)) := Lib.hid (by
        rw [← hE]
        by_cases h : k = []
        · exact .inl ⟨decide_eq_true h, str_empty h⟩
        · exact .inr ⟨decide_eq_false h, str_some h⟩)
      obtain ⟨X1, hX1⟩ : ∃ z : Bool, (false != E) = z := ⟨_, rfl⟩
      have HX1b := Lib.hid hX1
      obtain ⟨kl, hkl0⟩ : ∃ x, k.length = x := ⟨_, rfl⟩
      rw [hkl0] at hsz hkl
      obtain ⟨X2, hX2⟩ : ∃ z : Bool, (decide ((16 : Int) < (kl : Int))) = z := ⟨_, rfl⟩
      have HX2 := Lib.hid hX2
      obtain ⟨A11, hA11⟩ : ∃ z : Bool, ((X1 || X2)) = z := ⟨_, rfl⟩
      have HA11 := Lib.hid hA11
      obtain ⟨P, hP⟩ : ∃ z : Bool, (decide ((0 : Int) < (i : Int))) = z := ⟨_, rfl⟩
      have HPP : Hid ((P = true ∧ decide ((0 : Int) < (i : Int)) = true ∧ decide (0 < i) = true) ∨ (P = false ∧ decide ((0 : Int) < (i : Int)) = false ∧ decide (0 < i) = false)) := Lib.hid (by
        rw [← hP]
        by_cases h : 0 < i
        · exact .inl ⟨decide_eq_true (by omega), decide_eq_true (by omega), decide_eq_true h⟩
        · exact .inr ⟨decide_eq_false (by omega), decide_eq_false (by omega), decide_eq_false h⟩)
      obtain ⟨kp, hkp⟩ : ∃ z, (keysOf l)[i - 1]?.getD [] = z := ⟨_, rfl⟩
      obtain ⟨ip, hip⟩ : ∃ z, i - 1 = z := ⟨_, rfl⟩
      have HPT : Hid (P = true → IntKind.i64.wrap ((i : Int) - 1) = (ip : Int) ∧ (0 : Int) ≤ (ip : Int) ∧ (ip : Int) < (m : Int) ∧ ∀ W, Below wc.heap.size wc W → W.cell? ⟨b, off + ip * 4, none⟩ = some (.string (strOf kp))) := Lib.hid (fun h => by
        have h0 : 0 < i := by
          rw [← hP] at h
          have := of_decide_eq_true h
          omega
        have e9 : (i : Int) - 1 = (ip : Int) := by omega
        refine ⟨by rw [e9]; exact IntWalk.i64_in _ (by omega), by omega, by omega, fun W hW => ?_⟩
        obtain ⟨b7, off7, y7, _, _, _, _, _, _, e7, hbb7, hy7, _, _, _, _, _, c07, _, _, _⟩ := RNodeOn.cell HV.out (show ip < m by omega)
        cases e7
        rw [cellsR_leaf] at hy7
        obtain ⟨x7, hx71, hx72⟩ := Option.map_eq_some_iff.1 hy7
        subst hx72
        have ek : x7.1 = kp := by rw [← hkp, hip]; simp [keysOf, hx71]
        rw [← ek]
        exact ((below_via HB.out hW).cell (p := ⟨b, off + ip * 4, none⟩) hbb7).trans c07)
      obtain ⟨X3, hX3⟩ : ∃ z : Bool, (!decide (kp < k)) = z := ⟨_, rfl⟩
      have HX3 : Hid ((X3 = true ∧ k = kp ∧ Op.bytesLess (strOf k).toList (strOf k).toList = false ∧ ((strOf k).toList == (strOf k).toList) = true) ∨ (X3 = true ∧ Op.bytesLess (strOf k).toList (strOf kp).toList = true ∧ ((strOf k).toList == (strOf kp).toList) = false ∧ Op.bytesLess (strOf kp).toList (strOf k).toList = false ∧ ((strOf kp).toList == (strOf k).toList) = false) ∨ (X3 = false ∧ Op.bytesLess (strOf k).toList (strOf kp).toList = false ∧ ((strOf k).toList == (strOf kp).toList) = false ∧ ¬ (strOf k).toList = (strOf kp).toList ∧ ¬ (strOf kp).toList = (strOf k).toList)) := Lib.hid (by
        rw [← hX3]
        rcases ktri kp k with h | h | h
        · exact .inr (.inr ⟨by simp [h], (cmp_lt h).2.2.1, (cmp_lt h).2.2.2, (cmp_lt2 h).2, (cmp_lt2 h).1⟩)
        · exact .inl ⟨by simp [h, klt_irrefl], h.symm, cmp_eq k⟩
        · exact .inr (.inl ⟨by simp [klt_asymm h], cmp_lt h⟩))
      obtain ⟨Y3, hY3⟩ : ∃ z : Bool, ((P && X3)) = z := ⟨_, rfl⟩
      have HY3 := Lib.hid hY3
      obtain ⟨A27, hA27⟩ : ∃ z : Bool, ((A11 || Y3)) = z := ⟨_, rfl⟩
      have HA27 := Lib.hid hA27
      obtain ⟨X4, hX4⟩ : ∃ z : Bool, (decide (k < lo)) = z := ⟨_, rfl⟩
      have HX4 : Hid ((X4 = true ∧ Op.bytesLess (strOf k).toList (strOf lo).toList = true) ∨ (X4 = false ∧ Op.bytesLess (strOf k).toList (strOf lo).toList = false)) := Lib.hid (by
        rw [← hX4, strOf_toList, strOf_toList, bytes_lessT]
        by_cases h : k < lo
        · exact .inl ⟨decide_eq_true h, decide_eq_true h⟩
        · exact .inr ⟨decide_eq_false h, decide_eq_false h⟩)
      obtain ⟨A37, hA37⟩ : ∃ z : Bool, ((A27 || X4)) = z := ⟨_, rfl⟩
      have HA37 := Lib.hid hA37
      obtain ⟨Hn, hHn⟩ : ∃ z : Bool, (!decide (hi = [])) = z := ⟨_, rfl⟩
      have HHn : Hid ((Hn = false ∧ (strOf hi).toList = [] ∧ (strOf hi).toList.isEmpty = true) ∨ (Hn = true ∧ ¬ (strOf hi).toList = [] ∧ (strOf hi).toList.isEmpty = false)) := Lib.hid (by
        rw [← hHn]
        by_cases h : hi = []
        · exact .inl ⟨by simp [h], str_empty h⟩
        · exact .inr ⟨by simp [h], str_some h⟩)
      obtain ⟨X5, hX5⟩ : ∃ z : Bool, (!decide (k < hi)) = z := ⟨_, rfl⟩
      have HX5 : Hid ((X5 = true ∧ k = hi ∧ Op.bytesLess (strOf k).toList (strOf k).toList = false ∧ ((strOf k).toList == (strOf k).toList) = true) ∨ (X5 = false ∧ Op.bytesLess (strOf k).toList (strOf hi).toList = true ∧ ((strOf k).toList == (strOf hi).toList) = false ∧ Op.bytesLess (strOf hi).toList (strOf k).toList = false ∧ ((strOf hi).toList == (strOf k).toList) = false) ∨ (X5 = true ∧ Op.bytesLess (strOf hi).toList (strOf k).toList = true ∧ ((strOf hi).toList == (strOf k).toList) = false ∧ Op.bytesLess (strOf k).toList (strOf hi).toList = false ∧ ((strOf k).toList == (strOf hi).toList) = false)) := Lib.hid (by
        rw [← hX5]
        rcases ktri k hi with h | h | h
        · exact .inr (.inl ⟨by simp [h], cmp_lt h⟩)
        · exact .inl ⟨by simp [h, klt_irrefl], h, cmp_eq k⟩
        · exact .inr (.inr ⟨by simp [klt_asymm h], cmp_lt h⟩))
      obtain ⟨Y5, hY5⟩ : ∃ z : Bool, ((Hn && X5)) = z := ⟨_, rfl⟩
      have HY5 := Lib.hid hY5
      obtain ⟨A47, hA47⟩ : ∃ z : Bool, ((A37 || Y5)) = z := ⟨_, rfl⟩
      have HA47 := Lib.hid hA47
      obtain ⟨X6, hX6⟩ : ∃ z : Bool, (decide ((400 : Int) < (dl : Int))) = z := ⟨_, rfl⟩
      have HX6 := Lib.hid hX6
      obtain ⟨A54, hA54⟩ : ∃ z : Bool, ((A47 || X6)) = z := ⟨_, rfl⟩
      have HA54 := Lib.hid hA54
      have hfa : fitAt lo hi true (keysOf l) i = ((false == E) && (!X2 && ((!P || !X3) && ((false || !X4) && (!Hn || !X5))))) := by
        have h9 := fitAt_any (lo := lo) (hi := hi) (leaf := true) (F := false) HKK.out hkp (by simp) hP
        rw [hE, hkl0, hX2, hHn, hX5, hX3, hX4] at h9
        exact h9
      obtain ⟨Gp, hGp⟩ : ∃ z : Bool, (decide ((0 : Int) < (pn : Int))) = z := ⟨_, rfl⟩
      have HGp := Lib.hid hGp
      obtain ⟨nd, hnd⟩ : ∃ z, needC (dl : Int) = z := ⟨_, rfl⟩
      rw [hnd] at CN
      obtain ⟨X7, hX7⟩ : ∃ z : Bool, (decide (nd = 0)) = z := ⟨_, rfl⟩
      have HX7 : Hid ((X7 = true ∧ ((nd : Int) == 0) = true) ∨ (X7 = false ∧ ((nd : Int) == 0) = false)) := Lib.hid (by
        rw [← hX7]
        by_cases h : nd = 0
        · exact .inl ⟨decide_eq_true h, by simp [h]⟩
        · exact .inr ⟨decide_eq_false h, beq_eq_false_iff_ne.2 (by omega)⟩)
      have hvb : valB yv = (!X6 && !(Gp && X7)) := by
        have h9 := valB_bools HDL.out HPN.out hnd
        rw [hX6, hGp, hX7] at h9
        exact h9
      have hbo : ∀ (E X2 P X3 X4 Hn X5 X6 Gp X7 : Bool), (!(((false == E) && (!X2 && ((!P || !X3) && ((false || !X4) && (!Hn || !X5))))) && (!X6 && !(Gp && X7)))) = (((((((false != E) || X2) || (P && X3)) || X4) || (Hn && X5)) || X6) || (Gp && X7)) := by decide
      have HBD : Hid (BAD = (A54 || (Gp && X7))) := Lib.hid (by
        rw [HBAD.out, hfa, hvb, ← hA54, ← hA47, ← hY5, ← hA37, ← hA27, ← hY3, ← hA11, ← hX1]
        exact hbo _ _ _ _ _ _ _ _ _ _)
      clear hbo
      clear hE hX1 hX2 hA11 hX3 hY3 hA27 hX4 hA37 hHn hX5 hY5 hA47 hX6 hA54 hfa hP hkp hip hGp hnd hX7 hvb
      have T1 : ∀ W, Below wc.heap.size wc W → W.cell? ⟨w.heap.size, 1, none⟩ = some (.bool true) := fun W hW => (HX.out.step hW).cell 1 1 rfl rfl
      have T2 : ∀ W, Below wc.heap.size wc W → W.cell? ⟨w.heap.size, 2, none⟩ = some (.slice (some ⟨b, off, none⟩) m c) := fun W hW => (HX.out.step hW).cell 1 2 rfl rfl
      have M0 : ∀ W, Below wc.heap.size wc W → W.cell? ⟨wr.heap.size, 0, none⟩ = some (.string (strOf k)) := fun W hW => (HX.out.step hW).cell 0 0 rfl rfl
      have M1 : ∀ W, Below wc.heap.size wc W → W.cell? ⟨wr.heap.size, 1, none⟩ = some (.string (strOf yv.data)) := fun W hW => (HX.out.step hW).cell 0 1 rfl rfl
      have M2 : ∀ W, Below wc.heap.size wc W → W.cell? ⟨wr.heap.size, 2, none⟩ = some (.slice pa pn pc) := fun W hW => (HX.out.step hW).cell 0 2 rfl rfl
      have M3 : ∀ W, Below wc.heap.size wc W → W.cell? ⟨wr.heap.size, 3, none⟩ = some (.slice ka 0 kc) := fun W hW => (HX.out.step hW).cell 0 3 rfl rfl
      clear u1 u2 m0 m1 m2 m3 hx hb
      refine wp_region_noPanic ?_
      refine wp_region_held_drew (S := (fun W => Below wc.heap.size wc W)) (by kernel_rfl) (Below.dr (Below.refl _ _)) (fun hHeld => ?_)
      change wpAnyH _ _ _ _ _ 78 [false, false, false, false, false, false, false, false, false, false, false, false, false, false, false, false, false, false, false, false, false, false, false, false, false, false, false, false, false, false, false, false, false, false, false, false, false, false, false, false, false, false, false, false, false, false, false, false, false, false, false, false, false, false, false, false, false, false, false, false, false, false, false, false, false, false, false, false, false, false, false, false, false, false, false, false, false, false].toArray _ _
      refine wpAnyH_take (i := 0) (oi := { dst := some 66, op := Op.move (Operand.tmp 13), type := 4, pos := "ref.go:171", after := #[], guard := none }) (v := .bool false) rfl (by as_aux_lemma => kernel_rfl) (by as_aux_lemma => kernel_rfl) (by as_aux_lemma => kernel_rfl) (fun _ _ _ h => h) ?_ (by assumption) ?_
      · as_aux_lemma => exact Or.inl ⟨by rfl, by (intro W hW; (try dsimp only at hW); (try simp only [cond_true, cond_false]); go_simp <;> (with_reducible rfl))⟩
      (try simp only [Act.put, List.setIfInBounds_toArray]); (try dsimp only [List.set_cons_zero, List.set_cons_succ])
      refine wpAnyH_take (i := 1) (oi := { dst := some 67, op := Op.fieldAddr 48 (Operand.tmp 12) 0, type := 0, pos := "ref.go:171", after := #[], guard := none }) (v := .pointer (some ⟨wr.heap.size, 0, none⟩)) rfl (by as_aux_lemma => kernel_rfl) (by as_aux_lemma => kernel_rfl) (by as_aux_lemma => kernel_rfl) (fun _ _ _ h => h) ?_ (by assumption) ?_
      · as_aux_lemma => exact Or.inl ⟨by rfl, by (intro W hW; (try dsimp only at hW); (try simp only [cond_true, cond_false]); go_simp <;> (with_reducible rfl))⟩
      (try simp only [Act.put, List.setIfInBounds_toArray]); (try dsimp only [List.set_cons_zero, List.set_cons_succ])
      refine wpAnyH_take (i := 2) (oi := { dst := some 68, op := Op.load 9 (Operand.tmp 67), type := 9, pos := "ref.go:171", after := #[{ on := 1, ground := Ground.data }], guard := none }) (v := .string (strOf k)) rfl (by as_aux_lemma => kernel_rfl) (by as_aux_lemma => kernel_rfl) (by as_aux_lemma => kernel_rfl) (fun _ _ _ h => h) ?_ (by assumption) ?_
      · as_aux_lemma => exact Or.inl ⟨by rfl, by (intro W hW; (try dsimp only at hW); (try simp only [cond_true, cond_false]); go_simp <;> (with_reducible rfl))⟩
      (try simp only [Act.put, List.setIfInBounds_toArray]); (try dsimp only [List.set_cons_zero, List.set_cons_succ])
      refine wpAnyH_take (i := 3) (oi := { dst := some 69, op := Op.binOp BinOp.eql 9 (Operand.tmp 68) (Operand.const (Value.string { data := #[] })) 9, type := 4, pos := "ref.go:171", after := #[{ on := 2, ground := Ground.data }], guard := none }) (v := .bool E) rfl (by as_aux_lemma => kernel_rfl) (by as_aux_lemma => kernel_rfl) (by as_aux_lemma => kernel_rfl) (fun _ _ _ h => h) ?_ (by assumption) ?_
      · as_aux_lemma => exact Or.inl ⟨by rfl, by (intro W hW; (try dsimp only at hW); (try simp only [cond_true, cond_false]); rcases HE3.out with ⟨rfl, e1, e2⟩ | ⟨rfl, e1, e2⟩; all_goals go_simp <;> (with_reducible rfl))⟩
      (try simp only [Act.put, List.setIfInBounds_toArray]); (try dsimp only [List.set_cons_zero, List.set_cons_succ])
      refine wpAnyH_take (i := 4) (oi := { dst := some 70, op := Op.binOp BinOp.neq 4 (Operand.tmp 66) (Operand.tmp 69) 4, type := 4, pos := "ref.go:171", after := #[{ on := 0, ground := Ground.data }, { on := 3, ground := Ground.data }], guard := none }) (v := .bool X1) rfl (by as_aux_lemma => kernel_rfl) (by as_aux_lemma => kernel_rfl) (by as_aux_lemma => kernel_rfl) (fun _ _ _ h => h) ?_ (by assumption) ?_
      · as_aux_lemma => exact Or.inl ⟨by rfl, by (intro W hW; (try dsimp only at hW); (try simp only [cond_true, cond_false]); obtain rfl := HX1b.out; cases E; all_goals go_simp <;> (with_reducible rfl))⟩
      (try simp only [Act.put, List.setIfInBounds_toArray]); (try dsimp only [List.set_cons_zero, List.set_cons_succ])
      refine wpAnyH_take (i := 5) (oi := { dst := some 71, op := Op.move (Operand.tmp 70), type := 4, pos := "ref.go:171", after := #[{ on := 4, ground := Ground.data }], guard := none }) (v := .bool X1) rfl (by as_aux_lemma => kernel_rfl) (by as_aux_lemma => kernel_rfl) (by as_aux_lemma => kernel_rfl) (fun _ _ _ h => h) ?_ (by assumption) ?_
      · as_aux_lemma => exact Or.inl ⟨by rfl, by (intro W hW; (try dsimp only at hW); (try simp only [cond_true, cond_false]); go_simp <;> (with_reducible rfl))⟩
      (try simp only [Act.put, List.setIfInBounds_toArray]); (try dsimp only [List.set_cons_zero, List.set_cons_succ])
      refine wpAnyH_take (i := 6) (oi := { dst := some 72, op := Op.fieldAddr 48 (Operand.tmp 12) 0, type := 0, pos := "ref.go:171", after := #[{ on := 5, ground := Ground.guard }], guard := some (5, false) }) (v := (bif X1 then undef else .pointer (some ⟨wr.heap.size, 0, none⟩))) rfl (by as_aux_lemma => kernel_rfl) (by as_aux_lemma => kernel_rfl) (by as_aux_lemma => kernel_rfl) (fun _ _ _ h => h) ?_ (by assumption) ?_
      · as_aux_lemma => (cases X1 with | true => exact Or.inr ⟨by rfl, rfl⟩ | false => exact Or.inl ⟨by rfl, by (intro W hW; (try dsimp only at hW); (try simp only [cond_true, cond_false]); go_simp <;> (with_reducible rfl))⟩)
      (try simp only [Act.put, List.setIfInBounds_toArray]); (try dsimp only [List.set_cons_zero, List.set_cons_succ])
      refine wpAnyH_take (i := 7) (oi := { dst := some 73, op := Op.load 9 (Operand.tmp 72), type := 9, pos := "ref.go:171", after := #[{ on := 6, ground := Ground.data }, { on := 5, ground := Ground.guard }], guard := some (5, false) }) (v := (bif X1 then undef else .string (strOf k))) rfl (by as_aux_lemma => kernel_rfl) (by as_aux_lemma => kernel_rfl) (by as_aux_lemma => kernel_rfl) (fun _ _ _ h => h) ?_ (by assumption) ?_
      · as_aux_lemma => (cases X1 with | true => exact Or.inr ⟨by rfl, rfl⟩ | false => exact Or.inl ⟨by rfl, by (intro W hW; (try dsimp only at hW); (try simp only [cond_true, cond_false]); go_simp <;> (with_reducible rfl))⟩)
      (try simp only [Act.put, List.setIfInBounds_toArray]); (try dsimp only [List.set_cons_zero, List.set_cons_succ])
      refine wpAnyH_take (i := 8) (oi := { dst := some 74, op := Op.call { callee := Callee.builtin Builtin.len, args := #[Operand.tmp 73], argTypes := #[9] }, type := 3, pos := "ref.go:171", after := #[{ on := 7, ground := Ground.data }, { on := 5, ground := Ground.guard }], guard := some (5, false) }) (v := (bif X1 then undef else .int .i64 (kl : Int))) rfl (by as_aux_lemma => kernel_rfl) (by as_aux_lemma => kernel_rfl) (by as_aux_lemma => kernel_rfl) (fun _ _ _ h => h) ?_ (by assumption) ?_
      · as_aux_lemma => (cases X1 with | true => exact Or.inr ⟨by rfl, rfl⟩ | false => exact Or.inl ⟨by rfl, by (intro W hW; (try dsimp only at hW); (try simp only [cond_true, cond_false]); go_simp <;> (with_reducible rfl))⟩)
      (try simp only [Act.put, List.setIfInBounds_toArray]); (try dsimp only [List.set_cons_zero, List.set_cons_succ])
      refine wpAnyH_take (i := 9) (oi := { dst := some 75, op := Op.binOp BinOp.gtr 3 (Operand.tmp 74) (Operand.const (Value.int IntKind.i64 16)) 3, type := 4, pos := "ref.go:171", after := #[{ on := 8, ground := Ground.data }, { on := 5, ground := Ground.guard }], guard := some (5, false) }) (v := (bif X1 then undef else .bool X2)) rfl (by as_aux_lemma => kernel_rfl) (by as_aux_lemma => kernel_rfl) (by as_aux_lemma => kernel_rfl) (fun _ _ _ h => h) ?_ (by assumption) ?_
      · as_aux_lemma => (cases X1 with | true => exact Or.inr ⟨by rfl, rfl⟩ | false => exact Or.inl ⟨by rfl, by (intro W hW; (try dsimp only at hW); (try simp only [cond_true, cond_false]); obtain rfl := HX2.out; go_simp <;> (with_reducible rfl))⟩)
      (try simp only [Act.put, List.setIfInBounds_toArray]); (try dsimp only [List.set_cons_zero, List.set_cons_succ])
      refine wpAnyH_take (i := 10) (oi := { dst := some 76, op := Op.pick (Operand.tmp 71) (Operand.const (Value.bool true)) (Operand.tmp 75), type := 4, pos := "ref.go:171", after := #[{ on := 5, ground := Ground.data }, { on := 9, ground := Ground.data }], guard := none }) (v := .bool A11) rfl (by as_aux_lemma => kernel_rfl) (by as_aux_lemma => kernel_rfl) (by as_aux_lemma => kernel_rfl) (fun _ _ _ h => h) ?_ (by assumption) ?_
      · as_aux_lemma => exact Or.inl ⟨by rfl, by (intro W hW; (try dsimp only at hW); (try simp only [cond_true, cond_false]); obtain rfl := HA11.out; cases X1; all_goals go_simp <;> (with_reducible rfl))⟩
      (try simp only [Act.put, List.setIfInBounds_toArray]); (try dsimp only [List.set_cons_zero, List.set_cons_succ])
      refine wpAnyH_take (i := 11) (oi := { dst := some 77, op := Op.move (Operand.tmp 76), type := 4, pos := "ref.go:171", after := #[{ on := 10, ground := Ground.data }, { on := 5, ground := Ground.chain }], guard := none }) (v := .bool A11) rfl (by as_aux_lemma => kernel_rfl) (by as_aux_lemma => kernel_rfl) (by as_aux_lemma => kernel_rfl) (fun _ _ _ h => h) ?_ (by assumption) ?_
      · as_aux_lemma => exact Or.inl ⟨by rfl, by (intro W hW; (try dsimp only at hW); (try simp only [cond_true, cond_false]); go_simp <;> (with_reducible rfl))⟩
      (try simp only [Act.put, List.setIfInBounds_toArray]); (try dsimp only [List.set_cons_zero, List.set_cons_succ])
      refine wpAnyH_take (i := 12) (oi := { dst := some 78, op := Op.move (Operand.tmp 11), type := 3, pos := "ref.go:171", after := #[{ on := 11, ground := Ground.guard }], guard := some (11, false) }) (v := (bif A11 then undef else .int .i64 (i : Int))) rfl (by as_aux_lemma => kernel_rfl) (by as_aux_lemma => kernel_rfl) (by as_aux_lemma => kernel_rfl) (fun _ _ _ h => h) ?_ (by assumption) ?_
      · as_aux_lemma => (cases A11 with | true => exact Or.inr ⟨by rfl, rfl⟩ | false => exact Or.inl ⟨by rfl, by (intro W hW; (try dsimp only at hW); (try simp only [cond_true, cond_false]); go_simp <;> (with_reducible rfl))⟩)
      (try simp only [Act.put, List.setIfInBounds_toArray]); (try dsimp only [List.set_cons_zero, List.set_cons_succ])
      refine wpAnyH_take (i := 13) (oi := { dst := some 79, op := Op.binOp BinOp.gtr 3 (Operand.tmp 78) (Operand.const (Value.int IntKind.i64 0)) 3, type := 4, pos := "ref.go:171", after := #[{ on := 12, ground := Ground.data }, { on := 11, ground := Ground.guard }], guard := some (11, false) }) (v := (bif A11 then undef else .bool P)) rfl (by as_aux_lemma => kernel_rfl) (by as_aux_lemma => kernel_rfl) (by as_aux_lemma => kernel_rfl) (fun _ _ _ h => h) ?_ (by assumption) ?_
      · as_aux_lemma => (cases A11 with | true => exact Or.inr ⟨by rfl, rfl⟩ | false => exact Or.inl ⟨by rfl, by (intro W hW; (try dsimp only at hW); (try simp only [cond_true, cond_false]); rcases HPP.out with ⟨rfl, d5, d6⟩ | ⟨rfl, d5, d6⟩; all_goals go_simp <;> (with_reducible rfl))⟩)
      (try simp only [Act.put, List.setIfInBounds_toArray]); (try dsimp only [List.set_cons_zero, List.set_cons_succ])
      refine wpAnyH_take (i := 14) (oi := { dst := some 80, op := Op.move (Operand.tmp 79), type := 4, pos := "ref.go:171", after := #[{ on := 13, ground := Ground.data }, { on := 11, ground := Ground.chain }, { on := 11, ground := Ground.guard }], guard := some (11, false) }) (v := (bif A11 then undef else .bool P)) rfl (by as_aux_lemma => kernel_rfl) (by as_aux_lemma => kernel_rfl) (by as_aux_lemma => kernel_rfl) (fun _ _ _ h => h) ?_ (by assumption) ?_
      · as_aux_lemma => (cases A11 with | true => exact Or.inr ⟨by rfl, rfl⟩ | false => exact Or.inl ⟨by rfl, by (intro W hW; (try dsimp only at hW); (try simp only [cond_true, cond_false]); go_simp <;> (with_reducible rfl))⟩)
      (try simp only [Act.put, List.setIfInBounds_toArray]); (try dsimp only [List.set_cons_zero, List.set_cons_succ])
      refine wpAnyH_take (i := 15) (oi := { dst := some 81, op := Op.fieldAddr 48 (Operand.tmp 12) 0, type := 0, pos := "ref.go:171", after := #[{ on := 14, ground := Ground.guard }], guard := some (14, true) }) (v := (bif A11 then undef else (bif P then .pointer (some ⟨wr.heap.size, 0, none⟩) else undef))) rfl (by as_aux_lemma => kernel_rfl) (by as_aux_lemma => kernel_rfl) (by as_aux_lemma => kernel_rfl) (fun _ _ _ h => h) ?_ (by assumption) ?_
      · as_aux_lemma => (cases A11 with | true => exact Or.inr ⟨by rfl, rfl⟩ | false => (cases P with | true => exact Or.inl ⟨by rfl, by (intro W hW; (try dsimp only at hW); (try simp only [cond_true, cond_false]); go_simp <;> (with_reducible rfl))⟩ | false => exact Or.inr ⟨by rfl, rfl⟩))
      (try simp only [Act.put, List.setIfInBounds_toArray]); (try dsimp only [List.set_cons_zero, List.set_cons_succ])
      refine wpAnyH_take (i := 16) (oi := { dst := some 82, op := Op.load 9 (Operand.tmp 81), type := 9, pos := "ref.go:171", after := #[{ on := 15, ground := Ground.data }, { on := 14, ground := Ground.guard }], guard := some (14, true) }) (v := (bif A11 then undef else (bif P then .string (strOf k) else undef))) rfl (by as_aux_lemma => kernel_rfl) (by as_aux_lemma => kernel_rfl) (by as_aux_lemma => kernel_rfl) (fun _ _ _ h => h) ?_ (by assumption) ?_
      · as_aux_lemma => (cases A11 with | true => exact Or.inr ⟨by rfl, rfl⟩ | false => (cases P with | true => exact Or.inl ⟨by rfl, by (intro W hW; (try dsimp only at hW); (try simp only [cond_true, cond_false]); go_simp <;> (with_reducible rfl))⟩ | false => exact Or.inr ⟨by rfl, rfl⟩))
      (try simp only [Act.put, List.setIfInBounds_toArray]); (try dsimp only [List.set_cons_zero, List.set_cons_succ])
      refine wpAnyH_take (i := 17) (oi := { dst := some 83, op := Op.fieldAddr 26 (Operand.tmp 4) 2, type := 0, pos := "ref.go:171", after := #[{ on := 14, ground := Ground.guard }], guard := some (14, true) }) (v := (bif A11 then undef else (bif P then .pointer (some ⟨w.heap.size, 2, none⟩) else undef))) rfl (by as_aux_lemma => kernel_rfl) (by as_aux_lemma => kernel_rfl) (by as_aux_lemma => kernel_rfl) (fun _ _ _ h => h) ?_ (by assumption) ?_
      · as_aux_lemma => (cases A11 with | true => exact Or.inr ⟨by rfl, rfl⟩ | false => (cases P with | true => exact Or.inl ⟨by rfl, by (intro W hW; (try dsimp only at hW); (try simp only [cond_true, cond_false]); go_simp <;> (with_reducible rfl))⟩ | false => exact Or.inr ⟨by rfl, rfl⟩))
      (try simp only [Act.put, List.setIfInBounds_toArray]); (try dsimp only [List.set_cons_zero, List.set_cons_succ])
      refine wpAnyH_take (i := 18) (oi := { dst := some 84, op := Op.load 24 (Operand.tmp 83), type := 24, pos := "ref.go:171", after := #[{ on := 17, ground := Ground.data }, { on := 14, ground := Ground.guard }], guard := some (14, true) }) (v := (bif A11 then undef else (bif P then .slice (some ⟨b, off, none⟩) m c else undef))) rfl (by as_aux_lemma => kernel_rfl) (by as_aux_lemma => kernel_rfl) (by as_aux_lemma => kernel_rfl) (fun _ _ _ h => h) ?_ (by assumption) ?_
      · as_aux_lemma => (cases A11 with | true => exact Or.inr ⟨by rfl, rfl⟩ | false => (cases P with | true => exact Or.inl ⟨by rfl, by (intro W hW; (try dsimp only at hW); (try simp only [cond_true, cond_false]); go_simp <;> (with_reducible rfl))⟩ | false => exact Or.inr ⟨by rfl, rfl⟩))
      (try simp only [Act.put, List.setIfInBounds_toArray]); (try dsimp only [List.set_cons_zero, List.set_cons_succ])
      refine wpAnyH_take (i := 19) (oi := { dst := some 85, op := Op.move (Operand.tmp 11), type := 3, pos := "ref.go:171", after := #[{ on := 14, ground := Ground.guard }], guard := some (14, true) }) (v := (bif A11 then undef else (bif P then .int .i64 (i : Int) else undef))) rfl (by as_aux_lemma => kernel_rfl) (by as_aux_lemma => kernel_rfl) (by as_aux_lemma => kernel_rfl) (fun _ _ _ h => h) ?_ (by assumption) ?_
      · as_aux_lemma => (cases A11 with | true => exact Or.inr ⟨by rfl, rfl⟩ | false => (cases P with | true => exact Or.inl ⟨by rfl, by (intro W hW; (try dsimp only at hW); (try simp only [cond_true, cond_false]); go_simp <;> (with_reducible rfl))⟩ | false => exact Or.inr ⟨by rfl, rfl⟩))
      (try simp only [Act.put, List.setIfInBounds_toArray]); (try dsimp only [List.set_cons_zero, List.set_cons_succ])
      refine wpAnyH_take (i := 20) (oi := { dst := some 86, op := Op.binOp BinOp.sub 3 (Operand.tmp 85) (Operand.const (Value.int IntKind.i64 1)) 3, type := 3, pos := "ref.go:171", after := #[{ on := 19, ground := Ground.data }, { on := 14, ground := Ground.guard }], guard := some (14, true) }) (v := (bif A11 then undef else (bif P then .int .i64 (ip : Int) else undef))) rfl (by as_aux_lemma => kernel_rfl) (by as_aux_lemma => kernel_rfl) (by as_aux_lemma => kernel_rfl) (fun _ _ _ h => h) ?_ (by assumption) ?_
      · as_aux_lemma => (cases A11 with | true => exact Or.inr ⟨by rfl, rfl⟩ | false => (cases P with | true => exact Or.inl ⟨by rfl, by (intro W hW; (try dsimp only at hW); (try simp only [cond_true, cond_false]); obtain ⟨p1, p2, p3, p4⟩ := HPT.out rfl; go_simp <;> (with_reducible rfl))⟩ | false => exact Or.inr ⟨by rfl, rfl⟩))
      (try simp only [Act.put, List.setIfInBounds_toArray]); (try dsimp only [List.set_cons_zero, List.set_cons_succ])
      refine wpAnyH_take (i := 21) (oi := { dst := some 87, op := Op.indexAddr 24 (Operand.tmp 84) (Operand.tmp 86), type := 0, pos := "ref.go:171", after := #[{ on := 18, ground := Ground.data }, { on := 20, ground := Ground.data }, { on := 14, ground := Ground.guard }], guard := some (14, true) }) (v := (bif A11 then undef else (bif P then .pointer (some ⟨b, off + ip * 4, none⟩) else undef))) rfl (by as_aux_lemma => kernel_rfl) (by as_aux_lemma => kernel_rfl) (by as_aux_lemma => kernel_rfl) (fun _ _ _ h => h) ?_ (by assumption) ?_
      · as_aux_lemma => (cases A11 with | true => exact Or.inr ⟨by rfl, rfl⟩ | false => (cases P with | true => exact Or.inl ⟨by rfl, by (intro W hW; (try dsimp only at hW); (try simp only [cond_true, cond_false]); obtain ⟨p1, p2, p3, p4⟩ := HPT.out rfl; go_simp <;> (with_reducible rfl))⟩ | false => exact Or.inr ⟨by rfl, rfl⟩))
      (try simp only [Act.put, List.setIfInBounds_toArray]); (try dsimp only [List.set_cons_zero, List.set_cons_succ])
      refine wpAnyH_take (i := 22) (oi := { dst := some 88, op := Op.fieldAddr 48 (Operand.tmp 87) 0, type := 0, pos := "ref.go:171", after := #[{ on := 21, ground := Ground.data }, { on := 14, ground := Ground.guard }], guard := some (14, true) }) (v := (bif A11 then undef else (bif P then .pointer (some ⟨b, off + ip * 4, none⟩) else undef))) rfl (by as_aux_lemma => kernel_rfl) (by as_aux_lemma => kernel_rfl) (by as_aux_lemma => kernel_rfl) (fun _ _ _ h => h) ?_ (by assumption) ?_
      · as_aux_lemma => (cases A11 with | true => exact Or.inr ⟨by rfl, rfl⟩ | false => (cases P with | true => exact Or.inl ⟨by rfl, by (intro W hW; (try dsimp only at hW); (try simp only [cond_true, cond_false]); go_simp <;> (with_reducible rfl))⟩ | false => exact Or.inr ⟨by rfl, rfl⟩))
      (try simp only [Act.put, List.setIfInBounds_toArray]); (try dsimp only [List.set_cons_zero, List.set_cons_succ])
      refine wpAnyH_take (i := 23) (oi := { dst := some 89, op := Op.load 9 (Operand.tmp 88), type := 9, pos := "ref.go:171", after := #[{ on := 22, ground := Ground.data }, { on := 14, ground := Ground.guard }], guard := some (14, true) }) (v := (bif A11 then undef else (bif P then .string (strOf kp) else undef))) rfl (by as_aux_lemma => kernel_rfl) (by as_aux_lemma => kernel_rfl) (by as_aux_lemma => kernel_rfl) (fun _ _ _ h => h) ?_ (by assumption) ?_
      · as_aux_lemma => (cases A11 with | true => exact Or.inr ⟨by rfl, rfl⟩ | false => (cases P with | true => exact Or.inl ⟨by rfl, by (intro W hW; (try dsimp only at hW); (try simp only [cond_true, cond_false]); obtain ⟨p1, p2, p3, p4⟩ := HPT.out rfl; have p5 := p4 _ hW; go_simp <;> (with_reducible rfl))⟩ | false => exact Or.inr ⟨by rfl, rfl⟩))
      (try simp only [Act.put, List.setIfInBounds_toArray]); (try dsimp only [List.set_cons_zero, List.set_cons_succ])
      refine wpAnyH_take (i := 24) (oi := { dst := some 90, op := Op.binOp BinOp.leq 9 (Operand.tmp 82) (Operand.tmp 89) 9, type := 4, pos := "ref.go:171", after := #[{ on := 16, ground := Ground.data }, { on := 23, ground := Ground.data }, { on := 14, ground := Ground.guard }], guard := some (14, true) }) (v := (bif A11 then undef else (bif P then .bool X3 else undef))) rfl (by as_aux_lemma => kernel_rfl) (by as_aux_lemma => kernel_rfl) (by as_aux_lemma => kernel_rfl) (fun _ _ _ h => h) ?_ (by assumption) ?_
      · as_aux_lemma => (cases A11 with | true => exact Or.inr ⟨by rfl, rfl⟩ | false => (cases P with | true => exact Or.inl ⟨by rfl, by (intro W hW; (try dsimp only at hW); (try simp only [cond_true, cond_false]); rcases HX3.out with ⟨rfl, rfl, p1, p2⟩ | ⟨rfl, p1, p2, p3, p4⟩ | ⟨rfl, p1, p2, p3, p4⟩; all_goals go_simp <;> (with_reducible rfl))⟩ | false => exact Or.inr ⟨by rfl, rfl⟩))
      (try simp only [Act.put, List.setIfInBounds_toArray]); (try dsimp only [List.set_cons_zero, List.set_cons_succ])
      refine wpAnyH_take (i := 25) (oi := { dst := some 91, op := Op.pick (Operand.tmp 80) (Operand.tmp 90) (Operand.const (Value.bool false)), type := 4, pos := "ref.go:171", after := #[{ on := 14, ground := Ground.data }, { on := 24, ground := Ground.data }, { on := 11, ground := Ground.guard }], guard := some (11, false) }) (v := (bif A11 then undef else .bool Y3)) rfl (by as_aux_lemma => kernel_rfl) (by as_aux_lemma => kernel_rfl) (by as_aux_lemma => kernel_rfl) (fun _ _ _ h => h) ?_ (by assumption) ?_
      · as_aux_lemma => (cases A11 with | true => exact Or.inr ⟨by rfl, rfl⟩ | false => exact Or.inl ⟨by rfl, by (intro W hW; (try dsimp only at hW); (try simp only [cond_true, cond_false]); obtain rfl := HY3.out; cases P; all_goals go_simp <;> (with_reducible rfl))⟩)
      (try simp only [Act.put, List.setIfInBounds_toArray]); (try dsimp only [List.set_cons_zero, List.set_cons_succ])
      refine wpAnyH_take (i := 26) (oi := { dst := some 92, op := Op.pick (Operand.tmp 77) (Operand.const (Value.bool true)) (Operand.tmp 91), type := 4, pos := "ref.go:171", after := #[{ on := 11, ground := Ground.data }, { on := 25, ground := Ground.data }], guard := none }) (v := .bool A27) rfl (by as_aux_lemma => kernel_rfl) (by as_aux_lemma => kernel_rfl) (by as_aux_lemma => kernel_rfl) (fun _ _ _ h => h) ?_ (by assumption) ?_
      · as_aux_lemma => exact Or.inl ⟨by rfl, by (intro W hW; (try dsimp only at hW); (try simp only [cond_true, cond_false]); obtain rfl := HA27.out; cases A11; all_goals go_simp <;> (with_reducible rfl))⟩
      (try simp only [Act.put, List.setIfInBounds_toArray]); (try dsimp only [List.set_cons_zero, List.set_cons_succ])
      refine wpAnyH_take (i := 27) (oi := { dst := some 93, op := Op.move (Operand.tmp 92), type := 4, pos := "ref.go:171", after := #[{ on := 26, ground := Ground.data }, { on := 14, ground := Ground.chain }], guard := none }) (v := .bool A27) rfl (by as_aux_lemma => kernel_rfl) (by as_aux_lemma => kernel_rfl) (by as_aux_lemma => kernel_rfl) (fun _ _ _ h => h) ?_ (by assumption) ?_
      · as_aux_lemma => exact Or.inl ⟨by rfl, by (intro W hW; (try dsimp only at hW); (try simp only [cond_true, cond_false]); go_simp <;> (with_reducible rfl))⟩
      (try simp only [Act.put, List.setIfInBounds_toArray]); (try dsimp only [List.set_cons_zero, List.set_cons_succ])
      refine wpAnyH_take (i := 28) (oi := { dst := some 94, op := Op.move (Operand.tmp 13), type := 4, pos := "ref.go:171", after := #[{ on := 27, ground := Ground.guard }], guard := some (27, false) }) (v := (bif A27 then undef else .bool false)) rfl (by as_aux_lemma => kernel_rfl) (by as_aux_lemma => kernel_rfl) (by as_aux_lemma => kernel_rfl) (fun _ _ _ h => h) ?_ (by assumption) ?_
      · as_aux_lemma => (cases A27 with | true => exact Or.inr ⟨by rfl, rfl⟩ | false => exact Or.inl ⟨by rfl, by (intro W hW; (try dsimp only at hW); (try simp only [cond_true, cond_false]); go_simp <;> (with_reducible rfl))⟩)
      (try simp only [Act.put, List.setIfInBounds_toArray]); (try dsimp only [List.set_cons_zero, List.set_cons_succ])
      refine wpAnyH_take (i := 29) (oi := { dst := some 95, op := Op.unOp UnOp.not 4 (Operand.tmp 94), type := 4, pos := "ref.go:171", after := #[{ on := 28, ground := Ground.data }, { on := 27, ground := Ground.guard }], guard := some (27, false) }) (v := (bif A27 then undef else .bool true)) rfl (by as_aux_lemma => kernel_rfl) (by as_aux_lemma => kernel_rfl) (by as_aux_lemma => kernel_rfl) (fun _ _ _ h => h) ?_ (by assumption) ?_
      · as_aux_lemma => (cases A27 with | true => exact Or.inr ⟨by rfl, rfl⟩ | false => exact Or.inl ⟨by rfl, by (intro W hW; (try dsimp only at hW); (try simp only [cond_true, cond_false]); go_simp <;> (with_reducible rfl))⟩)
      (try simp only [Act.put, List.setIfInBounds_toArray]); (try dsimp only [List.set_cons_zero, List.set_cons_succ])
      refine wpAnyH_take (i := 30) (oi := { dst := some 96, op := Op.move (Operand.tmp 95), type := 4, pos := "ref.go:171", after := #[{ on := 29, ground := Ground.data }, { on := 27, ground := Ground.chain }, { on := 27, ground := Ground.guard }], guard := some (27, false) }) (v := (bif A27 then undef else .bool true)) rfl (by as_aux_lemma => kernel_rfl) (by as_aux_lemma => kernel_rfl) (by as_aux_lemma => kernel_rfl) (fun _ _ _ h => h) ?_ (by assumption) ?_
      · as_aux_lemma => (cases A27 with | true => exact Or.inr ⟨by rfl, rfl⟩ | false => exact Or.inl ⟨by rfl, by (intro W hW; (try dsimp only at hW); (try simp only [cond_true, cond_false]); go_simp <;> (with_reducible rfl))⟩)
      (try simp only [Act.put, List.setIfInBounds_toArray]); (try dsimp only [List.set_cons_zero, List.set_cons_succ])
      refine wpAnyH_take (i := 31) (oi := { dst := some 97, op := Op.fieldAddr 48 (Operand.tmp 12) 0, type := 0, pos := "ref.go:171", after := #[{ on := 30, ground := Ground.guard }], guard := some (30, true) }) (v := (bif A27 then undef else .pointer (some ⟨wr.heap.size, 0, none⟩))) rfl (by as_aux_lemma => kernel_rfl) (by as_aux_lemma => kernel_rfl) (by as_aux_lemma => kernel_rfl) (fun _ _ _ h => h) ?_ (by assumption) ?_
      · as_aux_lemma => (cases A27 with | true => exact Or.inr ⟨by rfl, rfl⟩ | false => exact Or.inl ⟨by rfl, by (intro W hW; (try dsimp only at hW); (try simp only [cond_true, cond_false]); go_simp <;> (with_reducible rfl))⟩)
      (try simp only [Act.put, List.setIfInBounds_toArray]); (try dsimp only [List.set_cons_zero, List.set_cons_succ])
      refine wpAnyH_take (i := 32) (oi := { dst := some 98, op := Op.load 9 (Operand.tmp 97), type := 9, pos := "ref.go:171", after := #[{ on := 31, ground := Ground.data }, { on := 30, ground := Ground.guard }], guard := some (30, true) }) (v := (bif A27 then undef else .string (strOf k))) rfl (by as_aux_lemma => kernel_rfl) (by as_aux_lemma => kernel_rfl) (by as_aux_lemma => kernel_rfl) (fun _ _ _ h => h) ?_ (by assumption) ?_
      · as_aux_lemma => (cases A27 with | true => exact Or.inr ⟨by rfl, rfl⟩ | false => exact Or.inl ⟨by rfl, by (intro W hW; (try dsimp only at hW); (try simp only [cond_true, cond_false]); go_simp <;> (with_reducible rfl))⟩)
      (try simp only [Act.put, List.setIfInBounds_toArray]); (try dsimp only [List.set_cons_zero, List.set_cons_succ])
      refine wpAnyH_take (i := 33) (oi := { dst := some 99, op := Op.move (Operand.tmp 1), type := 9, pos := "ref.go:171", after := #[{ on := 30, ground := Ground.guard }], guard := some (30, true) }) (v := (bif A27 then undef else .string (strOf lo))) rfl (by as_aux_lemma => kernel_rfl) (by as_aux_lemma => kernel_rfl) (by as_aux_lemma => kernel_rfl) (fun _ _ _ h => h) ?_ (by assumption) ?_
      · as_aux_lemma => (cases A27 with | true => exact Or.inr ⟨by rfl, rfl⟩ | false => exact Or.inl ⟨by rfl, by (intro W hW; (try dsimp only at hW); (try simp only [cond_true, cond_false]); go_simp <;> (with_reducible rfl))⟩)
      (try simp only [Act.put, List.setIfInBounds_toArray]); (try dsimp only [List.set_cons_zero, List.set_cons_succ])
      refine wpAnyH_take (i := 34) (oi := { dst := some 100, op := Op.binOp BinOp.lss 9 (Operand.tmp 98) (Operand.tmp 99) 9, type := 4, pos := "ref.go:171", after := #[{ on := 32, ground := Ground.data }, { on := 33, ground := Ground.data }, { on := 30, ground := Ground.guard }], guard := some (30, true) }) (v := (bif A27 then undef else .bool X4)) rfl (by as_aux_lemma => kernel_rfl) (by as_aux_lemma => kernel_rfl) (by as_aux_lemma => kernel_rfl) (fun _ _ _ h => h) ?_ (by assumption) ?_
      · as_aux_lemma => (cases A27 with | true => exact Or.inr ⟨by rfl, rfl⟩ | false => exact Or.inl ⟨by rfl, by (intro W hW; (try dsimp only at hW); (try simp only [cond_true, cond_false]); rcases HX4.out with ⟨rfl, p1⟩ | ⟨rfl, p1⟩; all_goals go_simp <;> (with_reducible rfl))⟩)
      (try simp only [Act.put, List.setIfInBounds_toArray]); (try dsimp only [List.set_cons_zero, List.set_cons_succ])
      refine wpAnyH_take (i := 35) (oi := { dst := some 101, op := Op.pick (Operand.tmp 96) (Operand.tmp 100) (Operand.const (Value.bool false)), type := 4, pos := "ref.go:171", after := #[{ on := 30, ground := Ground.data }, { on := 34, ground := Ground.data }, { on := 27, ground := Ground.guard }], guard := some (27, false) }) (v := (bif A27 then undef else .bool X4)) rfl (by as_aux_lemma => kernel_rfl) (by as_aux_lemma => kernel_rfl) (by as_aux_lemma => kernel_rfl) (fun _ _ _ h => h) ?_ (by assumption) ?_
      · as_aux_lemma => (cases A27 with | true => exact Or.inr ⟨by rfl, rfl⟩ | false => exact Or.inl ⟨by rfl, by (intro W hW; (try dsimp only at hW); (try simp only [cond_true, cond_false]); go_simp <;> (with_reducible rfl))⟩)
      (try simp only [Act.put, List.setIfInBounds_toArray]); (try dsimp only [List.set_cons_zero, List.set_cons_succ])
      refine wpAnyH_take (i := 36) (oi := { dst := some 102, op := Op.pick (Operand.tmp 93) (Operand.const (Value.bool true)) (Operand.tmp 101), type := 4, pos := "ref.go:171", after := #[{ on := 27, ground := Ground.data }, { on := 35, ground := Ground.data }], guard := none }) (v := .bool A37) rfl (by as_aux_lemma => kernel_rfl) (by as_aux_lemma => kernel_rfl) (by as_aux_lemma => kernel_rfl) (fun _ _ _ h => h) ?_ (by assumption) ?_
      · as_aux_lemma => exact Or.inl ⟨by rfl, by (intro W hW; (try dsimp only at hW); (try simp only [cond_true, cond_false]); obtain rfl := HA37.out; cases A27; all_goals go_simp <;> (with_reducible rfl))⟩
      (try simp only [Act.put, List.setIfInBounds_toArray]); (try dsimp only [List.set_cons_zero, List.set_cons_succ])
      refine wpAnyH_take (i := 37) (oi := { dst := some 103, op := Op.move (Operand.tmp 102), type := 4, pos := "ref.go:171", after := #[{ on := 36, ground := Ground.data }, { on := 30, ground := Ground.chain }], guard := none }) (v := .bool A37) rfl (by as_aux_lemma => kernel_rfl) (by as_aux_lemma => kernel_rfl) (by as_aux_lemma => kernel_rfl) (fun _ _ _ h => h) ?_ (by assumption) ?_
      · as_aux_lemma => exact Or.inl ⟨by rfl, by (intro W hW; (try dsimp only at hW); (try simp only [cond_true, cond_false]); go_simp <;> (with_reducible rfl))⟩
      (try simp only [Act.put, List.setIfInBounds_toArray]); (try dsimp only [List.set_cons_zero, List.set_cons_succ])
      refine wpAnyH_take (i := 38) (oi := { dst := some 104, op := Op.move (Operand.tmp 2), type := 9, pos := "ref.go:171", after := #[{ on := 37, ground := Ground.guard }], guard := some (37, false) }) (v := (bif A37 then undef else .string (strOf hi))) rfl (by as_aux_lemma => kernel_rfl) (by as_aux_lemma => kernel_rfl) (by as_aux_lemma => kernel_rfl) (fun _ _ _ h => h) ?_ (by assumption) ?_
      · as_aux_lemma => (cases A37 with | true => exact Or.inr ⟨by rfl, rfl⟩ | false => exact Or.inl ⟨by rfl, by (intro W hW; (try dsimp only at hW); (try simp only [cond_true, cond_false]); go_simp <;> (with_reducible rfl))⟩)
      (try simp only [Act.put, List.setIfInBounds_toArray]); (try dsimp only [List.set_cons_zero, List.set_cons_succ])
      refine wpAnyH_take (i := 39) (oi := { dst := some 105, op := Op.binOp BinOp.neq 9 (Operand.tmp 104) (Operand.const (Value.string { data := #[] })) 9, type := 4, pos := "ref.go:171", after := #[{ on := 38, ground := Ground.data }, { on := 37, ground := Ground.guard }], guard := some (37, false) }) (v := (bif A37 then undef else .bool Hn)) rfl (by as_aux_lemma => kernel_rfl) (by as_aux_lemma => kernel_rfl) (by as_aux_lemma => kernel_rfl) (fun _ _ _ h => h) ?_ (by assumption) ?_
      · as_aux_lemma => (cases A37 with | true => exact Or.inr ⟨by rfl, rfl⟩ | false => exact Or.inl ⟨by rfl, by (intro W hW; (try dsimp only at hW); (try simp only [cond_true, cond_false]); rcases HHn.out with ⟨rfl, e1, e2⟩ | ⟨rfl, e1, e2⟩; all_goals go_simp <;> (with_reducible rfl))⟩)
      (try simp only [Act.put, List.setIfInBounds_toArray]); (try dsimp only [List.set_cons_zero, List.set_cons_succ])
      refine wpAnyH_take (i := 40) (oi := { dst := some 106, op := Op.move (Operand.tmp 105), type := 4, pos := "ref.go:171", after := #[{ on := 39, ground := Ground.data }, { on := 37, ground := Ground.chain }, { on := 37, ground := Ground.guard }], guard := some (37, false) }) (v := (bif A37 then undef else .bool Hn)) rfl (by as_aux_lemma => kernel_rfl) (by as_aux_lemma => kernel_rfl) (by as_aux_lemma => kernel_rfl) (fun _ _ _ h => h) ?_ (by assumption) ?_
      · as_aux_lemma => (cases A37 with | true => exact Or.inr ⟨by rfl, rfl⟩ | false => exact Or.inl ⟨by rfl, by (intro W hW; (try dsimp only at hW); (try simp only [cond_true, cond_false]); go_simp <;> (with_reducible rfl))⟩)
      (try simp only [Act.put, List.setIfInBounds_toArray]); (try dsimp only [List.set_cons_zero, List.set_cons_succ])
      refine wpAnyH_take (i := 41) (oi := { dst := some 107, op := Op.fieldAddr 48 (Operand.tmp 12) 0, type := 0, pos := "ref.go:171", after := #[{ on := 40, ground := Ground.guard }], guard := some (40, true) }) (v := (bif A37 then undef else (bif Hn then .pointer (some ⟨wr.heap.size, 0, none⟩) else undef))) rfl (by as_aux_lemma => kernel_rfl) (by as_aux_lemma => kernel_rfl) (by as_aux_lemma => kernel_rfl) (fun _ _ _ h => h) ?_ (by assumption) ?_
      · as_aux_lemma => (cases A37 with | true => exact Or.inr ⟨by rfl, rfl⟩ | false => (cases Hn with | true => exact Or.inl ⟨by rfl, by (intro W hW; (try dsimp only at hW); (try simp only [cond_true, cond_false]); go_simp <;> (with_reducible rfl))⟩ | false => exact Or.inr ⟨by rfl, rfl⟩))
      (try simp only [Act.put, List.setIfInBounds_toArray]); (try dsimp only [List.set_cons_zero, List.set_cons_succ])
      refine wpAnyH_take (i := 42) (oi := { dst := some 108, op := Op.load 9 (Operand.tmp 107), type := 9, pos := "ref.go:171", after := #[{ on := 41, ground := Ground.data }, { on := 40, ground := Ground.guard }], guard := some (40, true) }) (v := (bif A37 then undef else (bif Hn then .string (strOf k) else undef))) rfl (by as_aux_lemma => kernel_rfl) (by as_aux_lemma => kernel_rfl) (by as_aux_lemma => kernel_rfl) (fun _ _ _ h => h) ?_ (by assumption) ?_
      · as_aux_lemma => (cases A37 with | true => exact Or.inr ⟨by rfl, rfl⟩ | false => (cases Hn with | true => exact Or.inl ⟨by rfl, by (intro W hW; (try dsimp only at hW); (try simp only [cond_true, cond_false]); go_simp <;> (with_reducible rfl))⟩ | false => exact Or.inr ⟨by rfl, rfl⟩))
      (try simp only [Act.put, List.setIfInBounds_toArray]); (try dsimp only [List.set_cons_zero, List.set_cons_succ])
      refine wpAnyH_take (i := 43) (oi := { dst := some 109, op := Op.move (Operand.tmp 2), type := 9, pos := "ref.go:171", after := #[{ on := 40, ground := Ground.guard }], guard := some (40, true) }) (v := (bif A37 then undef else (bif Hn then .string (strOf hi) else undef))) rfl (by as_aux_lemma => kernel_rfl) (by as_aux_lemma => kernel_rfl) (by as_aux_lemma => kernel_rfl) (fun _ _ _ h => h) ?_ (by assumption) ?_
      · as_aux_lemma => (cases A37 with | true => exact Or.inr ⟨by rfl, rfl⟩ | false => (cases Hn with | true => exact Or.inl ⟨by rfl, by (intro W hW; (try dsimp only at hW); (try simp only [cond_true, cond_false]); go_simp <;> (with_reducible rfl))⟩ | false => exact Or.inr ⟨by rfl, rfl⟩))
      (try simp only [Act.put, List.setIfInBounds_toArray]); (try dsimp only [List.set_cons_zero, List.set_cons_succ])
      refine wpAnyH_take (i := 44) (oi := { dst := some 110, op := Op.binOp BinOp.geq 9 (Operand.tmp 108) (Operand.tmp 109) 9, type := 4, pos := "ref.go:171", after := #[{ on := 42, ground := Ground.data }, { on := 43, ground := Ground.data }, { on := 40, ground := Ground.guard }], guard := some (40, true) }) (v := (bif A37 then undef else (bif Hn then .bool X5 else undef))) rfl (by as_aux_lemma => kernel_rfl) (by as_aux_lemma => kernel_rfl) (by as_aux_lemma => kernel_rfl) (fun _ _ _ h => h) ?_ (by assumption) ?_
      · as_aux_lemma => (cases A37 with | true => exact Or.inr ⟨by rfl, rfl⟩ | false => (cases Hn with | true => exact Or.inl ⟨by rfl, by (intro W hW; (try dsimp only at hW); (try simp only [cond_true, cond_false]); rcases HX5.out with ⟨rfl, rfl, p1, p2⟩ | ⟨rfl, p1, p2, p3, p4⟩ | ⟨rfl, p1, p2, p3, p4⟩; all_goals go_simp <;> (with_reducible rfl))⟩ | false => exact Or.inr ⟨by rfl, rfl⟩))
      (try simp only [Act.put, List.setIfInBounds_toArray]); (try dsimp only [List.set_cons_zero, List.set_cons_succ])
      refine wpAnyH_take (i := 45) (oi := { dst := some 111, op := Op.pick (Operand.tmp 106) (Operand.tmp 110) (Operand.const (Value.bool false)), type := 4, pos := "ref.go:171", after := #[{ on := 40, ground := Ground.data }, { on := 44, ground := Ground.data }, { on := 37, ground := Ground.guard }], guard := some (37, false) }) (v := (bif A37 then undef else .bool Y5)) rfl (by as_aux_lemma => kernel_rfl) (by as_aux_lemma => kernel_rfl) (by as_aux_lemma => kernel_rfl) (fun _ _ _ h => h) ?_ (by assumption) ?_
      · as_aux_lemma => (cases A37 with | true => exact Or.inr ⟨by rfl, rfl⟩ | false => exact Or.inl ⟨by rfl, by (intro W hW; (try dsimp only at hW); (try simp only [cond_true, cond_false]); obtain rfl := HY5.out; cases Hn; all_goals go_simp <;> (with_reducible rfl))⟩)
      (try simp only [Act.put, List.setIfInBounds_toArray]); (try dsimp only [List.set_cons_zero, List.set_cons_succ])
      refine wpAnyH_take (i := 46) (oi := { dst := some 112, op := Op.pick (Operand.tmp 103) (Operand.const (Value.bool true)) (Operand.tmp 111), type := 4, pos := "ref.go:171", after := #[{ on := 37, ground := Ground.data }, { on := 45, ground := Ground.data }], guard := none }) (v := .bool A47) rfl (by as_aux_lemma => kernel_rfl) (by as_aux_lemma => kernel_rfl) (by as_aux_lemma => kernel_rfl) (fun _ _ _ h => h) ?_ (by assumption) ?_
      · as_aux_lemma => exact Or.inl ⟨by rfl, by (intro W hW; (try dsimp only at hW); (try simp only [cond_true, cond_false]); obtain rfl := HA47.out; cases A37; all_goals go_simp <;> (with_reducible rfl))⟩
      (try simp only [Act.put, List.setIfInBounds_toArray]); (try dsimp only [List.set_cons_zero, List.set_cons_succ])
      refine wpAnyH_take (i := 47) (oi := { dst := some 113, op := Op.move (Operand.tmp 112), type := 4, pos := "ref.go:171", after := #[{ on := 46, ground := Ground.data }, { on := 40, ground := Ground.chain }], guard := none }) (v := .bool A47) rfl (by as_aux_lemma => kernel_rfl) (by as_aux_lemma => kernel_rfl) (by as_aux_lemma => kernel_rfl) (fun _ _ _ h => h) ?_ (by assumption) ?_
      · as_aux_lemma => exact Or.inl ⟨by rfl, by (intro W hW; (try dsimp only at hW); (try simp only [cond_true, cond_false]); go_simp <;> (with_reducible rfl))⟩
      (try simp only [Act.put, List.setIfInBounds_toArray]); (try dsimp only [List.set_cons_zero, List.set_cons_succ])
      refine wpAnyH_take (i := 48) (oi := { dst := some 114, op := Op.fieldAddr 48 (Operand.tmp 12) 1, type := 0, pos := "ref.go:171", after := #[{ on := 47, ground := Ground.guard }], guard := some (47, false) }) (v := (bif A47 then undef else .pointer (some ⟨wr.heap.size, 1, none⟩))) rfl (by as_aux_lemma => kernel_rfl) (by as_aux_lemma => kernel_rfl) (by as_aux_lemma => kernel_rfl) (fun _ _ _ h => h) ?_ (by assumption) ?_
      · as_aux_lemma => (cases A47 with | true => exact Or.inr ⟨by rfl, rfl⟩ | false => exact Or.inl ⟨by rfl, by (intro W hW; (try dsimp only at hW); (try simp only [cond_true, cond_false]); go_simp <;> (with_reducible rfl))⟩)
      (try simp only [Act.put, List.setIfInBounds_toArray]); (try dsimp only [List.set_cons_zero, List.set_cons_succ])
      refine wpAnyH_take (i := 49) (oi := { dst := some 115, op := Op.fieldAddr 45 (Operand.tmp 114) 0, type := 0, pos := "ref.go:171", after := #[{ on := 48, ground := Ground.data }, { on := 47, ground := Ground.guard }], guard := some (47, false) }) (v := (bif A47 then undef else .pointer (some ⟨wr.heap.size, 1, none⟩))) rfl (by as_aux_lemma => kernel_rfl) (by as_aux_lemma => kernel_rfl) (by as_aux_lemma => kernel_rfl) (fun _ _ _ h => h) ?_ (by assumption) ?_
      · as_aux_lemma => (cases A47 with | true => exact Or.inr ⟨by rfl, rfl⟩ | false => exact Or.inl ⟨by rfl, by (intro W hW; (try dsimp only at hW); (try simp only [cond_true, cond_false]); go_simp <;> (with_reducible rfl))⟩)
      (try simp only [Act.put, List.setIfInBounds_toArray]); (try dsimp only [List.set_cons_zero, List.set_cons_succ])
      refine wpAnyH_take (i := 50) (oi := { dst := some 116, op := Op.load 9 (Operand.tmp 115), type := 9, pos := "ref.go:171", after := #[{ on := 49, ground := Ground.data }, { on := 47, ground := Ground.guard }], guard := some (47, false) }) (v := (bif A47 then undef else .string (strOf yv.data))) rfl (by as_aux_lemma => kernel_rfl) (by as_aux_lemma => kernel_rfl) (by as_aux_lemma => kernel_rfl) (fun _ _ _ h => h) ?_ (by assumption) ?_
      · as_aux_lemma => (cases A47 with | true => exact Or.inr ⟨by rfl, rfl⟩ | false => exact Or.inl ⟨by rfl, by (intro W hW; (try dsimp only at hW); (try simp only [cond_true, cond_false]); go_simp <;> (with_reducible rfl))⟩)
      (try simp only [Act.put, List.setIfInBounds_toArray]); (try dsimp only [List.set_cons_zero, List.set_cons_succ])
      refine wpAnyH_take (i := 51) (oi := { dst := some 117, op := Op.call { callee := Callee.builtin Builtin.len, args := #[Operand.tmp 116], argTypes := #[9] }, type := 3, pos := "ref.go:171", after := #[{ on := 50, ground := Ground.data }, { on := 47, ground := Ground.guard }], guard := some (47, false) }) (v := (bif A47 then undef else .int .i64 (dl : Int))) rfl (by as_aux_lemma => kernel_rfl) (by as_aux_lemma => kernel_rfl) (by as_aux_lemma => kernel_rfl) (fun _ _ _ h => h) ?_ (by assumption) ?_
      · as_aux_lemma => (cases A47 with | true => exact Or.inr ⟨by rfl, rfl⟩ | false => exact Or.inl ⟨by rfl, by (intro W hW; (try dsimp only at hW); (try simp only [cond_true, cond_false]); go_simp <;> (with_reducible rfl))⟩)
      (try simp only [Act.put, List.setIfInBounds_toArray]); (try dsimp only [List.set_cons_zero, List.set_cons_succ])
      refine wpAnyH_take (i := 52) (oi := { dst := some 118, op := Op.binOp BinOp.gtr 3 (Operand.tmp 117) (Operand.const (Value.int IntKind.i64 400)) 3, type := 4, pos := "ref.go:171", after := #[{ on := 51, ground := Ground.data }, { on := 47, ground := Ground.guard }], guard := some (47, false) }) (v := (bif A47 then undef else .bool X6)) rfl (by as_aux_lemma => kernel_rfl) (by as_aux_lemma => kernel_rfl) (by as_aux_lemma => kernel_rfl) (fun _ _ _ h => h) ?_ (by assumption) ?_
      · as_aux_lemma => (cases A47 with | true => exact Or.inr ⟨by rfl, rfl⟩ | false => exact Or.inl ⟨by rfl, by (intro W hW; (try dsimp only at hW); (try simp only [cond_true, cond_false]); obtain rfl := HX6.out; go_simp <;> (with_reducible rfl))⟩)
      (try simp only [Act.put, List.setIfInBounds_toArray]); (try dsimp only [List.set_cons_zero, List.set_cons_succ])
      refine wpAnyH_take (i := 53) (oi := { dst := some 119, op := Op.pick (Operand.tmp 113) (Operand.const (Value.bool true)) (Operand.tmp 118), type := 4, pos := "ref.go:171", after := #[{ on := 47, ground := Ground.data }, { on := 52, ground := Ground.data }], guard := none }) (v := .bool A54) rfl (by as_aux_lemma => kernel_rfl) (by as_aux_lemma => kernel_rfl) (by as_aux_lemma => kernel_rfl) (fun _ _ _ h => h) ?_ (by assumption) ?_
      · as_aux_lemma => exact Or.inl ⟨by rfl, by (intro W hW; (try dsimp only at hW); (try simp only [cond_true, cond_false]); obtain rfl := HA54.out; cases A47; all_goals go_simp <;> (with_reducible rfl))⟩
      (try simp only [Act.put, List.setIfInBounds_toArray]); (try dsimp only [List.set_cons_zero, List.set_cons_succ])
      refine wpAnyH_take (i := 54) (oi := { dst := some 120, op := Op.move (Operand.tmp 119), type := 4, pos := "ref.go:171", after := #[{ on := 53, ground := Ground.data }, { on := 47, ground := Ground.chain }], guard := none }) (v := .bool A54) rfl (by as_aux_lemma => kernel_rfl) (by as_aux_lemma => kernel_rfl) (by as_aux_lemma => kernel_rfl) (fun _ _ _ h => h) ?_ (by assumption) ?_
      · as_aux_lemma => exact Or.inl ⟨by rfl, by (intro W hW; (try dsimp only at hW); (try simp only [cond_true, cond_false]); go_simp <;> (with_reducible rfl))⟩
      (try simp only [Act.put, List.setIfInBounds_toArray]); (try dsimp only [List.set_cons_zero, List.set_cons_succ])
      refine wpAnyH_take (i := 55) (oi := { dst := some 121, op := Op.fieldAddr 48 (Operand.tmp 12) 1, type := 0, pos := "ref.go:171", after := #[{ on := 54, ground := Ground.guard }], guard := some (54, false) }) (v := (bif A54 then undef else .pointer (some ⟨wr.heap.size, 1, none⟩))) rfl (by as_aux_lemma => kernel_rfl) (by as_aux_lemma => kernel_rfl) (by as_aux_lemma => kernel_rfl) (fun _ _ _ h => h) ?_ (by assumption) ?_
      · as_aux_lemma => (cases A54 with | true => exact Or.inr ⟨by rfl, rfl⟩ | false => exact Or.inl ⟨by rfl, by (intro W hW; (try dsimp only at hW); (try simp only [cond_true, cond_false]); go_simp <;> (with_reducible rfl))⟩)
      (try simp only [Act.put, List.setIfInBounds_toArray]); (try dsimp only [List.set_cons_zero, List.set_cons_succ])
      refine wpAnyH_take (i := 56) (oi := { dst := some 122, op := Op.fieldAddr 45 (Operand.tmp 121) 1, type := 0, pos := "ref.go:171", after := #[{ on := 55, ground := Ground.data }, { on := 54, ground := Ground.guard }], guard := some (54, false) }) (v := (bif A54 then undef else .pointer (some ⟨wr.heap.size, 2, none⟩))) rfl (by as_aux_lemma => kernel_rfl) (by as_aux_lemma => kernel_rfl) (by as_aux_lemma => kernel_rfl) (fun _ _ _ h => h) ?_ (by assumption) ?_
      · as_aux_lemma => (cases A54 with | true => exact Or.inr ⟨by rfl, rfl⟩ | false => exact Or.inl ⟨by rfl, by (intro W hW; (try dsimp only at hW); (try simp only [cond_true, cond_false]); go_simp <;> (with_reducible rfl))⟩)
      (try simp only [Act.put, List.setIfInBounds_toArray]); (try dsimp only [List.set_cons_zero, List.set_cons_succ])
      refine wpAnyH_take (i := 57) (oi := { dst := some 123, op := Op.load 43 (Operand.tmp 122), type := 43, pos := "ref.go:171", after := #[{ on := 56, ground := Ground.data }, { on := 54, ground := Ground.guard }], guard := some (54, false) }) (v := (bif A54 then undef else .slice pa pn pc)) rfl (by as_aux_lemma => kernel_rfl) (by as_aux_lemma => kernel_rfl) (by as_aux_lemma => kernel_rfl) (fun _ _ _ h => h) ?_ (by assumption) ?_
      · as_aux_lemma => (cases A54 with | true => exact Or.inr ⟨by rfl, rfl⟩ | false => exact Or.inl ⟨by rfl, by (intro W hW; (try dsimp only at hW); (try simp only [cond_true, cond_false]); go_simp <;> (with_reducible rfl))⟩)
      (try simp only [Act.put, List.setIfInBounds_toArray]); (try dsimp only [List.set_cons_zero, List.set_cons_succ])
      refine wpAnyH_take (i := 58) (oi := { dst := some 124, op := Op.call { callee := Callee.builtin Builtin.len, args := #[Operand.tmp 123], argTypes := #[43] }, type := 3, pos := "ref.go:171", after := #[{ on := 57, ground := Ground.data }, { on := 54, ground := Ground.guard }], guard := some (54, false) }) (v := (bif A54 then undef else .int .i64 (pn : Int))) rfl (by as_aux_lemma => kernel_rfl) (by as_aux_lemma => kernel_rfl) (by as_aux_lemma => kernel_rfl) (fun _ _ _ h => h) ?_ (by assumption) ?_
      · as_aux_lemma => (cases A54 with | true => exact Or.inr ⟨by rfl, rfl⟩ | false => exact Or.inl ⟨by rfl, by (intro W hW; (try dsimp only at hW); (try simp only [cond_true, cond_false]); go_simp <;> (with_reducible rfl))⟩)
      (try simp only [Act.put, List.setIfInBounds_toArray]); (try dsimp only [List.set_cons_zero, List.set_cons_succ])
      refine wpAnyH_take (i := 59) (oi := { dst := some 125, op := Op.binOp BinOp.gtr 3 (Operand.tmp 124) (Operand.const (Value.int IntKind.i64 0)) 3, type := 4, pos := "ref.go:171", after := #[{ on := 58, ground := Ground.data }, { on := 54, ground := Ground.guard }], guard := some (54, false) }) (v := (bif A54 then undef else .bool Gp)) rfl (by as_aux_lemma => kernel_rfl) (by as_aux_lemma => kernel_rfl) (by as_aux_lemma => kernel_rfl) (fun _ _ _ h => h) ?_ (by assumption) ?_
      · as_aux_lemma => (cases A54 with | true => exact Or.inr ⟨by rfl, rfl⟩ | false => exact Or.inl ⟨by rfl, by (intro W hW; (try dsimp only at hW); (try simp only [cond_true, cond_false]); obtain rfl := HGp.out; go_simp <;> (with_reducible rfl))⟩)
      (try simp only [Act.put, List.setIfInBounds_toArray]); (try dsimp only [List.set_cons_zero, List.set_cons_succ])
      refine wpAnyH_take (i := 60) (oi := { dst := some 126, op := Op.move (Operand.tmp 125), type := 4, pos := "ref.go:171", after := #[{ on := 59, ground := Ground.data }, { on := 54, ground := Ground.chain }, { on := 54, ground := Ground.guard }], guard := some (54, false) }) (v := (bif A54 then undef else .bool Gp)) rfl (by as_aux_lemma => kernel_rfl) (by as_aux_lemma => kernel_rfl) (by as_aux_lemma => kernel_rfl) (fun _ _ _ h => h) ?_ (by assumption) ?_
      · as_aux_lemma => (cases A54 with | true => exact Or.inr ⟨by rfl, rfl⟩ | false => exact Or.inl ⟨by rfl, by (intro W hW; (try dsimp only at hW); (try simp only [cond_true, cond_false]); go_simp <;> (with_reducible rfl))⟩)
      (try simp only [Act.put, List.setIfInBounds_toArray]); (try dsimp only [List.set_cons_zero, List.set_cons_succ])
      refine wpAnyH_take (i := 61) (oi := { dst := some 127, op := Op.fieldAddr 48 (Operand.tmp 12) 1, type := 0, pos := "ref.go:171", after := #[{ on := 60, ground := Ground.guard }], guard := some (60, true) }) (v := (bif A54 then undef else (bif Gp then .pointer (some ⟨wr.heap.size, 1, none⟩) else undef))) rfl (by as_aux_lemma => kernel_rfl) (by as_aux_lemma => kernel_rfl) (by as_aux_lemma => kernel_rfl) (fun _ _ _ h => h) ?_ (by assumption) ?_
      · as_aux_lemma => (cases A54 with | true => exact Or.inr ⟨by rfl, rfl⟩ | false => (cases Gp with | true => exact Or.inl ⟨by rfl, by (intro W hW; (try dsimp only at hW); (try simp only [cond_true, cond_false]); go_simp <;> (with_reducible rfl))⟩ | false => exact Or.inr ⟨by rfl, rfl⟩))
      (try simp only [Act.put, List.setIfInBounds_toArray]); (try dsimp only [List.set_cons_zero, List.set_cons_succ])
      refine wpAnyH_take (i := 62) (oi := { dst := some 128, op := Op.fieldAddr 45 (Operand.tmp 127) 0, type := 0, pos := "ref.go:171", after := #[{ on := 61, ground := Ground.data }, { on := 60, ground := Ground.guard }], guard := some (60, true) }) (v := (bif A54 then undef else (bif Gp then .pointer (some ⟨wr.heap.size, 1, none⟩) else undef))) rfl (by as_aux_lemma => kernel_rfl) (by as_aux_lemma => kernel_rfl) (by as_aux_lemma => kernel_rfl) (fun _ _ _ h => h) ?_ (by assumption) ?_
      · as_aux_lemma => (cases A54 with | true => exact Or.inr ⟨by rfl, rfl⟩ | false => (cases Gp with | true => exact Or.inl ⟨by rfl, by (intro W hW; (try dsimp only at hW); (try simp only [cond_true, cond_false]); go_simp <;> (with_reducible rfl))⟩ | false => exact Or.inr ⟨by rfl, rfl⟩))
      (try simp only [Act.put, List.setIfInBounds_toArray]); (try dsimp only [List.set_cons_zero, List.set_cons_succ])
      refine wpAnyH_take (i := 63) (oi := { dst := some 129, op := Op.load 9 (Operand.tmp 128), type := 9, pos := "ref.go:171", after := #[{ on := 62, ground := Ground.data }, { on := 60, ground := Ground.guard }], guard := some (60, true) }) (v := (bif A54 then undef else (bif Gp then .string (strOf yv.data) else undef))) rfl (by as_aux_lemma => kernel_rfl) (by as_aux_lemma => kernel_rfl) (by as_aux_lemma => kernel_rfl) (fun _ _ _ h => h) ?_ (by assumption) ?_
      · as_aux_lemma => (cases A54 with | true => exact Or.inr ⟨by rfl, rfl⟩ | false => (cases Gp with | true => exact Or.inl ⟨by rfl, by (intro W hW; (try dsimp only at hW); (try simp only [cond_true, cond_false]); go_simp <;> (with_reducible rfl))⟩ | false => exact Or.inr ⟨by rfl, rfl⟩))
      (try simp only [Act.put, List.setIfInBounds_toArray]); (try dsimp only [List.set_cons_zero, List.set_cons_succ])
      refine wpAnyH_take (i := 64) (oi := { dst := some 130, op := Op.call { callee := Callee.builtin Builtin.len, args := #[Operand.tmp 129], argTypes := #[9] }, type := 3, pos := "ref.go:171", after := #[{ on := 63, ground := Ground.data }, { on := 60, ground := Ground.guard }], guard := some (60, true) }) (v := (bif A54 then undef else (bif Gp then .int .i64 (dl : Int) else undef))) rfl (by as_aux_lemma => kernel_rfl) (by as_aux_lemma => kernel_rfl) (by as_aux_lemma => kernel_rfl) (fun _ _ _ h => h) ?_ (by assumption) ?_
      · as_aux_lemma => (cases A54 with | true => exact Or.inr ⟨by rfl, rfl⟩ | false => (cases Gp with | true => exact Or.inl ⟨by rfl, by (intro W hW; (try dsimp only at hW); (try simp only [cond_true, cond_false]); go_simp <;> (with_reducible rfl))⟩ | false => exact Or.inr ⟨by rfl, rfl⟩))
      (try simp only [Act.put, List.setIfInBounds_toArray]); (try dsimp only [List.set_cons_zero, List.set_cons_succ])
      cases A54 with
      | true =>
        refine wpAnyH_take (i := 65) (oi := { dst := some 131, op := Op.call { callee := Callee.value (Operand.func 91), args := #[Operand.tmp 130], argTypes := #[3] }, type := 3, pos := "ref.go:171", after := #[{ on := 64, ground := Ground.data }, { on := 60, ground := Ground.chain }, { on := 60, ground := Ground.guard }], guard := some (60, true) }) (v := undef) rfl (by as_aux_lemma => kernel_rfl) (by as_aux_lemma => kernel_rfl) (by as_aux_lemma => kernel_rfl) (fun _ _ _ h => h) ?_ (by assumption) ?_
        · as_aux_lemma => exact Or.inr ⟨by rfl, rfl⟩
        (try simp only [Act.put, List.setIfInBounds_toArray]); (try dsimp only [List.set_cons_zero, List.set_cons_succ])
        refine wpAnyH_take (i := 66) (oi := { dst := some 132, op := Op.binOp BinOp.eql 3 (Operand.tmp 131) (Operand.const (Value.int IntKind.i64 0)) 3, type := 4, pos := "ref.go:171", after := #[{ on := 65, ground := Ground.data }, { on := 60, ground := Ground.guard }], guard := some (60, true) }) (v := undef) rfl (by as_aux_lemma => kernel_rfl) (by as_aux_lemma => kernel_rfl) (by as_aux_lemma => kernel_rfl) (fun _ _ _ h => h) ?_ (by assumption) ?_
        · as_aux_lemma => exact Or.inr ⟨by rfl, rfl⟩
        (try simp only [Act.put, List.setIfInBounds_toArray]); (try dsimp only [List.set_cons_zero, List.set_cons_succ])
        refine wpAnyH_take (i := 67) (oi := { dst := some 133, op := Op.pick (Operand.tmp 126) (Operand.tmp 132) (Operand.const (Value.bool false)), type := 4, pos := "ref.go:171", after := #[{ on := 60, ground := Ground.data }, { on := 66, ground := Ground.data }, { on := 54, ground := Ground.guard }], guard := some (54, false) }) (v := undef) rfl (by as_aux_lemma => kernel_rfl) (by as_aux_lemma => kernel_rfl) (by as_aux_lemma => kernel_rfl) (fun _ _ _ h => h) ?_ (by assumption) ?_
        · as_aux_lemma => exact Or.inr ⟨by rfl, rfl⟩
        (try simp only [Act.put, List.setIfInBounds_toArray]); (try dsimp only [List.set_cons_zero, List.set_cons_succ])
        refine wpAnyH_take (i := 68) (oi := { dst := some 134, op := Op.pick (Operand.tmp 120) (Operand.const (Value.bool true)) (Operand.tmp 133), type := 4, pos := "ref.go:171", after := #[{ on := 54, ground := Ground.data }, { on := 67, ground := Ground.data }], guard := none }) (v := .bool true) rfl (by as_aux_lemma => kernel_rfl) (by as_aux_lemma => kernel_rfl) (by as_aux_lemma => kernel_rfl) (fun _ _ _ h => h) ?_ (by assumption) ?_
        · as_aux_lemma => exact Or.inl ⟨by rfl, by (intro W hW; (try dsimp only at hW); (try simp only [cond_true, cond_false]); go_simp <;> (with_reducible rfl))⟩
        (try simp only [Act.put, List.setIfInBounds_toArray]); (try dsimp only [List.set_cons_zero, List.set_cons_succ])
        refine wpAnyH_take (i := 69) (oi := { dst := some 135, op := Op.move (Operand.tmp 134), type := 4, pos := "ref.go:171", after := #[{ on := 68, ground := Ground.data }, { on := 65, ground := Ground.chain }], guard := none }) (v := .bool true) rfl (by as_aux_lemma => kernel_rfl) (by as_aux_lemma => kernel_rfl) (by as_aux_lemma => kernel_rfl) (fun _ _ _ h => h) ?_ (by assumption) ?_
        · as_aux_lemma => exact Or.inl ⟨by rfl, by (intro W hW; (try dsimp only at hW); (try simp only [cond_true, cond_false]); go_simp <;> (with_reducible rfl))⟩
        (try simp only [Act.put, List.setIfInBounds_toArray]); (try dsimp only [List.set_cons_zero, List.set_cons_succ])
        refine wpAnyH_take (i := 70) (oi := { dst := some 136, op := Op.fieldAddr 26 (Operand.tmp 4) 1, type := 0, pos := "ref.go:171", after := #[{ on := 69, ground := Ground.guard }], guard := some (69, false) }) (v := undef) rfl (by as_aux_lemma => kernel_rfl) (by as_aux_lemma => kernel_rfl) (by as_aux_lemma => kernel_rfl) (fun _ _ _ h => h) ?_ (by assumption) ?_
        · as_aux_lemma => exact Or.inr ⟨by rfl, rfl⟩
        (try simp only [Act.put, List.setIfInBounds_toArray]); (try dsimp only [List.set_cons_zero, List.set_cons_succ])
        refine wpAnyH_take (i := 71) (oi := { dst := some 137, op := Op.load 4 (Operand.tmp 136), type := 4, pos := "ref.go:171", after := #[{ on := 70, ground := Ground.data }, { on := 69, ground := Ground.guard }], guard := some (69, false) }) (v := undef) rfl (by as_aux_lemma => kernel_rfl) (by as_aux_lemma => kernel_rfl) (by as_aux_lemma => kernel_rfl) (fun _ _ _ h => h) ?_ (by assumption) ?_
        · as_aux_lemma => exact Or.inr ⟨by rfl, rfl⟩
        (try simp only [Act.put, List.setIfInBounds_toArray]); (try dsimp only [List.set_cons_zero, List.set_cons_succ])
        refine wpAnyH_take (i := 72) (oi := { dst := some 138, op := Op.fieldAddr 48 (Operand.tmp 12) 2, type := 0, pos := "ref.go:171", after := #[{ on := 69, ground := Ground.guard }], guard := some (69, false) }) (v := undef) rfl (by as_aux_lemma => kernel_rfl) (by as_aux_lemma => kernel_rfl) (by as_aux_lemma => kernel_rfl) (fun _ _ _ h => h) ?_ (by assumption) ?_
        · as_aux_lemma => exact Or.inr ⟨by rfl, rfl⟩
        (try simp only [Act.put, List.setIfInBounds_toArray]); (try dsimp only [List.set_cons_zero, List.set_cons_succ])
        refine wpAnyH_take (i := 73) (oi := { dst := some 139, op := Op.load 46 (Operand.tmp 138), type := 46, pos := "ref.go:171", after := #[{ on := 72, ground := Ground.data }, { on := 69, ground := Ground.guard }], guard := some (69, false) }) (v := undef) rfl (by as_aux_lemma => kernel_rfl) (by as_aux_lemma => kernel_rfl) (by as_aux_lemma => kernel_rfl) (fun _ _ _ h => h) ?_ (by assumption) ?_
        · as_aux_lemma => exact Or.inr ⟨by rfl, rfl⟩
        (try simp only [Act.put, List.setIfInBounds_toArray]); (try dsimp only [List.set_cons_zero, List.set_cons_succ])
        refine wpAnyH_take (i := 74) (oi := { dst := some 140, op := Op.call { callee := Callee.builtin Builtin.len, args := #[Operand.tmp 139], argTypes := #[46] }, type := 3, pos := "ref.go:171", after := #[{ on := 73, ground := Ground.data }, { on := 69, ground := Ground.guard }], guard := some (69, false) }) (v := undef) rfl (by as_aux_lemma => kernel_rfl) (by as_aux_lemma => kernel_rfl) (by as_aux_lemma => kernel_rfl) (fun _ _ _ h => h) ?_ (by assumption) ?_
        · as_aux_lemma => exact Or.inr ⟨by rfl, rfl⟩
        (try simp only [Act.put, List.setIfInBounds_toArray]); (try dsimp only [List.set_cons_zero, List.set_cons_succ])
        refine wpAnyH_take (i := 75) (oi := { dst := some 141, op := Op.binOp BinOp.eql 3 (Operand.tmp 140) (Operand.const (Value.int IntKind.i64 0)) 3, type := 4, pos := "ref.go:171", after := #[{ on := 74, ground := Ground.data }, { on := 69, ground := Ground.guard }], guard := some (69, false) }) (v := undef) rfl (by as_aux_lemma => kernel_rfl) (by as_aux_lemma => kernel_rfl) (by as_aux_lemma => kernel_rfl) (fun _ _ _ h => h) ?_ (by assumption) ?_
        · as_aux_lemma => exact Or.inr ⟨by rfl, rfl⟩
        (try simp only [Act.put, List.setIfInBounds_toArray]); (try dsimp only [List.set_cons_zero, List.set_cons_succ])
        refine wpAnyH_take (i := 76) (oi := { dst := some 142, op := Op.binOp BinOp.neq 4 (Operand.tmp 137) (Operand.tmp 141) 4, type := 4, pos := "ref.go:171", after := #[{ on := 71, ground := Ground.data }, { on := 75, ground := Ground.data }, { on := 69, ground := Ground.guard }], guard := some (69, false) }) (v := undef) rfl (by as_aux_lemma => kernel_rfl) (by as_aux_lemma => kernel_rfl) (by as_aux_lemma => kernel_rfl) (fun _ _ _ h => h) ?_ (by assumption) ?_
        · as_aux_lemma => exact Or.inr ⟨by rfl, rfl⟩
        (try simp only [Act.put, List.setIfInBounds_toArray]); (try dsimp only [List.set_cons_zero, List.set_cons_succ])
        refine wpAnyH_take (i := 77) (oi := { dst := some 143, op := Op.pick (Operand.tmp 135) (Operand.const (Value.bool true)) (Operand.tmp 142), type := 4, pos := "ref.go:171", after := #[{ on := 69, ground := Ground.data }, { on := 76, ground := Ground.data }], guard := none }) (v := .bool true) rfl (by as_aux_lemma => kernel_rfl) (by as_aux_lemma => kernel_rfl) (by as_aux_lemma => kernel_rfl) (fun _ _ _ h => h) ?_ (by assumption) ?_
        · as_aux_lemma => exact Or.inl ⟨by rfl, by (intro W hW; (try dsimp only at hW); (try simp only [cond_true, cond_false]); go_simp <;> (with_reducible rfl))⟩
        (try simp only [Act.put, List.setIfInBounds_toArray]); (try dsimp only [List.set_cons_zero, List.set_cons_succ])
        refine wpAnyH_done (by kernel_rfl) ?_ _
        refine NoPanic.normal ?_
        go_wp2_with fail
        go_meet
        exact ⟨by simp [HBD.out], by first | assumption | exact Below.dr (Below.refl _ _)⟩
      | false =>
      cases Gp with
      | false =>
        refine wpAnyH_take (i := 65) (oi := { dst := some 131, op := Op.call { callee := Callee.value (Operand.func 91), args := #[Operand.tmp 130], argTypes := #[3] }, type := 3, pos := "ref.go:171", after := #[{ on := 64, ground := Ground.data }, { on := 60, ground := Ground.chain }, { on := 60, ground := Ground.guard }], guard := some (60, true) }) (v := undef) rfl (by as_aux_lemma => kernel_rfl) (by as_aux_lemma => kernel_rfl) (by as_aux_lemma => kernel_rfl) (fun _ _ _ h => h) ?_ (by assumption) ?_
        · as_aux_lemma => exact Or.inr ⟨by rfl, rfl⟩
        (try simp only [Act.put, List.setIfInBounds_toArray]); (try dsimp only [List.set_cons_zero, List.set_cons_succ])
        refine wpAnyH_take (i := 66) (oi := { dst := some 132, op := Op.binOp BinOp.eql 3 (Operand.tmp 131) (Operand.const (Value.int IntKind.i64 0)) 3, type := 4, pos := "ref.go:171", after := #[{ on := 65, ground := Ground.data }, { on := 60, ground := Ground.guard }], guard := some (60, true) }) (v := undef) rfl (by as_aux_lemma => kernel_rfl) (by as_aux_lemma => kernel_rfl) (by as_aux_lemma => kernel_rfl) (fun _ _ _ h => h) ?_ (by assumption) ?_
        · as_aux_lemma => exact Or.inr ⟨by rfl, rfl⟩
        (try simp only [Act.put, List.setIfInBounds_toArray]); (try dsimp only [List.set_cons_zero, List.set_cons_succ])
        refine wpAnyH_take (i := 67) (oi := { dst := some 133, op := Op.pick (Operand.tmp 126) (Operand.tmp 132) (Operand.const (Value.bool false)), type := 4, pos := "ref.go:171", after := #[{ on := 60, ground := Ground.data }, { on := 66, ground := Ground.data }, { on := 54, ground := Ground.guard }], guard := some (54, false) }) (v := .bool false) rfl (by as_aux_lemma => kernel_rfl) (by as_aux_lemma => kernel_rfl) (by as_aux_lemma => kernel_rfl) (fun _ _ _ h => h) ?_ (by assumption) ?_
        · as_aux_lemma => exact Or.inl ⟨by rfl, by (intro W hW; (try dsimp only at hW); (try simp only [cond_true, cond_false]); go_simp <;> (with_reducible rfl))⟩
        (try simp only [Act.put, List.setIfInBounds_toArray]); (try dsimp only [List.set_cons_zero, List.set_cons_succ])
        refine wpAnyH_take (i := 68) (oi := { dst := some 134, op := Op.pick (Operand.tmp 120) (Operand.const (Value.bool true)) (Operand.tmp 133), type := 4, pos := "ref.go:171", after := #[{ on := 54, ground := Ground.data }, { on := 67, ground := Ground.data }], guard := none }) (v := .bool false) rfl (by as_aux_lemma => kernel_rfl) (by as_aux_lemma => kernel_rfl) (by as_aux_lemma => kernel_rfl) (fun _ _ _ h => h) ?_ (by assumption) ?_
        · as_aux_lemma => exact Or.inl ⟨by rfl, by (intro W hW; (try dsimp only at hW); (try simp only [cond_true, cond_false]); go_simp <;> (with_reducible rfl))⟩
        (try simp only [Act.put, List.setIfInBounds_toArray]); (try dsimp only [List.set_cons_zero, List.set_cons_succ])
        refine wpAnyH_take (i := 69) (oi := { dst := some 135, op := Op.move (Operand.tmp 134), type := 4, pos := "ref.go:171", after := #[{ on := 68, ground := Ground.data }, { on := 65, ground := Ground.chain }], guard := none }) (v := .bool false) rfl (by as_aux_lemma => kernel_rfl) (by as_aux_lemma => kernel_rfl) (by as_aux_lemma => kernel_rfl) (fun _ _ _ h => h) ?_ (by assumption) ?_
        · as_aux_lemma => exact Or.inl ⟨by rfl, by (intro W hW; (try dsimp only at hW); (try simp only [cond_true, cond_false]); go_simp <;> (with_reducible rfl))⟩
        (try simp only [Act.put, List.setIfInBounds_toArray]); (try dsimp only [List.set_cons_zero, List.set_cons_succ])
        refine wpAnyH_take (i := 70) (oi := { dst := some 136, op := Op.fieldAddr 26 (Operand.tmp 4) 1, type := 0, pos := "ref.go:171", after := #[{ on := 69, ground := Ground.guard }], guard := some (69, false) }) (v := .pointer (some ⟨w.heap.size, 1, none⟩)) rfl (by as_aux_lemma => kernel_rfl) (by as_aux_lemma => kernel_rfl) (by as_aux_lemma => kernel_rfl) (fun _ _ _ h => h) ?_ (by assumption) ?_
        · as_aux_lemma => exact Or.inl ⟨by rfl, by (intro W hW; (try dsimp only at hW); (try simp only [cond_true, cond_false]); go_simp <;> (with_reducible rfl))⟩
        (try simp only [Act.put, List.setIfInBounds_toArray]); (try dsimp only [List.set_cons_zero, List.set_cons_succ])
        refine wpAnyH_take (i := 71) (oi := { dst := some 137, op := Op.load 4 (Operand.tmp 136), type := 4, pos := "ref.go:171", after := #[{ on := 70, ground := Ground.data }, { on := 69, ground := Ground.guard }], guard := some (69, false) }) (v := .bool true) rfl (by as_aux_lemma => kernel_rfl) (by as_aux_lemma => kernel_rfl) (by as_aux_lemma => kernel_rfl) (fun _ _ _ h => h) ?_ (by assumption) ?_
        · as_aux_lemma => exact Or.inl ⟨by rfl, by (intro W hW; (try dsimp only at hW); (try simp only [cond_true, cond_false]); go_simp <;> (with_reducible rfl))⟩
        (try simp only [Act.put, List.setIfInBounds_toArray]); (try dsimp only [List.set_cons_zero, List.set_cons_succ])
        refine wpAnyH_take (i := 72) (oi := { dst := some 138, op := Op.fieldAddr 48 (Operand.tmp 12) 2, type := 0, pos := "ref.go:171", after := #[{ on := 69, ground := Ground.guard }], guard := some (69, false) }) (v := .pointer (some ⟨wr.heap.size, 3, none⟩)) rfl (by as_aux_lemma => kernel_rfl) (by as_aux_lemma => kernel_rfl) (by as_aux_lemma => kernel_rfl) (fun _ _ _ h => h) ?_ (by assumption) ?_
        · as_aux_lemma => exact Or.inl ⟨by rfl, by (intro W hW; (try dsimp only at hW); (try simp only [cond_true, cond_false]); go_simp <;> (with_reducible rfl))⟩
        (try simp only [Act.put, List.setIfInBounds_toArray]); (try dsimp only [List.set_cons_zero, List.set_cons_succ])
        refine wpAnyH_take (i := 73) (oi := { dst := some 139, op := Op.load 46 (Operand.tmp 138), type := 46, pos := "ref.go:171", after := #[{ on := 72, ground := Ground.data }, { on := 69, ground := Ground.guard }], guard := some (69, false) }) (v := .slice ka 0 kc) rfl (by as_aux_lemma => kernel_rfl) (by as_aux_lemma => kernel_rfl) (by as_aux_lemma => kernel_rfl) (fun _ _ _ h => h) ?_ (by assumption) ?_
        · as_aux_lemma => exact Or.inl ⟨by rfl, by (intro W hW; (try dsimp only at hW); (try simp only [cond_true, cond_false]); go_simp <;> (with_reducible rfl))⟩
        (try simp only [Act.put, List.setIfInBounds_toArray]); (try dsimp only [List.set_cons_zero, List.set_cons_succ])
        refine wpAnyH_take (i := 74) (oi := { dst := some 140, op := Op.call { callee := Callee.builtin Builtin.len, args := #[Operand.tmp 139], argTypes := #[46] }, type := 3, pos := "ref.go:171", after := #[{ on := 73, ground := Ground.data }, { on := 69, ground := Ground.guard }], guard := some (69, false) }) (v := .int .i64 0) rfl (by as_aux_lemma => kernel_rfl) (by as_aux_lemma => kernel_rfl) (by as_aux_lemma => kernel_rfl) (fun _ _ _ h => h) ?_ (by assumption) ?_
        · as_aux_lemma => exact Or.inl ⟨by rfl, by (intro W hW; (try dsimp only at hW); (try simp only [cond_true, cond_false]); go_simp <;> (with_reducible rfl))⟩
        (try simp only [Act.put, List.setIfInBounds_toArray]); (try dsimp only [List.set_cons_zero, List.set_cons_succ])
        refine wpAnyH_take (i := 75) (oi := { dst := some 141, op := Op.binOp BinOp.eql 3 (Operand.tmp 140) (Operand.const (Value.int IntKind.i64 0)) 3, type := 4, pos := "ref.go:171", after := #[{ on := 74, ground := Ground.data }, { on := 69, ground := Ground.guard }], guard := some (69, false) }) (v := .bool true) rfl (by as_aux_lemma => kernel_rfl) (by as_aux_lemma => kernel_rfl) (by as_aux_lemma => kernel_rfl) (fun _ _ _ h => h) ?_ (by assumption) ?_
        · as_aux_lemma => exact Or.inl ⟨by rfl, by (intro W hW; (try dsimp only at hW); (try simp only [cond_true, cond_false]); go_simp <;> (with_reducible rfl))⟩
        (try simp only [Act.put, List.setIfInBounds_toArray]); (try dsimp only [List.set_cons_zero, List.set_cons_succ])
        refine wpAnyH_take (i := 76) (oi := { dst := some 142, op := Op.binOp BinOp.neq 4 (Operand.tmp 137) (Operand.tmp 141) 4, type := 4, pos := "ref.go:171", after := #[{ on := 71, ground := Ground.data }, { on := 75, ground := Ground.data }, { on := 69, ground := Ground.guard }], guard := some (69, false) }) (v := .bool false) rfl (by as_aux_lemma => kernel_rfl) (by as_aux_lemma => kernel_rfl) (by as_aux_lemma => kernel_rfl) (fun _ _ _ h => h) ?_ (by assumption) ?_
        · as_aux_lemma => exact Or.inl ⟨by rfl, by (intro W hW; (try dsimp only at hW); (try simp only [cond_true, cond_false]); go_simp <;> (with_reducible rfl))⟩
        (try simp only [Act.put, List.setIfInBounds_toArray]); (try dsimp only [List.set_cons_zero, List.set_cons_succ])
        refine wpAnyH_take (i := 77) (oi := { dst := some 143, op := Op.pick (Operand.tmp 135) (Operand.const (Value.bool true)) (Operand.tmp 142), type := 4, pos := "ref.go:171", after := #[{ on := 69, ground := Ground.data }, { on := 76, ground := Ground.data }], guard := none }) (v := .bool false) rfl (by as_aux_lemma => kernel_rfl) (by as_aux_lemma => kernel_rfl) (by as_aux_lemma => kernel_rfl) (fun _ _ _ h => h) ?_ (by assumption) ?_
        · as_aux_lemma => exact Or.inl ⟨by rfl, by (intro W hW; (try dsimp only at hW); (try simp only [cond_true, cond_false]); go_simp <;> (with_reducible rfl))⟩
        (try simp only [Act.put, List.setIfInBounds_toArray]); (try dsimp only [List.set_cons_zero, List.set_cons_succ])
        refine wpAnyH_done (by kernel_rfl) ?_ _
        refine NoPanic.normal ?_
        go_wp2_with fail
        go_meet
        exact ⟨by simp [HBD.out], by first | assumption | exact Below.dr (Below.refl _ _)⟩
      | true =>
      refine wpAnyH_ready (rs := [65]) (by kernel_rfl) (by simp) (AllReadyH.cons (o := { dst := some 131, op := Op.call { callee := Callee.value (Operand.func 91), args := #[Operand.tmp 130], argTypes := #[3] }, type := 3, pos := "ref.go:171", after := #[{ on := 64, ground := Ground.data }, { on := 60, ground := Ground.chain }, { on := 60, ground := Ground.guard }], guard := some (60, true) }) rfl (fun K hK => ?_) AllReadyH.nil)
      (rw [if_pos (by rfl)]; (try simp only [cond_true, cond_false]); go_wp2_with (go_at_call 91; refine (CN _).mono ?_; rintro e w9 ⟨rfl, rfl⟩))
      refine hK.out _ _ (by assumption) (fun hHeld => ?_)
      clear hK K
      (try simp only [Act.put, List.setIfInBounds_toArray]); (try dsimp only [List.set_cons_zero, List.set_cons_succ])
      refine wpAnyH_take (i := 66) (oi := { dst := some 132, op := Op.binOp BinOp.eql 3 (Operand.tmp 131) (Operand.const (Value.int IntKind.i64 0)) 3, type := 4, pos := "ref.go:171", after := #[{ on := 65, ground := Ground.data }, { on := 60, ground := Ground.guard }], guard := some (60, true) }) (v := .bool X7) rfl (by as_aux_lemma => kernel_rfl) (by as_aux_lemma => kernel_rfl) (by as_aux_lemma => kernel_rfl) (fun _ _ _ h => h) ?_ (by assumption) ?_
      · as_aux_lemma => exact Or.inl ⟨by rfl, by (intro W hW; (try dsimp only at hW); (try simp only [cond_true, cond_false]); rcases HX7.out with ⟨rfl, p1⟩ | ⟨rfl, p1⟩; all_goals go_simp <;> (with_reducible rfl))⟩
      (try simp only [Act.put, List.setIfInBounds_toArray]); (try dsimp only [List.set_cons_zero, List.set_cons_succ])
      refine wpAnyH_take (i := 67) (oi := { dst := some 133, op := Op.pick (Operand.tmp 126) (Operand.tmp 132) (Operand.const (Value.bool false)), type := 4, pos := "ref.go:171", after := #[{ on := 60, ground := Ground.data }, { on := 66, ground := Ground.data }, { on := 54, ground := Ground.guard }], guard := some (54, false) }) (v := .bool X7) rfl (by as_aux_lemma => kernel_rfl) (by as_aux_lemma => kernel_rfl) (by as_aux_lemma => kernel_rfl) (fun _ _ _ h => h) ?_ (by assumption) ?_
      · as_aux_lemma => exact Or.inl ⟨by rfl, by (intro W hW; (try dsimp only at hW); (try simp only [cond_true, cond_false]); go_simp <;> (with_reducible rfl))⟩
      (try simp only [Act.put, List.setIfInBounds_toArray]); (try dsimp only [List.set_cons_zero, List.set_cons_succ])
      refine wpAnyH_take (i := 68) (oi := { dst := some 134, op := Op.pick (Operand.tmp 120) (Operand.const (Value.bool true)) (Operand.tmp 133), type := 4, pos := "ref.go:171", after := #[{ on := 54, ground := Ground.data }, { on := 67, ground := Ground.data }], guard := none }) (v := .bool X7) rfl (by as_aux_lemma => kernel_rfl) (by as_aux_lemma => kernel_rfl) (by as_aux_lemma => kernel_rfl) (fun _ _ _ h => h) ?_ (by assumption) ?_
      · as_aux_lemma => exact Or.inl ⟨by rfl, by (intro W hW; (try dsimp only at hW); (try simp only [cond_true, cond_false]); go_simp <;> (with_reducible rfl))⟩
      (try simp only [Act.put, List.setIfInBounds_toArray]); (try dsimp only [List.set_cons_zero, List.set_cons_succ])
      refine wpAnyH_take (i := 69) (oi := { dst := some 135, op := Op.move (Operand.tmp 134), type := 4, pos := "ref.go:171", after := #[{ on := 68, ground := Ground.data }, { on := 65, ground := Ground.chain }], guard := none }) (v := .bool X7) rfl (by as_aux_lemma => kernel_rfl) (by as_aux_lemma => kernel_rfl) (by as_aux_lemma => kernel_rfl) (fun _ _ _ h => h) ?_ (by assumption) ?_
      · as_aux_lemma => exact Or.inl ⟨by rfl, by (intro W hW; (try dsimp only at hW); (try simp only [cond_true, cond_false]); go_simp <;> (with_reducible rfl))⟩
      (try simp only [Act.put, List.setIfInBounds_toArray]); (try dsimp only [List.set_cons_zero, List.set_cons_succ])
      refine wpAnyH_take (i := 70) (oi := { dst := some 136, op := Op.fieldAddr 26 (Operand.tmp 4) 1, type := 0, pos := "ref.go:171", after := #[{ on := 69, ground := Ground.guard }], guard := some (69, false) }) (v := (bif X7 then undef else .pointer (some ⟨w.heap.size, 1, none⟩))) rfl (by as_aux_lemma => kernel_rfl) (by as_aux_lemma => kernel_rfl) (by as_aux_lemma => kernel_rfl) (fun _ _ _ h => h) ?_ (by assumption) ?_
      · as_aux_lemma => (cases X7 with | true => exact Or.inr ⟨by rfl, rfl⟩ | false => exact Or.inl ⟨by rfl, by (intro W hW; (try dsimp only at hW); (try simp only [cond_true, cond_false]); go_simp <;> (with_reducible rfl))⟩)
      (try simp only [Act.put, List.setIfInBounds_toArray]); (try dsimp only [List.set_cons_zero, List.set_cons_succ])
      refine wpAnyH_take (i := 71) (oi := { dst := some 137, op := Op.load 4 (Operand.tmp 136), type := 4, pos := "ref.go:171", after := #[{ on := 70, ground := Ground.data }, { on := 69, ground := Ground.guard }], guard := some (69, false) }) (v := (bif X7 then undef else .bool true)) rfl (by as_aux_lemma => kernel_rfl) (by as_aux_lemma => kernel_rfl) (by as_aux_lemma => kernel_rfl) (fun _ _ _ h => h) ?_ (by assumption) ?_
      · as_aux_lemma => (cases X7 with | true => exact Or.inr ⟨by rfl, rfl⟩ | false => exact Or.inl ⟨by rfl, by (intro W hW; (try dsimp only at hW); (try simp only [cond_true, cond_false]); go_simp <;> (with_reducible rfl))⟩)
      (try simp only [Act.put, List.setIfInBounds_toArray]); (try dsimp only [List.set_cons_zero, List.set_cons_succ])
      refine wpAnyH_take (i := 72) (oi := { dst := some 138, op := Op.fieldAddr 48 (Operand.tmp 12) 2, type := 0, pos := "ref.go:171", after := #[{ on := 69, ground := Ground.guard }], guard := some (69, false) }) (v := (bif X7 then undef else .pointer (some ⟨wr.heap.size, 3, none⟩))) rfl (by as_aux_lemma => kernel_rfl) (by as_aux_lemma => kernel_rfl) (by as_aux_lemma => kernel_rfl) (fun _ _ _ h => h) ?_ (by assumption) ?_
      · as_aux_lemma => (cases X7 with | true => exact Or.inr ⟨by rfl, rfl⟩ | false => exact Or.inl ⟨by rfl, by (intro W hW; (try dsimp only at hW); (try simp only [cond_true, cond_false]); go_simp <;> (with_reducible rfl))⟩)
      (try simp only [Act.put, List.setIfInBounds_toArray]); (try dsimp only [List.set_cons_zero, List.set_cons_succ])
      refine wpAnyH_take (i := 73) (oi := { dst := some 139, op := Op.load 46 (Operand.tmp 138), type := 46, pos := "ref.go:171", after := #[{ on := 72, ground := Ground.data }, { on := 69, ground := Ground.guard }], guard := some (69, false) }) (v := (bif X7 then undef else .slice ka 0 kc)) rfl (by as_aux_lemma => kernel_rfl) (by as_aux_lemma => kernel_rfl) (by as_aux_lemma => kernel_rfl) (fun _ _ _ h => h) ?_ (by assumption) ?_
      · as_aux_lemma => (cases X7 with | true => exact Or.inr ⟨by rfl, rfl⟩ | false => exact Or.inl ⟨by rfl, by (intro W hW; (try dsimp only at hW); (try simp only [cond_true, cond_false]); go_simp <;> (with_reducible rfl))⟩)
      (try simp only [Act.put, List.setIfInBounds_toArray]); (try dsimp only [List.set_cons_zero, List.set_cons_succ])
      refine wpAnyH_take (i := 74) (oi := { dst := some 140, op := Op.call { callee := Callee.builtin Builtin.len, args := #[Operand.tmp 139], argTypes := #[46] }, type := 3, pos := "ref.go:171", after := #[{ on := 73, ground := Ground.data }, { on := 69, ground := Ground.guard }], guard := some (69, false) }) (v := (bif X7 then undef else .int .i64 0)) rfl (by as_aux_lemma => kernel_rfl) (by as_aux_lemma => kernel_rfl) (by as_aux_lemma => kernel_rfl) (fun _ _ _ h => h) ?_ (by assumption) ?_
      · as_aux_lemma => (cases X7 with | true => exact Or.inr ⟨by rfl, rfl⟩ | false => exact Or.inl ⟨by rfl, by (intro W hW; (try dsimp only at hW); (try simp only [cond_true, cond_false]); go_simp <;> (with_reducible rfl))⟩)
      (try simp only [Act.put, List.setIfInBounds_toArray]); (try dsimp only [List.set_cons_zero, List.set_cons_succ])
      refine wpAnyH_take (i := 75) (oi := { dst := some 141, op := Op.binOp BinOp.eql 3 (Operand.tmp 140) (Operand.const (Value.int IntKind.i64 0)) 3, type := 4, pos := "ref.go:171", after := #[{ on := 74, ground := Ground.data }, { on := 69, ground := Ground.guard }], guard := some (69, false) }) (v := (bif X7 then undef else .bool true)) rfl (by as_aux_lemma => kernel_rfl) (by as_aux_lemma => kernel_rfl) (by as_aux_lemma => kernel_rfl) (fun _ _ _ h => h) ?_ (by assumption) ?_
      · as_aux_lemma => (cases X7 with | true => exact Or.inr ⟨by rfl, rfl⟩ | false => exact Or.inl ⟨by rfl, by (intro W hW; (try dsimp only at hW); (try simp only [cond_true, cond_false]); go_simp <;> (with_reducible rfl))⟩)
      (try simp only [Act.put, List.setIfInBounds_toArray]); (try dsimp only [List.set_cons_zero, List.set_cons_succ])
      refine wpAnyH_take (i := 76) (oi := { dst := some 142, op := Op.binOp BinOp.neq 4 (Operand.tmp 137) (Operand.tmp 141) 4, type := 4, pos := "ref.go:171", after := #[{ on := 71, ground := Ground.data }, { on := 75, ground := Ground.data }, { on := 69, ground := Ground.guard }], guard := some (69, false) }) (v := (bif X7 then undef else .bool false)) rfl (by as_aux_lemma => kernel_rfl) (by as_aux_lemma => kernel_rfl) (by as_aux_lemma => kernel_rfl) (fun _ _ _ h => h) ?_ (by assumption) ?_
      · as_aux_lemma => (cases X7 with | true => exact Or.inr ⟨by rfl, rfl⟩ | false => exact Or.inl ⟨by rfl, by (intro W hW; (try dsimp only at hW); (try simp only [cond_true, cond_false]); go_simp <;> (with_reducible rfl))⟩)
      (try simp only [Act.put, List.setIfInBounds_toArray]); (try dsimp only [List.set_cons_zero, List.set_cons_succ])
      refine wpAnyH_take (i := 77) (oi := { dst := some 143, op := Op.pick (Operand.tmp 135) (Operand.const (Value.bool true)) (Operand.tmp 142), type := 4, pos := "ref.go:171", after := #[{ on := 69, ground := Ground.data }, { on := 76, ground := Ground.data }], guard := none }) (v := .bool X7) rfl (by as_aux_lemma => kernel_rfl) (by as_aux_lemma => kernel_rfl) (by as_aux_lemma => kernel_rfl) (fun _ _ _ h => h) ?_ (by assumption) ?_
      · as_aux_lemma => exact Or.inl ⟨by rfl, by (intro W hW; (try dsimp only at hW); (try simp only [cond_true, cond_false]); cases X7; all_goals go_simp <;> (with_reducible rfl))⟩
      (try simp only [Act.put, List.setIfInBounds_toArray]); (try dsimp only [List.set_cons_zero, List.set_cons_succ])
      refine wpAnyH_done (by kernel_rfl) ?_ _
      refine NoPanic.normal ?_
      go_wp2_with fail
      go_meet
      exact ⟨by simp [HBD.out], by first | assumption | exact Below.dr (Below.refl _ _)⟩
    case rest =>
    rename_i wd
    obtain ⟨rfl, hbd⟩ := hcut
    replace HB := Lib.hid (below_via HB.out hbd)
    replace HX := Lib.hid (HX.out.step hbd)
    clear u1 u2 m0 m1 m2 m3 hwc v0 v1 v2 v3
    have u1 := HX.out.cell 1 1 rfl rfl
    have u2 := HX.out.cell 1 2 rfl rfl
    have m0 := HX.out.cell 0 0 rfl rfl
    have m3 := HX.out.cell 0 3 rfl rfl
    clear hbc hbd
    cases BAD with
    | true =>
      have HR : Hid (R = none) := Lib.hid (by
        have h9 := HBAD.out
        rw [HD.out, HFT.out]
        cases hfa : fitAt lo hi true (keysOf l) i with
        | false => rw [fitTo_bad (i := i) (by omega) hfa]; rfl
        | true =>
          rw [hfa] at h9
          have hv : valB yv = false := by simpa using h9.symm
          have h8 : (l.all fun c => valB c.2) = false := by
            rw [List.all_eq_false]
            exact ⟨_, List.mem_of_getElem? HX1.out, by simp [hv]⟩
          rw [h8, Bool.and_false]; rfl)
      go_wp2_with fail
      go_ret
      exact ⟨by rw [HR.out]; rfl, HB.out⟩
    | false =>
    have HT2 : Hid (fitTo lo hi true (keysOf l) (i + 1) = true) := Lib.hid (by
      have h9 := HBAD.out
      rw [fitTo_succ, HA.out, Bool.true_and]
      simp at h9
      exact h9.1)
    have HRS2 : Hid (∀ j c, j < i + 1 → l[j]? = some c → valB c.2 = true) := Lib.hid (fun j c hj hc => by
      by_cases hj9 : j < i
      · exact HRS.out j c hj9 hc
      · obtain rfl : j = i := by omega
        have h9 := HBAD.out
        rw [HX1.out] at hc
        cases hc
        simp at h9
        exact h9.2)
    go_wp2_with fail
    go_roundw
    case rel => exact ⟨i + 1, 0, by omega, by go_num, rfl, rfl, HT2.out, HRS2.out, HB.out, HX.out.sub (fun p hp => List.mem_cons_of_mem _ hp)⟩
    case measure => simp [intOf]; omega
end Go.Proofs.Ytemfnjlfcemehaa
