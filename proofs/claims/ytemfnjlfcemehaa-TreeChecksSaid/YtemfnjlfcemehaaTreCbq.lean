/- The document's node of a branch (printed by gen_treCk.py). -/
import Derived.Test.YtemfnjlfcemehaaTreCpq
import Derived.Test.YtemfnjlfcemehaaM8
import Derived.Test.YtemfnjlfcemehaaM10
import Derived.Test.YtemfnjlfcemehaaM4
import Derived.Test.YtemfnjlfcemehaaM2
import Derived.Deep.DeepCutAuto
import Derived.Deep.CutBlock
import Derived.Deep.QuietTactic
import Derived.BigQuiet
namespace Go.Proofs.Ytemfnjlfcemehaa
open Go.RowKit

set_option maxRecDepth 100000 in
set_option maxHeartbeats 16000000 in
theorem rnode_branch {n : Nat}
    (IH : ∀ {w : World} {cs : List Value} {t : Tr} {F : Nat → Prop}, RNodeOn F n w cs t → Bnd n t → ∀ (lo hi : List UInt8), lo.length ≤ 1000 → hi.length ≤ 1000 →
      Calls Try.prog 62 #[.agg cs.toArray, .string (strOf lo), .string (strOf hi), .bool false] w fun e w' => e = .returned (.int .i64 (depI (depthT n t lo hi false))) ∧ Below w.heap.size w w')
    {F : Nat → Prop} {w : World} {cs : List Value} {p : Int} {l : List (List UInt8 × Tr)} (h : RNodeOn F (n + 1) w cs (.node p l)) (hb : Bnd (n + 1) (.node p l)) (hn : n ≤ 1000) (lo hi : List UInt8) (root : Bool) (hlo : lo.length ≤ 1000) (hhi : hi.length ≤ 1000) :
    Calls Try.prog 62 #[.agg cs.toArray, .string (strOf lo), .string (strOf hi), .bool root] w fun e w' => e = .returned (.int .i64 (depI (depthT (n + 1) (.node p l) lo hi root))) ∧ Below w.heap.size w w' := by
  have CS := fun W (hW : Below w.heap.size w W) => rsizes_any (h.below hW) hb
  have hSm := hb.small
  obtain ⟨a, c, rfl, h1, _⟩ := h.at
  obtain ⟨g1, g2⟩ := hb
  obtain ⟨e1, e2, e3⟩ := h1.lens
  obtain ⟨m, hml⟩ : ∃ m, cntT (.node p l) = m := ⟨_, rfl⟩
  have hlm : l.length = m := hml
  obtain ⟨R, hR⟩ : ∃ R, depthT (n + 1) (.node p l) lo hi root = R := ⟨_, rfl⟩
  obtain ⟨S, hS⟩ : ∃ S, sizesT (.node p l) = S := ⟨_, rfl⟩
  have hsz : sizeB root (.node p l) = (decide (2 ≤ m) && (decide (sumI S ≤ 122) && (root || !decide (sumI S < 30)))) := by
    unfold sizeB sumT lowT; rw [hml, ← hS]; rfl
  obtain ⟨sm, hsm⟩ : ∃ x, sumI S = x := ⟨_, rfl⟩
  rw [hS] at CS hSm
  rw [hsm] at hsz
  have hd := depthT_node n p l lo hi root
  rw [hR] at hd
  have hfit : fitT lo hi (.node p l) = fitTo lo hi false (keysOf l) m := by rw [← hlm]; rfl
  obtain ⟨R2, hR2⟩ : ∃ R2, depK (fun t lo hi => depthT n t lo hi false) lo hi 0 0 l = R2 := ⟨_, rfl⟩
  rw [hR2] at hd
  generalize sizeB root (.node p l) = SZ at *
  generalize fitT lo hi (.node p l) = FT at *
  rw [hR, show (Tr.node p l).page = p from rfl, show (Tr.node p l).isLeaf = false from rfl]
  rw [hml] at h1 e1 e2 CS ⊢
  have HV := Lib.hid h1
  have HSm := Lib.hid hSm
  have HSM := Lib.hid hsm
  have HSZ := Lib.hid hsz
  have HD := Lib.hid hd
  have HFT := Lib.hid hfit
  have HL := Lib.hid hlm
  have HG := Lib.hid g2
  have hm9 : m ≤ 1000 := by omega
  have HR2 := Lib.hid hR2
  clear hR2
  have HB0 := Lib.hid ((Below.refl _ _).alloc (Nat.le_refl _) _ : Below w.heap.size w (w.alloc (.cells #[.int .i64 p, .bool false, .slice a m c] 26)))
  have HX0 := Lib.hid ((Boxes.nil w).alloc #[.int .i64 p, .bool false, .slice a m c] 26 (b := w.heap.size) rfl)
  obtain ⟨W1, hW1⟩ : ∃ x, w.alloc (.cells #[.int .i64 p, .bool false, .slice a m c] 26) = x := ⟨_, rfl⟩
  rw [hW1] at HB0 HX0
  have CS1 := CS _ HB0.out
  have CS2 : ∀ W, Below W1.heap.size W1 W → Calls Try.prog 65 #[.agg #[.int .i64 p, .bool false, .slice a m c]] W (SizesPost W S) := fun W hW => CS W (below_via HB0.out hW)
  clear h h1 g1 g2 e1 hml hS hR hd hfit hsz hsm hSm hlm CS
  have n0 := HX0.out.cell 0 0 rfl rfl
  have n1 := HX0.out.cell 0 1 rfl rfl
  have n2 := HX0.out.cell 0 2 rfl rfl
  show Calls _ _ #[.agg #[.int .i64 p, .bool false, .slice a m c], .string (strOf lo), .string (strOf hi), .bool root] _ _
  go_enter Try.func62, Try.ntmps62
  go_wp2_with fail
  try rw [hW1]
  clear hW1
  refine CS1.mono ?_
  rintro e w2 ⟨v2, rfl, ho2, hb2⟩
  obtain ⟨sa, sc, rfl, hrow⟩ := Row.of_own ho2
  have HB2 := Lib.hid (below_via HB0.out hb2)
  have HX2 := Lib.hid (HX0.out.step hb2)
  have CSum : ∀ W, Below w2.heap.size w2 W → Calls Try.prog 90 #[.slice sa S.length sc] W (fun e w' => e = .returned (.int .i64 sm) ∧ W = w') := fun W hW => by
    have := refSum_any _ _ _ _ W (Row.below (Nat.le_refl _) hW hrow) HSm.out
    rwa [HSM.out] at this
  have CLow : ∀ W, Below w2.heap.size w2 W → Calls Try.prog 73 #[.slice sa S.length sc] W (fun e w' => e = .returned (.bool (decide (sm < 30))) ∧ W = w') := fun W hW => by
    have := refLow_any _ _ _ _ W (Row.below (Nat.le_refl _) hW hrow) HSm.out
    rwa [HSM.out] at this
  clear n0 n1 n2 ho2 hrow CS1 CS2
  have n0 := HX2.out.cell 0 0 rfl rfl
  have n1 := HX2.out.cell 0 1 rfl rfl
  have n2 := HX2.out.cell 0 2 rfl rfl
  clear hb2
  go_upto_region 2 with (fail)
  go_cut [46] (fun s wq => s = .bool (!SZ) ∧ w2 = wq)
  case first =>

    by_cases h0 : m = 0
    · have c0 : ((m : Int) == 0) = true := by simp; omega
      have H0 := Lib.hid h0
      clear h0
      have HE : Hid (SZ = false) := Lib.hid (by rw [HSZ.out]; simp [H0.out])
      go_wp2_with (first | (go_at_call 90; refine (CSum _ (by first | exact Below.refl _ _ | assumption)).mono ?_; rintro e w9 ⟨rfl, rfl⟩) | (go_at_call 73; refine (CLow _ (by first | exact Below.refl _ _ | assumption)).mono ?_; rintro e w9 ⟨rfl, rfl⟩))
      go_meet
      exact ⟨by rw [HE.out]; rfl, rfl⟩
    have c0 : ((m : Int) == 0) = false := beq_eq_false_iff_ne.2 (by omega)
    have H0 := Lib.hid h0
    clear h0
    by_cases h1 : m = 1
    · have c1 : ((m : Int) == 1) = true := by simp; omega
      have H1 := Lib.hid h1
      clear h1
      have HE : Hid (SZ = false) := Lib.hid (by rw [HSZ.out]; simp [H1.out])
      go_wp2_with (first | (go_at_call 90; refine (CSum _ (by first | exact Below.refl _ _ | assumption)).mono ?_; rintro e w9 ⟨rfl, rfl⟩) | (go_at_call 73; refine (CLow _ (by first | exact Below.refl _ _ | assumption)).mono ?_; rintro e w9 ⟨rfl, rfl⟩))
      go_meet
      exact ⟨by rw [HE.out]; rfl, rfl⟩
    have c1 : ((m : Int) == 1) = false := beq_eq_false_iff_ne.2 (by omega)
    have H1 := Lib.hid h1
    clear h1
    by_cases h2 : 122 < sm
    · have c2 : decide ((122 : Int) < sm) = true := by simp; omega
      have H2 := Lib.hid h2
      clear h2
      have HE : Hid (SZ = false) := Lib.hid (by rw [HSZ.out]; have := H2.out; simp; intros; omega)
      go_wp2_with (first | (go_at_call 90; refine (CSum _ (by first | exact Below.refl _ _ | assumption)).mono ?_; rintro e w9 ⟨rfl, rfl⟩) | (go_at_call 73; refine (CLow _ (by first | exact Below.refl _ _ | assumption)).mono ?_; rintro e w9 ⟨rfl, rfl⟩))
      go_meet
      exact ⟨by rw [HE.out]; rfl, rfl⟩
    have c2 : decide ((122 : Int) < sm) = false := by simp; omega
    have H2 := Lib.hid h2
    clear h2
    cases root with
    | true =>
      have HE : Hid (SZ = true) := Lib.hid (by rw [HSZ.out]; have := H0.out; have := H1.out; have := H2.out; simp; omega)
      go_wp2_with (first | (go_at_call 90; refine (CSum _ (by first | exact Below.refl _ _ | assumption)).mono ?_; rintro e w9 ⟨rfl, rfl⟩) | (go_at_call 73; refine (CLow _ (by first | exact Below.refl _ _ | assumption)).mono ?_; rintro e w9 ⟨rfl, rfl⟩))
      go_meet
      exact ⟨by rw [HE.out]; rfl, rfl⟩
    | false =>
      by_cases h3 : sm < 30
      · simp only [h3, decide_true] at CLow
        have H3 := Lib.hid h3
        clear h3
        have HE : Hid (SZ = false) := Lib.hid (by rw [HSZ.out]; have := H3.out; simp; intros; omega)
        go_wp2_with (first | (go_at_call 90; refine (CSum _ (by first | exact Below.refl _ _ | assumption)).mono ?_; rintro e w9 ⟨rfl, rfl⟩) | (go_at_call 73; refine (CLow _ (by first | exact Below.refl _ _ | assumption)).mono ?_; rintro e w9 ⟨rfl, rfl⟩))
        go_meet
        exact ⟨by rw [HE.out]; rfl, rfl⟩
      simp only [h3, decide_false] at CLow
      have H3 := Lib.hid h3
      clear h3
      have HE : Hid (SZ = true) := Lib.hid (by rw [HSZ.out]; have := H0.out; have := H1.out; have := H2.out; have := H3.out; simp; omega)
      go_wp2_with (first | (go_at_call 90; refine (CSum _ (by first | exact Below.refl _ _ | assumption)).mono ?_; rintro e w9 ⟨rfl, rfl⟩) | (go_at_call 73; refine (CLow _ (by first | exact Below.refl _ _ | assumption)).mono ?_; rintro e w9 ⟨rfl, rfl⟩))
      go_meet
      exact ⟨by rw [HE.out]; rfl, rfl⟩
  case rest =>
  obtain ⟨rfl, rfl⟩ := hcut

  cases SZ with
  | false =>
    have HR : Hid (R = none) := Lib.hid (by rw [HD.out, Bool.and_false]; rfl)
    go_wp2_with fail
    go_ret
    exact ⟨by rw [HR.out]; rfl, HB2.out⟩
  | true =>
  simp only [Bool.not_true]
  go_wp2_with fail
  go_loopw [10, 11] (fun s10 s11 wr => ∃ i far : Nat, i ≤ m ∧ s11 = .int .i64 i ∧ s10 = .int .i64 far ∧ far ≤ 1000 ∧ fitTo lo hi false (keysOf l) i = true ∧ depK (fun t lo hi => depthT n t lo hi false) lo hi i far (l.drop i) = R2 ∧ Below w.heap.size w wr ∧ Boxes wr [(w.heap.size, [.int .i64 p, .bool false, .slice a m c])]) (fun _ s _ => m - (intOf s).toNat)
  case atStart => exact ⟨0, 0, Nat.zero_le _, rfl, rfl, Nat.zero_le _, rfl, HR2.out, HB2.out, HX2.out⟩
  case round =>
    clear n0 n1 n2 CSum CLow HX2 HB2 HX0 HB0
    obtain ⟨i, far, hi', rfl, rfl, hfar, hfit, hrest, hb, hx⟩ := hrel
    by_cases hlt : i < m
    rotate_left
    · obtain rfl : i = m := by omega
      have HR : Hid (R = some far) := Lib.hid (by
        rw [HD.out, HFT.out, hfit, if_pos (by rfl), ← hrest, List.drop_of_length_le (by rw [HL.out]; exact Nat.le_refl _)]; rfl)
      have HB := Lib.hid hb
      have f2 := hx.cell 0 2 rfl rfl
      have d0 : decide ((i : Int) < (i : Int)) = false := by simp
      clear hfit hrest hb hx
      go_wp2_with fail
      go_ret
      exact ⟨by rw [HR.out]; rfl, HB.out⟩
    obtain ⟨b, off, y, pa, pn, pc, ka, kn, kc, rfl, hbb, hy, _, hpg, _, hkt, _, c0, c1, c2, c3⟩ := RNodeOn.cell HV.out hlt
    rw [cellsR_node] at hy
    obtain ⟨x, hx1, hx2⟩ := Option.map_eq_some_iff.1 hy
    subst hx2
    clear hy
    obtain ⟨k, kid⟩ := x
    have hg := HG.out _ (List.mem_of_getElem? hx1)
    have hKK : (keysOf l)[i]?.getD [] = k := by simp [keysOf, hx1]
    have hbb9 := Nat.lt_of_lt_of_le hbb hb.size
    dsimp only at hg c0 c1 c2 c3 hpg hkt
    obtain ⟨q1, q2, q3⟩ := hkt.lens
    have hkn : kn = 1 := by rw [← q1]; rfl
    subst hkn
    have hpn : pn = 0 := hpg.1.symm
    subst hpn
    have HVN : Hid (valB ⟨[], []⟩ = true) := Lib.hid (by decide)
    have hsd := strOf_size ([] : List UInt8)
    have hpc : pc ≤ maxLen := hpg.2.2.1
    unfold maxLen at hpc
    obtain ⟨bk, okk, kid2, kcs, eka, hbk, hy2, _, hkid, hkc⟩ := TabR.at hkt (k := 0) (by omega)
    subst eka
    obtain rfl : kid = kid2 := by simpa using hy2
    cases n with
    | zero => exact hkid.elim
    | succ n =>
    obtain ⟨ak, ck, rfl, _, _⟩ := hkid.at
    obtain ⟨km, hkm⟩ : ∃ z, cntT kid = z := ⟨_, rfl⟩
    obtain ⟨kp9, hkp9⟩ : ∃ z, kid.page = z := ⟨_, rfl⟩
    obtain ⟨kf, hkf⟩ : ∃ z, kid.isLeaf = z := ⟨_, rfl⟩
    rw [hkm, hkp9, hkf] at hkid hkc
    have e0 := (hb.cell (p := ⟨bk, okk, none⟩) hbk).trans (by simpa using hkc 0 _ rfl)
    have e1 := (hb.cell (p := ⟨bk, okk + 1, none⟩) hbk).trans (by simpa using hkc 1 _ rfl)
    have e2 := (hb.cell (p := ⟨bk, okk + 2, none⟩) hbk).trans (by simpa using hkc 2 _ rfl)
    have hbk9 := Nat.lt_of_lt_of_le hbk hb.size
    have HKID := Lib.hid hkid
    have HC1 := Lib.hid hx1
    have HDK := Lib.hid hrest
    have HKB := Lib.hid hg.2
    have hkk : k.length ≤ 1000 := by have := hg.1; omega
    clear hkid hkc hkm hkp9 hkf hy2 hkt hpg
    have hkl := hg.1
    have hsz := strOf_size k
    have HKK := Lib.hid hKK
    have HA := Lib.hid hfit
    obtain ⟨BAD, hbad⟩ : ∃ z, (!(fitAt lo hi false (keysOf l) i && valB ⟨[], []⟩)) = z := ⟨_, rfl⟩
    have HBAD := Lib.hid hbad.symm
    clear hbad hKK hfit hrest hx1
    have v0 := (hb.cell (p := ⟨b, off + i * 4, none⟩) hbb).trans c0
    have v1 := (hb.cell (p := ⟨b, off + i * 4 + 1, none⟩) hbb).trans c1
    have v2 := (hb.cell (p := ⟨b, off + i * 4 + 2, none⟩) hbb).trans c2
    have v3 := (hb.cell (p := ⟨b, off + i * 4 + 3, none⟩) hbb).trans c3
    have f1 := hx.cell 0 1 rfl rfl
    have f2 := hx.cell 0 2 rfl rfl
    have hxc := hx.alloc #[.string (strOf k), .string (strOf []), .slice pa 0 pc, .slice (some ⟨bk, okk, none⟩) 1 kc] 48 (b := wr.heap.size) rfl
    have hbc : Below wr.heap.size wr (wr.alloc (.cells #[.string (strOf k), .string (strOf []), .slice pa 0 pc, .slice (some ⟨bk, okk, none⟩) 1 kc] 48)) := Below.al (Below.refl _ _)
    obtain ⟨wc, hwc⟩ : ∃ x, wr.alloc (.cells #[.string (strOf k), .string (strOf []), .slice pa 0 pc, .slice (some ⟨bk, okk, none⟩) 1 kc] 48) = x := ⟨_, rfl⟩
    rw [hwc] at hxc hbc
    have HB := Lib.hid (below_via hb hbc)
    have HX := Lib.hid (hxc)
    have hwx := hx.lt 0 rfl
    have u1 := hxc.cell 1 1 rfl rfl
    have u2 := hxc.cell 1 2 rfl rfl
    have m0 := hxc.cell 0 0 rfl rfl
    have m1 := hxc.cell 0 1 rfl rfl
    have m2 := hxc.cell 0 2 rfl rfl
    have m3 := hxc.cell 0 3 rfl rfl
    replace e0 := (hbc.cell (p := ⟨bk, okk, none⟩) hbk9).trans e0
    replace e1 := (hbc.cell (p := ⟨bk, okk + 1, none⟩) hbk9).trans e1
    replace e2 := (hbc.cell (p := ⟨bk, okk + 2, none⟩) hbk9).trans e2
    have d0 : decide ((i : Int) < (m : Int)) = true := by simp; omega
    have d0' : decide (i < m) = true := by simp; omega
    clear hxc c0 c1 c2 c3 hg q1
    obtain ⟨F, hF⟩ : ∃ z : Bool, (i == 0) = z := ⟨_, rfl⟩
    have HF := Lib.hid hF
    go_upto_region 9 with (fail)
    go_cut [13] (fun s wq => s = .bool F ∧ wc = wq)
    case first =>
      by_cases h0 : i = 0
      · obtain rfl : true = F := by rw [← hF, h0]; rfl
        have d5 : ((i : Int) == 0) = true := by rw [h0]; rfl
        clear h0 hF
        go_wp2_with fail
        go_meet
        exact ⟨rfl, rfl⟩
      · obtain rfl : false = F := by rw [← hF]; exact (beq_eq_false_iff_ne.2 h0).symm
        have d5 : ((i : Int) == 0) = false := beq_eq_false_iff_ne.2 (by omega)
        clear h0 hF
        go_wp2_with fail
        go_meet
        exact ⟨rfl, rfl⟩
    case rest =>
    obtain ⟨rfl, rfl⟩ := hcut
    clear hF
    go_upto_region 10 with (fail)
    go_cut [143] (fun s wq => s = .bool BAD ∧ Below wc.heap.size wc wq)
    case first =>
      clear hwc v0 v1 v2 v3
      obtain ⟨E, hE⟩ : ∃ z : Bool, (decide (k = [])) = z := ⟨_, rfl⟩
      have HE3 : Hid ((E = true ∧ (strOf k).toList = [] ∧ (strOf k).toList.isEmpty = true) ∨ (E = false ∧ ¬ (strOf k).toList = [] ∧ (strOf k).toList.isEmpty = false)) := Lib.hid (by
        rw [← hE]
        by_cases h : k = []
        · exact .inl ⟨decide_eq_true h, str_empty h⟩
        · exact .inr ⟨decide_eq_false h, str_some h⟩)
      obtain ⟨X1, hX1⟩ : ∃ z : Bool, (F != E) = z := ⟨_, rfl⟩
      have HX1b := Lib.hid hX1
      obtain ⟨kl, hkl0⟩ : ∃ x, k.length = x := ⟨_, rfl⟩
      rw [hkl0] at hsz hkl
      obtain ⟨X2, hX2⟩ : ∃ z : Bool, (decide ((16 : Int) < (kl : Int))) = z := ⟨_, rfl⟩
      have HX2 := Lib.hid hX2
      obtain ⟨A11, hA11⟩ : ∃ z : Bool, ((X1 || X2)) = z := ⟨_, rfl⟩
      have HA11 := Lib.hid hA11
      obtain ⟨P, hP⟩ : ∃ z : Bool, (decide ((0 : Int) < (i : Int))) = z := ⟨_, rfl⟩
      have HPP : Hid ((P = true ∧ decide ((0 : Int) < (i : Int)) = true ∧ decide (0 < i) = true) ∨ (P = false ∧ decide ((0 : Int) < (i : Int)) = false ∧ decide (0 < i) = false)) := Lib.hid (by
        rw [← hP]
        by_cases h : 0 < i
        · exact .inl ⟨decide_eq_true (by omega), decide_eq_true (by omega), decide_eq_true h⟩
        · exact .inr ⟨decide_eq_false (by omega), decide_eq_false (by omega), decide_eq_false h⟩)
      obtain ⟨kp, hkp⟩ : ∃ z, (keysOf l)[i - 1]?.getD [] = z := ⟨_, rfl⟩
      obtain ⟨ip, hip⟩ : ∃ z, i - 1 = z := ⟨_, rfl⟩
      have HPT : Hid (P = true → IntKind.i64.wrap ((i : Int) - 1) = (ip : Int) ∧ (0 : Int) ≤ (ip : Int) ∧ (ip : Int) < (m : Int) ∧ ∀ W, Below wc.heap.size wc W → W.cell? ⟨b, off + ip * 4, none⟩ = some (.string (strOf kp))) := Lib.hid (fun h => by
        have h0 : 0 < i := by
          rw [← hP] at h
          have := of_decide_eq_true h
          omega
        have e9 : (i : Int) - 1 = (ip : Int) := by omega
        refine ⟨by rw [e9]; exact IntWalk.i64_in _ (by omega), by omega, by omega, fun W hW => ?_⟩
        obtain ⟨b7, off7, y7, _, _, _, _, _, _, e7, hbb7, hy7, _, _, _, _, _, c07, _, _, _⟩ := RNodeOn.cell HV.out (show ip < m by omega)
        cases e7
        rw [cellsR_node] at hy7
        obtain ⟨x7, hx71, hx72⟩ := Option.map_eq_some_iff.1 hy7
        subst hx72
        have ek : x7.1 = kp := by rw [← hkp, hip]; simp [keysOf, hx71]
        rw [← ek]
        exact ((below_via HB.out hW).cell (p := ⟨b, off + ip * 4, none⟩) hbb7).trans c07)
      obtain ⟨X3, hX3⟩ : ∃ z : Bool, (!decide (kp < k)) = z := ⟨_, rfl⟩
      have HX3 : Hid ((X3 = true ∧ k = kp ∧ Op.bytesLess (strOf k).toList (strOf k).toList = false ∧ ((strOf k).toList == (strOf k).toList) = true) ∨ (X3 = true ∧ Op.bytesLess (strOf k).toList (strOf kp).toList = true ∧ ((strOf k).toList == (strOf kp).toList) = false ∧ Op.bytesLess (strOf kp).toList (strOf k).toList = false ∧ ((strOf kp).toList == (strOf k).toList) = false) ∨ (X3 = false ∧ Op.bytesLess (strOf k).toList (strOf kp).toList = false ∧ ((strOf k).toList == (strOf kp).toList) = false ∧ ¬ (strOf k).toList = (strOf kp).toList ∧ ¬ (strOf kp).toList = (strOf k).toList)) := Lib.hid (by
        rw [← hX3]
        rcases ktri kp k with h | h | h
        · exact .inr (.inr ⟨by simp [h], (cmp_lt h).2.2.1, (cmp_lt h).2.2.2, (cmp_lt2 h).2, (cmp_lt2 h).1⟩)
        · exact .inl ⟨by simp [h, klt_irrefl], h.symm, cmp_eq k⟩
        · exact .inr (.inl ⟨by simp [klt_asymm h], cmp_lt h⟩))
      obtain ⟨Y3, hY3⟩ : ∃ z : Bool, ((P && X3)) = z := ⟨_, rfl⟩
      have HY3 := Lib.hid hY3
      obtain ⟨A27, hA27⟩ : ∃ z : Bool, ((A11 || Y3)) = z := ⟨_, rfl⟩
      have HA27 := Lib.hid hA27
      obtain ⟨NF, hNF⟩ : ∃ z : Bool, (!F) = z := ⟨_, rfl⟩
      have HNF := Lib.hid hNF
      obtain ⟨X4, hX4⟩ : ∃ z : Bool, (decide (k < lo)) = z := ⟨_, rfl⟩
      have HX4 : Hid ((X4 = true ∧ Op.bytesLess (strOf k).toList (strOf lo).toList = true) ∨ (X4 = false ∧ Op.bytesLess (strOf k).toList (strOf lo).toList = false)) := Lib.hid (by
        rw [← hX4, strOf_toList, strOf_toList, bytes_lessT]
        by_cases h : k < lo
        · exact .inl ⟨decide_eq_true h, decide_eq_true h⟩
        · exact .inr ⟨decide_eq_false h, decide_eq_false h⟩)
      obtain ⟨Y4, hY4⟩ : ∃ z : Bool, ((NF && X4)) = z := ⟨_, rfl⟩
      have HY4 := Lib.hid hY4
      obtain ⟨A37, hA37⟩ : ∃ z : Bool, ((A27 || Y4)) = z := ⟨_, rfl⟩
      have HA37 := Lib.hid hA37
      obtain ⟨Hn, hHn⟩ : ∃ z : Bool, (!decide (hi = [])) = z := ⟨_, rfl⟩
      have HHn : Hid ((Hn = false ∧ (strOf hi).toList = [] ∧ (strOf hi).toList.isEmpty = true) ∨ (Hn = true ∧ ¬ (strOf hi).toList = [] ∧ (strOf hi).toList.isEmpty = false)) := Lib.hid (by
        rw [← hHn]
        by_cases h : hi = []
        · exact .inl ⟨by simp [h], str_empty h⟩
        · exact .inr ⟨by simp [h], str_some h⟩)
      obtain ⟨X5, hX5⟩ : ∃ z : Bool, (!decide (k < hi)) = z := ⟨_, rfl⟩
      have HX5 : Hid ((X5 = true ∧ k = hi ∧ Op.bytesLess (strOf k).toList (strOf k).toList = false ∧ ((strOf k).toList == (strOf k).toList) = true) ∨ (X5 = false ∧ Op.bytesLess (strOf k).toList (strOf hi).toList = true ∧ ((strOf k).toList == (strOf hi).toList) = false ∧ Op.bytesLess (strOf hi).toList (strOf k).toList = false ∧ ((strOf hi).toList == (strOf k).toList) = false) ∨ (X5 = true ∧ Op.bytesLess (strOf hi).toList (strOf k).toList = true ∧ ((strOf hi).toList == (strOf k).toList) = false ∧ Op.bytesLess (strOf k).toList (strOf hi).toList = false ∧ ((strOf k).toList == (strOf hi).toList) = false)) := Lib.hid (by
        rw [← hX5]
        rcases ktri k hi with h | h | h
        · exact .inr (.inl ⟨by simp [h], cmp_lt h⟩)
        · exact .inl ⟨by simp [h, klt_irrefl], h, cmp_eq k⟩
        · exact .inr (.inr ⟨by simp [klt_asymm h], cmp_lt h⟩))
      obtain ⟨Y5, hY5⟩ : ∃ z : Bool, ((Hn && X5)) = z := ⟨_, rfl⟩
      have HY5 := Lib.hid hY5
      obtain ⟨A47, hA47⟩ : ∃ z : Bool, ((A37 || Y5)) = z := ⟨_, rfl⟩
      have HA47 := Lib.hid hA47
      obtain ⟨X6, hX6⟩ : ∃ z : Bool, (decide ((400 : Int) < (0 : Int))) = z := ⟨_, rfl⟩
      have HX6 := Lib.hid hX6
      obtain ⟨A54, hA54⟩ : ∃ z : Bool, ((A47 || X6)) = z := ⟨_, rfl⟩
      have HA54 := Lib.hid hA54
      have hfa : fitAt lo hi false (keysOf l) i = ((F == E) && (!X2 && ((!P || !X3) && ((F || !X4) && (!Hn || !X5))))) := by
        have h9 := fitAt_any (lo := lo) (hi := hi) (leaf := false) (F := F) HKK.out hkp (by rw [Bool.not_false, Bool.and_true]; exact HF.out) hP
        rw [hE, hkl0, hX2, hHn, hX5, hX3, hX4] at h9
        exact h9
      have hx6 : X6 = false := by rw [← hX6]; decide
      have hbo : ∀ (E F X2 P X3 X4 Hn X5 : Bool), (!(((F == E) && (!X2 && ((!P || !X3) && ((F || !X4) && (!Hn || !X5))))) && true)) = ((((((F != E) || X2) || (P && X3)) || (!F && X4)) || (Hn && X5)) || false) := by decide
      have HBD : Hid (BAD = A54) := Lib.hid (by
        rw [HBAD.out, hfa, HVN.out, ← hA54, hx6, ← hA47, ← hY5, ← hA37, ← hY4, ← hNF, ← hA27, ← hY3, ← hA11, ← hX1]
        exact hbo _ _ _ _ _ _ _ _)
      clear hbo
      clear hE hX1 hX2 hA11 hX3 hY3 hA27 hX4 hA37 hHn hX5 hY5 hA47 hX6 hA54 hfa hP hkp hip hx6 hNF hY4
      have T1 : ∀ W, Below wc.heap.size wc W → W.cell? ⟨w.heap.size, 1, none⟩ = some (.bool false) := fun W hW => (HX.out.step hW).cell 1 1 rfl rfl
      have T2 : ∀ W, Below wc.heap.size wc W → W.cell? ⟨w.heap.size, 2, none⟩ = some (.slice (some ⟨b, off, none⟩) m c) := fun W hW => (HX.out.step hW).cell 1 2 rfl rfl
      have M0 : ∀ W, Below wc.heap.size wc W → W.cell? ⟨wr.heap.size, 0, none⟩ = some (.string (strOf k)) := fun W hW => (HX.out.step hW).cell 0 0 rfl rfl
      have M1 : ∀ W, Below wc.heap.size wc W → W.cell? ⟨wr.heap.size, 1, none⟩ = some (.string (strOf [])) := fun W hW => (HX.out.step hW).cell 0 1 rfl rfl
      have M2 : ∀ W, Below wc.heap.size wc W → W.cell? ⟨wr.heap.size, 2, none⟩ = some (.slice pa 0 pc) := fun W hW => (HX.out.step hW).cell 0 2 rfl rfl
      have M3 : ∀ W, Below wc.heap.size wc W → W.cell? ⟨wr.heap.size, 3, none⟩ = some (.slice (some ⟨bk, okk, none⟩) 1 kc) := fun W hW => (HX.out.step hW).cell 0 3 rfl rfl
      clear u1 u2 m0 m1 m2 m3 hx hb
      refine wp_region_noPanic ?_
      refine wp_region_held_drew (S := (fun W => Below wc.heap.size wc W)) (by kernel_rfl) (Below.dr (Below.refl _ _)) (fun hHeld => ?_)
      change wpAnyH _ _ _ _ _ 78 [false, false, false, false, false, false, false, false, false, false, false, false, false, false, false, false, false, false, false, false, false, false, false, false, false, false, false, false, false, false, false, false, false, false, false, false, false, false, false, false, false, false, false, false, false, false, false, false, false, false, false, false, false, false, false, false, false, false, false, false, false, false, false, false, false, false, false, false, false, false, false, false, false, false, false, false, false, false].toArray _ _
      refine wpAnyH_take (i := 0) (oi := { dst := some 66, op := Op.move (Operand.tmp 13), type := 4, pos := "ref.go:171", after := #[], guard := none }) (v := .bool F) rfl (by as_aux_lemma => kernel_rfl) (by as_aux_lemma => kernel_rfl) (by as_aux_lemma => kernel_rfl) (fun _ _ _ h => h) ?_ (by assumption) ?_
      · as_aux_lemma => exact Or.inl ⟨by rfl, by (intro W hW; (try dsimp only at hW); (try simp only [cond_true, cond_false]); go_simp <;> (with_reducible rfl))⟩
      (try simp only [Act.put, List.setIfInBounds_toArray]); (try dsimp only [List.set_cons_zero, List.set_cons_succ])
      refine wpAnyH_take (i := 1) (oi := { dst := some 67, op := Op.fieldAddr 48 (Operand.tmp 12) 0, type := 0, pos := "ref.go:171", after := #[], guard := none }) (v := .pointer (some ⟨wr.heap.size, 0, none⟩)) rfl (by as_aux_lemma => kernel_rfl) (by as_aux_lemma => kernel_rfl) (by as_aux_lemma => kernel_rfl) (fun _ _ _ h => h) ?_ (by assumption) ?_
      · as_aux_lemma => exact Or.inl ⟨by rfl, by (intro W hW; (try dsimp only at hW); (try simp only [cond_true, cond_false]); go_simp <;> (with_reducible rfl))⟩
      (try simp only [Act.put, List.setIfInBounds_toArray]); (try dsimp only [List.set_cons_zero, List.set_cons_succ])
      refine wpAnyH_take (i := 2) (oi := { dst := some 68, op := Op.load 9 (Operand.tmp 67), type := 9, pos := "ref.go:171", after := #[{ on := 1, ground := Ground.data }], guard := none }) (v := .string (strOf k)) rfl (by as_aux_lemma => kernel_rfl) (by as_aux_lemma => kernel_rfl) (by as_aux_lemma => kernel_rfl) (fun _ _ _ h => h) ?_ (by assumption) ?_
      · as_aux_lemma => exact Or.inl ⟨by rfl, by (intro W hW; (try dsimp only at hW); (try simp only [cond_true, cond_false]); go_simp <;> (with_reducible rfl))⟩
      (try simp only [Act.put, List.setIfInBounds_toArray]); (try dsimp only [List.set_cons_zero, List.set_cons_succ])
      refine wpAnyH_take (i := 3) (oi := { dst := some 69, op := Op.binOp BinOp.eql 9 (Operand.tmp 68) (Operand.const (Value.string { data := #[] })) 9, type := 4, pos := "ref.go:171", after := #[{ on := 2, ground := Ground.data }], guard := none }) (v := .bool E) rfl (by as_aux_lemma => kernel_rfl) (by as_aux_lemma => kernel_rfl) (by as_aux_lemma => kernel_rfl) (fun _ _ _ h => h) ?_ (by assumption) ?_
      · as_aux_lemma => exact Or.inl ⟨by rfl, by (intro W hW; (try dsimp only at hW); (try simp only [cond_true, cond_false]); rcases HE3.out with ⟨rfl, e1, e2⟩ | ⟨rfl, e1, e2⟩; all_goals go_simp <;> (with_reducible rfl))⟩
      (try simp only [Act.put, List.setIfInBounds_toArray]); (try dsimp only [List.set_cons_zero, List.set_cons_succ])
      refine wpAnyH_take (i := 4) (oi := { dst := some 70, op := Op.binOp BinOp.neq 4 (Operand.tmp 66) (Operand.tmp 69) 4, type := 4, pos := "ref.go:171", after := #[{ on := 0, ground := Ground.data }, { on := 3, ground := Ground.data }], guard := none }) (v := .bool X1) rfl (by as_aux_lemma => kernel_rfl) (by as_aux_lemma => kernel_rfl) (by as_aux_lemma => kernel_rfl) (fun _ _ _ h => h) ?_ (by assumption) ?_
      · as_aux_lemma => exact Or.inl ⟨by rfl, by (intro W hW; (try dsimp only at hW); (try simp only [cond_true, cond_false]); obtain rfl := HX1b.out; cases E; all_goals go_simp <;> (with_reducible rfl))⟩
      (try simp only [Act.put, List.setIfInBounds_toArray]); (try dsimp only [List.set_cons_zero, List.set_cons_succ])
      refine wpAnyH_take (i := 5) (oi := { dst := some 71, op := Op.move (Operand.tmp 70), type := 4, pos := "ref.go:171", after := #[{ on := 4, ground := Ground.data }], guard := none }) (v := .bool X1) rfl (by as_aux_lemma => kernel_rfl) (by as_aux_lemma => kernel_rfl) (by as_aux_lemma => kernel_rfl) (fun _ _ _ h => h) ?_ (by assumption) ?_
      · as_aux_lemma => exact Or.inl ⟨by rfl, by (intro W hW; (try dsimp only at hW); (try simp only [cond_true, cond_false]); go_simp <;> (with_reducible rfl))⟩
      (try simp only [Act.put, List.setIfInBounds_toArray]); (try dsimp only [List.set_cons_zero, List.set_cons_succ])
      refine wpAnyH_take (i := 6) (oi := { dst := some 72, op := Op.fieldAddr 48 (Operand.tmp 12) 0, type := 0, pos := "ref.go:171", after := #[{ on := 5, ground := Ground.guard }], guard := some (5, false) }) (v := (bif X1 then undef else .pointer (some ⟨wr.heap.size, 0, none⟩))) rfl (by as_aux_lemma => kernel_rfl) (by as_aux_lemma => kernel_rfl) (by as_aux_lemma => kernel_rfl) (fun _ _ _ h => h) ?_ (by assumption) ?_
      · as_aux_lemma => (cases X1 with | true => exact Or.inr ⟨by rfl, rfl⟩ | false => exact Or.inl ⟨by rfl, by (intro W hW; (try dsimp only at hW); (try simp only [cond_true, cond_false]); go_simp <;> (with_reducible rfl))⟩)
      (try simp only [Act.put, List.setIfInBounds_toArray]); (try dsimp only [List.set_cons_zero, List.set_cons_succ])
      refine wpAnyH_take (i := 7) (oi := { dst := some 73, op := Op.load 9 (Operand.tmp 72), type := 9, pos := "ref.go:171", after := #[{ on := 6, ground := Ground.data }, { on := 5, ground := Ground.guard }], guard := some (5, false) }) (v := (bif X1 then undef else .string (strOf k))) rfl (by as_aux_lemma => kernel_rfl) (by as_aux_lemma => kernel_rfl) (by as_aux_lemma => kernel_rfl) (fun _ _ _ h => h) ?_ (by assumption) ?_
      · as_aux_lemma => (cases X1 with | true => exact Or.inr ⟨by rfl, rfl⟩ | false => exact Or.inl ⟨by rfl, by (intro W hW; (try dsimp only at hW); (try simp only [cond_true, cond_false]); go_simp <;> (with_reducible rfl))⟩)
      (try simp only [Act.put, List.setIfInBounds_toArray]); (try dsimp only [List.set_cons_zero, List.set_cons_succ])
      refine wpAnyH_take (i := 8) (oi := { dst := some 74, op := Op.call { callee := Callee.builtin Builtin.len, args := #[Operand.tmp 73], argTypes := #[9] }, type := 3, pos := "ref.go:171", after := #[{ on := 7, ground := Ground.data }, { on := 5, ground := Ground.guard }], guard := some (5, false) }) (v := (bif X1 then undef else .int .i64 (kl : Int))) rfl (by as_aux_lemma => kernel_rfl) (by as_aux_lemma => kernel_rfl) (by as_aux_lemma => kernel_rfl) (fun _ _ _ h => h) ?_ (by assumption) ?_
      · as_aux_lemma => (cases X1 with | true => exact Or.inr ⟨by rfl, rfl⟩ | false => exact Or.inl ⟨by rfl, by (intro W hW; (try dsimp only at hW); (try simp only [cond_true, cond_false]); go_simp <;> (with_reducible rfl))⟩)
      (try simp only [Act.put, List.setIfInBounds_toArray]); (try dsimp only [List.set_cons_zero, List.set_cons_succ])
      refine wpAnyH_take (i := 9) (oi := { dst := some 75, op := Op.binOp BinOp.gtr 3 (Operand.tmp 74) (Operand.const (Value.int IntKind.i64 16)) 3, type := 4, pos := "ref.go:171", after := #[{ on := 8, ground := Ground.data }, { on := 5, ground := Ground.guard }], guard := some (5, false) }) (v := (bif X1 then undef else .bool X2)) rfl (by as_aux_lemma => kernel_rfl) (by as_aux_lemma => kernel_rfl) (by as_aux_lemma => kernel_rfl) (fun _ _ _ h => h) ?_ (by assumption) ?_
      · as_aux_lemma => (cases X1 with | true => exact Or.inr ⟨by rfl, rfl⟩ | false => exact Or.inl ⟨by rfl, by (intro W hW; (try dsimp only at hW); (try simp only [cond_true, cond_false]); obtain rfl := HX2.out; go_simp <;> (with_reducible rfl))⟩)
      (try simp only [Act.put, List.setIfInBounds_toArray]); (try dsimp only [List.set_cons_zero, List.set_cons_succ])
      refine wpAnyH_take (i := 10) (oi := { dst := some 76, op := Op.pick (Operand.tmp 71) (Operand.const (Value.bool true)) (Operand.tmp 75), type := 4, pos := "ref.go:171", after := #[{ on := 5, ground := Ground.data }, { on := 9, ground := Ground.data }], guard := none }) (v := .bool A11) rfl (by as_aux_lemma => kernel_rfl) (by as_aux_lemma => kernel_rfl) (by as_aux_lemma => kernel_rfl) (fun _ _ _ h => h) ?_ (by assumption) ?_
      · as_aux_lemma => exact Or.inl ⟨by rfl, by (intro W hW; (try dsimp only at hW); (try simp only [cond_true, cond_false]); obtain rfl := HA11.out; cases X1; all_goals go_simp <;> (with_reducible rfl))⟩
      (try simp only [Act.put, List.setIfInBounds_toArray]); (try dsimp only [List.set_cons_zero, List.set_cons_succ])
      refine wpAnyH_take (i := 11) (oi := { dst := some 77, op := Op.move (Operand.tmp 76), type := 4, pos := "ref.go:171", after := #[{ on := 10, ground := Ground.data }, { on := 5, ground := Ground.chain }], guard := none }) (v := .bool A11) rfl (by as_aux_lemma => kernel_rfl) (by as_aux_lemma => kernel_rfl) (by as_aux_lemma => kernel_rfl) (fun _ _ _ h => h) ?_ (by assumption) ?_
      · as_aux_lemma => exact Or.inl ⟨by rfl, by (intro W hW; (try dsimp only at hW); (try simp only [cond_true, cond_false]); go_simp <;> (with_reducible rfl))⟩
      (try simp only [Act.put, List.setIfInBounds_toArray]); (try dsimp only [List.set_cons_zero, List.set_cons_succ])
      refine wpAnyH_take (i := 12) (oi := { dst := some 78, op := Op.move (Operand.tmp 11), type := 3, pos := "ref.go:171", after := #[{ on := 11, ground := Ground.guard }], guard := some (11, false) }) (v := (bif A11 then undef else .int .i64 (i : Int))) rfl (by as_aux_lemma => kernel_rfl) (by as_aux_lemma => kernel_rfl) (by as_aux_lemma => kernel_rfl) (fun _ _ _ h => h) ?_ (by assumption) ?_
      · as_aux_lemma => (cases A11 with | true => exact Or.inr ⟨by rfl, rfl⟩ | false => exact Or.inl ⟨by rfl, by (intro W hW; (try dsimp only at hW); (try simp only [cond_true, cond_false]); go_simp <;> (with_reducible rfl))⟩)
      (try simp only [Act.put, List.setIfInBounds_toArray]); (try dsimp only [List.set_cons_zero, List.set_cons_succ])
      refine wpAnyH_take (i := 13) (oi := { dst := some 79, op := Op.binOp BinOp.gtr 3 (Operand.tmp 78) (Operand.const (Value.int IntKind.i64 0)) 3, type := 4, pos := "ref.go:171", after := #[{ on := 12, ground := Ground.data }, { on := 11, ground := Ground.guard }], guard := some (11, false) }) (v := (bif A11 then undef else .bool P)) rfl (by as_aux_lemma => kernel_rfl) (by as_aux_lemma => kernel_rfl) (by as_aux_lemma => kernel_rfl) (fun _ _ _ h => h) ?_ (by assumption) ?_
      · as_aux_lemma => (cases A11 with | true => exact Or.inr ⟨by rfl, rfl⟩ | false => exact Or.inl ⟨by rfl, by (intro W hW; (try dsimp only at hW); (try simp only [cond_true, cond_false]); rcases HPP.out with ⟨rfl, d5, d6⟩ | ⟨rfl, d5, d6⟩; all_goals go_simp <;> (with_reducible rfl))⟩)
      (try simp only [Act.put, List.setIfInBounds_toArray]); (try dsimp only [List.set_cons_zero, List.set_cons_succ])
      refine wpAnyH_take (i := 14) (oi := { dst := some 80, op := Op.move (Operand.tmp 79), type := 4, pos := "ref.go:171", after := #[{ on := 13, ground := Ground.data }, { on := 11, ground := Ground.chain }, { on := 11, ground := Ground.guard }], guard := some (11, false) }) (v := (bif A11 then undef else .bool P)) rfl (by as_aux_lemma => kernel_rfl) (by as_aux_lemma => kernel_rfl) (by as_aux_lemma => kernel_rfl) (fun _ _ _ h => h) ?_ (by assumption) ?_
      · as_aux_lemma => (cases A11 with | true => exact Or.inr ⟨by rfl, rfl⟩ | false => exact Or.inl ⟨by rfl, by (intro W hW; (try dsimp only at hW); (try simp only [cond_true, cond_false]); go_simp <;> (with_reducible rfl))⟩)
      (try simp only [Act.put, List.setIfInBounds_toArray]); (try dsimp only [List.set_cons_zero, List.set_cons_succ])
      refine wpAnyH_take (i := 15) (oi := { dst := some 81, op := Op.fieldAddr 48 (Operand.tmp 12) 0, type := 0, pos := "ref.go:171", after := #[{ on := 14, ground := Ground.guard }], guard := some (14, true) }) (v := (bif A11 then undef else (bif P then .pointer (some ⟨wr.heap.size, 0, none⟩) else undef))) rfl (by as_aux_lemma => kernel_rfl) (by as_aux_lemma => kernel_rfl) (by as_aux_lemma => kernel_rfl) (fun _ _ _ h => h) ?_ (by assumption) ?_
      · as_aux_lemma => (cases A11 with | true => exact Or.inr ⟨by rfl, rfl⟩ | false => (cases P with | true => exact Or.inl ⟨by rfl, by (intro W hW; (try dsimp only at hW); (try simp only [cond_true, cond_false]); go_simp <;> (with_reducible rfl))⟩ | false => exact Or.inr ⟨by rfl, rfl⟩))
      (try simp only [Act.put, List.setIfInBounds_toArray]); (try dsimp only [List.set_cons_zero, List.set_cons_succ])
      refine wpAnyH_take (i := 16) (oi := { dst := some 82, op := Op.load 9 (Operand.tmp 81), type := 9, pos := "ref.go:171", after := #[{ on := 15, ground := Ground.data }, { on := 14, ground := Ground.guard }], guard := some (14, true) }) (v := (bif A11 then undef else (bif P then .string (strOf k) else undef))) rfl (by as_aux_lemma => kernel_rfl) (by as_aux_lemma => kernel_rfl) (by as_aux_lemma => kernel_rfl) (fun _ _ _ h => h) ?_ (by assumption) ?_
      · as_aux_lemma => (cases A11 with | true => exact Or.inr ⟨by rfl, rfl⟩ | false => (cases P with | true => exact Or.inl ⟨by rfl, by (intro W hW; (try dsimp only at hW); (try simp only [cond_true, cond_false]); go_simp <;> (with_reducible rfl))⟩ | false => exact Or.inr ⟨by rfl, rfl⟩))
      (try simp only [Act.put, List.setIfInBounds_toArray]); (try dsimp only [List.set_cons_zero, List.set_cons_succ])
      refine wpAnyH_take (i := 17) (oi := { dst := some 83, op := Op.fieldAddr 26 (Operand.tmp 4) 2, type := 0, pos := "ref.go:171", after := #[{ on := 14, ground := Ground.guard }], guard := some (14, true) }) (v := (bif A11 then undef else (bif P then .pointer (some ⟨w.heap.size, 2, none⟩) else undef))) rfl (by as_aux_lemma => kernel_rfl) (by as_aux_lemma => kernel_rfl) (by as_aux_lemma => kernel_rfl) (fun _ _ _ h => h) ?_ (by assumption) ?_
      · as_aux_lemma => (cases A11 with | true => exact Or.inr ⟨by rfl, rfl⟩ | false => (cases P with | true => exact Or.inl ⟨by rfl, by (intro W hW; (try dsimp only at hW); (try simp only [cond_true, cond_false]); go_simp <;> (with_reducible rfl))⟩ | false => exact Or.inr ⟨by rfl, rfl⟩))
      (try simp only [Act.put, List.setIfInBounds_toArray]); (try dsimp only [List.set_cons_zero, List.set_cons_succ])
      refine wpAnyH_take (i := 18) (oi := { dst := some 84, op := Op.load 24 (Operand.tmp 83), type := 24, pos := "ref.go:171", after := #[{ on := 17, ground := Ground.data }, { on := 14, ground := Ground.guard }], guard := some (14, true) }) (v := (bif A11 then undef else (bif P then .slice (some ⟨b, off, none⟩) m c else undef))) rfl (by as_aux_lemma => kernel_rfl) (by as_aux_lemma => kernel_rfl) (by as_aux_lemma => kernel_rfl) (fun _ _ _ h => h) ?_ (by assumption) ?_
      · as_aux_lemma => (cases A11 with | true => exact Or.inr ⟨by rfl, rfl⟩ | false => (cases P with | true => exact Or.inl ⟨by rfl, by (intro W hW; (try dsimp only at hW); (try simp only [cond_true, cond_false]); go_simp <;> (with_reducible rfl))⟩ | false => exact Or.inr ⟨by rfl, rfl⟩))
      (try simp only [Act.put, List.setIfInBounds_toArray]); (try dsimp only [List.set_cons_zero, List.set_cons_succ])
      refine wpAnyH_take (i := 19) (oi := { dst := some 85, op := Op.move (Operand.tmp 11), type := 3, pos := "ref.go:171", after := #[{ on := 14, ground := Ground.guard }], guard := some (14, true) }) (v := (bif A11 then undef else (bif P then .int .i64 (i : Int) else undef))) rfl (by as_aux_lemma => kernel_rfl) (by as_aux_lemma => kernel_rfl) (by as_aux_lemma => kernel_rfl) (fun _ _ _ h => h) ?_ (by assumption) ?_
      · as_aux_lemma => (cases A11 with | true => exact Or.inr ⟨by rfl, rfl⟩ | false => (cases P with | true => exact Or.inl ⟨by rfl, by (intro W hW; (try dsimp only at hW); (try simp only [cond_true, cond_false]); go_simp <;> (with_reducible rfl))⟩ | false => exact Or.inr ⟨by rfl, rfl⟩))
      (try simp only [Act.put, List.setIfInBounds_toArray]); (try dsimp only [List.set_cons_zero, List.set_cons_succ])
      refine wpAnyH_take (i := 20) (oi := { dst := some 86, op := Op.binOp BinOp.sub 3 (Operand.tmp 85) (Operand.const (Value.int IntKind.i64 1)) 3, type := 3, pos := "ref.go:171", after := #[{ on := 19, ground := Ground.data }, { on := 14, ground := Ground.guard }], guard := some (14, true) }) (v := (bif A11 then undef else (bif P then .int .i64 (ip : Int) else undef))) rfl (by as_aux_lemma => kernel_rfl) (by as_aux_lemma => kernel_rfl) (by as_aux_lemma => kernel_rfl) (fun _ _ _ h => h) ?_ (by assumption) ?_
      · as_aux_lemma => (cases A11 with | true => exact Or.inr ⟨by rfl, rfl⟩ | false => (cases P with | true => exact Or.inl ⟨by rfl, by (intro W hW; (try dsimp only at hW); (try simp only [cond_true, cond_false]); obtain ⟨p1, p2, p3, p4⟩ := HPT.out rfl; go_simp <;> (with_reducible rfl))⟩ | false => exact Or.inr ⟨by rfl, rfl⟩))
      (try simp only [Act.put, List.setIfInBounds_toArray]); (try dsimp only [List.set_cons_zero, List.set_cons_succ])
      refine wpAnyH_take (i := 21) (oi := { dst := some 87, op := Op.indexAddr 24 (Operand.tmp 84) (Operand.tmp 86), type := 0, pos := "ref.go:171", after := #[{ on := 18, ground := Ground.data }, { on := 20, ground := Ground.data }, { on := 14, ground := Ground.guard }], guard := some (14, true) }) (v := (bif A11 then undef else (bif P then .pointer (some ⟨b, off + ip * 4, none⟩) else undef))) rfl (by as_aux_lemma => kernel_rfl) (by as_aux_lemma => kernel_rfl) (by as_aux_lemma => kernel_rfl) (fun _ _ _ h => h) ?_ (by assumption) ?_
      · as_aux_lemma => (cases A11 with | true => exact Or.inr ⟨by rfl, rfl⟩ | false => (cases P with | true => exact Or.inl ⟨by rfl, by (intro W hW; (try dsimp only at hW); (try simp only [cond_true, cond_false]); obtain ⟨p1, p2, p3, p4⟩ := HPT.out rfl; go_simp <;> (with_reducible rfl))⟩ | false => exact Or.inr ⟨by rfl, rfl⟩))
      (try simp only [Act.put, List.setIfInBounds_toArray]); (try dsimp only [List.set_cons_zero, List.set_cons_succ])
      refine wpAnyH_take (i := 22) (oi := { dst := some 88, op := Op.fieldAddr 48 (Operand.tmp 87) 0, type := 0, pos := "ref.go:171", after := #[{ on := 21, ground := Ground.data }, { on := 14, ground := Ground.guard }], guard := some (14, true) }) (v := (bif A11 then undef else (bif P then .pointer (some ⟨b, off + ip * 4, none⟩) else undef))) rfl (by as_aux_lemma => kernel_rfl) (by as_aux_lemma => kernel_rfl) (by as_aux_lemma => kernel_rfl) (fun _ _ _ h => h) ?_ (by assumption) ?_
      · as_aux_lemma => (cases A11 with | true => exact Or.inr ⟨by rfl, rfl⟩ | false => (cases P with | true => exact Or.inl ⟨by rfl, by (intro W hW; (try dsimp only at hW); (try simp only [cond_true, cond_false]); go_simp <;> (with_reducible rfl))⟩ | false => exact Or.inr ⟨by rfl, rfl⟩))
      (try simp only [Act.put, List.setIfInBounds_toArray]); (try dsimp only [List.set_cons_zero, List.set_cons_succ])
      refine wpAnyH_take (i := 23) (oi := { dst := some 89, op := Op.load 9 (Operand.tmp 88), type := 9, pos := "ref.go:171", after := #[{ on := 22, ground := Ground.data }, { on := 14, ground := Ground.guard }], guard := some (14, true) }) (v := (bif A11 then undef else (bif P then .string (strOf kp) else undef))) rfl (by as_aux_lemma => kernel_rfl) (by as_aux_lemma => kernel_rfl) (by as_aux_lemma => kernel_rfl) (fun _ _ _ h => h) ?_ (by assumption) ?_
      · as_aux_lemma => (cases A11 with | true => exact Or.inr ⟨by rfl, rfl⟩ | false => (cases P with | true => exact Or.inl ⟨by rfl, by (intro W hW; (try dsimp only at hW); (try simp only [cond_true, cond_false]); obtain ⟨p1, p2, p3, p4⟩ := HPT.out rfl; have p5 := p4 _ hW; go_simp <;> (with_reducible rfl))⟩ | false => exact Or.inr ⟨by rfl, rfl⟩))
      (try simp only [Act.put, List.setIfInBounds_toArray]); (try dsimp only [List.set_cons_zero, List.set_cons_succ])
      refine wpAnyH_take (i := 24) (oi := { dst := some 90, op := Op.binOp BinOp.leq 9 (Operand.tmp 82) (Operand.tmp 89) 9, type := 4, pos := "ref.go:171", after := #[{ on := 16, ground := Ground.data }, { on := 23, ground := Ground.data }, { on := 14, ground := Ground.guard }], guard := some (14, true) }) (v := (bif A11 then undef else (bif P then .bool X3 else undef))) rfl (by as_aux_lemma => kernel_rfl) (by as_aux_lemma => kernel_rfl) (by as_aux_lemma => kernel_rfl) (fun _ _ _ h => h) ?_ (by assumption) ?_
      · as_aux_lemma => (cases A11 with | true => exact Or.inr ⟨by rfl, rfl⟩ | false => (cases P with | true => exact Or.inl ⟨by rfl, by (intro W hW; (try dsimp only at hW); (try simp only [cond_true, cond_false]); rcases HX3.out with ⟨rfl, rfl, p1, p2⟩ | ⟨rfl, p1, p2, p3, p4⟩ | ⟨rfl, p1, p2, p3, p4⟩; all_goals go_simp <;> (with_reducible rfl))⟩ | false => exact Or.inr ⟨by rfl, rfl⟩))
      (try simp only [Act.put, List.setIfInBounds_toArray]); (try dsimp only [List.set_cons_zero, List.set_cons_succ])
      refine wpAnyH_take (i := 25) (oi := { dst := some 91, op := Op.pick (Operand.tmp 80) (Operand.tmp 90) (Operand.const (Value.bool false)), type := 4, pos := "ref.go:171", after := #[{ on := 14, ground := Ground.data }, { on := 24, ground := Ground.data }, { on := 11, ground := Ground.guard }], guard := some (11, false) }) (v := (bif A11 then undef else .bool Y3)) rfl (by as_aux_lemma => kernel_rfl) (by as_aux_lemma => kernel_rfl) (by as_aux_lemma => kernel_rfl) (fun _ _ _ h => h) ?_ (by assumption) ?_
      · as_aux_lemma => (cases A11 with | true => exact Or.inr ⟨by rfl, rfl⟩ | false => exact Or.inl ⟨by rfl, by (intro W hW; (try dsimp only at hW); (try simp only [cond_true, cond_false]); obtain rfl := HY3.out; cases P; all_goals go_simp <;> (with_reducible rfl))⟩)
      (try simp only [Act.put, List.setIfInBounds_toArray]); (try dsimp only [List.set_cons_zero, List.set_cons_succ])
      refine wpAnyH_take (i := 26) (oi := { dst := some 92, op := Op.pick (Operand.tmp 77) (Operand.const (Value.bool true)) (Operand.tmp 91), type := 4, pos := "ref.go:171", after := #[{ on := 11, ground := Ground.data }, { on := 25, ground := Ground.data }], guard := none }) (v := .bool A27) rfl (by as_aux_lemma => kernel_rfl) (by as_aux_lemma => kernel_rfl) (by as_aux_lemma => kernel_rfl) (fun _ _ _ h => h) ?_ (by assumption) ?_
      · as_aux_lemma => exact Or.inl ⟨by rfl, by (intro W hW; (try dsimp only at hW); (try simp only [cond_true, cond_false]); obtain rfl := HA27.out; cases A11; all_goals go_simp <;> (with_reducible rfl))⟩
      (try simp only [Act.put, List.setIfInBounds_toArray]); (try dsimp only [List.set_cons_zero, List.set_cons_succ])
      refine wpAnyH_take (i := 27) (oi := { dst := some 93, op := Op.move (Operand.tmp 92), type := 4, pos := "ref.go:171", after := #[{ on := 26, ground := Ground.data }, { on := 14, ground := Ground.chain }], guard := none }) (v := .bool A27) rfl (by as_aux_lemma => kernel_rfl) (by as_aux_lemma => kernel_rfl) (by as_aux_lemma => kernel_rfl) (fun _ _ _ h => h) ?_ (by assumption) ?_
      · as_aux_lemma => exact Or.inl ⟨by rfl, by (intro W hW; (try dsimp only at hW); (try simp only [cond_true, cond_false]); go_simp <;> (with_reducible rfl))⟩
      (try simp only [Act.put, List.setIfInBounds_toArray]); (try dsimp only [List.set_cons_zero, List.set_cons_succ])
      refine wpAnyH_take (i := 28) (oi := { dst := some 94, op := Op.move (Operand.tmp 13), type := 4, pos := "ref.go:171", after := #[{ on := 27, ground := Ground.guard }], guard := some (27, false) }) (v := (bif A27 then undef else .bool F)) rfl (by as_aux_lemma => kernel_rfl) (by as_aux_lemma => kernel_rfl) (by as_aux_lemma => kernel_rfl) (fun _ _ _ h => h) ?_ (by assumption) ?_
      · as_aux_lemma => (cases A27 with | true => exact Or.inr ⟨by rfl, rfl⟩ | false => exact Or.inl ⟨by rfl, by (intro W hW; (try dsimp only at hW); (try simp only [cond_true, cond_false]); go_simp <;> (with_reducible rfl))⟩)
      (try simp only [Act.put, List.setIfInBounds_toArray]); (try dsimp only [List.set_cons_zero, List.set_cons_succ])
      refine wpAnyH_take (i := 29) (oi := { dst := some 95, op := Op.unOp UnOp.not 4 (Operand.tmp 94), type := 4, pos := "ref.go:171", after := #[{ on := 28, ground := Ground.data }, { on := 27, ground := Ground.guard }], guard := some (27, false) }) (v := (bif A27 then undef else .bool NF)) rfl (by as_aux_lemma => kernel_rfl) (by as_aux_lemma => kernel_rfl) (by as_aux_lemma => kernel_rfl) (fun _ _ _ h => h) ?_ (by assumption) ?_
      · as_aux_lemma => (cases A27 with | true => exact Or.inr ⟨by rfl, rfl⟩ | false => exact Or.inl ⟨by rfl, by (intro W hW; (try dsimp only at hW); (try simp only [cond_true, cond_false]); obtain rfl := HNF.out; cases F; all_goals go_simp <;> (with_reducible rfl))⟩)
      (try simp only [Act.put, List.setIfInBounds_toArray]); (try dsimp only [List.set_cons_zero, List.set_cons_succ])
      refine wpAnyH_take (i := 30) (oi := { dst := some 96, op := Op.move (Operand.tmp 95), type := 4, pos := "ref.go:171", after := #[{ on := 29, ground := Ground.data }, { on := 27, ground := Ground.chain }, { on := 27, ground := Ground.guard }], guard := some (27, false) }) (v := (bif A27 then undef else .bool NF)) rfl (by as_aux_lemma => kernel_rfl) (by as_aux_lemma => kernel_rfl) (by as_aux_lemma => kernel_rfl) (fun _ _ _ h => h) ?_ (by assumption) ?_
      · as_aux_lemma => (cases A27 with | true => exact Or.inr ⟨by rfl, rfl⟩ | false => exact Or.inl ⟨by rfl, by (intro W hW; (try dsimp only at hW); (try simp only [cond_true, cond_false]); go_simp <;> (with_reducible rfl))⟩)
      (try simp only [Act.put, List.setIfInBounds_toArray]); (try dsimp only [List.set_cons_zero, List.set_cons_succ])
      refine wpAnyH_take (i := 31) (oi := { dst := some 97, op := Op.fieldAddr 48 (Operand.tmp 12) 0, type := 0, pos := "ref.go:171", after := #[{ on := 30, ground := Ground.guard }], guard := some (30, true) }) (v := (bif A27 then undef else (bif NF then .pointer (some ⟨wr.heap.size, 0, none⟩) else undef))) rfl (by as_aux_lemma => kernel_rfl) (by as_aux_lemma => kernel_rfl) (by as_aux_lemma => kernel_rfl) (fun _ _ _ h => h) ?_ (by assumption) ?_
      · as_aux_lemma => (cases A27 with | true => exact Or.inr ⟨by rfl, rfl⟩ | false => (cases NF with | true => exact Or.inl ⟨by rfl, by (intro W hW; (try dsimp only at hW); (try simp only [cond_true, cond_false]); go_simp <;> (with_reducible rfl))⟩ | false => exact Or.inr ⟨by rfl, rfl⟩))
      (try simp only [Act.put, List.setIfInBounds_toArray]); (try dsimp only [List.set_cons_zero, List.set_cons_succ])
      refine wpAnyH_take (i := 32) (oi := { dst := some 98, op := Op.load 9 (Operand.tmp 97), type := 9, pos := "ref.go:171", after := #[{ on := 31, ground := Ground.data }, { on := 30, ground := Ground.guard }], guard := some (30, true) }) (v := (bif A27 then undef else (bif NF then .string (strOf k) else undef))) rfl (by as_aux_lemma => kernel_rfl) (by as_aux_lemma => kernel_rfl) (by as_aux_lemma => kernel_rfl) (fun _ _ _ h => h) ?_ (by assumption) ?_
      · as_aux_lemma => (cases A27 with | true => exact Or.inr ⟨by rfl, rfl⟩ | false => (cases NF with | true => exact Or.inl ⟨by rfl, by (intro W hW; (try dsimp only at hW); (try simp only [cond_true, cond_false]); go_simp <;> (with_reducible rfl))⟩ | false => exact Or.inr ⟨by rfl, rfl⟩))
      (try simp only [Act.put, List.setIfInBounds_toArray]); (try dsimp only [List.set_cons_zero, List.set_cons_succ])
      refine wpAnyH_take (i := 33) (oi := { dst := some 99, op := Op.move (Operand.tmp 1), type := 9, pos := "ref.go:171", after := #[{ on := 30, ground := Ground.guard }], guard := some (30, true) }) (v := (bif A27 then undef else (bif NF then .string (strOf lo) else undef))) rfl (by as_aux_lemma => kernel_rfl) (by as_aux_lemma => kernel_rfl) (by as_aux_lemma => kernel_rfl) (fun _ _ _ h => h) ?_ (by assumption) ?_
      · as_aux_lemma => (cases A27 with | true => exact Or.inr ⟨by rfl, rfl⟩ | false => (cases NF with | true => exact Or.inl ⟨by rfl, by (intro W hW; (try dsimp only at hW); (try simp only [cond_true, cond_false]); go_simp <;> (with_reducible rfl))⟩ | false => exact Or.inr ⟨by rfl, rfl⟩))
      (try simp only [Act.put, List.setIfInBounds_toArray]); (try dsimp only [List.set_cons_zero, List.set_cons_succ])
      refine wpAnyH_take (i := 34) (oi := { dst := some 100, op := Op.binOp BinOp.lss 9 (Operand.tmp 98) (Operand.tmp 99) 9, type := 4, pos := "ref.go:171", after := #[{ on := 32, ground := Ground.data }, { on := 33, ground := Ground.data }, { on := 30, ground := Ground.guard }], guard := some (30, true) }) (v := (bif A27 then undef else (bif NF then .bool X4 else undef))) rfl (by as_aux_lemma => kernel_rfl) (by as_aux_lemma => kernel_rfl) (by as_aux_lemma => kernel_rfl) (fun _ _ _ h => h) ?_ (by assumption) ?_
      · as_aux_lemma => (cases A27 with | true => exact Or.inr ⟨by rfl, rfl⟩ | false => (cases NF with | true => exact Or.inl ⟨by rfl, by (intro W hW; (try dsimp only at hW); (try simp only [cond_true, cond_false]); rcases HX4.out with ⟨rfl, p1⟩ | ⟨rfl, p1⟩; all_goals go_simp <;> (with_reducible rfl))⟩ | false => exact Or.inr ⟨by rfl, rfl⟩))
      (try simp only [Act.put, List.setIfInBounds_toArray]); (try dsimp only [List.set_cons_zero, List.set_cons_succ])
      refine wpAnyH_take (i := 35) (oi := { dst := some 101, op := Op.pick (Operand.tmp 96) (Operand.tmp 100) (Operand.const (Value.bool false)), type := 4, pos := "ref.go:171", after := #[{ on := 30, ground := Ground.data }, { on := 34, ground := Ground.data }, { on := 27, ground := Ground.guard }], guard := some (27, false) }) (v := (bif A27 then undef else .bool Y4)) rfl (by as_aux_lemma => kernel_rfl) (by as_aux_lemma => kernel_rfl) (by as_aux_lemma => kernel_rfl) (fun _ _ _ h => h) ?_ (by assumption) ?_
      · as_aux_lemma => (cases A27 with | true => exact Or.inr ⟨by rfl, rfl⟩ | false => exact Or.inl ⟨by rfl, by (intro W hW; (try dsimp only at hW); (try simp only [cond_true, cond_false]); obtain rfl := HY4.out; cases NF; all_goals go_simp <;> (with_reducible rfl))⟩)
      (try simp only [Act.put, List.setIfInBounds_toArray]); (try dsimp only [List.set_cons_zero, List.set_cons_succ])
      refine wpAnyH_take (i := 36) (oi := { dst := some 102, op := Op.pick (Operand.tmp 93) (Operand.const (Value.bool true)) (Operand.tmp 101), type := 4, pos := "ref.go:171", after := #[{ on := 27, ground := Ground.data }, { on := 35, ground := Ground.data }], guard := none }) (v := .bool A37) rfl (by as_aux_lemma => kernel_rfl) (by as_aux_lemma => kernel_rfl) (by as_aux_lemma => kernel_rfl) (fun _ _ _ h => h) ?_ (by assumption) ?_
      · as_aux_lemma => exact Or.inl ⟨by rfl, by (intro W hW; (try dsimp only at hW); (try simp only [cond_true, cond_false]); obtain rfl := HA37.out; cases A27; all_goals go_simp <;> (with_reducible rfl))⟩
      (try simp only [Act.put, List.setIfInBounds_toArray]); (try dsimp only [List.set_cons_zero, List.set_cons_succ])
      refine wpAnyH_take (i := 37) (oi := { dst := some 103, op := Op.move (Operand.tmp 102), type := 4, pos := "ref.go:171", after := #[{ on := 36, ground := Ground.data }, { on := 30, ground := Ground.chain }], guard := none }) (v := .bool A37) rfl (by as_aux_lemma => kernel_rfl) (by as_aux_lemma => kernel_rfl) (by as_aux_lemma => kernel_rfl) (fun _ _ _ h => h) ?_ (by assumption) ?_
      · as_aux_lemma => exact Or.inl ⟨by rfl, by (intro W hW; (try dsimp only at hW); (try simp only [cond_true, cond_false]); go_simp <;> (with_reducible rfl))⟩
      (try simp only [Act.put, List.setIfInBounds_toArray]); (try dsimp only [List.set_cons_zero, List.set_cons_succ])
      refine wpAnyH_take (i := 38) (oi := { dst := some 104, op := Op.move (Operand.tmp 2), type := 9, pos := "ref.go:171", after := #[{ on := 37, ground := Ground.guard }], guard := some (37, false) }) (v := (bif A37 then undef else .string (strOf hi))) rfl (by as_aux_lemma => kernel_rfl) (by as_aux_lemma => kernel_rfl) (by as_aux_lemma => kernel_rfl) (fun _ _ _ h => h) ?_ (by assumption) ?_
      · as_aux_lemma => (cases A37 with | true => exact Or.inr ⟨by rfl, rfl⟩ | false => exact Or.inl ⟨by rfl, by (intro W hW; (try dsimp only at hW); (try simp only [cond_true, cond_false]); go_simp <;> (with_reducible rfl))⟩)
      (try simp only [Act.put, List.setIfInBounds_toArray]); (try dsimp only [List.set_cons_zero, List.set_cons_succ])
      refine wpAnyH_take (i := 39) (oi := { dst := some 105, op := Op.binOp BinOp.neq 9 (Operand.tmp 104) (Operand.const (Value.string { data := #[] })) 9, type := 4, pos := "ref.go:171", after := #[{ on := 38, ground := Ground.data }, { on := 37, ground := Ground.guard }], guard := some (37, false) }) (v := (bif A37 then undef else .bool Hn)) rfl (by as_aux_lemma => kernel_rfl) (by as_aux_lemma => kernel_rfl) (by as_aux_lemma => kernel_rfl) (fun _ _ _ h => h) ?_ (by assumption) ?_
      · as_aux_lemma => (cases A37 with | true => exact Or.inr ⟨by rfl, rfl⟩ | false => exact Or.inl ⟨by rfl, by (intro W hW; (try dsimp only at hW); (try simp only [cond_true, cond_false]); rcases HHn.out with ⟨rfl, e1, e2⟩ | ⟨rfl, e1, e2⟩; all_goals go_simp <;> (with_reducible rfl))⟩)
      (try simp only [Act.put, List.setIfInBounds_toArray]); (try dsimp only [List.set_cons_zero, List.set_cons_succ])
      refine wpAnyH_take (i := 40) (oi := { dst := some 106, op := Op.move (Operand.tmp 105), type := 4, pos := "ref.go:171", after := #[{ on := 39, ground := Ground.data }, { on := 37, ground := Ground.chain }, { on := 37, ground := Ground.guard }], guard := some (37, false) }) (v := (bif A37 then undef else .bool Hn)) rfl (by as_aux_lemma => kernel_rfl) (by as_aux_lemma => kernel_rfl) (by as_aux_lemma => kernel_rfl) (fun _ _ _ h => h) ?_ (by assumption) ?_
      · as_aux_lemma => (cases A37 with | true => exact Or.inr ⟨by rfl, rfl⟩ | false => exact Or.inl ⟨by rfl, by (intro W hW; (try dsimp only at hW); (try simp only [cond_true, cond_false]); go_simp <;> (with_reducible rfl))⟩)
      (try simp only [Act.put, List.setIfInBounds_toArray]); (try dsimp only [List.set_cons_zero, List.set_cons_succ])
      refine wpAnyH_take (i := 41) (oi := { dst := some 107, op := Op.fieldAddr 48 (Operand.tmp 12) 0, type := 0, pos := "ref.go:171", after := #[{ on := 40, ground := Ground.guard }], guard := some (40, true) }) (v := (bif A37 then undef else (bif Hn then .pointer (some ⟨wr.heap.size, 0, none⟩) else undef))) rfl (by as_aux_lemma => kernel_rfl) (by as_aux_lemma => kernel_rfl) (by as_aux_lemma => kernel_rfl) (fun _ _ _ h => h) ?_ (by assumption) ?_
      · as_aux_lemma => (cases A37 with | true => exact Or.inr ⟨by rfl, rfl⟩ | false => (cases Hn with | true => exact Or.inl ⟨by rfl, by (intro W hW; (try dsimp only at hW); (try simp only [cond_true, cond_false]); go_simp <;> (with_reducible rfl))⟩ | false => exact Or.inr ⟨by rfl, rfl⟩))
      (try simp only [Act.put, List.setIfInBounds_toArray]); (try dsimp only [List.set_cons_zero, List.set_cons_succ])
      refine wpAnyH_take (i := 42) (oi := { dst := some 108, op := Op.load 9 (Operand.tmp 107), type := 9, pos := "ref.go:171", after := #[{ on := 41, ground := Ground.data }, { on := 40, ground := Ground.guard }], guard := some (40, true) }) (v := (bif A37 then undef else (bif Hn then .string (strOf k) else undef))) rfl (by as_aux_lemma => kernel_rfl) (by as_aux_lemma => kernel_rfl) (by as_aux_lemma => kernel_rfl) (fun _ _ _ h => h) ?_ (by assumption) ?_
      · as_aux_lemma => (cases A37 with | true => exact Or.inr ⟨by rfl, rfl⟩ | false => (cases Hn with | true => exact Or.inl ⟨by rfl, by (intro W hW; (try dsimp only at hW); (try simp only [cond_true, cond_false]); go_simp <;> (with_reducible rfl))⟩ | false => exact Or.inr ⟨by rfl, rfl⟩))
      (try simp only [Act.put, List.setIfInBounds_toArray]); (try dsimp only [List.set_cons_zero, List.set_cons_succ])
      refine wpAnyH_take (i := 43) (oi := { dst := some 109, op := Op.move (Operand.tmp 2), type := 9, pos := "ref.go:171", after := #[{ on := 40, ground := Ground.guard }], guard := some (40, true) }) (v := (bif A37 then undef else (bif Hn then .string (strOf hi) else undef))) rfl (by as_aux_lemma => kernel_rfl) (by as_aux_lemma => kernel_rfl) (by as_aux_lemma => kernel_rfl) (fun _ _ _ h => h) ?_ (by assumption) ?_
      · as_aux_lemma => (cases A37 with | true => exact Or.inr ⟨by rfl, rfl⟩ | false => (cases Hn with | true => exact Or.inl ⟨by rfl, by (intro W hW; (try dsimp only at hW); (try simp only [cond_true, cond_false]); go_simp <;> (with_reducible rfl))⟩ | false => exact Or.inr ⟨by rfl, rfl⟩))
      (try simp only [Act.put, List.setIfInBounds_toArray]); (try dsimp only [List.set_cons_zero, List.set_cons_succ])
      refine wpAnyH_take (i := 44) (oi := { dst := some 110, op := Op.binOp BinOp.geq 9 (Operand.tmp 108) (Operand.tmp 109) 9, type := 4, pos := "ref.go:171", after := #[{ on := 42, ground := Ground.data }, { on := 43, ground := Ground.data }, { on := 40, ground := Ground.guard }], guard := some (40, true) }) (v := (bif A37 then undef else (bif Hn then .bool X5 else undef))) rfl (by as_aux_lemma => kernel_rfl) (by as_aux_lemma => kernel_rfl) (by as_aux_lemma => kernel_rfl) (fun _ _ _ h => h) ?_ (by assumption) ?_
      · as_aux_lemma => (cases A37 with | true => exact Or.inr ⟨by rfl, rfl⟩ | false => (cases Hn with | true => exact Or.inl ⟨by rfl, by (intro W hW; (try dsimp only at hW); (try simp only [cond_true, cond_false]); rcases HX5.out with ⟨rfl, rfl, p1, p2⟩ | ⟨rfl, p1, p2, p3, p4⟩ | ⟨rfl, p1, p2, p3, p4⟩; all_goals go_simp <;> (with_reducible rfl))⟩ | false => exact Or.inr ⟨by rfl, rfl⟩))
      (try simp only [Act.put, List.setIfInBounds_toArray]); (try dsimp only [List.set_cons_zero, List.set_cons_succ])
      refine wpAnyH_take (i := 45) (oi := { dst := some 111, op := Op.pick (Operand.tmp 106) (Operand.tmp 110) (Operand.const (Value.bool false)), type := 4, pos := "ref.go:171", after := #[{ on := 40, ground := Ground.data }, { on := 44, ground := Ground.data }, { on := 37, ground := Ground.guard }], guard := some (37, false) }) (v := (bif A37 then undef else .bool Y5)) rfl (by as_aux_lemma => kernel_rfl) (by as_aux_lemma => kernel_rfl) (by as_aux_lemma => kernel_rfl) (fun _ _ _ h => h) ?_ (by assumption) ?_
      · as_aux_lemma => (cases A37 with | true => exact Or.inr ⟨by rfl, rfl⟩ | false => exact Or.inl ⟨by rfl, by (intro W hW; (try dsimp only at hW); (try simp only [cond_true, cond_false]); obtain rfl := HY5.out; cases Hn; all_goals go_simp <;> (with_reducible rfl))⟩)
      (try simp only [Act.put, List.setIfInBounds_toArray]); (try dsimp only [List.set_cons_zero, List.set_cons_succ])
      refine wpAnyH_take (i := 46) (oi := { dst := some 112, op := Op.pick (Operand.tmp 103) (Operand.const (Value.bool true)) (Operand.tmp 111), type := 4, pos := "ref.go:171", after := #[{ on := 37, ground := Ground.data }, { on := 45, ground := Ground.data }], guard := none }) (v := .bool A47) rfl (by as_aux_lemma => kernel_rfl) (by as_aux_lemma => kernel_rfl) (by as_aux_lemma => kernel_rfl) (fun _ _ _ h => h) ?_ (by assumption) ?_
      · as_aux_lemma => exact Or.inl ⟨by rfl, by (intro W hW; (try dsimp only at hW); (try simp only [cond_true, cond_false]); obtain rfl := HA47.out; cases A37; all_goals go_simp <;> (with_reducible rfl))⟩
      (try simp only [Act.put, List.setIfInBounds_toArray]); (try dsimp only [List.set_cons_zero, List.set_cons_succ])
      refine wpAnyH_take (i := 47) (oi := { dst := some 113, op := Op.move (Operand.tmp 112), type := 4, pos := "ref.go:171", after := #[{ on := 46, ground := Ground.data }, { on := 40, ground := Ground.chain }], guard := none }) (v := .bool A47) rfl (by as_aux_lemma => kernel_rfl) (by as_aux_lemma => kernel_rfl) (by as_aux_lemma => kernel_rfl) (fun _ _ _ h => h) ?_ (by assumption) ?_
      · as_aux_lemma => exact Or.inl ⟨by rfl, by (intro W hW; (try dsimp only at hW); (try simp only [cond_true, cond_false]); go_simp <;> (with_reducible rfl))⟩
      (try simp only [Act.put, List.setIfInBounds_toArray]); (try dsimp only [List.set_cons_zero, List.set_cons_succ])
      refine wpAnyH_take (i := 48) (oi := { dst := some 114, op := Op.fieldAddr 48 (Operand.tmp 12) 1, type := 0, pos := "ref.go:171", after := #[{ on := 47, ground := Ground.guard }], guard := some (47, false) }) (v := (bif A47 then undef else .pointer (some ⟨wr.heap.size, 1, none⟩))) rfl (by as_aux_lemma => kernel_rfl) (by as_aux_lemma => kernel_rfl) (by as_aux_lemma => kernel_rfl) (fun _ _ _ h => h) ?_ (by assumption) ?_
      · as_aux_lemma => (cases A47 with | true => exact Or.inr ⟨by rfl, rfl⟩ | false => exact Or.inl ⟨by rfl, by (intro W hW; (try dsimp only at hW); (try simp only [cond_true, cond_false]); go_simp <;> (with_reducible rfl))⟩)
      (try simp only [Act.put, List.setIfInBounds_toArray]); (try dsimp only [List.set_cons_zero, List.set_cons_succ])
      refine wpAnyH_take (i := 49) (oi := { dst := some 115, op := Op.fieldAddr 45 (Operand.tmp 114) 0, type := 0, pos := "ref.go:171", after := #[{ on := 48, ground := Ground.data }, { on := 47, ground := Ground.guard }], guard := some (47, false) }) (v := (bif A47 then undef else .pointer (some ⟨wr.heap.size, 1, none⟩))) rfl (by as_aux_lemma => kernel_rfl) (by as_aux_lemma => kernel_rfl) (by as_aux_lemma => kernel_rfl) (fun _ _ _ h => h) ?_ (by assumption) ?_
      · as_aux_lemma => (cases A47 with | true => exact Or.inr ⟨by rfl, rfl⟩ | false => exact Or.inl ⟨by rfl, by (intro W hW; (try dsimp only at hW); (try simp only [cond_true, cond_false]); go_simp <;> (with_reducible rfl))⟩)
      (try simp only [Act.put, List.setIfInBounds_toArray]); (try dsimp only [List.set_cons_zero, List.set_cons_succ])
      refine wpAnyH_take (i := 50) (oi := { dst := some 116, op := Op.load 9 (Operand.tmp 115), type := 9, pos := "ref.go:171", after := #[{ on := 49, ground := Ground.data }, { on := 47, ground := Ground.guard }], guard := some (47, false) }) (v := (bif A47 then undef else .string (strOf []))) rfl (by as_aux_lemma => kernel_rfl) (by as_aux_lemma => kernel_rfl) (by as_aux_lemma => kernel_rfl) (fun _ _ _ h => h) ?_ (by assumption) ?_
      · as_aux_lemma => (cases A47 with | true => exact Or.inr ⟨by rfl, rfl⟩ | false => exact Or.inl ⟨by rfl, by (intro W hW; (try dsimp only at hW); (try simp only [cond_true, cond_false]); go_simp <;> (with_reducible rfl))⟩)
      (try simp only [Act.put, List.setIfInBounds_toArray]); (try dsimp only [List.set_cons_zero, List.set_cons_succ])
      refine wpAnyH_take (i := 51) (oi := { dst := some 117, op := Op.call { callee := Callee.builtin Builtin.len, args := #[Operand.tmp 116], argTypes := #[9] }, type := 3, pos := "ref.go:171", after := #[{ on := 50, ground := Ground.data }, { on := 47, ground := Ground.guard }], guard := some (47, false) }) (v := (bif A47 then undef else .int .i64 0)) rfl (by as_aux_lemma => kernel_rfl) (by as_aux_lemma => kernel_rfl) (by as_aux_lemma => kernel_rfl) (fun _ _ _ h => h) ?_ (by assumption) ?_
      · as_aux_lemma => (cases A47 with | true => exact Or.inr ⟨by rfl, rfl⟩ | false => exact Or.inl ⟨by rfl, by (intro W hW; (try dsimp only at hW); (try simp only [cond_true, cond_false]); go_simp <;> (with_reducible rfl))⟩)
      (try simp only [Act.put, List.setIfInBounds_toArray]); (try dsimp only [List.set_cons_zero, List.set_cons_succ])
      refine wpAnyH_take (i := 52) (oi := { dst := some 118, op := Op.binOp BinOp.gtr 3 (Operand.tmp 117) (Operand.const (Value.int IntKind.i64 400)) 3, type := 4, pos := "ref.go:171", after := #[{ on := 51, ground := Ground.data }, { on := 47, ground := Ground.guard }], guard := some (47, false) }) (v := (bif A47 then undef else .bool X6)) rfl (by as_aux_lemma => kernel_rfl) (by as_aux_lemma => kernel_rfl) (by as_aux_lemma => kernel_rfl) (fun _ _ _ h => h) ?_ (by assumption) ?_
      · as_aux_lemma => (cases A47 with | true => exact Or.inr ⟨by rfl, rfl⟩ | false => exact Or.inl ⟨by rfl, by (intro W hW; (try dsimp only at hW); (try simp only [cond_true, cond_false]); obtain rfl := HX6.out; go_simp <;> (with_reducible rfl))⟩)
      (try simp only [Act.put, List.setIfInBounds_toArray]); (try dsimp only [List.set_cons_zero, List.set_cons_succ])
      refine wpAnyH_take (i := 53) (oi := { dst := some 119, op := Op.pick (Operand.tmp 113) (Operand.const (Value.bool true)) (Operand.tmp 118), type := 4, pos := "ref.go:171", after := #[{ on := 47, ground := Ground.data }, { on := 52, ground := Ground.data }], guard := none }) (v := .bool A54) rfl (by as_aux_lemma => kernel_rfl) (by as_aux_lemma => kernel_rfl) (by as_aux_lemma => kernel_rfl) (fun _ _ _ h => h) ?_ (by assumption) ?_
      · as_aux_lemma => exact Or.inl ⟨by rfl, by (intro W hW; (try dsimp only at hW); (try simp only [cond_true, cond_false]); obtain rfl := HA54.out; cases A47; all_goals go_simp <;> (with_reducible rfl))⟩
      (try simp only [Act.put, List.setIfInBounds_toArray]); (try dsimp only [List.set_cons_zero, List.set_cons_succ])
      refine wpAnyH_take (i := 54) (oi := { dst := some 120, op := Op.move (Operand.tmp 119), type := 4, pos := "ref.go:171", after := #[{ on := 53, ground := Ground.data }, { on := 47, ground := Ground.chain }], guard := none }) (v := .bool A54) rfl (by as_aux_lemma => kernel_rfl) (by as_aux_lemma => kernel_rfl) (by as_aux_lemma => kernel_rfl) (fun _ _ _ h => h) ?_ (by assumption) ?_
      · as_aux_lemma => exact Or.inl ⟨by rfl, by (intro W hW; (try dsimp only at hW); (try simp only [cond_true, cond_false]); go_simp <;> (with_reducible rfl))⟩
      (try simp only [Act.put, List.setIfInBounds_toArray]); (try dsimp only [List.set_cons_zero, List.set_cons_succ])
      refine wpAnyH_take (i := 55) (oi := { dst := some 121, op := Op.fieldAddr 48 (Operand.tmp 12) 1, type := 0, pos := "ref.go:171", after := #[{ on := 54, ground := Ground.guard }], guard := some (54, false) }) (v := (bif A54 then undef else .pointer (some ⟨wr.heap.size, 1, none⟩))) rfl (by as_aux_lemma => kernel_rfl) (by as_aux_lemma => kernel_rfl) (by as_aux_lemma => kernel_rfl) (fun _ _ _ h => h) ?_ (by assumption) ?_
      · as_aux_lemma => (cases A54 with | true => exact Or.inr ⟨by rfl, rfl⟩ | false => exact Or.inl ⟨by rfl, by (intro W hW; (try dsimp only at hW); (try simp only [cond_true, cond_false]); go_simp <;> (with_reducible rfl))⟩)
      (try simp only [Act.put, List.setIfInBounds_toArray]); (try dsimp only [List.set_cons_zero, List.set_cons_succ])
      refine wpAnyH_take (i := 56) (oi := { dst := some 122, op := Op.fieldAddr 45 (Operand.tmp 121) 1, type := 0, pos := "ref.go:171", after := #[{ on := 55, ground := Ground.data }, { on := 54, ground := Ground.guard }], guard := some (54, false) }) (v := (bif A54 then undef else .pointer (some ⟨wr.heap.size, 2, none⟩))) rfl (by as_aux_lemma => kernel_rfl) (by as_aux_lemma => kernel_rfl) (by as_aux_lemma => kernel_rfl) (fun _ _ _ h => h) ?_ (by assumption) ?_
      · as_aux_lemma => (cases A54 with | true => exact Or.inr ⟨by rfl, rfl⟩ | false => exact Or.inl ⟨by rfl, by (intro W hW; (try dsimp only at hW); (try simp only [cond_true, cond_false]); go_simp <;> (with_reducible rfl))⟩)
      (try simp only [Act.put, List.setIfInBounds_toArray]); (try dsimp only [List.set_cons_zero, List.set_cons_succ])
      refine wpAnyH_take (i := 57) (oi := { dst := some 123, op := Op.load 43 (Operand.tmp 122), type := 43, pos := "ref.go:171", after := #[{ on := 56, ground := Ground.data }, { on := 54, ground := Ground.guard }], guard := some (54, false) }) (v := (bif A54 then undef else .slice pa 0 pc)) rfl (by as_aux_lemma => kernel_rfl) (by as_aux_lemma => kernel_rfl) (by as_aux_lemma => kernel_rfl) (fun _ _ _ h => h) ?_ (by assumption) ?_
      · as_aux_lemma => (cases A54 with | true => exact Or.inr ⟨by rfl, rfl⟩ | false => exact Or.inl ⟨by rfl, by (intro W hW; (try dsimp only at hW); (try simp only [cond_true, cond_false]); go_simp <;> (with_reducible rfl))⟩)
      (try simp only [Act.put, List.setIfInBounds_toArray]); (try dsimp only [List.set_cons_zero, List.set_cons_succ])
      refine wpAnyH_take (i := 58) (oi := { dst := some 124, op := Op.call { callee := Callee.builtin Builtin.len, args := #[Operand.tmp 123], argTypes := #[43] }, type := 3, pos := "ref.go:171", after := #[{ on := 57, ground := Ground.data }, { on := 54, ground := Ground.guard }], guard := some (54, false) }) (v := (bif A54 then undef else .int .i64 (0 : Int))) rfl (by as_aux_lemma => kernel_rfl) (by as_aux_lemma => kernel_rfl) (by as_aux_lemma => kernel_rfl) (fun _ _ _ h => h) ?_ (by assumption) ?_
      · as_aux_lemma => (cases A54 with | true => exact Or.inr ⟨by rfl, rfl⟩ | false => exact Or.inl ⟨by rfl, by (intro W hW; (try dsimp only at hW); (try simp only [cond_true, cond_false]); go_simp <;> (with_reducible rfl))⟩)
      (try simp only [Act.put, List.setIfInBounds_toArray]); (try dsimp only [List.set_cons_zero, List.set_cons_succ])
      refine wpAnyH_take (i := 59) (oi := { dst := some 125, op := Op.binOp BinOp.gtr 3 (Operand.tmp 124) (Operand.const (Value.int IntKind.i64 0)) 3, type := 4, pos := "ref.go:171", after := #[{ on := 58, ground := Ground.data }, { on := 54, ground := Ground.guard }], guard := some (54, false) }) (v := (bif A54 then undef else .bool false)) rfl (by as_aux_lemma => kernel_rfl) (by as_aux_lemma => kernel_rfl) (by as_aux_lemma => kernel_rfl) (fun _ _ _ h => h) ?_ (by assumption) ?_
      · as_aux_lemma => (cases A54 with | true => exact Or.inr ⟨by rfl, rfl⟩ | false => exact Or.inl ⟨by rfl, by (intro W hW; (try dsimp only at hW); (try simp only [cond_true, cond_false]); go_simp <;> (with_reducible rfl))⟩)
      (try simp only [Act.put, List.setIfInBounds_toArray]); (try dsimp only [List.set_cons_zero, List.set_cons_succ])
      refine wpAnyH_take (i := 60) (oi := { dst := some 126, op := Op.move (Operand.tmp 125), type := 4, pos := "ref.go:171", after := #[{ on := 59, ground := Ground.data }, { on := 54, ground := Ground.chain }, { on := 54, ground := Ground.guard }], guard := some (54, false) }) (v := (bif A54 then undef else .bool false)) rfl (by as_aux_lemma => kernel_rfl) (by as_aux_lemma => kernel_rfl) (by as_aux_lemma => kernel_rfl) (fun _ _ _ h => h) ?_ (by assumption) ?_
      · as_aux_lemma => (cases A54 with | true => exact Or.inr ⟨by rfl, rfl⟩ | false => exact Or.inl ⟨by rfl, by (intro W hW; (try dsimp only at hW); (try simp only [cond_true, cond_false]); go_simp <;> (with_reducible rfl))⟩)
      (try simp only [Act.put, List.setIfInBounds_toArray]); (try dsimp only [List.set_cons_zero, List.set_cons_succ])
      refine wpAnyH_take (i := 61) (oi := { dst := some 127, op := Op.fieldAddr 48 (Operand.tmp 12) 1, type := 0, pos := "ref.go:171", after := #[{ on := 60, ground := Ground.guard }], guard := some (60, true) }) (v := undef) rfl (by as_aux_lemma => kernel_rfl) (by as_aux_lemma => kernel_rfl) (by as_aux_lemma => kernel_rfl) (fun _ _ _ h => h) ?_ (by assumption) ?_
      · as_aux_lemma => (cases A54 with | true => exact Or.inr ⟨by rfl, rfl⟩ | false => exact Or.inr ⟨by rfl, rfl⟩)
      (try simp only [Act.put, List.setIfInBounds_toArray]); (try dsimp only [List.set_cons_zero, List.set_cons_succ])
      refine wpAnyH_take (i := 62) (oi := { dst := some 128, op := Op.fieldAddr 45 (Operand.tmp 127) 0, type := 0, pos := "ref.go:171", after := #[{ on := 61, ground := Ground.data }, { on := 60, ground := Ground.guard }], guard := some (60, true) }) (v := undef) rfl (by as_aux_lemma => kernel_rfl) (by as_aux_lemma => kernel_rfl) (by as_aux_lemma => kernel_rfl) (fun _ _ _ h => h) ?_ (by assumption) ?_
      · as_aux_lemma => (cases A54 with | true => exact Or.inr ⟨by rfl, rfl⟩ | false => exact Or.inr ⟨by rfl, rfl⟩)
      (try simp only [Act.put, List.setIfInBounds_toArray]); (try dsimp only [List.set_cons_zero, List.set_cons_succ])
      refine wpAnyH_take (i := 63) (oi := { dst := some 129, op := Op.load 9 (Operand.tmp 128), type := 9, pos := "ref.go:171", after := #[{ on := 62, ground := Ground.data }, { on := 60, ground := Ground.guard }], guard := some (60, true) }) (v := undef) rfl (by as_aux_lemma => kernel_rfl) (by as_aux_lemma => kernel_rfl) (by as_aux_lemma => kernel_rfl) (fun _ _ _ h => h) ?_ (by assumption) ?_
      · as_aux_lemma => (cases A54 with | true => exact Or.inr ⟨by rfl, rfl⟩ | false => exact Or.inr ⟨by rfl, rfl⟩)
      (try simp only [Act.put, List.setIfInBounds_toArray]); (try dsimp only [List.set_cons_zero, List.set_cons_succ])
      refine wpAnyH_take (i := 64) (oi := { dst := some 130, op := Op.call { callee := Callee.builtin Builtin.len, args := #[Operand.tmp 129], argTypes := #[9] }, type := 3, pos := "ref.go:171", after := #[{ on := 63, ground := Ground.data }, { on := 60, ground := Ground.guard }], guard := some (60, true) }) (v := undef) rfl (by as_aux_lemma => kernel_rfl) (by as_aux_lemma => kernel_rfl) (by as_aux_lemma => kernel_rfl) (fun _ _ _ h => h) ?_ (by assumption) ?_
      · as_aux_lemma => (cases A54 with | true => exact Or.inr ⟨by rfl, rfl⟩ | false => exact Or.inr ⟨by rfl, rfl⟩)
      (try simp only [Act.put, List.setIfInBounds_toArray]); (try dsimp only [List.set_cons_zero, List.set_cons_succ])
      refine wpAnyH_take (i := 65) (oi := { dst := some 131, op := Op.call { callee := Callee.value (Operand.func 91), args := #[Operand.tmp 130], argTypes := #[3] }, type := 3, pos := "ref.go:171", after := #[{ on := 64, ground := Ground.data }, { on := 60, ground := Ground.chain }, { on := 60, ground := Ground.guard }], guard := some (60, true) }) (v := undef) rfl (by as_aux_lemma => kernel_rfl) (by as_aux_lemma => kernel_rfl) (by as_aux_lemma => kernel_rfl) (fun _ _ _ h => h) ?_ (by assumption) ?_
      · as_aux_lemma => (cases A54 with | true => exact Or.inr ⟨by rfl, rfl⟩ | false => exact Or.inr ⟨by rfl, rfl⟩)
      (try simp only [Act.put, List.setIfInBounds_toArray]); (try dsimp only [List.set_cons_zero, List.set_cons_succ])
      refine wpAnyH_take (i := 66) (oi := { dst := some 132, op := Op.binOp BinOp.eql 3 (Operand.tmp 131) (Operand.const (Value.int IntKind.i64 0)) 3, type := 4, pos := "ref.go:171", after := #[{ on := 65, ground := Ground.data }, { on := 60, ground := Ground.guard }], guard := some (60, true) }) (v := undef) rfl (by as_aux_lemma => kernel_rfl) (by as_aux_lemma => kernel_rfl) (by as_aux_lemma => kernel_rfl) (fun _ _ _ h => h) ?_ (by assumption) ?_
      · as_aux_lemma => (cases A54 with | true => exact Or.inr ⟨by rfl, rfl⟩ | false => exact Or.inr ⟨by rfl, rfl⟩)
      (try simp only [Act.put, List.setIfInBounds_toArray]); (try dsimp only [List.set_cons_zero, List.set_cons_succ])
      refine wpAnyH_take (i := 67) (oi := { dst := some 133, op := Op.pick (Operand.tmp 126) (Operand.tmp 132) (Operand.const (Value.bool false)), type := 4, pos := "ref.go:171", after := #[{ on := 60, ground := Ground.data }, { on := 66, ground := Ground.data }, { on := 54, ground := Ground.guard }], guard := some (54, false) }) (v := (bif A54 then undef else .bool false)) rfl (by as_aux_lemma => kernel_rfl) (by as_aux_lemma => kernel_rfl) (by as_aux_lemma => kernel_rfl) (fun _ _ _ h => h) ?_ (by assumption) ?_
      · as_aux_lemma => (cases A54 with | true => exact Or.inr ⟨by rfl, rfl⟩ | false => exact Or.inl ⟨by rfl, by (intro W hW; (try dsimp only at hW); (try simp only [cond_true, cond_false]); go_simp <;> (with_reducible rfl))⟩)
      (try simp only [Act.put, List.setIfInBounds_toArray]); (try dsimp only [List.set_cons_zero, List.set_cons_succ])
      refine wpAnyH_take (i := 68) (oi := { dst := some 134, op := Op.pick (Operand.tmp 120) (Operand.const (Value.bool true)) (Operand.tmp 133), type := 4, pos := "ref.go:171", after := #[{ on := 54, ground := Ground.data }, { on := 67, ground := Ground.data }], guard := none }) (v := .bool A54) rfl (by as_aux_lemma => kernel_rfl) (by as_aux_lemma => kernel_rfl) (by as_aux_lemma => kernel_rfl) (fun _ _ _ h => h) ?_ (by assumption) ?_
      · as_aux_lemma => exact Or.inl ⟨by rfl, by (intro W hW; (try dsimp only at hW); (try simp only [cond_true, cond_false]); cases A54; all_goals go_simp <;> (with_reducible rfl))⟩
      (try simp only [Act.put, List.setIfInBounds_toArray]); (try dsimp only [List.set_cons_zero, List.set_cons_succ])
      refine wpAnyH_take (i := 69) (oi := { dst := some 135, op := Op.move (Operand.tmp 134), type := 4, pos := "ref.go:171", after := #[{ on := 68, ground := Ground.data }, { on := 65, ground := Ground.chain }], guard := none }) (v := .bool A54) rfl (by as_aux_lemma => kernel_rfl) (by as_aux_lemma => kernel_rfl) (by as_aux_lemma => kernel_rfl) (fun _ _ _ h => h) ?_ (by assumption) ?_
      · as_aux_lemma => exact Or.inl ⟨by rfl, by (intro W hW; (try dsimp only at hW); (try simp only [cond_true, cond_false]); go_simp <;> (with_reducible rfl))⟩
      (try simp only [Act.put, List.setIfInBounds_toArray]); (try dsimp only [List.set_cons_zero, List.set_cons_succ])
      refine wpAnyH_take (i := 70) (oi := { dst := some 136, op := Op.fieldAddr 26 (Operand.tmp 4) 1, type := 0, pos := "ref.go:171", after := #[{ on := 69, ground := Ground.guard }], guard := some (69, false) }) (v := (bif A54 then undef else .pointer (some ⟨w.heap.size, 1, none⟩))) rfl (by as_aux_lemma => kernel_rfl) (by as_aux_lemma => kernel_rfl) (by as_aux_lemma => kernel_rfl) (fun _ _ _ h => h) ?_ (by assumption) ?_
      · as_aux_lemma => (cases A54 with | true => exact Or.inr ⟨by rfl, rfl⟩ | false => exact Or.inl ⟨by rfl, by (intro W hW; (try dsimp only at hW); (try simp only [cond_true, cond_false]); go_simp <;> (with_reducible rfl))⟩)
      (try simp only [Act.put, List.setIfInBounds_toArray]); (try dsimp only [List.set_cons_zero, List.set_cons_succ])
      refine wpAnyH_take (i := 71) (oi := { dst := some 137, op := Op.load 4 (Operand.tmp 136), type := 4, pos := "ref.go:171", after := #[{ on := 70, ground := Ground.data }, { on := 69, ground := Ground.guard }], guard := some (69, false) }) (v := (bif A54 then undef else .bool false)) rfl (by as_aux_lemma => kernel_rfl) (by as_aux_lemma => kernel_rfl) (by as_aux_lemma => kernel_rfl) (fun _ _ _ h => h) ?_ (by assumption) ?_
      · as_aux_lemma => (cases A54 with | true => exact Or.inr ⟨by rfl, rfl⟩ | false => exact Or.inl ⟨by rfl, by (intro W hW; (try dsimp only at hW); (try simp only [cond_true, cond_false]); go_simp <;> (with_reducible rfl))⟩)
      (try simp only [Act.put, List.setIfInBounds_toArray]); (try dsimp only [List.set_cons_zero, List.set_cons_succ])
      refine wpAnyH_take (i := 72) (oi := { dst := some 138, op := Op.fieldAddr 48 (Operand.tmp 12) 2, type := 0, pos := "ref.go:171", after := #[{ on := 69, ground := Ground.guard }], guard := some (69, false) }) (v := (bif A54 then undef else .pointer (some ⟨wr.heap.size, 3, none⟩))) rfl (by as_aux_lemma => kernel_rfl) (by as_aux_lemma => kernel_rfl) (by as_aux_lemma => kernel_rfl) (fun _ _ _ h => h) ?_ (by assumption) ?_
      · as_aux_lemma => (cases A54 with | true => exact Or.inr ⟨by rfl, rfl⟩ | false => exact Or.inl ⟨by rfl, by (intro W hW; (try dsimp only at hW); (try simp only [cond_true, cond_false]); go_simp <;> (with_reducible rfl))⟩)
      (try simp only [Act.put, List.setIfInBounds_toArray]); (try dsimp only [List.set_cons_zero, List.set_cons_succ])
      refine wpAnyH_take (i := 73) (oi := { dst := some 139, op := Op.load 46 (Operand.tmp 138), type := 46, pos := "ref.go:171", after := #[{ on := 72, ground := Ground.data }, { on := 69, ground := Ground.guard }], guard := some (69, false) }) (v := (bif A54 then undef else .slice (some ⟨bk, okk, none⟩) 1 kc)) rfl (by as_aux_lemma => kernel_rfl) (by as_aux_lemma => kernel_rfl) (by as_aux_lemma => kernel_rfl) (fun _ _ _ h => h) ?_ (by assumption) ?_
      · as_aux_lemma => (cases A54 with | true => exact Or.inr ⟨by rfl, rfl⟩ | false => exact Or.inl ⟨by rfl, by (intro W hW; (try dsimp only at hW); (try simp only [cond_true, cond_false]); go_simp <;> (with_reducible rfl))⟩)
      (try simp only [Act.put, List.setIfInBounds_toArray]); (try dsimp only [List.set_cons_zero, List.set_cons_succ])
      refine wpAnyH_take (i := 74) (oi := { dst := some 140, op := Op.call { callee := Callee.builtin Builtin.len, args := #[Operand.tmp 139], argTypes := #[46] }, type := 3, pos := "ref.go:171", after := #[{ on := 73, ground := Ground.data }, { on := 69, ground := Ground.guard }], guard := some (69, false) }) (v := (bif A54 then undef else .int .i64 1)) rfl (by as_aux_lemma => kernel_rfl) (by as_aux_lemma => kernel_rfl) (by as_aux_lemma => kernel_rfl) (fun _ _ _ h => h) ?_ (by assumption) ?_
      · as_aux_lemma => (cases A54 with | true => exact Or.inr ⟨by rfl, rfl⟩ | false => exact Or.inl ⟨by rfl, by (intro W hW; (try dsimp only at hW); (try simp only [cond_true, cond_false]); go_simp <;> (with_reducible rfl))⟩)
      (try simp only [Act.put, List.setIfInBounds_toArray]); (try dsimp only [List.set_cons_zero, List.set_cons_succ])
      refine wpAnyH_take (i := 75) (oi := { dst := some 141, op := Op.binOp BinOp.eql 3 (Operand.tmp 140) (Operand.const (Value.int IntKind.i64 0)) 3, type := 4, pos := "ref.go:171", after := #[{ on := 74, ground := Ground.data }, { on := 69, ground := Ground.guard }], guard := some (69, false) }) (v := (bif A54 then undef else .bool false)) rfl (by as_aux_lemma => kernel_rfl) (by as_aux_lemma => kernel_rfl) (by as_aux_lemma => kernel_rfl) (fun _ _ _ h => h) ?_ (by assumption) ?_
      · as_aux_lemma => (cases A54 with | true => exact Or.inr ⟨by rfl, rfl⟩ | false => exact Or.inl ⟨by rfl, by (intro W hW; (try dsimp only at hW); (try simp only [cond_true, cond_false]); go_simp <;> (with_reducible rfl))⟩)
      (try simp only [Act.put, List.setIfInBounds_toArray]); (try dsimp only [List.set_cons_zero, List.set_cons_succ])
      refine wpAnyH_take (i := 76) (oi := { dst := some 142, op := Op.binOp BinOp.neq 4 (Operand.tmp 137) (Operand.tmp 141) 4, type := 4, pos := "ref.go:171", after := #[{ on := 71, ground := Ground.data }, { on := 75, ground := Ground.data }, { on := 69, ground := Ground.guard }], guard := some (69, false) }) (v := (bif A54 then undef else .bool false)) rfl (by as_aux_lemma => kernel_rfl) (by as_aux_lemma => kernel_rfl) (by as_aux_lemma => kernel_rfl) (fun _ _ _ h => h) ?_ (by assumption) ?_
      · as_aux_lemma => (cases A54 with | true => exact Or.inr ⟨by rfl, rfl⟩ | false => exact Or.inl ⟨by rfl, by (intro W hW; (try dsimp only at hW); (try simp only [cond_true, cond_false]); go_simp <;> (with_reducible rfl))⟩)
      (try simp only [Act.put, List.setIfInBounds_toArray]); (try dsimp only [List.set_cons_zero, List.set_cons_succ])
      refine wpAnyH_take (i := 77) (oi := { dst := some 143, op := Op.pick (Operand.tmp 135) (Operand.const (Value.bool true)) (Operand.tmp 142), type := 4, pos := "ref.go:171", after := #[{ on := 69, ground := Ground.data }, { on := 76, ground := Ground.data }], guard := none }) (v := .bool A54) rfl (by as_aux_lemma => kernel_rfl) (by as_aux_lemma => kernel_rfl) (by as_aux_lemma => kernel_rfl) (fun _ _ _ h => h) ?_ (by assumption) ?_
      · as_aux_lemma => exact Or.inl ⟨by rfl, by (intro W hW; (try dsimp only at hW); (try simp only [cond_true, cond_false]); cases A54; all_goals go_simp <;> (with_reducible rfl))⟩
      (try simp only [Act.put, List.setIfInBounds_toArray]); (try dsimp only [List.set_cons_zero, List.set_cons_succ])
      refine wpAnyH_done (by kernel_rfl) ?_ _
      refine NoPanic.normal ?_
      go_wp2_with fail
      go_meet
      exact ⟨by simp [HBD.out], by first | assumption | exact Below.dr (Below.refl _ _)⟩
    case rest =>
    rename_i wd
    obtain ⟨rfl, hbd⟩ := hcut
    replace HB := Lib.hid (below_via HB.out hbd)
    replace HX := Lib.hid (HX.out.step hbd)
    clear u1 u2 m0 m1 m2 m3 hwc v0 v1 v2 v3
    have u1 := HX.out.cell 1 1 rfl rfl
    have u2 := HX.out.cell 1 2 rfl rfl
    have m0 := HX.out.cell 0 0 rfl rfl
    have m3 := HX.out.cell 0 3 rfl rfl
    have hbk8 := Nat.lt_of_lt_of_le hbk9 hbc.size
    replace e0 := (hbd.cell (p := ⟨bk, okk, none⟩) hbk8).trans e0
    replace e1 := (hbd.cell (p := ⟨bk, okk + 1, none⟩) hbk8).trans e1
    replace e2 := (hbd.cell (p := ⟨bk, okk + 2, none⟩) hbk8).trans e2
    clear hbk8 hbk9 hbk
    clear hbc hbd
    cases BAD with
    | true =>
      have HR : Hid (R = none) := Lib.hid (by
        have h9 := HBAD.out
        rw [HD.out, HFT.out]
        cases hfa : fitAt lo hi false (keysOf l) i with
        | false => rw [fitTo_bad (i := i) (by omega) hfa]; rfl
        | true =>
          rw [hfa] at h9
          rw [HVN.out] at h9
          cases h9)
      go_wp2_with fail
      go_ret
      exact ⟨by rw [HR.out]; rfl, HB.out⟩
    | false =>
    have HT2 : Hid (fitTo lo hi false (keysOf l) (i + 1) = true) := Lib.hid (by
      have h9 := HBAD.out
      rw [fitTo_succ, HA.out, Bool.true_and]
      simp at h9
      exact h9.1)
    obtain ⟨KL, hKL⟩ : ∃ z, (if i = 0 then lo else k) = z := ⟨_, rfl⟩
    obtain ⟨HI, hHI⟩ : ∃ z, nextH hi (l.drop (i + 1)) = z := ⟨_, rfl⟩
    have hKL9 : KL.length ≤ 1000 := by rw [← hKL]; split <;> assumption
    have HKL9 := Lib.hid hKL
    have HHI9 := Lib.hid hHI
    clear hKL hHI hb hx
    go_upto_if 148 with (fail)
    go_cut [14] (fun s wq => s = .string (strOf KL) ∧ wc = wq)
    case first =>
      by_cases h0 : i = 0
      · obtain rfl : true = F := by rw [← HF.out, h0]; rfl
        obtain rfl : lo = KL := by rw [← HKL9.out, if_pos h0]
        clear h0
        go_wp2_with fail
        go_meet
        exact ⟨rfl, rfl⟩
      · obtain rfl : false = F := by rw [← HF.out]; exact (beq_eq_false_iff_ne.2 h0).symm
        obtain rfl : k = KL := by rw [← HKL9.out, if_neg h0]
        clear h0
        go_wp2_with fail
        go_meet
        exact ⟨rfl, rfl⟩
    case rest =>
    obtain ⟨rfl, rfl⟩ := hcut
    go_upto_if 156 with (fail)
    go_cut [15] (fun s wq => s = .string (strOf HI) ∧ wc = wq ∧ HI.length ≤ 1000)
    case first =>
      by_cases hla : m ≤ i + 1
      · have d3 : decide ((i : Int) + 1 < (m : Int)) = false := by simp; omega
        have d3' : decide (i + 1 < m) = false := by simp; omega
        obtain rfl : hi = HI := by rw [← HHI9.out]; exact (nextH_last (by have := HL.out; omega)).symm
        have HHI := Lib.hid hhi
        clear hla
        simp only [d3]
        go_wp2_with fail
        go_meet
        exact ⟨rfl, rfl, HHI.out⟩
      · have d3 : decide ((i : Int) + 1 < (m : Int)) = true := by simp; omega
        have d3' : decide (i + 1 < m) = true := by simp; omega
        obtain ⟨b8, off8, y8, _, _, _, _, _, _, e8, hbb8, hy8, _, _, _, _, _, c08, _, _, _⟩ := RNodeOn.cell HV.out (show i + 1 < m by omega)
        cases e8
        rw [cellsR_node] at hy8
        obtain ⟨x8, hx81, hx82⟩ := Option.map_eq_some_iff.1 hy8
        subst hx82
        obtain ⟨k2, y82⟩ := x8
        dsimp only at c08
        have hk2 := (HG.out _ (List.mem_of_getElem? hx81)).1
        dsimp only at hk2
        have g8 := (HB.out.cell (p := ⟨b, off + (i + 1) * 4, none⟩) hbb8).trans c08
        obtain rfl : k2 = HI := by rw [← HHI9.out]; exact (nextH_mid (by simp [keysOf, hx81]) (by have := HL.out; omega)).symm
        have HHI : Hid (k2.length ≤ 1000) := Lib.hid (by omega)
        have hla2 : i + 1 < m := by omega
        have hla3 : (i : Int) + 1 < (m : Int) := by omega
        have hla4 : (0 : Int) ≤ (i : Int) + 1 := by omega
        clear hla c08 hx81 hy8 hbb8
        simp only [d3]
        go_wp2_with fail
        go_meet
        exact ⟨rfl, rfl, HHI.out⟩
    case rest =>
    obtain ⟨rfl, rfl, hHI9⟩ := hcut
    obtain ⟨D, hD⟩ : ∃ D, depthT (n + 1) kid KL HI false = D := ⟨_, rfl⟩
    have CD := IH (HKID.out.below HB.out) HKB.out KL HI hKL9 hHI9
    rw [hD] at CD
    have HDD : Hid (depthT (n + 1) kid (if i = 0 then lo else k) (nextH hi (l.drop (i + 1))) false = D) := Lib.hid (by rw [HKL9.out, HHI9.out]; exact hD)
    clear hD
    go_wp2_with fail
    refine CD.mono ?_
    rintro e w9 ⟨rfl, hb9⟩
    have HBQ := Lib.hid (below_via HB.out hb9)
    have HXQ := Lib.hid (HX.out.step hb9)
    clear hb9 u1 u2 m0 m3 e0 e1 e2 CD
    cases D with
    | none =>
      have HR : Hid (R = none) := Lib.hid (by rw [HD.out, show R2 = none by rw [← HDK.out]; exact depK_none HC1.out (by exact HDD.out)]; simp)
      have hdi : depI none = -1 := rfl
      rw [hdi]
      clear hdi
      go_wp2_with fail
      go_ret
      exact ⟨by rw [HR.out]; rfl, HBQ.out⟩
    | some d =>
      have hdi : depI (some d) = (d : Int) := rfl
      rw [hdi]
      clear hdi
      have hd9 : d + 1 ≤ 1000 := Nat.le_trans (depthT_lt HDD.out) hn
      have dz : decide ((d : Int) < 0) = false := decide_eq_false (by omega)
      by_cases hbf : i ≠ 0 ∧ d + 1 ≠ far
      · have d5 : decide ((0 : Int) < (i : Int)) = true := by simp; omega
        have d5' : decide (0 < i) = true := by simp; omega
        have dy : ((d : Int) + 1 != (far : Int)) = true := by have := hbf.2; simp; omega
        have HR : Hid (R = none) := Lib.hid (by rw [HD.out, show R2 = none by rw [← HDK.out]; exact depK_far HC1.out (by exact HDD.out) hbf]; simp)
        clear hbf
        go_wp2_with fail
        go_ret
        exact ⟨by rw [HR.out]; rfl, HBQ.out⟩
      · have HR : Hid (depK (fun t lo hi => depthT (n + 1) t lo hi false) lo hi (i + 1) (d + 1) (l.drop (i + 1)) = R2) := Lib.hid (by rw [← HDK.out]; exact (depK_go HC1.out (by exact HDD.out) hbf).symm)
        by_cases h0 : i = 0
        · have d5 : decide ((0 : Int) < (i : Int)) = false := by simp; omega
          have d5' : decide (0 < i) = false := by simp; omega
          clear h0 hbf
          go_wp2_with fail
          go_roundw
          case rel => exact ⟨i + 1, d + 1, by omega, by go_num, by go_num, by omega, HT2.out, HR.out, HBQ.out, HXQ.out.sub (fun p hp => List.mem_cons_of_mem _ hp)⟩
          case measure => simp [intOf]; omega
        · have d5 : decide ((0 : Int) < (i : Int)) = true := by simp; omega
          have d5' : decide (0 < i) = true := by simp; omega
          have dy : ((d : Int) + 1 != (far : Int)) = false := by simp; omega
          clear h0 hbf
          go_wp2_with fail
          go_roundw
          case rel => exact ⟨i + 1, d + 1, by omega, by go_num, by go_num, by omega, HT2.out, HR.out, HBQ.out, HXQ.out.sub (fun p hp => List.mem_cons_of_mem _ hp)⟩
          case measure => simp [intOf]; omega
end Go.Proofs.Ytemfnjlfcemehaa
