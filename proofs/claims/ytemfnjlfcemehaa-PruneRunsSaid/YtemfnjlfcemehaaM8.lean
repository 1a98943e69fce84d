/- Texts that other texts of this claim lean on, one behind the other. -/
import Derived.Test.YtemfnjlfcemehaaM7
import Derived.Test.YtemfnjlfcemehaaM1
import Derived.Outline
import Derived.Test.YtemfnjlfcemehaaM3
import Derived.Test.YtemfnjlfcemehaaM2
/- The walks of trees: how far a node's leaves are; whether a tree may be. -/
namespace Go.Proofs.Ytemfnjlfcemehaa
open Go.RowKit

def depI : Option Nat → Int
  | none => -1
  | some d => (d : Int)
theorem depK_lt {f : Tr → List UInt8 → List UInt8 → Option Nat} {N : Nat} (hf : ∀ t lo hi d, f t lo hi = some d → d < N) : ∀ {l : List (List UInt8 × Tr)} {i far : Nat} {lo hi : List UInt8} {d : Nat}, far ≤ N → depK f lo hi i far l = some d → d ≤ N
  | [], _, _, _, _, _, h1, h2 => by cases h2; exact h1
  | c :: r, i, far, lo, hi, d, h1, h2 => by
    unfold depK at h2
    cases hc : f c.2 (if i = 0 then lo else c.1) (nextH hi r) with
    | none => rw [hc] at h2; cases h2
    | some e =>
      rw [hc] at h2
      by_cases hb : i ≠ 0 ∧ e + 1 ≠ far
      · simp only [if_pos hb] at h2; cases h2
      · simp only [if_neg hb] at h2
        have := hf _ _ _ _ hc
        exact depK_lt hf (by omega) h2
theorem depthT_lt : ∀ {n : Nat} {t : Tr} {lo hi : List UInt8} {root : Bool} {d : Nat}, depthT n t lo hi root = some d → d < n
  | 0, _, _, _, _, _, h => by cases h
  | n + 1, .leaf p l, lo, hi, root, d, h => by
    unfold depthT at h
    split at h
    · cases h; omega
    · cases h
  | n + 1, .node p l, lo, hi, root, d, h => by
    unfold depthT at h
    split at h
    · have := depK_lt (N := n) (fun t lo hi d h => depthT_lt h) (Nat.zero_le _) h
      omega
    · cases h
theorem depK_none {f : Tr → List UInt8 → List UInt8 → Option Nat} {lo hi : List UInt8} {i far : Nat} {l : List (List UInt8 × Tr)} {c : List UInt8 × Tr} (h : l[i]? = some c) (hf : f c.2 (if i = 0 then lo else c.1) (nextH hi (l.drop (i + 1))) = none) : depK f lo hi i far (l.drop i) = none := by
  obtain ⟨h1, h2⟩ := List.getElem?_eq_some_iff.1 h
  rw [List.drop_eq_getElem_cons h1, h2]
  unfold depK
  rw [hf]
theorem depK_far {f : Tr → List UInt8 → List UInt8 → Option Nat} {lo hi : List UInt8} {i far d : Nat} {l : List (List UInt8 × Tr)} {c : List UInt8 × Tr} (h : l[i]? = some c) (hf : f c.2 (if i = 0 then lo else c.1) (nextH hi (l.drop (i + 1))) = some d) (hd : i ≠ 0 ∧ d + 1 ≠ far) : depK f lo hi i far (l.drop i) = none := by
  obtain ⟨h1, h2⟩ := List.getElem?_eq_some_iff.1 h
  rw [List.drop_eq_getElem_cons h1, h2]
  unfold depK
  rw [hf]
  simp only [if_pos hd]
theorem depK_go {f : Tr → List UInt8 → List UInt8 → Option Nat} {lo hi : List UInt8} {i far d : Nat} {l : List (List UInt8 × Tr)} {c : List UInt8 × Tr} (h : l[i]? = some c) (hf : f c.2 (if i = 0 then lo else c.1) (nextH hi (l.drop (i + 1))) = some d) (hd : ¬ (i ≠ 0 ∧ d + 1 ≠ far)) : depK f lo hi i far (l.drop i) = depK f lo hi (i + 1) (d + 1) (l.drop (i + 1)) := by
  obtain ⟨h1, h2⟩ := List.getElem?_eq_some_iff.1 h
  rw [List.drop_eq_getElem_cons h1, h2]
  conv => lhs; unfold depK
  rw [hf]
  simp only [if_neg hd]
theorem depthT_leaf (n : Nat) (p : Int) (l : List (List UInt8 × Tv)) (lo hi : List UInt8) (root : Bool) : depthT (n + 1) (.leaf p l) lo hi root = if fitT lo hi (.leaf p l) && sizeB root (.leaf p l) then some 0 else none := rfl
theorem depthT_node (n : Nat) (p : Int) (l : List (List UInt8 × Tr)) (lo hi : List UInt8) (root : Bool) : depthT (n + 1) (.node p l) lo hi root = if fitT lo hi (.node p l) && sizeB root (.node p l) then depK (fun t lo hi => depthT n t lo hi false) lo hi 0 0 l else none := rfl
theorem nextH_last {hi : List UInt8} {l : List (List UInt8 × Tr)} {i : Nat} (h : l.length ≤ i + 1) : nextH hi (l.drop (i + 1)) = hi := by rw [List.drop_of_length_le h]; rfl
theorem nextH_mid {hi : List UInt8} {l : List (List UInt8 × Tr)} {i : Nat} {k : List UInt8} (hk : (keysOf l)[i + 1]?.getD [] = k) (h : i + 1 < l.length) : nextH hi (l.drop (i + 1)) = k := by
  rw [List.drop_eq_getElem_cons h]
  rw [← hk]; simp [nextH, keysOf, h]

set_option maxRecDepth 100000 in
set_option maxHeartbeats 3000000 in
theorem depth_step {n : Nat} (IH : ∀ {w : World} {cs : List Value} {t : Tr}, NodeIn n w cs t → Bnd n t → ∀ (lo hi : List UInt8), lo.length ≤ 1000 → hi.length ≤ 1000 →
    Calls Try.prog 61 #[.agg cs.toArray, .agg #[.string (strOf lo), .string (strOf hi)], .bool false] w fun e w' => e = .returned (.int .i64 (depI (depthT n t lo hi false))) ∧ Below w.heap.size w w')
    {w : World} {cs : List Value} {t : Tr} (h : NodeIn (n + 1) w cs t) (hb : Bnd (n + 1) t) (hn : n ≤ 1000) (lo hi : List UInt8) (root : Bool) (hlo : lo.length ≤ 1000) (hhi : hi.length ≤ 1000) :
    Calls Try.prog 61 #[.agg cs.toArray, .agg #[.string (strOf lo), .string (strOf hi)], .bool root] w fun e w' => e = .returned (.int .i64 (depI (depthT (n + 1) t lo hi root))) ∧ Below w.heap.size w w' := by
  have hh := h
  obtain ⟨ka, kc, va, vn, vc, ca, cn, cc, V, C, rfl, h1, h2, h3, h4⟩ := h.openK
  obtain ⟨_, _, r2⟩ := h4.lens
  obtain ⟨lf, hlf⟩ : ∃ x, t.isLeaf = x := ⟨_, rfl⟩
  obtain ⟨m, hm⟩ : ∃ x, cntT t = x := ⟨_, rfl⟩
  obtain ⟨pg, hpg⟩ : ∃ x, t.page = x := ⟨_, rfl⟩
  have hm9 : m ≤ 1000 := by rw [← hm]; exact hb.cnt
  rw [hlf, hm] at r2
  have hcn : cn = if lf then 0 else m := by rw [← h3.1, r2]
  rw [hlf, hm, hpg] at hh
  rw [hm] at h1
  have hB0 : Below w.heap.size w ((w.alloc (.cells #[.int .i64 pg, .bool lf, .slice ka m kc, .slice va vn vc, .slice ca cn cc] 33)).alloc (.cells #[.string (strOf lo), .string (strOf hi)] 113)) := Below.al (Below.al (Below.refl _ _))
  have hX0 : Boxes _ [(w.heap.size + 1, [.string (strOf lo), .string (strOf hi)]), (w.heap.size, [.int .i64 pg, .bool lf, .slice ka m kc, .slice va vn vc, .slice ca cn cc])] := ((Boxes.nil w).alloc #[.int .i64 pg, .bool lf, .slice ka m kc, .slice va vn vc, .slice ca cn cc] 33 rfl).alloc #[.string (strOf lo), .string (strOf hi)] 113 (b := w.heap.size + 1) (by simp)
  obtain ⟨wA, hwA⟩ : ∃ wA, (w.alloc (.cells #[.int .i64 pg, .bool lf, .slice ka m kc, .slice va vn vc, .slice ca cn cc] 33)).alloc (.cells #[.string (strOf lo), .string (strOf hi)] 113) = wA := ⟨_, rfl⟩
  rw [hwA] at hB0 hX0
  rw [hlf, hm, hpg]
  have CF := fits_any (hh.below hB0) hb lo hi hlo hhi
  have CS := fun W (hW : Below w.heap.size w W) => tsizes_any (hh.below hW) hb
  have hSm := hb.small
  have hsum : (decide (sumT t ≤ 122) = decide (sumI (sizesT t) ≤ 122)) ∧ (lowT t = decide (sumI (sizesT t) < 30)) := ⟨rfl, rfl⟩
  obtain ⟨R, hR⟩ : ∃ R, depthT (n + 1) t lo hi root = R := ⟨_, rfl⟩
  have hfail : (fitT lo hi t && sizeB root t) = false → R = none := fun h => by
    rw [← hR]; cases t <;> (unfold depthT; rw [h]; rfl)
  have hsz : sizeB root t = (decide ((if lf then 1 else 2) ≤ m) && (decide (sumI (sizesT t) ≤ 122) && (root || !decide (sumI (sizesT t) < 30)))) := by
    unfold sizeB; rw [hlf, hm]; rfl
  have H1 := Lib.hid h1
  have HFAIL := Lib.hid hfail
  have HSZ := Lib.hid hsz
  have HB := Lib.hid hB0
  have HX := Lib.hid hX0
  have hkids : ∃ l : List (List UInt8 × Tr), (lf = false → ((fitT lo hi t && sizeB root t) = true → R = depK (fun t lo hi => depthT n t lo hi false) lo hi 0 0 l) ∧ l.length = m ∧ keysOf l = t.keys ∧ (∀ c ∈ l, c.1.length ≤ 200 ∧ Bnd n c.2) ∧ TabR 5 (NodeIn n w) w ca cn cc (l.map (·.2))) ∧ (lf = true → (fitT lo hi t && sizeB root t) = true → R = some 0) := by
    cases t with
    | leaf p l0 => exact ⟨[], (fun h => by rw [← hlf] at h; cases h), (fun _ h => by rw [← hR, depthT_leaf, if_pos h])⟩
    | node p l0 => exact ⟨l0, (fun _ => ⟨(fun h => by rw [← hR, depthT_node, if_pos h]), hm, rfl, hb.2, Raw.tab h3 h4.2.2⟩), (fun h => by rw [← hlf] at h; cases h)⟩
  obtain ⟨l, hl1, hl2⟩ := hkids
  have HL1 := Lib.hid hl1
  have HL2 := Lib.hid hl2
  have HSm := Lib.hid hSm
  clear h h1 h2 h3 h4 hB0 hX0 hlf hm hpg r2 hb hfail hsz hl1 hl2 hsum hSm hh
  generalize t.keys = K at *
  generalize fitT lo hi t = FT at *
  generalize sizeB root t = SZ at *
  obtain ⟨S, hS⟩ : ∃ S, sizesT t = S := ⟨_, rfl⟩
  rw [hS] at CS HSZ HSm
  rw [hR]
  clear hS hR
  have n0 := HX.out.cell 1 0 rfl rfl
  have n1 := HX.out.cell 1 1 rfl rfl
  have n2 := HX.out.cell 1 2 rfl rfl
  have n3 := HX.out.cell 1 3 rfl rfl
  have n4 := HX.out.cell 1 4 rfl rfl
  have s0 := HX.out.cell 0 0 rfl rfl
  have s1 := HX.out.cell 0 1 rfl rfl
  cases lf with
  | true =>
    simp only [if_true] at hcn
    replace hcn := hcn.symm
    subst hcn
    replace HSZ : Hid (SZ = (decide (1 ≤ m) && (decide (sumI S ≤ 122) && (root || !decide (sumI S < 30))))) := Lib.hid HSZ.out
    go_enter Try.func61, Try.ntmps61
    go_wp2_with fail
    try rw [hwA]
    clear hwA
    cases FT with
    | false =>
      refine CF.mono ?_
      rintro e w1 ⟨rfl, hb1⟩
      clear CF
      have HB1 := Lib.hid (HB.out.trans (hb1.mono HB.out.size))
      have HX1 := Lib.hid (HX.out.step hb1)
      clear n0 n1 n2 n3 n4 s0 s1 hb1
      have n0 := HX1.out.cell 1 0 rfl rfl
      have n1 := HX1.out.cell 1 1 rfl rfl
      have n2 := HX1.out.cell 1 2 rfl rfl
      have n3 := HX1.out.cell 1 3 rfl rfl
      have n4 := HX1.out.cell 1 4 rfl rfl
      have s0 := HX1.out.cell 0 0 rfl rfl
      have s1 := HX1.out.cell 0 1 rfl rfl
      have HR : Hid (R = none) := Lib.hid (HFAIL.out (rfl))
      go_wp2_with fail
      go_ret
      exact ⟨by rw [HR.out]; rfl, HB1.out⟩
    | true =>
      by_cases hle : m < 1
      · have d1 : decide ((m : Int) < 1) = true := by simp; omega
        have d1' : decide (m < 1) = true := by simp; omega
        have HLE := Lib.hid hle
        clear hle
        refine CF.mono ?_
        rintro e w1 ⟨rfl, hb1⟩
        clear CF
        have HB1 := Lib.hid (HB.out.trans (hb1.mono HB.out.size))
        have HX1 := Lib.hid (HX.out.step hb1)
        clear n0 n1 n2 n3 n4 s0 s1 hb1
        have n0 := HX1.out.cell 1 0 rfl rfl
        have n1 := HX1.out.cell 1 1 rfl rfl
        have n2 := HX1.out.cell 1 2 rfl rfl
        have n3 := HX1.out.cell 1 3 rfl rfl
        have n4 := HX1.out.cell 1 4 rfl rfl
        have s0 := HX1.out.cell 0 0 rfl rfl
        have s1 := HX1.out.cell 0 1 rfl rfl
        have HR : Hid (R = none) := Lib.hid (HFAIL.out (by rw [HSZ.out]; have := HLE.out; simp; omega))
        go_wp2_with fail
        go_ret
        exact ⟨by rw [HR.out]; rfl, HB1.out⟩
      have d1 : decide ((m : Int) < 1) = false := by simp; omega
      have d1' : decide (m < 1) = false := by simp; omega
      have HLE : Hid (1 ≤ m) := Lib.hid (by omega)
      clear hle
      refine CF.mono ?_
      rintro e w1 ⟨rfl, hb1⟩
      clear CF
      have HB1 := Lib.hid (HB.out.trans (hb1.mono HB.out.size))
      have HX1 := Lib.hid (HX.out.step hb1)
      clear n0 n1 n2 n3 n4 s0 s1 hb1
      have n0 := HX1.out.cell 1 0 rfl rfl
      have n1 := HX1.out.cell 1 1 rfl rfl
      have n2 := HX1.out.cell 1 2 rfl rfl
      have n3 := HX1.out.cell 1 3 rfl rfl
      have n4 := HX1.out.cell 1 4 rfl rfl
      have s0 := HX1.out.cell 0 0 rfl rfl
      have s1 := HX1.out.cell 0 1 rfl rfl
      go_wp2_with fail
      refine (CS _ HB1.out).mono ?_
      rintro e w2 ⟨v2, rfl, ho2, hb2⟩
      obtain ⟨sa, sc, rfl, hrow⟩ := Row.of_own ho2
      clear ho2
      have HB2 := Lib.hid (HB1.out.trans (hb2.mono HB1.out.size))
      have HX2 := Lib.hid (HX1.out.step hb2)
      clear n0 n1 n2 n3 n4 s0 s1 hb2
      have n0 := HX2.out.cell 1 0 rfl rfl
      have n1 := HX2.out.cell 1 1 rfl rfl
      have n2 := HX2.out.cell 1 2 rfl rfl
      have n3 := HX2.out.cell 1 3 rfl rfl
      have n4 := HX2.out.cell 1 4 rfl rfl
      have s0 := HX2.out.cell 0 0 rfl rfl
      have s1 := HX2.out.cell 0 1 rfl rfl
      have HROW := Lib.hid hrow
      clear hrow
      obtain ⟨sm, hsm⟩ : ∃ x, sumI S = x := ⟨_, rfl⟩
      have CSum := sum_any _ _ _ _ _ HROW.out HSm.out
      rw [hsm] at CSum HSZ
      have HSM := Lib.hid hsm
      clear hsm
      by_cases h122 : sm ≤ 122
      rotate_left
      · have d2 : decide ((122 : Int) < sm) = true := by simp; omega
        go_wp2_with fail
        refine CSum.mono ?_
        rintro e w3 ⟨rfl, rfl⟩
        have H122 := Lib.hid h122
        clear h122
        have HR : Hid (R = none) := Lib.hid (HFAIL.out (by rw [HSZ.out]; have := H122.out; simp; intros; omega))
        go_wp2_with fail
        go_ret
        exact ⟨by rw [HR.out]; rfl, HB2.out⟩
      have d2 : decide ((122 : Int) < sm) = false := by simp; omega
      have H122 := Lib.hid h122
      clear h122
      cases root with
      | true =>
        have HP : Hid ((true && SZ) = true) := Lib.hid (by rw [HSZ.out]; simp [H122.out]; exact HLE.out)
        go_wp2_with fail
        refine CSum.mono ?_
        rintro e w3 ⟨rfl, rfl⟩
        have HR : Hid (R = some 0) := Lib.hid (HL2.out (by first | rfl | trivial) HP.out)
        go_wp2_with fail
        go_loop [8, 44] (fun s i => s = .int .i64 0 ∧ i = .int .i64 0) (fun _ _ => 0)
        case atStart => exact ⟨rfl, rfl⟩
        case round =>
          obtain ⟨rfl, rfl⟩ := hrel
          go_wp2_with fail
          go_ret
          exact ⟨by rw [HR.out]; rfl, HB2.out⟩
      | false =>
        have CS2 := CS _ HB2.out
        go_wp2_with fail
        refine CSum.mono ?_
        rintro e w3 ⟨rfl, rfl⟩
        go_wp2_with fail
        refine CS2.mono ?_
        rintro e w3 ⟨v3, rfl, ho3, hb3⟩
        obtain ⟨sb, sd, rfl, hrow3⟩ := Row.of_own ho3
        clear ho3 CS2
        have HB3 := Lib.hid (HB2.out.trans (hb3.mono HB2.out.size))
        have HX3 := Lib.hid (HX2.out.step hb3)
        clear n0 n1 n2 n3 n4 s0 s1 hb3
        have n0 := HX3.out.cell 1 0 rfl rfl
        have n1 := HX3.out.cell 1 1 rfl rfl
        have n2 := HX3.out.cell 1 2 rfl rfl
        have n3 := HX3.out.cell 1 3 rfl rfl
        have n4 := HX3.out.cell 1 4 rfl rfl
        have s0 := HX3.out.cell 0 0 rfl rfl
        have s1 := HX3.out.cell 0 1 rfl rfl
        have CL := low_any _ _ _ _ _ hrow3 HSm.out
        rw [HSM.out] at CL
        clear hrow3
        by_cases h30 : sm < 30
        · rw [decide_eq_true h30] at CL
          have H30 := Lib.hid h30
          clear h30
          go_wp2_with fail
          refine CL.mono ?_
          rintro e w4 ⟨rfl, rfl⟩
          have HR : Hid (R = none) := Lib.hid (HFAIL.out (by rw [HSZ.out]; have := H30.out; simp; intros; omega))
          go_wp2_with fail
          go_ret
          exact ⟨by rw [HR.out]; rfl, HB3.out⟩
        rw [decide_eq_false h30] at CL
        have H30 := Lib.hid h30
        clear h30
        have HP : Hid ((true && SZ) = true) := Lib.hid (by rw [HSZ.out]; have := H30.out; have := H122.out; have := HLE.out; simp; omega)
        go_wp2_with fail
        refine CL.mono ?_
        rintro e w4 ⟨rfl, rfl⟩
        have HR : Hid (R = some 0) := Lib.hid (HL2.out (by first | rfl | trivial) HP.out)
        go_wp2_with fail
        go_loop [8, 44] (fun s i => s = .int .i64 0 ∧ i = .int .i64 0) (fun _ _ => 0)
        case atStart => exact ⟨rfl, rfl⟩
        case round =>
          obtain ⟨rfl, rfl⟩ := hrel
          go_wp2_with fail
          go_ret
          exact ⟨by rw [HR.out]; rfl, HB3.out⟩
  | false =>
    simp only [Bool.false_eq_true, if_false] at hcn
    replace hcn := hcn.symm
    subst hcn
    replace HSZ : Hid (SZ = (decide (2 ≤ m) && (decide (sumI S ≤ 122) && (root || !decide (sumI S < 30))))) := Lib.hid HSZ.out
    go_enter Try.func61, Try.ntmps61
    go_wp2_with fail
    try rw [hwA]
    clear hwA
    cases FT with
    | false =>
      refine CF.mono ?_
      rintro e w1 ⟨rfl, hb1⟩
      clear CF
      have HB1 := Lib.hid (HB.out.trans (hb1.mono HB.out.size))
      have HX1 := Lib.hid (HX.out.step hb1)
      clear n0 n1 n2 n3 n4 s0 s1 hb1
      have n0 := HX1.out.cell 1 0 rfl rfl
      have n1 := HX1.out.cell 1 1 rfl rfl
      have n2 := HX1.out.cell 1 2 rfl rfl
      have n3 := HX1.out.cell 1 3 rfl rfl
      have n4 := HX1.out.cell 1 4 rfl rfl
      have s0 := HX1.out.cell 0 0 rfl rfl
      have s1 := HX1.out.cell 0 1 rfl rfl
      have HR : Hid (R = none) := Lib.hid (HFAIL.out (rfl))
      go_wp2_with fail
      go_ret
      exact ⟨by rw [HR.out]; rfl, HB1.out⟩
    | true =>
      by_cases hle : m < 2
      · have d1 : decide ((m : Int) < 2) = true := by simp; omega
        have d1' : decide (m < 2) = true := by simp; omega
        have HLE := Lib.hid hle
        clear hle
        refine CF.mono ?_
        rintro e w1 ⟨rfl, hb1⟩
        clear CF
        have HB1 := Lib.hid (HB.out.trans (hb1.mono HB.out.size))
        have HX1 := Lib.hid (HX.out.step hb1)
        clear n0 n1 n2 n3 n4 s0 s1 hb1
        have n0 := HX1.out.cell 1 0 rfl rfl
        have n1 := HX1.out.cell 1 1 rfl rfl
        have n2 := HX1.out.cell 1 2 rfl rfl
        have n3 := HX1.out.cell 1 3 rfl rfl
        have n4 := HX1.out.cell 1 4 rfl rfl
        have s0 := HX1.out.cell 0 0 rfl rfl
        have s1 := HX1.out.cell 0 1 rfl rfl
        have HR : Hid (R = none) := Lib.hid (HFAIL.out (by rw [HSZ.out]; have := HLE.out; simp; omega))
        go_wp2_with fail
        go_ret
        exact ⟨by rw [HR.out]; rfl, HB1.out⟩
      have d1 : decide ((m : Int) < 2) = false := by simp; omega
      have d1' : decide (m < 2) = false := by simp; omega
      have HLE : Hid (2 ≤ m) := Lib.hid (by omega)
      clear hle
      refine CF.mono ?_
      rintro e w1 ⟨rfl, hb1⟩
      clear CF
      have HB1 := Lib.hid (HB.out.trans (hb1.mono HB.out.size))
      have HX1 := Lib.hid (HX.out.step hb1)
      clear n0 n1 n2 n3 n4 s0 s1 hb1
      have n0 := HX1.out.cell 1 0 rfl rfl
      have n1 := HX1.out.cell 1 1 rfl rfl
      have n2 := HX1.out.cell 1 2 rfl rfl
      have n3 := HX1.out.cell 1 3 rfl rfl
      have n4 := HX1.out.cell 1 4 rfl rfl
      have s0 := HX1.out.cell 0 0 rfl rfl
      have s1 := HX1.out.cell 0 1 rfl rfl
      go_wp2_with fail
      refine (CS _ HB1.out).mono ?_
      rintro e w2 ⟨v2, rfl, ho2, hb2⟩
      obtain ⟨sa, sc, rfl, hrow⟩ := Row.of_own ho2
      clear ho2
      have HB2 := Lib.hid (HB1.out.trans (hb2.mono HB1.out.size))
      have HX2 := Lib.hid (HX1.out.step hb2)
      clear n0 n1 n2 n3 n4 s0 s1 hb2
      have n0 := HX2.out.cell 1 0 rfl rfl
      have n1 := HX2.out.cell 1 1 rfl rfl
      have n2 := HX2.out.cell 1 2 rfl rfl
      have n3 := HX2.out.cell 1 3 rfl rfl
      have n4 := HX2.out.cell 1 4 rfl rfl
      have s0 := HX2.out.cell 0 0 rfl rfl
      have s1 := HX2.out.cell 0 1 rfl rfl
      have HROW := Lib.hid hrow
      clear hrow
      obtain ⟨sm, hsm⟩ : ∃ x, sumI S = x := ⟨_, rfl⟩
      have CSum := sum_any _ _ _ _ _ HROW.out HSm.out
      rw [hsm] at CSum HSZ
      have HSM := Lib.hid hsm
      clear hsm
      by_cases h122 : sm ≤ 122
      rotate_left
      · have d2 : decide ((122 : Int) < sm) = true := by simp; omega
        go_wp2_with fail
        refine CSum.mono ?_
        rintro e w3 ⟨rfl, rfl⟩
        have H122 := Lib.hid h122
        clear h122
        have HR : Hid (R = none) := Lib.hid (HFAIL.out (by rw [HSZ.out]; have := H122.out; simp; intros; omega))
        go_wp2_with fail
        go_ret
        exact ⟨by rw [HR.out]; rfl, HB2.out⟩
      have d2 : decide ((122 : Int) < sm) = false := by simp; omega
      have H122 := Lib.hid h122
      clear h122
      cases root with
      | true =>
        have HP : Hid ((true && SZ) = true) := Lib.hid (by rw [HSZ.out]; simp [H122.out]; exact HLE.out)
        go_wp2_with fail
        refine CSum.mono ?_
        rintro e w3 ⟨rfl, rfl⟩
        obtain ⟨q1, q2, q3, q4, q5⟩ := HL1.out (by first | rfl | trivial)
        have HQ1 := Lib.hid (q1 HP.out)
        have HLL := Lib.hid q2
        have HKL := Lib.hid q3
        have HKS := Lib.hid q4
        have HT := Lib.hid q5
        have HK : Hid (∀ i, i < m → (K[i]?.getD []).length ≤ 200) := Lib.hid (fun i hi => by
          have := (q4 l[i] (List.getElem_mem (by omega))).1
          rw [← q3]; simpa [keysOf, show i < l.length by omega] using this)
        clear q1 q2 q3 q4 q5 CS CSum
        go_wp2_with fail
        go_loopw [8, 44] (fun s8 s44 wr => ∃ i far : Nat, i ≤ m ∧ far ≤ 1000 ∧ s44 = .int .i64 i ∧ s8 = .int .i64 far ∧ depK (fun t lo hi => depthT n t lo hi false) lo hi i far (l.drop i) = R ∧ Below w.heap.size w wr ∧ Boxes wr [(w.heap.size + 1, [.string (strOf lo), .string (strOf hi)]), (w.heap.size, [.int .i64 pg, .bool false, .slice ka m kc, .slice va vn vc, .slice ca m cc])]) (fun _ s _ => m - (intOf s).toNat)
        case atStart => exact ⟨0, 0, Nat.zero_le _, Nat.zero_le _, rfl, rfl, HQ1.out.symm, HB2.out, HX2.out⟩
        case round =>
          clear n0 n1 n2 n3 n4 s0 s1
          obtain ⟨i, far, hi', hfar, rfl, rfl, hdk, hb, hx⟩ := hrel
          have hx1 := hx.lt 1 rfl
          have hx0 := hx.lt 0 rfl
          have n0 := hx.cell 1 0 rfl rfl
          have n1 := hx.cell 1 1 rfl rfl
          have n2 := hx.cell 1 2 rfl rfl
          have n3 := hx.cell 1 3 rfl rfl
          have n4 := hx.cell 1 4 rfl rfl
          have s0 := hx.cell 0 0 rfl rfl
          have s1 := hx.cell 0 1 rfl rfl
          by_cases hlt : i < m
          · obtain ⟨bc, oc, kid, kcs, eca, hbc, hy, _, hkid, hcell⟩ := TabR.at HT.out hlt
            obtain ⟨c, hc1, hc2⟩ : ∃ c, l[i]? = some c ∧ c.2 = kid := by
              rw [List.getElem?_map] at hy
              cases hli : l[i]? with
              | none => rw [hli] at hy; cases hy
              | some c => rw [hli] at hy; exact ⟨c, rfl, by injection hy⟩
            have hkk0 : K[i]?.getD [] = c.1 := by rw [← HKL.out]; simp [keysOf, hc1]
            have hkb := HKS.out c (List.mem_of_getElem? hc1)
            obtain ⟨k, hk⟩ : ∃ k, c.1 = k := ⟨_, rfl⟩
            rw [hk] at hkk0 hkb
            rw [hc2] at hkb
            have hkk : k.length ≤ 1000 := by have := hkb.1; omega
            have HKB := Lib.hid hkb.2
            have HC1 := Lib.hid hc1
            have HC2 := Lib.hid hc2
            have HCK := Lib.hid hk
            have HDK := Lib.hid hdk
            clear hc1 hc2 hk hdk hy hkb
            subst eca
            cases n with
            | zero => exact hkid.elim
            | succ n =>
            obtain ⟨y1, y2, y3, y4, y5, y6, y7, y8, _, _, ey, _⟩ := hkid.openK
            subst ey
            have e0 := (hb.cell (p := ⟨bc, oc + i * 5 + 0, none⟩) hbc).trans (hcell 0 _ rfl)
            have e1 := (hb.cell (p := ⟨bc, oc + i * 5 + 1, none⟩) hbc).trans (hcell 1 _ rfl)
            have e2 := (hb.cell (p := ⟨bc, oc + i * 5 + 2, none⟩) hbc).trans (hcell 2 _ rfl)
            have e3 := (hb.cell (p := ⟨bc, oc + i * 5 + 3, none⟩) hbc).trans (hcell 3 _ rfl)
            have e4 := (hb.cell (p := ⟨bc, oc + i * 5 + 4, none⟩) hbc).trans (hcell 4 _ rfl)
            rw [Nat.add_zero] at e0
            have HKID := Lib.hid hkid
            have HB9 := Lib.hid hb
            have HX9 := Lib.hid hx
            have d0 : decide ((i : Int) < (m : Int)) = true := by simp; omega
            have d0' : decide (i < m) = true := by simp; omega
            clear hcell hkid hx
            cases i with
            | zero =>
              simp only [Nat.zero_mul, Nat.add_zero] at e0 e1 e2 e3 e4
              by_cases hla : m ≤ 0 + 1
              · have d3 : decide ((0 : Int) + 1 < (m : Int)) = false := by simp; omega
                have d3' : decide (0 + 1 < m) = false := by simp; omega
                simp only [Nat.zero_add, Int.zero_add] at d3 d3'
                have HNX : Hid (nextH hi (l.drop (0 + 1)) = hi) := Lib.hid (nextH_last (by have := HLL.out; omega))
                have HHI := Lib.hid hhi
                clear hla
                obtain ⟨D, hD⟩ : ∃ D, depthT (n + 1) kid lo hi false = D := ⟨_, rfl⟩
                have CD := fun W (hW : Below w.heap.size w W) => IH (HKID.out.below hW) HKB.out lo hi hlo HHI.out
                rw [hD] at CD
                have HD : Hid (depthT (n + 1) kid (if (0:Nat) = 0 then lo else k) (nextH hi (l.drop (0 + 1))) false = D) := Lib.hid (by rw [HNX.out]; exact hD)
                clear hD
                go_wp2_with fail
                refine (CD _ (by have := HB9.out.size; repeat (first | exact HB9.out | apply Below.al | (refine Below.st ?_ (by simp; omega))))).mono ?_
                rintro e w9 ⟨rfl, hb9⟩
                have hbq : Below w.heap.size w w9 := Below.trans (by have := HB9.out.size; repeat (first | exact HB9.out | apply Below.al | (refine Below.st ?_ (by simp; omega)))) (hb9.mono (by have := HB9.out.size; simp; omega))
                have hxq : Boxes w9 [(w.heap.size + 1, [.string (strOf lo), .string (strOf hi)]), (w.heap.size, [.int .i64 pg, .bool false, .slice _ m kc, .slice va vn vc, .slice _ m cc])] := Boxes.step (by repeat (first | exact HX9.out | apply Boxes.al | (refine Boxes.st ?_ (by intro p hp; simp at hp; rcases hp with rfl | rfl <;> simp <;> omega)))) hb9
                have HBQ := Lib.hid hbq
                have HXQ := Lib.hid hxq
                clear hbq hxq hb9 n0 n1 n2 n3 n4 s0 s1 e0 e1 e2 e3 e4 CD hb
                cases D with
                | none =>
                  have HR : Hid (R = none) := Lib.hid (by rw [← HDK.out]; exact depK_none HC1.out (by rw [HC2.out, HCK.out]; exact HD.out))
                  have hdi : depI none = -1 := rfl
                  rw [hdi]
                  clear hdi
                  go_wp2_with fail
                  go_ret
                  exact ⟨by rw [HR.out]; rfl, HBQ.out⟩
                | some d =>
                  have hdi : depI (some d) = (d : Int) := rfl
                  rw [hdi]
                  clear hdi
                  have hd9 : d + 1 ≤ 1000 := Nat.le_trans (depthT_lt HD.out) hn
                  have dz : ((d : Int) + 1 == 0) = false := beq_eq_false_iff_ne.2 (by omega)
                  have HR : Hid (depK (fun t lo hi => depthT (n + 1) t lo hi false) lo hi (0 + 1) (d + 1) (l.drop (0 + 1)) = R) := Lib.hid (by rw [← HDK.out]; exact (depK_go HC1.out (by rw [HC2.out, HCK.out]; exact HD.out) (by simp)).symm)
                  go_wp2_with fail
                  go_roundw
                  case rel => exact ⟨0 + 1, d + 1, by omega, by omega, by go_num, by go_num, HR.out, HBQ.out, HXQ.out⟩
                  case measure => simp [intOf]; omega
              have d3 : decide ((0 : Int) + 1 < (m : Int)) = true := by simp; omega
              have d3' : decide (0 + 1 < m) = true := by simp; omega
              obtain ⟨bk2, ok2, e2, hbk2, hck2⟩ := H1.out.key_at (show 0 + 1 < m by omega)
              obtain ⟨k2, hk2⟩ : ∃ k, K[0 + 1]?.getD [] = k := ⟨_, rfl⟩
              rw [hk2] at hck2
              have hk2l := HK.out (0 + 1) (by omega)
              rw [hk2] at hk2l
              have HNX : Hid (nextH hi (l.drop (0 + 1)) = k2) := Lib.hid (nextH_mid (by rw [HKL.out]; exact hk2) (by have := HLL.out; omega))
              subst e2
              simp only [Nat.zero_add, Int.zero_add] at d3 d3'
              have g2 := (hb.cell (p := ⟨bk2, ok2 + (0 + 1), none⟩) hbk2).trans hck2
              simp only [Nat.zero_add] at g2
              have hbk9 := Nat.lt_of_lt_of_le hbk2 hb.size
              have hla2 : 1 < m := by omega
              have hla3 : (1 : Int) < (m : Int) := by omega
              clear hla hck2 hk2
              have HHI : Hid (k2.length ≤ 1000) := Lib.hid (by omega)
              obtain ⟨D, hD⟩ : ∃ D, depthT (n + 1) kid lo k2 false = D := ⟨_, rfl⟩
              have CD := fun W (hW : Below w.heap.size w W) => IH (HKID.out.below hW) HKB.out lo k2 hlo HHI.out
              rw [hD] at CD
              have HD : Hid (depthT (n + 1) kid (if (0:Nat) = 0 then lo else k) (nextH hi (l.drop (0 + 1))) false = D) := Lib.hid (by rw [HNX.out]; exact hD)
              clear hD
              go_wp2_with fail
              refine (CD _ (by have := HB9.out.size; repeat (first | exact HB9.out | apply Below.al | (refine Below.st ?_ (by simp; omega))))).mono ?_
              rintro e w9 ⟨rfl, hb9⟩
              have hbq : Below w.heap.size w w9 := Below.trans (by have := HB9.out.size; repeat (first | exact HB9.out | apply Below.al | (refine Below.st ?_ (by simp; omega)))) (hb9.mono (by have := HB9.out.size; simp; omega))
              have hxq : Boxes w9 [(w.heap.size + 1, [.string (strOf lo), .string (strOf hi)]), (w.heap.size, [.int .i64 pg, .bool false, .slice _ m kc, .slice va vn vc, .slice _ m cc])] := Boxes.step (by repeat (first | exact HX9.out | apply Boxes.al | (refine Boxes.st ?_ (by intro p hp; simp at hp; rcases hp with rfl | rfl <;> simp <;> omega)))) hb9
              have HBQ := Lib.hid hbq
              have HXQ := Lib.hid hxq
              clear hbq hxq hb9 n0 n1 n2 n3 n4 s0 s1 e0 e1 e2 e3 e4 CD hb
              cases D with
              | none =>
                have HR : Hid (R = none) := Lib.hid (by rw [← HDK.out]; exact depK_none HC1.out (by rw [HC2.out, HCK.out]; exact HD.out))
                have hdi : depI none = -1 := rfl
                rw [hdi]
                clear hdi
                go_wp2_with fail
                go_ret
                exact ⟨by rw [HR.out]; rfl, HBQ.out⟩
              | some d =>
                have hdi : depI (some d) = (d : Int) := rfl
                rw [hdi]
                clear hdi
                have hd9 : d + 1 ≤ 1000 := Nat.le_trans (depthT_lt HD.out) hn
                have dz : ((d : Int) + 1 == 0) = false := beq_eq_false_iff_ne.2 (by omega)
                have HR : Hid (depK (fun t lo hi => depthT (n + 1) t lo hi false) lo hi (0 + 1) (d + 1) (l.drop (0 + 1)) = R) := Lib.hid (by rw [← HDK.out]; exact (depK_go HC1.out (by rw [HC2.out, HCK.out]; exact HD.out) (by simp)).symm)
                go_wp2_with fail
                go_roundw
                case rel => exact ⟨0 + 1, d + 1, by omega, by omega, by go_num, by go_num, HR.out, HBQ.out, HXQ.out⟩
                case measure => simp [intOf]; omega
            | succ i =>
              obtain ⟨bk, ok, eka, hbk, hck⟩ := H1.out.key_at hlt
              rw [hkk0] at hck
              subst eka
              have g1 := (hb.cell (p := ⟨bk, ok + (i + 1), none⟩) hbk).trans hck
              have d5 : decide ((0 : Int) < ((i + 1 : Nat) : Int)) = true := decide_eq_true (by omega)
              have d5' : decide (0 < i + 1) = true := by simp
              have hbk9 := Nat.lt_of_lt_of_le hbk hb.size
              clear hck
              by_cases hla : m ≤ i + 1 + 1
              · have d3 : decide ((i : Int) + 1 + 1 < (m : Int)) = false := by simp; omega
                have d3' : decide (i + 1 + 1 < m) = false := by simp; omega
                have HNX : Hid (nextH hi (l.drop (i + 1 + 1)) = hi) := Lib.hid (nextH_last (by have := HLL.out; omega))
                have HHI := Lib.hid hhi
                clear hla
                obtain ⟨D, hD⟩ : ∃ D, depthT (n + 1) kid k hi false = D := ⟨_, rfl⟩
                have CD := fun W (hW : Below w.heap.size w W) => IH (HKID.out.below hW) HKB.out k hi hkk HHI.out
                rw [hD] at CD
                have HD : Hid (depthT (n + 1) kid (if i + 1 = 0 then lo else k) (nextH hi (l.drop (i + 1 + 1))) false = D) := Lib.hid (by rw [HNX.out]; exact hD)
                clear hD
                go_wp2_with fail
                refine (CD _ (by have := HB9.out.size; repeat (first | exact HB9.out | apply Below.al | (refine Below.st ?_ (by simp; omega))))).mono ?_
                rintro e w9 ⟨rfl, hb9⟩
                have hbq : Below w.heap.size w w9 := Below.trans (by have := HB9.out.size; repeat (first | exact HB9.out | apply Below.al | (refine Below.st ?_ (by simp; omega)))) (hb9.mono (by have := HB9.out.size; simp; omega))
                have hxq : Boxes w9 [(w.heap.size + 1, [.string (strOf lo), .string (strOf hi)]), (w.heap.size, [.int .i64 pg, .bool false, .slice _ m kc, .slice va vn vc, .slice _ m cc])] := Boxes.step (by repeat (first | exact HX9.out | apply Boxes.al | (refine Boxes.st ?_ (by intro p hp; simp at hp; rcases hp with rfl | rfl <;> simp <;> omega)))) hb9
                have HBQ := Lib.hid hbq
                have HXQ := Lib.hid hxq
                clear hbq hxq hb9 n0 n1 n2 n3 n4 s0 s1 e0 e1 e2 e3 e4 CD hb
                cases D with
                | none =>
                  have HR : Hid (R = none) := Lib.hid (by rw [← HDK.out]; exact depK_none HC1.out (by rw [HC2.out, HCK.out]; exact HD.out))
                  have hdi : depI none = -1 := rfl
                  rw [hdi]
                  clear hdi
                  go_wp2_with fail
                  go_ret
                  exact ⟨by rw [HR.out]; rfl, HBQ.out⟩
                | some d =>
                  have hdi : depI (some d) = (d : Int) := rfl
                  rw [hdi]
                  clear hdi
                  have hd9 : d + 1 ≤ 1000 := Nat.le_trans (depthT_lt HD.out) hn
                  have dz : ((d : Int) + 1 == 0) = false := beq_eq_false_iff_ne.2 (by omega)
                  by_cases hfd : d + 1 = far
                  · have dy : ((d : Int) + 1 != (far : Int)) = false := by simp; omega
                    have HR : Hid (depK (fun t lo hi => depthT (n + 1) t lo hi false) lo hi (i + 1 + 1) (d + 1) (l.drop (i + 1 + 1)) = R) := Lib.hid (by rw [← HDK.out]; exact (depK_go HC1.out (by rw [HC2.out, HCK.out]; exact HD.out) (by simp [hfd])).symm)
                    have HFD := Lib.hid hfd
                    clear hfd
                    go_wp2_with fail
                    go_roundw
                    case rel => exact ⟨i + 1 + 1, d + 1, by omega, by omega, by go_num, by go_num, HR.out, HBQ.out, HXQ.out⟩
                    case measure => simp [intOf]; omega
                  · have dy : ((d : Int) + 1 != (far : Int)) = true := by simp; omega
                    have HR : Hid (R = none) := Lib.hid (by rw [← HDK.out]; exact depK_far HC1.out (by rw [HC2.out, HCK.out]; exact HD.out) ⟨by omega, hfd⟩)
                    have HFD := Lib.hid hfd
                    clear hfd
                    go_wp2_with fail
                    go_ret
                    exact ⟨by rw [HR.out]; rfl, HBQ.out⟩
              have d3 : decide ((i : Int) + 1 + 1 < (m : Int)) = true := by simp; omega
              have d3' : decide (i + 1 + 1 < m) = true := by simp; omega
              obtain ⟨bk2, ok2, e2, hbk2, hck2⟩ := H1.out.key_at (show i + 1 + 1 < m by omega)
              obtain ⟨k2, hk2⟩ : ∃ k, K[i + 1 + 1]?.getD [] = k := ⟨_, rfl⟩
              rw [hk2] at hck2
              have hk2l := HK.out (i + 1 + 1) (by omega)
              rw [hk2] at hk2l
              have HNX : Hid (nextH hi (l.drop (i + 1 + 1)) = k2) := Lib.hid (nextH_mid (by rw [HKL.out]; exact hk2) (by have := HLL.out; omega))
              cases e2
              have g2 := (hb.cell (p := ⟨bk, ok + (i + 1 + 1), none⟩) hbk2).trans hck2
              have hla2 : i + 1 + 1 < m := by omega
              have hla3 : (i : Int) + 1 + 1 < (m : Int) := by omega
              clear hla hck2 hk2
              have HHI : Hid (k2.length ≤ 1000) := Lib.hid (by omega)
              obtain ⟨D, hD⟩ : ∃ D, depthT (n + 1) kid k k2 false = D := ⟨_, rfl⟩
              have CD := fun W (hW : Below w.heap.size w W) => IH (HKID.out.below hW) HKB.out k k2 hkk HHI.out
              rw [hD] at CD
              have HD : Hid (depthT (n + 1) kid (if i + 1 = 0 then lo else k) (nextH hi (l.drop (i + 1 + 1))) false = D) := Lib.hid (by rw [HNX.out]; exact hD)
              clear hD
              go_wp2_with fail
              refine (CD _ (by have := HB9.out.size; repeat (first | exact HB9.out | apply Below.al | (refine Below.st ?_ (by simp; omega))))).mono ?_
              rintro e w9 ⟨rfl, hb9⟩
              have hbq : Below w.heap.size w w9 := Below.trans (by have := HB9.out.size; repeat (first | exact HB9.out | apply Below.al | (refine Below.st ?_ (by simp; omega)))) (hb9.mono (by have := HB9.out.size; simp; omega))
              have hxq : Boxes w9 [(w.heap.size + 1, [.string (strOf lo), .string (strOf hi)]), (w.heap.size, [.int .i64 pg, .bool false, .slice _ m kc, .slice va vn vc, .slice _ m cc])] := Boxes.step (by repeat (first | exact HX9.out | apply Boxes.al | (refine Boxes.st ?_ (by intro p hp; simp at hp; rcases hp with rfl | rfl <;> simp <;> omega)))) hb9
              have HBQ := Lib.hid hbq
              have HXQ := Lib.hid hxq
              clear hbq hxq hb9 n0 n1 n2 n3 n4 s0 s1 e0 e1 e2 e3 e4 CD hb
              cases D with
              | none =>
                have HR : Hid (R = none) := Lib.hid (by rw [← HDK.out]; exact depK_none HC1.out (by rw [HC2.out, HCK.out]; exact HD.out))
                have hdi : depI none = -1 := rfl
                rw [hdi]
                clear hdi
                go_wp2_with fail
                go_ret
                exact ⟨by rw [HR.out]; rfl, HBQ.out⟩
              | some d =>
                have hdi : depI (some d) = (d : Int) := rfl
                rw [hdi]
                clear hdi
                have hd9 : d + 1 ≤ 1000 := Nat.le_trans (depthT_lt HD.out) hn
                have dz : ((d : Int) + 1 == 0) = false := beq_eq_false_iff_ne.2 (by omega)
                by_cases hfd : d + 1 = far
                · have dy : ((d : Int) + 1 != (far : Int)) = false := by simp; omega
                  have HR : Hid (depK (fun t lo hi => depthT (n + 1) t lo hi false) lo hi (i + 1 + 1) (d + 1) (l.drop (i + 1 + 1)) = R) := Lib.hid (by rw [← HDK.out]; exact (depK_go HC1.out (by rw [HC2.out, HCK.out]; exact HD.out) (by simp [hfd])).symm)
                  have HFD := Lib.hid hfd
                  clear hfd
                  go_wp2_with fail
                  go_roundw
                  case rel => exact ⟨i + 1 + 1, d + 1, by omega, by omega, by go_num, by go_num, HR.out, HBQ.out, HXQ.out⟩
                  case measure => simp [intOf]; omega
                · have dy : ((d : Int) + 1 != (far : Int)) = true := by simp; omega
                  have HR : Hid (R = none) := Lib.hid (by rw [← HDK.out]; exact depK_far HC1.out (by rw [HC2.out, HCK.out]; exact HD.out) ⟨by omega, hfd⟩)
                  have HFD := Lib.hid hfd
                  clear hfd
                  go_wp2_with fail
                  go_ret
                  exact ⟨by rw [HR.out]; rfl, HBQ.out⟩
          · obtain rfl : i = m := by omega
            have HR : Hid (R = some far) := Lib.hid (by rw [← hdk, List.drop_of_length_le (by have := HLL.out; omega)]; rfl)
            have HB9 := Lib.hid hb
            clear hdk hb hx hx0 hx1
            go_wp2_with fail
            go_ret
            exact ⟨by rw [HR.out]; rfl, HB9.out⟩
      | false =>
        have CS2 := CS _ HB2.out
        go_wp2_with fail
        refine CSum.mono ?_
        rintro e w3 ⟨rfl, rfl⟩
        go_wp2_with fail
        refine CS2.mono ?_
        rintro e w3 ⟨v3, rfl, ho3, hb3⟩
        obtain ⟨sb, sd, rfl, hrow3⟩ := Row.of_own ho3
        clear ho3 CS2
        have HB3 := Lib.hid (HB2.out.trans (hb3.mono HB2.out.size))
        have HX3 := Lib.hid (HX2.out.step hb3)
        clear n0 n1 n2 n3 n4 s0 s1 hb3
        have n0 := HX3.out.cell 1 0 rfl rfl
        have n1 := HX3.out.cell 1 1 rfl rfl
        have n2 := HX3.out.cell 1 2 rfl rfl
        have n3 := HX3.out.cell 1 3 rfl rfl
        have n4 := HX3.out.cell 1 4 rfl rfl
        have s0 := HX3.out.cell 0 0 rfl rfl
        have s1 := HX3.out.cell 0 1 rfl rfl
        have CL := low_any _ _ _ _ _ hrow3 HSm.out
        rw [HSM.out] at CL
        clear hrow3
        by_cases h30 : sm < 30
        · rw [decide_eq_true h30] at CL
          have H30 := Lib.hid h30
          clear h30
          go_wp2_with fail
          refine CL.mono ?_
          rintro e w4 ⟨rfl, rfl⟩
          have HR : Hid (R = none) := Lib.hid (HFAIL.out (by rw [HSZ.out]; have := H30.out; simp; intros; omega))
          go_wp2_with fail
          go_ret
          exact ⟨by rw [HR.out]; rfl, HB3.out⟩
        rw [decide_eq_false h30] at CL
        have H30 := Lib.hid h30
        clear h30
        have HP : Hid ((true && SZ) = true) := Lib.hid (by rw [HSZ.out]; have := H30.out; have := H122.out; have := HLE.out; simp; omega)
        go_wp2_with fail
        refine CL.mono ?_
        rintro e w4 ⟨rfl, rfl⟩
        obtain ⟨q1, q2, q3, q4, q5⟩ := HL1.out (by first | rfl | trivial)
        have HQ1 := Lib.hid (q1 HP.out)
        have HLL := Lib.hid q2
        have HKL := Lib.hid q3
        have HKS := Lib.hid q4
        have HT := Lib.hid q5
        have HK : Hid (∀ i, i < m → (K[i]?.getD []).length ≤ 200) := Lib.hid (fun i hi => by
          have := (q4 l[i] (List.getElem_mem (by omega))).1
          rw [← q3]; simpa [keysOf, show i < l.length by omega] using this)
        clear q1 q2 q3 q4 q5 CS CSum
        go_wp2_with fail
        go_loopw [8, 44] (fun s8 s44 wr => ∃ i far : Nat, i ≤ m ∧ far ≤ 1000 ∧ s44 = .int .i64 i ∧ s8 = .int .i64 far ∧ depK (fun t lo hi => depthT n t lo hi false) lo hi i far (l.drop i) = R ∧ Below w.heap.size w wr ∧ Boxes wr [(w.heap.size + 1, [.string (strOf lo), .string (strOf hi)]), (w.heap.size, [.int .i64 pg, .bool false, .slice ka m kc, .slice va vn vc, .slice ca m cc])]) (fun _ s _ => m - (intOf s).toNat)
        case atStart => exact ⟨0, 0, Nat.zero_le _, Nat.zero_le _, rfl, rfl, HQ1.out.symm, HB3.out, HX3.out⟩
        case round =>
          clear n0 n1 n2 n3 n4 s0 s1
          obtain ⟨i, far, hi', hfar, rfl, rfl, hdk, hb, hx⟩ := hrel
          have hx1 := hx.lt 1 rfl
          have hx0 := hx.lt 0 rfl
          have n0 := hx.cell 1 0 rfl rfl
          have n1 := hx.cell 1 1 rfl rfl
          have n2 := hx.cell 1 2 rfl rfl
          have n3 := hx.cell 1 3 rfl rfl
          have n4 := hx.cell 1 4 rfl rfl
          have s0 := hx.cell 0 0 rfl rfl
          have s1 := hx.cell 0 1 rfl rfl
          by_cases hlt : i < m
          · obtain ⟨bc, oc, kid, kcs, eca, hbc, hy, _, hkid, hcell⟩ := TabR.at HT.out hlt
            obtain ⟨c, hc1, hc2⟩ : ∃ c, l[i]? = some c ∧ c.2 = kid := by
              rw [List.getElem?_map] at hy
              cases hli : l[i]? with
              | none => rw [hli] at hy; cases hy
              | some c => rw [hli] at hy; exact ⟨c, rfl, by injection hy⟩
            have hkk0 : K[i]?.getD [] = c.1 := by rw [← HKL.out]; simp [keysOf, hc1]
            have hkb := HKS.out c (List.mem_of_getElem? hc1)
            obtain ⟨k, hk⟩ : ∃ k, c.1 = k := ⟨_, rfl⟩
            rw [hk] at hkk0 hkb
            rw [hc2] at hkb
            have hkk : k.length ≤ 1000 := by have := hkb.1; omega
            have HKB := Lib.hid hkb.2
            have HC1 := Lib.hid hc1
            have HC2 := Lib.hid hc2
            have HCK := Lib.hid hk
            have HDK := Lib.hid hdk
            clear hc1 hc2 hk hdk hy hkb
            subst eca
            cases n with
            | zero => exact hkid.elim
            | succ n =>
            obtain ⟨y1, y2, y3, y4, y5, y6, y7, y8, _, _, ey, _⟩ := hkid.openK
            subst ey
            have e0 := (hb.cell (p := ⟨bc, oc + i * 5 + 0, none⟩) hbc).trans (hcell 0 _ rfl)
            have e1 := (hb.cell (p := ⟨bc, oc + i * 5 + 1, none⟩) hbc).trans (hcell 1 _ rfl)
            have e2 := (hb.cell (p := ⟨bc, oc + i * 5 + 2, none⟩) hbc).trans (hcell 2 _ rfl)
            have e3 := (hb.cell (p := ⟨bc, oc + i * 5 + 3, none⟩) hbc).trans (hcell 3 _ rfl)
            have e4 := (hb.cell (p := ⟨bc, oc + i * 5 + 4, none⟩) hbc).trans (hcell 4 _ rfl)
            rw [Nat.add_zero] at e0
            have HKID := Lib.hid hkid
            have HB9 := Lib.hid hb
            have HX9 := Lib.hid hx
            have d0 : decide ((i : Int) < (m : Int)) = true := by simp; omega
            have d0' : decide (i < m) = true := by simp; omega
            clear hcell hkid hx
            cases i with
            | zero =>
              simp only [Nat.zero_mul, Nat.add_zero] at e0 e1 e2 e3 e4
              by_cases hla : m ≤ 0 + 1
              · have d3 : decide ((0 : Int) + 1 < (m : Int)) = false := by simp; omega
                have d3' : decide (0 + 1 < m) = false := by simp; omega
                simp only [Nat.zero_add, Int.zero_add] at d3 d3'
                have HNX : Hid (nextH hi (l.drop (0 + 1)) = hi) := Lib.hid (nextH_last (by have := HLL.out; omega))
                have HHI := Lib.hid hhi
                clear hla
                obtain ⟨D, hD⟩ : ∃ D, depthT (n + 1) kid lo hi false = D := ⟨_, rfl⟩
                have CD := fun W (hW : Below w.heap.size w W) => IH (HKID.out.below hW) HKB.out lo hi hlo HHI.out
                rw [hD] at CD
                have HD : Hid (depthT (n + 1) kid (if (0:Nat) = 0 then lo else k) (nextH hi (l.drop (0 + 1))) false = D) := Lib.hid (by rw [HNX.out]; exact hD)
                clear hD
                go_wp2_with fail
                refine (CD _ (by have := HB9.out.size; repeat (first | exact HB9.out | apply Below.al | (refine Below.st ?_ (by simp; omega))))).mono ?_
                rintro e w9 ⟨rfl, hb9⟩
                have hbq : Below w.heap.size w w9 := Below.trans (by have := HB9.out.size; repeat (first | exact HB9.out | apply Below.al | (refine Below.st ?_ (by simp; omega)))) (hb9.mono (by have := HB9.out.size; simp; omega))
                have hxq : Boxes w9 [(w.heap.size + 1, [.string (strOf lo), .string (strOf hi)]), (w.heap.size, [.int .i64 pg, .bool false, .slice _ m kc, .slice va vn vc, .slice _ m cc])] := Boxes.step (by repeat (first | exact HX9.out | apply Boxes.al | (refine Boxes.st ?_ (by intro p hp; simp at hp; rcases hp with rfl | rfl <;> simp <;> omega)))) hb9
                have HBQ := Lib.hid hbq
                have HXQ := Lib.hid hxq
                clear hbq hxq hb9 n0 n1 n2 n3 n4 s0 s1 e0 e1 e2 e3 e4 CD hb
                cases D with
                | none =>
                  have HR : Hid (R = none) := Lib.hid (by rw [← HDK.out]; exact depK_none HC1.out (by rw [HC2.out, HCK.out]; exact HD.out))
                  have hdi : depI none = -1 := rfl
                  rw [hdi]
                  clear hdi
                  go_wp2_with fail
                  go_ret
                  exact ⟨by rw [HR.out]; rfl, HBQ.out⟩
                | some d =>
                  have hdi : depI (some d) = (d : Int) := rfl
                  rw [hdi]
                  clear hdi
                  have hd9 : d + 1 ≤ 1000 := Nat.le_trans (depthT_lt HD.out) hn
                  have dz : ((d : Int) + 1 == 0) = false := beq_eq_false_iff_ne.2 (by omega)
                  have HR : Hid (depK (fun t lo hi => depthT (n + 1) t lo hi false) lo hi (0 + 1) (d + 1) (l.drop (0 + 1)) = R) := Lib.hid (by rw [← HDK.out]; exact (depK_go HC1.out (by rw [HC2.out, HCK.out]; exact HD.out) (by simp)).symm)
                  go_wp2_with fail
                  go_roundw
                  case rel => exact ⟨0 + 1, d + 1, by omega, by omega, by go_num, by go_num, HR.out, HBQ.out, HXQ.out⟩
                  case measure => simp [intOf]; omega
              have d3 : decide ((0 : Int) + 1 < (m : Int)) = true := by simp; omega
              have d3' : decide (0 + 1 < m) = true := by simp; omega
              obtain ⟨bk2, ok2, e2, hbk2, hck2⟩ := H1.out.key_at (show 0 + 1 < m by omega)
              obtain ⟨k2, hk2⟩ : ∃ k, K[0 + 1]?.getD [] = k := ⟨_, rfl⟩
              rw [hk2] at hck2
              have hk2l := HK.out (0 + 1) (by omega)
              rw [hk2] at hk2l
              have HNX : Hid (nextH hi (l.drop (0 + 1)) = k2) := Lib.hid (nextH_mid (by rw [HKL.out]; exact hk2) (by have := HLL.out; omega))
              subst e2
              simp only [Nat.zero_add, Int.zero_add] at d3 d3'
              have g2 := (hb.cell (p := ⟨bk2, ok2 + (0 + 1), none⟩) hbk2).trans hck2
              simp only [Nat.zero_add] at g2
              have hbk9 := Nat.lt_of_lt_of_le hbk2 hb.size
              have hla2 : 1 < m := by omega
              have hla3 : (1 : Int) < (m : Int) := by omega
              clear hla hck2 hk2
              have HHI : Hid (k2.length ≤ 1000) := Lib.hid (by omega)
              obtain ⟨D, hD⟩ : ∃ D, depthT (n + 1) kid lo k2 false = D := ⟨_, rfl⟩
              have CD := fun W (hW : Below w.heap.size w W) => IH (HKID.out.below hW) HKB.out lo k2 hlo HHI.out
              rw [hD] at CD
              have HD : Hid (depthT (n + 1) kid (if (0:Nat) = 0 then lo else k) (nextH hi (l.drop (0 + 1))) false = D) := Lib.hid (by rw [HNX.out]; exact hD)
              clear hD
              go_wp2_with fail
              refine (CD _ (by have := HB9.out.size; repeat (first | exact HB9.out | apply Below.al | (refine Below.st ?_ (by simp; omega))))).mono ?_
              rintro e w9 ⟨rfl, hb9⟩
              have hbq : Below w.heap.size w w9 := Below.trans (by have := HB9.out.size; repeat (first | exact HB9.out | apply Below.al | (refine Below.st ?_ (by simp; omega)))) (hb9.mono (by have := HB9.out.size; simp; omega))
              have hxq : Boxes w9 [(w.heap.size + 1, [.string (strOf lo), .string (strOf hi)]), (w.heap.size, [.int .i64 pg, .bool false, .slice _ m kc, .slice va vn vc, .slice _ m cc])] := Boxes.step (by repeat (first | exact HX9.out | apply Boxes.al | (refine Boxes.st ?_ (by intro p hp; simp at hp; rcases hp with rfl | rfl <;> simp <;> omega)))) hb9
              have HBQ := Lib.hid hbq
              have HXQ := Lib.hid hxq
              clear hbq hxq hb9 n0 n1 n2 n3 n4 s0 s1 e0 e1 e2 e3 e4 CD hb
              cases D with
              | none =>
                have HR : Hid (R = none) := Lib.hid (by rw [← HDK.out]; exact depK_none HC1.out (by rw [HC2.out, HCK.out]; exact HD.out))
                have hdi : depI none = -1 := rfl
                rw [hdi]
                clear hdi
                go_wp2_with fail
                go_ret
                exact ⟨by rw [HR.out]; rfl, HBQ.out⟩
              | some d =>
                have hdi : depI (some d) = (d : Int) := rfl
                rw [hdi]
                clear hdi
                have hd9 : d + 1 ≤ 1000 := Nat.le_trans (depthT_lt HD.out) hn
                have dz : ((d : Int) + 1 == 0) = false := beq_eq_false_iff_ne.2 (by omega)
                have HR : Hid (depK (fun t lo hi => depthT (n + 1) t lo hi false) lo hi (0 + 1) (d + 1) (l.drop (0 + 1)) = R) := Lib.hid (by rw [← HDK.out]; exact (depK_go HC1.out (by rw [HC2.out, HCK.out]; exact HD.out) (by simp)).symm)
                go_wp2_with fail
                go_roundw
                case rel => exact ⟨0 + 1, d + 1, by omega, by omega, by go_num, by go_num, HR.out, HBQ.out, HXQ.out⟩
                case measure => simp [intOf]; omega
            | succ i =>
              obtain ⟨bk, ok, eka, hbk, hck⟩ := H1.out.key_at hlt
              rw [hkk0] at hck
              subst eka
              have g1 := (hb.cell (p := ⟨bk, ok + (i + 1), none⟩) hbk).trans hck
              have d5 : decide ((0 : Int) < ((i + 1 : Nat) : Int)) = true := decide_eq_true (by omega)
              have d5' : decide (0 < i + 1) = true := by simp
              have hbk9 := Nat.lt_of_lt_of_le hbk hb.size
              clear hck
              by_cases hla : m ≤ i + 1 + 1
              · have d3 : decide ((i : Int) + 1 + 1 < (m : Int)) = false := by simp; omega
                have d3' : decide (i + 1 + 1 < m) = false := by simp; omega
                have HNX : Hid (nextH hi (l.drop (i + 1 + 1)) = hi) := Lib.hid (nextH_last (by have := HLL.out; omega))
                have HHI := Lib.hid hhi
                clear hla
                obtain ⟨D, hD⟩ : ∃ D, depthT (n + 1) kid k hi false = D := ⟨_, rfl⟩
                have CD := fun W (hW : Below w.heap.size w W) => IH (HKID.out.below hW) HKB.out k hi hkk HHI.out
                rw [hD] at CD
                have HD : Hid (depthT (n + 1) kid (if i + 1 = 0 then lo else k) (nextH hi (l.drop (i + 1 + 1))) false = D) := Lib.hid (by rw [HNX.out]; exact hD)
                clear hD
                go_wp2_with fail
                refine (CD _ (by have := HB9.out.size; repeat (first | exact HB9.out | apply Below.al | (refine Below.st ?_ (by simp; omega))))).mono ?_
                rintro e w9 ⟨rfl, hb9⟩
                have hbq : Below w.heap.size w w9 := Below.trans (by have := HB9.out.size; repeat (first | exact HB9.out | apply Below.al | (refine Below.st ?_ (by simp; omega)))) (hb9.mono (by have := HB9.out.size; simp; omega))
                have hxq : Boxes w9 [(w.heap.size + 1, [.string (strOf lo), .string (strOf hi)]), (w.heap.size, [.int .i64 pg, .bool false, .slice _ m kc, .slice va vn vc, .slice _ m cc])] := Boxes.step (by repeat (first | exact HX9.out | apply Boxes.al | (refine Boxes.st ?_ (by intro p hp; simp at hp; rcases hp with rfl | rfl <;> simp <;> omega)))) hb9
                have HBQ := Lib.hid hbq
                have HXQ := Lib.hid hxq
                clear hbq hxq hb9 n0 n1 n2 n3 n4 s0 s1 e0 e1 e2 e3 e4 CD hb
                cases D with
                | none =>
                  have HR : Hid (R = none) := Lib.hid (by rw [← HDK.out]; exact depK_none HC1.out (by rw [HC2.out, HCK.out]; exact HD.out))
                  have hdi : depI none = -1 := rfl
                  rw [hdi]
                  clear hdi
                  go_wp2_with fail
                  go_ret
                  exact ⟨by rw [HR.out]; rfl, HBQ.out⟩
                | some d =>
                  have hdi : depI (some d) = (d : Int) := rfl
                  rw [hdi]
                  clear hdi
                  have hd9 : d + 1 ≤ 1000 := Nat.le_trans (depthT_lt HD.out) hn
                  have dz : ((d : Int) + 1 == 0) = false := beq_eq_false_iff_ne.2 (by omega)
                  by_cases hfd : d + 1 = far
                  · have dy : ((d : Int) + 1 != (far : Int)) = false := by simp; omega
                    have HR : Hid (depK (fun t lo hi => depthT (n + 1) t lo hi false) lo hi (i + 1 + 1) (d + 1) (l.drop (i + 1 + 1)) = R) := Lib.hid (by rw [← HDK.out]; exact (depK_go HC1.out (by rw [HC2.out, HCK.out]; exact HD.out) (by simp [hfd])).symm)
                    have HFD := Lib.hid hfd
                    clear hfd
                    go_wp2_with fail
                    go_roundw
                    case rel => exact ⟨i + 1 + 1, d + 1, by omega, by omega, by go_num, by go_num, HR.out, HBQ.out, HXQ.out⟩
                    case measure => simp [intOf]; omega
                  · have dy : ((d : Int) + 1 != (far : Int)) = true := by simp; omega
                    have HR : Hid (R = none) := Lib.hid (by rw [← HDK.out]; exact depK_far HC1.out (by rw [HC2.out, HCK.out]; exact HD.out) ⟨by omega, hfd⟩)
                    have HFD := Lib.hid hfd
                    clear hfd
                    go_wp2_with fail
                    go_ret
                    exact ⟨by rw [HR.out]; rfl, HBQ.out⟩
              have d3 : decide ((i : Int) + 1 + 1 < (m : Int)) = true := by simp; omega
              have d3' : decide (i + 1 + 1 < m) = true := by simp; omega
              obtain ⟨bk2, ok2, e2, hbk2, hck2⟩ := H1.out.key_at (show i + 1 + 1 < m by omega)
              obtain ⟨k2, hk2⟩ : ∃ k, K[i + 1 + 1]?.getD [] = k := ⟨_, rfl⟩
              rw [hk2] at hck2
              have hk2l := HK.out (i + 1 + 1) (by omega)
              rw [hk2] at hk2l
              have HNX : Hid (nextH hi (l.drop (i + 1 + 1)) = k2) := Lib.hid (nextH_mid (by rw [HKL.out]; exact hk2) (by have := HLL.out; omega))
              cases e2
              have g2 := (hb.cell (p := ⟨bk, ok + (i + 1 + 1), none⟩) hbk2).trans hck2
              have hla2 : i + 1 + 1 < m := by omega
              have hla3 : (i : Int) + 1 + 1 < (m : Int) := by omega
              clear hla hck2 hk2
              have HHI : Hid (k2.length ≤ 1000) := Lib.hid (by omega)
              obtain ⟨D, hD⟩ : ∃ D, depthT (n + 1) kid k k2 false = D := ⟨_, rfl⟩
              have CD := fun W (hW : Below w.heap.size w W) => IH (HKID.out.below hW) HKB.out k k2 hkk HHI.out
              rw [hD] at CD
              have HD : Hid (depthT (n + 1) kid (if i + 1 = 0 then lo else k) (nextH hi (l.drop (i + 1 + 1))) false = D) := Lib.hid (by rw [HNX.out]; exact hD)
              clear hD
              go_wp2_with fail
              refine (CD _ (by have := HB9.out.size; repeat (first | exact HB9.out | apply Below.al | (refine Below.st ?_ (by simp; omega))))).mono ?_
              rintro e w9 ⟨rfl, hb9⟩
              have hbq : Below w.heap.size w w9 := Below.trans (by have := HB9.out.size; repeat (first | exact HB9.out | apply Below.al | (refine Below.st ?_ (by simp; omega)))) (hb9.mono (by have := HB9.out.size; simp; omega))
              have hxq : Boxes w9 [(w.heap.size + 1, [.string (strOf lo), .string (strOf hi)]), (w.heap.size, [.int .i64 pg, .bool false, .slice _ m kc, .slice va vn vc, .slice _ m cc])] := Boxes.step (by repeat (first | exact HX9.out | apply Boxes.al | (refine Boxes.st ?_ (by intro p hp; simp at hp; rcases hp with rfl | rfl <;> simp <;> omega)))) hb9
              have HBQ := Lib.hid hbq
              have HXQ := Lib.hid hxq
              clear hbq hxq hb9 n0 n1 n2 n3 n4 s0 s1 e0 e1 e2 e3 e4 CD hb
              cases D with
              | none =>
                have HR : Hid (R = none) := Lib.hid (by rw [← HDK.out]; exact depK_none HC1.out (by rw [HC2.out, HCK.out]; exact HD.out))
                have hdi : depI none = -1 := rfl
                rw [hdi]
                clear hdi
                go_wp2_with fail
                go_ret
                exact ⟨by rw [HR.out]; rfl, HBQ.out⟩
              | some d =>
                have hdi : depI (some d) = (d : Int) := rfl
                rw [hdi]
                clear hdi
                have hd9 : d + 1 ≤ 1000 := Nat.le_trans (depthT_lt HD.out) hn
                have dz : ((d : Int) + 1 == 0) = false := beq_eq_false_iff_ne.2 (by omega)
                by_cases hfd : d + 1 = far
                · have dy : ((d : Int) + 1 != (far : Int)) = false := by simp; omega
                  have HR : Hid (depK (fun t lo hi => depthT (n + 1) t lo hi false) lo hi (i + 1 + 1) (d + 1) (l.drop (i + 1 + 1)) = R) := Lib.hid (by rw [← HDK.out]; exact (depK_go HC1.out (by rw [HC2.out, HCK.out]; exact HD.out) (by simp [hfd])).symm)
                  have HFD := Lib.hid hfd
                  clear hfd
                  go_wp2_with fail
                  go_roundw
                  case rel => exact ⟨i + 1 + 1, d + 1, by omega, by omega, by go_num, by go_num, HR.out, HBQ.out, HXQ.out⟩
                  case measure => simp [intOf]; omega
                · have dy : ((d : Int) + 1 != (far : Int)) = true := by simp; omega
                  have HR : Hid (R = none) := Lib.hid (by rw [← HDK.out]; exact depK_far HC1.out (by rw [HC2.out, HCK.out]; exact HD.out) ⟨by omega, hfd⟩)
                  have HFD := Lib.hid hfd
                  clear hfd
                  go_wp2_with fail
                  go_ret
                  exact ⟨by rw [HR.out]; rfl, HBQ.out⟩
          · obtain rfl : i = m := by omega
            have HR : Hid (R = some far) := Lib.hid (by rw [← hdk, List.drop_of_length_le (by have := HLL.out; omega)]; rfl)
            have HB9 := Lib.hid hb
            clear hdk hb hx hx0 hx1
            go_wp2_with fail
            go_ret
            exact ⟨by rw [HR.out]; rfl, HB9.out⟩
theorem depth_any : ∀ {n : Nat} {w : World} {cs : List Value} {t : Tr}, NodeIn n w cs t → Bnd n t → n ≤ 1000 → ∀ (lo hi : List UInt8) (root : Bool), lo.length ≤ 1000 → hi.length ≤ 1000 →
    Calls Try.prog 61 #[.agg cs.toArray, .agg #[.string (strOf lo), .string (strOf hi)], .bool root] w fun e w' => e = .returned (.int .i64 (depI (depthT n t lo hi root))) ∧ Below w.heap.size w w'
  | 0, _, _, _, h, _, _, _, _, _, _, _ => h.elim
  | n + 1, _, _, _, h, hb, hn, lo, hi, root, hlo, hhi => depth_step (fun h hb lo hi hlo hhi => depth_any h hb (by omega) lo hi false hlo hhi) h hb (by omega) lo hi root hlo hhi
theorem depI_nn (o : Option Nat) : decide ((0 : Int) ≤ depI o) = o.isSome := by
  cases o with
  | none => rfl
  | some d => simp [depI]
set_option maxRecDepth 100000 in
set_option maxHeartbeats 2000000 in
theorem tcheck_any {n : Nat} {w : World} {cs : List Value} {t : Tr} (h : NodeIn n w cs t) (hb : Bnd n t) (hn : n ≤ 1000) :
    Calls Try.prog 39 #[.agg cs.toArray] w fun e w' => e = .returned (.bool (checkT n t)) ∧ Below w.heap.size w w' := by
  cases n with
  | zero => exact h.elim
  | succ n =>
  have hh := h
  obtain ⟨ka, kc, va, vn, vc, ca, cn, cc, V, C, rfl, h1, h2, h3, h4⟩ := h.openK
  obtain ⟨_, r1, r2⟩ := h4.lens
  obtain ⟨lf, hlf⟩ : ∃ x, t.isLeaf = x := ⟨_, rfl⟩
  obtain ⟨m, hm⟩ : ∃ x, cntT t = x := ⟨_, rfl⟩
  obtain ⟨pg, hpg⟩ : ∃ x, t.page = x := ⟨_, rfl⟩
  have hm9 : m ≤ 1000 := by rw [← hm]; exact hb.cnt
  rw [hlf, hm] at r1 r2
  have hvn : vn = if lf then m else 0 := by rw [← h2.1, r1]
  have hcn : cn = if lf then 0 else m := by rw [← h3.1, r2]
  rw [hlf, hm, hpg] at hh
  have hB0 : Below w.heap.size w (w.alloc (.cells #[.int .i64 pg, .bool lf, .slice ka m kc, .slice va vn vc, .slice ca cn cc] 33)) := Below.al (Below.refl _ _)
  have hX0 : Boxes _ [(w.heap.size, [.int .i64 pg, .bool lf, .slice ka m kc, .slice va vn vc, .slice ca cn cc])] := ((Boxes.nil w).alloc #[.int .i64 pg, .bool lf, .slice ka m kc, .slice va vn vc, .slice ca cn cc] 33 rfl)
  obtain ⟨wA, hwA⟩ : ∃ wA, w.alloc (.cells #[.int .i64 pg, .bool lf, .slice ka m kc, .slice va vn vc, .slice ca cn cc] 33) = wA := ⟨_, rfl⟩
  rw [hwA] at hB0 hX0
  rw [hlf, hm, hpg]
  have CF := depth_any (hh.below hB0) hb hn [] [] true (by decide) (by decide)
  have hck : checkT (n + 1) t = (emptyB t || (depthT (n + 1) t [] [] true).isSome) := rfl
  obtain ⟨D, hD⟩ : ∃ D, depthT (n + 1) t [] [] true = D := ⟨_, rfl⟩
  rw [hD] at CF hck
  have hem : emptyB t = (lf && (pg == 0 && m == 0)) := by
    rw [← hlf, ← hpg, ← hm]
    cases t with
    | leaf p l => cases l <;> rfl
    | node p l => rfl
  have h0 := depI_nn D
  have hs0 : strOf [] = ⟨#[]⟩ := rfl
  rw [hs0] at CF
  have HCK : Hid (checkT (n + 1) t = (lf && (pg == 0 && m == 0) || D.isSome)) := Lib.hid (by rw [hck, hem])
  have HB := Lib.hid hB0
  have n0 := hX0.cell 0 0 rfl rfl
  have n1 := hX0.cell 0 1 rfl rfl
  have n2 := hX0.cell 0 2 rfl rfl
  have n3 := hX0.cell 0 3 rfl rfl
  have n4 := hX0.cell 0 4 rfl rfl
  generalize depI D = di at *
  generalize D.isSome = ds at *
  generalize checkT (n + 1) t = ck at *
  clear hh h h1 h2 h3 h4 hlf hm hpg r1 r2 hB0 hX0 hb hck hem hD
  cases lf with
  | false =>
    simp only [Bool.false_eq_true, if_false] at hvn hcn
    replace hcn := hcn.symm
    subst hvn hcn
    go_enter Try.func39, Try.ntmps39
    go_wp2_with fail
    try rw [hwA]
    refine CF.mono ?_
    rintro e w2 ⟨rfl, hb2⟩
    have HB2 := Lib.hid (HB.out.trans (hb2.mono HB.out.size))
    clear CF hb2
    go_wp2_with fail
    go_ret
    exact ⟨by rw [HCK.out]; rfl, HB2.out⟩
  | true =>
    simp only [if_true] at hvn hcn
    subst hvn hcn
    by_cases hp : pg = 0
    · subst hp
      by_cases hm0 : vn = 0
      · subst hm0
        have HE : Hid (ck = true) := Lib.hid (by rw [HCK.out]; rfl)
        go_enter Try.func39, Try.ntmps39
        go_wp2_with fail
        go_ret
        exact ⟨by rw [HE.out]; rfl, HB.out⟩
      · have HE : Hid (ck = ds) := Lib.hid (by rw [HCK.out]; simp [hm0])
        have q1 : ((vn : Int) + vn == 0) = false := beq_eq_false_iff_ne.2 (by omega)
        have q2 : ((vn : Int) + vn + 0 == 0) = false := beq_eq_false_iff_ne.2 (by omega)
        have HM0 := Lib.hid hm0
        clear hm0
        go_enter Try.func39, Try.ntmps39
        go_wp2_with fail
        try rw [hwA]
        refine CF.mono ?_
        rintro e w2 ⟨rfl, hb2⟩
        have HB2 := Lib.hid (HB.out.trans (hb2.mono HB.out.size))
        clear CF hb2
        go_wp2_with fail
        go_ret
        exact ⟨by rw [HE.out]; rfl, HB2.out⟩
    · have HE : Hid (ck = ds) := Lib.hid (by rw [HCK.out]; simp [hp])
      have q1 : (pg == 0) = false := beq_eq_false_iff_ne.2 hp
      have HP := Lib.hid hp
      clear hp
      go_enter Try.func39, Try.ntmps39
      go_wp2_with fail
      try rw [hwA]
      refine CF.mono ?_
      rintro e w2 ⟨rfl, hb2⟩
      have HB2 := Lib.hid (HB.out.trans (hb2.mono HB.out.size))
      clear CF hb2
      go_wp2_with fail
      go_ret
      exact ⟨by rw [HE.out]; rfl, HB2.out⟩
end Go.Proofs.Ytemfnjlfcemehaa

/- What the document's answers use of chapter 03: rows of numbers that are the same; a bit. -/
namespace Go.Proofs.Ytemfnjlfcemehaa
open Go.RowKit

theorem drewN_add (w : World) (a b : Nat) : (w.drewN a).drewN b = w.drewN (a + b) := by
  cases w; simp [World.drewN, Nat.add_assoc]
set_option maxRecDepth 100000 in
set_option maxHeartbeats 1000000 in
theorem ints_any {w : World} {a b : Option Addr} {n ca m cb : Nat} {l k : List Int} (ha : Row .i64 w a n ca l) (hb : Row .i64 w b m cb k) :
    Calls Try.prog 57 #[.slice a n ca, .slice b m cb] w fun e w' => e = .returned (.bool (decide (l = k))) ∧ ∃ j, w' = w.drewN j := by
  have hn := ha.1
  have hm := hb.1
  have hna : n ≤ 9223372036854775807 := by have := ha.2.1; have := ha.2.2.1; unfold maxLen at this; omega
  have hmb : m ≤ 9223372036854775807 := by have := hb.2.1; have := hb.2.2.1; unfold maxLen at this; omega
  by_cases hnm : n = m
  · subst hnm
    have e0 : ((n : Int) == (n : Int)) = true := by simp
    have HA := Lib.hid ha.2.2.2.2
    have HB := Lib.hid hb.2.2.2.2
    have HN := Lib.hid hn
    have HM := Lib.hid hm
    clear hn hm ha hb
    go_enter Try.func57, Try.ntmps57
    go_wp2
    go_loopw [5] (fun s wr => ∃ i : Nat, i ≤ n ∧ s = .int .i64 i ∧ l.take i = k.take i ∧ ∃ j, wr = w.drewN j) (fun s _ => n - (intOf s).toNat)
    case atStart => exact ⟨0, Nat.zero_le _, rfl, by simp, 0, rfl⟩
    case round =>
      obtain ⟨i, hi, rfl, htk, j, rfl⟩ := hrel
      by_cases hlt : i < n
      · obtain ⟨b1, o1, rfl, _, c1⟩ := HA.out.resolve_left (by omega)
        obtain ⟨b2, o2, rfl, _, c2⟩ := HB.out.resolve_left (by omega)
        have d1 := c1 i hlt
        have d2 := c2 i hlt
        have hl := HN.out
        have hk := HM.out
        have hts : l.take (i + 1) = l.take i ++ [l[i]?.getD 0] := by rw [List.take_succ_eq_append_getElem (by omega), List.getElem?_eq_getElem (by omega)]; rfl
        have htk2 : k.take (i + 1) = k.take i ++ [k[i]?.getD 0] := by rw [List.take_succ_eq_append_getElem (by omega), List.getElem?_eq_getElem (by omega)]; rfl
        by_cases he : l[i]?.getD 0 = k[i]?.getD 0
        · have HT : Hid (l.take (i + 1) = k.take (i + 1)) := Lib.hid (by rw [hts, htk2, htk, he])
          clear hts htk2 htk c1 c2 hl hk
          generalize l[i]?.getD 0 = x at *
          generalize k[i]?.getD 0 = y at *
          subst he
          have q1 : (x == x) = true := by simp
          go_wp2
          go_quiet (fail)
          go_wp2
          go_roundw
          case rel => exact ⟨i + 1, hlt, by go_num, HT.out, _, rfl⟩
          case measure => simp [intOf]; omega
        · have HF : Hid (decide (l = k) = false) := Lib.hid (by
            apply decide_eq_false
            intro e
            exact he (by rw [e]))
          clear hts htk2 htk c1 c2 hl hk
          generalize l[i]?.getD 0 = x at *
          generalize k[i]?.getD 0 = y at *
          have q1 : (x == y) = false := by simpa using he
          clear he
          go_wp2
          go_quiet (fail)
          go_wp2
          go_ret
          exact ⟨ret_bool HF.out.symm, _, drewN_add _ _ _⟩
      · obtain rfl : i = n := by omega
        have HF : Hid (decide (l = k) = true) := Lib.hid (by
          apply decide_eq_true
          rwa [List.take_of_length_le (by rw [HN.out]; exact Nat.le_refl _), List.take_of_length_le (by rw [HM.out]; exact Nat.le_refl _)] at htk)
        clear htk
        go_wp2
        go_ret
        exact ⟨ret_bool HF.out.symm, _, rfl⟩
  · have e0 : ((n : Int) == (m : Int)) = false := by simp; omega
    have e1 : (n == m) = false := by simpa using hnm
    have HF : Hid (decide (l = k) = false) := Lib.hid (by
      apply decide_eq_false
      intro e; subst e; omega)
    clear hn hm ha hb hnm
    go_enter Try.func57, Try.ntmps57
    go_wp2
    go_ret
    exact ⟨ret_bool HF.out.symm, 0, rfl⟩
end Go.Proofs.Ytemfnjlfcemehaa

/- The laws of trees: awake; a tree and its box. -/
namespace Go.Proofs.Ytemfnjlfcemehaa
open Go.RowKit

/-- A node's words. -/
theorem NodeOn.words {F : Nat → Prop} {n : Nat} {w : World} {cs : List Value} {t : Tr} (h : NodeOn F n w cs t) :
    ∃ a1 c1 a2 n2 c2 a3 n3 c3, cs = [.int .i64 t.page, .bool t.isLeaf, .slice a1 (cntT t) c1, .slice a2 n2 c2, .slice a3 n3 c3] ∧ cntT t ≤ c1 ∧ c1 ≤ 9223372036854775807 := by
  obtain ⟨ka, kc, va, vn, vc, ca, cn, cc, V, C, e, h1, _⟩ := h.open_pos
  exact ⟨ka, kc, va, vn, vc, ca, cn, cc, e, h1.lens.2.1, h1.lens.2.2⟩
theorem Whole.low {n : Nat} {t : Tr} (h : Whole n t) : 0 < n := by
  cases n with
  | zero => exact h.1.1.elim
  | succ n => omega
theorem aw_put : putW 1 (.leaf 0 []) [107] ⟨[118], []⟩ = .leaf 0 [([107], ⟨[118], []⟩)] := by
  unfold putW putT topT
  rw [if_pos (by decide)]; rfl
theorem aw_zero (w : World) : NodeOn (fun _ => False) 1 w [.int .i64 0, .bool false, .slice none 0 0, .slice none 0 0, .slice none 0 0] (.node 0 []) :=
  NodeOn.shut (V := []) (C := []) rfl rfl (K := []) rfl (Raw.nil0 _ _) (Raw.nil0 _ _) (Raw.nil0 _ _) (Fa.zero _ _) (Fa.zero _ _) (Fa.zero _ _) ⟨Tells.nil, rfl, Tells.nil⟩
set_option maxRecDepth 100000 in
set_option maxHeartbeats 4000000 in
theorem awake15_any (w : World) : Calls Try.prog 29 #[] w fun e w' => e = .returned (.bool true) ∧ Below w.heap.size w w' := by
  have E := tempty_any w (fun _ => False)
  go_enter Try.func29, Try.ntmps29
  go_wp2_with fail
  refine E.mono ?_
  rintro e w1 ⟨cs, rfl, h1, hb1⟩
  obtain ⟨a1, c1, a2, n2, c2, a3, n3, c3, e1, _, k1⟩ := h1.words
  replace e1 : cs = [.int .i64 0, .bool true, .slice a1 0 c1, .slice a2 n2 c2, .slice a3 n3 c3] := e1
  subst e1
  have hX := (Boxes.nil w1).alloc #[.int .i64 0, .bool true, .slice a1 0 c1, .slice a2 n2 c2, .slice a3 n3 c3] 33 (b := w1.heap.size) rfl
  have hB : Below w1.heap.size w1 (w1.alloc (.cells #[.int .i64 0, .bool true, .slice a1 0 c1, .slice a2 n2 c2, .slice a3 n3 c3] 33)) := Below.al (Below.refl _ _)
  have P := tPut_whole (h1.below hB) whole_empty [107] [118] ⟨by decide, by decide⟩ (by decide)
  have HX := Lib.hid hX
  have HB := Lib.hid (hb1.trans (hB.mono hb1.size))
  have H1 := Lib.hid (h1.below hB)
  have q0 := hX.cell 0 0 rfl rfl
  have q1 := hX.cell 0 1 rfl rfl
  have q2 := hX.cell 0 2 rfl rfl
  have q3 := hX.cell 0 3 rfl rfl
  have q4 := hX.cell 0 4 rfl rfl
  clear E h1 hb1 hX hB
  go_wp2_with fail
  refine P.mono ?_
  rintro e w2 ⟨m, cs, hm, rfl, h2, hw2, _, hb2⟩
  rw [aw_put] at h2 hw2
  obtain ⟨k, rfl⟩ : ∃ k, m = k + 1 := ⟨m - 1, by have := hw2.low; omega⟩
  have hw1 : Whole 1 (.leaf 0 []) := whole_empty
  obtain ⟨b1, d1, b2, m2, d2, b3, m3, d3, e2, _, k2⟩ := h2.words
  replace e2 : cs = [.int .i64 0, .bool true, .slice b1 1 d1, .slice b2 m2 d2, .slice b3 m3 d3] := e2
  subst e2
  have hX2 := ((HX.out.step hb2).alloc #[.int .i64 0, .bool true, .slice b1 1 d1, .slice b2 m2 d2, .slice b3 m3 d3] 33 (b := w2.heap.size) rfl)
  have hB2 : Below w2.heap.size w2 (w2.alloc (.cells #[.int .i64 0, .bool true, .slice b1 1 d1, .slice b2 m2 d2, .slice b3 m3 d3] 33)) := Below.al (Below.refl _ _)
  obtain ⟨wA, hwA⟩ : ∃ x, w2.alloc (.cells #[.int .i64 0, .bool true, .slice b1 1 d1, .slice b2 m2 d2, .slice b3 m3 d3] 33) = x := ⟨_, rfl⟩
  rw [hwA] at hX2 hB2
  have hBA : Below w.heap.size w wA := HB.out.trans ((hb2.trans (hB2.mono hb2.size)).mono HB.out.size)
  have n1 := (h2.below hB2).toIn
  have n0 := (H1.out.below (hb2.trans (hB2.mono hb2.size))).toIn
  have F1 : ∀ W, Below wA.heap.size wA W → Calls Try.prog 28 #[.agg #[.int .i64 0, .bool true, .slice b1 1 d1, .slice b2 m2 d2, .slice b3 m3 d3], .string (strOf [107])] W (FoundPost W (some [118])) := fun W hW => tfind_any (n1.below hW) [107] (hw2.find _)
  have F2 : ∀ W, Below wA.heap.size wA W → Calls Try.prog 28 #[.agg #[.int .i64 0, .bool true, .slice b1 1 d1, .slice b2 m2 d2, .slice b3 m3 d3], .string (strOf [106])] W (FoundPost W none) := fun W hW => tfind_any (n1.below hW) [106] (hw2.find _)
  have C1 : ∀ W, Below wA.heap.size wA W → Calls Try.prog 39 #[.agg #[.int .i64 0, .bool true, .slice b1 1 d1, .slice b2 m2 d2, .slice b3 m3 d3]] W (fun e w' => e = .returned (.bool true) ∧ Below W.heap.size W w') := fun W hW => (tcheck_any (n1.below hW) hw2.bnd (by omega)).mono fun e w' h => by rw [whole_check hw2] at h; exact h
  have C0 : ∀ W, Below wA.heap.size wA W → Calls Try.prog 39 #[.agg #[.int .i64 0, .bool true, .slice a1 0 c1, .slice a2 n2 c2, .slice a3 n3 c3]] W (fun e w' => e = .returned (.bool true) ∧ Below W.heap.size W w') := fun W hW => (tcheck_any (n0.below hW) hw1.bnd (by omega)).mono fun e w' h => by rw [whole_check hw1] at h; exact h
  have CZ : ∀ W, Calls Try.prog 39 #[.agg #[.int .i64 0, .bool false, .slice none 0 0, .slice none 0 0, .slice none 0 0]] W (fun e w' => e = .returned (.bool false) ∧ Below W.heap.size W w') := fun W => tcheck_any (aw_zero W).toIn ⟨by simp, fun c hc => by cases hc⟩ (by omega)
  have S1 : ∀ W, Below wA.heap.size wA W → Calls Try.prog 58 #[.agg #[.int .i64 0, .bool true, .slice b1 1 d1, .slice b2 m2 d2, .slice b3 m3 d3]] W (SizesPost W [5]) := fun W hW => tsizes_any (n1.below hW) hw2.bnd
  have q0 := hX2.cell 1 0 rfl rfl
  have q1 := hX2.cell 1 1 rfl rfl
  have q2 := hX2.cell 1 2 rfl rfl
  have q3 := hX2.cell 1 3 rfl rfl
  have q4 := hX2.cell 1 4 rfl rfl
  have p0 := hX2.cell 0 0 rfl rfl
  have p1 := hX2.cell 0 1 rfl rfl
  have p2 := hX2.cell 0 2 rfl rfl
  have p3 := hX2.cell 0 3 rfl rfl
  have p4 := hX2.cell 0 4 rfl rfl
  have HX2 := Lib.hid hX2
  have HBA := Lib.hid hBA
  have HSZ := Lib.hid (show w1.heap.size < w2.heap.size from by have := hb2.size; simp at this; omega)
  have hA2 : Below wA.heap.size wA wA := Below.refl _ _
  have hst := strOf_toList
  clear P H1 HB HX h2 hb2 hB2 hBA n1 n0 hw2 hw1
  go_wp2_with fail
  refine (F1 _ hA2).mono ?_
  rintro e w3 ⟨rfl, hb3⟩
  have hX3 := hX2.step hb3
  have hA3 := hA2.trans (hb3.mono hA2.size)
  clear p0 p1 p2 p3 p4 q0 q1 q2 q3 q4
  have p0 := hX3.cell 0 0 rfl rfl
  have p1 := hX3.cell 0 1 rfl rfl
  have p2 := hX3.cell 0 2 rfl rfl
  have p3 := hX3.cell 0 3 rfl rfl
  have p4 := hX3.cell 0 4 rfl rfl
  have q0 := hX3.cell 1 0 rfl rfl
  have q1 := hX3.cell 1 1 rfl rfl
  have q2 := hX3.cell 1 2 rfl rfl
  have q3 := hX3.cell 1 3 rfl rfl
  have q4 := hX3.cell 1 4 rfl rfl
  go_wp2_with fail
  refine (F2 _ hA3).mono ?_
  rintro e w4 ⟨rfl, hb4⟩
  have hX4 := hX3.step hb4
  have hA4 := hA3.trans (hb4.mono hA3.size)
  clear p0 p1 p2 p3 p4 q0 q1 q2 q3 q4
  have p0 := hX4.cell 0 0 rfl rfl
  have p1 := hX4.cell 0 1 rfl rfl
  have p2 := hX4.cell 0 2 rfl rfl
  have p3 := hX4.cell 0 3 rfl rfl
  have p4 := hX4.cell 0 4 rfl rfl
  have q0 := hX4.cell 1 0 rfl rfl
  have q1 := hX4.cell 1 1 rfl rfl
  have q2 := hX4.cell 1 2 rfl rfl
  have q3 := hX4.cell 1 3 rfl rfl
  have q4 := hX4.cell 1 4 rfl rfl
  have hd : ((strOf [118]).toList == (strOf [118]).toList) = true := by simp
  go_wp2_with fail
  refine (S1 _ hA4).mono ?_
  rintro e w5 ⟨v5, rfl, ho5, hb5⟩
  obtain ⟨a5, k5, rfl, row5⟩ := Row.of_own ho5
  have hX5 := (hX4.step hb5).alloc #[.int .i64 5] 3 (b := w5.heap.size) rfl
  have hA5 := (hA4.trans (hb5.mono hA4.size)).alloc (Nat.le_trans hA4.size hb5.size) (.cells #[.int .i64 5] 3)
  have r5 := row5.below (Nat.le_refl _) ((Below.refl _ _).alloc (Nat.le_refl _) (.cells #[.int .i64 5] 3))
  have I5 := ints_any r5 (Row.made .i64 w5 3 [5] rfl (by unfold maxLen; simp))
  clear p0 p1 p2 p3 p4 q0 q1 q2 q3 q4
  have p0 := hX5.cell 1 0 rfl rfl
  have p1 := hX5.cell 1 1 rfl rfl
  have p2 := hX5.cell 1 2 rfl rfl
  have p3 := hX5.cell 1 3 rfl rfl
  have p4 := hX5.cell 1 4 rfl rfl
  have q0 := hX5.cell 2 0 rfl rfl
  have q1 := hX5.cell 2 1 rfl rfl
  have q2 := hX5.cell 2 2 rfl rfl
  have q3 := hX5.cell 2 3 rfl rfl
  have q4 := hX5.cell 2 4 rfl rfl
  clear ho5 row5 r5 hb5
  go_wp2_with fail
  refine I5.mono ?_
  rintro e w6 ⟨rfl, j6, rfl⟩
  have hA6 := below_drewN hA5 j6
  have hX6 : Boxes ((w5.alloc (.cells #[.int .i64 5] 3)).drewN j6) _ := hX5
  clear p0 p1 p2 p3 p4 q0 q1 q2 q3 q4
  have p0 := hX6.cell 1 0 rfl rfl
  have p1 := hX6.cell 1 1 rfl rfl
  have p2 := hX6.cell 1 2 rfl rfl
  have p3 := hX6.cell 1 3 rfl rfl
  have p4 := hX6.cell 1 4 rfl rfl
  have q0 := hX6.cell 2 0 rfl rfl
  have q1 := hX6.cell 2 1 rfl rfl
  have q2 := hX6.cell 2 2 rfl rfl
  have q3 := hX6.cell 2 3 rfl rfl
  have q4 := hX6.cell 2 4 rfl rfl
  go_wp2_with fail
  refine (C1 _ hA6).mono ?_
  rintro e w7 ⟨rfl, hb7⟩
  have hX7 := hX6.step hb7
  have hA7 := hA6.trans (hb7.mono hA6.size)
  clear p0 p1 p2 p3 p4 q0 q1 q2 q3 q4
  have p0 := hX7.cell 1 0 rfl rfl
  have p1 := hX7.cell 1 1 rfl rfl
  have p2 := hX7.cell 1 2 rfl rfl
  have p3 := hX7.cell 1 3 rfl rfl
  have p4 := hX7.cell 1 4 rfl rfl
  have q0 := hX7.cell 2 0 rfl rfl
  have q1 := hX7.cell 2 1 rfl rfl
  have q2 := hX7.cell 2 2 rfl rfl
  have q3 := hX7.cell 2 3 rfl rfl
  have q4 := hX7.cell 2 4 rfl rfl
  go_wp2_with fail
  refine (C0 _ hA7).mono ?_
  rintro e w8 ⟨rfl, hb8⟩
  have hA8 := hA7.trans (hb8.mono hA7.size)
  clear p0 p1 p2 p3 p4 q0 q1 q2 q3 q4
  go_wp2_with fail
  refine (CZ _).mono ?_
  rintro e w9 ⟨rfl, hb9⟩
  have HE := Lib.hid (HBA.out.trans ((hA8.trans (hb9.mono hA8.size)).mono HBA.out.size))
  go_wp2_with fail
  go_ret
  exact ⟨rfl, HE.out⟩
end Go.Proofs.Ytemfnjlfcemehaa

/- The document's nodes that stand on some blocks alone. -/
namespace Go.Proofs.Ytemfnjlfcemehaa
open Go.RowKit

/-- A cell, as the document has it. -/
structure Rc where
  key : List UInt8
  val : Tv
  kid : Option Tr
def cellsR : Tr → List Rc
  | .leaf _ l => l.map fun c => ⟨c.1, c.2, none⟩
  | .node _ l => l.map fun c => ⟨c.1, ⟨[], []⟩, some c.2⟩
theorem cellsR_len (t : Tr) : (cellsR t).length = cntT t := by cases t <;> simp [cellsR, cntT]
theorem cellsR_keys (t : Tr) : (cellsR t).map (·.key) = t.keys := by
  cases t <;> simp [cellsR, Tr.keys, keysOf, Function.comp_def]
theorem cellsR_leaf (p : Int) (l : List (List UInt8 × Tv)) (i : Nat) : (cellsR (.leaf p l))[i]? = (l[i]?).map fun c => ⟨c.1, c.2, none⟩ := by simp [cellsR]
theorem cellsR_node (p : Int) (l : List (List UInt8 × Tr)) (i : Nat) : (cellsR (.node p l))[i]? = (l[i]?).map fun c => ⟨c.1, ⟨[], []⟩, some c.2⟩ := by simp [cellsR]
/-- A node's cells, all of it on some blocks. -/
def RNodeOn (F : Nat → Prop) : Nat → World → List Value → Tr → Prop
  | 0, _, _, _ => False
  | n + 1, w, cs, t => ∃ a c, cs = [.int .i64 t.page, .bool t.isLeaf, .slice a (cntT t) c] ∧ TabR 4 (fun cs (y : Rc) => ∃ pa pn pc ka kn kc, cs = [.string (strOf y.key), .string (strOf y.val.data), .slice pa pn pc, .slice ka kn kc] ∧ Row .i64 w pa pn pc y.val.pages ∧ Fa F pa pn ∧ TabR 3 (RNodeOn F n w) w ka kn kc y.kid.toList ∧ Fa F ka kn) w a (cntT t) c (cellsR t) ∧ Fa F a (cntT t)
/-- A cell's words. -/
def RcOn (F : Nat → Prop) (n : Nat) (w : World) (cs : List Value) (y : Rc) : Prop := ∃ pa pn pc ka kn kc, cs = [.string (strOf y.key), .string (strOf y.val.data), .slice pa pn pc, .slice ka kn kc] ∧ Row .i64 w pa pn pc y.val.pages ∧ Fa F pa pn ∧ TabR 3 (RNodeOn F n w) w ka kn kc y.kid.toList ∧ Fa F ka kn
theorem RNodeOn.at {F : Nat → Prop} {n : Nat} {w : World} {cs : List Value} {t : Tr} (h : RNodeOn F (n + 1) w cs t) : ∃ a c, cs = [.int .i64 t.page, .bool t.isLeaf, .slice a (cntT t) c] ∧ TabR 4 (RcOn F n w) w a (cntT t) c (cellsR t) ∧ Fa F a (cntT t) := h
theorem RNodeOn.mk {F : Nat → Prop} {n : Nat} {w : World} {t : Tr} {a : Option Addr} {c : Nat} (h : TabR 4 (RcOn F n w) w a (cntT t) c (cellsR t)) (hf : Fa F a (cntT t)) : RNodeOn F (n + 1) w [.int .i64 t.page, .bool t.isLeaf, .slice a (cntT t) c] t := ⟨a, c, rfl, h, hf⟩
theorem RcOn.agree' {F : Nat → Prop} {n : Nat} {w w' : World} (H : ∀ {cs : List Value} {t : Tr}, RNodeOn F n w cs t → RNodeOn F n w' cs t) (ha : AgreeF F w w') {cs : List Value} {y : Rc} (h : RcOn F n w cs y) : RcOn F n w' cs y := by
  obtain ⟨pa, pn, pc, ka, kn, kc, e, h1, f1, h2, f2⟩ := h
  exact ⟨pa, pn, pc, ka, kn, kc, e, h1.agree f1 ha, f1, TabR.agree h2 f2 ha (fun _ _ _ h => H h), f2⟩
theorem RNodeOn.agree {F : Nat → Prop} : ∀ {n : Nat} {w w' : World} {cs : List Value} {t : Tr}, RNodeOn F n w cs t → AgreeF F w w' → RNodeOn F n w' cs t
  | 0, _, _, _, _, h, _ => h.elim
  | n + 1, _, _, _, t, h, ha => by
    obtain ⟨a, c, e, h1, f1⟩ := h.at
    exact ⟨a, c, e, TabR.agree h1 f1 ha (fun _ _ _ h => RcOn.agree' (fun h => RNodeOn.agree h ha) ha h), f1⟩
theorem RcOn.agree {F : Nat → Prop} {n : Nat} {w w' : World} {cs : List Value} {y : Rc} (h : RcOn F n w cs y) (ha : AgreeF F w w') : RcOn F n w' cs y := RcOn.agree' (fun h => h.agree ha) ha h
theorem RNodeOn.below {F : Nat → Prop} {n : Nat} {w w' : World} {cs : List Value} {t : Tr} (h : RNodeOn F n w cs t) (hb : Below w.heap.size w w') : RNodeOn F n w' cs t := h.agree (.of_below hb)
theorem RcOn.below {F : Nat → Prop} {n : Nat} {w w' : World} {cs : List Value} {y : Rc} (h : RcOn F n w cs y) (hb : Below w.heap.size w w') : RcOn F n w' cs y := h.agree (.of_below hb)
theorem RcOn.mono' {F G : Nat → Prop} (hFG : ∀ b, F b → G b) {n : Nat} {w : World} (H : ∀ {cs : List Value} {t : Tr}, RNodeOn F n w cs t → RNodeOn G n w cs t) {cs : List Value} {y : Rc} (h : RcOn F n w cs y) : RcOn G n w cs y := by
  obtain ⟨pa, pn, pc, ka, kn, kc, e, h1, f1, h2, f2⟩ := h
  exact ⟨pa, pn, pc, ka, kn, kc, e, h1, f1.mono hFG, TabR.mono h2 (fun _ _ h => H h), f2.mono hFG⟩
theorem RNodeOn.mono {F G : Nat → Prop} (hFG : ∀ b, F b → G b) : ∀ {n : Nat} {w : World} {cs : List Value} {t : Tr}, RNodeOn F n w cs t → RNodeOn G n w cs t
  | 0, _, _, _, h => h.elim
  | n + 1, _, _, t, h => by
    obtain ⟨a, c, e, h1, f1⟩ := h.at
    exact ⟨a, c, e, TabR.mono h1 (fun _ _ h => RcOn.mono' hFG (fun h => RNodeOn.mono hFG h) h), f1.mono hFG⟩
theorem RcOn.mono {F G : Nat → Prop} (hFG : ∀ b, F b → G b) {n : Nat} {w : World} {cs : List Value} {y : Rc} (h : RcOn F n w cs y) : RcOn G n w cs y := RcOn.mono' hFG (fun h => h.mono hFG) h
theorem RcOn.lt' {F : Nat → Prop} {n : Nat} {w : World} (H : ∀ {cs : List Value} {t : Tr}, RNodeOn F n w cs t → RNodeOn (fun b => F b ∧ b < w.heap.size) n w cs t) {cs : List Value} {y : Rc} (h : RcOn F n w cs y) : RcOn (fun b => F b ∧ b < w.heap.size) n w cs y := by
  obtain ⟨pa, pn, pc, ka, kn, kc, e, h1, f1, h2, f2⟩ := h
  exact ⟨pa, pn, pc, ka, kn, kc, e, h1, f1.and h1.block, TabR.mono h2 (fun _ _ h => H h), f2.and h2.block⟩
theorem RNodeOn.lt {F : Nat → Prop} : ∀ {n : Nat} {w : World} {cs : List Value} {t : Tr}, RNodeOn F n w cs t → RNodeOn (fun b => F b ∧ b < w.heap.size) n w cs t
  | 0, _, _, _, h => h.elim
  | n + 1, _, _, t, h => by
    obtain ⟨a, c, e, h1, f1⟩ := h.at
    exact ⟨a, c, e, TabR.mono h1 (fun _ _ h => RcOn.lt' (fun h => RNodeOn.lt h) h), f1.and h1.block⟩
theorem RcOn.lt {F : Nat → Prop} {n : Nat} {w : World} {cs : List Value} {y : Rc} (h : RcOn F n w cs y) : RcOn (fun b => F b ∧ b < w.heap.size) n w cs y := RcOn.lt' (fun h => h.lt) h
theorem RcOn.more' {F : Nat → Prop} {n m : Nat} {w : World} (H : ∀ {cs : List Value} {t : Tr}, RNodeOn F n w cs t → RNodeOn F m w cs t) {cs : List Value} {y : Rc} (h : RcOn F n w cs y) : RcOn F m w cs y := by
  obtain ⟨pa, pn, pc, ka, kn, kc, e, h1, f1, h2, f2⟩ := h
  exact ⟨pa, pn, pc, ka, kn, kc, e, h1, f1, TabR.mono h2 (fun _ _ h => H h), f2⟩
theorem RNodeOn.more {F : Nat → Prop} : ∀ {n m : Nat} {w : World} {cs : List Value} {t : Tr}, RNodeOn F n w cs t → n ≤ m → RNodeOn F m w cs t
  | 0, _, _, _, _, h, _ => h.elim
  | n + 1, 0, _, _, _, _, h => by omega
  | n + 1, m + 1, _, _, t, h, hm => by
    obtain ⟨a, c, e, h1, f1⟩ := h.at
    exact ⟨a, c, e, TabR.mono h1 (fun _ _ h => RcOn.more' (fun h => RNodeOn.more h (by omega)) h), f1⟩
theorem RcOn.more {F : Nat → Prop} {n m : Nat} {w : World} {cs : List Value} {y : Rc} (h : RcOn F n w cs y) (hm : n ≤ m) : RcOn F m w cs y := RcOn.more' (fun h => h.more hm) h
theorem RcOn.one {F : Nat → Prop} {n : Nat} {w : World} {cs : List Value} {y : Rc} (h : RcOn F n w cs y) : ∀ u ∈ cs, u.oneCell' = true := by
  obtain ⟨pa, pn, pc, ka, kn, kc, rfl, _⟩ := h
  intro u hu
  simp at hu
  rcases hu with rfl | rfl | rfl | rfl <;> rfl
theorem RcOn.len {F : Nat → Prop} {n : Nat} {w : World} {cs : List Value} {y : Rc} (h : RcOn F n w cs y) : cs.length = 4 := by
  obtain ⟨pa, pn, pc, ka, kn, kc, rfl, _⟩ := h
  rfl
theorem RNodeOn.one {F : Nat → Prop} {n : Nat} {w : World} {cs : List Value} {t : Tr} (h : RNodeOn F n w cs t) : ∀ u ∈ cs, u.oneCell' = true := by
  cases n with
  | zero => exact h.elim
  | succ n =>
    obtain ⟨a, c, rfl, _⟩ := h.at
    intro u hu
    simp at hu
    rcases hu with rfl | rfl | rfl <;> rfl
/-- A node opened: its row, word by word. -/
theorem RNodeOn.open {F : Nat → Prop} {n : Nat} {w : World} {cs : List Value} {t : Tr} (h : RNodeOn F (n + 1) w cs t) :
    ∃ a c L, cs = [.int .i64 t.page, .bool t.isLeaf, .slice a (cntT t) c] ∧ Raw 4 w a (cntT t) c L ∧ Tells (RcOn F n w) L (cellsR t) ∧ Fa F a (cntT t) := by
  obtain ⟨a, c, e, h1, f1⟩ := h.at
  obtain ⟨L, l1, l2⟩ := TabR.raw h1 (fun _ _ h => h.one)
  exact ⟨a, c, L, e, l1, l2, f1⟩
theorem RNodeOn.shut {F : Nat → Prop} {n : Nat} {w : World} {t : Tr} {a : Option Addr} {m c : Nat} {p : Int} {lf : Bool} {L : List (Cl 4)} (hp : t.page = p) (hl : t.isLeaf = lf) (h1 : Raw 4 w a m c L) (h2 : Tells (RcOn F n w) L (cellsR t)) (f1 : Fa F a m) : RNodeOn F (n + 1) w [.int .i64 p, .bool lf, .slice a m c] t := by
  subst hp hl
  have : m = cntT t := by rw [← h1.1, h2.1, cellsR_len]
  subst this
  exact ⟨a, c, rfl, h1.tab h2, f1⟩
/-- A node that a call answers. -/
def RNodeTo (F : Nat → Prop) (n : Nat) (w : World) (t : Tr) (e : Ending) (w' : World) : Prop := ∃ cs, e = .returned (.agg cs.toArray) ∧ RNodeOn (Fr F w) n w' cs t ∧ Below w.heap.size w w'
/-- A cell of a node's row. -/
theorem RNodeOn.cell {F : Nat → Prop} {n : Nat} {w : World} {a : Option Addr} {m c : Nat} {l : List Rc} (h : TabR 4 (RcOn F n w) w a m c l) {k : Nat} (hk : k < m) :
    ∃ b off y pa pn pc ka kn kc, a = some ⟨b, off, none⟩ ∧ b < w.heap.size ∧ l[k]? = some y ∧ RcOn F n w [.string (strOf y.key), .string (strOf y.val.data), .slice pa pn pc, .slice ka kn kc] y ∧ Row .i64 w pa pn pc y.val.pages ∧ Fa F pa pn ∧ TabR 3 (RNodeOn F n w) w ka kn kc y.kid.toList ∧ Fa F ka kn ∧
      w.cell? ⟨b, off + k * 4, none⟩ = some (.string (strOf y.key)) ∧ w.cell? ⟨b, off + k * 4 + 1, none⟩ = some (.string (strOf y.val.data)) ∧ w.cell? ⟨b, off + k * 4 + 2, none⟩ = some (.slice pa pn pc) ∧ w.cell? ⟨b, off + k * 4 + 3, none⟩ = some (.slice ka kn kc) := by
  obtain ⟨b, off, y, cs, e1, e2, e3, _, hy, e6⟩ := TabR.at h hk
  obtain ⟨pa, pn, pc, ka, kn, kc, rfl, h1, f1, h2, f2⟩ := hy
  exact ⟨b, off, y, pa, pn, pc, ka, kn, kc, e1, e2, e3, ⟨pa, pn, pc, ka, kn, kc, rfl, h1, f1, h2, f2⟩, h1, f1, h2, f2, e6 0 _ rfl, e6 1 _ rfl, e6 2 _ rfl, e6 3 _ rfl⟩
end Go.Proofs.Ytemfnjlfcemehaa

/- A row of the document's cells, one by one. -/
namespace Go.Proofs.Ytemfnjlfcemehaa
open Go.RowKit

theorem AgreeF.sub {F G : Nat → Prop} {w w' : World} (h : AgreeF F w w') (hG : ∀ b, G b → F b) : AgreeF G w w' := ⟨h.1, fun b hb hlt => h.2 b (hG b hb) hlt⟩
/-- The blocks that a row's cells may stand on: those allowed, and new ones, but for the row itself. -/
def Gp (F : Nat → Prop) (B : Nat) (v : Value) (b : Nat) : Prop := (F b ∨ B ≤ b) ∧ v.ownBlock ≠ some b
/-- A row of cells of the call's own: the first so many. -/
def CellsOwn (E : TypeId) (F : Nat → Prop) (n B : Nat) (w : World) (v : Value) (l : List Rc) : Prop := ∃ L : List (Cl 4), w.ownsRow B E 4 v l.length (flatC L) ∧ Tells (RcOn (Gp F B v) n w) L l
theorem CellsOwn.nil (E : TypeId) (F : Nat → Prop) (n B : Nat) (w : World) : CellsOwn E F n B w (.slice none 0 0) [] := ⟨[], own_nil w E 4 B, Tells.nil⟩
theorem CellsOwn.below {E : TypeId} {F : Nat → Prop} {n B : Nat} {w w' : World} {v : Value} {l : List Rc} (h : CellsOwn E F n B w v l) (hb : Below w.heap.size w w') : CellsOwn E F n B w' v l := by
  obtain ⟨L, h1, h2⟩ := h
  exact ⟨L, own_held h1 hb, h2.mono (fun _ _ _ h => h.below hb)⟩
theorem CellsOwn.set {E : TypeId} {F : Nat → Prop} {n B : Nat} {w : World} {v : Value} {l : List Rc} (h : CellsOwn E F n B w v l) {p : Addr} (u : Value) (hp : p.block < B) (hF : ¬ F p.block) : CellsOwn E F n B (w.setCell p u) v l := by
  obtain ⟨L, h1, h2⟩ := h
  refine ⟨L, own_set h1 p u (fun e => ?_), h2.mono (fun _ _ _ h => h.agree (AgreeF.set ⟨Nat.le_refl _, fun _ _ _ => rfl⟩ (.inl fun hg => ?_)))⟩
  · have := own_ge h1 _ e; omega
  · rcases hg.1 with hg | hg
    · exact hF hg
    · omega
theorem CellsOwn.block {E : TypeId} {F : Nat → Prop} {n B : Nat} {w : World} {v : Value} {l : List Rc} (h : CellsOwn E F n B w v l) {b : Nat} (hb : v.ownBlock = some b) : B ≤ b ∧ b < w.heap.size := by
  obtain ⟨L, h1, _⟩ := h
  refine ⟨own_ge h1 b hb, ?_⟩
  rcases h1.2 with ⟨rfl, _⟩ | ⟨g, cap, cur, rfl, _, hg, _⟩
  · cases hb
  · cases hb; exact (Array.getElem?_eq_some_iff.1 hg).1
/-- The row as a slice of a node. -/
theorem CellsOwn.sl {E : TypeId} {F : Nat → Prop} {n B : Nat} {w : World} {v : Value} {l : List Rc} (h : CellsOwn E F n B w v l) :
    ∃ a c, v = .slice a l.length c ∧ l.length ≤ c ∧ c ≤ 9223372036854775807 ∧ TabR 4 (RcOn (Gp F B v) n w) w a l.length c l ∧ Fa (fun b => B ≤ b) a l.length := by
  obtain ⟨L, h1, h2⟩ := h
  have hlen : L.length = l.length := h2.1
  rcases h1.2 with ⟨rfl, h0⟩ | ⟨g, cap, cur, rfl, hg, hh, hn, hm, hr⟩
  · have : l = [] := List.eq_nil_of_length_eq_zero h0
    subst this
    exact ⟨none, 0, rfl, by simp, by omega, ⟨rfl, by simp, by unfold maxLen; omega, fun _ => rfl, .inl rfl⟩, .inl rfl⟩
  · refine ⟨_, cap, rfl, hn, by unfold maxLen at hm; omega, ?_, Fa.of_own h1 (fun b hb => hb)⟩
    obtain ⟨a', c', e, hr'⟩ := Raw.of_own h1 hlen
    cases e
    exact hr'.tab h2
/-- All cells: the node. -/
theorem CellsOwn.node {E : TypeId} {F : Nat → Prop} {n B : Nat} {w W : World} {v : Value} {t : Tr} (h : CellsOwn E F n B W v (cellsR t)) (hB : w.heap.size ≤ B) : RNodeOn (Fr F w) (n + 1) W [.int .i64 t.page, .bool t.isLeaf, v] t := by
  obtain ⟨a, c, rfl, _, _, h1, h2⟩ := h.sl
  rw [cellsR_len] at h1 h2 ⊢
  exact RNodeOn.mk (TabR.mono h1 (fun _ _ h => h.mono (fun b hb => hb.1.imp id (fun h => Nat.le_trans hB h)))) (h2.mono (fun b hb => .inr (Nat.le_trans hB hb)))
/-- A fresh cell appended. -/
theorem CellsOwn.append {P : Program} {E t : TypeId} (ht : P.underlying t = some (.slice E)) (hi : RowInfo P E 4 80) {F : Nat → Prop} {n B : Nat} {w : World} {v : Value} {l : List Rc} (h : CellsOwn E F n B w v l) (hB : B ≤ w.heap.size) (_hF : ∀ b, F b → b < B) (hl : l.length ≤ 100000) {cs : List Value} {y : Rc} (hy : RcOn (Gp F B v) n w cs y) :
    ∃ v' w', (Builtin.append_ #[t, t] t #[v, .slice (some ⟨w.heap.size, 0, none⟩) 1 1]).run P (w.alloc (.cells cs.toArray E)) = .ok v' w' ∧ CellsOwn E F n B w' v' (l ++ [y]) ∧ w.grownBy w' v.ownBlock := by
  obtain ⟨L, h1, h2⟩ := h
  obtain ⟨i, z, i1, i2, i3, i4, i5⟩ := hi
  obtain ⟨v', w', hr, ho, hg, hv⟩ := run_append_new (P := P) B t E i z 4 80 ht i1 i2 i3 i4 i5 (by decide) h1 cs.toArray (by simpa using hy.len) (by simpa using hy.one) (by unfold maxLen; omega) (by omega) hB
  refine ⟨v', w', hr, ⟨L ++ [⟨cs, hy.len, hy.one⟩], ?_, ?_⟩, hg⟩
  · have e : flatC (L ++ [⟨cs, hy.len, hy.one⟩]) = flatC L ++ cs := by rw [flatC_append]; exact congrArg (flatC L ++ ·) (List.append_nil cs)
    rw [e, List.length_append]; exact ho
  · have hag : AgreeF (fun b => v.ownBlock ≠ some b) w w' := ⟨hg.size, fun b hb hlt => hg.block b hlt (fun e => hb e.symm)⟩
    have step : ∀ {cs : List Value} {y : Rc}, RcOn (Gp F B v) n w cs y → RcOn (Gp F B v') n w' cs y := fun h =>
      (h.lt.agree (hag.sub (fun b hb => hb.1.2))).mono (fun b hb => ⟨hb.1.1, fun e => by
        rcases hv with hv | hv
        · rw [hv] at e; exact hb.1.2 e
        · rw [hv] at e; have := Option.some.inj e; have := hb.2; omega⟩)
    exact (h2.mono (fun _ _ _ h => step h)).append (Tells.one (step hy))
end Go.Proofs.Ytemfnjlfcemehaa
