/- Texts that other texts of this claim lean on, one behind the other. -/
import Derived.Test.YtemfnjlfcemehaaM3
import Derived.Test.YtemfnjlfcemehaaM2
import Derived.Test.YtemfnjlfcemehaaM5
import Derived.Deep.DeepCutAuto
import Derived.Test.YtemfnjlfcemehaaM1
import Derived.Outline
/- The walks of trees: whether a node's rows fit. -/
namespace Go.Proofs.Ytemfnjlfcemehaa
open Go.RowKit

set_option maxRecDepth 100000 in
set_option maxHeartbeats 1000000 in
theorem fitsv_any (v : Tv) {w : World} {a : Option Addr} {n c : Nat} (h : Row .i64 w a n c v.pages) (hd : v.data.length ≤ 1000) :
    Calls Try.prog 100 #[.agg #[.string (strOf v.data), .slice a n c]] w fun e w' => e = .returned (.bool (!valB v)) ∧ Below w.heap.size w w' := by
  have hn := h.1
  have hsz := strOf_size v.data
  have N := fun W => cneed_any (v.data.length : Int) W
  have hv : valB v = (decide (v.data.length ≤ 400) && (n == 0 || decide (needC (v.data.length : Int) ≠ 0))) := by unfold valB; rw [hn]
  have hc := h.2.1
  have hm := h.2.2.1
  unfold maxLen at hm
  have HV := Lib.hid hv
  clear hv hn h
  obtain ⟨dl, hdl⟩ : ∃ x, v.data.length = x := ⟨_, rfl⟩
  rw [hdl] at hsz N HV hd
  clear hdl
  by_cases h4 : 400 < dl
  · have HE : Hid (valB v = false) := Lib.hid (by rw [HV.out]; simp; omega)
    have d4 : decide ((400 : Int) < dl) = true := by simp; omega
    have d4' : decide (400 < dl) = true := by simp; omega
    go_enter Try.func100, Try.ntmps100
    go_wp2_with fail
    go_ret
    exact ⟨by rw [HE.out]; rfl, Below.al (Below.refl _ _)⟩
  · have d4 : decide ((400 : Int) < dl) = false := by simp; omega
    have d4' : decide (400 < dl) = false := by simp; omega
    by_cases h0 : n = 0
    · have HE : Hid (valB v = true) := Lib.hid (by rw [HV.out]; simp; omega)
      have d0 : decide ((0 : Int) < n) = false := by simp; omega
      have d0' : decide (0 < n) = false := by simp; omega
      go_enter Try.func100, Try.ntmps100
      go_wp2_with fail
      go_ret
      exact ⟨by rw [HE.out]; rfl, Below.al (Below.refl _ _)⟩
    · have d0 : decide ((0 : Int) < n) = true := by simp; omega
      have d0' : decide (0 < n) = true := by simp; omega
      obtain ⟨q, hq⟩ : ∃ q, needC (dl : Int) = q := ⟨_, rfl⟩
      rw [hq] at N
      have HE : Hid (valB v = decide (q ≠ 0)) := Lib.hid (by
        rw [HV.out, hq]
        have : (n == 0) = false := by simpa using h0
        rw [this]; simp; omega)
      clear hq h4 h0
      by_cases hq0 : q = 0
      · have HZ : Hid (valB v = false) := Lib.hid (by rw [HE.out, hq0]; rfl)
        have hqq : ((q : Int) == 0) = true := by rw [hq0]; rfl
        have HQ := Lib.hid hq0
        clear hq0
        go_enter Try.func100, Try.ntmps100
        go_wp2_with fail
        refine (N _).mono ?_
        rintro e w2 ⟨rfl, rfl⟩
        go_wp2_with fail
        go_ret
        exact ⟨by rw [HZ.out]; rfl, Below.al (Below.refl _ _)⟩
      · have HZ : Hid (valB v = true) := Lib.hid (by rw [HE.out]; simpa using hq0)
        have hqq : ((q : Int) == 0) = false := by simpa using hq0
        have HQ := Lib.hid hq0
        clear hq0
        go_enter Try.func100, Try.ntmps100
        go_wp2_with fail
        refine (N _).mono ?_
        rintro e w2 ⟨rfl, rfl⟩
        go_wp2_with fail
        go_ret
        exact ⟨by rw [HZ.out]; rfl, Below.al (Below.refl _ _)⟩
theorem call_fits1 (args : Array Value) (W : World) : (callFunc 100 args).run Try.prog W = .ok (.enter 100 args) W := by kernel_rfl
theorem val_at {w : World} {a : Option Addr} {n c : Nat} {l : List Tv} (h : TabR 2 (IsTv w) w a n c l) {k : Nat} (hk : k < n) :
    ∃ b off v pa pn pc, a = some ⟨b, off, none⟩ ∧ b < w.heap.size ∧ l[k]? = some v ∧ w.cell? ⟨b, off + k * 2, none⟩ = some (.string (strOf v.data)) ∧ w.cell? ⟨b, off + k * 2 + 1, none⟩ = some (.slice pa pn pc) ∧ Row .i64 w pa pn pc v.pages := by
  obtain ⟨b, off, y, cs, e1, e2, e3, _, ⟨pa, pn, pc, rfl, hr⟩, e6⟩ := TabR.at h hk
  exact ⟨b, off, y, pa, pn, pc, e1, e2, e3, e6 0 _ rfl, e6 1 _ rfl, hr⟩
set_option maxRecDepth 100000 in
set_option maxHeartbeats 1000000 in
theorem fitsi_any {w : World} {a : Option Addr} {n c : Nat} {l : List Tv} (h : TabR 2 (IsTv w) w a n c l) (hd : ∀ v ∈ l, v.data.length ≤ 1000) :
    Calls Try.prog 105 #[.slice a n c, .func (.func 100) #[] #[]] w fun e w' => ∃ i : Int, e = .returned (.int .i64 i) ∧ (0 ≤ i ↔ l.all valB = false) ∧ Below w.heap.size w w' := by
  obtain ⟨e1, e2, e3⟩ := TabR.lens h
  have H := Lib.hid h
  have HD := Lib.hid hd
  have HL := Lib.hid e1
  have HF := call_fits1
  clear h hd e1
  go_enter Try.func105, Try.ntmps105
  go_wp2_with fail
  go_loopw [5, 8] (fun s5 s wr => ∃ i : Nat, i ≤ n ∧ s = .int .i64 i ∧ (l.take i).all valB = true ∧ Below w.heap.size w wr) (fun _ s _ => n - (intOf s).toNat)
  case atStart => exact ⟨0, Nat.zero_le _, rfl, by simp, Below.refl _ _⟩
  case round =>
    obtain ⟨i, hi, rfl, hall, hb⟩ := hrel
    by_cases hlt : i < n
    · obtain ⟨b, off, v, pa, pn, pc, rfl, hbb, hy, c0, c1, hr⟩ := val_at H.out hlt
      have k0 := (hb.cell (p := ⟨b, off + i * 2, none⟩) hbb).trans c0
      have k1 := (hb.cell (p := ⟨b, off + i * 2 + 1, none⟩) hbb).trans c1
      have C1 := fitsv_any v (hr.below (Nat.le_refl _) hb) (HD.out v (List.mem_of_getElem? hy))
      have HS : Hid ((l.take (i + 1)).all valB = valB v) := Lib.hid (by
        rw [List.take_succ_eq_append_getElem (by rw [HL.out]; exact hlt), List.all_append, hall]
        have : l[i]'(by rw [HL.out]; exact hlt) = v := (List.getElem?_eq_some_iff.1 hy).2
        simp [this])
      have HB := Lib.hid hb
      clear c0 c1 hr hall hy hb
      cases hvb : valB v with
      | true =>
        rw [hvb] at C1
        have HVB := Lib.hid hvb
        clear hvb
        go_wp2_with fail
        refine C1.mono ?_
        rintro e w2 ⟨rfl, hb2⟩
        have HB2 := Lib.hid (HB.out.trans (hb2.mono HB.out.size))
        clear C1 hb2
        go_wp2_with fail
        go_roundw
        case rel => exact ⟨i + 1, hlt, by go_num, by rw [HS.out, HVB.out], HB2.out⟩
        case measure => simp [intOf]; omega
      | false =>
        rw [hvb] at C1
        have HVB := Lib.hid hvb
        clear hvb
        go_wp2_with fail
        refine C1.mono ?_
        rintro e w2 ⟨rfl, hb2⟩
        have HB2 := Lib.hid (HB.out.trans (hb2.mono HB.out.size))
        clear C1 hb2
        go_wp2_with fail
        go_ret
        refine ⟨_, rfl, ⟨fun _ => ?_, fun _ => by omega⟩, HB2.out⟩
        have h1 : l.all valB = ((l.take (i + 1)).all valB && (l.drop (i + 1)).all valB) := by rw [← List.all_append, List.take_append_drop]
        rw [h1, HS.out, HVB.out]; rfl
    · obtain rfl : i = n := by omega
      have HA := Lib.hid hall
      have HB := Lib.hid hb
      clear hall hb
      go_wp2_with fail
      go_ret
      refine ⟨_, rfl, ⟨fun h => absurd h (by decide), fun h => ?_⟩, HB.out⟩
      have := HA.out
      rw [List.take_of_length_le (by rw [HL.out]; exact Nat.le_refl _), h] at this
      cases this
theorem fitsc_any {w : World} {a : Option Addr} {n c : Nat} {l : List Tv} (h : TabR 2 (IsTv w) w a n c l) (hd : ∀ v ∈ l, v.data.length ≤ 1000) :
    Calls Try.prog 99 #[.slice a n c, .func (.func 100) #[] #[]] w fun e w' => e = .returned (.bool (!l.all valB)) ∧ Below w.heap.size w w' := by
  have X := fitsi_any h hd
  clear h hd
  obtain ⟨z, hz⟩ : ∃ z, l.all valB = z := ⟨_, rfl⟩
  rw [hz] at X ⊢
  clear hz
  go_enter Try.func99, Try.ntmps99
  go_wp2_with fail
  refine X.mono ?_
  rintro e w' ⟨i, rfl, hi, hb⟩
  have HI := Lib.hid hi
  have HB := Lib.hid hb
  clear X hi hb
  go_wp2_with fail
  go_ret
  refine ⟨?_, HB.out⟩
  cases z with
  | true =>
    have : ¬ 0 ≤ i := fun h => by have := HI.out.1 h; cases this
    simp [this]
  | false =>
    have : 0 ≤ i := HI.out.2 rfl
    simp [this]
theorem fitTo_bad {lo hi : List UInt8} {leaf : Bool} {ks : List (List UInt8)} {n i : Nat} (hi' : i < n) (h : fitAt lo hi leaf ks i = false) : fitTo lo hi leaf ks n = false := by
  unfold fitTo
  rw [List.all_eq_false]
  exact ⟨i, List.mem_range.2 hi', by rw [h]; decide⟩
set_option maxRecDepth 100000 in
set_option maxHeartbeats 3000000 in
theorem fits_any {n : Nat} {w : World} {cs : List Value} {t : Tr} (h : NodeIn (n + 1) w cs t) (hb : Bnd (n + 1) t) (lo hi : List UInt8) (_hlo : lo.length ≤ 1000) (_hhi : hi.length ≤ 1000) :
    Calls Try.prog 88 #[.agg cs.toArray, .agg #[.string (strOf lo), .string (strOf hi)]] w fun e w' => e = .returned (.bool (fitT lo hi t)) ∧ Below w.heap.size w w' := by
  obtain ⟨ka, kc, va, vn, vc, ca, cn, cc, V, C, rfl, h1, h2, h3, h4⟩ := h.openK
  obtain ⟨_, r1, r2⟩ := h4.lens
  obtain ⟨lf, hlf⟩ : ∃ x, t.isLeaf = x := ⟨_, rfl⟩
  obtain ⟨m, hm⟩ : ∃ x, cntT t = x := ⟨_, rfl⟩
  obtain ⟨pg, hpg⟩ : ∃ x, t.page = x := ⟨_, rfl⟩
  have hm9 : m ≤ 1000 := by rw [← hm]; exact hb.cnt
  rw [hlf, hm] at r1 r2
  have hvn : vn = if lf then m else 0 := by rw [← h2.1, r1]
  have hcn : cn = if lf then 0 else m := by rw [← h3.1, r2]
  have hvals : ∃ vl : List Tv, TabR 2 (IsTv w) w va vn vc vl ∧ (∀ v ∈ vl, v.data.length ≤ 1000) ∧ fitT lo hi t = (fitTo lo hi lf t.keys m && vl.all valB) := by
    cases t with
    | leaf p l =>
      have : lf = true := hlf.symm
      subst this
      refine ⟨l.map (·.2), Raw.tab h2 h4.2.1, (fun v hv => ?_), ?_⟩
      · obtain ⟨c, hc, rfl⟩ := List.mem_map.1 hv
        exact (hb.2 c hc).2
      · have hm : l.length = m := hm
        show (fitTo lo hi true (keysOf l) l.length && l.all fun c => valB c.2) = (fitTo lo hi true (keysOf l) m && _)
        rw [hm, List.all_map]; rfl
    | node p l =>
      have : lf = false := hlf.symm
      subst this
      have hv0 : V = [] := h4.2.1
      have hvn0 : vn = 0 := hvn
      subst hvn0
      have hm : l.length = m := hm
      refine ⟨[], ⟨rfl, h2.2.1, h2.2.2.1, h2.2.2.2.1, .inl rfl⟩, (fun v hv => by cases hv), ?_⟩
      show fitTo lo hi false (keysOf l) l.length = (fitTo lo hi false (keysOf l) m && true)
      rw [hm, Bool.and_true]
  obtain ⟨vl, hv1, hv2, hfit⟩ := hvals
  have hB0 : Below w.heap.size w ((w.alloc (.cells #[.int .i64 pg, .bool lf, .slice ka m kc, .slice va vn vc, .slice ca cn cc] 33)).alloc (.cells #[.string (strOf lo), .string (strOf hi)] 113)) := Below.al (Below.al (Below.refl _ _))
  have hX0 : Boxes _ [(w.heap.size + 1, [.string (strOf lo), .string (strOf hi)]), (w.heap.size, [.int .i64 pg, .bool lf, .slice ka m kc, .slice va vn vc, .slice ca cn cc])] := ((Boxes.nil w).alloc #[.int .i64 pg, .bool lf, .slice ka m kc, .slice va vn vc, .slice ca cn cc] 33 rfl).alloc #[.string (strOf lo), .string (strOf hi)] 113 (b := w.heap.size + 1) (by simp)
  obtain ⟨wA, hwA⟩ : ∃ wA, (w.alloc (.cells #[.int .i64 pg, .bool lf, .slice ka m kc, .slice va vn vc, .slice ca cn cc] 33)).alloc (.cells #[.string (strOf lo), .string (strOf hi)] 113) = wA := ⟨_, rfl⟩
  rw [hwA] at hB0 hX0
  rw [hm] at h1
  rw [hlf, hm, hpg]
  have CC := fitsc_any (TabR.move hv1 hB0 (fun _ _ _ h => h.below hB0)) hv2
  have hK : ∀ i, i < m → (t.keys[i]?.getD []).length ≤ 200 := fun i hi => by
    cases t with
    | leaf p l =>
      have hm : l.length = m := hm
      have := (hb.2 l[i] (List.getElem_mem (by omega))).1
      simpa [Tr.keys, keysOf, show i < l.length by omega] using this
    | node p l =>
      have hm : l.length = m := hm
      have := (hb.2 l[i] (List.getElem_mem (by omega))).1
      simpa [Tr.keys, keysOf, show i < l.length by omega] using this
  have H1 := Lib.hid h1
  have HB := Lib.hid hB0
  have HFIT := Lib.hid hfit
  have HK := Lib.hid hK
  have n0 := hX0.cell 1 0 rfl rfl
  have n1 := hX0.cell 1 1 rfl rfl
  have n2 := hX0.cell 1 2 rfl rfl
  have n3 := hX0.cell 1 3 rfl rfl
  have n4 := hX0.cell 1 4 rfl rfl
  have s0 := hX0.cell 0 0 rfl rfl
  have s1 := hX0.cell 0 1 rfl rfl
  clear h h1 h2 h3 h4 hB0 hX0 hlf hm hpg r1 r2 hb hv1 hv2 hfit hK
  generalize t.keys = K at *
  obtain ⟨FT, hFT⟩ : ∃ x, fitT lo hi t = x := ⟨_, rfl⟩
  rw [hFT] at HFIT ⊢
  clear hFT
  obtain ⟨VA, hVA⟩ : ∃ x, vl.all valB = x := ⟨_, rfl⟩
  rw [hVA] at HFIT CC
  clear hVA
  cases lf with
  | true =>
    simp only [if_true] at hvn hcn
    subst hvn hcn
    go_enter Try.func88, Try.ntmps88
    go_wp2_with fail
    try rw [hwA]
    clear hwA
    go_loop [5, 6, 7, 48] (fun _ _ _ s => ∃ i : Nat, i ≤ vn ∧ s = .int .i64 i ∧ fitTo lo hi true K i = true) (fun _ _ _ s => vn - (intOf s).toNat)
    case atStart => exact ⟨0, Nat.zero_le _, rfl, rfl⟩
    case round =>
      obtain ⟨i, hi', rfl, hall⟩ := hrel
      by_cases hlt : i < vn
      · obtain ⟨b, off, rfl, hbb, hcell⟩ := H1.out.key_at hlt
        have k0 := (HB.out.cell (p := ⟨b, off + i, none⟩) hbb).trans hcell
        have hkl := HK.out i hlt
        obtain ⟨k, hk⟩ : ∃ k, K[i]?.getD [] = k := ⟨_, rfl⟩
        rw [hk] at hkl k0
        have hsz := strOf_size k
        have HKK := Lib.hid hk
        have HA := Lib.hid hall
        clear hk hcell hall
        cases i with
        | zero =>
          rw [Nat.add_zero] at k0
          have d0 : decide ((0 : Int) < (vn : Int)) = true := by simp; omega
          have d0' : decide (0 < vn) = true := by simp; omega
          by_cases hk0 : k = []
          · obtain ⟨e1, e2⟩ := str_empty hk0
            have HK0 := Lib.hid hk0
            clear hk0
            have HE : Hid (FT = false) := Lib.hid (by rw [HFIT.out, fitTo_bad (i := 0) (by omega) (by unfold fitAt; rw [HKK.out]; simp [HK0.out])]; rfl)
            go_wp2_with fail
            go_ret
            exact ⟨by rw [HE.out]; rfl, HB.out⟩
          obtain ⟨e1, e2⟩ := str_some hk0
          have HK0 := Lib.hid hk0
          clear hk0
          obtain ⟨kl, hkl0⟩ : ∃ x, k.length = x := ⟨_, rfl⟩
          rw [hkl0] at hsz hkl
          have HKL := Lib.hid hkl0
          clear hkl0
          by_cases hl : 16 < kl
          · have q1 : decide ((16 : Int) < kl) = true := by simp; omega
            have q1' : decide (16 < kl) = true := by simp; omega
            have HE : Hid (FT = false) := Lib.hid (by rw [HFIT.out, fitTo_bad (i := 0) (by omega) (by have h9 := HKL.out; unfold fitAt; rw [HKK.out]; simp; omega)]; rfl)
            go_wp2_with fail
            go_ret
            exact ⟨by rw [HE.out]; rfl, HB.out⟩
          have q1 : decide ((16 : Int) < kl) = false := by simp; omega
          have q1' : decide (16 < kl) = false := by simp; omega
          have HL16 : Hid (k.length ≤ 16) := Lib.hid (by have := HKL.out; omega)
          by_cases hlo2 : k < lo
          · obtain ⟨l1, l2, _, _⟩ := cmp_lt hlo2
            have HLO := Lib.hid hlo2
            clear hlo2 l2
            have HE : Hid (FT = false) := Lib.hid (by rw [HFIT.out, fitTo_bad (i := 0) (by omega) (by unfold fitAt; rw [HKK.out]; simp [HLO.out])]; rfl)
            go_wp2_with fail
            go_ret
            exact ⟨by rw [HE.out]; rfl, HB.out⟩
          have l1 : Op.bytesLess (strOf k).toList (strOf lo).toList = false := by rw [strOf_toList, strOf_toList, bytes_lessT]; simpa using hlo2
          have HLO := Lib.hid hlo2
          clear hlo2
          by_cases hh : hi = []
          · obtain ⟨e3, e4⟩ := str_empty hh
            have HH := Lib.hid hh
            clear hh
            have HT2 : Hid (fitTo lo hi true K (0 + 1) = true) := Lib.hid (by rw [fitTo_succ, HA.out, Bool.true_and]; unfold fitAt; rw [HKK.out]; simp [HK0.out, HL16.out, HLO.out, HH.out])
            go_wp2_with fail
            go_round
            case rel => exact ⟨0 + 1, by omega, by go_num, HT2.out⟩
            case measure => simp [intOf]; omega
          obtain ⟨e3, e4⟩ := str_some hh
          have HH := Lib.hid hh
          clear hh
          by_cases hh2 : k < hi
          · have g1 : Op.bytesLess (strOf k).toList (strOf hi).toList = true := by rw [strOf_toList, strOf_toList, bytes_lessT]; simpa using hh2
            have HH2 := Lib.hid hh2
            clear hh2
            have HT2 : Hid (fitTo lo hi true K (0 + 1) = true) := Lib.hid (by rw [fitTo_succ, HA.out, Bool.true_and]; unfold fitAt; rw [HKK.out]; simp [HK0.out, HL16.out, HLO.out, HH2.out])
            go_wp2_with fail
            go_round
            case rel => exact ⟨0 + 1, by omega, by go_num, HT2.out⟩
            case measure => simp [intOf]; omega
          · have g1 : Op.bytesLess (strOf k).toList (strOf hi).toList = false := by rw [strOf_toList, strOf_toList, bytes_lessT]; simpa using hh2
            have HH2 := Lib.hid hh2
            clear hh2
            have HE : Hid (FT = false) := Lib.hid (by rw [HFIT.out, fitTo_bad (i := 0) (by omega) (by unfold fitAt; rw [HKK.out]; simp [HH.out, HH2.out])]; rfl)
            go_wp2_with fail
            go_ret
            exact ⟨by rw [HE.out]; rfl, HB.out⟩
        | succ i =>
          obtain ⟨b2, off2, e2, hb2, hc2⟩ := H1.out.key_at (show i < vn by omega)
          cases e2
          have k1 := (HB.out.cell (p := ⟨b, off + i, none⟩) hbb).trans hc2
          have hkl2 := HK.out i (by omega)
          obtain ⟨kp, hkp⟩ : ∃ k, K[i]?.getD [] = k := ⟨_, rfl⟩
          rw [hkp] at hkl2 k1
          have d0 : decide (((i + 1 : Nat) : Int) < (vn : Int)) = true := by simp; omega
          have d0' : decide (i + 1 < vn) = true := by simp; omega
          have HKP : Hid (K[i + 1 - 1]?.getD [] = kp) := Lib.hid hkp
          clear hkp hc2
          by_cases hk0 : k = []
          · obtain ⟨e1, e2⟩ := str_empty hk0
            have HK0 := Lib.hid hk0
            clear hk0
            have HE : Hid (FT = false) := Lib.hid (by rw [HFIT.out, fitTo_bad (i := (i + 1)) (by omega) (by unfold fitAt; rw [HKK.out, HKP.out]; simp [HK0.out])]; rfl)
            go_wp2_with fail
            go_ret
            exact ⟨by rw [HE.out]; rfl, HB.out⟩
          obtain ⟨e1, e2⟩ := str_some hk0
          have HK0 := Lib.hid hk0
          clear hk0
          obtain ⟨kl, hkl0⟩ : ∃ x, k.length = x := ⟨_, rfl⟩
          rw [hkl0] at hsz hkl
          have HKL := Lib.hid hkl0
          clear hkl0
          by_cases hl : 16 < kl
          · have q1 : decide ((16 : Int) < kl) = true := by simp; omega
            have q1' : decide (16 < kl) = true := by simp; omega
            have HE : Hid (FT = false) := Lib.hid (by rw [HFIT.out, fitTo_bad (i := (i + 1)) (by omega) (by have h9 := HKL.out; unfold fitAt; rw [HKK.out]; simp; omega)]; rfl)
            go_wp2_with fail
            go_ret
            exact ⟨by rw [HE.out]; rfl, HB.out⟩
          have q1 : decide ((16 : Int) < kl) = false := by simp; omega
          have q1' : decide (16 < kl) = false := by simp; omega
          have HL16 : Hid (k.length ≤ 16) := Lib.hid (by have := HKL.out; omega)
          rcases ktri kp k with hp | hp | hp
          rotate_left
          · subst hp
            obtain ⟨p1, p2⟩ := cmp_eq kp
            have HE : Hid (FT = false) := Lib.hid (by rw [HFIT.out, fitTo_bad (i := (i + 1)) (by omega) (by unfold fitAt; rw [HKK.out, HKP.out]; simp [klt_irrefl])]; rfl)
            go_wp2_with fail
            go_ret
            exact ⟨by rw [HE.out]; rfl, HB.out⟩
          · obtain ⟨p1, p2, _, _⟩ := cmp_lt hp
            have HP := Lib.hid (klt_asymm hp)
            clear hp
            have HE : Hid (FT = false) := Lib.hid (by rw [HFIT.out, fitTo_bad (i := (i + 1)) (by omega) (by unfold fitAt; rw [HKK.out, HKP.out]; simp [HP.out])]; rfl)
            go_wp2_with fail
            go_ret
            exact ⟨by rw [HE.out]; rfl, HB.out⟩
          obtain ⟨p3, p4, p1, p2⟩ := cmp_lt hp
          obtain ⟨p6, p5⟩ := cmp_lt2 hp
          have HP := Lib.hid hp
          clear hp p3 p4 p6
          by_cases hlo2 : k < lo
          · obtain ⟨l1, l2, _, _⟩ := cmp_lt hlo2
            have HLO := Lib.hid hlo2
            clear hlo2 l2
            have HE : Hid (FT = false) := Lib.hid (by rw [HFIT.out, fitTo_bad (i := (i + 1)) (by omega) (by unfold fitAt; rw [HKK.out, HKP.out]; simp [HLO.out])]; rfl)
            go_wp2_with fail
            go_ret
            exact ⟨by rw [HE.out]; rfl, HB.out⟩
          have l1 : Op.bytesLess (strOf k).toList (strOf lo).toList = false := by rw [strOf_toList, strOf_toList, bytes_lessT]; simpa using hlo2
          have HLO := Lib.hid hlo2
          clear hlo2
          by_cases hh : hi = []
          · obtain ⟨e3, e4⟩ := str_empty hh
            have HH := Lib.hid hh
            clear hh
            have HT2 : Hid (fitTo lo hi true K ((i + 1) + 1) = true) := Lib.hid (by rw [fitTo_succ, HA.out, Bool.true_and]; unfold fitAt; rw [HKK.out, HKP.out]; simp [HK0.out, HL16.out, HP.out, HLO.out, HH.out])
            go_wp2_with fail
            go_round
            case rel => exact ⟨(i + 1) + 1, by omega, by go_num, HT2.out⟩
            case measure => simp [intOf]; omega
          obtain ⟨e3, e4⟩ := str_some hh
          have HH := Lib.hid hh
          clear hh
          by_cases hh2 : k < hi
          · have g1 : Op.bytesLess (strOf k).toList (strOf hi).toList = true := by rw [strOf_toList, strOf_toList, bytes_lessT]; simpa using hh2
            have HH2 := Lib.hid hh2
            clear hh2
            have HT2 : Hid (fitTo lo hi true K ((i + 1) + 1) = true) := Lib.hid (by rw [fitTo_succ, HA.out, Bool.true_and]; unfold fitAt; rw [HKK.out, HKP.out]; simp [HK0.out, HL16.out, HP.out, HLO.out, HH2.out])
            go_wp2_with fail
            go_round
            case rel => exact ⟨(i + 1) + 1, by omega, by go_num, HT2.out⟩
            case measure => simp [intOf]; omega
          · have g1 : Op.bytesLess (strOf k).toList (strOf hi).toList = false := by rw [strOf_toList, strOf_toList, bytes_lessT]; simpa using hh2
            have HH2 := Lib.hid hh2
            clear hh2
            have HE : Hid (FT = false) := Lib.hid (by rw [HFIT.out, fitTo_bad (i := (i + 1)) (by omega) (by unfold fitAt; rw [HKK.out, HKP.out]; simp [HH.out, HH2.out])]; rfl)
            go_wp2_with fail
            go_ret
            exact ⟨by rw [HE.out]; rfl, HB.out⟩
      · obtain rfl : i = vn := by omega
        have HT : Hid (FT = VA) := Lib.hid (by rw [HFIT.out, hall, Bool.true_and])
        clear hall
        go_wp2_with fail
        refine CC.mono ?_
        rintro e w2 ⟨rfl, hb2⟩
        have HB2 := Lib.hid (HB.out.trans (hb2.mono HB.out.size))
        clear hb2
        go_wp2_with fail
        go_ret
        exact ⟨by rw [HT.out]; simp, HB2.out⟩
  | false =>
    simp only [Bool.false_eq_true, if_false] at hvn hcn
    subst hvn hcn
    go_enter Try.func88, Try.ntmps88
    go_wp2_with fail
    try rw [hwA]
    clear hwA
    go_loop [5, 6, 7, 48] (fun _ _ _ s => ∃ i : Nat, i ≤ cn ∧ s = .int .i64 i ∧ fitTo lo hi false K i = true) (fun _ _ _ s => cn - (intOf s).toNat)
    case atStart => exact ⟨0, Nat.zero_le _, rfl, rfl⟩
    case round =>
      obtain ⟨i, hi', rfl, hall⟩ := hrel
      by_cases hlt : i < cn
      · obtain ⟨b, off, rfl, hbb, hcell⟩ := H1.out.key_at hlt
        have k0 := (HB.out.cell (p := ⟨b, off + i, none⟩) hbb).trans hcell
        have hkl := HK.out i hlt
        obtain ⟨k, hk⟩ : ∃ k, K[i]?.getD [] = k := ⟨_, rfl⟩
        rw [hk] at hkl k0
        have hsz := strOf_size k
        have HKK := Lib.hid hk
        have HA := Lib.hid hall
        clear hk hcell hall
        cases i with
        | zero =>
          rw [Nat.add_zero] at k0
          have d0 : decide ((0 : Int) < (cn : Int)) = true := by simp; omega
          have d0' : decide (0 < cn) = true := by simp; omega
          by_cases hk0 : k = []
          · obtain ⟨e1, e2⟩ := str_empty hk0
            have hl0 : k.length = 0 := by rw [hk0]; rfl
            have HK0 := Lib.hid hk0
            rw [hl0] at hsz
            clear hk0 hl0 hkl
            by_cases hh : hi = []
            · obtain ⟨e3, e4⟩ := str_empty hh
              have HH := Lib.hid hh
              clear hh
              have HT2 : Hid (fitTo lo hi false K (0 + 1) = true) := Lib.hid (by rw [fitTo_succ, HA.out, Bool.true_and]; unfold fitAt; rw [HKK.out]; simp [HK0.out, HH.out])
              go_wp2_with fail
              go_round
              case rel => exact ⟨0 + 1, by omega, by go_num, HT2.out⟩
              case measure => simp [intOf]; omega
            · obtain ⟨e3, e4⟩ := str_some hh
              have hlt2 : k < hi := by rw [HK0.out]; exact knil_lt hh
              have g1 : Op.bytesLess [] (strOf hi).toList = true := by rw [strOf_toList, bytes_lessT]; simpa using knil_lt hh
              have HH := Lib.hid hlt2
              clear hh hlt2
              have HT2 : Hid (fitTo lo hi false K (0 + 1) = true) := Lib.hid (by rw [fitTo_succ, HA.out, Bool.true_and]; have h9 := HH.out; rw [HK0.out] at h9; unfold fitAt; rw [HKK.out, HK0.out]; simp [h9])
              go_wp2_with fail
              go_round
              case rel => exact ⟨0 + 1, by omega, by go_num, HT2.out⟩
              case measure => simp [intOf]; omega
          · obtain ⟨e1, e2⟩ := str_some hk0
            have HK0 := Lib.hid hk0
            clear hk0
            have HE : Hid (FT = false) := Lib.hid (by rw [HFIT.out, fitTo_bad (i := 0) (by omega) (by unfold fitAt; rw [HKK.out]; simp [HK0.out])]; rfl)
            go_wp2_with fail
            go_ret
            exact ⟨by rw [HE.out]; rfl, HB.out⟩
        | succ i =>
          obtain ⟨b2, off2, e2, hb2, hc2⟩ := H1.out.key_at (show i < cn by omega)
          cases e2
          have k1 := (HB.out.cell (p := ⟨b, off + i, none⟩) hbb).trans hc2
          have hkl2 := HK.out i (by omega)
          obtain ⟨kp, hkp⟩ : ∃ k, K[i]?.getD [] = k := ⟨_, rfl⟩
          rw [hkp] at hkl2 k1
          have d0 : decide (((i + 1 : Nat) : Int) < (cn : Int)) = true := by simp; omega
          have d0' : decide (i + 1 < cn) = true := by simp; omega
          have HKP : Hid (K[i + 1 - 1]?.getD [] = kp) := Lib.hid hkp
          clear hkp hc2
          by_cases hk0 : k = []
          · obtain ⟨e1, e2⟩ := str_empty hk0
            have HK0 := Lib.hid hk0
            clear hk0
            have HE : Hid (FT = false) := Lib.hid (by rw [HFIT.out, fitTo_bad (i := (i + 1)) (by omega) (by unfold fitAt; rw [HKK.out, HKP.out]; simp [HK0.out])]; rfl)
            go_wp2_with fail
            go_ret
            exact ⟨by rw [HE.out]; rfl, HB.out⟩
          obtain ⟨e1, e2⟩ := str_some hk0
          have HK0 := Lib.hid hk0
          clear hk0
          obtain ⟨kl, hkl0⟩ : ∃ x, k.length = x := ⟨_, rfl⟩
          rw [hkl0] at hsz hkl
          have HKL := Lib.hid hkl0
          clear hkl0
          by_cases hl : 16 < kl
          · have q1 : decide ((16 : Int) < kl) = true := by simp; omega
            have q1' : decide (16 < kl) = true := by simp; omega
            have HE : Hid (FT = false) := Lib.hid (by rw [HFIT.out, fitTo_bad (i := (i + 1)) (by omega) (by have h9 := HKL.out; unfold fitAt; rw [HKK.out]; simp; omega)]; rfl)
            go_wp2_with fail
            go_ret
            exact ⟨by rw [HE.out]; rfl, HB.out⟩
          have q1 : decide ((16 : Int) < kl) = false := by simp; omega
          have q1' : decide (16 < kl) = false := by simp; omega
          have HL16 : Hid (k.length ≤ 16) := Lib.hid (by have := HKL.out; omega)
          rcases ktri kp k with hp | hp | hp
          rotate_left
          · subst hp
            obtain ⟨p1, p2⟩ := cmp_eq kp
            have HE : Hid (FT = false) := Lib.hid (by rw [HFIT.out, fitTo_bad (i := (i + 1)) (by omega) (by unfold fitAt; rw [HKK.out, HKP.out]; simp [klt_irrefl])]; rfl)
            go_wp2_with fail
            go_ret
            exact ⟨by rw [HE.out]; rfl, HB.out⟩
          · obtain ⟨p1, p2, _, _⟩ := cmp_lt hp
            have HP := Lib.hid (klt_asymm hp)
            clear hp
            have HE : Hid (FT = false) := Lib.hid (by rw [HFIT.out, fitTo_bad (i := (i + 1)) (by omega) (by unfold fitAt; rw [HKK.out, HKP.out]; simp [HP.out])]; rfl)
            go_wp2_with fail
            go_ret
            exact ⟨by rw [HE.out]; rfl, HB.out⟩
          obtain ⟨p3, p4, p1, p2⟩ := cmp_lt hp
          obtain ⟨p6, p5⟩ := cmp_lt2 hp
          have HP := Lib.hid hp
          clear hp p3 p4 p6
          by_cases hlo2 : k < lo
          · obtain ⟨l1, l2, _, _⟩ := cmp_lt hlo2
            have HLO := Lib.hid hlo2
            clear hlo2 l2
            have HE : Hid (FT = false) := Lib.hid (by rw [HFIT.out, fitTo_bad (i := (i + 1)) (by omega) (by unfold fitAt; rw [HKK.out, HKP.out]; simp [HLO.out])]; rfl)
            go_wp2_with fail
            go_ret
            exact ⟨by rw [HE.out]; rfl, HB.out⟩
          have l1 : Op.bytesLess (strOf k).toList (strOf lo).toList = false := by rw [strOf_toList, strOf_toList, bytes_lessT]; simpa using hlo2
          have HLO := Lib.hid hlo2
          clear hlo2
          by_cases hh : hi = []
          · obtain ⟨e3, e4⟩ := str_empty hh
            have HH := Lib.hid hh
            clear hh
            have HT2 : Hid (fitTo lo hi false K ((i + 1) + 1) = true) := Lib.hid (by rw [fitTo_succ, HA.out, Bool.true_and]; unfold fitAt; rw [HKK.out, HKP.out]; simp [HK0.out, HL16.out, HP.out, HLO.out, HH.out])
            go_wp2_with fail
            go_round
            case rel => exact ⟨(i + 1) + 1, by omega, by go_num, HT2.out⟩
            case measure => simp [intOf]; omega
          obtain ⟨e3, e4⟩ := str_some hh
          have HH := Lib.hid hh
          clear hh
          by_cases hh2 : k < hi
          · have g1 : Op.bytesLess (strOf k).toList (strOf hi).toList = true := by rw [strOf_toList, strOf_toList, bytes_lessT]; simpa using hh2
            have HH2 := Lib.hid hh2
            clear hh2
            have HT2 : Hid (fitTo lo hi false K ((i + 1) + 1) = true) := Lib.hid (by rw [fitTo_succ, HA.out, Bool.true_and]; unfold fitAt; rw [HKK.out, HKP.out]; simp [HK0.out, HL16.out, HP.out, HLO.out, HH2.out])
            go_wp2_with fail
            go_round
            case rel => exact ⟨(i + 1) + 1, by omega, by go_num, HT2.out⟩
            case measure => simp [intOf]; omega
          · have g1 : Op.bytesLess (strOf k).toList (strOf hi).toList = false := by rw [strOf_toList, strOf_toList, bytes_lessT]; simpa using hh2
            have HH2 := Lib.hid hh2
            clear hh2
            have HE : Hid (FT = false) := Lib.hid (by rw [HFIT.out, fitTo_bad (i := (i + 1)) (by omega) (by unfold fitAt; rw [HKK.out, HKP.out]; simp [HH.out, HH2.out])]; rfl)
            go_wp2_with fail
            go_ret
            exact ⟨by rw [HE.out]; rfl, HB.out⟩
      · obtain rfl : i = cn := by omega
        have HT : Hid (FT = VA) := Lib.hid (by rw [HFIT.out, hall, Bool.true_and])
        clear hall
        go_wp2_with fail
        refine CC.mono ?_
        rintro e w2 ⟨rfl, hb2⟩
        have HB2 := Lib.hid (HB.out.trans (hb2.mono HB.out.size))
        clear hb2
        go_wp2_with fail
        go_ret
        exact ⟨by rw [HT.out]; simp, HB2.out⟩
end Go.Proofs.Ytemfnjlfcemehaa

/- The walks of trees: how far a node's leaves are; whether a tree may be. -/
namespace Go.Proofs.Ytemfnjlfcemehaa
open Go.RowKit

def depI : Option Nat → Int
  | none => -1
  | some d => (d : Int)
theorem depK_lt {f : Tr → List UInt8 → List UInt8 → Option Nat} {N : Nat} (hf : ∀ t lo hi d, f t lo hi = some d → d < N) : ∀ {l : List (List UInt8 × Tr)} {i far : Nat} {lo hi : List UInt8} {d : Nat}, far ≤ N → depK f lo hi i far l = some d → d ≤ N
  | [], _, _, _, _, _, h1, h2 => by cases h2; exact h1
  | c :: r, i, far, lo, hi, d, h1, h2 => by
    unfold depK at h2
    cases hc : f c.2 (if i = 0 then lo else c.1) (nextH hi r) with
    | none => rw [hc] at h2; cases h2
    | some e =>
      rw [hc] at h2
      by_cases hb : i ≠ 0 ∧ e + 1 ≠ far
      · simp only [if_pos hb] at h2; cases h2
      · simp only [if_neg hb] at h2
        have := hf _ _ _ _ hc
        exact depK_lt hf (by omega) h2
theorem depthT_lt : ∀ {n : Nat} {t : Tr} {lo hi : List UInt8} {root : Bool} {d : Nat}, depthT n t lo hi root = some d → d < n
  | 0, _, _, _, _, _, h => by cases h
  | n + 1, .leaf p l, lo, hi, root, d, h => by
    unfold depthT at h
    split at h
    · cases h; omega
    · cases h
  | n + 1, .node p l, lo, hi, root, d, h => by
    unfold depthT at h
    split at h
    · have := depK_lt (N := n) (fun t lo hi d h => depthT_lt h) (Nat.zero_le _) h
      omega
    · cases h
theorem depK_none {f : Tr → List UInt8 → List UInt8 → Option Nat} {lo hi : List UInt8} {i far : Nat} {l : List (List UInt8 × Tr)} {c : List UInt8 × Tr} (h : l[i]? = some c) (hf : f c.2 (if i = 0 then lo else c.1) (nextH hi (l.drop (i + 1))) = none) : depK f lo hi i far (l.drop i) = none := by
  obtain ⟨h1, h2⟩ := List.getElem?_eq_some_iff.1 h
  rw [List.drop_eq_getElem_cons h1, h2]
  unfold depK
  rw [hf]
theorem depK_far {f : Tr → List UInt8 → List UInt8 → Option Nat} {lo hi : List UInt8} {i far d : Nat} {l : List (List UInt8 × Tr)} {c : List UInt8 × Tr} (h : l[i]? = some c) (hf : f c.2 (if i = 0 then lo else c.1) (nextH hi (l.drop (i + 1))) = some d) (hd : i ≠ 0 ∧ d + 1 ≠ far) : depK f lo hi i far (l.drop i) = none := by
  obtain ⟨h1, h2⟩ := List.getElem?_eq_some_iff.1 h
  rw [List.drop_eq_getElem_cons h1, h2]
  unfold depK
  rw [hf]
  simp only [if_pos hd]
theorem depK_go {f : Tr → List UInt8 → List UInt8 → Option Nat} {lo hi : List UInt8} {i far d : Nat} {l : List (List UInt8 × Tr)} {c : List UInt8 × Tr} (h : l[i]? = some c) (hf : f c.2 (if i = 0 then lo else c.1) (nextH hi (l.drop (i + 1))) = some d) (hd : ¬ (i ≠ 0 ∧ d + 1 ≠ far)) : depK f lo hi i far (l.drop i) = depK f lo hi (i + 1) (d + 1) (l.drop (i + 1)) := by
  obtain ⟨h1, h2⟩ := List.getElem?_eq_some_iff.1 h
  rw [List.drop_eq_getElem_cons h1, h2]
  conv => lhs; unfold depK
  rw [hf]
  simp only [if_neg hd]
theorem depthT_leaf (n : Nat) (p : Int) (l : List (List UInt8 × Tv)) (lo hi : List UInt8) (root : Bool) : depthT (n + 1) (.leaf p l) lo hi root = if fitT lo hi (.leaf p l) && sizeB root (.leaf p l) then some 0 else none := rfl
theorem depthT_node (n : Nat) (p : Int) (l : List (List UInt8 × Tr)) (lo hi : List UInt8) (root : Bool) : depthT (n + 1) (.node p l) lo hi root = if fitT lo hi (.node p l) && sizeB root (.node p l) then depK (fun t lo hi => depthT n t lo hi false) lo hi 0 0 l else none := rfl
theorem nextH_last {hi : List UInt8} {l : List (List UInt8 × Tr)} {i : Nat} (h : l.length ≤ i + 1) : nextH hi (l.drop (i + 1)) = hi := by rw [List.drop_of_length_le h]; rfl
theorem nextH_mid {hi : List UInt8} {l : List (List UInt8 × Tr)} {i : Nat} {k : List UInt8} (hk : (keysOf l)[i + 1]?.getD [] = k) (h : i + 1 < l.length) : nextH hi (l.drop (i + 1)) = k := by
  rw [List.drop_eq_getElem_cons h]
  rw [← hk]; simp [nextH, keysOf, h]

set_option maxRecDepth 100000 in
set_option maxHeartbeats 3000000 in
theorem depth_step {n : Nat} (IH : ∀ {w : World} {cs : List Value} {t : Tr}, NodeIn n w cs t → Bnd n t → ∀ (lo hi : List UInt8), lo.length ≤ 1000 → hi.length ≤ 1000 →
    Calls Try.prog 61 #[.agg cs.toArray, .agg #[.string (strOf lo), .string (strOf hi)], .bool false] w fun e w' => e = .returned (.int .i64 (depI (depthT n t lo hi false))) ∧ Below w.heap.size w w')
    {w : World} {cs : List Value} {t : Tr} (h : NodeIn (n + 1) w cs t) (hb : Bnd (n + 1) t) (hn : n ≤ 1000) (lo hi : List UInt8) (root : Bool) (hlo : lo.length ≤ 1000) (hhi : hi.length ≤ 1000) :
    Calls Try.prog 61 #[.agg cs.toArray, .agg #[.string (strOf lo), .string (strOf hi)], .bool root] w fun e w' => e = .returned (.int .i64 (depI (depthT (n + 1) t lo hi root))) ∧ Below w.heap.size w w' := by
  have hh := h
  obtain ⟨ka, kc, va, vn, vc, ca, cn, cc, V, C, rfl, h1, h2, h3, h4⟩ := h.openK
  obtain ⟨_, _, r2⟩ := h4.lens
  obtain ⟨lf, hlf⟩ : ∃ x, t.isLeaf = x := ⟨_, rfl⟩
  obtain ⟨m, hm⟩ : ∃ x, cntT t = x := ⟨_, rfl⟩
  obtain ⟨pg, hpg⟩ : ∃ x, t.page = x := ⟨_, rfl⟩
  have hm9 : m ≤ 1000 := by rw [← hm]; exact hb.cnt
  rw [hlf, hm] at r2
  have hcn : cn = if lf then 0 else m := by rw [← h3.1, r2]
  rw [hlf, hm, hpg] at hh
  rw [hm] at h1
  have hB0 : Below w.heap.size w ((w.alloc (.cells #[.int .i64 pg, .bool lf, .slice ka m kc, .slice va vn vc, .slice ca cn cc] 33)).alloc (.cells #[.string (strOf lo), .string (strOf hi)] 113)) := Below.al (Below.al (Below.refl _ _))
  have hX0 : Boxes _ [(w.heap.size + 1, [.string (strOf lo), .string (strOf hi)]), (w.heap.size, [.int .i64 pg, .bool lf, .slice ka m kc, .slice va vn vc, .slice ca cn cc])] := ((Boxes.nil w).alloc #[.int .i64 pg, .bool lf, .slice ka m kc, .slice va vn vc, .slice ca cn cc] 33 rfl).alloc #[.string (strOf lo), .string (strOf hi)] 113 (b := w.heap.size + 1) (by simp)
  obtain ⟨wA, hwA⟩ : ∃ wA, (w.alloc (.cells #[.int .i64 pg, .bool lf, .slice ka m kc, .slice va vn vc, .slice ca cn cc] 33)).alloc (.cells #[.string (strOf lo), .string (strOf hi)] 113) = wA := ⟨_, rfl⟩
  rw [hwA] at hB0 hX0
  rw [hlf, hm, hpg]
  have CF := fits_any (hh.below hB0) hb lo hi hlo hhi
  have CS := fun W (hW : Below w.heap.size w W) => tsizes_any (hh.below hW) hb
  have hSm := hb.small
  have hsum : (decide (sumT t ≤ 122) = decide (sumI (sizesT t) ≤ 122)) ∧ (lowT t = decide (sumI (sizesT t) < 30)) := ⟨rfl, rfl⟩
  obtain ⟨R, hR⟩ : ∃ R, depthT (n + 1) t lo hi root = R := ⟨_, rfl⟩
  have hfail : (fitT lo hi t && sizeB root t) = false → R = none := fun h => by
    rw [← hR]; cases t <;> (unfold depthT; rw [h]; rfl)
  have hsz : sizeB root t = (decide ((if lf then 1 else 2) ≤ m) && (decide (sumI (sizesT t) ≤ 122) && (root || !decide (sumI (sizesT t) < 30)))) := by
    unfold sizeB; rw [hlf, hm]; rfl
  have H1 := Lib.hid h1
  have HFAIL := Lib.hid hfail
  have HSZ := Lib.hid hsz
  have HB := Lib.hid hB0
  have HX := Lib.hid hX0
  have hkids : ∃ l : List (List UInt8 × Tr), (lf = false → ((fitT lo hi t && sizeB root t) = true → R = depK (fun t lo hi => depthT n t lo hi false) lo hi 0 0 l) ∧ l.length = m ∧ keysOf l = t.keys ∧ (∀ c ∈ l, c.1.length ≤ 200 ∧ Bnd n c.2) ∧ TabR 5 (NodeIn n w) w ca cn cc (l.map (·.2))) ∧ (lf = true → (fitT lo hi t && sizeB root t) = true → R = some 0) := by
    cases t with
    | leaf p l0 => exact ⟨[], (fun h => by rw [← hlf] at h; cases h), (fun _ h => by rw [← hR, depthT_leaf, if_pos h])⟩
    | node p l0 => exact ⟨l0, (fun _ => ⟨(fun h => by rw [← hR, depthT_node, if_pos h]), hm, rfl, hb.2, Raw.tab h3 h4.2.2⟩), (fun h => by rw [← hlf] at h; cases h)⟩
  obtain ⟨l, hl1, hl2⟩ := hkids
  have HL1 := Lib.hid hl1
  have HL2 := Lib.hid hl2
  have HSm := Lib.hid hSm
  clear h h1 h2 h3 h4 hB0 hX0 hlf hm hpg r2 hb hfail hsz hl1 hl2 hsum hSm hh
  generalize t.keys = K at *
  generalize fitT lo hi t = FT at *
  generalize sizeB root t = SZ at *
  obtain ⟨S, hS⟩ : ∃ S, sizesT t = S := ⟨_, rfl⟩
  rw [hS] at CS HSZ HSm
  rw [hR]
  clear hS hR
  have n0 := HX.out.cell 1 0 rfl rfl
  have n1 := HX.out.cell 1 1 rfl rfl
  have n2 := HX.out.cell 1 2 rfl rfl
  have n3 := HX.out.cell 1 3 rfl rfl
  have n4 := HX.out.cell 1 4 rfl rfl
  have s0 := HX.out.cell 0 0 rfl rfl
  have s1 := HX.out.cell 0 1 rfl rfl
  cases lf with
  | true =>
    simp only [if_true] at hcn
    replace hcn := hcn.symm
    subst hcn
    replace HSZ : Hid (SZ = (decide (1 ≤ m) && (decide (sumI S ≤ 122) && (root || !decide (sumI S < 30))))) := Lib.hid HSZ.out
    go_enter Try.func61, Try.ntmps61
    go_wp2_with fail
    try rw [hwA]
    clear hwA
    cases FT with
    | false =>
      refine CF.mono ?_
      rintro e w1 ⟨rfl, hb1⟩
      clear CF
      have HB1 := Lib.hid (HB.out.trans (hb1.mono HB.out.size))
      have HX1 := Lib.hid (HX.out.step hb1)
      clear n0 n1 n2 n3 n4 s0 s1 hb1
      have n0 := HX1.out.cell 1 0 rfl rfl
      have n1 := HX1.out.cell 1 1 rfl rfl
      have n2 := HX1.out.cell 1 2 rfl rfl
      have n3 := HX1.out.cell 1 3 rfl rfl
      have n4 := HX1.out.cell 1 4 rfl rfl
      have s0 := HX1.out.cell 0 0 rfl rfl
      have s1 := HX1.out.cell 0 1 rfl rfl
      have HR : Hid (R = none) := Lib.hid (HFAIL.out (rfl))
      go_wp2_with fail
      go_ret
      exact ⟨by rw [HR.out]; rfl, HB1.out⟩
    | true =>
      by_cases hle : m < 1
      · have d1 : decide ((m : Int) < 1) = true := by simp; omega
        have d1' : decide (m < 1) = true := by simp; omega
        have HLE := Lib.hid hle
        clear hle
        refine CF.mono ?_
        rintro e w1 ⟨rfl, hb1⟩
        clear CF
        have HB1 := Lib.hid (HB.out.trans (hb1.mono HB.out.size))
        have HX1 := Lib.hid (HX.out.step hb1)
        clear n0 n1 n2 n3 n4 s0 s1 hb1
        have n0 := HX1.out.cell 1 0 rfl rfl
        have n1 := HX1.out.cell 1 1 rfl rfl
        have n2 := HX1.out.cell 1 2 rfl rfl
        have n3 := HX1.out.cell 1 3 rfl rfl
        have n4 := HX1.out.cell 1 4 rfl rfl
        have s0 := HX1.out.cell 0 0 rfl rfl
        have s1 := HX1.out.cell 0 1 rfl rfl
        have HR : Hid (R = none) := Lib.hid (HFAIL.out (by rw [HSZ.out]; have := HLE.out; simp; omega))
        go_wp2_with fail
        go_ret
        exact ⟨by rw [HR.out]; rfl, HB1.out⟩
      have d1 : decide ((m : Int) < 1) = false := by simp; omega
      have d1' : decide (m < 1) = false := by simp; omega
      have HLE : Hid (1 ≤ m) := Lib.hid (by omega)
      clear hle
      refine CF.mono ?_
      rintro e w1 ⟨rfl, hb1⟩
      clear CF
      have HB1 := Lib.hid (HB.out.trans (hb1.mono HB.out.size))
      have HX1 := Lib.hid (HX.out.step hb1)
      clear n0 n1 n2 n3 n4 s0 s1 hb1
      have n0 := HX1.out.cell 1 0 rfl rfl
      have n1 := HX1.out.cell 1 1 rfl rfl
      have n2 := HX1.out.cell 1 2 rfl rfl
      have n3 := HX1.out.cell 1 3 rfl rfl
      have n4 := HX1.out.cell 1 4 rfl rfl
      have s0 := HX1.out.cell 0 0 rfl rfl
      have s1 := HX1.out.cell 0 1 rfl rfl
      go_wp2_with fail
      refine (CS _ HB1.out).mono ?_
      rintro e w2 ⟨v2, rfl, ho2, hb2⟩
      obtain ⟨sa, sc, rfl, hrow⟩ := Row.of_own ho2
      clear ho2
      have HB2 := Lib.hid (HB1.out.trans (hb2.mono HB1.out.size))
      have HX2 := Lib.hid (HX1.out.step hb2)
      clear n0 n1 n2 n3 n4 s0 s1 hb2
      have n0 := HX2.out.cell 1 0 rfl rfl
      have n1 := HX2.out.cell 1 1 rfl rfl
      have n2 := HX2.out.cell 1 2 rfl rfl
      have n3 := HX2.out.cell 1 3 rfl rfl
      have n4 := HX2.out.cell 1 4 rfl rfl
      have s0 := HX2.out.cell 0 0 rfl rfl
      have s1 := HX2.out.cell 0 1 rfl rfl
      have HROW := Lib.hid hrow
      clear hrow
      obtain ⟨sm, hsm⟩ : ∃ x, sumI S = x := ⟨_, rfl⟩
      have CSum := sum_any _ _ _ _ _ HROW.out HSm.out
      rw [hsm] at CSum HSZ
      have HSM := Lib.hid hsm
      clear hsm
      by_cases h122 : sm ≤ 122
      rotate_left
      · have d2 : decide ((122 : Int) < sm) = true := by simp; omega
        go_wp2_with fail
        refine CSum.mono ?_
        rintro e w3 ⟨rfl, rfl⟩
        have H122 := Lib.hid h122
        clear h122
        have HR : Hid (R = none) := Lib.hid (HFAIL.out (by rw [HSZ.out]; have := H122.out; simp; intros; omega))
        go_wp2_with fail
        go_ret
        exact ⟨by rw [HR.out]; rfl, HB2.out⟩
      have d2 : decide ((122 : Int) < sm) = false := by simp; omega
      have H122 := Lib.hid h122
      clear h122
      cases root with
      | true =>
        have HP : Hid ((true && SZ) = true) := Lib.hid (by rw [HSZ.out]; simp [H122.out]; exact HLE.out)
        go_wp2_with fail
        refine CSum.mono ?_
        rintro e w3 ⟨rfl, rfl⟩
        have HR : Hid (R = some 0) := Lib.hid (HL2.out (by first | rfl | trivial) HP.out)
        go_wp2_with fail
        go_loop [8, 44] (fun s i => s = .int .i64 0 ∧ i = .int .i64 0) (fun _ _ => 0)
        case atStart => exact ⟨rfl, rfl⟩
        case round =>
          obtain ⟨rfl, rfl⟩ := hrel
          go_wp2_with fail
          go_ret
          exact ⟨by rw [HR.out]; rfl, HB2.out⟩
      | false =>
        have CS2 := CS _ HB2.out
        go_wp2_with fail
        refine CSum.mono ?_
        rintro e w3 ⟨rfl, rfl⟩
        go_wp2_with fail
        refine CS2.mono ?_
        rintro e w3 ⟨v3, rfl, ho3, hb3⟩
        obtain ⟨sb, sd, rfl, hrow3⟩ := Row.of_own ho3
        clear ho3 CS2
        have HB3 := Lib.hid (HB2.out.trans (hb3.mono HB2.out.size))
        have HX3 := Lib.hid (HX2.out.step hb3)
        clear n0 n1 n2 n3 n4 s0 s1 hb3
        have n0 := HX3.out.cell 1 0 rfl rfl
        have n1 := HX3.out.cell 1 1 rfl rfl
        have n2 := HX3.out.cell 1 2 rfl rfl
        have n3 := HX3.out.cell 1 3 rfl rfl
        have n4 := HX3.out.cell 1 4 rfl rfl
        have s0 := HX3.out.cell 0 0 rfl rfl
        have s1 := HX3.out.cell 0 1 rfl rfl
        have CL := low_any _ _ _ _ _ hrow3 HSm.out
        rw [HSM.out] at CL
        clear hrow3
        by_cases h30 : sm < 30
        · rw [decide_eq_true h30] at CL
          have H30 := Lib.hid h30
          clear h30
          go_wp2_with fail
          refine CL.mono ?_
          rintro e w4 ⟨rfl, rfl⟩
          have HR : Hid (R = none) := Lib.hid (HFAIL.out (by rw [HSZ.out]; have := H30.out; simp; intros; omega))
          go_wp2_with fail
          go_ret
          exact ⟨by rw [HR.out]; rfl, HB3.out⟩
        rw [decide_eq_false h30] at CL
        have H30 := Lib.hid h30
        clear h30
        have HP : Hid ((true && SZ) = true) := Lib.hid (by rw [HSZ.out]; have := H30.out; have := H122.out; have := HLE.out; simp; omega)
        go_wp2_with fail
        refine CL.mono ?_
        rintro e w4 ⟨rfl, rfl⟩
        have HR : Hid (R = some 0) := Lib.hid (HL2.out (by first | rfl | trivial) HP.out)
        go_wp2_with fail
        go_loop [8, 44] (fun s i => s = .int .i64 0 ∧ i = .int .i64 0) (fun _ _ => 0)
        case atStart => exact ⟨rfl, rfl⟩
        case round =>
          obtain ⟨rfl, rfl⟩ := hrel
          go_wp2_with fail
          go_ret
          exact ⟨by rw [HR.out]; rfl, HB3.out⟩
  | false =>
    simp only [Bool.false_eq_true, if_false] at hcn
    replace hcn := hcn.symm
    subst hcn
    replace HSZ : Hid (SZ = (decide (2 ≤ m) && (decide (sumI S ≤ 122) && (root || !decide (sumI S < 30))))) := Lib.hid HSZ.out
    go_enter Try.func61, Try.ntmps61
    go_wp2_with fail
    try rw [hwA]
    clear hwA
    cases FT with
    | false =>
      refine CF.mono ?_
      rintro e w1 ⟨rfl, hb1⟩
      clear CF
      have HB1 := Lib.hid (HB.out.trans (hb1.mono HB.out.size))
      have HX1 := Lib.hid (HX.out.step hb1)
      clear n0 n1 n2 n3 n4 s0 s1 hb1
      have n0 := HX1.out.cell 1 0 rfl rfl
      have n1 := HX1.out.cell 1 1 rfl rfl
      have n2 := HX1.out.cell 1 2 rfl rfl
      have n3 := HX1.out.cell 1 3 rfl rfl
      have n4 := HX1.out.cell 1 4 rfl rfl
      have s0 := HX1.out.cell 0 0 rfl rfl
      have s1 := HX1.out.cell 0 1 rfl rfl
      have HR : Hid (R = none) := Lib.hid (HFAIL.out (rfl))
      go_wp2_with fail
      go_ret
      exact ⟨by rw [HR.out]; rfl, HB1.out⟩
    | true =>
      by_cases hle : m < 2
      · have d1 : decide ((m : Int) < 2) = true := by simp; omega
        have d1' : decide (m < 2) = true := by simp; omega
        have HLE := Lib.hid hle
        clear hle
        refine CF.mono ?_
        rintro e w1 ⟨rfl, hb1⟩
        clear CF
        have HB1 := Lib.hid (HB.out.trans (hb1.mono HB.out.size))
        have HX1 := Lib.hid (HX.out.step hb1)
        clear n0 n1 n2 n3 n4 s0 s1 hb1
        have n0 := HX1.out.cell 1 0 rfl rfl
        have n1 := HX1.out.cell 1 1 rfl rfl
        have n2 := HX1.out.cell 1 2 rfl rfl
        have n3 := HX1.out.cell 1 3 rfl rfl
        have n4 := HX1.out.cell 1 4 rfl rfl
        have s0 := HX1.out.cell 0 0 rfl rfl
        have s1 := HX1.out.cell 0 1 rfl rfl
        have HR : Hid (R = none) := Lib.hid (HFAIL.out (by rw [HSZ.out]; have := HLE.out; simp; omega))
        go_wp2_with fail
        go_ret
        exact ⟨by rw [HR.out]; rfl, HB1.out⟩
      have d1 : decide ((m : Int) < 2) = false := by simp; omega
      have d1' : decide (m < 2) = false := by simp; omega
      have HLE : Hid (2 ≤ m) := Lib.hid (by omega)
      clear hle
      refine CF.mono ?_
      rintro e w1 ⟨rfl, hb1⟩
      clear CF
      have HB1 := Lib.hid (HB.out.trans (hb1.mono HB.out.size))
      have HX1 := Lib.hid (HX.out.step hb1)
      clear n0 n1 n2 n3 n4 s0 s1 hb1
      have n0 := HX1.out.cell 1 0 rfl rfl
      have n1 := HX1.out.cell 1 1 rfl rfl
      have n2 := HX1.out.cell 1 2 rfl rfl
      have n3 := HX1.out.cell 1 3 rfl rfl
      have n4 := HX1.out.cell 1 4 rfl rfl
      have s0 := HX1.out.cell 0 0 rfl rfl
      have s1 := HX1.out.cell 0 1 rfl rfl
      go_wp2_with fail
      refine (CS _ HB1.out).mono ?_
      rintro e w2 ⟨v2, rfl, ho2, hb2⟩
      obtain ⟨sa, sc, rfl, hrow⟩ := Row.of_own ho2
      clear ho2
      have HB2 := Lib.hid (HB1.out.trans (hb2.mono HB1.out.size))
      have HX2 := Lib.hid (HX1.out.step hb2)
      clear n0 n1 n2 n3 n4 s0 s1 hb2
      have n0 := HX2.out.cell 1 0 rfl rfl
      have n1 := HX2.out.cell 1 1 rfl rfl
      have n2 := HX2.out.cell 1 2 rfl rfl
      have n3 := HX2.out.cell 1 3 rfl rfl
      have n4 := HX2.out.cell 1 4 rfl rfl
      have s0 := HX2.out.cell 0 0 rfl rfl
      have s1 := HX2.out.cell 0 1 rfl rfl
      have HROW := Lib.hid hrow
      clear hrow
      obtain ⟨sm, hsm⟩ : ∃ x, sumI S = x := ⟨_, rfl⟩
      have CSum := sum_any _ _ _ _ _ HROW.out HSm.out
      rw [hsm] at CSum HSZ
      have HSM := Lib.hid hsm
      clear hsm
      by_cases h122 : sm ≤ 122
      rotate_left
      · have d2 : decide ((122 : Int) < sm) = true := by simp; omega
        go_wp2_with fail
        refine CSum.mono ?_
        rintro e w3 ⟨rfl, rfl⟩
        have H122 := Lib.hid h122
        clear h122
        have HR : Hid (R = none) := Lib.hid (HFAIL.out (by rw [HSZ.out]; have := H122.out; simp; intros; omega))
        go_wp2_with fail
        go_ret
        exact ⟨by rw [HR.out]; rfl, HB2.out⟩
      have d2 : decide ((122 : Int) < sm) = false := by simp; omega
      have H122 := Lib.hid h122
      clear h122
      cases root with
      | true =>
        have HP : Hid ((true && SZ) = true) := Lib.hid (by rw [HSZ.out]; simp [H122.out]; exact HLE.out)
        go_wp2_with fail
        refine CSum.mono ?_
        rintro e w3 ⟨rfl, rfl⟩
        obtain ⟨q1, q2, q3, q4, q5⟩ := HL1.out (by first | rfl | trivial)
        have HQ1 := Lib.hid (q1 HP.out)
        have HLL := Lib.hid q2
        have HKL := Lib.hid q3
        have HKS := Lib.hid q4
        have HT := Lib.hid q5
        have HK : Hid (∀ i, i < m → (K[i]?.getD []).length ≤ 200) := Lib.hid (fun i hi => by
          have := (q4 l[i] (List.getElem_mem (by omega))).1
          rw [← q3]; simpa [keysOf, show i < l.length by omega] using this)
        clear q1 q2 q3 q4 q5 CS CSum
        go_wp2_with fail
        go_loopw [8, 44] (fun s8 s44 wr => ∃ i far : Nat, i ≤ m ∧ far ≤ 1000 ∧ s44 = .int .i64 i ∧ s8 = .int .i64 far ∧ depK (fun t lo hi => depthT n t lo hi false) lo hi i far (l.drop i) = R ∧ Below w.heap.size w wr ∧ Boxes wr [(w.heap.size + 1, [.string (strOf lo), .string (strOf hi)]), (w.heap.size, [.int .i64 pg, .bool false, .slice ka m kc, .slice va vn vc, .slice ca m cc])]) (fun _ s _ => m - (intOf s).toNat)
        case atStart => exact ⟨0, 0, Nat.zero_le _, Nat.zero_le _, rfl, rfl, HQ1.out.symm, HB2.out, HX2.out⟩
        case round =>
          clear n0 n1 n2 n3 n4 s0 s1
          obtain ⟨i, far, hi', hfar, rfl, rfl, hdk, hb, hx⟩ := hrel
          have hx1 := hx.lt 1 rfl
          have hx0 := hx.lt 0 rfl
          have n0 := hx.cell 1 0 rfl rfl
          have n1 := hx.cell 1 1 rfl rfl
          have n2 := hx.cell 1 2 rfl rfl
          have n3 := hx.cell 1 3 rfl rfl
          have n4 := hx.cell 1 4 rfl rfl
          have s0 := hx.cell 0 0 rfl rfl
          have s1 := hx.cell 0 1 rfl rfl
          by_cases hlt : i < m
          · obtain ⟨bc, oc, kid, kcs, eca, hbc, hy, _, hkid, hcell⟩ := TabR.at HT.out hlt
            obtain ⟨c, hc1, hc2⟩ : ∃ c, l[i]? = some c ∧ c.2 = kid := by
              rw [List.getElem?_map] at hy
              cases hli : l[i]? with
              | none => rw [hli] at hy; cases hy
              | some c => rw [hli] at hy; exact ⟨c, rfl, by injection hy⟩
            have hkk0 : K[i]?.getD [] = c.1 := by rw [← HKL.out]; simp [keysOf, hc1]
            have hkb := HKS.out c (List.mem_of_getElem? hc1)
            obtain ⟨k, hk⟩ : ∃ k, c.1 = k := ⟨_, rfl⟩
            rw [hk] at hkk0 hkb
            rw [hc2] at hkb
            have hkk : k.length ≤ 1000 := by have := hkb.1; omega
            have HKB := Lib.hid hkb.2
            have HC1 := Lib.hid hc1
            have HC2 := Lib.hid hc2
            have HCK := Lib.hid hk
            have HDK := Lib.hid hdk
            clear hc1 hc2 hk hdk hy hkb
            subst eca
            cases n with
            | zero => exact hkid.elim
            | succ n =>
            obtain ⟨y1, y2, y3, y4, y5, y6, y7, y8, _, _, ey, _⟩ := hkid.openK
            subst ey
            have e0 := (hb.cell (p := ⟨bc, oc + i * 5 + 0, none⟩) hbc).trans (hcell 0 _ rfl)
            have e1 := (hb.cell (p := ⟨bc, oc + i * 5 + 1, none⟩) hbc).trans (hcell 1 _ rfl)
            have e2 := (hb.cell (p := ⟨bc, oc + i * 5 + 2, none⟩) hbc).trans (hcell 2 _ rfl)
            have e3 := (hb.cell (p := ⟨bc, oc + i * 5 + 3, none⟩) hbc).trans (hcell 3 _ rfl)
            have e4 := (hb.cell (p := ⟨bc, oc + i * 5 + 4, none⟩) hbc).trans (hcell 4 _ rfl)
            rw [Nat.add_zero] at e0
            have HKID := Lib.hid hkid
            have HB9 := Lib.hid hb
            have HX9 := Lib.hid hx
            have d0 : decide ((i : Int) < (m : Int)) = true := by simp; omega
            have d0' : decide (i < m) = true := by simp; omega
            clear hcell hkid hx
            cases i with
            | zero =>
              simp only [Nat.zero_mul, Nat.add_zero] at e0 e1 e2 e3 e4
              by_cases hla : m ≤ 0 + 1
              · have d3 : decide ((0 : Int) + 1 < (m : Int)) = false := by simp; omega
                have d3' : decide (0 + 1 < m) = false := by simp; omega
                simp only [Nat.zero_add, Int.zero_add] at d3 d3'
                have HNX : Hid (nextH hi (l.drop (0 + 1)) = hi) := Lib.hid (nextH_last (by have := HLL.out; omega))
                have HHI := Lib.hid hhi
                clear hla
                obtain ⟨D, hD⟩ : ∃ D, depthT (n + 1) kid lo hi false = D := ⟨_, rfl⟩
                have CD := fun W (hW : Below w.heap.size w W) => IH (HKID.out.below hW) HKB.out lo hi hlo HHI.out
                rw [hD] at CD
                have HD : Hid (depthT (n + 1) kid (if (0:Nat) = 0 then lo else k) (nextH hi (l.drop (0 + 1))) false = D) := Lib.hid (by rw [HNX.out]; exact hD)
                clear hD
                go_wp2_with fail
                refine (CD _ (by have := HB9.out.size; repeat (first | exact HB9.out | apply Below.al | (refine Below.st ?_ (by simp; omega))))).mono ?_
                rintro e w9 ⟨rfl, hb9⟩
                have hbq : Below w.heap.size w w9 := Below.trans (by have := HB9.out.size; repeat (first | exact HB9.out | apply Below.al | (refine Below.st ?_ (by simp; omega)))) (hb9.mono (by have := HB9.out.size; simp; omega))
                have hxq : Boxes w9 [(w.heap.size + 1, [.string (strOf lo), .string (strOf hi)]), (w.heap.size, [.int .i64 pg, .bool false, .slice _ m kc, .slice va vn vc, .slice _ m cc])] := Boxes.step (by repeat (first | exact HX9.out | apply Boxes.al | (refine Boxes.st ?_ (by intro p hp; simp at hp; rcases hp with rfl | rfl <;> simp <;> omega)))) hb9
                have HBQ := Lib.hid hbq
                have HXQ := Lib.hid hxq
                clear hbq hxq hb9 n0 n1 n2 n3 n4 s0 s1 e0 e1 e2 e3 e4 CD hb
                cases D with
                | none =>
                  have HR : Hid (R = none) := Lib.hid (by rw [← HDK.out]; exact depK_none HC1.out (by rw [HC2.out, HCK.out]; exact HD.out))
                  have hdi : depI none = -1 := rfl
                  rw [hdi]
                  clear hdi
                  go_wp2_with fail
                  go_ret
                  exact ⟨by rw [HR.out]; rfl, HBQ.out⟩
                | some d =>
                  have hdi : depI (some d) = (d : Int) := rfl
                  rw [hdi]
                  clear hdi
                  have hd9 : d + 1 ≤ 1000 := Nat.le_trans (depthT_lt HD.out) hn
                  have dz : ((d : Int) + 1 == 0) = false := beq_eq_false_iff_ne.2 (by omega)
                  have HR : Hid (depK (fun t lo hi => depthT (n + 1) t lo hi false) lo hi (0 + 1) (d + 1) (l.drop (0 + 1)) = R) := Lib.hid (by rw [← HDK.out]; exact (depK_go HC1.out (by rw [HC2.out, HCK.out]; exact HD.out) (by simp)).symm)
                  go_wp2_with fail
                  go_roundw
                  case rel => exact ⟨0 + 1, d + 1, by omega, by omega, by go_num, by go_num, HR.out, HBQ.out, HXQ.out⟩
                  case measure => simp [intOf]; omega
              have d3 : decide ((0 : Int) + 1 < (m : Int)) = true := by simp; omega
              have d3' : decide (0 + 1 < m) = true := by simp; omega
              obtain ⟨bk2, ok2, e2, hbk2, hck2⟩ := H1.out.key_at (show 0 + 1 < m by omega)
              obtain ⟨k2, hk2⟩ : ∃ k, K[0 + 1]?.getD [] = k := ⟨_, rfl⟩
              rw [hk2] at hck2
              have hk2l := HK.out (0 + 1) (by omega)
              rw [hk2] at hk2l
              have HNX : Hid (nextH hi (l.drop (0 + 1)) = k2) := Lib.hid (nextH_mid (by rw [HKL.out]; exact hk2) (by have := HLL.out; omega))
              subst e2
              simp only [Nat.zero_add, Int.zero_add] at d3 d3'
              have g2 := (hb.cell (p := ⟨bk2, ok2 + (0 + 1), none⟩) hbk2).trans hck2
              simp only [Nat.zero_add] at g2
              have hbk9 := Nat.lt_of_lt_of_le hbk2 hb.size
              have hla2 : 1 < m := by omega
              have hla3 : (1 : Int) < (m : Int) := by omega
              clear hla hck2 hk2
              have HHI : Hid (k2.length ≤ 1000) := Lib.hid (by omega)
              obtain ⟨D, hD⟩ : ∃ D, depthT (n + 1) kid lo k2 false = D := ⟨_, rfl⟩
              have CD := fun W (hW : Below w.heap.size w W) => IH (HKID.out.below hW) HKB.out lo k2 hlo HHI.out
              rw [hD] at CD
              have HD : Hid (depthT (n + 1) kid (if (0:Nat) = 0 then lo else k) (nextH hi (l.drop (0 + 1))) false = D) := Lib.hid (by rw [HNX.out]; exact hD)
              clear hD
              go_wp2_with fail
              refine (CD _ (by have := HB9.out.size; repeat (first | exact HB9.out | apply Below.al | (refine Below.st ?_ (by simp; omega))))).mono ?_
              rintro e w9 ⟨rfl, hb9⟩
              have hbq : Below w.heap.size w w9 := Below.trans (by have := HB9.out.size; repeat (first | exact HB9.out | apply Below.al | (refine Below.st ?_ (by simp; omega)))) (hb9.mono (by have := HB9.out.size; simp; omega))
              have hxq : Boxes w9 [(w.heap.size + 1, [.string (strOf lo), .string (strOf hi)]), (w.heap.size, [.int .i64 pg, .bool false, .slice _ m kc, .slice va vn vc, .slice _ m cc])] := Boxes.step (by repeat (first | exact HX9.out | apply Boxes.al | (refine Boxes.st ?_ (by intro p hp; simp at hp; rcases hp with rfl | rfl <;> simp <;> omega)))) hb9
              have HBQ := Lib.hid hbq
              have HXQ := Lib.hid hxq
              clear hbq hxq hb9 n0 n1 n2 n3 n4 s0 s1 e0 e1 e2 e3 e4 CD hb
              cases D with
              | none =>
                have HR : Hid (R = none) := Lib.hid (by rw [← HDK.out]; exact depK_none HC1.out (by rw [HC2.out, HCK.out]; exact HD.out))
                have hdi : depI none = -1 := rfl
                rw [hdi]
                clear hdi
                go_wp2_with fail
                go_ret
                exact ⟨by rw [HR.out]; rfl, HBQ.out⟩
              | some d =>
                have hdi : depI (some d) = (d : Int) := rfl
                rw [hdi]
                clear hdi
                have hd9 : d + 1 ≤ 1000 := Nat.le_trans (depthT_lt HD.out) hn
                have dz : ((d : Int) + 1 == 0) = false := beq_eq_false_iff_ne.2 (by omega)
                have HR : Hid (depK (fun t lo hi => depthT (n + 1) t lo hi false) lo hi (0 + 1) (d + 1) (l.drop (0 + 1)) = R) := Lib.hid (by rw [← HDK.out]; exact (depK_go HC1.out (by rw [HC2.out, HCK.out]; exact HD.out) (by simp)).symm)
                go_wp2_with fail
                go_roundw
                case rel => exact ⟨0 + 1, d + 1, by omega, by omega, by go_num, by go_num, HR.out, HBQ.out, HXQ.out⟩
                case measure => simp [intOf]; omega
            | succ i =>
              obtain ⟨bk, ok, eka, hbk, hck⟩ := H1.out.key_at hlt
              rw [hkk0] at hck
              subst eka
              have g1 := (hb.cell (p := ⟨bk, ok + (i + 1), none⟩) hbk).trans hck
              have d5 : decide ((0 : Int) < ((i + 1 : Nat) : Int)) = true := decide_eq_true (by omega)
              have d5' : decide (0 < i + 1) = true := by simp
              have hbk9 := Nat.lt_of_lt_of_le hbk hb.size
              clear hck
              by_cases hla : m ≤ i + 1 + 1
              · have d3 : decide ((i : Int) + 1 + 1 < (m : Int)) = false := by simp; omega
                have d3' : decide (i + 1 + 1 < m) = false := by simp; omega
                have HNX : Hid (nextH hi (l.drop (i + 1 + 1)) = hi) := Lib.hid (nextH_last (by have := HLL.out; omega))
                have HHI := Lib.hid hhi
                clear hla
                obtain ⟨D, hD⟩ : ∃ D, depthT (n + 1) kid k hi false = D := ⟨_, rfl⟩
                have CD := fun W (hW : Below w.heap.size w W) => IH (HKID.out.below hW) HKB.out k hi hkk HHI.out
                rw [hD] at CD
                have HD : Hid (depthT (n + 1) kid (if i + 1 = 0 then lo else k) (nextH hi (l.drop (i + 1 + 1))) false = D) := Lib.hid (by rw [HNX.out]; exact hD)
                clear hD
                go_wp2_with fail
                refine (CD _ (by have := HB9.out.size; repeat (first | exact HB9.out | apply Below.al | (refine Below.st ?_ (by simp; omega))))).mono ?_
                rintro e w9 ⟨rfl, hb9⟩
                have hbq : Below w.heap.size w w9 := Below.trans (by have := HB9.out.size; repeat (first | exact HB9.out | apply Below.al | (refine Below.st ?_ (by simp; omega)))) (hb9.mono (by have := HB9.out.size; simp; omega))
                have hxq : Boxes w9 [(w.heap.size + 1, [.string (strOf lo), .string (strOf hi)]), (w.heap.size, [.int .i64 pg, .bool false, .slice _ m kc, .slice va vn vc, .slice _ m cc])] := Boxes.step (by repeat (first | exact HX9.out | apply Boxes.al | (refine Boxes.st ?_ (by intro p hp; simp at hp; rcases hp with rfl | rfl <;> simp <;> omega)))) hb9
                have HBQ := Lib.hid hbq
                have HXQ := Lib.hid hxq
                clear hbq hxq hb9 n0 n1 n2 n3 n4 s0 s1 e0 e1 e2 e3 e4 CD hb
                cases D with
                | none =>
                  have HR : Hid (R = none) := Lib.hid (by rw [← HDK.out]; exact depK_none HC1.out (by rw [HC2.out, HCK.out]; exact HD.out))
                  have hdi : depI none = -1 := rfl
                  rw [hdi]
                  clear hdi
                  go_wp2_with fail
                  go_ret
                  exact ⟨by rw [HR.out]; rfl, HBQ.out⟩
                | some d =>
                  have hdi : depI (some d) = (d : Int) := rfl
                  rw [hdi]
                  clear hdi
                  have hd9 : d + 1 ≤ 1000 := Nat.le_trans (depthT_lt HD.out) hn
                  have dz : ((d : Int) + 1 == 0) = false := beq_eq_false_iff_ne.2 (by omega)
                  by_cases hfd : d + 1 = far
                  · have dy : ((d : Int) + 1 != (far : Int)) = false := by simp; omega
                    have HR : Hid (depK (fun t lo hi => depthT (n + 1) t lo hi false) lo hi (i + 1 + 1) (d + 1) (l.drop (i + 1 + 1)) = R) := Lib.hid (by rw [← HDK.out]; exact (depK_go HC1.out (by rw [HC2.out, HCK.out]; exact HD.out) (by simp [hfd])).symm)
                    have HFD := Lib.hid hfd
                    clear hfd
                    go_wp2_with fail
                    go_roundw
                    case rel => exact ⟨i + 1 + 1, d + 1, by omega, by omega, by go_num, by go_num, HR.out, HBQ.out, HXQ.out⟩
                    case measure => simp [intOf]; omega
                  · have dy : ((d : Int) + 1 != (far : Int)) = true := by simp; omega
                    have HR : Hid (R = none) := Lib.hid (by rw [← HDK.out]; exact depK_far HC1.out (by rw [HC2.out, HCK.out]; exact HD.out) ⟨by omega, hfd⟩)
                    have HFD := Lib.hid hfd
                    clear hfd
                    go_wp2_with fail
                    go_ret
                    exact ⟨by rw [HR.out]; rfl, HBQ.out⟩
              have d3 : decide ((i : Int) + 1 + 1 < (m : Int)) = true := by simp; omega
              have d3' : decide (i + 1 + 1 < m) = true := by simp; omega
              obtain ⟨bk2, ok2, e2, hbk2, hck2⟩ := H1.out.key_at (show i + 1 + 1 < m by omega)
              obtain ⟨k2, hk2⟩ : ∃ k, K[i + 1 + 1]?.getD [] = k := ⟨_, rfl⟩
              rw [hk2] at hck2
              have hk2l := HK.out (i + 1 + 1) (by omega)
              rw [hk2] at hk2l
              have HNX : Hid (nextH hi (l.drop (i + 1 + 1)) = k2) := Lib.hid (nextH_mid (by rw [HKL.out]; exact hk2) (by have := HLL.out; omega))
              cases e2
              have g2 := (hb.cell (p := ⟨bk, ok + (i + 1 + 1), none⟩) hbk2).trans hck2
              have hla2 : i + 1 + 1 < m := by omega
              have hla3 : (i : Int) + 1 + 1 < (m : Int) := by omega
              clear hla hck2 hk2
              have HHI : Hid (k2.length ≤ 1000) := Lib.hid (by omega)
              obtain ⟨D, hD⟩ : ∃ D, depthT (n + 1) kid k k2 false = D := ⟨_, rfl⟩
              have CD := fun W (hW : Below w.heap.size w W) => IH (HKID.out.below hW) HKB.out k k2 hkk HHI.out
              rw [hD] at CD
              have HD : Hid (depthT (n + 1) kid (if i + 1 = 0 then lo else k) (nextH hi (l.drop (i + 1 + 1))) false = D) := Lib.hid (by rw [HNX.out]; exact hD)
              clear hD
              go_wp2_with fail
              refine (CD _ (by have := HB9.out.size; repeat (first | exact HB9.out | apply Below.al | (refine Below.st ?_ (by simp; omega))))).mono ?_
              rintro e w9 ⟨rfl, hb9⟩
              have hbq : Below w.heap.size w w9 := Below.trans (by have := HB9.out.size; repeat (first | exact HB9.out | apply Below.al | (refine Below.st ?_ (by simp; omega)))) (hb9.mono (by have := HB9.out.size; simp; omega))
              have hxq : Boxes w9 [(w.heap.size + 1, [.string (strOf lo), .string (strOf hi)]), (w.heap.size, [.int .i64 pg, .bool false, .slice _ m kc, .slice va vn vc, .slice _ m cc])] := Boxes.step (by repeat (first | exact HX9.out | apply Boxes.al | (refine Boxes.st ?_ (by intro p hp; simp at hp; rcases hp with rfl | rfl <;> simp <;> omega)))) hb9
              have HBQ := Lib.hid hbq
              have HXQ := Lib.hid hxq
              clear hbq hxq hb9 n0 n1 n2 n3 n4 s0 s1 e0 e1 e2 e3 e4 CD hb
              cases D with
              | none =>
                have HR : Hid (R = none) := Lib.hid (by rw [← HDK.out]; exact depK_none HC1.out (by rw [HC2.out, HCK.out]; exact HD.out))
                have hdi : depI none = -1 := rfl
                rw [hdi]
                clear hdi
                go_wp2_with fail
                go_ret
                exact ⟨by rw [HR.out]; rfl, HBQ.out⟩
              | some d =>
                have hdi : depI (some d) = (d : Int) := rfl
                rw [hdi]
                clear hdi
                have hd9 : d + 1 ≤ 1000 := Nat.le_trans (depthT_lt HD.out) hn
                have dz : ((d : Int) + 1 == 0) = false := beq_eq_false_iff_ne.2 (by omega)
                by_cases hfd : d + 1 = far
                · have dy : ((d : Int) + 1 != (far : Int)) = false := by simp; omega
                  have HR : Hid (depK (fun t lo hi => depthT (n + 1) t lo hi false) lo hi (i + 1 + 1) (d + 1) (l.drop (i + 1 + 1)) = R) := Lib.hid (by rw [← HDK.out]; exact (depK_go HC1.out (by rw [HC2.out, HCK.out]; exact HD.out) (by simp [hfd])).symm)
                  have HFD := Lib.hid hfd
                  clear hfd
                  go_wp2_with fail
                  go_roundw
                  case rel => exact ⟨i + 1 + 1, d + 1, by omega, by omega, by go_num, by go_num, HR.out, HBQ.out, HXQ.out⟩
                  case measure => simp [intOf]; omega
                · have dy : ((d : Int) + 1 != (far : Int)) = true := by simp; omega
                  have HR : Hid (R = none) := Lib.hid (by rw [← HDK.out]; exact depK_far HC1.out (by rw [HC2.out, HCK.out]; exact HD.out) ⟨by omega, hfd⟩)
                  have HFD := Lib.hid hfd
                  clear hfd
                  go_wp2_with fail
                  go_ret
                  exact ⟨by rw [HR.out]; rfl, HBQ.out⟩
          · obtain rfl : i = m := by omega
            have HR : Hid (R = some far) := Lib.hid (by rw [← hdk, List.drop_of_length_le (by have := HLL.out; omega)]; rfl)
            have HB9 := Lib.hid hb
            clear hdk hb hx hx0 hx1
            go_wp2_with fail
            go_ret
            exact ⟨by rw [HR.out]; rfl, HB9.out⟩
      | false =>
        have CS2 := CS _ HB2.out
        go_wp2_with fail
        refine CSum.mono ?_
        rintro e w3 ⟨rfl, rfl⟩
        go_wp2_with fail
        refine CS2.mono ?_
        rintro e w3 ⟨v3, rfl, ho3, hb3⟩
        obtain ⟨sb, sd, rfl, hrow3⟩ := Row.of_own ho3
        clear ho3 CS2
        have HB3 := Lib.hid (HB2.out.trans (hb3.mono HB2.out.size))
        have HX3 := Lib.hid (HX2.out.step hb3)
        clear n0 n1 n2 n3 n4 s0 s1 hb3
        have n0 := HX3.out.cell 1 0 rfl rfl
        have n1 := HX3.out.cell 1 1 rfl rfl
        have n2 := HX3.out.cell 1 2 rfl rfl
        have n3 := HX3.out.cell 1 3 rfl rfl
        have n4 := HX3.out.cell 1 4 rfl rfl
        have s0 := HX3.out.cell 0 0 rfl rfl
        have s1 := HX3.out.cell 0 1 rfl rfl
        have CL := low_any _ _ _ _ _ hrow3 HSm.out
        rw [HSM.out] at CL
        clear hrow3
        by_cases h30 : sm < 30
        · rw [decide_eq_true h30] at CL
          have H30 := Lib.hid h30
          clear h30
          go_wp2_with fail
          refine CL.mono ?_
          rintro e w4 ⟨rfl, rfl⟩
          have HR : Hid (R = none) := Lib.hid (HFAIL.out (by rw [HSZ.out]; have := H30.out; simp; intros; omega))
          go_wp2_with fail
          go_ret
          exact ⟨by rw [HR.out]; rfl, HB3.out⟩
        rw [decide_eq_false h30] at CL
        have H30 := Lib.hid h30
        clear h30
        have HP : Hid ((true && SZ) = true) := Lib.hid (by rw [HSZ.out]; have := H30.out; have := H122.out; have := HLE.out; simp; omega)
        go_wp2_with fail
        refine CL.mono ?_
        rintro e w4 ⟨rfl, rfl⟩
        obtain ⟨q1, q2, q3, q4, q5⟩ := HL1.out (by first | rfl | trivial)
        have HQ1 := Lib.hid (q1 HP.out)
        have HLL := Lib.hid q2
        have HKL := Lib.hid q3
        have HKS := Lib.hid q4
        have HT := Lib.hid q5
        have HK : Hid (∀ i, i < m → (K[i]?.getD []).length ≤ 200) := Lib.hid (fun i hi => by
          have := (q4 l[i] (List.getElem_mem (by omega))).1
          rw [← q3]; simpa [keysOf, show i < l.length by omega] using this)
        clear q1 q2 q3 q4 q5 CS CSum
        go_wp2_with fail
        go_loopw [8, 44] (fun s8 s44 wr => ∃ i far : Nat, i ≤ m ∧ far ≤ 1000 ∧ s44 = .int .i64 i ∧ s8 = .int .i64 far ∧ depK (fun t lo hi => depthT n t lo hi false) lo hi i far (l.drop i) = R ∧ Below w.heap.size w wr ∧ Boxes wr [(w.heap.size + 1, [.string (strOf lo), .string (strOf hi)]), (w.heap.size, [.int .i64 pg, .bool false, .slice ka m kc, .slice va vn vc, .slice ca m cc])]) (fun _ s _ => m - (intOf s).toNat)
        case atStart => exact ⟨0, 0, Nat.zero_le _, Nat.zero_le _, rfl, rfl, HQ1.out.symm, HB3.out, HX3.out⟩
        case round =>
          clear n0 n1 n2 n3 n4 s0 s1
          obtain ⟨i, far, hi', hfar, rfl, rfl, hdk, hb, hx⟩ := hrel
          have hx1 := hx.lt 1 rfl
          have hx0 := hx.lt 0 rfl
          have n0 := hx.cell 1 0 rfl rfl
          have n1 := hx.cell 1 1 rfl rfl
          have n2 := hx.cell 1 2 rfl rfl
          have n3 := hx.cell 1 3 rfl rfl
          have n4 := hx.cell 1 4 rfl rfl
          have s0 := hx.cell 0 0 rfl rfl
          have s1 := hx.cell 0 1 rfl rfl
          by_cases hlt : i < m
          · obtain ⟨bc, oc, kid, kcs, eca, hbc, hy, _, hkid, hcell⟩ := TabR.at HT.out hlt
            obtain ⟨c, hc1, hc2⟩ : ∃ c, l[i]? = some c ∧ c.2 = kid := by
              rw [List.getElem?_map] at hy
              cases hli : l[i]? with
              | none => rw [hli] at hy; cases hy
              | some c => rw [hli] at hy; exact ⟨c, rfl, by injection hy⟩
            have hkk0 : K[i]?.getD [] = c.1 := by rw [← HKL.out]; simp [keysOf, hc1]
            have hkb := HKS.out c (List.mem_of_getElem? hc1)
            obtain ⟨k, hk⟩ : ∃ k, c.1 = k := ⟨_, rfl⟩
            rw [hk] at hkk0 hkb
            rw [hc2] at hkb
            have hkk : k.length ≤ 1000 := by have := hkb.1; omega
            have HKB := Lib.hid hkb.2
            have HC1 := Lib.hid hc1
            have HC2 := Lib.hid hc2
            have HCK := Lib.hid hk
            have HDK := Lib.hid hdk
            clear hc1 hc2 hk hdk hy hkb
            subst eca
            cases n with
            | zero => exact hkid.elim
            | succ n =>
            obtain ⟨y1, y2, y3, y4, y5, y6, y7, y8, _, _, ey, _⟩ := hkid.openK
            subst ey
            have e0 := (hb.cell (p := ⟨bc, oc + i * 5 + 0, none⟩) hbc).trans (hcell 0 _ rfl)
            have e1 := (hb.cell (p := ⟨bc, oc + i * 5 + 1, none⟩) hbc).trans (hcell 1 _ rfl)
            have e2 := (hb.cell (p := ⟨bc, oc + i * 5 + 2, none⟩) hbc).trans (hcell 2 _ rfl)
            have e3 := (hb.cell (p := ⟨bc, oc + i * 5 + 3, none⟩) hbc).trans (hcell 3 _ rfl)
            have e4 := (hb.cell (p := ⟨bc, oc + i * 5 + 4, none⟩) hbc).trans (hcell 4 _ rfl)
            rw [Nat.add_zero] at e0
            have HKID := Lib.hid hkid
            have HB9 := Lib.hid hb
            have HX9 := Lib.hid hx
            have d0 : decide ((i : Int) < (m : Int)) = true := by simp; omega
            have d0' : decide (i < m) = true := by simp; omega
            clear hcell hkid hx
            cases i with
            | zero =>
              simp only [Nat.zero_mul, Nat.add_zero] at e0 e1 e2 e3 e4
              by_cases hla : m ≤ 0 + 1
              · have d3 : decide ((0 : Int) + 1 < (m : Int)) = false := by simp; omega
                have d3' : decide (0 + 1 < m) = false := by simp; omega
                simp only [Nat.zero_add, Int.zero_add] at d3 d3'
                have HNX : Hid (nextH hi (l.drop (0 + 1)) = hi) := Lib.hid (nextH_last (by have := HLL.out; omega))
                have HHI := Lib.hid hhi
                clear hla
                obtain ⟨D, hD⟩ : ∃ D, depthT (n + 1) kid lo hi false = D := ⟨_, rfl⟩
                have CD := fun W (hW : Below w.heap.size w W) => IH (HKID.out.below hW) HKB.out lo hi hlo HHI.out
                rw [hD] at CD
                have HD : Hid (depthT (n + 1) kid (if (0:Nat) = 0 then lo else k) (nextH hi (l.drop (0 + 1))) false = D) := Lib.hid (by rw [HNX.out]; exact hD)
                clear hD
                go_wp2_with fail
                refine (CD _ (by have := HB9.out.size; repeat (first | exact HB9.out | apply Below.al | (refine Below.st ?_ (by simp; omega))))).mono ?_
                rintro e w9 ⟨rfl, hb9⟩
                have hbq : Below w.heap.size w w9 := Below.trans (by have := HB9.out.size; repeat (first | exact HB9.out | apply Below.al | (refine Below.st ?_ (by simp; omega)))) (hb9.mono (by have := HB9.out.size; simp; omega))
                have hxq : Boxes w9 [(w.heap.size + 1, [.string (strOf lo), .string (strOf hi)]), (w.heap.size, [.int .i64 pg, .bool false, .slice _ m kc, .slice va vn vc, .slice _ m cc])] := Boxes.step (by repeat (first | exact HX9.out | apply Boxes.al | (refine Boxes.st ?_ (by intro p hp; simp at hp; rcases hp with rfl | rfl <;> simp <;> omega)))) hb9
                have HBQ := Lib.hid hbq
                have HXQ := Lib.hid hxq
                clear hbq hxq hb9 n0 n1 n2 n3 n4 s0 s1 e0 e1 e2 e3 e4 CD hb
                cases D with
                | none =>
                  have HR : Hid (R = none) := Lib.hid (by rw [← HDK.out]; exact depK_none HC1.out (by rw [HC2.out, HCK.out]; exact HD.out))
                  have hdi : depI none = -1 := rfl
                  rw [hdi]
                  clear hdi
                  go_wp2_with fail
                  go_ret
                  exact ⟨by rw [HR.out]; rfl, HBQ.out⟩
                | some d =>
                  have hdi : depI (some d) = (d : Int) := rfl
                  rw [hdi]
                  clear hdi
                  have hd9 : d + 1 ≤ 1000 := Nat.le_trans (depthT_lt HD.out) hn
                  have dz : ((d : Int) + 1 == 0) = false := beq_eq_false_iff_ne.2 (by omega)
                  have HR : Hid (depK (fun t lo hi => depthT (n + 1) t lo hi false) lo hi (0 + 1) (d + 1) (l.drop (0 + 1)) = R) := Lib.hid (by rw [← HDK.out]; exact (depK_go HC1.out (by rw [HC2.out, HCK.out]; exact HD.out) (by simp)).symm)
                  go_wp2_with fail
                  go_roundw
                  case rel => exact ⟨0 + 1, d + 1, by omega, by omega, by go_num, by go_num, HR.out, HBQ.out, HXQ.out⟩
                  case measure => simp [intOf]; omega
              have d3 : decide ((0 : Int) + 1 < (m : Int)) = true := by simp; omega
              have d3' : decide (0 + 1 < m) = true := by simp; omega
              obtain ⟨bk2, ok2, e2, hbk2, hck2⟩ := H1.out.key_at (show 0 + 1 < m by omega)
              obtain ⟨k2, hk2⟩ : ∃ k, K[0 + 1]?.getD [] = k := ⟨_, rfl⟩
              rw [hk2] at hck2
              have hk2l := HK.out (0 + 1) (by omega)
              rw [hk2] at hk2l
              have HNX : Hid (nextH hi (l.drop (0 + 1)) = k2) := Lib.hid (nextH_mid (by rw [HKL.out]; exact hk2) (by have := HLL.out; omega))
              subst e2
              simp only [Nat.zero_add, Int.zero_add] at d3 d3'
              have g2 := (hb.cell (p := ⟨bk2, ok2 + (0 + 1), none⟩) hbk2).trans hck2
              simp only [Nat.zero_add] at g2
              have hbk9 := Nat.lt_of_lt_of_le hbk2 hb.size
              have hla2 : 1 < m := by omega
              have hla3 : (1 : Int) < (m : Int) := by omega
              clear hla hck2 hk2
              have HHI : Hid (k2.length ≤ 1000) := Lib.hid (by omega)
              obtain ⟨D, hD⟩ : ∃ D, depthT (n + 1) kid lo k2 false = D := ⟨_, rfl⟩
              have CD := fun W (hW : Below w.heap.size w W) => IH (HKID.out.below hW) HKB.out lo k2 hlo HHI.out
              rw [hD] at CD
              have HD : Hid (depthT (n + 1) kid (if (0:Nat) = 0 then lo else k) (nextH hi (l.drop (0 + 1))) false = D) := Lib.hid (by rw [HNX.out]; exact hD)
              clear hD
              go_wp2_with fail
              refine (CD _ (by have := HB9.out.size; repeat (first | exact HB9.out | apply Below.al | (refine Below.st ?_ (by simp; omega))))).mono ?_
              rintro e w9 ⟨rfl, hb9⟩
              have hbq : Below w.heap.size w w9 := Below.trans (by have := HB9.out.size; repeat (first | exact HB9.out | apply Below.al | (refine Below.st ?_ (by simp; omega)))) (hb9.mono (by have := HB9.out.size; simp; omega))
              have hxq : Boxes w9 [(w.heap.size + 1, [.string (strOf lo), .string (strOf hi)]), (w.heap.size, [.int .i64 pg, .bool false, .slice _ m kc, .slice va vn vc, .slice _ m cc])] := Boxes.step (by repeat (first | exact HX9.out | apply Boxes.al | (refine Boxes.st ?_ (by intro p hp; simp at hp; rcases hp with rfl | rfl <;> simp <;> omega)))) hb9
              have HBQ := Lib.hid hbq
              have HXQ := Lib.hid hxq
              clear hbq hxq hb9 n0 n1 n2 n3 n4 s0 s1 e0 e1 e2 e3 e4 CD hb
              cases D with
              | none =>
                have HR : Hid (R = none) := Lib.hid (by rw [← HDK.out]; exact depK_none HC1.out (by rw [HC2.out, HCK.out]; exact HD.out))
                have hdi : depI none = -1 := rfl
                rw [hdi]
                clear hdi
                go_wp2_with fail
                go_ret
                exact ⟨by rw [HR.out]; rfl, HBQ.out⟩
              | some d =>
                have hdi : depI (some d) = (d : Int) := rfl
                rw [hdi]
                clear hdi
                have hd9 : d + 1 ≤ 1000 := Nat.le_trans (depthT_lt HD.out) hn
                have dz : ((d : Int) + 1 == 0) = false := beq_eq_false_iff_ne.2 (by omega)
                have HR : Hid (depK (fun t lo hi => depthT (n + 1) t lo hi false) lo hi (0 + 1) (d + 1) (l.drop (0 + 1)) = R) := Lib.hid (by rw [← HDK.out]; exact (depK_go HC1.out (by rw [HC2.out, HCK.out]; exact HD.out) (by simp)).symm)
                go_wp2_with fail
                go_roundw
                case rel => exact ⟨0 + 1, d + 1, by omega, by omega, by go_num, by go_num, HR.out, HBQ.out, HXQ.out⟩
                case measure => simp [intOf]; omega
            | succ i =>
              obtain ⟨bk, ok, eka, hbk, hck⟩ := H1.out.key_at hlt
              rw [hkk0] at hck
              subst eka
              have g1 := (hb.cell (p := ⟨bk, ok + (i + 1), none⟩) hbk).trans hck
              have d5 : decide ((0 : Int) < ((i + 1 : Nat) : Int)) = true := decide_eq_true (by omega)
              have d5' : decide (0 < i + 1) = true := by simp
              have hbk9 := Nat.lt_of_lt_of_le hbk hb.size
              clear hck
              by_cases hla : m ≤ i + 1 + 1
              · have d3 : decide ((i : Int) + 1 + 1 < (m : Int)) = false := by simp; omega
                have d3' : decide (i + 1 + 1 < m) = false := by simp; omega
                have HNX : Hid (nextH hi (l.drop (i + 1 + 1)) = hi) := Lib.hid (nextH_last (by have := HLL.out; omega))
                have HHI := Lib.hid hhi
                clear hla
                obtain ⟨D, hD⟩ : ∃ D, depthT (n + 1) kid k hi false = D := ⟨_, rfl⟩
                have CD := fun W (hW : Below w.heap.size w W) => IH (HKID.out.below hW) HKB.out k hi hkk HHI.out
                rw [hD] at CD
                have HD : Hid (depthT (n + 1) kid (if i + 1 = 0 then lo else k) (nextH hi (l.drop (i + 1 + 1))) false = D) := Lib.hid (by rw [HNX.out]; exact hD)
                clear hD
                go_wp2_with fail
                refine (CD _ (by have := HB9.out.size; repeat (first | exact HB9.out | apply Below.al | (refine Below.st ?_ (by simp; omega))))).mono ?_
                rintro e w9 ⟨rfl, hb9⟩
                have hbq : Below w.heap.size w w9 := Below.trans (by have := HB9.out.size; repeat (first | exact HB9.out | apply Below.al | (refine Below.st ?_ (by simp; omega)))) (hb9.mono (by have := HB9.out.size; simp; omega))
                have hxq : Boxes w9 [(w.heap.size + 1, [.string (strOf lo), .string (strOf hi)]), (w.heap.size, [.int .i64 pg, .bool false, .slice _ m kc, .slice va vn vc, .slice _ m cc])] := Boxes.step (by repeat (first | exact HX9.out | apply Boxes.al | (refine Boxes.st ?_ (by intro p hp; simp at hp; rcases hp with rfl | rfl <;> simp <;> omega)))) hb9
                have HBQ := Lib.hid hbq
                have HXQ := Lib.hid hxq
                clear hbq hxq hb9 n0 n1 n2 n3 n4 s0 s1 e0 e1 e2 e3 e4 CD hb
                cases D with
                | none =>
                  have HR : Hid (R = none) := Lib.hid (by rw [← HDK.out]; exact depK_none HC1.out (by rw [HC2.out, HCK.out]; exact HD.out))
                  have hdi : depI none = -1 := rfl
                  rw [hdi]
                  clear hdi
                  go_wp2_with fail
                  go_ret
                  exact ⟨by rw [HR.out]; rfl, HBQ.out⟩
                | some d =>
                  have hdi : depI (some d) = (d : Int) := rfl
                  rw [hdi]
                  clear hdi
                  have hd9 : d + 1 ≤ 1000 := Nat.le_trans (depthT_lt HD.out) hn
                  have dz : ((d : Int) + 1 == 0) = false := beq_eq_false_iff_ne.2 (by omega)
                  by_cases hfd : d + 1 = far
                  · have dy : ((d : Int) + 1 != (far : Int)) = false := by simp; omega
                    have HR : Hid (depK (fun t lo hi => depthT (n + 1) t lo hi false) lo hi (i + 1 + 1) (d + 1) (l.drop (i + 1 + 1)) = R) := Lib.hid (by rw [← HDK.out]; exact (depK_go HC1.out (by rw [HC2.out, HCK.out]; exact HD.out) (by simp [hfd])).symm)
                    have HFD := Lib.hid hfd
                    clear hfd
                    go_wp2_with fail
                    go_roundw
                    case rel => exact ⟨i + 1 + 1, d + 1, by omega, by omega, by go_num, by go_num, HR.out, HBQ.out, HXQ.out⟩
                    case measure => simp [intOf]; omega
                  · have dy : ((d : Int) + 1 != (far : Int)) = true := by simp; omega
                    have HR : Hid (R = none) := Lib.hid (by rw [← HDK.out]; exact depK_far HC1.out (by rw [HC2.out, HCK.out]; exact HD.out) ⟨by omega, hfd⟩)
                    have HFD := Lib.hid hfd
                    clear hfd
                    go_wp2_with fail
                    go_ret
                    exact ⟨by rw [HR.out]; rfl, HBQ.out⟩
              have d3 : decide ((i : Int) + 1 + 1 < (m : Int)) = true := by simp; omega
              have d3' : decide (i + 1 + 1 < m) = true := by simp; omega
              obtain ⟨bk2, ok2, e2, hbk2, hck2⟩ := H1.out.key_at (show i + 1 + 1 < m by omega)
              obtain ⟨k2, hk2⟩ : ∃ k, K[i + 1 + 1]?.getD [] = k := ⟨_, rfl⟩
              rw [hk2] at hck2
              have hk2l := HK.out (i + 1 + 1) (by omega)
              rw [hk2] at hk2l
              have HNX : Hid (nextH hi (l.drop (i + 1 + 1)) = k2) := Lib.hid (nextH_mid (by rw [HKL.out]; exact hk2) (by have := HLL.out; omega))
              cases e2
              have g2 := (hb.cell (p := ⟨bk, ok + (i + 1 + 1), none⟩) hbk2).trans hck2
              have hla2 : i + 1 + 1 < m := by omega
              have hla3 : (i : Int) + 1 + 1 < (m : Int) := by omega
              clear hla hck2 hk2
              have HHI : Hid (k2.length ≤ 1000) := Lib.hid (by omega)
              obtain ⟨D, hD⟩ : ∃ D, depthT (n + 1) kid k k2 false = D := ⟨_, rfl⟩
              have CD := fun W (hW : Below w.heap.size w W) => IH (HKID.out.below hW) HKB.out k k2 hkk HHI.out
              rw [hD] at CD
              have HD : Hid (depthT (n + 1) kid (if i + 1 = 0 then lo else k) (nextH hi (l.drop (i + 1 + 1))) false = D) := Lib.hid (by rw [HNX.out]; exact hD)
              clear hD
              go_wp2_with fail
              refine (CD _ (by have := HB9.out.size; repeat (first | exact HB9.out | apply Below.al | (refine Below.st ?_ (by simp; omega))))).mono ?_
              rintro e w9 ⟨rfl, hb9⟩
              have hbq : Below w.heap.size w w9 := Below.trans (by have := HB9.out.size; repeat (first | exact HB9.out | apply Below.al | (refine Below.st ?_ (by simp; omega)))) (hb9.mono (by have := HB9.out.size; simp; omega))
              have hxq : Boxes w9 [(w.heap.size + 1, [.string (strOf lo), .string (strOf hi)]), (w.heap.size, [.int .i64 pg, .bool false, .slice _ m kc, .slice va vn vc, .slice _ m cc])] := Boxes.step (by repeat (first | exact HX9.out | apply Boxes.al | (refine Boxes.st ?_ (by intro p hp; simp at hp; rcases hp with rfl | rfl <;> simp <;> omega)))) hb9
              have HBQ := Lib.hid hbq
              have HXQ := Lib.hid hxq
              clear hbq hxq hb9 n0 n1 n2 n3 n4 s0 s1 e0 e1 e2 e3 e4 CD hb
              cases D with
              | none =>
                have HR : Hid (R = none) := Lib.hid (by rw [← HDK.out]; exact depK_none HC1.out (by rw [HC2.out, HCK.out]; exact HD.out))
                have hdi : depI none = -1 := rfl
                rw [hdi]
                clear hdi
                go_wp2_with fail
                go_ret
                exact ⟨by rw [HR.out]; rfl, HBQ.out⟩
              | some d =>
                have hdi : depI (some d) = (d : Int) := rfl
                rw [hdi]
                clear hdi
                have hd9 : d + 1 ≤ 1000 := Nat.le_trans (depthT_lt HD.out) hn
                have dz : ((d : Int) + 1 == 0) = false := beq_eq_false_iff_ne.2 (by omega)
                by_cases hfd : d + 1 = far
                · have dy : ((d : Int) + 1 != (far : Int)) = false := by simp; omega
                  have HR : Hid (depK (fun t lo hi => depthT (n + 1) t lo hi false) lo hi (i + 1 + 1) (d + 1) (l.drop (i + 1 + 1)) = R) := Lib.hid (by rw [← HDK.out]; exact (depK_go HC1.out (by rw [HC2.out, HCK.out]; exact HD.out) (by simp [hfd])).symm)
                  have HFD := Lib.hid hfd
                  clear hfd
                  go_wp2_with fail
                  go_roundw
                  case rel => exact ⟨i + 1 + 1, d + 1, by omega, by omega, by go_num, by go_num, HR.out, HBQ.out, HXQ.out⟩
                  case measure => simp [intOf]; omega
                · have dy : ((d : Int) + 1 != (far : Int)) = true := by simp; omega
                  have HR : Hid (R = none) := Lib.hid (by rw [← HDK.out]; exact depK_far HC1.out (by rw [HC2.out, HCK.out]; exact HD.out) ⟨by omega, hfd⟩)
                  have HFD := Lib.hid hfd
                  clear hfd
                  go_wp2_with fail
                  go_ret
                  exact ⟨by rw [HR.out]; rfl, HBQ.out⟩
          · obtain rfl : i = m := by omega
            have HR : Hid (R = some far) := Lib.hid (by rw [← hdk, List.drop_of_length_le (by have := HLL.out; omega)]; rfl)
            have HB9 := Lib.hid hb
            clear hdk hb hx hx0 hx1
            go_wp2_with fail
            go_ret
            exact ⟨by rw [HR.out]; rfl, HB9.out⟩
theorem depth_any : ∀ {n : Nat} {w : World} {cs : List Value} {t : Tr}, NodeIn n w cs t → Bnd n t → n ≤ 1000 → ∀ (lo hi : List UInt8) (root : Bool), lo.length ≤ 1000 → hi.length ≤ 1000 →
    Calls Try.prog 61 #[.agg cs.toArray, .agg #[.string (strOf lo), .string (strOf hi)], .bool root] w fun e w' => e = .returned (.int .i64 (depI (depthT n t lo hi root))) ∧ Below w.heap.size w w'
  | 0, _, _, _, h, _, _, _, _, _, _, _ => h.elim
  | n + 1, _, _, _, h, hb, hn, lo, hi, root, hlo, hhi => depth_step (fun h hb lo hi hlo hhi => depth_any h hb (by omega) lo hi false hlo hhi) h hb (by omega) lo hi root hlo hhi
theorem depI_nn (o : Option Nat) : decide ((0 : Int) ≤ depI o) = o.isSome := by
  cases o with
  | none => rfl
  | some d => simp [depI]
set_option maxRecDepth 100000 in
set_option maxHeartbeats 2000000 in
theorem tcheck_any {n : Nat} {w : World} {cs : List Value} {t : Tr} (h : NodeIn n w cs t) (hb : Bnd n t) (hn : n ≤ 1000) :
    Calls Try.prog 39 #[.agg cs.toArray] w fun e w' => e = .returned (.bool (checkT n t)) ∧ Below w.heap.size w w' := by
  cases n with
  | zero => exact h.elim
  | succ n =>
  have hh := h
  obtain ⟨ka, kc, va, vn, vc, ca, cn, cc, V, C, rfl, h1, h2, h3, h4⟩ := h.openK
  obtain ⟨_, r1, r2⟩ := h4.lens
  obtain ⟨lf, hlf⟩ : ∃ x, t.isLeaf = x := ⟨_, rfl⟩
  obtain ⟨m, hm⟩ : ∃ x, cntT t = x := ⟨_, rfl⟩
  obtain ⟨pg, hpg⟩ : ∃ x, t.page = x := ⟨_, rfl⟩
  have hm9 : m ≤ 1000 := by rw [← hm]; exact hb.cnt
  rw [hlf, hm] at r1 r2
  have hvn : vn = if lf then m else 0 := by rw [← h2.1, r1]
  have hcn : cn = if lf then 0 else m := by rw [← h3.1, r2]
  rw [hlf, hm, hpg] at hh
  have hB0 : Below w.heap.size w (w.alloc (.cells #[.int .i64 pg, .bool lf, .slice ka m kc, .slice va vn vc, .slice ca cn cc] 33)) := Below.al (Below.refl _ _)
  have hX0 : Boxes _ [(w.heap.size, [.int .i64 pg, .bool lf, .slice ka m kc, .slice va vn vc, .slice ca cn cc])] := ((Boxes.nil w).alloc #[.int .i64 pg, .bool lf, .slice ka m kc, .slice va vn vc, .slice ca cn cc] 33 rfl)
  obtain ⟨wA, hwA⟩ : ∃ wA, w.alloc (.cells #[.int .i64 pg, .bool lf, .slice ka m kc, .slice va vn vc, .slice ca cn cc] 33) = wA := ⟨_, rfl⟩
  rw [hwA] at hB0 hX0
  rw [hlf, hm, hpg]
  have CF := depth_any (hh.below hB0) hb hn [] [] true (by decide) (by decide)
  have hck : checkT (n + 1) t = (emptyB t || (depthT (n + 1) t [] [] true).isSome) := rfl
  obtain ⟨D, hD⟩ : ∃ D, depthT (n + 1) t [] [] true = D := ⟨_, rfl⟩
  rw [hD] at CF hck
  have hem : emptyB t = (lf && (pg == 0 && m == 0)) := by
    rw [← hlf, ← hpg, ← hm]
    cases t with
    | leaf p l => cases l <;> rfl
    | node p l => rfl
  have h0 := depI_nn D
  have hs0 : strOf [] = ⟨#[]⟩ := rfl
  rw [hs0] at CF
  have HCK : Hid (checkT (n + 1) t = (lf && (pg == 0 && m == 0) || D.isSome)) := Lib.hid (by rw [hck, hem])
  have HB := Lib.hid hB0
  have n0 := hX0.cell 0 0 rfl rfl
  have n1 := hX0.cell 0 1 rfl rfl
  have n2 := hX0.cell 0 2 rfl rfl
  have n3 := hX0.cell 0 3 rfl rfl
  have n4 := hX0.cell 0 4 rfl rfl
  generalize depI D = di at *
  generalize D.isSome = ds at *
  generalize checkT (n + 1) t = ck at *
  clear hh h h1 h2 h3 h4 hlf hm hpg r1 r2 hB0 hX0 hb hck hem hD
  cases lf with
  | false =>
    simp only [Bool.false_eq_true, if_false] at hvn hcn
    replace hcn := hcn.symm
    subst hvn hcn
    go_enter Try.func39, Try.ntmps39
    go_wp2_with fail
    try rw [hwA]
    refine CF.mono ?_
    rintro e w2 ⟨rfl, hb2⟩
    have HB2 := Lib.hid (HB.out.trans (hb2.mono HB.out.size))
    clear CF hb2
    go_wp2_with fail
    go_ret
    exact ⟨by rw [HCK.out]; rfl, HB2.out⟩
  | true =>
    simp only [if_true] at hvn hcn
    subst hvn hcn
    by_cases hp : pg = 0
    · subst hp
      by_cases hm0 : vn = 0
      · subst hm0
        have HE : Hid (ck = true) := Lib.hid (by rw [HCK.out]; rfl)
        go_enter Try.func39, Try.ntmps39
        go_wp2_with fail
        go_ret
        exact ⟨by rw [HE.out]; rfl, HB.out⟩
      · have HE : Hid (ck = ds) := Lib.hid (by rw [HCK.out]; simp [hm0])
        have q1 : ((vn : Int) + vn == 0) = false := beq_eq_false_iff_ne.2 (by omega)
        have q2 : ((vn : Int) + vn + 0 == 0) = false := beq_eq_false_iff_ne.2 (by omega)
        have HM0 := Lib.hid hm0
        clear hm0
        go_enter Try.func39, Try.ntmps39
        go_wp2_with fail
        try rw [hwA]
        refine CF.mono ?_
        rintro e w2 ⟨rfl, hb2⟩
        have HB2 := Lib.hid (HB.out.trans (hb2.mono HB.out.size))
        clear CF hb2
        go_wp2_with fail
        go_ret
        exact ⟨by rw [HE.out]; rfl, HB2.out⟩
    · have HE : Hid (ck = ds) := Lib.hid (by rw [HCK.out]; simp [hp])
      have q1 : (pg == 0) = false := beq_eq_false_iff_ne.2 hp
      have HP := Lib.hid hp
      clear hp
      go_enter Try.func39, Try.ntmps39
      go_wp2_with fail
      try rw [hwA]
      refine CF.mono ?_
      rintro e w2 ⟨rfl, hb2⟩
      have HB2 := Lib.hid (HB.out.trans (hb2.mono HB.out.size))
      clear CF hb2
      go_wp2_with fail
      go_ret
      exact ⟨by rw [HE.out]; rfl, HB2.out⟩
end Go.Proofs.Ytemfnjlfcemehaa

/- What the document's answers use of chapter 03: rows of numbers that are the same; a bit. -/
namespace Go.Proofs.Ytemfnjlfcemehaa
open Go.RowKit

theorem drewN_add (w : World) (a b : Nat) : (w.drewN a).drewN b = w.drewN (a + b) := by
  cases w; simp [World.drewN, Nat.add_assoc]
set_option maxRecDepth 100000 in
set_option maxHeartbeats 1000000 in
theorem ints_any {w : World} {a b : Option Addr} {n ca m cb : Nat} {l k : List Int} (ha : Row .i64 w a n ca l) (hb : Row .i64 w b m cb k) :
    Calls Try.prog 57 #[.slice a n ca, .slice b m cb] w fun e w' => e = .returned (.bool (decide (l = k))) ∧ ∃ j, w' = w.drewN j := by
  have hn := ha.1
  have hm := hb.1
  have hna : n ≤ 9223372036854775807 := by have := ha.2.1; have := ha.2.2.1; unfold maxLen at this; omega
  have hmb : m ≤ 9223372036854775807 := by have := hb.2.1; have := hb.2.2.1; unfold maxLen at this; omega
  by_cases hnm : n = m
  · subst hnm
    have e0 : ((n : Int) == (n : Int)) = true := by simp
    have HA := Lib.hid ha.2.2.2.2
    have HB := Lib.hid hb.2.2.2.2
    have HN := Lib.hid hn
    have HM := Lib.hid hm
    clear hn hm ha hb
    go_enter Try.func57, Try.ntmps57
    go_wp2
    go_loopw [5] (fun s wr => ∃ i : Nat, i ≤ n ∧ s = .int .i64 i ∧ l.take i = k.take i ∧ ∃ j, wr = w.drewN j) (fun s _ => n - (intOf s).toNat)
    case atStart => exact ⟨0, Nat.zero_le _, rfl, by simp, 0, rfl⟩
    case round =>
      obtain ⟨i, hi, rfl, htk, j, rfl⟩ := hrel
      by_cases hlt : i < n
      · obtain ⟨b1, o1, rfl, _, c1⟩ := HA.out.resolve_left (by omega)
        obtain ⟨b2, o2, rfl, _, c2⟩ := HB.out.resolve_left (by omega)
        have d1 := c1 i hlt
        have d2 := c2 i hlt
        have hl := HN.out
        have hk := HM.out
        have hts : l.take (i + 1) = l.take i ++ [l[i]?.getD 0] := by rw [List.take_succ_eq_append_getElem (by omega), List.getElem?_eq_getElem (by omega)]; rfl
        have htk2 : k.take (i + 1) = k.take i ++ [k[i]?.getD 0] := by rw [List.take_succ_eq_append_getElem (by omega), List.getElem?_eq_getElem (by omega)]; rfl
        by_cases he : l[i]?.getD 0 = k[i]?.getD 0
        · have HT : Hid (l.take (i + 1) = k.take (i + 1)) := Lib.hid (by rw [hts, htk2, htk, he])
          clear hts htk2 htk c1 c2 hl hk
          generalize l[i]?.getD 0 = x at *
          generalize k[i]?.getD 0 = y at *
          subst he
          have q1 : (x == x) = true := by simp
          go_wp2
          go_quiet (fail)
          go_wp2
          go_roundw
          case rel => exact ⟨i + 1, hlt, by go_num, HT.out, _, rfl⟩
          case measure => simp [intOf]; omega
        · have HF : Hid (decide (l = k) = false) := Lib.hid (by
            apply decide_eq_false
            intro e
            exact he (by rw [e]))
          clear hts htk2 htk c1 c2 hl hk
          generalize l[i]?.getD 0 = x at *
          generalize k[i]?.getD 0 = y at *
          have q1 : (x == y) = false := by simpa using he
          clear he
          go_wp2
          go_quiet (fail)
          go_wp2
          go_ret
          exact ⟨ret_bool HF.out.symm, _, drewN_add _ _ _⟩
      · obtain rfl : i = n := by omega
        have HF : Hid (decide (l = k) = true) := Lib.hid (by
          apply decide_eq_true
          rwa [List.take_of_length_le (by rw [HN.out]; exact Nat.le_refl _), List.take_of_length_le (by rw [HM.out]; exact Nat.le_refl _)] at htk)
        clear htk
        go_wp2
        go_ret
        exact ⟨ret_bool HF.out.symm, _, rfl⟩
  · have e0 : ((n : Int) == (m : Int)) = false := by simp; omega
    have e1 : (n == m) = false := by simpa using hnm
    have HF : Hid (decide (l = k) = false) := Lib.hid (by
      apply decide_eq_false
      intro e; subst e; omega)
    clear hn hm ha hb hnm
    go_enter Try.func57, Try.ntmps57
    go_wp2
    go_ret
    exact ⟨ret_bool HF.out.symm, 0, rfl⟩
end Go.Proofs.Ytemfnjlfcemehaa
