/- The law ChainLost (printed by gen_chnL.py). -/
import Derived.Test.YtfidfbgplfjakaaDoorChnZq
import Derived.Deep.RegionHeld3
import Derived.OwnWalk
namespace Go.Proofs.YtfidfbgplfjakaaDoor
open Go.RowKit

/-- Which pages are used so far. -/
def usedV (at_ : List Int) (i : Nat) : List Value := (List.range 1000).map fun (p : Nat) => Value.bool (decide ((p : Int) ∈ at_.take i))
theorem usedV_length (at_ : List Int) (i : Nat) : (usedV at_ i).length = 1000 := by simp [usedV]
theorem usedV_get (at_ : List Int) (i p : Nat) (hp : p < 1000) : (usedV at_ i)[p]? = some (.bool (decide ((p : Int) ∈ at_.take i))) := by
  simp [usedV, hp]
theorem usedV_set (at_ : List Int) (i pn : Nat) (hi : i < at_.length) (hp : atC at_ i = (pn : Int)) : (usedV at_ i).set pn (.bool true) = usedV at_ (i + 1) := by
  apply List.ext_getElem?
  intro q
  rw [List.getElem?_set]
  have ht : at_.take (i + 1) = at_.take i ++ [atC at_ i] := by rw [List.take_succ_eq_append_getElem hi]; simp [atC, hi]
  by_cases hq : q < 1000
  · by_cases e : pn = q
    · subst e
      rw [if_pos rfl, usedV_length, if_pos hq, usedV_get _ _ _ hq, ht, hp]
      simp
    · rw [if_neg e, usedV_get _ _ _ hq, usedV_get _ _ _ hq, ht, hp]
      congr 2
      rw [decide_eq_decide]
      simp
      omega
  · by_cases e : pn = q
    · subst e
      rw [if_pos rfl, usedV_length, if_neg hq, List.getElem?_eq_none (by rw [usedV_length]; omega)]
    · rw [if_neg e, List.getElem?_eq_none (by rw [usedV_length]; omega), List.getElem?_eq_none (by rw [usedV_length]; omega)]
theorem usedV_zero (at_ : List Int) : usedV at_ 0 = List.replicate 1000 (.bool false) := by
  apply List.ext_getElem?
  intro q
  by_cases hq : q < 1000
  · rw [usedV_get _ _ _ hq, List.getElem?_replicate, if_pos hq, List.take_zero]; rfl
  · rw [List.getElem?_eq_none (by rw [usedV_length]; omega), List.getElem?_eq_none (by rw [List.length_replicate]; omega)]
/-- Region 0 has the pages so far; region 1 is new. -/
def LaidD (v : List UInt8) (at_ : List Int) (i : Nat) (d : List Rg) : Prop := LaidC v at_ 1000 i d ∧ RegAt d 1 1000 zeros
theorem LaidD.new (v : List UInt8) (at_ : List Int) : LaidD v at_ 0 (newD [1000, 1000]) :=
  ⟨⟨zeros, RegAt.new (l := [1000, 1000]) (r := 0) rfl, fun k hk => by omega⟩, RegAt.new (l := [1000, 1000]) (r := 1) rfl⟩
theorem LaidD.step {v : List UInt8} {at_ : List Int} {i : Nat} {d : List Rg} (h : LaidD v at_ i d) (hok : putOkC v at_ = true) (hi : i < at_.length) :
    LaidD v at_ (i + 1) (writeD d 0 (atC at_ i) (pageC v at_ i)) := by
  have hb := atC_bound hok hi
  refine ⟨(h.1.step hok hi (by omega)).2, ?_⟩
  obtain ⟨f, h1, _⟩ := h.1
  exact (h1.write (p := atC at_ i) (by omega) (pageC_len v at_ i)).2.2 1 1000 zeros (by decide) h.2
theorem LaidD.other {v : List UInt8} {at_ : List Int} {d : List Rg} (h : LaidD v at_ at_.length d) (hok : putOkC v at_ = true) {p : Nat} (hp : p < 1000) (hn : (p : Int) ∉ at_) {b : List UInt8} (hb : b.length = 128) :
    LaidD v at_ at_.length (writeD d 0 (p : Int) b) := by
  obtain ⟨⟨f, h1, h2⟩, h3⟩ := h
  obtain ⟨_, h4, h5⟩ := h1.write (p := (p : Int)) (by omega) hb
  refine ⟨⟨_, h4, fun k hk => ?_⟩, h5 1 1000 zeros (by decide) h3⟩
  unfold upd
  rw [if_neg (fun e => hn ?_)]
  · exact h2 k hk
  · have h6 := atC_bound hok hk
    have e2 : atC at_ k = (p : Int) := by rw [Int.toNat_natCast] at e; omega
    rw [← e2]
    unfold atC
    rw [List.getElem?_eq_getElem hk]
    exact List.getElem_mem hk
/-- Region 1 has the pages so far but one. -/
def LaidE (v : List UInt8) (at_ : List Int) (x i : Nat) (d : List Rg) : Prop := ∃ f, RegAt d 1 1000 f ∧ (∀ k, k < i → k ≠ x → f (atC at_ k).toNat = pageC v at_ k) ∧ f (atC at_ x).toNat = List.replicate 128 0
theorem LaidE.skip {v : List UInt8} {at_ : List Int} {x : Nat} {d : List Rg} (h : LaidE v at_ x x d) : LaidE v at_ x (x + 1) d := by
  obtain ⟨f, h1, h2, h3⟩ := h
  exact ⟨f, h1, fun k hk hx => h2 k (by omega) hx, h3⟩
theorem LaidE.step {v : List UInt8} {at_ : List Int} {x i : Nat} {d : List Rg} (h : LaidE v at_ x i d) (hok : putOkC v at_ = true) (hi : i < at_.length) (hx : x < at_.length) (hix : i ≠ x) :
    LaidE v at_ x (i + 1) (writeD d 1 (atC at_ i) (pageC v at_ i)) := by
  obtain ⟨f, h1, h2, h3⟩ := h
  have hb := atC_bound hok hi
  have hbx := atC_bound hok hx
  have hne : ∀ {a b : Nat}, a < at_.length → b < at_.length → a ≠ b → atC at_ a ≠ atC at_ b := fun {a b} ha hb hab => by
    rcases Nat.lt_or_gt_of_ne hab with h | h
    · exact atC_ne hok h hb
    · exact fun e => atC_ne hok h ha e.symm
  obtain ⟨_, h4, _⟩ := h1.write (p := atC at_ i) (by omega) (pageC_len v at_ i)
  refine ⟨_, h4, fun k hk hkx => ?_, ?_⟩
  · unfold upd
    by_cases hki : k = i
    · subst hki; rw [if_pos rfl]
    · have h5 := atC_bound hok (show k < at_.length by omega)
      have h6 := hne (show k < at_.length by omega) hi hki
      rw [if_neg (by omega)]
      exact h2 k (by omega) hkx
  · unfold upd
    have h6 := hne hx hi (fun e => hix e.symm)
    rw [if_neg (by omega)]
    exact h3
theorem LaidE.lost {v : List UInt8} {at_ : List Int} {x : Nat} {d : List Rg} (h : LaidE v at_ x at_.length d) (hok : putOkC v at_ = true) (hx : x < at_.length) : getDC d 1 (atC at_ 0) v.length = ([], [], 12) := by
  obtain ⟨f, h1, h2, h3⟩ := h
  exact gotC_lost hok h1 (fun i hi => by have := atC_bound hok hi; omega) x hx 12 (by decide) (by decide) (by rw [h3]; exact oneEC_of zerosC_unp) (fun i hi => h2 i (by omega) (by omega))
theorem info_boolC : (Tryd.prog.info? 4).map (fun i => (i.zero, i.size, i.bytes)) = some (some (.bool false), 1, 1) := by kernel_rfl
theorem row2k (W : World) : Row .i64 (W.alloc (.cells #[.int .i64 1000, .int .i64 1000] 3)) (some ⟨W.heap.size, 0, none⟩) 2 2 [1000, 1000] := Row.made .i64 W 3 [1000, 1000] rfl (by unfold maxLen; simp)

set_option maxRecDepth 100000 in
set_option maxHeartbeats 4000000 in
theorem lLost (v : List UInt8) (a2 : Option Addr) (m cap2 : Nat) (at_ : List Int) (u : Int) (w : World) (hv : v.length ≤ 9223372036854775807) (h2 : Row .i64 w a2 m cap2 at_) (i2 : ∀ n ∈ at_, I64 n) (hu : (Lit.int .u8 u).wf = true) (hh : Half w) :
    Calls Tryd.prog 7 #[.string (strOf v), .slice a2 m cap2, .int .u8 u] w fun e w' => e = .returned (.bool true) ∧ Below w.heap.size w w' := by
  have A := awake_any w hh
  obtain ⟨e2, hc2, hm2⟩ := h2.lensC
  have hsz := strOf_size v
  by_cases hbig : ¬ (v.length ≤ 600 ∧ m ≤ 20)
  · have hd := big_cases hbig
    clear h2 e2 hbig
    rcases hd with ⟨d1, d1'⟩ | ⟨d1, d1', d2, d2'⟩
    all_goals
      go_enter Tryd.func7, Tryd.ntmps7
      go_wp2_with fail
      refine A.mono ?_
      rintro e w2 ⟨rfl, hb2⟩
      go_wp2_with fail
      go_ret
      exact ⟨rfl, hb2⟩
  obtain ⟨hv6, hm⟩ := Decidable.not_not.1 hbig
  clear hbig
  have d1 : decide ((600 : Int) < v.length) = false := by simp; omega
  have d1' : decide (600 < v.length) = false := by simp; omega
  have d2 : decide ((20 : Int) < m) = false := by simp; omega
  have d2' : decide (20 < m) = false := by simp; omega
  have H2 := Lib.hid h2
  have E2 := Lib.hid e2
  clear h2 e2
  go_enter Tryd.func7, Tryd.ntmps7
  go_wp2_with fail
  refine A.mono ?_
  rintro e w2 ⟨rfl, hb2⟩
  have P := cput_any (H2.out.below (Nat.le_refl _) hb2) i2 v (by omega) (hh.below (Nat.le_refl _) hb2)
  clear A
  go_wp2_with fail
  refine P.mono ?_
  rintro e w3 ⟨v3, rfl, ho3, hb3⟩
  have hw3 := below_then hb2 hb3
  have hb2s := hb2.size
  clear P hb2 hb3
  cases hok : putOkC v at_
  · rw [putLC, hok] at ho3
    rw [putEC, hok]
    have HOK := Lib.hid hok
    obtain ⟨a3, c3, rfl, hb⟩ := ho3.bss
    simp only [Bool.false_eq_true, if_false, List.length_nil]
    clear ho3 hb hok
    go_wp2_with fail
    go_ret
    exact ⟨rfl, hw3⟩
  rw [putEC, hok, if_pos rfl]
  have hpl := putLC_len hok
  rw [E2.out] at hpl
  obtain ⟨vs, hvs, hvs3⟩ := ho3
  obtain ⟨a3, c3, rfl, hc3, hcm3, _⟩ := own_slice hvs
  have HO3 := Lib.hid (show OwnBss w3 w2.heap.size (.slice a3 (putLC v at_).length c3) (putLC v at_) from ⟨vs, hvs, hvs3⟩)
  rw [hpl] at hc3 ⊢
  unfold maxLen at hcm3
  have HPL := Lib.hid hpl
  have HOK := Lib.hid hok
  have hm4 := needC_le (v.length : Int)
  have hmp := (putC_parts hok).2.1
  have hn0 := (putC_parts hok).1
  rw [E2.out] at hmp
  have HMP := Lib.hid hmp
  have hm0 : 0 < m := by omega
  have hm1 : m ≤ 4 := by omega
  clear hpl hok hvs hvs3 hm4 hmp hn0
  simp [Lit.wf, IntKind.min, IntKind.max, IntKind.signed, IntKind.bits] at hu
  obtain ⟨i0, hi0, hz0, hz1, hz2⟩ := info_parts info_boolC
  have N := new_ok (row2k w3) (by decide)
  go_wp2_with fail
  refine N.mono ?_
  rintro e w4 ⟨db, rfl, hd4, hb4⟩
  have hsz4 : (w3.alloc (.cells #[.int .i64 1000, .int .i64 1000] 3)).heap.size = w3.heap.size + 1 := by simp
  have hw4 : Below w3.heap.size w3 w4 := below_then ((Below.refl _ _).alloc (Nat.le_refl _) _) hb4
  rw [hsz4] at hd4
  clear N hb4 hsz4
  go_wp2_with (at_make; refine wpList_make_full _ rfl _ _ 55 rfl w4.heap.size 4 i0 _ 1 Tryd.underlying55 hi0 hz0 hz1 .i64 .i64 _ _ 1000 rfl rfl rfl rfl (by rw [hz2]; omega) (by unfold maxLen; omega) (by simp) ?_)
  intro w5 hown hg5
  have hown' : w5.ownsRow w4.heap.size 4 1 (.slice (some ⟨w4.heap.size, 0, none⟩) 1000 1000) 1000 (usedV at_ 0) := by
    rw [made_list] at hown
    rw [usedV_zero]; exact hown
  have hb5 : Below w4.heap.size w4 w5 := (Below.refl _ _).grown hg5 (Nat.le_refl _) (fun k e => by cases e)
  have hgu := own_lt hown' w4.heap.size rfl
  have HD5 := Lib.hid (hd4.k.add hb5 w4.heap.size (Nat.le_refl _) hgu)
  have HU5 := Lib.hid hown'
  have HB5 := Lib.hid (below_then hw4 hb5)
  have hs3 := hw4.size
  clear hown hown' hg5 hb5 hgu hd4 hw4
  generalize w4.heap.size = gu at *
  go_wp2_with fail
  go_loopw [13] (fun s13 wr => ∃ (i : Nat) (d : List Rg), i ≤ m ∧ s13 = .int .i64 i ∧ OneK (w3.heap.size + 1) [gu] wr db i d ∧ LaidD v at_ i d ∧ wr.ownsRow gu 4 1 (.slice (some ⟨gu, 0, none⟩) 1000 1000) 1000 (usedV at_ i) ∧ Below w3.heap.size w3 wr) (fun s _ => m - (intOf s).toNat)
  case atStart => exact ⟨0, _, Nat.zero_le _, rfl, HD5.out, LaidD.new v at_, HU5.out, HB5.out⟩
  case round =>
    clear HD5 HU5 HB5
    obtain ⟨i, d, hi, rfl, hd, hlaid, hus, hb⟩ := hrel
    by_cases hlt : i < m
    · obtain ⟨g, k, a7, c7, e7, _, _, hg, hge, hcell, hbs, hgx⟩ := HO3.out.get (putLC_get HOK.out (i := i) (by rw [E2.out]; exact hlt))
      cases e7
      rw [pageC_len] at hcell hbs
      obtain ⟨b2, o2, hadr, hb2, hcell2⟩ := H2.out.cellC hlt
      subst hadr
      have hbk := atC_bound HOK.out (i := i) (by rw [E2.out]; exact hlt)
      have hlaid2 := hlaid.step HOK.out (by rw [E2.out]; exact hlt)
      have hdd : OneK (w3.heap.size + 1) [gu] wr.drew db i d := hd.below (below_drewN (Below.refl _ _) 1)
      have C := write_k hdd (hbs.below (Nat.le_refl _) hb.drew) (fun g' off e => .inr (by have := (hgx g' off e).2; omega)) (by omega) 0 (atC at_ i)
      have hset := usedV_set at_ i
      obtain ⟨pn, hpn⟩ := Int.eq_ofNat_of_zero_le (show 0 ≤ atC at_ i by omega)
      have HST := Lib.hid (hset pn (by rw [E2.out]; exact hlt) hpn)
      have cA : ∀ W, Below w3.heap.size w3 W → W.cell? ⟨g, i, none⟩ = some (.slice a7 128 c7) := fun W hW => (hW.cell (p := ⟨g, i, none⟩) hg).trans hcell
      have cB : ∀ W, Below w3.heap.size w3 W → W.cell? ⟨b2, o2 + i, none⟩ = some (.int .i64 (pn : Int)) := fun W hW => by rw [(below_then hw3 hW).cell (p := ⟨b2, o2 + i, none⟩) hb2, hcell2 i hlt, hpn]
      rw [hpn] at C hlaid2 hbk
      have HLD := Lib.hid hlaid2
      have HUS := Lib.hid hus
      have hb0 : Below w3.heap.size w3 wr.drew := hb.drew
      have hc128 := hbs.cap
      unfold maxLen at hc128
      have hp1000 : pn < 1000 := by omega
      have hpi : (pn : Int) < 1000 := by omega
      clear hd hdd hlaid hlaid2 hb hcell hbs hgx hcell2 hset hus hpn
      go_wp2_with fail
      go_region_held3 (fun W => Below w3.heap.size w3 W) (with_reducible assumption) (first | (go_at_call 16; refine C.mono ?_; rintro e wx ⟨rfl, hdx, hbx, hkx⟩; have hBx : Below w3.heap.size w3 wx := hb0.trans (hbx.mono (Nat.le_succ _))))
      all_goals
        have hux := own_blk HUS.out (w' := wx) (hkx gu (by simp))
        have cY := cB wx hBx
        have hcu := hux.cellAt pn (by omega)
        rw [usedV_get _ _ _ hp1000] at hcu
        have hfu := hux.frozenAt pn
        have hst := hux.stored pn (.bool true)
        rw [HST.out] at hst
        have HU := Lib.hid hst.1
        have HDX := Lib.hid (hdx.put ⟨gu, pn, none⟩ (.bool true) (by simp))
        have HBX := Lib.hid (hBx.setCell (p := ⟨gu, pn, none⟩) (by simp; omega) (.bool true))
        clear cA cB hdx hBx hbx hb0 hkx C hst hux
        go_wp2_with fail
        go_roundw
        case rel => exact ⟨i + 1, _, hlt, by go_num, HDX.out, HLD.out, HU.out, HBX.out⟩
        case measure => simp [intOf]; omega
    · obtain rfl : i = m := by omega
      have htk : at_.take i = at_ := List.take_of_length_le (by rw [E2.out]; exact Nat.le_refl _)
      have HTK := Lib.hid htk
      have hlaid0 : LaidD v at_ at_.length d := by rw [E2.out]; exact hlaid
      have HD := Lib.hid hd
      have HLD := Lib.hid hlaid0
      have HUS := Lib.hid hus
      have HB := Lib.hid hb
      clear hd hlaid hlaid0 hus hb htk hlt hi
      go_wp2_with fail
      go_loopw [14] (fun s14 wq => ∃ (p M : Nat) (d : List Rg), p ≤ 1006 ∧ M ≤ 10 + p ∧ s14 = .int .i64 p ∧ OneK (w3.heap.size + 1) [gu] wq db M d ∧ LaidD v at_ at_.length d ∧ wq.ownsRow gu 4 1 (.slice (some ⟨gu, 0, none⟩) 1000 1000) 1000 (usedV at_ i) ∧ Below w3.heap.size w3 wq) (fun s _ => 2000 - (intOf s).toNat)
      case atStart => exact ⟨0, i, d, by omega, by omega, rfl, HD.out, HLD.out, HUS.out, HB.out⟩
      case round =>
        clear HD HLD HUS HB
        obtain ⟨p, M, d, hp, hM, rfl, hd, hlaid, hus, hb⟩ := hrel
        by_cases hlt : p < 1000
        · have d5 : decide ((p : Int) < 1000) = true := by simp; omega
          have d5' : decide (p < 1000) = true := by simp; omega
          have hcu := hus.cellAt p (by omega)
          rw [usedV_get _ _ _ hlt, HTK.out] at hcu
          by_cases hin : (p : Int) ∈ at_
          · have dm : decide ((p : Int) ∈ at_) = true := by simpa using hin
            rw [dm] at hcu
            have HD := Lib.hid hd
            have HLD := Lib.hid hlaid
            have HUS := Lib.hid hus
            have HB := Lib.hid hb
            clear hd hlaid hus hb hin dm
            go_wp2_with fail
            go_roundw
            case rel => exact ⟨p + 7, M, d, by omega, by omega, by go_num, HD.out, HLD.out, HUS.out, HB.out⟩
            case measure => simp [intOf]; omega
          · have dm : decide ((p : Int) ∈ at_) = false := by simpa using hin
            rw [dm] at hcu
            obtain ⟨g, k, a7, c7, e7, _, _, hg, hge, hcell, hbs, hgx⟩ := HO3.out.get (putLC_get HOK.out (i := 0) (by rw [E2.out]; exact hm0))
            cases e7
            rw [pageC_len] at hcell hbs
            have cA : wr.cell? ⟨g, 0, none⟩ = some (.slice a7 128 c7) := (hb.cell (p := ⟨g, 0, none⟩) hg).trans hcell
            have C := write_k hd (hbs.below (Nat.le_refl _) hb) (fun g' off e => .inr (by have := (hgx g' off e).2; omega)) (by omega) 0 (p : Int)
            have HLD := Lib.hid (hlaid.other HOK.out hlt hin (pageC_len v at_ 0))
            have HUS := Lib.hid hus
            have HB := Lib.hid hb
            have hc128 := hbs.cap
            unfold maxLen at hc128
            clear hd hlaid hus hb hin dm hcell hbs hgx
            go_wp2_with fail
            refine C.mono ?_
            rintro e wx ⟨rfl, hdx, hbx, hkx⟩
            have HDX := Lib.hid hdx
            have HBX := Lib.hid (HB.out.trans (hbx.mono (Nat.le_succ _)))
            have HUX := Lib.hid (own_blk HUS.out (w' := wx) (hkx gu (by simp)))
            clear C hdx hbx hkx
            go_wp2_with fail
            go_roundw
            case rel => exact ⟨p + 7, M + 1, _, by omega, by omega, by go_num, HDX.out, HLD.out, HUX.out, HBX.out⟩
            case measure => simp [intOf]; omega
        · have d5 : decide ((p : Int) < 1000) = false := by simp; omega
          have d5' : decide (p < 1000) = false := by simp; omega
          have hgot := hlaid.1.got HOK.out (fun j hj => by have := atC_bound HOK.out hj; omega)
          have hbw := below_then hw3 hb
          obtain ⟨b2, o2, hadr, hb2, hcell2⟩ := H2.out.cellC (k := 0) hm0
          subst hadr
          have c20 : ∀ W, Below w.heap.size w W → W.cell? ⟨b2, o2, none⟩ = some (.int .i64 (atC at_ 0)) := fun W hW => (hW.cell (p := ⟨b2, o2, none⟩) hb2).trans (by have := hcell2 0 hm0; simpa using this)
          have hI0 : I64 (atC at_ 0) := by have := atC_bound HOK.out (i := 0) (by rw [E2.out]; exact hm0); unfold I64; omega
          have G := cget_any hd.one (hh.below (Nat.le_refl _) hbw) 0 (atC at_ 0) v.length hI0
          rw [hgot] at G
          have c0r := c20 wr hbw
          obtain ⟨un, rfl⟩ := Int.eq_ofNat_of_zero_le hu.1
          obtain ⟨x, hx⟩ : ∃ x, un % i = x := ⟨_, rfl⟩
          have hxm : x < i := by rw [← hx]; exact Nat.mod_lt _ hm0
          have hxi : (un : Int) % (i : Int) = (x : Int) := by rw [← hx]; omega
          have hxt : (un : Int).tmod (i : Int) = (x : Int) := by rw [Int.tmod_eq_emod_of_nonneg (by omega)]; exact hxi
          have HLE := Lib.hid (show LaidE v at_ x 0 d from ⟨zeros, hlaid.2, fun k hk => by omega, rfl⟩)
          have HD := Lib.hid hd
          have HB := Lib.hid hb
          clear hgot hlaid hus hd hb hbw hx
          go_wp2_with fail
          refine G.mono ?_
          rintro e w6 ⟨v6, rfl, ho6, hb6⟩
          obtain ⟨a6, c6, rfl, _⟩ := own_slice ho6
          have HD6 := Lib.hid (HD.out.below hb6)
          have HB6 := Lib.hid (below_then HB.out hb6)
          clear G ho6 hb6 HD HB c0r
          go_wp2_with fail
          go_loopw [18] (fun s18 wr => ∃ (j M : Nat) (d : List Rg), j ≤ i ∧ M ≤ 1100 + j ∧ s18 = .int .i64 j ∧ OneK (w3.heap.size + 1) [gu] wr db M d ∧ LaidE v at_ x j d ∧ Below w3.heap.size w3 wr) (fun s _ => i - (intOf s).toNat)
          case atStart => exact ⟨0, M, d, by omega, by omega, rfl, HD6.out, HLE.out, HB6.out⟩
          case round =>
            clear HD6 HLE HB6
            obtain ⟨j, M, d, hj, hM, rfl, hd, hlaid, hb⟩ := hrel
            by_cases hlt : j < i
            · by_cases hjx : j = x
              · subst hjx
                have z1 : ((j : Int) != (j : Int)) = false := by simp
                have z2 : ((j : Int) == (j : Int)) = true := by simp
                have HD := Lib.hid hd
                have HLD := Lib.hid hlaid.skip
                have HB := Lib.hid hb
                clear hd hlaid hb
                go_wp2_with fail
                go_roundw
                case rel => exact ⟨j + 1, M, d, by omega, by omega, by go_num, HD.out, HLD.out, HB.out⟩
                case measure => simp [intOf]; omega
              · have z1 : ((j : Int) != (x : Int)) = true := by rw [bne_iff_ne]; omega
                have z2 : ((j : Int) == (x : Int)) = false := by rw [beq_eq_false_iff_ne]; omega
                obtain ⟨g, k, a7, c7, e7, _, _, hg, hge, hcell, hbs, hgx⟩ := HO3.out.get (putLC_get HOK.out (i := j) (by rw [E2.out]; exact hlt))
                cases e7
                rw [pageC_len] at hcell hbs
                have hlaid2 := hlaid.step HOK.out (by rw [E2.out]; exact hlt) (by rw [E2.out]; exact hxm) hjx
                have hdd : OneK (w3.heap.size + 1) [gu] wr.drew db M d := hd.below (below_drewN (Below.refl _ _) 1)
                have C := write_k hdd (hbs.below (Nat.le_refl _) hb.drew) (fun g' off e => .inr (by have := (hgx g' off e).2; omega)) (by omega) 1 (atC at_ j)
                have cA : ∀ W, Below w3.heap.size w3 W → W.cell? ⟨g, j, none⟩ = some (.slice a7 128 c7) := fun W hW => (hW.cell (p := ⟨g, j, none⟩) hg).trans hcell
                have cB : ∀ W, Below w3.heap.size w3 W → W.cell? ⟨b2, o2 + j, none⟩ = some (.int .i64 (atC at_ j)) := fun W hW => ((below_then hw3 hW).cell (p := ⟨b2, o2 + j, none⟩) hb2).trans (hcell2 j hlt)
                have HLD := Lib.hid hlaid2
                have hb0 : Below w3.heap.size w3 wr.drew := hb.drew
                have hc128 := hbs.cap
                unfold maxLen at hc128
                clear hd hdd hlaid hlaid2 hb hcell hbs hgx
                generalize atC at_ j = px at *
                go_wp2_with fail
                go_region_held3 (fun W => Below w3.heap.size w3 W) (with_reducible assumption) (first | (go_at_call 16; refine C.mono ?_; rintro e wx ⟨rfl, hdx, hbx, hkx⟩; have hBx : Below w3.heap.size w3 wx := hb0.trans (hbx.mono (Nat.le_succ _))))
                all_goals
                  have HDX := Lib.hid hdx
                  have HBX := Lib.hid hBx
                  clear cA cB hdx hBx hbx hb0 hkx C
                  go_wp2_with fail
                  go_roundw
                  case rel => exact ⟨j + 1, M + 1, _, by omega, by omega, by go_num, HDX.out, HLD.out, HBX.out⟩
                  case measure => simp [intOf]; omega
            · obtain rfl : j = i := by omega
              have hlaid0 : LaidE v at_ x at_.length d := by rw [E2.out]; exact hlaid
              have hgot := hlaid0.lost HOK.out (by rw [E2.out]; exact hxm)
              have hbw := below_then hw3 hb
              have G := cget_any hd.one (hh.below (Nat.le_refl _) hbw) 1 (atC at_ 0) v.length hI0
              rw [hgot] at G
              have c0r := c20 wr hbw
              clear hgot hlaid hlaid0 hd hb
              go_wp2_with fail
              refine G.mono ?_
              rintro e w7 ⟨v7, rfl, ho7, hb7⟩
              have hw7 := below_then hbw hb7
              clear G ho7 hb7 hbw
              go_wp2_with fail
              go_ret
              exact ⟨rfl, hw7⟩
end Go.Proofs.YtfidfbgplfjakaaDoor
