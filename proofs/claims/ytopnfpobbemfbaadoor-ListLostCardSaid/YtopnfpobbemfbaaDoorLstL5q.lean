/- The law ListLost. -/
import Derived.Test.YtopnfpobbemfbaaDoorLstL3q
namespace Go.Proofs.YtopnfpobbemfbaaDoor
open Go.RowKit

theorem zeros_sum : (crcOf (List.replicate 124 0) == 0) = false := by kernel_rfl
theorem zeros_unp : unpE (List.replicate 128 0) = 12 := by
  have h := zeros_sum
  unfold unpE
  rw [if_neg (by simp), if_pos ?_]
  have e1 : (List.replicate 128 (0 : UInt8)).take 4 = [0, 0, 0, 0] := rfl
  have e2 : (List.replicate 128 (0 : UInt8)).drop 4 = List.replicate 124 0 := by simp
  rw [e1, e2]
  have e3 : beVal [0, 0, 0, 0] = 0 := rfl
  rw [e3]
  exact fun e => by rw [← e] at h; simp at h
theorem zeros_one : oneE (List.replicate 128 0) = 12 := by
  unfold oneE
  rw [if_pos (by rw [zeros_unp]; decide), zeros_unp]
/-- The pages so far, but one. -/
def LaidX (l at_ : List Int) (x i : Nat) (d : List Rg) : Prop := ∃ f, RegAt d 0 1000 f ∧ (∀ k, k < i → k ≠ x → f (atI at_ k).toNat = pageL l at_ k) ∧ f (atI at_ x).toNat = List.replicate 128 0
theorem LaidX.new (l at_ : List Int) (x : Nat) : LaidX l at_ x 0 (newD [1000]) := ⟨zeros, RegAt.new (l := [1000]) (r := 0) rfl, fun k hk => by omega, rfl⟩
theorem LaidX.skip {l at_ : List Int} {x : Nat} {d : List Rg} (h : LaidX l at_ x x d) : LaidX l at_ x (x + 1) d := by
  obtain ⟨f, h1, h2, h3⟩ := h
  exact ⟨f, h1, fun k hk hkx => h2 k (by omega) hkx, h3⟩
theorem LaidX.step {l at_ : List Int} {x i : Nat} {d : List Rg} (h : LaidX l at_ x i d) (hok : putOk l at_ = true) (hi : i < at_.length) (hx : x < at_.length) (hix : i ≠ x) :
    writeE d 0 (atI at_ i) (pageL l at_ i) = 0 ∧ LaidX l at_ x (i + 1) (writeD d 0 (atI at_ i) (pageL l at_ i)) := by
  obtain ⟨f, h1, h2, h3⟩ := h
  have hb := at_bound hok hi
  obtain ⟨e, h4, _⟩ := h1.write (p := atI at_ i) (by omega) (pageL_len l at_ i)
  have hne : ∀ k, k ≠ i → k < at_.length → (atI at_ k).toNat ≠ (atI at_ i).toNat := fun k hk hkl e => by
    have h5 := at_bound hok hkl
    rcases Nat.lt_or_gt_of_ne hk with h6 | h6
    · exact at_ne hok h6 hi (by omega)
    · exact at_ne hok h6 hkl (by omega)
  refine ⟨e, _, h4, fun k hk hkx => ?_, ?_⟩
  · unfold upd
    by_cases hki : k = i
    · subst hki; rw [if_pos rfl]
    · rw [if_neg (hne k hki (by omega))]
      exact h2 k (by omega) hkx
  · unfold upd
    rw [if_neg (hne x (fun e => hix e.symm) hx)]
    exact h3
theorem LaidX.lost {l at_ : List Int} {x : Nat} {d : List Rg} (h : LaidX l at_ x at_.length d) (hok : putOk l at_ = true) (hx : x < at_.length) : getD d 0 (atI at_ 0) = ([], [], 12) := by
  obtain ⟨f, h1, h2, h3⟩ := h
  exact got_lost hok h1 (fun i hi => by have := at_bound hok hi; omega) x hx 12 (by decide) (by rw [h3]; exact zeros_one) (fun i hi => h2 i (by omega) (by omega))
theorem LaidX.whole {l at_ : List Int} {x : Nat} {d : List Rg} (h : LaidX l at_ x at_.length d) (hok : putOk l at_ = true) (hx : x < at_.length) :
    writeE d 0 (atI at_ x) (pageL l at_ x) = 0 ∧ getD (writeD d 0 (atI at_ x) (pageL l at_ x)) 0 (atI at_ 0) = (l, at_, 0) := by
  obtain ⟨f, h1, h2, h3⟩ := h
  have hb := at_bound hok hx
  obtain ⟨e, h4, _⟩ := h1.write (p := atI at_ x) (by omega) (pageL_len l at_ x)
  refine ⟨e, ?_⟩
  refine got_back hok h4 (fun i hi => by have := at_bound hok hi; omega) (fun i hi => ?_) (fun e => by rw [e] at hx; cases hx)
  unfold upd
  by_cases hix : i = x
  · subst hix; rw [if_pos rfl]
  · rw [if_neg (fun e => ?_)]
    · exact h2 i hi hix
    · have h5 := at_bound hok hi
      rcases Nat.lt_or_gt_of_ne hix with h6 | h6
      · exact at_ne hok h6 hx (by omega)
      · exact at_ne hok h6 hi (by omega)

set_option maxRecDepth 100000 in
set_option maxHeartbeats 8000000 in
theorem lLost (a : Option Addr) (n cap : Nat) (l : List Int) (a2 : Option Addr) (m cap2 : Nat) (at_ : List Int) (u : Int) (w : World) (h1 : Row .i64 w a n cap l) (i1 : I64s l) (h2 : Row .i64 w a2 m cap2 at_) (i2 : I64s at_) (hu : (Lit.int .u8 u).wf = true) (hh : Half w) :
    Calls Tryd.prog 7 #[.slice a n cap, .slice a2 m cap2, .int .u8 u] w fun e w' => e = .returned (.bool true) ∧ Below w.heap.size w w' := by
  simp [Lit.wf, IntKind.min, IntKind.max, IntKind.signed, IntKind.bits] at hu
  have A := awake_any w hh
  obtain ⟨e1, hc1, hm1⟩ := h1.lens
  obtain ⟨e2, hc2, hm2⟩ := h2.lens
  by_cases hn : 400 < n
  · have d1 : decide ((400 : Int) < n) = true := by simp; omega
    clear h1 h2 e1 e2
    go_enter Tryd.func7, Tryd.ntmps7
    go_wp2_with fail
    refine A.mono ?_
    rintro e w2 ⟨rfl, hb2⟩
    go_wp2_with fail
    go_ret
    exact ⟨rfl, hb2⟩
  by_cases hm : 20 < m
  · have d1 : decide ((400 : Int) < n) = false := by simp; omega
    have d2 : decide ((20 : Int) < m) = true := by simp; omega
    clear h1 h2 e1 e2
    go_enter Tryd.func7, Tryd.ntmps7
    go_wp2_with fail
    refine A.mono ?_
    rintro e w2 ⟨rfl, hb2⟩
    go_wp2_with fail
    go_ret
    exact ⟨rfl, hb2⟩
  have d1 : decide ((400 : Int) < n) = false := by simp; omega
  have d2 : decide ((20 : Int) < m) = false := by simp; omega
  have H1 := Lib.hid h1
  have H2 := Lib.hid h2
  have E1 := Lib.hid e1
  have E2 := Lib.hid e2
  clear h1 h2 e1 e2
  go_enter Tryd.func7, Tryd.ntmps7
  go_wp2_with fail
  refine A.mono ?_
  rintro e w2 ⟨rfl, hb2⟩
  have P := lput_any (H2.out.below (Nat.le_refl _) hb2) (H1.out.below (Nat.le_refl _) hb2) i2 i1 (by omega) (by omega) (hh.below (Nat.le_refl _) hb2)
  clear A
  go_wp2_with fail
  refine P.mono ?_
  rintro e w3 ⟨v3, rfl, ho3, hb3⟩
  have hw3 := below_then hb2 hb3
  clear P hb2 hb3
  cases hok : putOk l at_
  · rw [putL, hok] at ho3
    rw [putE, hok]
    have HOK := Lib.hid hok
    obtain ⟨a3, c3, rfl, hb⟩ := ho3.bss
    simp only [Bool.false_eq_true, if_false, List.length_nil]
    clear ho3 hb hok
    go_wp2_with fail
    go_ret
    exact ⟨rfl, hw3⟩
  rw [putE, hok, if_pos rfl]
  have hpl := putL_len hok
  rw [E2.out] at hpl
  obtain ⟨vs, hvs, _⟩ := ho3
  obtain ⟨a3, c3, rfl, hc3, hcm3, _⟩ := own_slice hvs
  have ho3 : OwnBss w3 w2.heap.size (.slice a3 (putL l at_).length c3) (putL l at_) := ⟨vs, hvs, by assumption⟩
  rw [hpl] at hc3
  unfold maxLen at hcm3
  have HO3 := Lib.hid ho3
  have HPL := Lib.hid hpl
  have HOK := Lib.hid hok
  rw [hpl]
  clear ho3 hpl hok hvs
  by_cases hm0 : m = 0
  · subst hm0
    clear HO3
    go_wp2_with fail
    go_ret
    exact ⟨rfl, hw3⟩
  have e0 : ((m : Int) == 0) = false := by rw [beq_eq_false_iff_ne]; omega
  have N := new_ok (aw_one w3 1000) (by decide)
  obtain ⟨un, rfl⟩ := Int.eq_ofNat_of_zero_le hu.1
  obtain ⟨x, hx⟩ : ∃ x, un % m = x := ⟨_, rfl⟩
  have hxm : x < m := by rw [← hx]; exact Nat.mod_lt _ (by omega)
  have hxi : ((un : Int) % (m : Int)) = (x : Int) := by rw [← hx]; rfl
  have hxt : ((un : Int).tmod (m : Int)) = (x : Int) := by rw [Int.tmod_eq_emod_of_nonneg (by omega)]; exact hxi
  have HXM := Lib.hid hx
  clear hx
  go_wp2_with fail
  refine N.mono ?_
  rintro e w4 ⟨db, rfl, hd4, hb4⟩
  have hsz : (w3.alloc (.cells #[.int .i64 1000] 3)).heap.size = w3.heap.size + 1 := by simp
  have hw4 : Below w3.heap.size w3 w4 := below_then ((Below.refl _ _).alloc (Nat.le_refl _) _) hb4
  rw [hsz] at hd4
  have HD4 := Lib.hid hd4
  clear N hb4 hsz hd4
  go_wp2_with fail
  go_loopw [12] (fun s12 wr => ∃ (i : Nat) (d : List Rg), i ≤ m ∧ s12 = .int .i64 i ∧ One (w3.heap.size + 1) wr db i d ∧ LaidX l at_ x i d ∧ Below w3.heap.size w3 wr) (fun s _ => m - (intOf s).toNat)
  case atStart => exact ⟨0, _, Nat.zero_le _, rfl, HD4.out, LaidX.new l at_ x, hw4⟩
  case round =>
    clear HD4 hw4
    obtain ⟨i, d, hi, rfl, hd, hlaid, hb⟩ := hrel
    obtain ⟨b2, o2, hadr, hb2, hcell2⟩ := H2.out.cellI (k := 0) (by omega)
    subst hadr
    by_cases hlt : i < m
    · by_cases hix : i = x
      · subst hix
        have q1 : ((i : Int) == (i : Int)) = true := by simp
        have q2 : ((i : Int) != (i : Int)) = false := by simp
        have HLD := Lib.hid hlaid.skip
        have HDM := Lib.hid (hd.more (Nat.le_succ i))
        have HB := Lib.hid hb
        clear hd hlaid hb hcell2
        go_wp2_with fail
        go_roundw
        case rel => exact ⟨i + 1, _, hlt, by go_num, HDM.out, HLD.out, HB.out⟩
        case measure => simp [intOf]; omega
      · have q1 : ((i : Int) == (x : Int)) = false := by rw [beq_eq_false_iff_ne]; omega
        have q2 : ((i : Int) != (x : Int)) = true := by rw [bne_iff_ne]; omega
        obtain ⟨g, k, a7, c7, e7, _, _, hg, hge, hcell, hbs, hgx⟩ := HO3.out.get (putL_get HOK.out (i := i) (by rw [E2.out]; exact hlt))
        cases e7
        rw [pageL_len] at hcell hbs
        obtain ⟨hwe, hlaid2⟩ := hlaid.step HOK.out (by rw [E2.out]; exact hlt) (by rw [E2.out]; exact hxm) hix
        have hop := (hd.below (w' := wr.drew) (below_drewN (Below.refl _ _) 1)).opens
        have C := write_o hop (hbs.below (Nat.le_refl _) hb.drew) (fun g' off e => .inl (by have := (hgx g' off e).2; omega)) (by omega) 0 (atI at_ i)
        rw [hwe] at C
        have cA : ∀ W, Below w3.heap.size w3 W → W.cell? ⟨g, i, none⟩ = some (.slice a7 128 c7) := fun W hW => (hW.cell (p := ⟨g, i, none⟩) hg).trans hcell
        have cB : ∀ W, Below w3.heap.size w3 W → W.cell? ⟨b2, o2 + i, none⟩ = some (.int .i64 (atI at_ i)) := fun W hW => ((below_then hw3 hW).cell (p := ⟨b2, o2 + i, none⟩) hb2).trans (hcell2 i hlt)
        have HLD := Lib.hid hlaid2
        have HB := Lib.hid hb
        have hb0 : Below w3.heap.size w3 wr.drew := hb.drew
        have hc128 := hbs.cap
        unfold maxLen at hc128
        clear hd hlaid hlaid2 hb hcell hbs hgx hwe hop hcell2 hix
        go_wp2_with fail
        go_region_held3 (fun W => Below w3.heap.size w3 W) (with_reducible assumption) (first | (go_at_call 18; refine C.mono ?_; rintro e wx ⟨rfl, hdx, hbx⟩; have hBx : Below w3.heap.size w3 wx := hb0.trans (hbx.mono (Nat.le_succ _))))
        all_goals
          have HDX := Lib.hid hdx
          have HBX := Lib.hid hBx
          clear cA cB hdx hBx hbx hb0 C
          go_wp2_with fail
          go_roundw
          case rel => exact ⟨i + 1, _, hlt, by go_num, HDX.out, HLD.out, HBX.out⟩
          case measure => simp [intOf]; omega
    · obtain rfl : i = m := by omega
      have hlaid : LaidX l at_ x at_.length d := by rw [E2.out]; exact hlaid
      have hx' : x < at_.length := by rw [E2.out]; exact hxm
      have hlost := hlaid.lost HOK.out hx'
      obtain ⟨hwe, hgot⟩ := hlaid.whole HOK.out hx'
      have hbw := below_then hw3 hb
      have G := lget_any hd (hh.below (Nat.le_refl _) hbw) 0 (atI at_ 0)
      rw [hlost] at G
      have c0 : wr.cell? ⟨b2, o2, none⟩ = some (.int .i64 (atI at_ 0)) := (hbw.cell (p := ⟨b2, o2, none⟩) hb2).trans (by have := hcell2 0 (by omega); simpa using this)
      have HCELL2 := Lib.hid hcell2
      have HGOT := Lib.hid hgot
      have HWE := Lib.hid hwe
      clear hlaid hx' hlost hwe hgot hcell2
      go_wp2_with fail
      refine G.mono ?_
      rintro e w5 ⟨v5, v6, rfl, ho5, ho6, hb5⟩
      obtain ⟨g, k, a7, c7, e7, _, _, hg, hge, hcell, hbs, hgx⟩ := HO3.out.get (putL_get HOK.out (i := x) (by rw [E2.out]; exact hxm))
      cases e7
      rw [pageL_len] at hcell hbs
      have hb35 : Below w3.heap.size w3 w5 := hb.trans (hb5.mono hb.size)
      have hop := ((hd.below hb5).below (w' := w5.drew) (below_drewN (Below.refl _ _) 1)).opens
      have C := write_o hop (hbs.below (Nat.le_refl _) hb35.drew) (fun g' off e => .inl (by have := (hgx g' off e).2; omega)) (by omega) 0 (atI at_ x)
      rw [HWE.out] at C
      have cA : ∀ W, Below w3.heap.size w3 W → W.cell? ⟨g, x, none⟩ = some (.slice a7 128 c7) := fun W hW => (hW.cell (p := ⟨g, x, none⟩) hg).trans hcell
      have cB : ∀ W, Below w3.heap.size w3 W → W.cell? ⟨b2, o2 + x, none⟩ = some (.int .i64 (atI at_ x)) := fun W hW => ((below_then hw3 hW).cell (p := ⟨b2, o2 + x, none⟩) hb2).trans (HCELL2.out x hxm)
      have hb0 : Below w3.heap.size w3 w5.drew := hb35.drew
      have hc128 := hbs.cap
      unfold maxLen at hc128
      have hwu : IntKind.i64.wrap (un : Int) = (un : Int) := by simp [IntKind.wrap, IntKind.signed, IntKind.bits]; omega
      have x0 : (0 : Int) ≤ (x : Int) := by omega
      have x1 : (x : Int) < (i : Int) := by omega
      clear G ho5 ho6 hb5 hbw hd hb hcell hbs hgx hop hb35 c0
      go_wp2_with fail
      go_region_held3 (fun W => Below w3.heap.size w3 W) (with_reducible assumption) (first | (go_at_call 18; refine C.mono ?_; rintro e wx ⟨rfl, hdx, hbx⟩; have hBx : Below w3.heap.size w3 wx := hb0.trans (hbx.mono (Nat.le_succ _))))
      all_goals
        have hbw := below_then hw3 hBx
        have G := lget_any hdx (hh.below (Nat.le_refl _) hbw) 0 (atI at_ 0)
        rw [HGOT.out] at G
        have c0 : wx.cell? ⟨b2, o2, none⟩ = some (.int .i64 (atI at_ 0)) := (hbw.cell (p := ⟨b2, o2, none⟩) hb2).trans (by have := HCELL2.out 0 (by omega); simpa using this)
        clear cA cB hdx hbx hb0 C hBx
        go_wp2_with fail
        refine G.mono ?_
        rintro e w8 ⟨v8, v9, rfl, ho8, ho9, hb8⟩
        obtain ⟨a8, c8, rfl, row8⟩ := row_ints ho8
        have hw8 := below_then hbw hb8
        have I1 := ints_any row8 (H1.out.below (Nat.le_refl _) hw8)
        rw [show decide (l = l) = true by simp] at I1
        clear G ho8 ho9 hb8 hbw c0
        go_wp2_with fail
        refine I1.mono ?_
        rintro e w9 ⟨rfl, j1, rfl⟩
        have HW := Lib.hid (below_drewN hw8 j1)
        clear I1 row8 hw8
        go_wp2_with fail
        go_ret
        exact ⟨rfl, HW.out⟩
end Go.Proofs.YtopnfpobbemfbaaDoor
