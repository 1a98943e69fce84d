/- The law ChainBack (printed by gen_chnL.py). -/
import Derived.Test.YtfidfbgplfjakaaDoorChnZq
import Derived.Deep.RegionHeld3
namespace Go.Proofs.YtfidfbgplfjakaaDoor
open Go.RowKit

/-- All pages stand there, and one is written anew: it is turned. -/
theorem LaidC.turned {v : List UInt8} {at_ : List Int} {d : List Rg} (h : LaidC v at_ 1000 at_.length d) (hok : putOkC v at_ = true) {k : Nat} (hk : k < at_.length) {b : List UInt8} (hb : b.length = 128) (hu : unpE b = 12) :
    getDC (writeD d 0 (atC at_ k) b) 0 (atC at_ 0) v.length = ([], [], 12) := by
  obtain ⟨f, h1, h2⟩ := h
  have hbk := atC_bound hok hk
  obtain ⟨_, h3, _⟩ := h1.write (p := atC at_ k) (by omega) hb
  refine gotC_lost hok h3 (fun i hi => by have := atC_bound hok hi; omega) k hk 12 (by decide) (by decide) ?_ (fun i hi => ?_)
  · rw [upd, if_pos rfl]; exact oneEC_of hu
  · unfold upd
    rw [if_neg (fun e => by
      have h5 := atC_bound hok (show i < at_.length by omega)
      exact atC_ne hok hi hk (by omega))]
    exact h2 i (by omega)
/-- What stands on a page on which nothing was written is not a value. -/
theorem getDC_sum {d : List Rg} {r : Nat} {n : Nat} {f : Nat → List UInt8} (h : RegAt d r n f) {p size : Int} (hp : 0 ≤ p ∧ p < n) (hu : unpE (f p.toNat) = 12) (hs : needC size ≠ 0) : getDC d r p size = ([], [], 12) := by
  unfold getDC getC
  rw [if_neg hs, getFC]
  simp only [List.getLastD_cons, List.getLastD_nil]
  rw [h.oneC hp]
  simp only
  rw [oneEC_of hu, if_neg (by rintro (h | ⟨h, _⟩) <;> exact absurd h (by decide)), if_pos (by decide)]
/-- Page 1 stays a page of noughts. -/
def Noughts1 (d : List Rg) : Prop := ∃ f, RegAt d 0 1000 f ∧ f 1 = List.replicate 128 0
theorem Noughts1.new : Noughts1 (newD [1000]) := ⟨zeros, RegAt.new (l := [1000]) (r := 0) rfl, rfl⟩
theorem Noughts1.step {d : List Rg} (h : Noughts1 d) {p : Int} (hp : 2 ≤ p ∧ p ≤ 999) {b : List UInt8} (hb : b.length = 128) : Noughts1 (writeD d 0 p b) := by
  obtain ⟨f, h1, h2⟩ := h
  obtain ⟨_, h3, _⟩ := h1.write (p := p) (by omega) hb
  exact ⟨_, h3, by rw [upd, if_neg (by omega)]; exact h2⟩

set_option maxRecDepth 100000 in
set_option maxHeartbeats 4000000 in
theorem lBack (v : List UInt8) (a2 : Option Addr) (m cap2 : Nat) (at_ : List Int) (u : Int) (w : World) (hv : v.length ≤ 9223372036854775807) (h2 : Row .i64 w a2 m cap2 at_) (i2 : ∀ n ∈ at_, I64 n) (hu : (Lit.int .u8 u).wf = true) (hh : Half w) :
    Calls Tryd.prog 5 #[.string (strOf v), .slice a2 m cap2, .int .u8 u] w fun e w' => e = .returned (.bool true) ∧ Below w.heap.size w w' := by
  have A := awake_any w hh
  obtain ⟨e2, hc2, hm2⟩ := h2.lensC
  have hsz := strOf_size v
  by_cases hbig : ¬ (v.length ≤ 600 ∧ m ≤ 20)
  · have hd := big_cases hbig
    clear h2 e2 hbig
    rcases hd with ⟨d1, d1'⟩ | ⟨d1, d1', d2, d2'⟩
    all_goals
      go_enter Tryd.func5, Tryd.ntmps5
      go_wp2_with fail
      refine A.mono ?_
      rintro e w2 ⟨rfl, hb2⟩
      go_wp2_with fail
      go_ret
      exact ⟨rfl, hb2⟩
  obtain ⟨hv6, hm⟩ := Decidable.not_not.1 hbig
  clear hbig
  have d1 : decide ((600 : Int) < v.length) = false := by simp; omega
  have d1' : decide (600 < v.length) = false := by simp; omega
  have d2 : decide ((20 : Int) < m) = false := by simp; omega
  have d2' : decide (20 < m) = false := by simp; omega
  have H2 := Lib.hid h2
  have E2 := Lib.hid e2
  clear h2 e2
  go_enter Tryd.func5, Tryd.ntmps5
  go_wp2_with fail
  refine A.mono ?_
  rintro e w2 ⟨rfl, hb2⟩
  have P := cput_any (H2.out.below (Nat.le_refl _) hb2) i2 v (by omega) (hh.below (Nat.le_refl _) hb2)
  clear A
  go_wp2_with fail
  refine P.mono ?_
  rintro e w3 ⟨v3, rfl, ho3, hb3⟩
  have hw3 := below_then hb2 hb3
  have hb2s := hb2.size
  clear P hb2 hb3
  cases hok : putOkC v at_
  · rw [putLC, hok] at ho3
    rw [putEC, hok]
    have HOK := Lib.hid hok
    obtain ⟨a3, c3, rfl, hb⟩ := ho3.bss
    simp only [Bool.false_eq_true, if_false, List.length_nil]
    clear ho3 hb hok
    go_wp2_with fail
    go_ret
    exact ⟨rfl, hw3⟩
  rw [putEC, hok, if_pos rfl]
  have hpl := putLC_len hok
  rw [E2.out] at hpl
  obtain ⟨vs, hvs, hvs3⟩ := ho3
  obtain ⟨a3, c3, rfl, hc3, hcm3, _⟩ := own_slice hvs
  have HO3 := Lib.hid (show OwnBss w3 w2.heap.size (.slice a3 (putLC v at_).length c3) (putLC v at_) from ⟨vs, hvs, hvs3⟩)
  rw [hpl] at hc3 ⊢
  unfold maxLen at hcm3
  have HPL := Lib.hid hpl
  have HOK := Lib.hid hok
  have hm4 := needC_le (v.length : Int)
  have hmp := (putC_parts hok).2.1
  have hn0 := (putC_parts hok).1
  rw [E2.out] at hmp
  have HMP := Lib.hid hmp
  have hm0 : 0 < m := by omega
  have hm1 : m ≤ 4 := by omega
  clear hpl hok hvs hvs3 hm4 hmp hn0
  simp [Lit.wf, IntKind.min, IntKind.max, IntKind.signed, IntKind.bits] at hu
  have N := new_ok (aw_one w3 1000) (by decide)
  go_wp2_with fail
  refine N.mono ?_
  rintro e w4 ⟨db, rfl, hd4, hb4⟩
  have hsz4 : (w3.alloc (.cells #[.int .i64 1000] 3)).heap.size = w3.heap.size + 1 := by simp
  have hw4 : Below w3.heap.size w3 w4 := below_then ((Below.refl _ _).alloc (Nat.le_refl _) _) hb4
  rw [hsz4] at hd4
  have HD4 := Lib.hid hd4
  clear N hb4 hsz4 hd4
  go_wp2_with fail
  go_loopw [12] (fun s12 wr => ∃ (i : Nat) (d : List Rg), i ≤ m ∧ s12 = .int .i64 i ∧ One (w3.heap.size + 1) wr db i d ∧ LaidC v at_ 1000 i d ∧ Noughts1 d ∧ Below w3.heap.size w3 wr) (fun s _ => m - (intOf s).toNat)
  case atStart => exact ⟨0, _, Nat.zero_le _, rfl, HD4.out, LaidC.new v at_ 1000, Noughts1.new, hw4⟩
  case round =>
    clear HD4 hw4
    obtain ⟨i, d, hi, rfl, hd, hlaid, hno, hb⟩ := hrel
    by_cases hlt : i < m
    · obtain ⟨g, k, a7, c7, e7, _, _, hg, hge, hcell, hbs, hgx⟩ := HO3.out.get (putLC_get HOK.out (i := i) (by rw [E2.out]; exact hlt))
      cases e7
      rw [pageC_len] at hcell hbs
      obtain ⟨b2, o2, hadr, hb2, hcell2⟩ := H2.out.cellC hlt
      subst hadr
      have hbk := atC_bound HOK.out (i := i) (by rw [E2.out]; exact hlt)
      obtain ⟨hwe, hlaid2⟩ := hlaid.step HOK.out (by rw [E2.out]; exact hlt) (by omega)
      have hop := (hd.below (w' := wr.drew) (below_drewN (Below.refl _ _) 1)).opens
      have C := write_o hop (hbs.below (Nat.le_refl _) hb.drew) (fun g' off e => .inl (by have := (hgx g' off e).2; omega)) (by omega) 0 (atC at_ i)
      rw [hwe] at C
      have cA : ∀ W, Below w3.heap.size w3 W → W.cell? ⟨g, i, none⟩ = some (.slice a7 128 c7) := fun W hW => (hW.cell (p := ⟨g, i, none⟩) hg).trans hcell
      have cB : ∀ W, Below w3.heap.size w3 W → W.cell? ⟨b2, o2 + i, none⟩ = some (.int .i64 (atC at_ i)) := fun W hW => ((below_then hw3 hW).cell (p := ⟨b2, o2 + i, none⟩) hb2).trans (hcell2 i hlt)
      have HD := Lib.hid hd
      have HLD := Lib.hid hlaid2
      have HNO := Lib.hid (hno.step hbk (pageC_len v at_ i))
      have HB := Lib.hid hb
      have hb0 : Below w3.heap.size w3 wr.drew := hb.drew
      have hc128 := hbs.cap
      unfold maxLen at hc128
      clear hd hlaid hlaid2 hno hb hcell hbs hgx hwe hop hcell2
      generalize atC at_ i = p at *
      go_wp2_with fail
      go_region_held3 (fun W => Below w3.heap.size w3 W) (with_reducible assumption) (first | (go_at_call 16; refine C.mono ?_; rintro e wx ⟨rfl, hdx, hbx⟩; have hBx : Below w3.heap.size w3 wx := hb0.trans (hbx.mono (Nat.le_succ _))))
      all_goals
        have HDX := Lib.hid hdx
        have HBX := Lib.hid hBx
        clear cA cB hdx hBx hbx hb0 C
        go_wp2_with fail
        go_roundw
        case rel => exact ⟨i + 1, _, hlt, by go_num, HDX.out, HLD.out, HNO.out, HBX.out⟩
        case measure => simp [intOf]; omega
    · obtain rfl : i = m := by omega
      have hlaid : LaidC v at_ 1000 at_.length d := by rw [E2.out]; exact hlaid
      have hgot := hlaid.got HOK.out (fun j hj => by have := atC_bound HOK.out hj; omega)
      have hbw := below_then hw3 hb
      obtain ⟨b2, o2, hadr, hb2, hcell2⟩ := H2.out.cellC (k := 0) hm0
      subst hadr
      have c20 : ∀ W, Below w.heap.size w W → W.cell? ⟨b2, o2, none⟩ = some (.int .i64 (atC at_ 0)) := fun W hW => (hW.cell (p := ⟨b2, o2, none⟩) hb2).trans (by have := hcell2 0 hm0; simpa using this)
      have hI0 : I64 (atC at_ 0) := by have := atC_bound HOK.out (i := 0) (by rw [E2.out]; exact hm0); unfold I64; omega
      have G := cget_any hd (hh.below (Nat.le_refl _) hbw) 0 (atC at_ 0) v.length hI0
      rw [hgot] at G
      have c0r := c20 wr hbw
      have HL := Lib.hid hlaid
      have HNO := Lib.hid hno
      clear hgot hlaid hno
      go_wp2_with fail
      refine G.mono ?_
      rintro e w5 ⟨v5, rfl, ho5, hb5⟩
      rw [E2.out] at ho5
      obtain ⟨a5, c5, rfl, row5⟩ := Row.of_own ho5
      have hw5 := below_then hbw hb5
      have HD5 := Lib.hid (hd.below hb5)
      have HB5 := Lib.hid (below_then hb hb5)
      have I1 := ints_any row5 (H2.out.below (Nat.le_refl _) hw5)
      rw [show decide (at_ = at_) = true by simp] at I1
      clear G ho5 hb5 hbw hd hb row5
      go_wp2_with fail
      refine I1.mono ?_
      rintro e w6 ⟨rfl, j1, rfl⟩
      have hw6 := below_drewN hw5 j1
      have HD6 := Lib.hid (HD5.out.below (below_drewN (Below.refl _ _) j1))
      have HB6 := Lib.hid (below_drewN HB5.out j1)
      have N1 := cneed_any (v.length : Int) (w5.drewN j1)
      rw [← HMP.out] at N1
      clear I1 HD5 HB5 hw5
      generalize w5.drewN j1 = w6 at *
      go_wp2_with fail
      refine N1.mono ?_
      rintro e w7 ⟨rfl, rfl⟩
      clear N1
      obtain ⟨un, rfl⟩ := Int.eq_ofNat_of_zero_le hu.1
      obtain ⟨x, hx⟩ : ∃ x, un % i = x := ⟨_, rfl⟩
      obtain ⟨y, hy⟩ : ∃ y, un % 128 = y := ⟨_, rfl⟩
      have hxm : x < i := by rw [← hx]; exact Nat.mod_lt _ hm0
      have hxi : (un : Int) % (i : Int) = (x : Int) := by rw [← hx]; omega
      have hxt : (un : Int).tmod (i : Int) = (x : Int) := by rw [Int.tmod_eq_emod_of_nonneg (by omega)]; exact hxi
      have hyi : (un : Int) % 128 = (y : Int) := by omega
      have hyt : (un : Int).tmod 128 = (y : Int) := by rw [Int.tmod_eq_emod_of_nonneg (by omega)]; exact hyi
      have hy8 : y < 128 := by omega
      obtain ⟨g, kc, gx, cx, e7, hg3, hne, hgx3, hcellg, hown3⟩ := HO3.out.own (putLC_get HOK.out (i := x) (by rw [E2.out]; exact hxm)) (by rw [pageC_len]; omega)
      cases e7
      have hpl := pageC_len v at_ x
      have hfit := pageC_fits v at_ x
      have hturn := fun c hc => page_turned 3 [cellC v at_ x] hfit y hy8 c hc
      rw [hpl] at hcellg hown3
      have hown := own_below hown3 (Nat.le_refl _) HB6.out
      have HPG := Lib.hid (show pageOf 3 [cellC v at_ x] = pageC v at_ x from rfl)
      rw [HPG.out] at hturn
      obtain ⟨pg, hpg⟩ : ∃ pg, pageC v at_ x = pg := ⟨_, rfl⟩
      rw [hpg] at hown hturn hpl
      have hcell := hown.cellAt y (by omega)
      have hfr := hown.frozenAt y
      have hst8 := hown.stored y (.int .u8 (((pg[y]?.getD 0).toNat ^^^ 1 : Nat) : Int))
      have hlist : ((toI pg).map (Value.int .u8)).set y (.int .u8 (((pg[y]?.getD 0).toNat ^^^ 1 : Nat) : Int)) = (toI (pg.set y (UInt8.ofNat ((pg[y]?.getD 0).toNat ^^^ 1)))).map (Value.int .u8) := by
        simp only [toI, List.map_set, xor1_val]
      rw [hlist] at hst8
      have hpgy : pg[y]? = some (pg[y]?.getD 0) := by rw [List.getElem?_eq_getElem (by omega)]; rfl
      have hcell3 : ((toI pg).map (Value.int .u8))[y]? = some (.int .u8 ((pg[y]?.getD 0).toNat : Int)) := by
        rw [List.getElem?_map, toI, List.getElem?_map, hpgy]; rfl
      rw [hcell3] at hcell
      have hE := hturn (UInt8.ofNat ((pg[y]?.getD 0).toNat ^^^ 1)) (by rw [hpgy]; intro e; exact xor1_ne _ (Option.some.inj e).symm)
      have hb128 : (pg.set y (UInt8.ofNat ((pg[y]?.getD 0).toNat ^^^ 1))).length = 128 := by rw [List.length_set]; exact hpl
      generalize UInt8.ofNat ((pg[y]?.getD 0).toNat ^^^ 1) = c at *
      generalize pg[y]?.getD 0 = c0 at *
      have hxb : bits .xor .u8 (c0.toNat : Int) 1 = ((c0.toNat ^^^ 1 : Nat) : Int) := u8_xor_nat c0.toNat 1 c0.toNat_lt (by decide)
      have hgB : gx < w3.heap.size + 1 := by omega
      have hbs : Bs (w6.setCell ⟨gx, y, none⟩ (.int .u8 ((c0.toNat ^^^ 1 : Nat) : Int))) (some ⟨gx, 0, none⟩) 128 cx (pg.set y c) := Bs.own hst8.1
      have hdS := HD6.out.setOut ⟨gx, y, none⟩ (.int .u8 ((c0.toNat ^^^ 1 : Nat) : Int)) hgB
      obtain ⟨P, hP⟩ : ∃ P, pg.set y c = P := ⟨_, rfl⟩
      rw [hP] at hbs hE hb128
      have hgw := own_ge hown3 gx rfl
      have hwS : Below w.heap.size w (w6.setCell ⟨gx, y, none⟩ (.int .u8 ((c0.toNat ^^^ 1 : Nat) : Int))) := hw6.setCell (Nat.le_trans hb2s hgw) _
      have hbkx := atC_bound HOK.out (i := x) (by rw [E2.out]; exact hxm)
      have c2x : ∀ W, Below w.heap.size w W → W.cell? ⟨b2, o2 + x, none⟩ = some (.int .i64 (atC at_ x)) := fun W hW => (hW.cell (p := ⟨b2, o2 + x, none⟩) hb2).trans (hcell2 x hxm)
      have HDS := Lib.hid hdS
      have HWS := Lib.hid hwS
      have HTU := Lib.hid (HL.out.turned HOK.out (k := x) (by rw [E2.out]; exact hxm) hb128 hE)
      have HN2 := Lib.hid (HNO.out.step hbkx hb128)
      have HN0 : Hid (needC (v.length : Int) ≠ 0) := Lib.hid (by rw [← HMP.out]; omega)
      have cG : w6.cell? ⟨g, x, none⟩ = some (.slice (some ⟨gx, 0, none⟩) 128 cx) := (HB6.out.cell (p := ⟨g, x, none⟩) hg3).trans hcellg
      have cS1 : (w6.setCell ⟨gx, y, none⟩ (.int .u8 ((c0.toNat ^^^ 1 : Nat) : Int))).cell? ⟨g, x, none⟩ = some (.slice (some ⟨gx, 0, none⟩) 128 cx) := (World.cell?_of_block (Below.heap_setCell _ _ _ g hne)).trans cG
      have cS2 := c2x _ hwS
      have hop := (hdS.below (w' := (w6.setCell ⟨gx, y, none⟩ (.int .u8 ((c0.toNat ^^^ 1 : Nat) : Int))).drew) (below_drewN (Below.refl _ _) 1)).opens
      have CW := write_o hop (hbs.below (Nat.le_refl _) (below_drewN (Below.refl _ _) 1)) (fun g' off e => by cases e; exact .inl hgB) (by omega) 0 (atC at_ x)
      have hcx : 128 ≤ cx ∧ cx ≤ 9223372036854775807 := by have := hbs.cap; unfold maxLen at this; omega
      have hgw3 : g < w3.heap.size + 1 := by omega
      have hle3 : w.heap.size ≤ w3.heap.size + 1 := by have := hw3.size; omega
      have hb2w : b2 < w3.heap.size + 1 := by have := hw3.size; omega
      have cW : ∀ W : World, (W.cell? ⟨g, x, none⟩ = some (.slice (some ⟨gx, 0, none⟩) 128 cx) ∧ W.cell? ⟨b2, o2 + x, none⟩ = some (.int .i64 (atC at_ x))) → W.cell? ⟨g, x, none⟩ = some (.slice (some ⟨gx, 0, none⟩) 128 cx) := fun W h => h.1
      have cX : ∀ W : World, (W.cell? ⟨g, x, none⟩ = some (.slice (some ⟨gx, 0, none⟩) 128 cx) ∧ W.cell? ⟨b2, o2 + x, none⟩ = some (.int .i64 (atC at_ x))) → W.cell? ⟨b2, o2 + x, none⟩ = some (.int .i64 (atC at_ x)) := fun W h => h.2
      have hS0 : ((w6.setCell ⟨gx, y, none⟩ (.int .u8 ((c0.toNat ^^^ 1 : Nat) : Int))).drew.cell? ⟨g, x, none⟩ = some (.slice (some ⟨gx, 0, none⟩) 128 cx) ∧ (w6.setCell ⟨gx, y, none⟩ (.int .u8 ((c0.toNat ^^^ 1 : Nat) : Int))).drew.cell? ⟨b2, o2 + x, none⟩ = some (.int .i64 (atC at_ x))) := ⟨cS1, cS2⟩
      clear HD6 HB6 hown3 hown hst8 hlist hcell3 hpgy hturn hE hb128 hfit hpl hcellg hP hdS hbs hop hwS hpg HO3 HL HNO c0r hw6 hcell2
      generalize atC at_ x = px at *
      go_wp2_with fail
      go_region_held3 (fun W => W.cell? ⟨g, x, none⟩ = some (.slice (some ⟨gx, 0, none⟩) 128 cx) ∧ W.cell? ⟨b2, o2 + x, none⟩ = some (.int .i64 px)) (with_reducible assumption) (first | (go_at_call 16; refine CW.mono ?_; rintro e wx ⟨rfl, hdx, hbx⟩; have hBx : (wx.cell? ⟨g, x, none⟩ = some (.slice (some ⟨gx, 0, none⟩) 128 cx) ∧ wx.cell? ⟨b2, o2 + x, none⟩ = some (.int .i64 px)) := ⟨(hbx.cell (p := ⟨g, x, none⟩) hgw3).trans hS0.1, (hbx.cell (p := ⟨b2, o2 + x, none⟩) hb2w).trans hS0.2⟩))
      all_goals
        have hwx : Below w.heap.size w wx := HWS.out.drew.trans (hbx.mono hle3)
        have G2 := cget_any hdx (hh.below (Nat.le_refl _) hwx) 0 (atC at_ 0) v.length hI0
        rw [HTU.out] at G2
        have cE := c20 wx hwx
        have HDX := Lib.hid hdx
        clear hS0 hBx cW cX cS1 cS2 cG CW hdx hbx c2x hcell hfr
        go_wp2_with fail
        refine G2.mono ?_
        rintro e w8 ⟨v8, rfl, ho8, hb8⟩
        have hw8 := below_then hwx hb8
        have G3 := cget_any (HDX.out.below hb8) (hh.below (Nat.le_refl _) hw8) 0 1 v.length (by unfold I64; omega)
        have hg3 : getDC (writeD d 0 px P) 0 1 v.length = ([], [], 12) := by
          obtain ⟨f, q1, q2⟩ := HN2.out
          exact getDC_sum q1 (by omega) (by show unpE (f 1) = 12; rw [q2]; exact zerosC_unp) HN0.out
        rw [hg3] at G3
        clear G2 ho8 hb8 hg3 hwx
        go_wp2_with fail
        refine G3.mono ?_
        rintro e w9 ⟨v9, rfl, ho9, hb9⟩
        have hw9 := below_then hw8 hb9
        clear G3 ho9 hb9 hw8
        go_wp2_with fail
        go_ret
        exact ⟨rfl, hw9⟩
end Go.Proofs.YtfidfbgplfjakaaDoor
