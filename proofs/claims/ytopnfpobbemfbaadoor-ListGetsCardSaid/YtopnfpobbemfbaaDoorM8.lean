/- Texts that other texts of this claim lean on, one behind the other. -/
import Derived.Test.YtopnfpobbemfbaaDoorM3
import Derived.Test.YtopnfpobbemfbaaDoorM4
import Derived.Test.YtopnfpobbemfbaaDoorM1
import Derived.Test.YtopnfpobbemfbaaDoorM7
import Derived.Outline
import Derived.Test.YtopnfpobbemfbaaDoorM2
import Derived.Deep.DeepCutAuto
/- The walks of the chapter on free pages: a list is put. -/
namespace Go.Proofs.YtopnfpobbemfbaaDoor
open Go.RowKit

def PutPost (w : World) (l at_ : List Int) (e : Ending) (w' : World) : Prop :=
  ∃ v, e = .returned (.tuple #[v, .int .i64 (putE l at_)]) ∧ OwnBss w' w.heap.size v (putL l at_) ∧ Below w.heap.size w w'
theorem putPost_bad {w w' : World} {l at_ : List Int} (h : putOk l at_ = false) (hb : Below w.heap.size w w') : PutPost w l at_ (.returned (.tuple #[.slice none 0 0, .int .i64 1])) w' := by
  refine ⟨.slice none 0 0, by rw [putE, h]; rfl, ?_, hb⟩
  rw [putL, h]
  exact OwnBss.nil _ _
theorem bss_single {W : World} {a : Option Addr} {n cap : Nat} {c : List UInt8} (h : Bs W a n cap c) (t : TypeId) : Bss (W.alloc (.cells #[.slice a n cap] t)) (some ⟨W.heap.size, 0, none⟩) 1 1 [c] := by
  refine ⟨rfl, Nat.le_refl _, by unfold maxLen; omega, (fun h => by cases h), .inr ⟨W.heap.size, 0, rfl, by simp, fun i y hy => ?_⟩⟩
  have hi := (List.getElem?_eq_some_iff.1 hy).1
  simp at hi; subst hi
  simp at hy; subst hy
  refine ⟨[.slice a n cap], rfl, ⟨a, n, cap, rfl, h.below (Nat.le_refl _) ((Below.refl _ _).alloc (Nat.le_refl _) _)⟩, fun j v hj => ?_⟩
  match j, hj with
  | 0, hj =>
    cases hj
    have := World.alloc_heap_new W (.cells #[.slice a n cap] t)
    simp only [World.cell?, Nat.zero_add, Nat.zero_mul, this]
    rfl
  | j + 1, hj => simp at hj
theorem info_i64 : (Tryd.prog.info? 3).map (fun i => (i.zero, i.size, i.bytes)) = some (some (.int .i64 0), 1, 8) := by kernel_rfl

set_option maxRecDepth 100000 in
set_option maxHeartbeats 4000000 in
theorem lput_bad {w : World} {a a2 : Option Addr} {n cap m cap2 : Nat} {at_ l : List Int} (h1 : Row .i64 w a n cap at_) (h2 : Row .i64 w a2 m cap2 l) (i1 : I64s at_) (i2 : I64s l) (hn : n ≤ 1000) (hm : m ≤ 1000) (hbad : putOk l at_ = false) :
    Calls Tryd.prog 9 #[.slice a2 m cap2, .slice a n cap] w (PutPost w l at_) := by
  have hR := rising_any h2
  have hN := lneed_any (m : Int) w (by omega)
  have hA := apart_any h1 h2 i1 i2 (by omega) (by omega)
  have HP := Lib.hid (fun (w' : World) (hb : Below w.heap.size w w') => putPost_bad (w := w) hbad hb)
  have HB := Lib.hid hbad
  have e0 := h2.1
  have e1 := h1.1
  rw [← e0] at hN
  cases hr : risB l
  · rw [hr] at hR
    have HRF := Lib.hid hr
    clear hN hA hr hbad e0 e1
    go_enter Tryd.func9, Tryd.ntmps9
    go_wp2_with fail
    refine hR.mono ?_
    rintro e w' ⟨rfl, rfl⟩
    go_wp2_with fail
    go_ret2
    exact HP.out _ (Below.refl _ _)
  · rw [hr] at hR
    have HRF := Lib.hid hr
    clear hr
    by_cases hneed : n < needF l.length
    · rw [e0] at hN hneed
      generalize needF (m : Int) = q at *
      have d0 : decide (n < q) = true := by simpa using hneed
      have d1 : decide ((n : Int) < q) = true := by simp; omega
      clear hA hbad e0 e1
      go_enter Tryd.func9, Tryd.ntmps9
      go_wp2_with fail
      refine hR.mono ?_
      rintro e w' ⟨rfl, rfl⟩
      go_wp2_with fail
      refine hN.mono ?_
      rintro e w' ⟨rfl, rfl⟩
      go_wp2_with fail
      go_ret2
      exact HP.out _ (Below.refl _ _)
    · have hap : aptB at_ l = false := by
        have := HB.out
        rw [putOk, HRF.out, e1, show decide (needF (l.length : Int) ≤ n) = true by simpa using hneed] at this
        simpa using this
      rw [hap] at hA
      rw [e0] at hN hneed
      generalize needF (m : Int) = q at *
      have d0 : decide (n < q) = false := by simpa using hneed
      have d1 : decide ((n : Int) < q) = false := by simp; omega
      clear hbad e0 e1 hap
      go_enter Tryd.func9, Tryd.ntmps9
      go_wp2_with fail
      refine hR.mono ?_
      rintro e w' ⟨rfl, rfl⟩
      go_wp2_with fail
      refine hN.mono ?_
      rintro e w' ⟨rfl, rfl⟩
      go_wp2_with fail
      refine hA.mono ?_
      rintro e w' ⟨rfl, hb⟩
      go_wp2_with fail
      go_ret2
      exact HP.out _ hb

theorem slice_mid {P : Program} {T : TypeId} (hT : P.underlying T = some (.slice (P.elem T))) {z : Nat} (hz : ∀ w, (sizeOf (P.elem T)).run P w = .ok z w) (a : Option Addr) (len cap l r : Nat) (h1 : l ≤ r) (h2 : r ≤ cap) :
    ∃ a2, a2 = (if cap = l then a else a.map (·.add (l * z))) ∧ ∀ (k k2 : IntKind) w, (Instr.slice T (.slice a len cap) (some (.int k l)) (some (.int k2 r)) none).run P w = .ok (.slice a2 (r - l) (cap - l)) w := by
  refine ⟨_, rfl, fun k k2 w => ?_⟩
  rw [run_slice_lh w T a len cap hT k k2 l r (by omega) (by omega) (by omega), hz]
  rfl
/-- Numbers behind one another as bytes. -/
def wflat (x : List Int) : List UInt8 := x.flatMap wordB
theorem cell_wflat (l at_ : List Int) (i : Nat) : cellL l at_ i = wflat (nextI at_ i :: numsL l i) := rfl
theorem wflat_length (x : List Int) : (wflat x).length = 2 * x.length := words_length x

theorem wordB_nat (x : Nat) : wordB (x : Int) = beBytes x 2 := by rw [wordB, Int.toNat_natCast]
theorem flat_take (R : List Int) (j : Nat) (h : j < R.length) : (R.take (j + 1)).flatMap wordB = (R.take j).flatMap wordB ++ wordB (atI R j) := by
  rw [takeI R j h, List.flatMap_append]; simp

set_option maxRecDepth 100000 in
set_option maxHeartbeats 8000000 in
theorem lput_ok {w : World} {a a2 : Option Addr} {n cap m cap2 : Nat} {at_ l : List Int} (h1 : Row .i64 w a n cap at_) (h2 : Row .i64 w a2 m cap2 l) (i1 : I64s at_) (i2 : I64s l) (hn : n ≤ 1000) (hm : m ≤ 1000) (hh : Half w) (hok : putOk l at_ = true) :
    Calls Tryd.prog 9 #[.slice a2 m cap2, .slice a n cap] w (PutPost w l at_) := by
  obtain ⟨i0, hi, hz0, hz1, hz2⟩ := info_parts info_i64
  obtain ⟨j0, hj, hy0, hy1, hy2⟩ := info_parts info_u8
  obtain ⟨k0, hk, hx0, hx1, hx2⟩ := info_parts info_bytes
  obtain ⟨p1, p2, p3⟩ := put_parts hok
  have hR := rising_any h2
  have hN := lneed_any (m : Int) w (by omega)
  have hA := apart_any h1 h2 i1 i2 (by omega) (by omega)
  obtain ⟨e0, hc2, hcm2⟩ := h2.lens
  obtain ⟨e1, hc1, hcm1⟩ := h1.lens
  rw [p1] at hR
  rw [p3] at hA
  rw [e0, e1] at p2
  generalize hq : needF (m : Int) = q at *
  have d0 : decide (n < q) = false := by simpa using p2
  have d1 : decide ((n : Int) < q) = false := by simp; omega
  have H1 := Lib.hid h1
  have H2 := Lib.hid h2
  have P1 := Lib.hid p1
  have P3 := Lib.hid p3
  have OK := Lib.hid hok
  have E0 := Lib.hid e0
  have E1 := Lib.hid e1
  clear hq p1 p2 p3 e0 e1 h1 h2 hok
  go_enter Tryd.func9, Tryd.ntmps9
  go_wp2_with fail
  refine hR.mono ?_
  rintro e w' ⟨rfl, rfl⟩
  go_wp2_with fail
  refine hN.mono ?_
  rintro e w' ⟨rfl, rfl⟩
  go_wp2_with fail
  refine hA.mono ?_
  rintro e w1 ⟨rfl, hb1⟩
  clear hR hN hA
  go_wp2_with fail
  go_loopw [6, 34] (fun s6 s wr => ∃ (i : Nat) (v : Value), i ≤ n ∧ s = .int .i64 i ∧ s6 = v ∧ OwnBss wr w.heap.size v ((List.range i).map (pageL l at_)) ∧ Below w.heap.size w wr) (fun _ s _ => n - (intOf s).toNat)
  case atStart => exact ⟨0, _, Nat.zero_le _, rfl, rfl, OwnBss.nil _ _, hb1⟩
  case round =>
    clear hb1
    obtain ⟨i, v6, hi', rfl, rfl, hout, hb⟩ := hrel
    by_cases hlt : i < n
    · have HO := Lib.hid hout
      clear hout
      obtain ⟨f, hf⟩ : ∃ f, min (59 * i) m = f := ⟨_, rfl⟩
      obtain ⟨t, ht⟩ : ∃ t, min (f + 59) m = t := ⟨_, rfl⟩
      have hnums : numsL l i = (l.drop f).take (t - f) := by
        rw [numsL]
        have := E0.out
        by_cases h : 59 * i ≤ m
        · have e : f = 59 * i := by omega
          rw [e]
          by_cases h2 : 59 * i + 59 ≤ m
          · rw [show t - 59 * i = 59 by omega]
          · rw [List.take_of_length_le (by simp; omega), List.take_of_length_le (by simp; omega)]
        · rw [List.drop_of_length_le (by omega), List.drop_of_length_le (by omega)]; simp
      obtain ⟨g, hg⟩ : ∃ g, 59 * i = g := ⟨_, rfl⟩
      have hi59 : (i : Int) * 59 = (g : Int) := by omega
      have hif1 : (if (m : Int) < (g : Int) then (m : Int) else (g : Int)) = (f : Int) := by split <;> omega
      have hif0 : (if m < g then (m : Int) else (g : Int)) = (f : Int) := by split <;> omega
      have hif2 : (if (m : Int) < (f : Int) + 59 then (m : Int) else (f : Int) + 59) = (t : Int) := by split <;> omega
      have hfm : f ≤ m := by omega
      have hft : f ≤ t := by omega
      have htm : t ≤ m := by omega
      have hg1 : g ≤ 59000 := by omega
      clear hf ht hg
      have HNU := Lib.hid hnums
      clear hnums
      obtain ⟨a3, ha3, hsl⟩ := slice_mid elem_ints size_ints a2 m cap2 f t hft (by omega)
      have hsl : ∀ W, (Instr.slice 22 (.slice a2 m cap2) (some (.int .i64 (f : Int))) (some (.int .i64 (t : Int))) none).run Tryd.prog W = .ok (.slice a3 (t - f) (cap2 - f)) W := hsl .i64 .i64
      have hrow : Row .i64 w a3 (t - f) (cap2 - f) (numsL l i) := by
        rw [HNU.out, ha3]
        exact (H2.out.drop f hfm).take (t - f) (by omega)
      have hrow := hrow.below (Nat.le_refl _) hb
      clear ha3
      by_cases hnx : i + 1 < n
      · have d2 : decide ((i : Int) + 1 < n) = true := by simp; omega
        have HNX := Lib.hid (show nextI at_ i = atI at_ (i + 1) by rw [nextI, if_pos (by rw [E1.out]; exact hnx)])
        obtain ⟨b1, o1, hadr, hb1, hcell⟩ := H1.out.cellI hnx
        subst hadr
        have c1 : wr.cell? ⟨b1, o1 + (i + 1), none⟩ = _ := (hb.cell (p := ⟨b1, o1 + (i + 1), none⟩) hb1).trans (hcell (i + 1) hnx)
        clear hcell
        generalize atI at_ (i + 1) = nx at *
        go_wp2_with (at_builtin; refine wpList_append_row rfl _ _ 22 rfl wr.heap.size 3 i0 _ 8 Tryd.underlying22 hi hz0 hz1 hz2 rfl _ 1 [.int .i64 nx] rfl (own_made .i64 wr 3 [nx] rfl (Nat.le_refl _) (by unfold maxLen; simp)) .i64 a3 (t - f) (cap2 - f) (numsL l i) rfl (hrow.below (Nat.le_refl _) ((Below.refl _ _).alloc (Nat.le_refl _) _)) (by unfold maxLen; omega) (by omega) (by simp) ?_)
        intro v2 w2 hown2 hg2
        have hB2 : Below w.heap.size w w2 := below_then hb (((Below.refl wr.heap.size wr).alloc (Nat.le_refl _) (.cells #[.int .i64 nx] 3)).grown hg2 (by simp) (fun k e => by cases e; exact Nat.le_refl _))
        have hW2 : Below wr.heap.size wr w2 := ((Below.refl wr.heap.size wr).alloc (Nat.le_refl _) (.cells #[.int .i64 nx] 3)).grown hg2 (by simp) (fun k e => by cases e; exact Nat.le_refl _)
        have hown2 : w2.ownsRow wr.heap.size 3 1 v2 (1 + (t - f)) ((nextI at_ i :: numsL l i).map (Value.int .i64)) := by
          rw [HNX.out]; exact hown2
        obtain ⟨a5, c5, rfl, hrow2⟩ := Row.of_own hown2
        have HOUT := HO.out.below (Nat.le_refl _) hW2
        have HOUT := Lib.hid HOUT
        have hRl := hrow2.1
        have hr59 := numsL_le l i
        have hRp : ∀ x ∈ nextI at_ i :: numsL l i, 0 ≤ x ∧ x < 65536 := by
          intro x hx
          rcases List.mem_cons.1 hx with rfl | hx
          · exact next_lt P3.out i
          · exact nums_lt P1.out i x hx
        have HCE := Lib.hid (cell_wflat l at_ i)
        have HPG := Lib.hid (show pageL l at_ i = pageOf 4 [cellL l at_ i] from rfl)
        have HFI := Lib.hid (page_fits l at_ i)
        have HRS := Lib.hid (show (List.range (i + 1)).map (pageL l at_) = (List.range i).map (pageL l at_) ++ [pageL l at_ i] by simp [List.range_succ])
        have hr60 : 1 + (t - f) ≤ 60 := by rw [← hRl, List.length_cons]; omega
        clear hown2 hg2 hW2 hrow hsl HO hr59
        generalize nextI at_ i :: numsL l i = R at *
        generalize 1 + (t - f) = r at *
        have HRL := Lib.hid hRl
        have hcc5 := hrow2.lens.2
        have HR2 := Lib.hid hrow2
        clear hRl hrow2
        go_wp2_with fail
        go_loopw [10, 12, 64] (fun s10 s12 s64 wx => ∃ (j : Nat) (v : Value), j ≤ r ∧ s64 = .int .i64 j ∧ s10 = v ∧ wx.ownsRow w2.heap.size 5 1 v (2 * j) ((toI (wflat (R.take j))).map (Value.int .u8)) ∧ Below w2.heap.size w2 wx) (fun _ _ s _ => r - (intOf s).toNat)
        case atStart => exact ⟨0, _, Nat.zero_le _, rfl, rfl, World.ownsRow_nil _ _ _ _, Below.refl _ _⟩
        case round =>
          obtain ⟨j, v10, hj', rfl, rfl, hc, hbx⟩ := hrel
          by_cases hjr : j < r
          · obtain ⟨b5, o5, hadr, hb5, hcell5⟩ := HR2.out.cellI hjr
            subst hadr
            have c5 := (hbx.cell (p := ⟨b5, o5 + j, none⟩) hb5).trans (hcell5 j hjr)
            have hxp := hRp (atI R j) (by unfold atI; rw [List.getElem?_eq_getElem (by rw [HRL.out]; exact hjr)]; exact List.getElem_mem _)
            have hft := flat_take R j (by rw [HRL.out]; exact hjr)
            obtain ⟨y, hy⟩ := Int.eq_ofNat_of_zero_le hxp.1
            rw [hy, wordB_nat] at hft
            rw [hy] at c5 hxp
            have HFT : Hid (wflat (R.take (j + 1)) = wflat (R.take j) ++ beBytes y 2) := Lib.hid hft
            have hw64 : (y : Int) % 18446744073709551616 = (y : Int) := by omega
            clear hcell5 hft hy
            go_wp2_with fail
            refine (num_ok y 2 wr (by omega) (by omega) (by omega)).mono ?_
            rintro e w4 ⟨v4, rfl, hown4, hb4⟩
            rw [beBytes_length] at hown4
            obtain ⟨a6, c6, rfl, hbs6⟩ := Bs.of_own hown4
            have hc4 := own_below hc (Nat.le_refl _) hb4
            have hB4 := below_then hbx hb4
            have hz4 := hB4.size
            clear hc hown4
            go_wp2_with (at_builtin; refine wpList_append_row rfl _ _ 32 rfl w2.heap.size 5 j0 _ 1 Tryd.underlying32 hj hy0 hy1 hy2 rfl _ (2 * j) _ rfl hc4 .u8 a6 2 c6 (toI (beBytes y 2)) rfl hbs6 (by unfold maxLen; omega) (by omega) hz4 ?_)
            intro v7 w7 hown7 hg7
            have HB7 := Lib.hid (hB4.grown hg7 hz4 (fun k e => own_ge hc4 k e))
            have HO7 : Hid (w7.ownsRow w2.heap.size 5 1 v7 (2 * (j + 1)) ((toI (wflat (R.take (j + 1)))).map (Value.int .u8))) := Lib.hid (by
              rw [HFT.out, ← toI_append, List.map_append]; exact hown7)
            clear hown7 hg7 hc4 hbs6 hb4 hbx
            go_wp2_with fail
            go_roundw
            case rel => exact ⟨j + 1, _, hjr, by go_num, rfl, HO7.out, HB7.out⟩
            case measure => simp [intOf]; omega
          · obtain rfl : j = r := by omega
            rw [List.take_of_length_le (by rw [HRL.out]; exact Nat.le_refl _), ← HCE.out] at hc
            have hlc : (cellL l at_ i).length = 2 * j := by rw [HCE.out, wflat_length, HRL.out]
            have HLC := Lib.hid hlc
            clear hlc
            generalize hC : cellL l at_ i = C at *
            have HC := Lib.hid hC
            clear hC
            obtain ⟨a8, c8, rfl, hbs8⟩ := Bs.of_own hc
            have hBx := below_then hB2 hbx
            have hA8 : Below wr.heap.size wr (wr.alloc (.cells #[.slice a8 (2 * j) c8] 32)) := (Below.refl _ _).alloc (Nat.le_refl _) _
            have hB8 := below_then hBx hA8
            have hpk := pack_any 4 (some ⟨wr.heap.size, 0, none⟩) 1 1 [C] (wr.alloc (.cells #[.slice a8 (2 * j) c8] 32)) (bss_single hbs8 _) (hh.below (Nat.le_refl _) hB8) (by rw [lens_one, HLC.out]; omega)
            rw [packV, packE, if_pos HFI.out, if_pos HFI.out] at hpk
            have hpk : Calls Tryd.prog 26 #[.int .u8 4, .slice (some ⟨wr.heap.size, 0, none⟩) 1 1] (wr.alloc (.cells #[.slice a8 (2 * j) c8] 32)) (PackAny (wr.alloc (.cells #[.slice a8 (2 * j) c8] 32)) (pageOf 4 [C]) 0) := hpk
            have HOU := Lib.hid ((HOUT.out.below (Nat.le_refl _) hbx).below (Nat.le_refl _) hA8)
            have HB8 := Lib.hid hB8
            clear hc hbs8 hbx hBx hA8 hB8 HR2 hRp hB2 HOUT
            go_wp2_with fail
            refine hpk.mono ?_
            rintro e w5 ⟨v9, rfl, hown9, hb9⟩
            have hz8 := HB8.out.size
            obtain ⟨a9, c9, rfl, _⟩ := own_slice hown9
            obtain ⟨v10, w10, hr10, ho10, hg10⟩ := append_bss (HOU.out.below (Nat.le_refl _) hb9) (own_base hown9 hz8) (Nat.le_refl _) (by simp; omega) (Nat.le_trans hz8 hb9.size)
            have hge9 := (HOU.out.below (Nat.le_refl _) hb9).ge
            have HB10 := Lib.hid ((below_then HB8.out hb9).grown hg10 (Nat.le_trans hz8 hb9.size) hge9)
            have HO10 : Hid (OwnBss w10 w.heap.size v10 ((List.range (i + 1)).map (pageL l at_))) := Lib.hid (by rw [HRS.out, HPG.out]; exact ho10)
            clear hpk hown9 hb9 ho10 hg10 hge9 HOU HB8
            go_wp2_with (at_builtin; refine wpList_append_run rfl _ _ _ _ rfl rfl rfl hr10 ?_)
            go_roundw
            case rel => exact ⟨i + 1, _, hlt, by go_num, rfl, HO10.out, HB10.out⟩
            case measure => simp [intOf]; omega
      · have d2 : decide ((i : Int) + 1 < n) = false := by simp; omega
        have HNX := Lib.hid (show nextI at_ i = 0 by rw [nextI, if_neg (by rw [E1.out]; exact hnx)])
        obtain ⟨nx, hnxe⟩ : ∃ nx : Int, nx = 0 := ⟨0, rfl⟩
        have HNX0 : Hid (nextI at_ i = nx) := Lib.hid (HNX.out.trans hnxe.symm)
        clear HNX
        have HNX := HNX0
        have HNE := Lib.hid hnxe
        clear HNX0 hnxe
        go_wp2_with (at_builtin; refine wpList_append_row rfl _ _ 22 rfl wr.heap.size 3 i0 _ 8 Tryd.underlying22 hi hz0 hz1 hz2 rfl _ 1 [.int .i64 0] rfl (own_made .i64 wr 3 [0] rfl (Nat.le_refl _) (by unfold maxLen; simp)) .i64 a3 (t - f) (cap2 - f) (numsL l i) rfl (hrow.below (Nat.le_refl _) ((Below.refl _ _).alloc (Nat.le_refl _) _)) (by unfold maxLen; omega) (by omega) (by simp) ?_)
        intro v2 w2 hown2 hg2
        have hB2 : Below w.heap.size w w2 := below_then hb (((Below.refl wr.heap.size wr).alloc (Nat.le_refl _) (.cells #[.int .i64 0] 3)).grown hg2 (by simp) (fun k e => by cases e; exact Nat.le_refl _))
        have hW2 : Below wr.heap.size wr w2 := ((Below.refl wr.heap.size wr).alloc (Nat.le_refl _) (.cells #[.int .i64 0] 3)).grown hg2 (by simp) (fun k e => by cases e; exact Nat.le_refl _)
        have hown2 : w2.ownsRow wr.heap.size 3 1 v2 (1 + (t - f)) ((nextI at_ i :: numsL l i).map (Value.int .i64)) := by
          rw [HNX.out, HNE.out]; exact hown2
        obtain ⟨a5, c5, rfl, hrow2⟩ := Row.of_own hown2
        have HOUT := HO.out.below (Nat.le_refl _) hW2
        have HOUT := Lib.hid HOUT
        have hRl := hrow2.1
        have hr59 := numsL_le l i
        have hRp : ∀ x ∈ nextI at_ i :: numsL l i, 0 ≤ x ∧ x < 65536 := by
          intro x hx
          rcases List.mem_cons.1 hx with rfl | hx
          · exact next_lt P3.out i
          · exact nums_lt P1.out i x hx
        have HCE := Lib.hid (cell_wflat l at_ i)
        have HPG := Lib.hid (show pageL l at_ i = pageOf 4 [cellL l at_ i] from rfl)
        have HFI := Lib.hid (page_fits l at_ i)
        have HRS := Lib.hid (show (List.range (i + 1)).map (pageL l at_) = (List.range i).map (pageL l at_) ++ [pageL l at_ i] by simp [List.range_succ])
        have hr60 : 1 + (t - f) ≤ 60 := by rw [← hRl, List.length_cons]; omega
        clear hown2 hg2 hW2 hrow hsl HO hr59
        generalize nextI at_ i :: numsL l i = R at *
        generalize 1 + (t - f) = r at *
        have HRL := Lib.hid hRl
        have hcc5 := hrow2.lens.2
        have HR2 := Lib.hid hrow2
        clear hRl hrow2
        go_wp2_with fail
        go_loopw [10, 12, 64] (fun s10 s12 s64 wx => ∃ (j : Nat) (v : Value), j ≤ r ∧ s64 = .int .i64 j ∧ s10 = v ∧ wx.ownsRow w2.heap.size 5 1 v (2 * j) ((toI (wflat (R.take j))).map (Value.int .u8)) ∧ Below w2.heap.size w2 wx) (fun _ _ s _ => r - (intOf s).toNat)
        case atStart => exact ⟨0, _, Nat.zero_le _, rfl, rfl, World.ownsRow_nil _ _ _ _, Below.refl _ _⟩
        case round =>
          obtain ⟨j, v10, hj', rfl, rfl, hc, hbx⟩ := hrel
          by_cases hjr : j < r
          · obtain ⟨b5, o5, hadr, hb5, hcell5⟩ := HR2.out.cellI hjr
            subst hadr
            have c5 := (hbx.cell (p := ⟨b5, o5 + j, none⟩) hb5).trans (hcell5 j hjr)
            have hxp := hRp (atI R j) (by unfold atI; rw [List.getElem?_eq_getElem (by rw [HRL.out]; exact hjr)]; exact List.getElem_mem _)
            have hft := flat_take R j (by rw [HRL.out]; exact hjr)
            obtain ⟨y, hy⟩ := Int.eq_ofNat_of_zero_le hxp.1
            rw [hy, wordB_nat] at hft
            rw [hy] at c5 hxp
            have HFT : Hid (wflat (R.take (j + 1)) = wflat (R.take j) ++ beBytes y 2) := Lib.hid hft
            have hw64 : (y : Int) % 18446744073709551616 = (y : Int) := by omega
            clear hcell5 hft hy
            go_wp2_with fail
            refine (num_ok y 2 wr (by omega) (by omega) (by omega)).mono ?_
            rintro e w4 ⟨v4, rfl, hown4, hb4⟩
            rw [beBytes_length] at hown4
            obtain ⟨a6, c6, rfl, hbs6⟩ := Bs.of_own hown4
            have hc4 := own_below hc (Nat.le_refl _) hb4
            have hB4 := below_then hbx hb4
            have hz4 := hB4.size
            clear hc hown4
            go_wp2_with (at_builtin; refine wpList_append_row rfl _ _ 32 rfl w2.heap.size 5 j0 _ 1 Tryd.underlying32 hj hy0 hy1 hy2 rfl _ (2 * j) _ rfl hc4 .u8 a6 2 c6 (toI (beBytes y 2)) rfl hbs6 (by unfold maxLen; omega) (by omega) hz4 ?_)
            intro v7 w7 hown7 hg7
            have HB7 := Lib.hid (hB4.grown hg7 hz4 (fun k e => own_ge hc4 k e))
            have HO7 : Hid (w7.ownsRow w2.heap.size 5 1 v7 (2 * (j + 1)) ((toI (wflat (R.take (j + 1)))).map (Value.int .u8))) := Lib.hid (by
              rw [HFT.out, ← toI_append, List.map_append]; exact hown7)
            clear hown7 hg7 hc4 hbs6 hb4 hbx
            go_wp2_with fail
            go_roundw
            case rel => exact ⟨j + 1, _, hjr, by go_num, rfl, HO7.out, HB7.out⟩
            case measure => simp [intOf]; omega
          · obtain rfl : j = r := by omega
            rw [List.take_of_length_le (by rw [HRL.out]; exact Nat.le_refl _), ← HCE.out] at hc
            have hlc : (cellL l at_ i).length = 2 * j := by rw [HCE.out, wflat_length, HRL.out]
            have HLC := Lib.hid hlc
            clear hlc
            generalize hC : cellL l at_ i = C at *
            have HC := Lib.hid hC
            clear hC
            obtain ⟨a8, c8, rfl, hbs8⟩ := Bs.of_own hc
            have hBx := below_then hB2 hbx
            have hA8 : Below wr.heap.size wr (wr.alloc (.cells #[.slice a8 (2 * j) c8] 32)) := (Below.refl _ _).alloc (Nat.le_refl _) _
            have hB8 := below_then hBx hA8
            have hpk := pack_any 4 (some ⟨wr.heap.size, 0, none⟩) 1 1 [C] (wr.alloc (.cells #[.slice a8 (2 * j) c8] 32)) (bss_single hbs8 _) (hh.below (Nat.le_refl _) hB8) (by rw [lens_one, HLC.out]; omega)
            rw [packV, packE, if_pos HFI.out, if_pos HFI.out] at hpk
            have hpk : Calls Tryd.prog 26 #[.int .u8 4, .slice (some ⟨wr.heap.size, 0, none⟩) 1 1] (wr.alloc (.cells #[.slice a8 (2 * j) c8] 32)) (PackAny (wr.alloc (.cells #[.slice a8 (2 * j) c8] 32)) (pageOf 4 [C]) 0) := hpk
            have HOU := Lib.hid ((HOUT.out.below (Nat.le_refl _) hbx).below (Nat.le_refl _) hA8)
            have HB8 := Lib.hid hB8
            clear hc hbs8 hbx hBx hA8 hB8 HR2 hRp hB2 HOUT
            go_wp2_with fail
            refine hpk.mono ?_
            rintro e w5 ⟨v9, rfl, hown9, hb9⟩
            have hz8 := HB8.out.size
            obtain ⟨a9, c9, rfl, _⟩ := own_slice hown9
            obtain ⟨v10, w10, hr10, ho10, hg10⟩ := append_bss (HOU.out.below (Nat.le_refl _) hb9) (own_base hown9 hz8) (Nat.le_refl _) (by simp; omega) (Nat.le_trans hz8 hb9.size)
            have hge9 := (HOU.out.below (Nat.le_refl _) hb9).ge
            have HB10 := Lib.hid ((below_then HB8.out hb9).grown hg10 (Nat.le_trans hz8 hb9.size) hge9)
            have HO10 : Hid (OwnBss w10 w.heap.size v10 ((List.range (i + 1)).map (pageL l at_))) := Lib.hid (by rw [HRS.out, HPG.out]; exact ho10)
            clear hpk hown9 hb9 ho10 hg10 hge9 HOU HB8
            go_wp2_with (at_builtin; refine wpList_append_run rfl _ _ _ _ rfl rfl rfl hr10 ?_)
            go_roundw
            case rel => exact ⟨i + 1, _, hlt, by go_num, rfl, HO10.out, HB10.out⟩
            case measure => simp [intOf]; omega
    · obtain rfl : i = n := by omega
      have HE : Hid (PutPost w l at_ (.returned (.tuple #[u6, .int .i64 0])) wr) := Lib.hid ⟨_, by rw [putE, OK.out]; rfl, by rw [putL, OK.out, if_pos rfl, E1.out]; exact hout, hb⟩
      clear hout
      go_wp2_with fail
      go_ret2
      exact HE.out

theorem lput_any {w : World} {a a2 : Option Addr} {n cap m cap2 : Nat} {at_ l : List Int} (h1 : Row .i64 w a n cap at_) (h2 : Row .i64 w a2 m cap2 l) (i1 : I64s at_) (i2 : I64s l) (hn : n ≤ 1000) (hm : m ≤ 1000) (hh : Half w) :
    Calls Tryd.prog 9 #[.slice a2 m cap2, .slice a n cap] w (PutPost w l at_) := by
  cases h : putOk l at_
  · exact lput_bad h1 h2 i1 i2 hn hm h
  · exact lput_ok h1 h2 i1 i2 hn hm hh h
end Go.Proofs.YtopnfpobbemfbaaDoor

/- What the document's answers use of chapter 03: rows of numbers that are the same; a bit. -/
namespace Go.Proofs.YtopnfpobbemfbaaDoor
open Go.RowKit

theorem drewN_add (w : World) (a b : Nat) : (w.drewN a).drewN b = w.drewN (a + b) := by
  cases w; simp [World.drewN, Nat.add_assoc]
set_option maxRecDepth 100000 in
set_option maxHeartbeats 1000000 in
theorem ints_any {w : World} {a b : Option Addr} {n ca m cb : Nat} {l k : List Int} (ha : Row .i64 w a n ca l) (hb : Row .i64 w b m cb k) :
    Calls Tryd.prog 22 #[.slice a n ca, .slice b m cb] w fun e w' => e = .returned (.bool (decide (l = k))) ∧ ∃ j, w' = w.drewN j := by
  have hn := ha.1
  have hm := hb.1
  have hna : n ≤ 9223372036854775807 := by have := ha.2.1; have := ha.2.2.1; unfold maxLen at this; omega
  have hmb : m ≤ 9223372036854775807 := by have := hb.2.1; have := hb.2.2.1; unfold maxLen at this; omega
  by_cases hnm : n = m
  · subst hnm
    have e0 : ((n : Int) == (n : Int)) = true := by simp
    have HA := Lib.hid ha.2.2.2.2
    have HB := Lib.hid hb.2.2.2.2
    have HN := Lib.hid hn
    have HM := Lib.hid hm
    clear hn hm ha hb
    go_enter Tryd.func22, Tryd.ntmps22
    go_wp2
    go_loopw [5] (fun s wr => ∃ i : Nat, i ≤ n ∧ s = .int .i64 i ∧ l.take i = k.take i ∧ ∃ j, wr = w.drewN j) (fun s _ => n - (intOf s).toNat)
    case atStart => exact ⟨0, Nat.zero_le _, rfl, by simp, 0, rfl⟩
    case round =>
      obtain ⟨i, hi, rfl, htk, j, rfl⟩ := hrel
      by_cases hlt : i < n
      · obtain ⟨b1, o1, rfl, _, c1⟩ := HA.out.resolve_left (by omega)
        obtain ⟨b2, o2, rfl, _, c2⟩ := HB.out.resolve_left (by omega)
        have d1 := c1 i hlt
        have d2 := c2 i hlt
        have hl := HN.out
        have hk := HM.out
        have hts : l.take (i + 1) = l.take i ++ [l[i]?.getD 0] := by rw [List.take_succ_eq_append_getElem (by omega), List.getElem?_eq_getElem (by omega)]; rfl
        have htk2 : k.take (i + 1) = k.take i ++ [k[i]?.getD 0] := by rw [List.take_succ_eq_append_getElem (by omega), List.getElem?_eq_getElem (by omega)]; rfl
        by_cases he : l[i]?.getD 0 = k[i]?.getD 0
        · have HT : Hid (l.take (i + 1) = k.take (i + 1)) := Lib.hid (by rw [hts, htk2, htk, he])
          clear hts htk2 htk c1 c2 hl hk
          generalize l[i]?.getD 0 = x at *
          generalize k[i]?.getD 0 = y at *
          subst he
          have q1 : (x == x) = true := by simp
          go_wp2
          go_quiet (fail)
          go_wp2
          go_roundw
          case rel => exact ⟨i + 1, hlt, by go_num, HT.out, _, rfl⟩
          case measure => simp [intOf]; omega
        · have HF : Hid (decide (l = k) = false) := Lib.hid (by
            apply decide_eq_false
            intro e
            exact he (by rw [e]))
          clear hts htk2 htk c1 c2 hl hk
          generalize l[i]?.getD 0 = x at *
          generalize k[i]?.getD 0 = y at *
          have q1 : (x == y) = false := by simpa using he
          clear he
          go_wp2
          go_quiet (fail)
          go_wp2
          go_ret
          exact ⟨ret_bool HF.out.symm, _, drewN_add _ _ _⟩
      · obtain rfl : i = n := by omega
        have HF : Hid (decide (l = k) = true) := Lib.hid (by
          apply decide_eq_true
          rwa [List.take_of_length_le (by rw [HN.out]; exact Nat.le_refl _), List.take_of_length_le (by rw [HM.out]; exact Nat.le_refl _)] at htk)
        clear htk
        go_wp2
        go_ret
        exact ⟨ret_bool HF.out.symm, _, rfl⟩
  · have e0 : ((n : Int) == (m : Int)) = false := by simp; omega
    have e1 : (n == m) = false := by simpa using hnm
    have HF : Hid (decide (l = k) = false) := Lib.hid (by
      apply decide_eq_false
      intro e; subst e; omega)
    clear hn hm ha hb hnm
    go_enter Tryd.func22, Tryd.ntmps22
    go_wp2
    go_ret
    exact ⟨ret_bool HF.out.symm, 0, rfl⟩
end Go.Proofs.YtopnfpobbemfbaaDoor

/- A region that is written page by page; awake. -/
namespace Go.Proofs.YtopnfpobbemfbaaDoor
open Go.RowKit

/-- A region of so many pages that never stops: what stands on each. -/
def RegAt (d : List Rg) (r n : Nat) (f : Nat → List UInt8) : Prop := ∃ x, d[r]? = some x ∧ x.size = n ∧ x.left = -1 ∧ x.down = false ∧ ∀ p, (seen x p).1 = f p
def upd (f : Nat → List UInt8) (p : Nat) (b : List UInt8) : Nat → List UInt8 := fun q => if q = p then b else f q
def zeros : Nat → List UInt8 := fun _ => List.replicate 128 0
theorem RegAt.new {l : List Int} {r : Nat} {n : Int} (h : l[r]? = some n) : RegAt (newD l) r n.toNat zeros :=
  ⟨Rg.new n.toNat, by simp [newD, h], rfl, rfl, rfl, fun p => rfl⟩
theorem RegAt.paged {d : List Rg} {r n : Nat} {f : Nat → List UInt8} (h : RegAt d r n f) (p : Int) : pagedE d r p = if 0 ≤ p ∧ p < n then 0 else 2 := by
  obtain ⟨x, hx, hs, hl, hd, hf⟩ := h
  have hr : r < d.length := (List.getElem?_eq_some_iff.1 hx).1
  have hu : upE d (r : Int) = 0 := by
    unfold upE
    rw [if_pos (by omega), Int.toNat_natCast, hx]
    simp [hd]
  unfold pagedE
  rw [if_pos hu, atR_of hx, hs]
theorem RegAt.read {d : List Rg} {r n : Nat} {f : Nat → List UInt8} (h : RegAt d r n f) {p : Int} (hp : 0 ≤ p ∧ p < n) : readB d r p = f p.toNat := by
  have he := h.paged p
  rw [if_pos hp] at he
  obtain ⟨x, hx, hs, hl, hd, hf⟩ := h
  unfold readB
  rw [if_pos he, atR_of hx, hf]
theorem RegAt.write {d : List Rg} {r n : Nat} {f : Nat → List UInt8} (h : RegAt d r n f) {p : Int} (hp : 0 ≤ p ∧ p < n) {b : List UInt8} (hb : b.length = 128) :
    writeE d r p b = 0 ∧ RegAt (writeD d r p b) r n (upd f p.toNat b) ∧ ∀ r' n' f', r' ≠ r → RegAt d r' n' f' → RegAt (writeD d r p b) r' n' f' := by
  have he := h.paged p
  rw [if_pos hp] at he
  obtain ⟨x, hx, hs, hl, hd, hf⟩ := h
  have hr : r < d.length := (List.getElem?_eq_some_iff.1 hx).1
  have hc : cntE x = 0 := by rw [cntE, if_neg (by omega)]
  have hw : wroteR x p.toNat (toP b) = { x with loose := x.loose ++ [(p.toNat, toP b)] } := by
    rw [wroteR, if_pos hc, cntR, if_neg (by omega), if_neg (by omega)]
  have hD : writeD d r p b = d.set r (wroteR x p.toNat (toP b)) := by
    rw [writeD, if_pos ⟨he, hb⟩, atR_of hx, Int.toNat_natCast]
  refine ⟨by rw [writeE, if_pos he, if_pos hb, atR_of hx, hc], ?_, ?_⟩
  · rw [hD, hw]
    refine ⟨_, List.getElem?_set_self hr, hs, hl, hd, fun q => ?_⟩
    show (lastW q (x.pages q) (x.loose ++ [(p.toNat, toP b)])).1 = _
    rw [lastW_snoc]
    unfold upd
    by_cases hq : q = p.toNat
    · subst hq; rw [if_pos rfl, if_pos rfl, toP_val hb]
    · rw [if_neg (fun e => hq e.symm), if_neg hq]; exact hf q
  · rintro r' n' f' hne ⟨y, hy, h2⟩
    exact ⟨y, by rw [hD, List.getElem?_set_ne (fun e => hne e.symm)]; exact hy, h2⟩
theorem RegAt.one {d : List Rg} {r n : Nat} {f : Nat → List UInt8} (h : RegAt d r n f) {p : Int} (hp : 0 ≤ p ∧ p < n) : rdD d r p = (oneE (f p.toNat), oneL (f p.toNat)) := by
  have he := h.paged p
  rw [if_pos hp] at he
  have hE : oneFE d r p = oneE (f p.toNat) := by unfold oneFE; rw [if_neg (by rw [he]; simp), h.read hp]
  unfold rdD
  rw [hE]
  congr 1
  unfold oneFL
  rw [hE, h.read hp]
  split
  · rfl
  · rename_i h0; rw [oneL, if_neg h0]
/-- A list whose pages stand where they are to stand is got. -/
theorem got_back {l at_ : List Int} (h : putOk l at_ = true) {d : List Rg} {r n : Nat} {f : Nat → List UInt8} (hd : RegAt d r n f) (hn : ∀ i, i < at_.length → atI at_ i < n) (hf : ∀ i, i < at_.length → f (atI at_ i).toNat = pageL l at_ i) (h0 : at_ ≠ []) :
    getD d r (atI at_ 0) = (l, at_, 0) := by
  obtain ⟨_, _, h3⟩ := put_parts h
  have hlen : at_.length ≤ 998 := pages_le (apt_nodup h3) (apt_pg h3)
  have h0' : 0 < at_.length := List.length_pos_iff.2 h0
  have := get_back h (rdD d r) at_.length 0 rfl h0' (fun j _ hj => by
    have hp := (apt_at h3 hj).1
    simp [pgB] at hp
    rw [hd.one ⟨by omega, hn j hj⟩, hf j hj, (put_one h j).1, (put_one h j).2]) 1000 (by omega)
  simpa [getD] using this
theorem got_lost {l at_ : List Int} (h : putOk l at_ = true) {d : List Rg} {r n : Nat} {f : Nat → List UInt8} (hd : RegAt d r n f) (hn : ∀ i, i < at_.length → atI at_ i < n) (w : Nat) (hw : w < at_.length) (E : Int) (hE : E ≠ 0) (hz : oneE (f (atI at_ w).toNat) = E) (hf : ∀ i, i < w → f (atI at_ i).toNat = pageL l at_ i) :
    getD d r (atI at_ 0) = ([], [], E) := by
  obtain ⟨_, _, h3⟩ := put_parts h
  have hlen : at_.length ≤ 998 := pages_le (apt_nodup h3) (apt_pg h3)
  have hpw := (apt_at h3 hw).1
  simp [pgB] at hpw
  have := get_lost h (rdD d r) w E hE hw (by rw [hd.one ⟨by omega, hn w hw⟩]; exact hz) at_.length 0 rfl (Nat.zero_le _) (fun j hj => by
    have hp := (apt_at h3 (show j < at_.length by omega)).1
    simp [pgB] at hp
    rw [hd.one ⟨by omega, hn j (by omega)⟩, hf j hj, (put_one h j).1, (put_one h j).2]) 1000 (by omega)
  simpa [getD] using this
theorem pageL_len (l at_ : List Int) (i : Nat) : (pageL l at_ i).length = 128 := by
  have := page_fits l at_ i
  simp only [fits, Bool.and_eq_true, decide_eq_true_eq] at this
  exact pageOf_length 4 [cellL l at_ i] this.2

/-- One of the rows of bytes. -/
theorem OwnBss.get {w : World} {base : Nat} {v : Value} {l : List (List UInt8)} (h : OwnBss w base v l) {i : Nat} {c : List UInt8} (hc : l[i]? = some c) :
    ∃ g k a cap, v = .slice (some ⟨g, 0, none⟩) l.length k ∧ l.length ≤ k ∧ k ≤ 9223372036854775807 ∧ g < w.heap.size ∧ base ≤ g ∧ w.cell? ⟨g, i, none⟩ = some (.slice a c.length cap) ∧ Bs w a c.length cap c ∧ ∀ g' off, a = some ⟨g', off, none⟩ → base ≤ g' ∧ g' < w.heap.size := by
  obtain ⟨vs, h1, h2, h3⟩ := h
  obtain ⟨u, e1, e2⟩ := h3 i c hc
  obtain ⟨a, cap, rfl, hbs⟩ := Bs.of_own e2
  have hi := (List.getElem?_eq_some_iff.1 hc).1
  have hge := own_ge e2
  have hlt := own_lt e2
  obtain ⟨a0, k, rfl, hlen, hk, hk2, hcell⟩ := own_cells1 h1
  obtain ⟨g, rfl, hg, hcl⟩ := hcell i _ e1
  have hg0 := own_ge h1 g rfl
  unfold maxLen at hk2
  refine ⟨g, k, a, cap, rfl, hk, by omega, hg, hg0, hcl, hbs, fun g' off ea => ?_⟩
  subst ea
  rcases e2.2 with ⟨e, _⟩ | ⟨g2, cap2, cur, e, hb2, hh, _⟩
  · cases e
  · cases e
    exact ⟨hb2, (Array.getElem?_eq_some_iff.1 hh).1⟩
end Go.Proofs.YtopnfpobbemfbaaDoor

/- What came in, opened: slices of integers. -/
namespace Go.Proofs.YtopnfpobbemfbaaDoor
open Go.RowKit Go.Deep Go.WideShapes Go.ChangeShapes

/-- Integers that came in. -/
def Ints (w : World) (a : Option Addr) (len cap : Nat) (l : List Int) : Prop := Row .i64 w a len cap l ∧ ∀ n ∈ l, (Lit.int .i64 n).wf = true
theorem open_intsR {H : Type} {enc : TypeId × Value → H} {P : Program} {w : World} {base : Nat} {t e : TypeId} (ht : P.underlying t = some (.slice e)) (he : P.underlying e = some (.int .i64)) (hc : P.cellsOf e = 1)
    {v : Value} {d : DataW H} {p : List MemPlace} (hv : Value.okWide P w .any base t v) (h : DataW.Trod enc P w 0 (fun _ => true) true t v d p) :
    ∃ a len cap l, v = .slice a len cap ∧ Ints w a len cap l := by
  obtain ⟨a, len, cap, rfl⟩ := okWide_slice ht hv
  obtain ⟨fuel, hf⟩ := h
  rcases open_ints ht he hc hf with ⟨hcs, _⟩ | ⟨x, l, c, zs, hcs, _, hl, hm, hz, _, hcell, hwz⟩
  · simp [Value.cells] at hcs
    obtain ⟨rfl, rfl, rfl⟩ := hcs
    exact ⟨none, 0, 0, _, rfl, Row.of_frame (.inl ⟨rfl, rfl, rfl, rfl⟩)⟩
  · simp [Value.cells] at hcs
    obtain ⟨rfl, rfl, rfl⟩ := hcs
    exact ⟨_, _, _, _, rfl, Row.of_frame (.inr ⟨_, rfl, hl, hm, by simpa using hz, hcell, hwz⟩)⟩
end Go.Proofs.YtopnfpobbemfbaaDoor

/- The walk of awake (lists). -/
namespace Go.Proofs.YtopnfpobbemfbaaDoor
open Go.RowKit

theorem aw_row (W : World) : Row .i64 (W.alloc (.cells #[.int .i64 2, .int .i64 7] 3)) (some ⟨W.heap.size, 0, none⟩) 2 2 [2, 7] := Row.made .i64 W 3 [2, 7] rfl (by unfold maxLen; simp)
theorem aw_one (W : World) (n : Int) : Row .i64 (W.alloc (.cells #[.int .i64 n] 3)) (some ⟨W.heap.size, 0, none⟩) 1 1 [n] := Row.made .i64 W 3 [n] rfl (by unfold maxLen; simp)
theorem aw_put : putOk [2, 7] [4] = true := by decide
theorem i64s_of {l : List Int} (h : ∀ n ∈ l, I64 n) : I64s l := h
theorem i64s_wf {l : List Int} (h : ∀ n ∈ l, (Lit.int .i64 n).wf = true) : I64s l := fun n hn => by
  have := h n hn
  simp [Lit.wf, IntKind.min, IntKind.max, IntKind.signed, IntKind.bits] at this
  unfold I64; omega
theorem row_ints {w : World} {base : Nat} {v : Value} {l : List Int} (h : OwnInts w base v l) : ∃ a cap, v = .slice a l.length cap ∧ Row .i64 w a l.length cap l := Row.of_own h
theorem Row.step {k : IntKind} {w w' : World} {a : Option Addr} {len cap : Nat} {l : List Int} (h : Row k w a len cap l) (hb : Below w.heap.size w w') : Row k w' a len cap l := h.below (Nat.le_refl _) hb

set_option maxRecDepth 100000 in
set_option maxHeartbeats 8000000 in
theorem awake_any (w : World) (hh : Half w) : Calls Tryd.prog 8 #[] w fun e w' => e = .returned (.bool true) ∧ Below w.heap.size w w' := by
  have hb0 : Below w.heap.size w (w.alloc (.cells #[.int .i64 9] 3)) := (Below.refl _ _).alloc (Nat.le_refl _) _
  have N := new_ok (aw_one w 9) (by decide)
  go_enter Tryd.func8, Tryd.ntmps8
  go_wp2_with fail
  refine N.mono ?_
  rintro e w1 ⟨db, rfl, hd1, hb1⟩
  have hw1 := below_then hb0 hb1
  clear N hb0 hb1
  have hb2 : Below w1.heap.size w1 ((w1.alloc (.cells #[.int .i64 2, .int .i64 7] 3)).alloc (.cells #[.int .i64 4] 3)) := ((Below.refl _ _).alloc (Nat.le_refl _) _).alloc (by simp) _
  have P := lput_any (w := (w1.alloc (.cells #[.int .i64 2, .int .i64 7] 3)).alloc (.cells #[.int .i64 4] 3)) (aw_one _ 4) ((aw_row w1).below (Nat.le_refl _) ((Below.refl _ _).alloc (Nat.le_refl _) _)) (by intro n hn; simp at hn; subst hn; unfold I64; omega) (by intro n hn; simp at hn; rcases hn with rfl | rfl <;> (unfold I64; omega)) (by omega) (by omega) (hh.below (Nat.le_refl _) (below_then hw1 hb2))
  rw [World.size_alloc] at P
  go_wp2_with fail
  refine P.mono ?_
  rintro e w3 ⟨v3, rfl, ho3, hb3⟩
  rw [putE, aw_put, if_pos rfl]
  rw [putL, aw_put, if_pos rfl] at ho3
  obtain ⟨g3, k3, a3, c3, rfl, hk3, hk3', hg3, hge3, hcell3, hbs3, hge3'⟩ := ho3.get (i := 0) rfl
  have hl : (List.map (pageL [2, 7] [4]) (List.range [(4 : Int)].length)).length = 1 := rfl
  rw [hl] at hk3 ⊢
  have hb23 := below_then hb2 hb3
  have hw3 := below_then hw1 hb23
  have hop := hd1.opens.below hb23
  have hpl := pageL_len [2, 7] [4] 0
  have C := write_o hop hbs3 (fun g off e => .inr (by have := (hge3' g off e).1; simp at this; omega)) (by decide) 0 4
  have hnew : RegAt (newD [9]) 0 9 zeros := RegAt.new (l := [9]) (r := 0) rfl
  obtain ⟨hwe, hreg, _⟩ := hnew.write (p := 4) (by omega) hpl
  have hwe : writeE (newD [9]) 0 4 (pageL [2, 7] [4] 0) = 0 := hwe
  rw [hwe] at C
  have HREG := Lib.hid hreg
  have HPL := Lib.hid hpl
  clear P ho3 hb2 hb3 hb23 hop hwe hnew hreg hl
  go_wp2_with fail
  refine C.mono ?_
  rintro e w4 ⟨rfl, hd4, hb4⟩
  have hB1 : w.heap.size ≤ (w.alloc (.cells #[.int .i64 9] 3)).heap.size := by simp
  have hw4 := hw1.trans (hb4.mono hB1)
  have G := lget_any hd4 (hh.below (Nat.le_refl _) hw4) 0 4
  have hgd : getD (writeD (newD [9]) 0 4 (pageL [2, 7] [4] 0)) 0 4 = ([2, 7], [4], 0) := got_back aw_put HREG.out (by intro i hi; simp at hi; subst hi; decide) (by intro i hi; simp at hi; subst hi; rfl) (by simp)
  rw [hgd] at G
  have HR := Lib.hid (hh.below (Nat.le_refl _) hw4)
  clear C hgd hb4 hbs3 hcell3 hge3'
  go_wp2_with fail
  refine G.mono ?_
  rintro e w5 ⟨v5, v6, rfl, ho5, ho6, hb5⟩
  obtain ⟨a5, c5, rfl, row5⟩ := row_ints ho5
  obtain ⟨a6, c6, rfl, row6⟩ := row_ints ho6
  have hw5 := below_then hw4 hb5
  have O1 := own_any 60 0 w5 (by omega) (by omega) (by omega) (by omega)
  have O2 := own_any 0 0 w5 (by omega) (by omega) (by omega) (by omega)
  have O3 := own_any 0 60 w5 (by omega) (by omega) (by omega) (by omega)
  have N1 := lneed_any 59 w5 (by omega)
  have N2 := lneed_any 60 w5 (by omega)
  have I1 := ints_any (row5.step ((Below.refl _ _).alloc (Nat.le_refl _) (.cells #[.int .i64 2, .int .i64 7] 3))) (aw_row w5)
  clear G ho5 ho6 hb5 hw4 hd4
  go_wp2_with fail
  refine O1.mono ?_
  rintro e w6 ⟨rfl, rfl⟩
  go_wp2_with fail
  refine O2.mono ?_
  rintro e w6 ⟨rfl, rfl⟩
  go_wp2_with fail
  refine O3.mono ?_
  rintro e w6 ⟨rfl, rfl⟩
  go_wp2_with fail
  refine N1.mono ?_
  rintro e w6 ⟨rfl, rfl⟩
  go_wp2_with fail
  refine N2.mono ?_
  rintro e w6 ⟨rfl, rfl⟩
  go_wp2_with fail
  refine I1.mono ?_
  rintro e w6 ⟨rfl, j, rfl⟩
  have hz : Below w5.heap.size w5 (((w5.alloc (.cells #[.int .i64 2, .int .i64 7] 3)).drewN j).alloc (.cells #[.int .i64 4] 3)) := (below_drewN ((Below.refl _ _).alloc (Nat.le_refl _) _) j).alloc (by simp [World.drewN]) _
  have I2 := ints_any (row6.step hz) (aw_one ((w5.alloc (.cells #[.int .i64 2, .int .i64 7] 3)).drewN j) 4)
  have hsz : ((w5.alloc (.cells #[.int .i64 2, .int .i64 7] 3)).drewN j).heap.size = w5.heap.size + 1 := by simp [World.drewN]
  rw [hsz] at I2
  have HW := Lib.hid (below_then hw5 hz)
  clear hsz hz I1
  go_wp2_with fail
  refine I2.mono ?_
  rintro e w6 ⟨rfl, j2, rfl⟩
  have HW2 := Lib.hid (below_drewN HW.out j2)
  go_wp2_with fail
  go_ret
  exact ⟨rfl, HW2.out⟩
end Go.Proofs.YtopnfpobbemfbaaDoor

/- The walks of the chapter on free pages: the document's answer. -/
namespace Go.Proofs.YtopnfpobbemfbaaDoor
open Go.RowKit

set_option maxRecDepth 100000 in
set_option maxHeartbeats 1000000 in
theorem rneed_any (n : Int) (w : World) (h : n ≤ 5000000) :
    Calls Tryd.prog 12 #[.int .i64 n] w fun e w' => e = .returned (.int .i64 (needF n : Int)) ∧ w = w' := by
  have hq : ∀ k : Nat, ((k : Int) * 59 < n ↔ k < needF n) := by
    intro k
    unfold needF
    split <;> omega
  have hle : needF n ≤ 90000 := by unfold needF; split <;> omega
  have HQ := Lib.hid hq
  generalize hm : needF n = m at *
  have HM := Lib.hid hm
  clear hq hm
  go_enter Tryd.func12, Tryd.ntmps12
  go_wp2
  go_loop [3] (fun s => ∃ k : Nat, s = .int .i64 k ∧ k ≤ m) (fun s => m - (intOf s).toNat)
  case atStart => exact ⟨0, rfl, Nat.zero_le _⟩
  case round =>
    obtain ⟨k, rfl, hk⟩ := hrel
    have d0 : decide ((k : Int) < 100000) = true := by simp; omega
    have d0' : decide (k < 100000) = true := by simp; omega
    have hq := HQ.out k
    by_cases hlt : k < m
    · have d1 : decide ((k : Int) * 59 < n) = true := by simpa using hq.2 hlt
      clear hq
      go_wp2_with fail
      go_round
      case rel => exact ⟨k + 1, by go_num, hlt⟩
      case measure => simp [intOf]; omega
    · have d1 : decide ((k : Int) * 59 < n) = false := by simpa using fun h => hlt (hq.1 h)
      obtain rfl : k = m := by omega
      clear hq
      go_wp2_with fail
      go_ret
      exact ⟨rfl, rfl⟩

set_option maxRecDepth 100000 in
set_option maxHeartbeats 1000000 in
theorem rhas_any {w : World} {a : Option Addr} {len cap : Nat} {l : List Int} (h : Row .i64 w a len cap l) (x : Int) :
    Calls Tryd.prog 28 #[.slice a len cap, .int .i64 x] w fun e w' => e = .returned (.bool (decide (x ∈ l))) ∧ w = w' := by
  obtain ⟨hl, hc, hm⟩ := h.lens
  have HL := Lib.hid hl
  have HR := Lib.hid h
  clear hl h
  go_enter Tryd.func28, Tryd.ntmps28
  go_wp2
  go_loop [5] (fun s => ∃ i : Nat, i ≤ len ∧ s = .int .i64 i ∧ ∀ j, j < i → atI l j ≠ x) (fun s => len - (intOf s).toNat)
  case atStart => exact ⟨0, Nat.zero_le _, rfl, fun j hj => by omega⟩
  case round =>
    obtain ⟨i, hi, rfl, hall⟩ := hrel
    by_cases hlt : i < len
    · obtain ⟨b, off, rfl, hb, hcell⟩ := HR.out.cellI hlt
      have c1 := hcell i hlt
      by_cases hx : atI l i = x
      · have HY : Hid (x ∈ l) := Lib.hid (by
          rw [← hx, atI, List.getElem?_eq_getElem (by rw [HL.out]; exact hlt)]
          exact List.getElem_mem _)
        rw [hx] at c1
        have e1 : (x == x) = true := by simp
        clear hcell hall hx
        go_wp2_with fail
        go_ret
        exact ⟨ret_bool (decide_eq_true HY.out).symm, rfl⟩
      · have HN : Hid (∀ j, j < i + 1 → atI l j ≠ x) := Lib.hid (fun j hj => by
          by_cases hji : j = i
          · subst hji; exact hx
          · exact hall j (by omega))
        have e1 : (atI l i == x) = false := by simpa using hx
        clear hcell hall hx
        generalize atI l i = y at *
        go_wp2_with fail
        go_round
        case rel => exact ⟨i + 1, hlt, by go_num, HN.out⟩
        case measure => simp [intOf]; omega
    · obtain rfl : i = len := by omega
      have HN : Hid (x ∉ l) := Lib.hid (fun hx => by
        obtain ⟨j, hj, e⟩ := List.getElem_of_mem hx
        exact hall j (by rw [← HL.out]; exact hj) (by rw [atI, List.getElem?_eq_getElem hj, e]; rfl))
      clear hall
      go_wp2_with fail
      go_ret
      exact ⟨ret_bool (decide_eq_false HN.out).symm, rfl⟩

set_option maxRecDepth 100000 in
set_option maxHeartbeats 2000000 in
theorem rlisted_any {w : World} {a : Option Addr} {len cap : Nat} {l : List Int} (h : Row .i64 w a len cap l) :
    Calls Tryd.prog 27 #[.slice a len cap] w fun e w' => e = .returned (.bool (risB l)) ∧ ∃ q, w' = w.drewN q := by
  obtain ⟨hl, hc, hm⟩ := h.lens
  have HL := Lib.hid hl
  have HR := Lib.hid h
  clear hl h
  go_enter Tryd.func27, Tryd.ntmps27
  go_wp2
  go_loopw [3] (fun s wr => ∃ i q : Nat, i ≤ len ∧ s = .int .i64 i ∧ (∀ j, j < i → risAt l j = true) ∧ wr = w.drewN q) (fun s _ => len - (intOf s).toNat)
  case atStart => exact ⟨0, 0, Nat.zero_le _, rfl, fun j hj => by omega, rfl⟩
  case round =>
    obtain ⟨i, q, hi, rfl, hall, rfl⟩ := hrel
    by_cases hlt : i < len
    · obtain ⟨b, off, rfl, hb, hcell⟩ := HR.out.cellI hlt
      have c1 := hcell i hlt
      have HA0 := Lib.hid (show risAt l i = (pgB (atI l i) && (decide (i = 0) || decide (atI l (i - 1) < atI l i))) from rfl)
      have HB : Hid (risAt l i = false → risB l = false) := Lib.hid (fun e => by
        rw [risB, List.all_eq_false]
        exact ⟨i, by rw [List.mem_range, HL.out]; exact hlt, by rw [e]; simp⟩)
      have HC : Hid (risAt l i = true → ∀ j, j < i + 1 → risAt l j = true) := Lib.hid (fun e j hj => by
        by_cases hji : j = i
        · subst hji; exact e
        · exact hall j (by omega))
      have cy : 0 < i → ∃ y, atI l (i - 1) = y ∧ w.cell? ⟨b, off + (i - 1), none⟩ = some (.int .i64 y) := fun h0 => ⟨_, rfl, hcell (i - 1) (by omega)⟩
      obtain ⟨x, hx⟩ : ∃ x, atI l i = x := ⟨_, rfl⟩
      rw [hx] at c1 HA0
      clear hall hcell hx
      by_cases h2 : x < 2
      · have d2 : decide (x < 2) = true := by simpa using h2
        have HE := Lib.hid (HB.out (HA0.out.trans (by simp [pgB]; omega)))
        clear HA0 HB HC cy
        go_wp2_with fail
        go_quiet (fail)
        go_wp2_with fail
        go_ret
        exact ⟨ret_bool HE.out.symm, _, drewN_add _ _ _⟩
      have d2 : decide (x < 2) = false := by simpa using h2
      by_cases h9 : 999 < x
      · have d9 : decide (999 < x) = true := by simpa using h9
        have HE := Lib.hid (HB.out (HA0.out.trans (by simp [pgB]; omega)))
        clear HA0 HB HC cy
        go_wp2_with fail
        go_quiet (fail)
        go_wp2_with fail
        go_ret
        exact ⟨ret_bool HE.out.symm, _, drewN_add _ _ _⟩
      have d9 : decide (999 < x) = false := by simpa using h9
      by_cases h0 : 0 < i
      · have d0 : decide ((0 : Int) < i) = true := by simp; omega
        obtain ⟨y, hy, c2⟩ := cy h0
        have i1 : (0 : Int) ≤ (i : Int) - 1 := by omega
        have i2 : (i : Int) - 1 < (len : Int) := by omega
        have i3 : ((i : Int) - 1).toNat = i - 1 := by omega
        rw [hy] at HA0
        clear hy cy
        by_cases hxy : x ≤ y
        · have dx : decide (x ≤ y) = true := by simpa using hxy
          have HE := Lib.hid (HB.out (HA0.out.trans (by simp [pgB]; omega)))
          clear HA0 HB HC
          go_wp2_with fail
          go_quiet (fail)
          go_wp2_with fail
          go_ret
          exact ⟨ret_bool HE.out.symm, _, drewN_add _ _ _⟩
        · have dx : decide (x ≤ y) = false := by simpa using hxy
          have HE := Lib.hid (HC.out (HA0.out.trans (by simp [pgB]; omega)))
          clear HA0 HB HC
          go_wp2_with fail
          go_quiet (fail)
          go_wp2_with fail
          go_roundw
          case rel => exact ⟨i + 1, _, hlt, by go_num, HE.out, rfl⟩
          case measure => simp [intOf]; omega
      · have d0 : decide ((0 : Int) < i) = false := by simp; omega
        have HE := Lib.hid (HC.out (HA0.out.trans (by simp [pgB]; omega)))
        clear HA0 HB HC cy
        go_wp2_with fail
        go_quiet (fail)
        go_wp2_with fail
        go_roundw
        case rel => exact ⟨i + 1, _, hlt, by go_num, HE.out, rfl⟩
        case measure => simp [intOf]; omega
    · obtain rfl : i = len := by omega
      have HB : Hid (risB l = true) := Lib.hid (by
        rw [risB, List.all_eq_true]
        intro j hj
        rw [List.mem_range, HL.out] at hj
        exact hall j hj)
      clear hall
      go_wp2_with fail
      go_ret
      exact ⟨ret_bool HB.out.symm, _, rfl⟩

set_option maxRecDepth 100000 in
set_option maxHeartbeats 2000000 in
theorem rown_nat (F V : Nat) (w : World) (f v : Int) (hf : (f < 0 ∧ F = 0) ∨ f = F) (hv : (v < 0 ∧ V = 0) ∨ v = V) (hF3 : F ≤ 100000) (hV3 : V ≤ 100000) :
    Calls Tryd.prog 15 #[.int .i64 f, .int .i64 v] w fun e w' => e = .returned (.int .i64 (ownF F V : Int)) ∧ w = w' := by
  have hown : ownF F V ≤ 5000 := by unfold ownF; omega
  have HN := Lib.hid (own_need F V)
  have HNEED : ∀ (k : Nat) (m : Int), m = ((F - k + V : Nat) : Int) → Calls Tryd.prog 12 #[.int .i64 m] w fun e w' => e = .returned (.int .i64 (needF ((F - k + V : Nat) : Int) : Int)) ∧ w = w' := by
    intro k m hm
    subst hm
    exact rneed_any _ w (by omega)
  have HND := Lib.hid HNEED
  clear HNEED
  generalize hO : ownF F V = O at *
  have HO := Lib.hid hO
  clear hO
  rcases hf with ⟨f0, rfl⟩ | rfl
  · rcases hv with ⟨v0, rfl⟩ | rfl
    · have f1 : decide (f < 0) = true := by simp; try omega
      have v1 : decide (v < 0) = true := by simp; try omega
      go_enter Tryd.func15, Tryd.ntmps15
      go_wp2
      go_loop [5, 6] (fun s _ => ∃ k : Nat, s = .int .i64 k ∧ k ≤ O) (fun s _ => O - (intOf s).toNat)
      case atStart => exact ⟨0, rfl, Nat.zero_le _⟩
      case round =>
        obtain ⟨k, rfl, hk⟩ := hrel
        have d0 : decide ((k : Int) < 100000) = true := by simp; omega
        have d0' : decide (k < 100000) = true := by simp; omega
        have hn := HN.out k
        have hnk := HND.out k
        generalize needF ((0 - k + 0 : Nat) : Int) = q at *
        by_cases hlt : 0 < k
        · have t0 : decide (-(k : Int) < 0) = true := by simp; try omega
          go_wp2_with fail
          refine (hnk _ (by omega)).mono ?_
          rintro e w' ⟨rfl, rfl⟩
          by_cases hq : q ≤ k
          · have hd : decide ((q : Int) ≤ k) = true := by simpa using hq
            have HK : Hid (O = k) := Lib.hid (by have := hn.1 hq; omega)
            clear hn hnk
            go_wp2_with fail
            go_ret
            exact ⟨ret_int (by rw [HK.out]), rfl⟩
          · have hd : decide ((q : Int) ≤ k) = false := by simp; omega
            have hlt2 : k < O := by
              by_cases h : O ≤ k
              · exact absurd (hn.2 h) hq
              · omega
            clear hn hnk
            go_wp2_with fail
            go_round
            case rel => exact ⟨k + 1, by go_num, hlt2⟩
            case measure => simp [intOf]; omega
        · have t0 : decide (-(k : Int) < 0) = false := by simp; try omega
          go_wp2_with fail
          refine (hnk _ (by omega)).mono ?_
          rintro e w' ⟨rfl, rfl⟩
          by_cases hq : q ≤ k
          · have hd : decide ((q : Int) ≤ k) = true := by simpa using hq
            have HK : Hid (O = k) := Lib.hid (by have := hn.1 hq; omega)
            clear hn hnk
            go_wp2_with fail
            go_ret
            exact ⟨ret_int (by rw [HK.out]), rfl⟩
          · have hd : decide ((q : Int) ≤ k) = false := by simp; omega
            have hlt2 : k < O := by
              by_cases h : O ≤ k
              · exact absurd (hn.2 h) hq
              · omega
            clear hn hnk
            go_wp2_with fail
            go_round
            case rel => exact ⟨k + 1, by go_num, hlt2⟩
            case measure => simp [intOf]; omega
    · have f1 : decide (f < 0) = true := by simp; try omega
      have v1 : decide ((V : Int) < 0) = false := by simp; try omega
      go_enter Tryd.func15, Tryd.ntmps15
      go_wp2
      go_loop [5, 6] (fun s _ => ∃ k : Nat, s = .int .i64 k ∧ k ≤ O) (fun s _ => O - (intOf s).toNat)
      case atStart => exact ⟨0, rfl, Nat.zero_le _⟩
      case round =>
        obtain ⟨k, rfl, hk⟩ := hrel
        have d0 : decide ((k : Int) < 100000) = true := by simp; omega
        have d0' : decide (k < 100000) = true := by simp; omega
        have hn := HN.out k
        have hnk := HND.out k
        generalize needF ((0 - k + V : Nat) : Int) = q at *
        by_cases hlt : 0 < k
        · have t0 : decide (-(k : Int) < 0) = true := by simp; try omega
          go_wp2_with fail
          refine (hnk _ (by omega)).mono ?_
          rintro e w' ⟨rfl, rfl⟩
          by_cases hq : q ≤ k
          · have hd : decide ((q : Int) ≤ k) = true := by simpa using hq
            have HK : Hid (O = k) := Lib.hid (by have := hn.1 hq; omega)
            clear hn hnk
            go_wp2_with fail
            go_ret
            exact ⟨ret_int (by rw [HK.out]), rfl⟩
          · have hd : decide ((q : Int) ≤ k) = false := by simp; omega
            have hlt2 : k < O := by
              by_cases h : O ≤ k
              · exact absurd (hn.2 h) hq
              · omega
            clear hn hnk
            go_wp2_with fail
            go_round
            case rel => exact ⟨k + 1, by go_num, hlt2⟩
            case measure => simp [intOf]; omega
        · have t0 : decide (-(k : Int) < 0) = false := by simp; try omega
          go_wp2_with fail
          refine (hnk _ (by omega)).mono ?_
          rintro e w' ⟨rfl, rfl⟩
          by_cases hq : q ≤ k
          · have hd : decide ((q : Int) ≤ k) = true := by simpa using hq
            have HK : Hid (O = k) := Lib.hid (by have := hn.1 hq; omega)
            clear hn hnk
            go_wp2_with fail
            go_ret
            exact ⟨ret_int (by rw [HK.out]), rfl⟩
          · have hd : decide ((q : Int) ≤ k) = false := by simp; omega
            have hlt2 : k < O := by
              by_cases h : O ≤ k
              · exact absurd (hn.2 h) hq
              · omega
            clear hn hnk
            go_wp2_with fail
            go_round
            case rel => exact ⟨k + 1, by go_num, hlt2⟩
            case measure => simp [intOf]; omega
  · rcases hv with ⟨v0, rfl⟩ | rfl
    · have f1 : decide ((F : Int) < 0) = false := by simp; try omega
      have v1 : decide (v < 0) = true := by simp; try omega
      go_enter Tryd.func15, Tryd.ntmps15
      go_wp2
      go_loop [5, 6] (fun s _ => ∃ k : Nat, s = .int .i64 k ∧ k ≤ O) (fun s _ => O - (intOf s).toNat)
      case atStart => exact ⟨0, rfl, Nat.zero_le _⟩
      case round =>
        obtain ⟨k, rfl, hk⟩ := hrel
        have d0 : decide ((k : Int) < 100000) = true := by simp; omega
        have d0' : decide (k < 100000) = true := by simp; omega
        have hn := HN.out k
        have hnk := HND.out k
        generalize needF ((F - k + 0 : Nat) : Int) = q at *
        by_cases hlt : F < k
        · have t0 : decide ((F : Int) - (k : Int) < 0) = true := by simp; try omega
          go_wp2_with fail
          refine (hnk _ (by omega)).mono ?_
          rintro e w' ⟨rfl, rfl⟩
          by_cases hq : q ≤ k
          · have hd : decide ((q : Int) ≤ k) = true := by simpa using hq
            have HK : Hid (O = k) := Lib.hid (by have := hn.1 hq; omega)
            clear hn hnk
            go_wp2_with fail
            go_ret
            exact ⟨ret_int (by rw [HK.out]), rfl⟩
          · have hd : decide ((q : Int) ≤ k) = false := by simp; omega
            have hlt2 : k < O := by
              by_cases h : O ≤ k
              · exact absurd (hn.2 h) hq
              · omega
            clear hn hnk
            go_wp2_with fail
            go_round
            case rel => exact ⟨k + 1, by go_num, hlt2⟩
            case measure => simp [intOf]; omega
        · have t0 : decide ((F : Int) - (k : Int) < 0) = false := by simp; try omega
          go_wp2_with fail
          refine (hnk _ (by omega)).mono ?_
          rintro e w' ⟨rfl, rfl⟩
          by_cases hq : q ≤ k
          · have hd : decide ((q : Int) ≤ k) = true := by simpa using hq
            have HK : Hid (O = k) := Lib.hid (by have := hn.1 hq; omega)
            clear hn hnk
            go_wp2_with fail
            go_ret
            exact ⟨ret_int (by rw [HK.out]), rfl⟩
          · have hd : decide ((q : Int) ≤ k) = false := by simp; omega
            have hlt2 : k < O := by
              by_cases h : O ≤ k
              · exact absurd (hn.2 h) hq
              · omega
            clear hn hnk
            go_wp2_with fail
            go_round
            case rel => exact ⟨k + 1, by go_num, hlt2⟩
            case measure => simp [intOf]; omega
    · have f1 : decide ((F : Int) < 0) = false := by simp; try omega
      have v1 : decide ((V : Int) < 0) = false := by simp; try omega
      go_enter Tryd.func15, Tryd.ntmps15
      go_wp2
      go_loop [5, 6] (fun s _ => ∃ k : Nat, s = .int .i64 k ∧ k ≤ O) (fun s _ => O - (intOf s).toNat)
      case atStart => exact ⟨0, rfl, Nat.zero_le _⟩
      case round =>
        obtain ⟨k, rfl, hk⟩ := hrel
        have d0 : decide ((k : Int) < 100000) = true := by simp; omega
        have d0' : decide (k < 100000) = true := by simp; omega
        have hn := HN.out k
        have hnk := HND.out k
        generalize needF ((F - k + V : Nat) : Int) = q at *
        by_cases hlt : F < k
        · have t0 : decide ((F : Int) - (k : Int) < 0) = true := by simp; try omega
          go_wp2_with fail
          refine (hnk _ (by omega)).mono ?_
          rintro e w' ⟨rfl, rfl⟩
          by_cases hq : q ≤ k
          · have hd : decide ((q : Int) ≤ k) = true := by simpa using hq
            have HK : Hid (O = k) := Lib.hid (by have := hn.1 hq; omega)
            clear hn hnk
            go_wp2_with fail
            go_ret
            exact ⟨ret_int (by rw [HK.out]), rfl⟩
          · have hd : decide ((q : Int) ≤ k) = false := by simp; omega
            have hlt2 : k < O := by
              by_cases h : O ≤ k
              · exact absurd (hn.2 h) hq
              · omega
            clear hn hnk
            go_wp2_with fail
            go_round
            case rel => exact ⟨k + 1, by go_num, hlt2⟩
            case measure => simp [intOf]; omega
        · have t0 : decide ((F : Int) - (k : Int) < 0) = false := by simp; try omega
          go_wp2_with fail
          refine (hnk _ (by omega)).mono ?_
          rintro e w' ⟨rfl, rfl⟩
          by_cases hq : q ≤ k
          · have hd : decide ((q : Int) ≤ k) = true := by simpa using hq
            have HK : Hid (O = k) := Lib.hid (by have := hn.1 hq; omega)
            clear hn hnk
            go_wp2_with fail
            go_ret
            exact ⟨ret_int (by rw [HK.out]), rfl⟩
          · have hd : decide ((q : Int) ≤ k) = false := by simp; omega
            have hlt2 : k < O := by
              by_cases h : O ≤ k
              · exact absurd (hn.2 h) hq
              · omega
            clear hn hnk
            go_wp2_with fail
            go_round
            case rel => exact ⟨k + 1, by go_num, hlt2⟩
            case measure => simp [intOf]; omega
theorem rown_any (f v : Int) (w : World) (hf : f ≤ 100000) (hv : v ≤ 100000) (hf0 : -100000 ≤ f) (hv0 : -100000 ≤ v) :
    Calls Tryd.prog 15 #[.int .i64 f, .int .i64 v] w fun e w' => e = .returned (.int .i64 (ownF f.toNat v.toNat : Int)) ∧ w = w' :=
  rown_nat f.toNat v.toNat w f v (by omega) (by omega) (by omega) (by omega)
end Go.Proofs.YtopnfpobbemfbaaDoor
