/- Texts that other texts of this claim lean on, one behind the other. -/
import Derived.Test.YtopnfpobbemfbaaDoorM8
/- The walks of the chapter on free pages: the document's Put. -/
namespace Go.Proofs.YtopnfpobbemfbaaDoor
open Go.RowKit

def RPutPost (w : World) (l at_ : List Int) (e : Ending) (w' : World) : Prop :=
  ∃ v, e = .returned (.tuple #[v, .int .i64 (putE l at_)]) ∧ w'.ownsRow w.heap.size 9 1 v (putL l at_).length ((putL l at_).map sv) ∧ Below w.heap.size w w'
theorem rputPost_bad {w w' : World} {l at_ : List Int} (h : putOk l at_ = false) (hb : Below w.heap.size w w') : RPutPost w l at_ (.returned (.tuple #[.slice none 0 0, .int .i64 1])) w' := by
  refine ⟨.slice none 0 0, by rw [putE, h]; rfl, ?_, hb⟩
  rw [putL, h]
  exact World.ownsRow_nil _ _ _ _
theorem strs_single (W : World) (s : List UInt8) (t : TypeId) : Strs (W.alloc (.cells #[.string (strOf s)] t)) (some ⟨W.heap.size, 0, none⟩) 1 1 [s] := by
  refine ⟨rfl, Nat.le_refl _, by unfold maxLen; omega, (fun h => by cases h), .inr ⟨W.heap.size, 0, rfl, by simp, fun i y hy => ?_⟩⟩
  have hi := (List.getElem?_eq_some_iff.1 hy).1
  simp at hi; subst hi
  simp at hy; subst hy
  refine ⟨[.string (strOf s)], rfl, rfl, fun j v hj => ?_⟩
  match j, hj with
  | 0, hj =>
    cases hj
    have := World.alloc_heap_new W (.cells #[.string (strOf s)] t)
    simp only [World.cell?, Nat.zero_add, Nat.zero_mul, this]
    rfl
  | j + 1, hj => simp at hj
theorem nums_at (l : List Int) (i j : Nat) (h : j < (numsL l i).length) : atI (numsL l i) j = atI l (59 * i + j) := by
  have hj : j < 59 := by have := numsL_le l i; omega
  unfold atI numsL
  rw [List.getElem?_take_of_lt hj, List.getElem?_drop]
theorem nums_len (l : List Int) (i : Nat) : (numsL l i).length = min 59 (l.length - 59 * i) := by simp [numsL]
theorem wflat_take (R : List Int) (j : Nat) (h : j < R.length) : wflat (R.take (j + 1)) = wflat (R.take j) ++ wordB (atI R j) := flat_take R j h

/-- A number's two lowest bytes, whatever it is. -/
def wordU (n : Int) : List UInt8 := numF (n % 18446744073709551616) 2
theorem wordU_eq {n : Int} (h : 0 ≤ n ∧ n < 65536) : wordU n = wordB n := by
  unfold wordU numF wordB
  rw [if_neg (by omega), show n % 18446744073709551616 = n by omega]
  rfl
theorem wordU_length (n : Int) : (wordU n).length = 2 := by
  unfold wordU numF
  rw [if_neg (by omega)]
  exact beBytes_length _ _
/-- A page as the document lays it, while the next place isn't looked at. -/
def rcellL (l at_ : List Int) (i : Nat) : List UInt8 := wordU (nextI at_ i) ++ wflat (numsL l i)
def rpageL (l at_ : List Int) (i : Nat) : List UInt8 := pageOf 4 [rcellL l at_ i]
theorem rpageL_eq {l at_ : List Int} (h : aptB at_ l = true) (i : Nat) : rpageL l at_ i = pageL l at_ i := by
  unfold rpageL pageL rcellL
  rw [wordU_eq (next_lt h i), cell_wflat]
  rfl
theorem rcellL_fits (l at_ : List Int) (i : Nat) : fits 4 [rcellL l at_ i] = true := by
  have := numsL_le l i
  simp [fits, lens_one, rcellL, wordU_length, wflat_length]; omega

set_option maxRecDepth 100000 in
set_option maxHeartbeats 8000000 in
theorem rput_any {w : World} {a a2 : Option Addr} {n cap m cap2 : Nat} {at_ l : List Int} (h1 : Row .i64 w a n cap at_) (h2 : Row .i64 w a2 m cap2 l) (hn : n ≤ 1000) (hm : m ≤ 1000) :
    Calls Tryd.prog 10 #[.slice a2 m cap2, .slice a n cap] w (RPutPost w l at_) := by
  obtain ⟨k0, hk, hx0, hx1, hx2⟩ := info_parts info_str
  have hR := rlisted_any h2
  have hN : ∀ W, Calls Tryd.prog 12 #[.int .i64 (m : Int)] W fun e w' => e = .returned (.int .i64 (needF (m : Int) : Int)) ∧ W = w' := fun W => rneed_any _ W (by omega)
  obtain ⟨e0, hc2, hcm2⟩ := h2.lens
  obtain ⟨e1, hc1, hcm1⟩ := h1.lens
  have H1 := Lib.hid h1
  have H2 := Lib.hid h2
  have E0 := Lib.hid e0
  have E1 := Lib.hid e1
  have HD : Hid (putOk l at_ = (risB l && (decide (needF (m : Int) ≤ n) && aptB at_ l))) := Lib.hid (by rw [putOk, e0, e1])
  clear h1 h2 e0 e1
  cases hr : risB l
  · rw [hr] at hR
    have HB : Hid (putOk l at_ = false) := Lib.hid (by rw [HD.out, hr]; rfl)
    clear hr
    go_enter Tryd.func10, Tryd.ntmps10
    go_wp2_with fail
    refine hR.mono ?_
    rintro e w' ⟨rfl, q, rfl⟩
    go_wp2_with fail
    go_ret2
    exact rputPost_bad HB.out (below_drewN (Below.refl _ _) q)
  rw [hr] at hR
  have HRI := Lib.hid hr
  clear hr
  obtain ⟨q, hq⟩ : ∃ q, needF (m : Int) = q := ⟨_, rfl⟩
  rw [hq] at hN HD
  by_cases hneed : n < q
  · have d0 : decide (n < q) = true := by simpa using hneed
    have d1 : decide ((n : Int) < q) = true := by simp; omega
    have HB : Hid (putOk l at_ = false) := Lib.hid (by rw [HD.out, HRI.out, show decide (q ≤ n) = false by simp; omega]; rfl)
    clear hq
    go_enter Tryd.func10, Tryd.ntmps10
    go_wp2_with fail
    refine hR.mono ?_
    rintro e w' ⟨rfl, q2, rfl⟩
    go_wp2_with fail
    refine (hN _).mono ?_
    rintro e w' ⟨rfl, rfl⟩
    go_wp2_with fail
    go_ret2
    exact rputPost_bad HB.out (below_drewN (Below.refl _ _) q2)
  have d0 : decide (n < q) = false := by simpa using hneed
  have d1 : decide ((n : Int) < q) = false := by simp; omega
  have HD2 : Hid (putOk l at_ = aptB at_ l) := Lib.hid (by rw [HD.out, HRI.out, show decide (q ≤ n) = true by simp; omega]; rfl)
  clear hq HD
  go_enter Tryd.func10, Tryd.ntmps10
  go_wp2_with fail
  refine hR.mono ?_
  rintro e w' ⟨rfl, q2, rfl⟩
  go_wp2_with fail
  refine (hN _).mono ?_
  rintro e w' ⟨rfl, rfl⟩
  clear hR hN
  have hb1 : Below w.heap.size w (w.drewN q2) := below_drewN (Below.refl _ _) q2
  go_wp2_with fail
  go_loopw [7, 8] (fun s7 s wr => ∃ (i : Nat), i ≤ n ∧ s = .int .i64 i ∧ wr.ownsRow w.heap.size 9 1 s7 i (((List.range i).map (rpageL l at_)).map sv) ∧ Below w.heap.size w wr ∧ ∀ j, j < i → aptAt at_ l j = true) (fun _ s _ => n - (intOf s).toNat)
  case atStart => exact ⟨0, Nat.zero_le _, rfl, World.ownsRow_nil _ _ _ _, hb1, fun j hj => by omega⟩
  case round =>
    clear hb1
    obtain ⟨i, hi', rfl, hout, hb, hall⟩ := hrel
    by_cases hlt : i < n
    · obtain ⟨b1, o1, hadr, hbl, hcell⟩ := H1.out.cellI hlt
      subst hadr
      have c1 : wr.cell? ⟨b1, o1 + i, none⟩ = _ := (hb.cell (p := ⟨b1, o1 + i, none⟩) hbl).trans (hcell i hlt)
      have HAD := Lib.hid (show aptAt at_ l i = (pgB (atI at_ i) && !(l ++ at_.take i).contains (atI at_ i)) from rfl)
      have HF : Hid (aptAt at_ l i = false → aptB at_ l = false) := Lib.hid (fun e => by
        rw [aptB, List.all_eq_false]
        exact ⟨i, by rw [List.mem_range, E1.out]; exact hlt, by rw [e]; simp⟩)
      have HT : Hid (aptAt at_ l i = true → ∀ j, j < i + 1 → aptAt at_ l j = true) := Lib.hid (fun e j hj => by
        by_cases hji : j = i
        · subst hji; exact e
        · exact hall j (by omega))
      have HB := Lib.hid hb
      have HO := Lib.hid hout
      have HBAD : Hid (∀ W, Below w.heap.size w W → aptAt at_ l i = false → RPutPost w l at_ (.returned (.tuple #[.slice none 0 0, .int .i64 1])) W) := Lib.hid (fun W hW h => rputPost_bad (by rw [HD2.out, HF.out h]) hW)
      have hrow2 := H2.out.below (Nat.le_refl _) hb
      have hrow1 := (H1.out.below (Nat.le_refl _) hb).take i (Nat.le_of_lt hlt)
      obtain ⟨x, hx⟩ : ∃ x, atI at_ i = x := ⟨_, rfl⟩
      rw [hx] at c1 HAD
      obtain ⟨t1, ht1⟩ : ∃ t, decide (x ∈ at_.take i) = t := ⟨_, rfl⟩
      obtain ⟨t2, ht2⟩ : ∃ t, decide (x ∈ l) = t := ⟨_, rfl⟩
      have hH1 : ∀ k, Calls Tryd.prog 28 #[.slice (some ⟨b1, o1, none⟩) i cap, .int .i64 x] (wr.drewN k) fun e w' => e = .returned (.bool t1) ∧ wr.drewN k = w' := fun k => by
        have := rhas_any (hrow1.drewN k) x
        rwa [ht1] at this
      have hH2 : ∀ k, Calls Tryd.prog 28 #[.slice a2 m cap2, .int .i64 x] (wr.drewN k) fun e w' => e = .returned (.bool t2) ∧ wr.drewN k = w' := fun k => by
        have := rhas_any (hrow2.drewN k) x
        rwa [ht2] at this
      have HAE : Hid (aptAt at_ l i = (pgB x && !(t2 || t1))) := Lib.hid (by
        rw [HAD.out, ← ht1, ← ht2]
        congr 2
        rw [Bool.eq_iff_iff]
        simp)
      have HX := Lib.hid hx
      have hsl : ∀ W, (Instr.slice 22 (.slice (some ⟨b1, o1, none⟩) n cap) none (some (.int .i64 (i : Int))) none).run Tryd.prog W = .ok (.slice (some ⟨b1, o1, none⟩) i cap) W := fun W => by
        rw [run_slice_h W 22 _ n cap elem_ints .i64 (i : Int) (by omega) (by omega), size_ints]
        simp [sliced]
        intro _
        exact add_none b1 o1 0
      have HCELL := Lib.hid hcell
      clear hout hb hall ht1 ht2 hx HAD HF hcell
      by_cases h2 : x < 2
      · have d2 : decide (x < 2) = true := by simpa using h2
        have HE : Hid (aptAt at_ l i = false) := Lib.hid (by rw [HAE.out]; simp [pgB]; omega)
        go_wp2_with fail
        go_quiet (fail)
        go_wp2_with fail
        go_ret2
        exact HBAD.out _ (below_drewN HB.out nq) HE.out
      have d2 : decide (x < 2) = false := by simpa using h2
      by_cases h9 : 999 < x
      · have d9 : decide (999 < x) = true := by simpa using h9
        have HE : Hid (aptAt at_ l i = false) := Lib.hid (by rw [HAE.out]; simp [pgB]; omega)
        go_wp2_with fail
        go_quiet (fail)
        go_wp2_with fail
        go_ret2
        exact HBAD.out _ (below_drewN HB.out nq) HE.out
      have d9 : decide (999 < x) = false := by simpa using h9
      have HPG : Hid (pgB x = true) := Lib.hid (by simp [pgB]; omega)
      cases t1
      · cases t2
        · have HE : Hid (aptAt at_ l i = true) := Lib.hid (by rw [HAE.out, HPG.out]; rfl)
          clear HAE
          go_wp2_with fail
          go_quiet (first | (go_at_call 28; first | (with_reducible exact quiet_same (hH1 _)) | (with_reducible exact quiet_same (hH2 _))))
          by_cases hnx : i + 1 < n
          · have d3 : decide ((i : Int) + 1 < n) = true := by simp; omega
            have HNX0 := Lib.hid (show nextI at_ i = atI at_ (i + 1) by rw [nextI, if_pos (by rw [E1.out]; exact hnx)])
            have c2 : wr.cell? ⟨b1, o1 + (i + 1), none⟩ = _ := (HB.out.cell (p := ⟨b1, o1 + (i + 1), none⟩) hbl).trans (HCELL.out (i + 1) hnx)
            obtain ⟨nx, hnxe⟩ : ∃ nx, atI at_ (i + 1) = nx := ⟨_, rfl⟩
            rw [hnxe] at c2
            have HNX := Lib.hid (HNX0.out.trans hnxe)
            clear hnxe HNX0
            go_wp2_with fail
            refine (refNum_any (nx % 18446744073709551616) 2 (wr.drewN nq) (by omega)).mono ?_
            rintro e w3 ⟨rfl, hb3⟩
            have HB3 : Hid (Below w.heap.size w w3) := Lib.hid (below_then (below_drewN HB.out nq) hb3)
            have HO3 : Hid (w3.ownsRow w.heap.size 9 1 u7 i (((List.range i).map (rpageL l at_)).map sv)) := Lib.hid (own_below (show (wr.drewN nq).ownsRow w.heap.size 9 1 u7 i (((List.range i).map (rpageL l at_)).map sv) from HO.out) (Nat.le_refl _) hb3)
            have HS0 : Hid (numF (nx % 18446744073709551616) 2 = wordU (nextI at_ i) ++ wflat ((numsL l i).take 0)) := Lib.hid (by
              rw [HNX.out]; simp [wflat, wordU])
            rw [HS0.out]
            clear hb3 HS0
            go_wp2_with fail
            go_loopw [10, 11] (fun s10 s11 wx => ∃ j : Nat, j ≤ (numsL l i).length ∧ s11 = .int .i64 ((59 * i + j : Nat) : Int) ∧ s10 = .string (strOf (wordU (nextI at_ i) ++ wflat ((numsL l i).take j))) ∧ wx.ownsRow w.heap.size 9 1 u7 i (((List.range i).map (rpageL l at_)).map sv) ∧ Below w.heap.size w wx) (fun _ s _ => 59 * i + 59 - (intOf s).toNat)
            case atStart => exact ⟨0, Nat.zero_le _, by go_num, rfl, HO3.out, HB3.out⟩
            case round =>
              clear HB3 HO3 HB HO
              obtain ⟨j, hj, rfl, rfl, hown, hbx⟩ := hrel
              have hnl := nums_len l i
              rw [E0.out] at hnl
              obtain ⟨p, hp⟩ : ∃ p, 59 * i + j = p := ⟨_, rfl⟩
              by_cases hjr : j < (numsL l i).length
              · have g1 : p < m := by omega
                have g2 : j < 59 := by omega
                have d5 : decide ((p : Int) < m) = true := by simp; omega
                have d6 : decide ((p : Int) < 59 * (i : Int) + 59) = true := by simp; omega
                obtain ⟨b5, o5, hadr, hb5, hcell5⟩ := H2.out.cellI g1
                subst hadr
                have c5 := (hbx.cell (p := ⟨b5, o5 + p, none⟩) hb5).trans (hcell5 p g1)
                have hna := nums_at l i j hjr
                rw [hp] at hna
                have hxp := nums_lt HRI.out i (atI (numsL l i) j) (by
                  unfold atI; rw [List.getElem?_eq_getElem hjr]; exact List.getElem_mem _)
                rw [← hna] at c5
                have hft := wflat_take (numsL l i) j hjr
                obtain ⟨z, hz⟩ := Int.eq_ofNat_of_zero_le hxp.1
                rw [hz, wordB_nat] at hft
                rw [hz] at c5 hxp
                have hlenS : (wordU (nextI at_ i) ++ wflat ((numsL l i).take j)).length ≤ 1000 := by rw [List.length_append, wordU_length, wflat_length]; simp; omega
                have HFT : Hid (wordU (nextI at_ i) ++ wflat ((numsL l i).take (j + 1)) = (wordU (nextI at_ i) ++ wflat ((numsL l i).take j)) ++ beBytes z 2) := Lib.hid (by rw [hft, List.append_assoc])
                obtain ⟨S, hS⟩ : ∃ S, wordU (nextI at_ i) ++ wflat ((numsL l i).take j) = S := ⟨_, rfl⟩
                rw [hS] at hlenS HFT ⊢
                have hz64 : (z : Int) % 18446744073709551616 = (z : Int) := by omega
                have HHB := Lib.hid hbx
                have HHO := Lib.hid hown
                have HSS := Lib.hid hS
                have hap := strOf_append S (beBytes z 2)
                have hbn : (strOf S).size + (strOf (beBytes z 2)).size ≤ 9223372036854775807 := by rw [strOf_size, strOf_size, beBytes_length]; omega
                rw [hp]
                have HP := Lib.hid hp
                have hp9 : p ≤ 100000 := by omega
                have hi59 : 59 * (i : Int) ≤ 59000 := by omega
                have HJ : Hid (j + 1 ≤ (numsL l i).length) := Lib.hid hjr
                clear hcell5 hna hft hz hbx hown hS hp hnl hjr hj hlenS
                go_wp2_with fail
                refine (refNum_ok z 2 wr (by omega) (by omega) (by omega)).mono ?_
                rintro e w4 ⟨rfl, hb4⟩
                have HB4 := Lib.hid (below_then HHB.out hb4)
                have HO4 := Lib.hid (own_below HHO.out (Nat.le_refl _) hb4)
                clear hb4
                go_wp2_with fail
                go_roundw
                case rel => exact ⟨j + 1, HJ.out, by have := HP.out; go_num, by rw [HFT.out], HO4.out, HB4.out⟩
                case measure => have := HP.out; simp [intOf]; omega
              · have hjn : j = (numsL l i).length := by omega
                have hend : ¬ (p < m ∧ p < 59 * i + 59) := by omega
                have HC : Hid (wordU (nextI at_ i) ++ wflat ((numsL l i).take j) = rcellL l at_ i) := Lib.hid (by rw [hjn, List.take_length]; rfl)
                rw [HC.out, hp]
                have hclen : (rcellL l at_ i).length ≤ 200 := by rw [rcellL, List.length_append, wordU_length, wflat_length]; omega
                have HPG := Lib.hid (show rpageL l at_ i = pageOf 4 [rcellL l at_ i] from rfl)
                have HFI := Lib.hid (rcellL_fits l at_ i)
                have HRS := Lib.hid (show (List.range (i + 1)).map (rpageL l at_) = (List.range i).map (rpageL l at_) ++ [rpageL l at_ i] by simp [List.range_succ])
                generalize rcellL l at_ i = C at *
                have hp9 : p ≤ 100000 := by omega
                have hi59 : 59 * (i : Int) ≤ 59000 := by omega
                have hA8 : Below wr.heap.size wr (wr.alloc (.cells #[.string (strOf C)] 9)) := (Below.refl _ _).alloc (Nat.le_refl _) _
                have hpk := rpack_any 4 (some ⟨wr.heap.size, 0, none⟩) 1 1 [C] (wr.alloc (.cells #[.string (strOf C)] 9)) (strs_single wr C _) (by rw [lens_one]; omega)
                rw [packV, packE, if_pos HFI.out, if_pos HFI.out] at hpk
                have hpk : Calls Tryd.prog 30 #[.int .u8 4, .slice (some ⟨wr.heap.size, 0, none⟩) 1 1] (wr.alloc (.cells #[.string (strOf C)] 9)) (StrPost (wr.alloc (.cells #[.string (strOf C)] 9)) (pageOf 4 [C]) 0) := hpk
                have HB8 := Lib.hid (below_then hbx hA8)
                have HO8 := Lib.hid (own_below hown (Nat.le_refl _) hA8)
                have HP := Lib.hid hp
                have HPE := Lib.hid hend
                have dd : (decide ((p : Int) < m) = false ∧ ¬ p < m) ∨ (decide ((p : Int) < m) = true ∧ p < m ∧ decide ((p : Int) < 59 * (i : Int) + 59) = false ∧ ¬ (p : Int) < 59 * (i : Int) + 59) := by
                  by_cases h : p < m
                  · right; exact ⟨by simp; omega, h, by simp; omega, by omega⟩
                  · left; exact ⟨by simp; omega, h⟩
                clear hbx hown hA8 hp hnl hjr hj hjn hend hclen HC
                rcases dd with ⟨d5, n5⟩ | ⟨d5, n5, d6, n6⟩
                · go_wp2_with fail
                  refine hpk.mono ?_
                  rintro e w5 ⟨rfl, hb5⟩
                  have hb8 := below_then HB8.out hb5
                  have ho8 := own_below HO8.out (Nat.le_refl _) hb5
                  obtain ⟨v10, w10, hr10, ho10, hg10, _⟩ := run_append_new (P := Tryd.prog) (w := w5) w.heap.size 29 9 k0 _ 1 16 Tryd.underlying29 hk hx0 hx1 hx2 rfl (by decide) ho8 #[.string (strOf (pageOf 4 [C]))] rfl (by intro u hu; simp at hu; subst hu; rfl) (by unfold maxLen; omega) (by omega) hb8.size
                  have HB10 := Lib.hid (hb8.grown hg10 hb8.size (own_ge ho8))
                  have HO10 : Hid (w10.ownsRow w.heap.size 9 1 v10 (i + 1) (((List.range (i + 1)).map (rpageL l at_)).map sv)) := Lib.hid (by rw [HRS.out, HPG.out, List.map_append]; exact ho10)
                  clear hpk hb5 hb8 ho8 ho10 hg10
                  go_wp2_with (at_builtin; refine wpList_append_run rfl _ _ _ _ rfl rfl rfl hr10 ?_)
                  go_roundw
                  case rel => exact ⟨i + 1, hlt, by go_num, HO10.out, HB10.out, HT.out HE.out⟩
                  case measure => simp [intOf]; omega
                · go_wp2_with fail
                  refine hpk.mono ?_
                  rintro e w5 ⟨rfl, hb5⟩
                  have hb8 := below_then HB8.out hb5
                  have ho8 := own_below HO8.out (Nat.le_refl _) hb5
                  obtain ⟨v10, w10, hr10, ho10, hg10, _⟩ := run_append_new (P := Tryd.prog) (w := w5) w.heap.size 29 9 k0 _ 1 16 Tryd.underlying29 hk hx0 hx1 hx2 rfl (by decide) ho8 #[.string (strOf (pageOf 4 [C]))] rfl (by intro u hu; simp at hu; subst hu; rfl) (by unfold maxLen; omega) (by omega) hb8.size
                  have HB10 := Lib.hid (hb8.grown hg10 hb8.size (own_ge ho8))
                  have HO10 : Hid (w10.ownsRow w.heap.size 9 1 v10 (i + 1) (((List.range (i + 1)).map (rpageL l at_)).map sv)) := Lib.hid (by rw [HRS.out, HPG.out, List.map_append]; exact ho10)
                  clear hpk hb5 hb8 ho8 ho10 hg10
                  go_wp2_with (at_builtin; refine wpList_append_run rfl _ _ _ _ rfl rfl rfl hr10 ?_)
                  go_roundw
                  case rel => exact ⟨i + 1, hlt, by go_num, HO10.out, HB10.out, HT.out HE.out⟩
                  case measure => simp [intOf]; omega
          · have d3 : decide ((i : Int) + 1 < n) = false := by simp; omega
            have HNX0 := Lib.hid (show nextI at_ i = 0 by rw [nextI, if_neg (by rw [E1.out]; exact hnx)])
            have HNX := HNX0
            clear HNX0
            go_wp2_with fail
            refine (refNum_any 0 2 (wr.drewN nq) (by omega)).mono ?_
            rintro e w3 ⟨rfl, hb3⟩
            have HB3 : Hid (Below w.heap.size w w3) := Lib.hid (below_then (below_drewN HB.out nq) hb3)
            have HO3 : Hid (w3.ownsRow w.heap.size 9 1 u7 i (((List.range i).map (rpageL l at_)).map sv)) := Lib.hid (own_below (show (wr.drewN nq).ownsRow w.heap.size 9 1 u7 i (((List.range i).map (rpageL l at_)).map sv) from HO.out) (Nat.le_refl _) hb3)
            have HS0 : Hid (numF (0) 2 = wordU (nextI at_ i) ++ wflat ((numsL l i).take 0)) := Lib.hid (by
              rw [HNX.out]; simp [wflat, wordU])
            rw [HS0.out]
            clear hb3 HS0
            go_wp2_with fail
            go_loopw [10, 11] (fun s10 s11 wx => ∃ j : Nat, j ≤ (numsL l i).length ∧ s11 = .int .i64 ((59 * i + j : Nat) : Int) ∧ s10 = .string (strOf (wordU (nextI at_ i) ++ wflat ((numsL l i).take j))) ∧ wx.ownsRow w.heap.size 9 1 u7 i (((List.range i).map (rpageL l at_)).map sv) ∧ Below w.heap.size w wx) (fun _ s _ => 59 * i + 59 - (intOf s).toNat)
            case atStart => exact ⟨0, Nat.zero_le _, by go_num, rfl, HO3.out, HB3.out⟩
            case round =>
              clear HB3 HO3 HB HO
              obtain ⟨j, hj, rfl, rfl, hown, hbx⟩ := hrel
              have hnl := nums_len l i
              rw [E0.out] at hnl
              obtain ⟨p, hp⟩ : ∃ p, 59 * i + j = p := ⟨_, rfl⟩
              by_cases hjr : j < (numsL l i).length
              · have g1 : p < m := by omega
                have g2 : j < 59 := by omega
                have d5 : decide ((p : Int) < m) = true := by simp; omega
                have d6 : decide ((p : Int) < 59 * (i : Int) + 59) = true := by simp; omega
                obtain ⟨b5, o5, hadr, hb5, hcell5⟩ := H2.out.cellI g1
                subst hadr
                have c5 := (hbx.cell (p := ⟨b5, o5 + p, none⟩) hb5).trans (hcell5 p g1)
                have hna := nums_at l i j hjr
                rw [hp] at hna
                have hxp := nums_lt HRI.out i (atI (numsL l i) j) (by
                  unfold atI; rw [List.getElem?_eq_getElem hjr]; exact List.getElem_mem _)
                rw [← hna] at c5
                have hft := wflat_take (numsL l i) j hjr
                obtain ⟨z, hz⟩ := Int.eq_ofNat_of_zero_le hxp.1
                rw [hz, wordB_nat] at hft
                rw [hz] at c5 hxp
                have hlenS : (wordU (nextI at_ i) ++ wflat ((numsL l i).take j)).length ≤ 1000 := by rw [List.length_append, wordU_length, wflat_length]; simp; omega
                have HFT : Hid (wordU (nextI at_ i) ++ wflat ((numsL l i).take (j + 1)) = (wordU (nextI at_ i) ++ wflat ((numsL l i).take j)) ++ beBytes z 2) := Lib.hid (by rw [hft, List.append_assoc])
                obtain ⟨S, hS⟩ : ∃ S, wordU (nextI at_ i) ++ wflat ((numsL l i).take j) = S := ⟨_, rfl⟩
                rw [hS] at hlenS HFT ⊢
                have hz64 : (z : Int) % 18446744073709551616 = (z : Int) := by omega
                have HHB := Lib.hid hbx
                have HHO := Lib.hid hown
                have HSS := Lib.hid hS
                have hap := strOf_append S (beBytes z 2)
                have hbn : (strOf S).size + (strOf (beBytes z 2)).size ≤ 9223372036854775807 := by rw [strOf_size, strOf_size, beBytes_length]; omega
                rw [hp]
                have HP := Lib.hid hp
                have hp9 : p ≤ 100000 := by omega
                have hi59 : 59 * (i : Int) ≤ 59000 := by omega
                have HJ : Hid (j + 1 ≤ (numsL l i).length) := Lib.hid hjr
                clear hcell5 hna hft hz hbx hown hS hp hnl hjr hj hlenS
                go_wp2_with fail
                refine (refNum_ok z 2 wr (by omega) (by omega) (by omega)).mono ?_
                rintro e w4 ⟨rfl, hb4⟩
                have HB4 := Lib.hid (below_then HHB.out hb4)
                have HO4 := Lib.hid (own_below HHO.out (Nat.le_refl _) hb4)
                clear hb4
                go_wp2_with fail
                go_roundw
                case rel => exact ⟨j + 1, HJ.out, by have := HP.out; go_num, by rw [HFT.out], HO4.out, HB4.out⟩
                case measure => have := HP.out; simp [intOf]; omega
              · have hjn : j = (numsL l i).length := by omega
                have hend : ¬ (p < m ∧ p < 59 * i + 59) := by omega
                have HC : Hid (wordU (nextI at_ i) ++ wflat ((numsL l i).take j) = rcellL l at_ i) := Lib.hid (by rw [hjn, List.take_length]; rfl)
                rw [HC.out, hp]
                have hclen : (rcellL l at_ i).length ≤ 200 := by rw [rcellL, List.length_append, wordU_length, wflat_length]; omega
                have HPG := Lib.hid (show rpageL l at_ i = pageOf 4 [rcellL l at_ i] from rfl)
                have HFI := Lib.hid (rcellL_fits l at_ i)
                have HRS := Lib.hid (show (List.range (i + 1)).map (rpageL l at_) = (List.range i).map (rpageL l at_) ++ [rpageL l at_ i] by simp [List.range_succ])
                generalize rcellL l at_ i = C at *
                have hp9 : p ≤ 100000 := by omega
                have hi59 : 59 * (i : Int) ≤ 59000 := by omega
                have hA8 : Below wr.heap.size wr (wr.alloc (.cells #[.string (strOf C)] 9)) := (Below.refl _ _).alloc (Nat.le_refl _) _
                have hpk := rpack_any 4 (some ⟨wr.heap.size, 0, none⟩) 1 1 [C] (wr.alloc (.cells #[.string (strOf C)] 9)) (strs_single wr C _) (by rw [lens_one]; omega)
                rw [packV, packE, if_pos HFI.out, if_pos HFI.out] at hpk
                have hpk : Calls Tryd.prog 30 #[.int .u8 4, .slice (some ⟨wr.heap.size, 0, none⟩) 1 1] (wr.alloc (.cells #[.string (strOf C)] 9)) (StrPost (wr.alloc (.cells #[.string (strOf C)] 9)) (pageOf 4 [C]) 0) := hpk
                have HB8 := Lib.hid (below_then hbx hA8)
                have HO8 := Lib.hid (own_below hown (Nat.le_refl _) hA8)
                have HP := Lib.hid hp
                have HPE := Lib.hid hend
                have dd : (decide ((p : Int) < m) = false ∧ ¬ p < m) ∨ (decide ((p : Int) < m) = true ∧ p < m ∧ decide ((p : Int) < 59 * (i : Int) + 59) = false ∧ ¬ (p : Int) < 59 * (i : Int) + 59) := by
                  by_cases h : p < m
                  · right; exact ⟨by simp; omega, h, by simp; omega, by omega⟩
                  · left; exact ⟨by simp; omega, h⟩
                clear hbx hown hA8 hp hnl hjr hj hjn hend hclen HC
                rcases dd with ⟨d5, n5⟩ | ⟨d5, n5, d6, n6⟩
                · go_wp2_with fail
                  refine hpk.mono ?_
                  rintro e w5 ⟨rfl, hb5⟩
                  have hb8 := below_then HB8.out hb5
                  have ho8 := own_below HO8.out (Nat.le_refl _) hb5
                  obtain ⟨v10, w10, hr10, ho10, hg10, _⟩ := run_append_new (P := Tryd.prog) (w := w5) w.heap.size 29 9 k0 _ 1 16 Tryd.underlying29 hk hx0 hx1 hx2 rfl (by decide) ho8 #[.string (strOf (pageOf 4 [C]))] rfl (by intro u hu; simp at hu; subst hu; rfl) (by unfold maxLen; omega) (by omega) hb8.size
                  have HB10 := Lib.hid (hb8.grown hg10 hb8.size (own_ge ho8))
                  have HO10 : Hid (w10.ownsRow w.heap.size 9 1 v10 (i + 1) (((List.range (i + 1)).map (rpageL l at_)).map sv)) := Lib.hid (by rw [HRS.out, HPG.out, List.map_append]; exact ho10)
                  clear hpk hb5 hb8 ho8 ho10 hg10
                  go_wp2_with (at_builtin; refine wpList_append_run rfl _ _ _ _ rfl rfl rfl hr10 ?_)
                  go_roundw
                  case rel => exact ⟨i + 1, hlt, by go_num, HO10.out, HB10.out, HT.out HE.out⟩
                  case measure => simp [intOf]; omega
                · go_wp2_with fail
                  refine hpk.mono ?_
                  rintro e w5 ⟨rfl, hb5⟩
                  have hb8 := below_then HB8.out hb5
                  have ho8 := own_below HO8.out (Nat.le_refl _) hb5
                  obtain ⟨v10, w10, hr10, ho10, hg10, _⟩ := run_append_new (P := Tryd.prog) (w := w5) w.heap.size 29 9 k0 _ 1 16 Tryd.underlying29 hk hx0 hx1 hx2 rfl (by decide) ho8 #[.string (strOf (pageOf 4 [C]))] rfl (by intro u hu; simp at hu; subst hu; rfl) (by unfold maxLen; omega) (by omega) hb8.size
                  have HB10 := Lib.hid (hb8.grown hg10 hb8.size (own_ge ho8))
                  have HO10 : Hid (w10.ownsRow w.heap.size 9 1 v10 (i + 1) (((List.range (i + 1)).map (rpageL l at_)).map sv)) := Lib.hid (by rw [HRS.out, HPG.out, List.map_append]; exact ho10)
                  clear hpk hb5 hb8 ho8 ho10 hg10
                  go_wp2_with (at_builtin; refine wpList_append_run rfl _ _ _ _ rfl rfl rfl hr10 ?_)
                  go_roundw
                  case rel => exact ⟨i + 1, hlt, by go_num, HO10.out, HB10.out, HT.out HE.out⟩
                  case measure => simp [intOf]; omega
        · have HE : Hid (aptAt at_ l i = false) := Lib.hid (by rw [HAE.out, HPG.out]; rfl)
          clear HAE
          go_wp2_with fail
          go_quiet (first | (go_at_call 28; first | (with_reducible exact quiet_same (hH1 _)) | (with_reducible exact quiet_same (hH2 _))))
          go_wp2_with fail
          go_ret2
          exact HBAD.out _ (below_drewN HB.out nq) HE.out
      · have HE : Hid (aptAt at_ l i = false) := Lib.hid (by rw [HAE.out, HPG.out]; simp)
        clear HAE
        go_wp2_with fail
        go_quiet (first | (go_at_call 28; first | (with_reducible exact quiet_same (hH1 _)) | (with_reducible exact quiet_same (hH2 _))))
        go_wp2_with fail
        go_ret2
        exact HBAD.out _ (below_drewN HB.out nq) HE.out
    · obtain rfl : i = n := by omega
      have HA : Hid (putOk l at_ = true) := Lib.hid (by
        rw [HD2.out, aptB, List.all_eq_true]
        intro j hj
        rw [List.mem_range, E1.out] at hj
        exact hall j hj)
      have HE : Hid (RPutPost w l at_ (.returned (.tuple #[u7, .int .i64 0])) wr) := Lib.hid ⟨_, by rw [putE, HA.out]; rfl, by
        have hap : aptB at_ l = true := by rw [← HD2.out]; exact HA.out
        rw [putL, HA.out, if_pos rfl, E1.out, List.length_map, List.length_range, ← List.map_congr_left (fun j _ => rpageL_eq hap j)]; exact hout, hb⟩
      clear hout hall
      go_wp2_with fail
      go_ret2
      exact HE.out
end Go.Proofs.YtopnfpobbemfbaaDoor
