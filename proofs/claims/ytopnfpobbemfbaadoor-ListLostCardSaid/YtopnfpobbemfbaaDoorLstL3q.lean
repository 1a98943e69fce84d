/- The law ListBack. -/
import Derived.Test.YtopnfpobbemfbaaDoorM8
import Derived.Deep.RegionHeld3
namespace Go.Proofs.YtopnfpobbemfbaaDoor
open Go.RowKit

/-- The pages so far. -/
def Laid (l at_ : List Int) (i : Nat) (d : List Rg) : Prop := ∃ f, RegAt d 0 1000 f ∧ ∀ k, k < i → f (atI at_ k).toNat = pageL l at_ k
theorem Laid.new (l at_ : List Int) : Laid l at_ 0 (newD [1000]) := ⟨zeros, RegAt.new (l := [1000]) (r := 0) rfl, fun k hk => by omega⟩
theorem at_bound {l at_ : List Int} (h : putOk l at_ = true) {i : Nat} (hi : i < at_.length) : 2 ≤ atI at_ i ∧ atI at_ i ≤ 999 := by
  have := (apt_at (put_parts h).2.2 hi).1
  simpa [pgB] using this
theorem at_ne {l at_ : List Int} (h : putOk l at_ = true) {i j : Nat} (hij : i < j) (hj : j < at_.length) : atI at_ i ≠ atI at_ j := by
  intro e
  refine (apt_at (put_parts h).2.2 hj).2.2 ?_
  rw [← e]
  exact List.mem_of_getElem? (i := i) (by rw [List.getElem?_take_of_lt hij, atI, List.getElem?_eq_getElem (by omega)]; rfl)
theorem Laid.step {l at_ : List Int} {i : Nat} {d : List Rg} (h : Laid l at_ i d) (hok : putOk l at_ = true) (hi : i < at_.length) :
    writeE d 0 (atI at_ i) (pageL l at_ i) = 0 ∧ Laid l at_ (i + 1) (writeD d 0 (atI at_ i) (pageL l at_ i)) := by
  obtain ⟨f, h1, h2⟩ := h
  have hb := at_bound hok hi
  obtain ⟨e, h3, _⟩ := h1.write (p := atI at_ i) (by omega) (pageL_len l at_ i)
  refine ⟨e, _, h3, fun k hk => ?_⟩
  unfold upd
  by_cases hki : k = i
  · subst hki; rw [if_pos rfl]
  · rw [if_neg (fun e => ?_)]
    · exact h2 k (by omega)
    · have h5 := at_bound hok (show k < at_.length by omega)
      exact at_ne hok (show k < i by omega) hi (by omega)
/-- Where the first page stands. -/
def firstV (at_ : List Int) (i : Nat) : Int := if i = 0 then 0 else atI at_ 0
theorem Laid.got {l at_ : List Int} {d : List Rg} (h : Laid l at_ at_.length d) (hok : putOk l at_ = true) : getD d 0 (firstV at_ at_.length) = (l, at_, 0) := by
  unfold firstV
  by_cases h0 : at_.length = 0
  · rw [if_pos h0]
    obtain ⟨_, h2, _⟩ := put_parts hok
    have := need_le h2
    have e1 : at_ = [] := List.eq_nil_of_length_eq_zero h0
    have e2 : l = [] := List.eq_nil_of_length_eq_zero (by omega)
    subst e1 e2
    rfl
  · rw [if_neg h0]
    obtain ⟨f, h1, h2⟩ := h
    exact got_back hok h1 (fun i hi => by have := at_bound hok hi; omega) (fun i hi => h2 i hi) (fun e => h0 (by rw [e]; rfl))
theorem putL_get {l at_ : List Int} (hok : putOk l at_ = true) {i : Nat} (hi : i < at_.length) : (putL l at_)[i]? = some (pageL l at_ i) := by
  rw [putL, hok, if_pos rfl]
  simp [hi]
theorem putL_len {l at_ : List Int} (hok : putOk l at_ = true) : (putL l at_).length = at_.length := by
  rw [putL, hok, if_pos rfl]; simp

set_option maxRecDepth 100000 in
set_option maxHeartbeats 8000000 in
theorem lBack (a : Option Addr) (n cap : Nat) (l : List Int) (a2 : Option Addr) (m cap2 : Nat) (at_ : List Int) (w : World) (h1 : Row .i64 w a n cap l) (i1 : I64s l) (h2 : Row .i64 w a2 m cap2 at_) (i2 : I64s at_) (hh : Half w) :
    Calls Tryd.prog 5 #[.slice a n cap, .slice a2 m cap2] w fun e w' => e = .returned (.bool true) ∧ Below w.heap.size w w' := by
  have A := awake_any w hh
  obtain ⟨e1, hc1, hm1⟩ := h1.lens
  obtain ⟨e2, hc2, hm2⟩ := h2.lens
  by_cases hn : 400 < n
  · have d1 : decide ((400 : Int) < n) = true := by simp; omega
    clear h1 h2 e1 e2
    go_enter Tryd.func5, Tryd.ntmps5
    go_wp2_with fail
    refine A.mono ?_
    rintro e w2 ⟨rfl, hb2⟩
    go_wp2_with fail
    go_ret
    exact ⟨rfl, hb2⟩
  by_cases hm : 20 < m
  · have d1 : decide ((400 : Int) < n) = false := by simp; omega
    have d2 : decide ((20 : Int) < m) = true := by simp; omega
    clear h1 h2 e1 e2
    go_enter Tryd.func5, Tryd.ntmps5
    go_wp2_with fail
    refine A.mono ?_
    rintro e w2 ⟨rfl, hb2⟩
    go_wp2_with fail
    go_ret
    exact ⟨rfl, hb2⟩
  have d1 : decide ((400 : Int) < n) = false := by simp; omega
  have d2 : decide ((20 : Int) < m) = false := by simp; omega
  have H1 := Lib.hid h1
  have H2 := Lib.hid h2
  have E1 := Lib.hid e1
  have E2 := Lib.hid e2
  clear h1 h2 e1 e2
  go_enter Tryd.func5, Tryd.ntmps5
  go_wp2_with fail
  refine A.mono ?_
  rintro e w2 ⟨rfl, hb2⟩
  have P := lput_any (H2.out.below (Nat.le_refl _) hb2) (H1.out.below (Nat.le_refl _) hb2) i2 i1 (by omega) (by omega) (hh.below (Nat.le_refl _) hb2)
  clear A
  go_wp2_with fail
  refine P.mono ?_
  rintro e w3 ⟨v3, rfl, ho3, hb3⟩
  have hw3 := below_then hb2 hb3
  clear P hb2 hb3
  cases hok : putOk l at_
  · rw [putL, hok] at ho3
    rw [putE, hok]
    have HOK := Lib.hid hok
    obtain ⟨a3, c3, rfl, hb⟩ := ho3.bss
    simp only [Bool.false_eq_true, if_false, List.length_nil]
    clear ho3 hb hok
    go_wp2_with fail
    go_ret
    exact ⟨rfl, hw3⟩
  · rw [putE, hok, if_pos rfl]
    have hpl := putL_len hok
    rw [E2.out] at hpl
    obtain ⟨vs, hvs, _⟩ := ho3
    obtain ⟨a3, c3, rfl, hc3, hcm3, _⟩ := own_slice hvs
    have ho3 : OwnBss w3 w2.heap.size (.slice a3 (putL l at_).length c3) (putL l at_) := ⟨vs, hvs, by assumption⟩
    rw [hpl] at hc3
    unfold maxLen at hcm3
    have HO3 := Lib.hid ho3
    have HPL := Lib.hid hpl
    have HOK := Lib.hid hok
    rw [hpl]
    have N := new_ok (aw_one w3 1000) (by decide)
    clear ho3 hpl hok hvs
    go_wp2_with fail
    refine N.mono ?_
    rintro e w4 ⟨db, rfl, hd4, hb4⟩
    have hsz : (w3.alloc (.cells #[.int .i64 1000] 3)).heap.size = w3.heap.size + 1 := by simp
    have hw4 : Below w3.heap.size w3 w4 := below_then ((Below.refl _ _).alloc (Nat.le_refl _) _) hb4
    rw [hsz] at hd4
    have HD4 := Lib.hid hd4
    clear N hb4 hsz hd4
    go_wp2_with fail
    go_loopw [10, 11] (fun s10 s11 wr => ∃ (i : Nat) (d : List Rg), i ≤ m ∧ s11 = .int .i64 i ∧ s10 = .int .i64 (firstV at_ i) ∧ One (w3.heap.size + 1) wr db i d ∧ Laid l at_ i d ∧ Below w3.heap.size w3 wr) (fun _ s _ => m - (intOf s).toNat)
    case atStart => exact ⟨0, _, Nat.zero_le _, rfl, rfl, HD4.out, Laid.new l at_, hw4⟩
    case round =>
      clear HD4 hw4
      obtain ⟨i, d, hi, rfl, rfl, hd, hlaid, hb⟩ := hrel
      by_cases hlt : i < m
      · obtain ⟨g, k, a7, c7, e7, _, _, hg, hge, hcell, hbs, hgx⟩ := HO3.out.get (putL_get HOK.out (i := i) (by rw [E2.out]; exact hlt))
        cases e7
        rw [pageL_len] at hcell hbs
        obtain ⟨b2, o2, hadr, hb2, hcell2⟩ := H2.out.cellI hlt
        subst hadr
        obtain ⟨hwe, hlaid2⟩ := hlaid.step HOK.out (by rw [E2.out]; exact hlt)
        have hop := (hd.below (w' := wr.drew) (below_drewN (Below.refl _ _) 1)).opens
        have C := write_o hop (hbs.below (Nat.le_refl _) hb.drew) (fun g' off e => .inl (by have := (hgx g' off e).2; omega)) (by omega) 0 (atI at_ i)
        rw [hwe] at C
        have cA : ∀ W, Below w3.heap.size w3 W → W.cell? ⟨g, i, none⟩ = some (.slice a7 128 c7) := fun W hW => (hW.cell (p := ⟨g, i, none⟩) hg).trans hcell
        have cB : ∀ W, Below w3.heap.size w3 W → W.cell? ⟨b2, o2 + i, none⟩ = some (.int .i64 (atI at_ i)) := fun W hW => ((below_then hw3 hW).cell (p := ⟨b2, o2 + i, none⟩) hb2).trans (hcell2 i hlt)
        have cC : ∀ W, Below w3.heap.size w3 W → W.cell? ⟨b2, o2, none⟩ = some (.int .i64 (atI at_ 0)) := fun W hW => ((below_then hw3 hW).cell (p := ⟨b2, o2, none⟩) hb2).trans (by have := hcell2 0 (by omega); simpa using this)
        have HD := Lib.hid hd
        have HLD := Lib.hid hlaid2
        have HB := Lib.hid hb
        have hb0 : Below w3.heap.size w3 wr.drew := hb.drew
        have hc128 := hbs.cap
        unfold maxLen at hc128
        clear hd hlaid hlaid2 hb hcell hbs hgx hwe hop hcell2
        go_wp2_with fail
        go_region_held3 (fun W => Below w3.heap.size w3 W) (with_reducible assumption) (first | (go_at_call 18; refine C.mono ?_; rintro e wx ⟨rfl, hdx, hbx⟩; have hBx : Below w3.heap.size w3 wx := hb0.trans (hbx.mono (Nat.le_succ _))))
        all_goals
          have cX := cC _ hBx
          have HDX := Lib.hid hdx
          have HBX := Lib.hid hBx
          clear cA cB cC hdx hBx hbx hb0 C
          go_wp2_with fail
          go_roundw
          case rel => exact ⟨i + 1, _, hlt, by go_num, by rw [firstV, if_neg (by omega)], HDX.out, HLD.out, HBX.out⟩
          case measure => simp [intOf]; omega
      · obtain rfl : i = m := by omega
        have hlaid : Laid l at_ at_.length d := by rw [E2.out]; exact hlaid
        have hgot := hlaid.got HOK.out
        rw [E2.out] at hgot
        have hbw := below_then hw3 hb
        have G := lget_any hd (hh.below (Nat.le_refl _) hbw) 0 (firstV at_ i)
        rw [hgot] at G
        clear hgot hlaid hd hb HO3 hw3
        go_wp2_with fail
        refine G.mono ?_
        rintro e w5 ⟨v5, v6, rfl, ho5, ho6, hb5⟩
        obtain ⟨a5, c5, rfl, row5⟩ := row_ints ho5
        obtain ⟨a6, c6, rfl, row6⟩ := row_ints ho6
        have hw5 := below_then hbw hb5
        have I1 := ints_any row5 (H1.out.below (Nat.le_refl _) hw5)
        rw [show decide (l = l) = true by simp] at I1
        clear G ho5 ho6 hb5 hbw
        go_wp2_with fail
        refine I1.mono ?_
        rintro e w6 ⟨rfl, j1, rfl⟩
        have I2 := ints_any (row6.drewN j1) ((H2.out.below (Nat.le_refl _) hw5).drewN j1)
        rw [show decide (at_ = at_) = true by simp] at I2
        clear I1
        go_wp2_with fail
        refine I2.mono ?_
        rintro e w6 ⟨rfl, j2, rfl⟩
        have HW := Lib.hid (below_drewN (below_drewN hw5 j1) j2)
        generalize (w5.drewN j1).drewN j2 = w6 at *
        clear I2 row5 row6 hw5
        have NEED : ∀ (k : Nat) (x : Int), x = (k : Int) → k ≤ 100000 → Calls Tryd.prog 11 #[.int .i64 x] w6 fun e w' => e = .returned (.int .i64 (needF (k : Int) : Int)) ∧ w6 = w' := by
          intro k x hx hk
          subst hx
          exact lneed_any _ w6 (by omega)
        have OWN : ∀ f : Nat, f ≤ 1000 → Calls Tryd.prog 14 #[.int .i64 (f : Int), .int .i64 (n : Int)] w6 fun e w' => e = .returned (.int .i64 (ownF f n : Int)) ∧ w6 = w' := by
          intro f hf
          have := own_any f n w6 (by omega) (by omega) (by omega) (by omega)
          simpa using this
        go_wp2_with fail
        go_loop [15, 16] (fun s15 s16 => ∃ f : Nat, s15 = .int .i64 f ∧ f ≤ 206) (fun s15 _ => 300 - (intOf s15).toNat)
        case atStart => exact ⟨0, rfl, Nat.zero_le _⟩
        case round =>
          obtain ⟨f, rfl, hf⟩ := hrel
          by_cases hlt : f < 200
          · have d0 : decide ((f : Int) < 200) = true := by simp; omega
            have d0' : decide (f < 200) = true := by simp; omega
            obtain ⟨k, hk⟩ : ∃ k, ownF f n = k := ⟨_, rfl⟩
            have O := OWN f (by omega)
            rw [hk] at O
            have hk1 : k ≤ 1000 := by rw [← hk]; unfold ownF; omega
            have n1 : needF ((f - k + n : Nat) : Int) ≤ k := (own_need f n k).2 (by omega)
            have n2 : 0 < k → ¬ needF ((f - (k - 1) + n : Nat) : Int) ≤ k - 1 := fun h0 h => by have := (own_need f n (k - 1)).1 h; omega
            have N1 := NEED (f - k + n)
            have N2 := NEED (f - (k - 1) + n)
            generalize needF ((f - k + n : Nat) : Int) = q1 at *
            generalize needF ((f - (k - 1) + n : Nat) : Int) = q2 at *
            have e1 : decide ((k : Int) < q1) = false := by simp; omega
            have e1' : decide (k < q1) = false := by simp; omega
            have HK := Lib.hid hk
            clear hk n1 NEED OWN
            go_wp2_with fail
            refine O.mono ?_
            rintro e w7 ⟨rfl, rfl⟩
            clear O
            go_wp2_with fail
            all_goals
              refine (N1 _ (by omega) (by omega)).mono ?_
              rintro e w7 ⟨rfl, rfl⟩
              by_cases h0 : 0 < k
              · have e2 : decide ((0 : Int) < k) = true := by simp; omega
                have n3 := n2 h0
                have e3 : decide ((q2 : Int) ≤ (k : Int) - 1) = false := by simp; omega
                clear n2 N1
                go_wp2_with fail
                all_goals
                  refine (N2 _ (by omega) (by omega)).mono ?_
                  rintro e w7 ⟨rfl, rfl⟩
                  clear N2 n3
                  go_wp2_with fail
                  go_round
                  case rel => exact ⟨f + 7, by go_num, by omega⟩
                  case measure => simp [intOf]; omega
              · have e2 : decide ((0 : Int) < k) = false := by simp; omega
                clear n2 N1 N2
                go_wp2_with fail
                go_round
                case rel => exact ⟨f + 7, by go_num, by omega⟩
                case measure => simp [intOf]; omega
          · have d0 : decide ((f : Int) < 200) = false := by simp; omega
            have d0' : decide (f < 200) = false := by simp; omega
            clear NEED OWN
            go_wp2_with fail
            go_ret
            exact ⟨rfl, HW.out⟩
end Go.Proofs.YtopnfpobbemfbaaDoor
