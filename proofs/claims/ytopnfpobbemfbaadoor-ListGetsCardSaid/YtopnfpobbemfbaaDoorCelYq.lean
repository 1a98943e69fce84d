/- The walks of the chapter on pages of cells: the document's pages, unpacked. -/
import Derived.Test.YtopnfpobbemfbaaDoorM4
namespace Go.Proofs.YtopnfpobbemfbaaDoor
open Go.RowKit

theorem pageOf_five (kind : UInt8) (c : List (List UInt8)) : (pageOf kind c)[5]? = some (UInt8.ofNat c.length) := by
  rw [pageOf, List.getElem?_append_right (by rw [beBytes_length]; omega), beBytes_length]; rfl
theorem unpB_big (l : List UInt8) (h : 122 < numS l) : unpB l = false := by
  rw [unpB, Nat.min_eq_right (by omega)]
  have : pageOf (kindS l) (cutS l 122) ≠ l := by
    intro e
    have h5 := pageOf_five (kindS l) (cutS l 122)
    rw [e, cutS_length] at h5
    rw [numS, h5] at h
    simp at h
  rw [beq_eq_false_iff_ne.2 this]; simp
theorem unpB_slot (l : List UInt8) (k : Nat) (h : okS l (k + 1) = false) (hk : k < min (numS l) 122) : unpB l = false := by
  rw [unpB, okS_mono l h hk, Bool.false_and]

def RUnpPost (w : World) (k : UInt8) (l : List (List UInt8)) (er : Int) (e : Ending) (w' : World) : Prop :=
  ∃ v, e = .returned (.tuple #[.int .u8 (k.toNat : Int), v, .int .i64 er]) ∧ w'.ownsRow w.heap.size 9 1 v l.length (l.map sv) ∧ Below w.heap.size w w'

def RUnpOk (w : World) (l : List UInt8) (e : Ending) (w' : World) : Prop := if unpB l then RUnpPost w (kindS l) (cutS l (min (numS l) 122)) 0 e w' else RUnpPost w 0 [] 11 e w'

set_option maxRecDepth 100000 in
set_option maxHeartbeats 1000000 in
theorem runpack_len (l : List UInt8) (w : World) (hl : l.length ≠ 128) (_hb : l.length ≤ 140737488351232) :
    Calls Tryd.prog 40 #[.string (strOf l)] w fun e w' => e = .returned (.tuple #[.int .u8 0, .slice none 0 0, .int .i64 1]) ∧ w = w' := by
  have hsz := strOf_size l
  generalize l.length = n at *
  have hne : ((n : Int) != 128) = true := by simp; omega
  have hne2 : ((n : Int) == 128) = false := by simp; omega
  go_enter Tryd.func40, Tryd.ntmps40
  go_wp2
  go_ret3
  exact ⟨rfl, rfl⟩

set_option maxRecDepth 100000 in
set_option maxHeartbeats 1000000 in
theorem runpack_sum (l : List UInt8) (w : World) (hl : l.length = 128) (hs : beVal (l.take 4) ≠ crcOf (l.drop 4)) :
    Calls Tryd.prog 40 #[.string (strOf l)] w (RUnpPost w 0 [] 12) := by
  have hsz : (strOf l).size = 128 := by rw [strOf_size, hl]
  have hx1 : (strOf l).extract 4 128 = strOf (l.drop 4) := by rw [strOf_extract, List.take_of_length_le (by simp [hl])]
  have hx2 : (strOf l).extract 0 4 = strOf (l.take 4) := by rw [strOf_extract]; rfl
  have hc := refOf_any (l.drop 4) w.drew (by simp [hl])
  have hx := crcOn_lt 0 (l.drop 4)
  change crcOf _ < _ at hx
  have hbe := be_iff (l.take 4) (crcOf (l.drop 4)) (by simp [hl]; omega)
  rw [show (l.take 4).length = 4 by simp [hl], decide_eq_false hs] at hbe
  generalize crcOf (l.drop 4) = s at *
  have hne : (beBytes s 4 != l.take 4) = true := by simpa using hbe
  have hw64 : (s : Int) % 18446744073709551616 = (s : Int) := by omega
  have hw64' : IntKind.u64.wrap (s : Int) = (s : Int) := by simp [IntKind.wrap, IntKind.signed, IntKind.bits]; omega
  have hn := refNum_ok s 4 w.drew (by omega) (by omega) (by omega)
  have hst := strOf_toList
  clear hl hs
  go_enter Tryd.func40, Tryd.ntmps40
  go_wp2_with fail
  go_region_with (first | (go_at_call 46; refine hc.mono ?_; rintro e w1 ⟨rfl, rfl⟩) | (go_at_call 29; refine hn.mono ?_; rintro e w2 ⟨rfl, hb2⟩))
  all_goals
    have hB := ((Below.refl w.heap.size w).drew).trans hb2
    go_wp2
    go_ret3
    exact ⟨_, rfl, World.ownsRow_nil _ _ _ _, hB⟩

set_option maxRecDepth 100000 in
set_option maxHeartbeats 4000000 in
theorem runpack_ok (l : List UInt8) (w : World) (hl : l.length = 128) (hs : beVal (l.take 4) = crcOf (l.drop 4)) :
    Calls Tryd.prog 40 #[.string (strOf l)] w (RUnpOk w l) := by
  have hsz : (strOf l).size = 128 := by rw [strOf_size, hl]
  have hx1 : (strOf l).extract 4 128 = strOf (l.drop 4) := by rw [strOf_extract, List.take_of_length_le (by simp [hl])]
  have hx2 : (strOf l).extract 0 4 = strOf (l.take 4) := by rw [strOf_extract]; rfl
  have hc := refOf_any (l.drop 4) w.drew (by simp [hl])
  have hx := crcOn_lt 0 (l.drop 4)
  change crcOf _ < _ at hx
  have hbe := be_iff (l.take 4) (crcOf (l.drop 4)) (by simp [hl]; omega)
  rw [show (l.take 4).length = 4 by simp [hl], decide_eq_true hs] at hbe
  generalize crcOf (l.drop 4) = s at *
  have hne : (beBytes s 4 != l.take 4) = false := by simpa using hbe
  have hw64 : (s : Int) % 18446744073709551616 = (s : Int) := by omega
  have hw64' : IntKind.u64.wrap (s : Int) = (s : Int) := by simp [IntKind.wrap, IntKind.signed, IntKind.bits]; omega
  have hn := refNum_ok s 4 w.drew (by omega) (by omega) (by omega)
  have hst := strOf_toList
  have HL := Lib.hid hl
  have h5 := strOf_get l 5 (by rw [HL.out]; omega)
  have h4 := strOf_get l 4 (by rw [HL.out]; omega)
  change _ = kindS l at h4
  have hn5 : (l[5]?.getD 0).toNat = numS l := rfl
  have hn256 : numS l < 256 := (l[5]?.getD 0).toNat_lt
  have hn0 : IntKind.i64.wrap ((numS l : Nat) : Int) = ((numS l : Nat) : Int) := IntWalk.i64_in _ (by omega)
  have HCUT := Lib.hid (show ∀ k, (strOf l).extract (slotS l k) (endS l k) = strOf (cellS l k) from fun k => strOf_extract _ _ _)
  have HGET := Lib.hid (show ∀ k (h : k < 122), (strOf l)[6 + k]'(by rw [strOf_size, HL.out]; omega) = l[6 + k]?.getD 0 from fun k h => strOf_get l (6 + k) (by rw [HL.out]; omega))
  obtain ⟨i0, hi, hz0, hz1, hz2⟩ := info_parts info_str
  clear hl hs
  go_enter Tryd.func40, Tryd.ntmps40
  go_wp2_with fail
  go_region_with (first | (go_at_call 46; refine hc.mono ?_; rintro e w1 ⟨rfl, rfl⟩) | (go_at_call 29; refine hn.mono ?_; rintro e w2 ⟨rfl, hb2⟩))
  all_goals
    have hB := ((Below.refl w.heap.size w).drew).trans hb2
    clear hc hn hb2 hx1 hx2 hbe
    go_wp2_with fail
    clear hn0
    go_loopw [6, 7, 8] (fun e v i wr => ∃ k : Nat, k ≤ numS l ∧ k ≤ 122 ∧ i = .int .i64 k ∧ e = .int .i64 ((endS l k : Nat) : Int) ∧ okS l k = true ∧ wr.ownsRow w.heap.size 9 1 v k ((cutS l k).map sv) ∧ Below w.heap.size w wr) (fun _ _ i _ => numS l - (intOf i).toNat)
    case atStart => exact ⟨0, Nat.zero_le _, by omega, rfl, rfl, rfl, World.ownsRow_nil _ _ _ _, hB⟩
    case round =>
      obtain ⟨k, hk, hk2, rfl, rfl, hok, hown, hb⟩ := hrel
      by_cases hlt : k < numS l
      · by_cases hlt2 : k < 122
        · have hget := HGET.out k hlt2
          have hq : slotS l k = (l[6 + k]?.getD 0).toNat := rfl
          have hend := okS_end l k hok
          have hsl := slotS_lt l k
          have hes : endS l (k + 1) = slotS l k := rfl
          have hok1 := okS_succ l k
          rw [hok, Bool.true_and] at hok1
          by_cases hle : slotS l k ≤ endS l k
          · have hcc := HCUT.out k
            have hcut := Lib.hid (cutS_succ l k)
            have HES := Lib.hid hes
            have HOK : Hid (okS l (k + 1) = true) := Lib.hid (by rw [hok1]; simpa using hle)
            clear hes hok1 hok
            generalize slotS l k = q at *
            generalize endS l k = e at *
            generalize cellS l k = c at *
            have hle2 : ¬ (e : Int) < (q : Int) := by omega
            have hqq : (l[6 + k]?.getD 0).toNat = q := hq.symm
            clear hq
            generalize l[6 + k]?.getD 0 = by1 at *
            have hown1 := hown.alloc (.cells #[.string (strOf c)] 9)
            have hcl : (wr.alloc (.cells #[.string (strOf c)] 9)).cell? ⟨wr.heap.size, 0, none⟩ = some (sv c) := by
              simp only [World.cell?, World.alloc_heap_new]; rfl
            have HSZ := Lib.hid hb.size
            have hB1 := Lib.hid (hb.alloc hb.size (.cells #[.string (strOf c)] 9))
            have HG := Lib.hid (own_ge hown)
            have hwq : IntKind.i64.wrap (q : Int) = (q : Int) := IntWalk.i64_in _ (by omega)
            clear hown hb
            go_wp2_with (at_builtin; refine wpList_append_one rfl _ _ 29 rfl w.heap.size 9 i0 _ 16 Tryd.underlying29 hi hz0 hz1 hz2 rfl _ k _ rfl hown1 wr.heap.size rfl (sv c) hcl rfl (by unfold maxLen; omega) (by omega) (by have := HSZ.out; simp; omega) ?_)
            intro v2 w5 hown2 hg
            have HB := Lib.hid (hB1.out.grown hg (by have := HSZ.out; simp; omega) (fun j e => HG.out j e))
            clear hg
            go_wp2
            go_roundw
            case rel => exact ⟨k + 1, by omega, by omega, by go_num, by rw [HES.out], HOK.out, by rw [hcut.out, List.map_append]; exact hown2, HB.out⟩
            case measure => simp [intOf]; omega
          · have hq' : (l[6 + k]?.getD 0).toNat = slotS l k := rfl
            have HR := Lib.hid (unpB_slot l k (by rw [hok1]; simpa using hle) (by omega))
            clear hes hok1 hok hown hend hq
            generalize slotS l k = q at *
            generalize endS l k = e at *
            generalize l[6 + k]?.getD 0 = by1 at *
            have hle2 : (e : Int) < (q : Int) := by omega
            have hwq : IntKind.i64.wrap (q : Int) = (q : Int) := IntWalk.i64_in _ (by omega)
            go_wp2_with fail
            go_ret3
            rw [RUnpOk, HR.out]
            exact ⟨_, rfl, World.ownsRow_nil _ _ _ _, hb⟩
        · have HR := Lib.hid (unpB_big l (by omega))
          obtain rfl : k = 122 := by omega
          go_wp2_with fail
          go_ret3
          rw [RUnpOk, HR.out]
          exact ⟨_, rfl, World.ownsRow_nil _ _ _ _, hb⟩
      · obtain rfl : k = numS l := by omega
        have HMIN := Lib.hid (show min (numS l) 122 = numS l from Nat.min_eq_left hk2)
        have hcl := cutS_lens l (numS l) HL.out hok
        have hcn := cutS_length l (numS l)
        have hgen := hown
        obtain ⟨ao, co, rfl, hss⟩ := Strs.of_own hown
        have hpk := rpack_any (kindS l) ao (numS l) co (cutS l (numS l)) wr hss (by omega)
        have hout := Lib.hid (show wr.ownsRow w.heap.size 9 1 (.slice ao (numS l) co) (cutS l (numS l)).length ((cutS l (numS l)).map sv) by rw [hcn]; exact hgen)
        have HOKK := Lib.hid hok
        clear hcl hcn hok hown hgen hss
        by_cases hf : fits (kindS l) (cutS l (numS l)) = true
        · have hpv : packV (kindS l) (cutS l (numS l)) = pageOf (kindS l) (cutS l (numS l)) := by rw [packV, if_pos hf]
          have hpe : packE (kindS l) (cutS l (numS l)) = 0 := by rw [packE, if_pos hf]
          rw [hpv, hpe] at hpk
          have HR := Lib.hid (show unpB l = (pageOf (kindS l) (cutS l (numS l)) == l) by rw [unpB, HMIN.out, HOKK.out, hf, Bool.true_and, Bool.true_and])
          clear hpv hpe hf
          go_wp2_with fail
          refine hpk.mono ?_
          rintro e w5 ⟨rfl, hb5⟩
          have hB5 := below_then hb hb5
          have HOUT5 := Lib.hid (own_below hout.out (Nat.le_refl _) hb5)
          cases hq : (pageOf (kindS l) (cutS l (numS l)) == l)
          · have hq2 : (pageOf (kindS l) (cutS l (numS l)) != l) = true := by rw [bne, hq]; rfl
            have HQ := Lib.hid (HR.out.trans hq)
            clear hpk hb hb5 HR
            generalize pageOf (kindS l) (cutS l (numS l)) = pg at *
            go_wp2_with fail
            go_ret3
            rw [RUnpOk, HQ.out]
            exact ⟨_, rfl, World.ownsRow_nil _ _ _ _, hB5⟩
          · have hq2 : (pageOf (kindS l) (cutS l (numS l)) != l) = false := by rw [bne, hq]; rfl
            have HQ := Lib.hid (HR.out.trans hq)
            clear hpk hb hb5 HR
            generalize pageOf (kindS l) (cutS l (numS l)) = pg at *
            go_wp2_with fail
            go_ret3
            rw [RUnpOk, HQ.out, HMIN.out]
            exact ⟨_, rfl, HOUT5.out, hB5⟩
        · have hpe : packE (kindS l) (cutS l (numS l)) = 1 := by rw [packE, if_neg hf]
          have hpv : packV (kindS l) (cutS l (numS l)) = [] := by rw [packV, if_neg hf]
          have HR := Lib.hid (show unpB l = false by rw [unpB, HMIN.out, Bool.eq_false_iff.2 hf, Bool.false_and, Bool.and_false])
          rw [hpv, hpe] at hpk
          clear hpv hpe hf
          go_wp2_with fail
          refine hpk.mono ?_
          rintro e w5 ⟨rfl, hb5⟩
          have hB5 := below_then hb hb5
          clear hpk hb hb5
          go_wp2_with fail
          go_ret3
          rw [RUnpOk, HR.out]
          exact ⟨_, rfl, World.ownsRow_nil _ _ _ _, hB5⟩

theorem runpack_any (l : List UInt8) (w : World) (hl : l.length ≤ 140737488351232) :
    Calls Tryd.prog 40 #[.string (strOf l)] w (RUnpPost w (unpK l) (unpL l) (unpE l)) := by
  by_cases h1 : l.length = 128
  · by_cases h2 : beVal (l.take 4) = crcOf (l.drop 4)
    · refine (runpack_ok l w h1 h2).mono ?_
      intro e w' hp
      unfold RUnpOk at hp
      have hE : unpE l = if unpB l then 0 else 11 := by rw [unpE, if_neg (by omega), if_neg (by simpa using h2)]
      by_cases hB : unpB l = true
      · rw [if_pos hB] at hp
        rw [if_pos hB] at hE
        rw [unpK, unpL, hE]; exact hp
      · rw [if_neg hB] at hp
        rw [if_neg hB] at hE
        rw [unpK, unpL, hE]; exact hp
    · refine (runpack_sum l w h1 h2).mono ?_
      intro e w' hp
      have hE : unpE l = 12 := by rw [unpE, if_neg (by omega), if_pos h2]
      rw [unpK, unpL, hE]; exact hp
  · refine (runpack_len l w h1 hl).mono ?_
    rintro e w' ⟨rfl, rfl⟩
    have hE : unpE l = 1 := by rw [unpE, if_pos h1]
    rw [unpK, unpL, hE]
    exact ⟨_, rfl, World.ownsRow_nil _ _ _ _, Below.refl _ _⟩
end Go.Proofs.YtopnfpobbemfbaaDoor
