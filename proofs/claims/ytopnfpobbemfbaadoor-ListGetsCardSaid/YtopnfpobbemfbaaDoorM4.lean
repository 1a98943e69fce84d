/- Texts that other texts of this claim lean on, one behind the other. -/
import Derived.Test.YtopnfpobbemfbaaDoorM2
import Derived.Outline
import Derived.Test.YtopnfpobbemfbaaDoorM3
import Derived.Test.YtopnfpobbemfbaaDoorM1
import Derived.Maps.AppendAt
import Derived.Laws.OwnMore
import Derived.Deep.AppendLies
import Derived.RegionTactic
import Derived.OwnWalk
import Derived.Deep.MidRow
import Derived.Deep.WholeRow
import Derived.Great.BuildSlice
import Derived.Maps.Own
import Derived.Maps.OwnOps
import Derived.Maps.Views
import Derived.Deep.RegionHeld
/- The walks of the chapter on pages of cells: a page is unpacked, the walk. -/
namespace Go.Proofs.YtopnfpobbemfbaaDoor
open Go.RowKit

/-- What 'Unpack' hands back: a kind, cells of their own, an error. -/
def UnpPost (w : World) (k : UInt8) (l : List (List UInt8)) (er : Int) (e : Ending) (w' : World) : Prop :=
  ∃ v, e = .returned (.tuple #[.int .u8 (k.toNat : Int), v, .int .i64 er]) ∧ OwnBss w' w.heap.size v l ∧ Below w.heap.size w w'

set_option maxRecDepth 100000 in
set_option maxHeartbeats 1000000 in
theorem unpack_len (a : Option Addr) (len cap : Nat) (l : List UInt8) (w : World) (h : Bs w a len cap l) (hl : len ≠ 128) :
    Calls Tryd.prog 49 #[.slice a len cap] w fun e w' => e = .returned (.tuple #[.int .u8 0, .slice none 0 0, .int .i64 1]) ∧ w = w' := by
  have hne : ((len : Int) != 128) = true := by simp; omega
  have hne2 : ((len : Int) == 128) = false := by simp; omega
  have hc := h.cap
  unfold maxLen at hc
  go_enter Tryd.func49, Tryd.ntmps49
  go_wp2
  go_ret3
  exact ⟨rfl, rfl⟩

theorem tNum_four (l : List UInt8) (h : 4 ≤ l.length) : tNum ⟨l, 0⟩ 4 = (beVal (l.take 4), ⟨l.drop 4, 0⟩) := by
  simp [tNum, takeF, show ¬ l.length < 4 by omega]

set_option maxRecDepth 100000 in
set_option maxHeartbeats 1000000 in
theorem unpack_sum (a : Option Addr) (cap : Nat) (l : List UInt8) (w : World) (h : Bs w a 128 cap l) (hh : Half w) (hs : beVal (l.take 4) ≠ crcOf (l.drop 4)) :
    Calls Tryd.prog 49 #[.slice a 128 cap] w (UnpPost w 0 [] 12) := by
  have hll := Lib.hid h.len
  have hc := h.cap
  unfold maxLen at hc
  obtain ⟨a2, ha2, hsl⟩ := slice_from elem_bytes size_bytes a 128 cap 4 (by omega)
  have hsl4 : ∀ w, (Instr.slice 32 (.slice a 128 cap) (some (.int .i64 4)) none none).run Tryd.prog w = .ok (.slice a2 124 (cap - 4)) w := hsl .i64
  have hd := h.drop 4 (by omega)
  rw [← ha2] at hd
  have hT := take_any a 128 cap l w.drew h (by omega)
  have hO : ∀ W, Below w.heap.size w W → Calls Tryd.prog 43 #[.slice a2 124 (cap - 4)] W fun e w' => e = .returned (.int .u32 (crcOf (l.drop 4))) ∧ W = w' := fun W hW => crcOf_any _ _ _ _ W (hd.below (Nat.le_refl _) hW) (hh.below (Nat.le_refl _) hW)
  have hN : ∀ t W, Tk W t ⟨l, 0⟩ → Calls Tryd.prog 57 #[.pointer (some ⟨t, 0, none⟩), .int .i64 4] W (TkPost W t (fun _ v => v = .int .u64 (beVal (l.take 4) : Int)) ⟨l.drop 4, 0⟩) := fun t W hW => by
    have := tNum_any t ⟨l, 0⟩ 4 W hW (by rw [hll.out]; omega)
    rw [tNum_four l (by rw [hll.out]; omega)] at this
    exact this
  have hx := crcOn_lt 0 (l.drop 4)
  change crcOf _ < _ at hx
  generalize crcOf (l.drop 4) = s at *
  generalize beVal (l.take 4) = x at *
  have hne : ((x : Int) != (s : Int)) = true := by simp; omega
  have hw64 : (s : Int) % 18446744073709551616 = (s : Int) := by omega
  have hw64' : IntKind.u64.wrap (s : Int) = (s : Int) := by simp [IntKind.wrap, IntKind.signed, IntKind.bits]; omega
  have hB0 : Below w.heap.size w w.drew := (Below.refl _ _).drew
  clear ha2 hsl hs hh
  go_enter Tryd.func49, Tryd.ntmps49
  go_wp2_with fail
  go_region_with (first | (go_at_call 56; refine hT.mono ?_; rintro e w1 ⟨rfl, htk, hlt, hb1⟩; have hB1 := below_then hB0 hb1) | (go_at_call 57; refine (hN _ _ htk).mono ?_; rintro e w2 ⟨_, rfl, rfl, hg2, htk2⟩; have hB2 := below_take hB1 hlt hg2) | (go_at_call 43; refine (hO _ (by assumption)).mono ?_; rintro e wx ⟨rfl, rfl⟩))
  all_goals
    go_wp2
    go_ret3
    exact ⟨_, rfl, OwnBss.nil _ _, hB2⟩

def UnpOk (w : World) (l : List UInt8) (m : Nat) (e : Ending) (w' : World) : Prop :=
  if okS l m && (fits (kindS l) (cutS l m) && pageOf (kindS l) (cutS l m) == l) then UnpPost w (kindS l) (cutS l m) 0 e w' else UnpPost w 0 [] 11 e w'

theorem sub_run6 (b off cap n : Nat) (hn : n ≤ 122) (hc : 128 ≤ cap) (W : World) : (Instr.slice 32 (.slice (some ⟨b, off, none⟩) 128 cap) (some (.int .i64 6)) (some (.int .i64 (6 + (n : Int)))) (some (.int .i64 128))).run Tryd.prog W = .ok (.slice (some ⟨b, off + 6, none⟩) n 122) W := by
  obtain ⟨sa, hsa, hsr⟩ := sub_run elem_bytes size_bytes (some ⟨b, off, none⟩) 128 cap 6 (6 + n) 128 (by omega) (by omega) (by omega)
  have := hsr .i64 .i64 .i64 W
  rw [show 6 + n - 6 = n by omega, hsa] at this
  simpa [add_none] using this

theorem info_bytes : (Tryd.prog.info? 32).map (fun i => (i.zero, i.size, i.bytes)) = some (some (.slice none 0 0), 1, 24) := by kernel_rfl

set_option maxRecDepth 100000 in
set_option maxHeartbeats 4000000 in
theorem unpack_ok (a : Option Addr) (cap : Nat) (l : List UInt8) (w : World) (h : Bs w a 128 cap l) (hh : Half w) (hs : beVal (l.take 4) = crcOf (l.drop 4)) (m : Nat) (hm : (numS l ≤ 122 ∧ m = numS l) ∨ (122 < numS l ∧ m = 122)) :
    Calls Tryd.prog 49 #[.slice a 128 cap] w (UnpOk w l m) := by
  have hll := Lib.hid h.len
  have hc := h.cap
  unfold maxLen at hc
  obtain ⟨a2, ha2, hsl⟩ := slice_from elem_bytes size_bytes a 128 cap 4 (by omega)
  have hsl4 : ∀ w, (Instr.slice 32 (.slice a 128 cap) (some (.int .i64 4)) none none).run Tryd.prog w = .ok (.slice a2 124 (cap - 4)) w := hsl .i64
  have hd := h.drop 4 (by omega)
  rw [← ha2] at hd
  have hT := take_any a 128 cap l w.drew h (by omega)
  have hO : ∀ W, Below w.heap.size w W → Calls Tryd.prog 43 #[.slice a2 124 (cap - 4)] W fun e w' => e = .returned (.int .u32 (crcOf (l.drop 4))) ∧ W = w' := fun W hW => crcOf_any _ _ _ _ W (hd.below (Nat.le_refl _) hW) (hh.below (Nat.le_refl _) hW)
  have hN : ∀ t W, Tk W t ⟨l, 0⟩ → Calls Tryd.prog 57 #[.pointer (some ⟨t, 0, none⟩), .int .i64 4] W (TkPost W t (fun _ v => v = .int .u64 (beVal (l.take 4) : Int)) ⟨l.drop 4, 0⟩) := fun t W hW => by
    have := tNum_any t ⟨l, 0⟩ 4 W hW (by rw [hll.out]; omega)
    rw [tNum_four l (by rw [hll.out]; omega)] at this
    exact this
  have hx := crcOn_lt 0 (l.drop 4)
  change crcOf _ < _ at hx
  rw [hs] at hN
  generalize crcOf (l.drop 4) = s at *
  have hw64 : (s : Int) % 18446744073709551616 = (s : Int) := by omega
  have hw64' : IntKind.u64.wrap (s : Int) = (s : Int) := by simp [IntKind.wrap, IntKind.signed, IntKind.bits]; omega
  have hB0 : Below w.heap.size w w.drew := (Below.refl _ _).drew
  obtain ⟨b, off, rfl, hbb, hcell⟩ := h.cell (k := 0) (by omega)
  have H := Lib.hid h
  have HH := Lib.hid hh
  clear ha2 hsl hs hh hd h
  go_enter Tryd.func49, Tryd.ntmps49
  go_wp2_with fail
  go_region_with (first | (go_at_call 56; refine hT.mono ?_; rintro e w1 ⟨rfl, htk, hlt, hb1⟩; have hB1 := below_then hB0 hb1) | (go_at_call 57; refine (hN _ _ htk).mono ?_; rintro e w2 ⟨_, rfl, rfl, hg2, htk2⟩; have hB2 := below_take hB1 hlt hg2) | (go_at_call 43; refine (hO _ (by assumption)).mono ?_; rintro e wx ⟨rfl, rfl⟩))
  all_goals
    clear hT hO hN hsl4 htk htk2 hg2 hb1 hB1
    have hc4 : w2.cell? ⟨b, off + 4, none⟩ = some (.int .u8 ((kindS l).toNat : Int)) := (hB2.cell (p := ⟨b, off + 4, none⟩) hbb).trans (hcell 4 (by omega))
    have hc5 : w2.cell? ⟨b, off + 5, none⟩ = some (.int .u8 ((numS l : Nat) : Int)) := (hB2.cell (p := ⟨b, off + 5, none⟩) hbb).trans (hcell 5 (by omega))
    have hn256 : numS l < 256 := (l[5]?.getD 0).toNat_lt
    obtain ⟨i0, hi, hz0, hz1, hz2⟩ := info_parts info_bytes
    have hn0 : IntKind.i64.wrap ((numS l : Nat) : Int) = ((numS l : Nat) : Int) := IntWalk.i64_in _ (by omega)
    go_wp2_with fail
    go_quiet (fail)
    clear hc4 hc5 hn0
    have hB2 := below_drewN hB2 nq
    generalize w2.drewN nq = w3 at *
    rcases hm with ⟨hm1, hm2⟩ | ⟨hm1, hm2⟩
    all_goals
      have HM := Lib.hid hm2
      clear hm2
      try (have hs6 : ∀ W, (Instr.slice 32 (.slice (some ⟨b, off, none⟩) 128 cap) (some (.int .i64 6)) (some (.int .i64 (6 + ((numS l : Nat) : Int)))) (some (.int .i64 128))).run Tryd.prog W = .ok (.slice (some ⟨b, off + 6, none⟩) (numS l) 122) W := sub_run6 b off cap (numS l) hm1 hc.1)
      go_wp2_with fail
      try clear hs6
      go_loopw [8, 9, 42] (fun v e i wr => ∃ k : Nat, k ≤ m ∧ i = .int .i64 k ∧ e = .int .i64 ((endS l k : Nat) : Int) ∧ okS l k = true ∧ OwnBss wr w.heap.size v (cutS l k) ∧ Below w.heap.size w wr) (fun _ _ i _ => m - (intOf i).toNat)
      case atStart => exact ⟨0, Nat.zero_le _, rfl, rfl, rfl, OwnBss.nil _ _, hB2⟩
      case round =>
        obtain ⟨k, hk, rfl, rfl, hok, hown, hb⟩ := hrel
        by_cases hlt : k < m
        · have hck : wr.cell? ⟨b, off + 6 + k, none⟩ = some (.int .u8 ((slotS l k : Nat) : Int)) := by
            have hmm := HM.out
            rw [hb.cell (p := ⟨b, off + 6 + k, none⟩) hbb, Nat.add_assoc, hcell (6 + k) (by omega)]; rfl
          have hklt : k < 122 ∧ k < numS l := by have := HM.out; omega
          have hend := okS_end l k hok
          have hsl := slotS_lt l k
          have hes : endS l (k + 1) = slotS l k := rfl
          have hok1 := okS_succ l k
          rw [hok, Bool.true_and] at hok1
          by_cases hle : slotS l k ≤ endS l k
          · obtain ⟨sa, hsa, hsr⟩ := sub_run elem_bytes size_bytes (some ⟨b, off, none⟩) 128 cap (slotS l k) (endS l k) (endS l k) hle (Nat.le_refl _) (by omega)
            have hrow := (H.out.below (Nat.le_refl _) hb).sub (slotS l k) (endS l k) (endS l k) hle (by omega) (Nat.le_refl _) (by omega)
            rw [← hsa] at hrow
            have hrow : Bs wr sa (endS l k - slotS l k) (endS l k - slotS l k) (cellS l k) := hrow
            have hcut := Lib.hid (cutS_succ l k)
            have HES := Lib.hid hes
            have HOK : Hid (okS l (k + 1) = true) := Lib.hid (by rw [hok1]; simpa using hle)
            clear hsa hes hok1 hok
            generalize slotS l k = q at *
            generalize endS l k = e at *
            generalize cellS l k = c at *
            have hle2 : ¬ (e : Int) < (q : Int) := by omega
            go_wp2_with fail
            refine (bclone_any sa (e - q) (e - q) c wr hrow (by omega)).mono ?_
            rintro e1 w4 ⟨u, rfl, hu, hb4⟩
            obtain ⟨a9, c9, rfl, _⟩ := own_slice hu
            obtain ⟨vs, ho1, ho2, ho3⟩ := (hown.below (Nat.le_refl _) hb4).below (Nat.le_refl _) ((Below.refl _ _).alloc (Nat.le_refl _) (.cells #[.slice a9 c.length c9] 32))
            rw [cutS_length] at ho1
            have hcl : (w4.alloc (.cells #[.slice a9 c.length c9] 32)).cell? ⟨w4.heap.size, 0, none⟩ = some (.slice a9 c.length c9) := by
              simp only [World.cell?, World.alloc_heap_new]; rfl
            have HU := Lib.hid ((own_base hu hb.size).alloc (.cells #[.slice a9 c.length c9] 32))
            have HB4 := Lib.hid ((below_then hb hb4).alloc (below_then hb hb4).size (.cells #[.slice a9 c.length c9] 32))
            have HSZ := Lib.hid (show w.heap.size ≤ w4.heap.size from Nat.le_trans hb.size hb4.size)
            have HL := Lib.hid (cutS_length l k)
            have HO2 := Lib.hid ho2
            have HO3 := Lib.hid ho3
            clear ho2 ho3 hu hown hb4 hrow
            go_wp2_with (at_builtin; refine wpList_append_one rfl _ _ 25 rfl w.heap.size 32 i0 _ 24 Tryd.underlying25 hi hz0 hz1 hz2 rfl _ k vs rfl ho1 w4.heap.size rfl (.slice a9 c.length c9) hcl rfl (by unfold maxLen; omega) (by omega) (by have := HSZ.out; simp; omega) ?_)
            intro v2 w5 hown2 hg
            have HSN := Lib.hid (OwnBss.snoc ho1 HL.out.symm HO2.out HO3.out HU.out hg hown2)
            have HB := Lib.hid (HB4.out.grown hg (by have := HSZ.out; simp; omega) (own_ge ho1))
            clear hg hown2 ho1
            go_wp2
            go_roundw
            case rel => exact ⟨k + 1, by omega, by go_num, by rw [HES.out], HOK.out, by rw [hcut.out]; exact HSN.out, HB.out⟩
            case measure => simp [intOf]; omega
          · have hres : (okS l m && (fits (kindS l) (cutS l m) && pageOf (kindS l) (cutS l m) == l)) = false := by
              rw [okS_mono l (m := k + 1) (by rw [hok1]; simpa using hle) hlt, Bool.false_and]
            have HR := Lib.hid hres
            clear hres hok1 hes hok hown hend
            generalize slotS l k = q at *
            generalize endS l k = e at *
            have hle2 : (e : Int) < (q : Int) := by omega
            go_wp2_with fail
            go_ret3
            rw [UnpOk, HR.out]
            exact ⟨_, rfl, OwnBss.nil _ _, hb⟩
        · obtain rfl : k = m := by omega
          obtain ⟨ao, co, rfl, hbss⟩ := hown.bss
          have hcl := cutS_lens l k hll.out hok
          have hcn := cutS_length l k
          rw [hcn] at hbss
          have hpk := pack_any (kindS l) ao k co (cutS l k) wr hbss (HH.out.below (Nat.le_refl _) hb) (by have := HM.out; omega)
          rw [hcn] at hown
          have hout := Lib.hid hown
          rw [hcn]
          have hbase := hb.size
          have hrow := H.out.below (Nat.le_refl _) hb
          have HOKK := Lib.hid hok
          try (have hge : numS l ≤ k := by have := HM.out; omega)
          try (have hge2 : 122 ≤ k := by have := HM.out; omega)
          clear hcl hcn hok hown hbss
          by_cases hf : fits (kindS l) (cutS l k) = true
          · have hpv : packV (kindS l) (cutS l k) = pageOf (kindS l) (cutS l k) := by rw [packV, if_pos hf]
            have hpe : packE (kindS l) (cutS l k) = 0 := by rw [packE, if_pos hf]
            rw [hpv, hpe] at hpk
            have HF := Lib.hid hf
            clear hpv hpe hf
            go_wp2_with fail
            refine hpk.mono ?_
            rintro e w5 ⟨v5, rfl, hown5, hb5⟩
            obtain ⟨a5, c5, rfl, hbs5⟩ := Bs.of_own hown5
            have hB5 := below_then hb hb5
            have HOUT5 := Lib.hid (hout.out.below (Nat.le_refl _) hb5)
            go_wp2_with fail
            refine (equal_any a5 _ c5 (pageOf (kindS l) (cutS l k)) (some ⟨b, off, none⟩) 128 cap l w5 hbs5 (hrow.below (Nat.le_refl _) hb5)).mono ?_
            rintro e w6 ⟨rfl, rfl⟩
            have HR := Lib.hid (show (okS l k && (fits (kindS l) (cutS l k) && pageOf (kindS l) (cutS l k) == l)) = (pageOf (kindS l) (cutS l k) == l) by rw [HOKK.out, HF.out, Bool.true_and, Bool.true_and])
            cases hq : (pageOf (kindS l) (cutS l k) == l)
            · have HQ := Lib.hid hq
              clear hq hpk hrow hb hown5 hbs5 hb5
              go_wp2_with fail
              go_ret3
              rw [UnpOk, HR.out, HQ.out]
              exact ⟨_, rfl, OwnBss.nil _ _, hB5⟩
            · have HQ := Lib.hid hq
              clear hq hpk hrow hb hown5 hbs5 hb5
              go_wp2_with fail
              go_ret3
              rw [UnpOk, HR.out, HQ.out]
              exact ⟨_, rfl, HOUT5.out, hB5⟩
          · have hpe : packE (kindS l) (cutS l k) = 1 := by rw [packE, if_neg hf]
            have hpv : packV (kindS l) (cutS l k) = [] := by rw [packV, if_neg hf]
            have HR := Lib.hid (show (okS l k && (fits (kindS l) (cutS l k) && pageOf (kindS l) (cutS l k) == l)) = false by rw [Bool.eq_false_iff.2 hf, Bool.false_and, Bool.and_false])
            rw [hpv, hpe] at hpk
            clear hpv hpe hf
            go_wp2_with fail
            refine hpk.mono ?_
            rintro e w5 ⟨v5, rfl, hown5, hb5⟩
            have hB5 := below_then hb hb5
            clear hpk hrow hb hown5 hb5
            go_wp2_with fail
            go_ret3
            rw [UnpOk, HR.out]
            exact ⟨_, rfl, OwnBss.nil _ _, hB5⟩
end Go.Proofs.YtopnfpobbemfbaaDoor

/- The walks of the chapter on pages of cells: rows of texts held against each other; the document's pages, unpacked. -/
namespace Go.Proofs.YtopnfpobbemfbaaDoor
open Go.RowKit

theorem beBytes_beVal (t : List UInt8) : beBytes (beVal t) t.length = t := by
  have key : ∀ r : List UInt8, beBytes (beVal r.reverse) r.reverse.length = r.reverse := by
    intro r
    induction r with
    | nil => rfl
    | cons b r ih =>
      rw [List.reverse_cons, beVal_snoc, List.length_append]
      show beBytes _ (r.reverse.length + 1) = _
      rw [beBytes]
      have hb := b.toNat_lt
      have e1 : (beVal r.reverse * 256 + b.toNat) / 256 = beVal r.reverse := by omega
      have e2 : UInt8.ofNat (beVal r.reverse * 256 + b.toNat) = b := by
        apply UInt8.toNat_inj.1
        rw [UInt8.toNat_ofNat']; omega
      rw [e1, e2, ih]
  have := key t.reverse
  rwa [List.reverse_reverse] at this
theorem be_iff (t : List UInt8) (x : Nat) (hx : x < 256 ^ t.length) : (beBytes x t.length == t) = decide (beVal t = x) := by
  by_cases h : beVal t = x
  · subst h; rw [beBytes_beVal]; simp
  · have : beBytes x t.length ≠ t := by
      intro e
      apply h
      have h2 := beVal_beBytes x t.length
      rw [e, Nat.mod_eq_of_lt hx] at h2
      exact h2
    simp [h, this]

theorem unpack_any (a : Option Addr) (len cap : Nat) (l : List UInt8) (w : World) (h : Bs w a len cap l) (hh : Half w) :
    Calls Tryd.prog 49 #[.slice a len cap] w (UnpPost w (unpK l) (unpL l) (unpE l)) := by
  have hl := h.len
  by_cases h1 : len = 128
  · subst h1
    by_cases h2 : beVal (l.take 4) = crcOf (l.drop 4)
    · refine (unpack_ok a cap l w h hh h2 (min (numS l) 122) (by omega)).mono ?_
      intro e w' hp
      unfold UnpOk at hp
      have hE : unpE l = if unpB l then 0 else 11 := by rw [unpE, if_neg (by omega), if_neg (by simpa using h2)]
      by_cases hB : unpB l = true
      · rw [if_pos (show (okS l (min (numS l) 122) && (fits (kindS l) (cutS l (min (numS l) 122)) && pageOf (kindS l) (cutS l (min (numS l) 122)) == l)) = true from hB)] at hp
        rw [if_pos hB] at hE
        rw [unpK, unpL, hE]; exact hp
      · have hn : ¬ (okS l (min (numS l) 122) && (fits (kindS l) (cutS l (min (numS l) 122)) && pageOf (kindS l) (cutS l (min (numS l) 122)) == l)) = true := hB
        rw [if_neg hn] at hp
        rw [if_neg hB] at hE
        rw [unpK, unpL, hE]; exact hp
    · refine (unpack_sum a cap l w h hh h2).mono ?_
      intro e w' hp
      have hE : unpE l = 12 := by rw [unpE, if_neg (by omega), if_pos h2]
      rw [unpK, unpL, hE]; exact hp
  · refine (unpack_len a len cap l w h h1).mono ?_
    rintro e w' ⟨rfl, rfl⟩
    have hE : unpE l = 1 := by rw [unpE, if_pos (by omega)]
    rw [unpK, unpL, hE]
    exact ⟨_, rfl, OwnBss.nil _ _, Below.refl _ _⟩

/-- The call only reads; it hands back a bool. -/
def DrewB (w : World) (b : Bool) (e : Ending) (w' : World) : Prop := ∃ q : Nat, e = .returned (.bool b) ∧ w' = w.drewN q

set_option maxRecDepth 100000 in
set_option maxHeartbeats 1000000 in
theorem same_any (a b : Option Addr) (n cap m cap2 : Nat) (l r : List (List UInt8)) (w : World) (h : Strs w a n cap l) (h2 : Strs w b m cap2 r) :
    Calls Tryd.prog 13 #[.slice a n cap, .slice b m cap2] w (DrewB w (l == r)) := by
  have hl1 := h.1
  have hl2 := h2.1
  have hm := h.2.2.1
  have hc := h.2.1
  have hm2 := h2.2.2.1
  have hc2 := h2.2.1
  unfold maxLen at hm hm2
  by_cases hnm : n = m
  · subst hnm
    have HL1 := Lib.hid hl1
    have HL2 := Lib.hid hl2
    have hne : ((n : Int) != (n : Int)) = false := by simp
    clear hl1 hl2
    go_enter Tryd.func13, Tryd.ntmps13
    go_wp2
    go_loopw [4, 5] (fun r0 i wr => ∃ k q : Nat, k ≤ n ∧ i = .int .i64 k ∧ r0 = .bool false ∧ l.take k = r.take k ∧ wr = w.drewN q) (fun _ i _ => n - (intOf i).toNat)
    case atStart => exact ⟨0, 0, Nat.zero_le _, rfl, rfl, rfl, rfl⟩
    case round =>
      obtain ⟨k, q, hk, rfl, rfl, htk, rfl⟩ := hrel
      by_cases hlt : k < n
      · obtain ⟨b1, off1, rfl, _, hc1⟩ := h.at hlt
        obtain ⟨b2, off2, rfl, _, hc2⟩ := h2.at hlt
        have t1 := take_snoc l k [] (by rw [HL1.out]; exact hlt)
        have t2 := take_snoc r k [] (by rw [HL2.out]; exact hlt)
        have i1 : l[k]? = some (l[k]?.getD []) := by rw [List.getElem?_eq_getElem (by rw [HL1.out]; exact hlt)]; rfl
        have i2 : r[k]? = some (r[k]?.getD []) := by rw [List.getElem?_eq_getElem (by rw [HL2.out]; exact hlt)]; rfl
        generalize l[k]?.getD [] = x at *
        generalize r[k]?.getD [] = y at *
        have HT := Lib.hid htk
        have T1 := Lib.hid t1
        have T2 := Lib.hid t2
        have I1 := Lib.hid i1
        have I2 := Lib.hid i2
        clear htk t1 t2 i1 i2
        have hst := strOf_toList
        have hc1 : (w.drewN q).cell? ⟨b1, off1 + k, none⟩ = some (.string (strOf x)) := hc1
        have hc2 : (w.drewN q).cell? ⟨b2, off2 + k, none⟩ = some (.string (strOf y)) := hc2
        by_cases hxy : x = y
        · subst hxy
          have hq1 : (x != x) = false := by simp
          have hq2 : (x == x) = true := by simp
          go_wp2_with fail
          go_quiet (fail)
          go_wp2
          go_roundw
          case rel => exact ⟨k + 1, q + nq, by omega, by go_num, rfl, by rw [T1.out, T2.out, HT.out], rfl⟩
          case measure => simp [intOf]; omega
        · have hq1 : (x != y) = true := by simpa using hxy
          have hq2 : (x == y) = false := by simpa using hxy
          have HR : Hid ((l == r) = false) := Lib.hid (by
            rw [beq_eq_false_iff_ne]
            intro e
            have := I1.out
            rw [e, I2.out] at this
            exact hxy (Option.some.inj this).symm)
          clear hxy
          go_wp2_with fail
          go_quiet (fail)
          go_wp2
          go_ret
          exact ⟨q + nq, by rw [HR.out]; rfl, by simp [World.drewN, Nat.add_assoc]⟩
      · obtain rfl : k = n := by omega
        have x1 : l.take k = l := List.take_of_length_le (by rw [HL1.out]; exact Nat.le_refl _)
        have x2 : r.take k = r := List.take_of_length_le (by rw [HL2.out]; exact Nat.le_refl _)
        rw [x1, x2] at htk
        have HR : Hid ((l == r) = true) := Lib.hid (by simpa using htk)
        clear x1 x2 htk
        go_wp2
        go_ret
        exact ⟨q, by rw [HR.out]; rfl, rfl⟩
  · have hne : ((n : Int) != (m : Int)) = true := by simp; omega
    have hne2 : ((n : Int) == (m : Int)) = false := by simp; omega
    have HR : Hid ((l == r) = false) := Lib.hid (by
      rw [beq_eq_false_iff_ne]
      intro e; rw [e] at hl1; omega)
    clear hl1 hl2
    go_enter Tryd.func13, Tryd.ntmps13
    go_wp2
    go_ret
    exact ⟨0, by rw [HR.out]; rfl, rfl⟩

end Go.Proofs.YtopnfpobbemfbaaDoor

/- Boxes: blocks that are known whole; carried through worlds all at once. -/
namespace Go.Proofs.YtopnfpobbemfbaaDoor
open Go.RowKit

/-- Blocks, and what they hold. -/
def Boxes (w : World) (l : List (Nat × List Value)) : Prop := ∀ p ∈ l, ∃ t, w.heap[p.1]? = some (.cells p.2.toArray t (0, 0))
theorem Boxes.nil (w : World) : Boxes w [] := fun p h => by simp at h
theorem Boxes.cons {w : World} {l : List (Nat × List Value)} {b : Nat} {vs : List Value} {t : TypeId} (h : w.heap[b]? = some (.cells vs.toArray t (0, 0))) (hl : Boxes w l) : Boxes w ((b, vs) :: l) := by
  intro p hp
  rcases List.mem_cons.1 hp with rfl | hp
  · exact ⟨t, h⟩
  · exact hl p hp
theorem Boxes.below {w w' : World} {l : List (Nat × List Value)} {B : Nat} (h : Boxes w l) (hB : w.heap.size ≤ B) (hb : Below B w w') : Boxes w' l := by
  intro p hp
  obtain ⟨t, ht⟩ := h p hp
  exact ⟨t, (hb.block p.1 (Nat.lt_of_lt_of_le (Array.getElem?_eq_some_iff.1 ht).1 hB)).trans ht⟩
theorem Boxes.step {w w' : World} {l : List (Nat × List Value)} (h : Boxes w l) (hb : Below w.heap.size w w') : Boxes w' l := h.below (Nat.le_refl _) hb
theorem Boxes.set {w : World} {l : List (Nat × List Value)} (h : Boxes w l) (a : Addr) (u : Value) (hne : ∀ p ∈ l, p.1 ≠ a.block) : Boxes (w.setCell a u) l := by
  intro p hp
  obtain ⟨t, ht⟩ := h p hp
  exact ⟨t, (Below.heap_setCell w a u p.1 (hne p hp)).trans ht⟩
/-- A cell of the first block is written. -/
theorem Boxes.put {w : World} {l : List (Nat × List Value)} {b : Nat} {vs : List Value} (h : Boxes w ((b, vs) :: l)) (i : Nat) (u : Value) (hne : ∀ p ∈ l, p.1 ≠ b) : Boxes (w.setCell ⟨b, i, none⟩ u) ((b, vs.set i u) :: l) := by
  obtain ⟨t, ht⟩ := h (b, vs) (by simp)
  refine Boxes.cons (t := t) ?_ (Boxes.set (fun p hp => h p (by simp [hp])) _ _ hne)
  rw [heap_setCell_at i u ht]
  simp
theorem Boxes.grown {w w' : World} {l : List (Nat × List Value)} {row : Option Nat} (h : Boxes w l) (hg : w.grownBy w' row) (hne : ∀ p ∈ l, row ≠ some p.1) : Boxes w' l := by
  intro p hp
  obtain ⟨t, ht⟩ := h p hp
  exact ⟨t, (hg.block p.1 (Array.getElem?_eq_some_iff.1 ht).1 (fun e => hne p hp e.symm)).trans ht⟩
/-- The i-th cell of the n-th block. -/
theorem Boxes.cell {w : World} {l : List (Nat × List Value)} (h : Boxes w l) (n i : Nat) {b : Nat} {vs : List Value} {v : Value} (hn : l[n]? = some (b, vs)) (hv : vs[i]? = some v) : w.cell? ⟨b, i, none⟩ = some v := by
  obtain ⟨t, ht⟩ := h (b, vs) (List.mem_of_getElem? hn)
  simp only [World.cell?, ht]
  simpa using hv
theorem Boxes.frozen {w : World} {l : List (Nat × List Value)} (h : Boxes w l) (n i : Nat) {b : Nat} {vs : List Value} (hn : l[n]? = some (b, vs)) : w.frozen? ⟨b, i, none⟩ = false := by
  obtain ⟨t, ht⟩ := h (b, vs) (List.mem_of_getElem? hn)
  simp [World.frozen?, ht]
theorem Boxes.lt {w : World} {l : List (Nat × List Value)} (h : Boxes w l) (n : Nat) {b : Nat} {vs : List Value} (hn : l[n]? = some (b, vs)) : b < w.heap.size := by
  obtain ⟨t, ht⟩ := h (b, vs) (List.mem_of_getElem? hn)
  exact (Array.getElem?_eq_some_iff.1 ht).1
/-- A fresh block. -/
theorem Boxes.alloc {w : World} {l : List (Nat × List Value)} (h : Boxes w l) (vs : Array Value) (t : TypeId) {b : Nat} (hb : w.heap.size = b) : Boxes (w.alloc (.cells vs t)) ((b, vs.toList) :: l) := by
  subst hb
  exact Boxes.cons (t := t) (by rw [World.alloc_heap_new w (.cells vs t)]) (h.step ((Below.refl _ _).alloc (Nat.le_refl _) _))
theorem Boxes.sub {w : World} {l m : List (Nat × List Value)} (h : Boxes w l) (hm : ∀ p ∈ m, p ∈ l) : Boxes w m := fun p hp => h p (hm p hp)
theorem Boxes.drew {w : World} {l : List (Nat × List Value)} (h : Boxes w l) : Boxes w.drew l := h

theorem own_set {w : World} {base : Nat} {e : TypeId} {size : Nat} {v : Value} {n : Nat} {xs : List Value} (h : w.ownsRow base e size v n xs) (a : Addr) (u : Value) (hne : v.ownBlock ≠ some a.block) : (w.setCell a u).ownsRow base e size v n xs := by
  refine ⟨h.1, h.2.imp id fun ⟨g, cap, cur, e1, hg, hh, r⟩ => ⟨g, cap, cur, e1, hg, ?_, r⟩⟩
  rw [Below.heap_setCell w a u g (by subst e1; intro e; exact hne (by rw [← e]; rfl))]; exact hh
end Go.Proofs.YtopnfpobbemfbaaDoor

/- 'append' in the form of a run: to a row of the call's own, of bytes, and of one fresh element. -/
namespace Go.Proofs.YtopnfpobbemfbaaDoor
open Go.RowKit

/-- What an append leaves. -/
def AppOut (w : World) (base : Nat) (e : TypeId) (size : Nat) (v : Value) (n : Nat) (xs : List Value) (fresh : Nat) (v' : Value) (w' : World) : Prop :=
  w'.ownsRow base e size v' n xs ∧ w.grownBy w' v.ownBlock ∧ (v'.ownBlock = v.ownBlock ∨ v'.ownBlock = some fresh)

section
variable {P : Program}
/-- Of any row of numbers. -/
theorem run_append_row {w : World} (base : Nat) (t e : TypeId) (i : TypeInfo) (z : Value) (bytes : Nat) (ht : P.underlying t = some (.slice e)) (hi : P.info? e = some i) (hz : i.zero = some z)
    (hsize : i.size = 1) (hby : i.bytes = bytes) (hzs : z.cells.size = 1) {v : Value} {n : Nat} {xs : List Value} (hown : w.ownsRow base e 1 v n xs)
    {k : IntKind} {a : Option Addr} {m c : Nat} {l : List Int} (hrow : Row k w a m c l) (h63 : n + m ≤ maxLen) (hbytes : (n + m) * bytes ≤ 140737488355328) (hbase : base ≤ w.heap.size) :
    ∃ v' w', (Builtin.append_ #[t, t] t #[v, .slice a m c]).run P w = .ok v' w' ∧ AppOut w base e 1 v (n + m) (xs ++ l.map (Value.int k)) w.heap.size v' w' := by
  obtain ⟨h1, h2, h3, hn, h4⟩ := hrow
  cases a with
  | none =>
    have hc := hn rfl
    have hm : m = 0 := by omega
    subst hc hm
    obtain rfl : l = [] := List.eq_nil_of_length_eq_zero h1
    exact ⟨v, w, run_append_owned_none w base t t e i 1 ht hi v n xs hown, by simpa using hown, World.grownBy.refl w _, .inl rfl⟩
  | some ad =>
    obtain ⟨v', w', hr, h5, h6, _, h7⟩ := run_append_own_at (P := P) w base t t e i z 1 bytes ht hi hz hsize hby hzs (by decide) v n xs hown ad m c (l.map (Value.int k)) (by simp [h1]) (by
      intro j u hj
      simp only [List.getElem?_map, Option.map_eq_some_iff] at hj
      obtain ⟨y, hy, rfl⟩ := hj
      have hjl := (List.getElem?_eq_some_iff.1 hy).1
      rcases h4 with h4 | ⟨b, off, h5, h6, h7⟩
      · omega
      · cases h5
        have e : (⟨b, off, none⟩ : Addr).add j = ⟨b, off + j, none⟩ := by
          unfold Addr.add; split <;> simp_all
        rw [e, h7 j (by omega), hy]; rfl) (fun u hu => by obtain ⟨y, _, rfl⟩ := List.mem_map.1 hu; rfl) h63 hbytes hbase
    exact ⟨v', w', hr, h5, h6, h7⟩
/-- Of one fresh element. -/
theorem run_append_new {w : World} (base : Nat) (t e : TypeId) (i : TypeInfo) (z : Value) (size bytes : Nat) (ht : P.underlying t = some (.slice e)) (hi : P.info? e = some i) (hz : i.zero = some z)
    (hsize : i.size = size) (hby : i.bytes = bytes) (hzs : z.cells.size = size) (hsz : 0 < size) {v : Value} {n : Nat} {xs : List Value} (hown : w.ownsRow base e size v n xs)
    (cs : Array Value) (hcs : cs.size = size) (h1 : ∀ u ∈ cs.toList, u.oneCell' = true) (h63 : n + 1 ≤ maxLen) (hbytes : (n + 1) * bytes ≤ 140737488355328) (hbase : base ≤ w.heap.size) :
    ∃ v' w', (Builtin.append_ #[t, t] t #[v, .slice (some ⟨w.heap.size, 0, none⟩) 1 1]).run P (w.alloc (.cells cs e)) = .ok v' w' ∧ AppOut w base e size v (n + 1) (xs ++ cs.toList) (w.heap.size + 1) v' w' := by
  have hb : Below w.heap.size w (w.alloc (.cells cs e)) := (Below.refl _ _).alloc (Nat.le_refl _) _
  obtain ⟨v', w', hr, h5, h6, _, h7⟩ := run_append_own_at (P := P) (w.alloc (.cells cs e)) base t t e i z size bytes ht hi hz hsize hby hzs hsz v n xs (by
      refine ⟨hown.1, hown.2.imp id fun ⟨g, cap, cur, e1, hg, hh, r⟩ => ⟨g, cap, cur, e1, hg, ?_, r⟩⟩
      rw [hb.block g (Array.getElem?_eq_some_iff.1 hh).1]; exact hh) ⟨w.heap.size, 0, none⟩ 1 1 cs.toList (by simp [hcs]) (by
      intro j u hj
      have ea : (⟨w.heap.size, 0, none⟩ : Addr).add j = ⟨w.heap.size, j, none⟩ := by unfold Addr.add; split <;> simp_all
      rw [ea]
      simp only [World.cell?, World.alloc_heap_new w (.cells cs e)]
      simpa using hj) h1 h63 hbytes (by simp; omega)
  refine ⟨v', w', hr, h5, ⟨by rw [h6.os]; rfl, by rw [h6.tape]; rfl, by rw [h6.output]; rfl, Nat.le_trans (by simp) h6.size, fun k hk hne => ?_⟩, by simpa using h7⟩
  rw [h6.block k (by simp; omega) hne]
  exact hb.block k hk
/-- Of a text, to bytes. -/
theorem run_append_text {w : World} (base : Nat) (t u e : TypeId) (i : TypeInfo) (ht : P.underlying t = some (.slice e)) (hu : P.underlying u = some .string) (hi : P.info? e = some i) (hz : i.zero = some (.int .u8 0))
    (hsize : i.size = 1) (hby : i.bytes = 1) {v : Value} {n : Nat} {xs : List Value} (hown : w.ownsRow base e 1 v n xs) (d : List UInt8) (h63 : n + d.length ≤ 140737488355328) (hbase : base ≤ w.heap.size) :
    ∃ v' w', (Builtin.append_ #[t, u] t #[v, .string (strOf d)]).run P w = .ok v' w' ∧ w'.ownsRow base e 1 v' (n + d.length) (xs ++ (toI d).map (Value.int .u8)) ∧ w.grownBy w' v.ownBlock := by
  obtain ⟨v', w', h1, h2, h3, _⟩ := Lib.run_append_own_string (P := P) w base t u t e i ht hu hi hz hsize hby v n xs hown (strOf d) (by rw [strOf_size]; unfold maxLen; omega) (by rw [strOf_size]; omega) hbase
  rw [strOf_size, strCells_strOf] at h2
  exact ⟨v', w', h1, h2, h3⟩
end

/-! an append whose run is known, in a walk -/
section
variable {P : Program} {w : World}
theorem wp_append_run {o : Oper} {a : Act} {K : Act → World → Prop} {Q : Exit → Act → World → Prop} (s x : Operand) (t u : TypeId)
    (ho : o.op = .call { callee := .builtin .append, args := #[s, x], argTypes := #[t, u] }) {v y v' : Value} {w' : World} (hs : a.eval s = v) (hx : a.eval x = y)
    (hrun : (Builtin.append_ #[t, u] o.type #[v, y]).run P w = .ok v' w') (h : K (a.put o.dst v') w') : o.wp P a w K Q := by
  unfold Oper.wp execOp
  simp only [ho, resolve, invoke, builtin, Sem.run_bind, Sem.run_pure, Result.andThen_ok, List.map_toArray, List.map_cons, List.map_nil, hs, hx, hrun]
  exact h
theorem wpList_append_run {ops : Array Oper} {rest : List Oper} {o : Oper} {a : Act} {Q : Exit → Act → World → Prop} (hgd : o.guard = none) (s x : Operand) (t u : TypeId)
    (ho : o.op = .call { callee := .builtin .append, args := #[s, x], argTypes := #[t, u] }) {v y v' : Value} {w' : World} (hs : a.eval s = v) (hx : a.eval x = y)
    (hrun : (Builtin.append_ #[t, u] o.type #[v, y]).run P w = .ok v' w') (h : wpList P ops Q rest (a.put o.dst v') w') : wpList P ops Q (o :: rest) a w :=
  wpList_plain hgd fun _ hK => wp_append_run s x t u ho hs hx hrun (hK _ _ h)
theorem step_append_run {ops : Array Oper} {o : Oper} {a : Act} {K : Act → World → Prop} {Q : Exit → Act → World → Prop} {E : Prop} (hgd : o.guard = none) (s x : Operand) (t u : TypeId)
    (ho : o.op = .call { callee := .builtin .append, args := #[s, x], argTypes := #[t, u] }) {v y v' : Value} {w' : World} (hs : a.eval s = v) (hx : a.eval x = y)
    (hrun : (Builtin.append_ #[t, u] o.type #[v, y]).run P w = .ok v' w') (h : K (a.put o.dst v') w') :
    if Region.wanted o (yielded ops a.tmps) = true then Oper.wp P o a w K Q else E := by
  have hw : Region.wanted o (yielded ops a.tmps) = true := by simp [Region.wanted, hgd]
  rw [if_pos hw]
  exact wp_append_run s x t u ho hs hx hrun h
end
theorem AppOut.below {w w' : World} {base : Nat} {e : TypeId} {size : Nat} {v : Value} {n : Nat} {xs : List Value} {f : Nat} {v' : Value} (h : AppOut w base e size v n xs f v' w') {B : Nat} (hB : B ≤ w.heap.size) (hv : ∀ k, v.ownBlock = some k → B ≤ k) : Below B w w' :=
  (Below.refl B w).grown h.2.1 hB hv
end Go.Proofs.YtopnfpobbemfbaaDoor

/- Rows of records of the call's own. -/
namespace Go.Proofs.YtopnfpobbemfbaaDoor
open Go.RowKit

theorem flat_len {α β : Type} (f : α → List β) (sz : Nat) (hf : ∀ y, (f y).length = sz) : ∀ l : List α, (l.flatMap f).length = l.length * sz
  | [] => by simp
  | y :: l => by simp [List.flatMap_cons, flat_len f sz hf l, hf y, Nat.add_mul]; omega
theorem flat_get {α β : Type} (f : α → List β) (sz : Nat) (hf : ∀ y, (f y).length = sz) : ∀ (l : List α) (i : Nat) (y : α) (j : Nat) (v : β), l[i]? = some y → (f y)[j]? = some v → (l.flatMap f)[i * sz + j]? = some v
  | [], i, y, j, v, h, _ => by simp at h
  | x :: l, 0, y, j, v, h, hv => by
    cases h
    have hj := (List.getElem?_eq_some_iff.1 hv).1
    rw [List.flatMap_cons, Nat.zero_mul, Nat.zero_add, List.getElem?_append_left hj]; exact hv
  | x :: l, i + 1, y, j, v, h, hv => by
    have h' : l[i]? = some y := by simpa using h
    rw [List.flatMap_cons, List.getElem?_append_right (by rw [hf, Nat.add_mul]; omega), hf, show (i + 1) * sz + j - sz = i * sz + j by rw [Nat.add_mul]; omega]
    exact flat_get f sz hf l i y j v h' hv
/-- A row of records of the call's own reads as one. -/
theorem TabR.of_own {α : Type} {sz : Nat} {R : List Value → α → Prop} (f : α → List Value) (hf : ∀ y, (f y).length = sz) (hR : ∀ y, R (f y) y) {w : World} {base : Nat} {e : TypeId} {v : Value} {l : List α} (h : w.ownsRow base e sz v l.length (l.flatMap f)) :
    ∃ a cap, v = .slice a l.length cap ∧ TabR sz R w a l.length cap l := by
  obtain ⟨h1, h2⟩ := h
  rcases h2 with ⟨rfl, h0⟩ | ⟨g, cap, cur, rfl, hb, hg, hn, hm, hc, ht⟩
  · have : l.length = 0 := h0
    rw [h0]
    exact ⟨none, 0, rfl, by omega, Nat.le_refl _, by unfold maxLen; omega, fun _ => rfl, .inl rfl⟩
  · refine ⟨_, cap, rfl, rfl, hn, hm, (fun h => by cases h), .inr ⟨g, 0, rfl, (Array.getElem?_eq_some_iff.1 hg).1, fun i y hy => ⟨f y, hf y, hR y, fun j v hv => ?_⟩⟩⟩
    have hi := (List.getElem?_eq_some_iff.1 hy).1
    have hj : j < sz := by rw [← hf y]; exact (List.getElem?_eq_some_iff.1 hv).1
    have hx := flat_get f sz hf l i y j v hy hv
    rw [← ht] at hx
    have hlt : i * sz + j < l.length * sz := by
      have := Nat.mul_le_mul_right sz (show i + 1 ≤ l.length by omega)
      rw [Nat.add_mul] at this; omega
    rw [List.getElem?_take_of_lt hlt] at hx
    simp only [World.cell?, hg, Nat.zero_add]
    rw [← Array.getElem?_toList]; exact hx
end Go.Proofs.YtopnfpobbemfbaaDoor

/- Rows of records of the call's own: appended to by rows, written into. -/
namespace Go.Proofs.YtopnfpobbemfbaaDoor
open Go.RowKit

section
variable {P : Program}
/-- 'append' of a row of records to one of the call's own. -/
theorem run_append_tab {α : Type} {w : World} (base : Nat) (t e : TypeId) (i : TypeInfo) (z : Value) (sz bytes : Nat) (ht : P.underlying t = some (.slice e)) (hi : P.info? e = some i) (hz : i.zero = some z)
    (hsize : i.size = sz) (hby : i.bytes = bytes) (hzs : z.cells.size = sz) (hsz : 0 < sz) {v : Value} {n : Nat} {xs : List Value} (hown : w.ownsRow base e sz v n xs)
    (R : List Value → α → Prop) (f : α → List Value) (hR : ∀ cs y, R cs y → cs = f y) (hf : ∀ y, (f y).length = sz) (h1 : ∀ y, ∀ u ∈ f y, u.oneCell' = true)
    {a : Option Addr} {m c : Nat} {l : List α} (hrow : TabR sz R w a m c l) (h63 : n + m ≤ maxLen) (hbytes : (n + m) * bytes ≤ 140737488355328) (hbase : base ≤ w.heap.size) :
    ∃ v' w', (Builtin.append_ #[t, t] t #[v, .slice a m c]).run P w = .ok v' w' ∧ AppOut w base e sz v (n + m) (xs ++ l.flatMap f) w.heap.size v' w' := by
  obtain ⟨g1, g2, g3, hn, g4⟩ := hrow
  cases a with
  | none =>
    have hc := hn rfl
    have hm : m = 0 := by omega
    subst hc hm
    obtain rfl : l = [] := List.eq_nil_of_length_eq_zero g1
    exact ⟨v, w, run_append_owned_none w base t t e i sz ht hi v n xs hown, by simpa using hown, World.grownBy.refl w _, .inl rfl⟩
  | some ad =>
    have hlen := flat_len f sz hf l
    obtain ⟨v', w', hr, h5, h6, _, h7⟩ := run_append_own_at (P := P) w base t t e i z sz bytes ht hi hz hsize hby hzs hsz v n xs hown ad m c (l.flatMap f) (by rw [hlen, g1]) (by
      intro j u hj
      have hjl := (List.getElem?_eq_some_iff.1 hj).1
      rw [hlen] at hjl
      rcases g4 with g4 | ⟨b, off, h5, h6, h7⟩
      · rw [g1, g4] at hjl; omega
      · cases h5
        have ea : (⟨b, off, none⟩ : Addr).add j = ⟨b, off + j, none⟩ := by
          unfold Addr.add; split <;> simp_all
        have hq : j / sz < l.length := Nat.div_lt_of_lt_mul (by rw [Nat.mul_comm]; exact hjl)
        obtain ⟨y, hy⟩ : ∃ y, l[j / sz]? = some y := ⟨_, List.getElem?_eq_getElem hq⟩
        obtain ⟨cs, c1, c2, c3⟩ := h7 _ y hy
        have hcs := hR _ _ c2
        subst hcs
        have hm : j % sz < sz := Nat.mod_lt _ hsz
        obtain ⟨u', hu'⟩ : ∃ u', (f y)[j % sz]? = some u' := ⟨_, List.getElem?_eq_getElem (by rw [hf]; exact hm)⟩
        have hx := flat_get f sz hf l _ y _ u' hy hu'
        have hdm : j / sz * sz + j % sz = j := by rw [Nat.mul_comm]; exact Nat.div_add_mod j sz
        rw [hdm, hj] at hx
        cases hx
        rw [ea]
        have := c3 _ u hu'
        rwa [Nat.add_assoc, hdm] at this) (fun u hu => by
          obtain ⟨y, _, hy⟩ := List.mem_flatMap.1 hu
          exact h1 y u hy) h63 hbytes hbase
    exact ⟨v', w', hr, h5, h6, h7⟩
end

/-- A cell of a row of the call's own is written. -/
theorem own_put {w : World} {base : Nat} {e : TypeId} {size : Nat} {g n cap : Nat} {xs : List Value} (h : w.ownsRow base e size (.slice (some ⟨g, 0, none⟩) n cap) n xs) (j : Nat) (u : Value) (_hj : j < n * size) :
    (w.setCell ⟨g, j, none⟩ u).ownsRow base e size (.slice (some ⟨g, 0, none⟩) n cap) n (xs.set j u) := by
  obtain ⟨h1, h2⟩ := h
  refine ⟨by rw [List.length_set]; exact h1, .inr ?_⟩
  rcases h2 with ⟨hv, _⟩ | ⟨g', cap', cur, hv, hb, hg, hn, hm, hc, ht⟩
  · cases hv
  · cases hv
    refine ⟨g, cap, cur.setIfInBounds j u, rfl, hb, heap_setCell_at j u hg, hn, hm, by simpa using hc, ?_⟩
    rw [← ht, Array.toList_setIfInBounds, List.take_set]
theorem flat_parts {α β : Type} (f : α → List β) (sz : Nat) (hf : ∀ y, (f y).length = sz) {l : List α} {k : Nat} {x : α} (h : l[k]? = some x) :
    ∃ p s, p.length = k * sz ∧ l.flatMap f = p ++ (f x ++ s) ∧ ∀ y, (l.set k y).flatMap f = p ++ (f y ++ s) := by
  have hk := (List.getElem?_eq_some_iff.1 h).1
  have hl : l = l.take k ++ x :: l.drop (k + 1) := by
    have hx := (List.getElem?_eq_some_iff.1 h).2
    rw [← hx]; simp
  refine ⟨(l.take k).flatMap f, (l.drop (k + 1)).flatMap f, by rw [flat_len f sz hf, List.length_take, Nat.min_eq_left (by omega)], ?_, fun y => ?_⟩
  · conv => lhs; rw [hl]
    rw [List.flatMap_append, List.flatMap_cons]
  · rw [List.set_eq_take_append_cons_drop, if_pos hk, List.flatMap_append, List.flatMap_cons]
theorem set_five {β : Type} {p s : List β} {n : Nat} (hp : p.length = n) (a0 a1 a2 a3 a4 b0 b1 b2 b3 b4 : β) :
    (((((p ++ ([a0, a1, a2, a3, a4] ++ s)).set n b0).set (n + 1) b1).set (n + 2) b2).set (n + 3) b3).set (n + 4) b4 = p ++ ([b0, b1, b2, b3, b4] ++ s) := by
  subst hp
  simp
end Go.Proofs.YtopnfpobbemfbaaDoor

/- Wide values: structs and rows of symbolic cells, built. -/
namespace Go.Proofs.YtopnfpobbemfbaaDoor
open Go.RowKit

theorem fold_put (off : Nat) : ∀ (vs : List Value) (j : Nat) (cs : Array Value) (p m s : List Value), cs.toList = p ++ (m ++ s) → p.length = off + j → m.length = vs.length →
    ((vs.zipIdx j).foldl (fun (cs : Array Value) (x : Value × Nat) => cs.setIfInBounds (off + x.2) x.1) cs).toList = p ++ (vs ++ s)
  | [], j, cs, p, m, s, h, _, hm => by
    obtain rfl : m = [] := List.eq_nil_of_length_eq_zero (by simpa using hm)
    simpa using h
  | v :: vs, j, cs, p, m, s, h, hp, hm => by
    match m, hm with
    | c :: m, hm =>
      simp only [List.zipIdx_cons, List.foldl_cons]
      have ih := fold_put off vs (j + 1) (cs.setIfInBounds (off + j) v) (p ++ [v]) m s (by
        rw [Array.toList_setIfInBounds, h, List.set_append_right _ _ (by omega), hp, Nat.sub_self]
        simp) (by simp; omega) (by simpa using hm)
      rw [ih]
      simp
theorem fold_put' (off : Nat) (vs : Array Value) (cs : Array Value) (p m s : List Value) (h : cs.toList = p ++ (m ++ s)) (hp : p.length = off) (hm : m.length = vs.size) :
    vs.zipIdx.foldl (fun (cs : Array Value) (x : Value × Nat) => cs.setIfInBounds (off + x.2) x.1) cs = (p ++ (vs.toList ++ s)).toArray := by
  have := fold_put off vs.toList 0 cs p m s h hp (by simpa using hm)
  rw [← this, ← Array.foldl_toList, Array.toList_zipIdx]
/-- A struct of two fields out of both. -/
theorem fill_two (s0 s1 : Nat) (zero : Array Value) (x y : Value) (hz : zero.size = s0 + s1) (hx : x.cells.size = s0) (hy : y.cells.size = s1) (place : Nat → Option (Nat × Nat)) (p0 : place 0 = some (0, s0)) (p1 : place 1 = some (s0, s1)) :
    Instr.fill place zero [(0, x), (1, y)] = some (x.cells ++ y.cells) := by
  have e0 := fold_put' 0 x.cells zero [] (zero.toList.take s0) (zero.toList.drop s0) (by simp) rfl (by simp; omega)
  have e1 := fold_put' s0 y.cells (([] : List Value) ++ (x.cells.toList ++ zero.toList.drop s0)).toArray x.cells.toList (zero.toList.drop s0) [] (by simp) (by simpa using hx) (by simp; omega)
  simp only [Nat.zero_add] at e0
  simp only [Instr.fill, p0, p1]
  rw [if_neg (by simp; omega)]
  simp only [Nat.zero_add, e0]
  rw [if_neg (by simp [List.size_toArray]; omega)]
  rw [e1]
  simp only [List.append_nil]
  congr 1
  apply Array.ext'
  simp
/-- A row of one element out of it. -/
theorem fill_one (s0 : Nat) (zero : Array Value) (x : Value) (hz : zero.size = s0) (hx : x.cells.size = s0) (place : Nat → Option (Nat × Nat)) (p0 : place 0 = some (0, s0)) :
    Instr.fill place zero [(0, x)] = some x.cells := by
  have e0 := fold_put' 0 x.cells zero [] zero.toList [] (by simp) rfl (by simp; omega)
  simp only [Nat.zero_add] at e0
  simp only [Instr.fill, p0]
  rw [if_neg (by simp; omega)]
  simp only [Nat.zero_add, e0]
  simp
section
variable {P : Program} {w : World}
theorem run_build_two {t : TypeId} {f0 f1 : Field} {it : TypeInfo} {z : Value} {i0 i1 : TypeInfo} (hu : P.underlying t = some (.struct #[f0, f1])) (hit : P.info? t = some it) (hz : it.zero = some z)
    (h0 : P.info? f0.type = some i0) (h1 : P.info? f1.type = some i1) (o0 : f0.offset = 0) (o1 : f1.offset = i0.size) (hzs : z.cells.size = i0.size + i1.size) (x y : Value) (hx : x.cells.size = i0.size) (hy : y.cells.size = i1.size) :
    (Instr.build t #[(0, x), (1, y)]).run P w = .ok (.agg (x.cells ++ y.cells)) w := by
  refine run_build w t _ _ ?_
  unfold Program.built
  simp only [hit, hu, hz, List.mapM_cons, List.mapM_nil, h0, h1, Option.map_some, o0, o1]
  exact fill_two i0.size i1.size z.cells x y hzs hx hy _ rfl rfl
theorem run_buildSlice_one {t e : TypeId} {ie : TypeInfo} {z : Value} (hu : P.underlying t = some (.slice e)) (hie : P.info? e = some ie) (hz : ie.zero = some z) (_hzs : z.cells.size = ie.size) (hpos : 0 < ie.size) (hsmall : ie.size ≤ 16777216)
    (x : Value) (hx : x.cells.size = ie.size) : (Instr.buildSlice t 1 #[(0, x)]).run P w = .ok (.slice (some ⟨w.heap.size, 0, none⟩) 1 1) (w.alloc (.cells x.cells e)) := by
  refine run_buildSlice w t e 1 _ _ ie z hu hie hz (by omega) (by omega) ?_
  exact fill_one ie.size _ x (by simp) hx _ (by simp)
end
end Go.Proofs.YtopnfpobbemfbaaDoor

/- Pages: rows of 128 bytes as values; a map of pages. -/
namespace Go.Proofs.YtopnfpobbemfbaaDoor
open Go.RowKit Go.Maps

/-- The cells of bytes. -/
def pcells (l : List UInt8) : List Value := (toI l).map (Value.int .u8)
theorem pcells_length (l : List UInt8) : (pcells l).length = l.length := by simp [pcells, toI]
theorem pcells_one (l : List UInt8) : ∀ v ∈ pcells l, v.oneCell' = true := fun v hv => by
  obtain ⟨n, _, rfl⟩ := List.mem_map.1 hv; rfl
theorem pcells_inj {l m : List UInt8} (h : pcells l = pcells m) : l = m := by
  have key : ∀ l : List UInt8, (pcells l).map (fun v => match v with | .int _ n => UInt8.ofNat n.toNat | _ => 0) = l := by
    intro l
    simp only [pcells, toI, List.map_map]
    conv => rhs; rw [← List.map_id l]
    apply List.map_congr_left
    intro x _
    simp
  rw [← key l, h, key m]
def pv (l : List UInt8) : Value := .agg (pcells l).toArray
theorem pv_inj {l m : List UInt8} (h : pv l = pv m) : l = m := by
  simp only [pv, Value.agg.injEq] at h
  exact pcells_inj (by simpa using congrArg Array.toList h)
/-- A page's bytes. -/
abbrev P128 := { l : List UInt8 // l.length = 128 }
def zpage : P128 := ⟨List.replicate 128 0, by simp⟩
instance : Inhabited P128 := ⟨zpage⟩
def toP (b : List UInt8) : P128 := if h : b.length = 128 then ⟨b, h⟩ else zpage
theorem toP_val {b : List UInt8} (h : b.length = 128) : (toP b).1 = b := by rw [toP, dif_pos h]
theorem toP_self (p : P128) : toP p.1 = p := by rw [toP, dif_pos p.2]

open Classical in
/-- How a page reads. -/
noncomputable def pageR (v : Value) : Option (DataW Unit × List MemPlace) :=
  if h : ∃ l : List UInt8, l.length = 128 ∧ v = pv l then some (.lit (.string (Classical.choose h)), []) else none
theorem pageR_mk (l : List UInt8) (h : l.length = 128) : pageR (pv l) = some (.lit (.string l), []) := by
  have hx : ∃ m : List UInt8, m.length = 128 ∧ pv l = pv m := ⟨l, h, rfl⟩
  unfold pageR
  rw [dif_pos hx, ← pv_inj (Classical.choose_spec hx).2]
theorem pageR_inv {v : Value} {d : DataW Unit} {ps : List MemPlace} (h : pageR v = some (d, ps)) : ∃ l : List UInt8, l.length = 128 ∧ v = pv l ∧ d = .lit (.string l) := by
  unfold pageR at h
  split at h
  · rename_i hx
    obtain ⟨h1, h2⟩ := Classical.choose_spec hx
    simp only [Option.some.injEq, Prod.mk.injEq] at h
    exact ⟨_, h1, h2, h.1.symm⟩
  · cases h

/-- A map of pages: what stands at each number; noughts, where nothing does. -/
def PgMap (w : World) (mb n : Nat) (f : Nat → P128) : Prop :=
  ∃ D : DataW Unit, w.ownsMap Tryd.prog 3 pageR mb n D ∧ IsMap D ∧ ∀ p : Nat, D.atKey (.int .i64 (p : Int)) (.lit (.string zpage.1)) = .lit (.string (f p).1)
theorem int_key : Keyed Tryd.prog 3 := int_keyed Tryd.underlying3
theorem key_int (p : Nat) (h : p ≤ 9223372036854775807) : keyOf Tryd.prog 3 (.int .i64 (p : Int)) = some (.int .i64 (p : Int)) :=
  keyOf_int_mk Tryd.underlying3 (by simp [Lit.wf, IntKind.min, IntKind.max, IntKind.signed, IntKind.bits]; omega)
theorem PgMap.made (w : World) : PgMap (w.alloc (.map #[] 0)) w.heap.size 0 (fun _ => zpage) :=
  ⟨.map [], World.ownsMap_made _ _ _ _, isMap_empty, fun _ => rfl⟩
theorem PgMap.lt {w : World} {mb n : Nat} {f : Nat → P128} (h : PgMap w mb n f) : mb < w.heap.size := by
  obtain ⟨D, h1, _⟩ := h; exact h1.lt
theorem PgMap.kept {w w' : World} {mb n : Nat} {f : Nat → P128} (h : PgMap w mb n f) (hb : w'.heap[mb]? = w.heap[mb]?) : PgMap w' mb n f := by
  obtain ⟨D, ⟨es, c, h1, h2⟩, h3⟩ := h
  exact ⟨D, ⟨es, c, hb.trans h1, h2⟩, h3⟩
theorem zero_page (w : World) : (zeroValue 80).run Tryd.prog w = .ok (pv zpage.1) w := by kernel_rfl
theorem PgMap.lookup {w : World} {mb n : Nat} {f : Nat → P128} (h : PgMap w mb n f) (p : Nat) (hp : p ≤ 9223372036854775807) :
    (Instr.lookup 69 (.map (some mb)) (.int .i64 (p : Int)) false).run Tryd.prog w = .ok (pv (f p).1) w := by
  obtain ⟨D, h1, _, h3⟩ := h
  obtain ⟨v, ps, hr, hv⟩ := h1.lookup int_key Tryd.underlying69 (zero_page w) (pageR_mk zpage.1 zpage.2) (key_int p hp)
  rw [h3] at hv
  obtain ⟨l, _, rfl, hd⟩ := pageR_inv hv
  simp only [DataW.lit.injEq, Lit.string.injEq] at hd
  rw [hr, hd]
theorem PgMap.update {w : World} {mb n : Nat} {f : Nat → P128} (h : PgMap w mb n f) (p : Nat) (hp : p ≤ 9223372036854775807) (l : P128) (hn : n ≤ 1000000) :
    ∃ w', (Instr.mapUpdate 69 (.map (some mb)) (.int .i64 (p : Int)) (pv l.1)).run Tryd.prog w = .ok () w' ∧ PgMap w' mb (n + 1) (fun q => if q = p then l else f q) ∧ w.grownBy w' (some mb) := by
  obtain ⟨D, h1, h2, h3⟩ := h
  obtain ⟨w', hr, ho, hg⟩ := h1.update int_key Tryd.underlying69 (by unfold maxLen; omega) (key_int p hp) (pageR_mk l.1 l.2)
  refine ⟨w', hr, ⟨_, ho, h2.put _ _, fun q => ?_⟩, hg⟩
  dsimp only
  by_cases hq : q = p
  · subst hq
    rw [atKey_put_same h2 (int_key.key (key_int q hp)), if_pos rfl]
  · rw [atKey_put_other (by simp; omega), h3, if_neg hq]
end Go.Proofs.YtopnfpobbemfbaaDoor

/- A disk that forgets: plain laws. -/
namespace Go.Proofs.YtopnfpobbemfbaaDoor

/-- A region. -/
structure Rg where
  size : Nat
  pages : Nat → P128
  loose : List (Nat × P128)
  left : Int
  down : Bool
def Rg.new (n : Nat) : Rg := ⟨n, fun _ => zpage, [], -1, false⟩
instance : Inhabited Rg := ⟨Rg.new 0⟩
/-- What may not be asked of a region. -/
def upE (d : List Rg) (r : Int) : Int :=
  if 0 ≤ r ∧ r < d.length then (if (d[r.toNat]?.getD default).down then 3 else 0) else 2
def atR (d : List Rg) (r : Int) : Rg := d[r.toNat]?.getD default
def pagedE (d : List Rg) (r p : Int) : Int :=
  if upE d r = 0 then (if 0 ≤ p ∧ p < (atR d r).size then 0 else 2) else upE d r
/-- A call that counts. -/
def cntE (x : Rg) : Int := if x.left = 0 then 3 else 0
def cntR (x : Rg) : Rg := if x.left = 0 then { x with down := true } else if 0 < x.left then { x with left := x.left - 1 } else x
/-- A page as it was written last. -/
def lastW (p : Nat) (b : P128) (l : List (Nat × P128)) : P128 := l.foldl (fun b w => if w.1 = p then w.2 else b) b
def seen (x : Rg) (p : Nat) : P128 := lastW p (x.pages p) x.loose
def readB (d : List Rg) (r p : Int) : List UInt8 := if pagedE d r p = 0 then (seen (atR d r) p.toNat).1 else []
def writeE (d : List Rg) (r p : Int) (b : List UInt8) : Int :=
  if pagedE d r p = 0 then (if b.length = 128 then cntE (atR d r) else 1) else pagedE d r p
def wroteR (x : Rg) (p : Nat) (b : P128) : Rg := if cntE x = 0 then { cntR x with loose := x.loose ++ [(p, b)] } else cntR x
def writeD (d : List Rg) (r p : Int) (b : List UInt8) : List Rg :=
  if pagedE d r p = 0 ∧ b.length = 128 then d.set r.toNat (wroteR (atR d r) p.toNat (toP b)) else d
/-- Pages behind some writes. -/
def laid (keep : Nat → Bool) : Nat → List (Nat × P128) → (Nat → P128) → Nat → P128
  | _, [], f => f
  | i, w :: l, f => laid keep (i + 1) l (if keep i then fun q => if q = w.1 then w.2 else f q else f)
def settled (x : Rg) (keep : Nat → Bool) : Rg := { x with pages := laid keep 0 x.loose x.pages, loose := [] }
def syncE (d : List Rg) (r : Int) : Int := if upE d r = 0 then cntE (atR d r) else upE d r
def syncR (x : Rg) : Rg := if cntE x = 0 then settled (cntR x) (fun _ => true) else cntR x
def syncD (d : List Rg) (r : Int) : List Rg := if upE d r = 0 then d.set r.toNat (syncR (atR d r)) else d
def looseL (d : List Rg) (r : Int) : List Nat := if 0 ≤ r ∧ r < d.length then (atR d r).loose.map (·.1) else []
def stopD (d : List Rg) (r after : Int) : List Rg := if 0 ≤ r ∧ r < d.length then d.set r.toNat { atR d r with left := max after (-1) } else d
def downB (d : List Rg) (r : Int) : Bool := if 0 ≤ r ∧ r < d.length then (atR d r).down else false
def sizeL (d : List Rg) (r : Int) : Nat := if 0 ≤ r ∧ r < d.length then (atR d r).size else 0
/-- Is a bit 1? -/
def bitB (s : List UInt8) (i : Nat) : Bool := match s[i / 8]? with | some c => c.toNat / 2 ^ (i % 8) % 2 == 1 | none => false
def keepB (keep : List (List UInt8)) (r i : Nat) : Bool := match keep[r]? with | some s => bitB s i | none => false
def crashR (x : Rg) (keep : Nat → Bool) : Rg := { settled x keep with left := -1, down := false }
def crashD (d : List Rg) (keep : List (List UInt8)) : List Rg := d.mapIdx fun r x => crashR x (keepB keep r)

theorem lastW_snoc (p : Nat) (b : P128) (l : List (Nat × P128)) (w : Nat × P128) : lastW p b (l ++ [w]) = if w.1 = p then w.2 else lastW p b l := by
  simp [lastW]
theorem laid_snoc (keep : Nat → Bool) (i : Nat) (l : List (Nat × P128)) (w : Nat × P128) (f : Nat → P128) :
    laid keep i (l ++ [w]) f = if keep (i + l.length) then (fun q => if q = w.1 then w.2 else laid keep i l f q) else laid keep i l f := by
  induction l generalizing i f with
  | nil => simp [laid]
  | cons x l ih =>
    simp only [List.cons_append, laid, ih, List.length_cons]
    rw [show i + 1 + l.length = i + (l.length + 1) by omega]
end Go.Proofs.YtopnfpobbemfbaaDoor

/- Blocks known whole, and single cells, held together through a region. -/
namespace Go.Proofs.YtopnfpobbemfbaaDoor
open Go.RowKit

def Held (l : List (Nat × List Value)) (c : List (Addr × Value)) (W : World) : Prop := Boxes W l ∧ ∀ p ∈ c, W.cell? p.1 = some p.2
theorem Held.mk {l : List (Nat × List Value)} {c : List (Addr × Value)} {W : World} (h : Boxes W l) (hc : ∀ p ∈ c, W.cell? p.1 = some p.2) : Held l c W := ⟨h, hc⟩
theorem Held.below {l : List (Nat × List Value)} {c : List (Addr × Value)} {W W' : World} (h : Held l c W) (hb : Below W.heap.size W W') : Held l c W' :=
  ⟨h.1.step hb, fun p hp => (hb.cell (World.block_lt_of_cell? W p.1 (h.2 p hp))).trans (h.2 p hp)⟩
theorem Held.alloc {l : List (Nat × List Value)} {c : List (Addr × Value)} {W : World} (h : Held l c W) (o : Obj) : Held l c (W.alloc o) := h.below ((Below.refl _ _).alloc (Nat.le_refl _) o)
theorem Held.drew {l : List (Nat × List Value)} {c : List (Addr × Value)} {W : World} (h : Held l c W) : Held l c W.drew := h
theorem Held.grown {l : List (Nat × List Value)} {c : List (Addr × Value)} {W W' : World} {row : Option Nat} (h : Held l c W) (hg : W.grownBy W' row) (hne : ∀ p ∈ l, row ≠ some p.1) (hnc : ∀ p ∈ c, row ≠ some p.1.block) : Held l c W' :=
  ⟨h.1.grown hg hne, fun p hp => (World.cell?_of_block (hg.block p.1.block (World.block_lt_of_cell? W p.1 (h.2 p hp)) (fun e => hnc p hp e.symm))).trans (h.2 p hp)⟩
theorem Held.set {l : List (Nat × List Value)} {c : List (Addr × Value)} {W : World} (h : Held l c W) (a : Addr) (u : Value) (hne : ∀ p ∈ l, p.1 ≠ a.block) (hnc : ∀ p ∈ c, p.1.block ≠ a.block) : Held l c (W.setCell a u) :=
  ⟨h.1.set a u hne, fun p hp => (World.cell?_setCell_far W a p.1 u (fun e => hnc p hp e.symm)).trans (h.2 p hp)⟩
theorem Held.box {l : List (Nat × List Value)} {c : List (Addr × Value)} {W : World} (h : Held l c W) (n i : Nat) {b : Nat} {vs : List Value} {v : Value} (hn : l[n]? = some (b, vs)) (hv : vs[i]? = some v) : W.cell? ⟨b, i, none⟩ = some v := h.1.cell n i hn hv
theorem Held.cell {l : List (Nat × List Value)} {c : List (Addr × Value)} {W : World} (h : Held l c W) (n : Nat) {a : Addr} {v : Value} (hn : c[n]? = some (a, v)) : W.cell? a = some v := h.2 (a, v) (List.mem_of_getElem? hn)
end Go.Proofs.YtopnfpobbemfbaaDoor

/- A disk in memory: which blocks it has; what a change in some blocks leaves. -/
namespace Go.Proofs.YtopnfpobbemfbaaDoor
open Go.RowKit

/-- Nothing that was there has turned but these blocks. -/
def Only (S : List Nat) (w w' : World) : Prop := w'.os = w.os ∧ w'.tape = w.tape ∧ w'.output = w.output ∧ w.heap.size ≤ w'.heap.size ∧ ∀ k, k < w.heap.size → k ∉ S → w'.heap[k]? = w.heap[k]?
theorem Only.size {S : List Nat} {w w' : World} (h : Only S w w') : w.heap.size ≤ w'.heap.size := h.2.2.2.1
theorem Only.block {S : List Nat} {w w' : World} (h : Only S w w') {k : Nat} (hk : k < w.heap.size) (hS : k ∉ S) : w'.heap[k]? = w.heap[k]? := h.2.2.2.2 k hk hS
theorem Only.refl (S : List Nat) (w : World) : Only S w w := ⟨rfl, rfl, rfl, Nat.le_refl _, fun _ _ _ => rfl⟩
theorem Only.of_below {S : List Nat} {w w' : World} (h : Below w.heap.size w w') : Only S w w' := ⟨h.os, h.tape, h.output, h.size, fun k hk _ => h.block k hk⟩
theorem Only.of_grown {S : List Nat} {w w' : World} {row : Option Nat} (h : w.grownBy w' row) (hr : ∀ k, row = some k → k ∈ S ∨ w.heap.size ≤ k) : Only S w w' :=
  ⟨h.os, h.tape, h.output, h.size, fun k hk hS => h.block k hk (fun e => (hr k e.symm).elim hS (fun h => by omega))⟩
theorem Only.trans {S : List Nat} {a b c : World} (h : Only S a b) (k : Only S b c) : Only S a c :=
  ⟨k.1.trans h.1, k.2.1.trans h.2.1, k.2.2.1.trans h.2.2.1, Nat.le_trans h.size k.size, fun _ hi hS => (k.block (Nat.lt_of_lt_of_le hi h.size) hS).trans (h.block hi hS)⟩
/-- What comes second may turn what is new. -/
theorem Only.then {S S' : List Nat} {a b c : World} (h : Only S a b) (k : Only S' b c) (hs : ∀ i ∈ S', i ∈ S ∨ a.heap.size ≤ i) : Only S a c :=
  ⟨k.1.trans h.1, k.2.1.trans h.2.1, k.2.2.1.trans h.2.2.1, Nat.le_trans h.size k.size, fun i hi hS => (k.block (Nat.lt_of_lt_of_le hi h.size) (fun e => (hs i e).elim hS (fun h => by omega))).trans (h.block hi hS)⟩
theorem Only.mono {S S' : List Nat} {w w' : World} (h : Only S w w') (hs : ∀ k ∈ S, k ∈ S') : Only S' w w' := ⟨h.1, h.2.1, h.2.2.1, h.size, fun _ hk hS => h.block hk (fun e => hS (hs _ e))⟩
theorem Only.set {S : List Nat} {w w' : World} (h : Only S w w') (a : Addr) (u : Value) (ha : a.block ∈ S) : Only S w (w'.setCell a u) :=
  ⟨h.1, h.2.1, h.2.2.1, by simpa [World.setCell] using h.size, fun k hk hS => (Below.heap_setCell w' a u k (fun e => hS (by rw [e]; exact ha))).trans (h.block hk hS)⟩
theorem Only.drew {S : List Nat} {w w' : World} (h : Only S w w') : Only S w w'.drew := h
theorem Only.below {S : List Nat} {w w' : World} (h : Only S w w') {B : Nat} (hB : B ≤ w.heap.size) (hS : ∀ k ∈ S, B ≤ k) : Below B w w' :=
  ⟨h.1, h.2.1, h.2.2.1, h.size, fun k hk => h.block (by omega) (fun e => by have := hS k e; omega)⟩
theorem Boxes.only {S : List Nat} {w w' : World} {l : List (Nat × List Value)} (h : Boxes w l) (ho : Only S w w') (hS : ∀ p ∈ l, p.1 ∉ S) : Boxes w' l := by
  intro p hp
  obtain ⟨t, ht⟩ := h p hp
  exact ⟨t, (ho.block (Array.getElem?_eq_some_iff.1 ht).1 (hS p hp)).trans ht⟩
theorem own_only {S : List Nat} {w w' : World} {base : Nat} {e : TypeId} {size : Nat} {v : Value} {n : Nat} {xs : List Value} (h : w.ownsRow base e size v n xs) (ho : Only S w w') (hS : ∀ k, v.ownBlock = some k → k ∉ S) : w'.ownsRow base e size v n xs := by
  refine ⟨h.1, h.2.imp id fun ⟨g, cap, cur, e1, hg, hh, r⟩ => ⟨g, cap, cur, e1, hg, ?_, r⟩⟩
  subst e1
  rw [ho.block (Array.getElem?_eq_some_iff.1 hh).1 (hS g rfl)]; exact hh

/-- The cells of a write. -/
def wcells (x : Nat × P128) : List Value := .int .i64 (x.1 : Int) :: pcells x.2.1
theorem wcells_length (x : Nat × P128) : (wcells x).length = 129 := by
  simp [wcells, pcells_length, x.2.2]
theorem wcells_one (x : Nat × P128) : ∀ v ∈ wcells x, v.oneCell' = true := fun v hv => by
  rcases List.mem_cons.1 hv with rfl | hv
  · rfl
  · exact pcells_one _ v hv
/-- A region stands there: its box, its map, its loose writes; all its blocks are these. -/
def RegIn (w : World) (fp : List Nat) (b M : Nat) (x : Rg) : Prop :=
  ∃ mb n v, w.heap[b]? = some (.cells #[.int .i64 (x.size : Int), .map (some mb), v, .int .i64 x.left, .bool x.down] 72 (0, 0)) ∧ PgMap w mb n x.pages ∧
    w.ownsRow 0 82 129 v x.loose.length (x.loose.flatMap wcells) ∧ n + x.loose.length ≤ M ∧ b ∈ fp ∧ mb ∈ fp ∧ (∀ k, v.ownBlock = some k → k ∈ fp) ∧ (∀ k ∈ fp, k < w.heap.size) ∧ x.size ≤ 1000 ∧ (∀ p ∈ x.loose, p.1 < x.size) ∧ x.left ≤ 9223372036854775807
theorem RegIn.only {S : List Nat} {w w' : World} {fp : List Nat} {b M : Nat} {x : Rg} (h : RegIn w fp b M x) (ho : Only S w w') (hS : ∀ k ∈ fp, k ∉ S) : RegIn w' fp b M x := by
  obtain ⟨mb, n, v, h1, h2, h3, h4, h5, h6, h7, h8, h9⟩ := h
  exact ⟨mb, n, v, (ho.block (h8 b h5) (hS b h5)).trans h1, h2.kept (ho.block (h8 mb h6) (hS mb h6)), own_only h3 ho (fun k hk => hS k (h7 k hk)), h4, h5, h6, h7, fun k hk => Nat.lt_of_lt_of_le (h8 k hk) ho.size, h9⟩
theorem RegIn.more {w : World} {fp : List Nat} {b M M' : Nat} {x : Rg} (h : RegIn w fp b M x) (hM : M ≤ M') : RegIn w fp b M' x := by
  obtain ⟨mb, n, v, h1, h2, h3, h4, h5⟩ := h
  exact ⟨mb, n, v, h1, h2, h3, by omega, h5⟩

/-- A disk stands there; all its blocks are F. -/
structure DskIn (w : World) (F : List Nat) (db M : Nat) (bs : List (Nat × List Nat)) (d : List Rg) : Prop where
  cells : ∃ pv, w.heap[db]? = some (.cells #[pv] 67 (0, 0)) ∧ w.ownsRow 0 68 1 pv d.length (bs.map fun q => .pointer (some ⟨q.1, 0, none⟩)) ∧ (∀ k, pv.ownBlock = some k → k ∈ F ∧ ∀ q ∈ bs, k ∉ q.2)
  mem : db ∈ F
  off : ∀ q ∈ bs, db ∉ q.2
  len : bs.length = d.length
  reg : ∀ (i : Nat) (q : Nat × List Nat) (x : Rg), bs[i]? = some q → d[i]? = some x → RegIn w q.2 q.1 M x
  apart : ∀ (i j : Nat) (q r : Nat × List Nat), i ≠ j → bs[i]? = some q → bs[j]? = some r → ∀ k ∈ q.2, k ∉ r.2
  sub : ∀ q ∈ bs, ∀ k ∈ q.2, k ∈ F
  lt : ∀ k ∈ F, k < w.heap.size
theorem DskIn.only {S : List Nat} {w w' : World} {F : List Nat} {db M : Nat} {bs : List (Nat × List Nat)} {d : List Rg} (h : DskIn w F db M bs d) (ho : Only S w w') (hS : ∀ k ∈ F, k ∉ S) : DskIn w' F db M bs d := by
  obtain ⟨pv, h1, h2, h3⟩ := h.cells
  exact ⟨⟨pv, (ho.block (h.lt _ h.mem) (hS _ h.mem)).trans h1, own_only h2 ho (fun k hk => hS k (h3 k hk).1), h3⟩, h.mem, h.off, h.len, fun i q x hq hx => (h.reg i q x hq hx).only ho (fun k hk => hS k (h.sub q (List.mem_of_getElem? hq) k hk)), h.apart, h.sub, fun k hk => Nat.lt_of_lt_of_le (h.lt k hk) ho.size⟩
theorem DskIn.below {w w' : World} {F : List Nat} {db M : Nat} {bs : List (Nat × List Nat)} {d : List Rg} (h : DskIn w F db M bs d) (hb : Below w.heap.size w w') : DskIn w' F db M bs d :=
  h.only (S := []) (Only.of_below hb) (fun _ _ => by simp)
theorem DskIn.more {w : World} {F : List Nat} {db M M' : Nat} {bs : List (Nat × List Nat)} {d : List Rg} (h : DskIn w F db M bs d) (hM : M ≤ M') : DskIn w F db M' bs d :=
  ⟨h.cells, h.mem, h.off, h.len, fun i q x hq hx => (h.reg i q x hq hx).more hM, h.apart, h.sub, h.lt⟩
/-- A region of a disk turns. -/
theorem DskIn.turn {w w' : World} {F : List Nat} {db M M' : Nat} {bs : List (Nat × List Nat)} {d : List Rg} (h : DskIn w F db M bs d) {i : Nat} {q : Nat × List Nat} (hq : bs[i]? = some q) {fp : List Nat} {x : Rg}
    (ho : Only q.2 w w') (hr : RegIn w' fp q.1 M' x) (hf : ∀ k ∈ fp, k ∈ q.2 ∨ w.heap.size ≤ k) (hM : M ≤ M') : DskIn w' (F ++ fp) db M' (bs.set i (q.1, fp)) (d.set i x) := by
  obtain ⟨pv, h1, h2, h3⟩ := h.cells
  have hqm := List.mem_of_getElem? hq
  have hi := (List.getElem?_eq_some_iff.1 hq).1
  have hmem : ∀ r ∈ bs.set i (q.1, fp), (∃ j, j ≠ i ∧ bs[j]? = some r) ∨ r = (q.1, fp) := fun r hr => by
    obtain ⟨j, hj⟩ := List.mem_iff_getElem?.1 hr
    by_cases e : j = i
    · subst e
      rw [List.getElem?_set_self hi] at hj
      exact .inr (by cases hj; rfl)
    · rw [List.getElem?_set_ne (fun h => e h.symm)] at hj
      exact .inl ⟨j, e, hj⟩
  have hfp : ∀ k, k < w.heap.size → k ∉ q.2 → k ∉ fp := fun k hk hn hk2 => (hf k hk2).elim hn (fun h => by omega)
  refine ⟨⟨pv, (ho.block (h.lt _ h.mem) (h.off q hqm)).trans h1, ?_, fun k hk => ⟨List.mem_append_left _ (h3 k hk).1, fun r hr => ?_⟩⟩, List.mem_append_left _ h.mem, fun r hr => ?_, by simp [h.len], fun j r y hj hy => ?_, fun j1 j2 r s hne hr hs k hk hk2 => ?_, fun r hr k hk => ?_, fun k hk => ?_⟩
  · have : (bs.set i (q.1, fp)).map (fun q => Value.pointer (some ⟨q.1, 0, none⟩)) = bs.map fun q => Value.pointer (some ⟨q.1, 0, none⟩) := by
      apply List.ext_getElem?
      intro j
      rw [List.getElem?_map, List.getElem?_map]
      by_cases e : j = i
      · subst e
        rw [List.getElem?_set_self hi, hq]; rfl
      · rw [List.getElem?_set_ne (fun h => e h.symm)]
    rw [this, List.length_set]
    exact own_only h2 ho (fun k hk => (h3 k hk).2 q hqm)
  · rcases hmem r hr with ⟨j, _, hj⟩ | rfl
    · exact (h3 k hk).2 r (List.mem_of_getElem? hj)
    · exact hfp k (h.lt k (h3 k hk).1) ((h3 k hk).2 q hqm)
  · rcases hmem r hr with ⟨j, _, hj⟩ | rfl
    · exact h.off r (List.mem_of_getElem? hj)
    · exact hfp db (h.lt _ h.mem) (h.off q hqm)
  · by_cases e : j = i
    · subst e
      have hjd : j < d.length := by rw [← h.len]; exact hi
      rw [List.getElem?_set_self hi] at hj
      rw [List.getElem?_set_self hjd] at hy
      cases hj; cases hy
      exact hr
    · rw [List.getElem?_set_ne (fun h => e h.symm)] at hj hy
      exact ((h.reg j r y hj hy).only ho (fun k hk => fun hk2 => h.apart j i r q e hj hq k hk hk2)).more hM
  · by_cases e1 : j1 = i
    · subst e1
      rw [List.getElem?_set_self hi] at hr
      rw [List.getElem?_set_ne hne] at hs
      cases hr
      rcases hf k hk with h5 | h5
      · exact h.apart j1 j2 q s hne hq hs k h5 hk2
      · have := h.lt k (h.sub s (List.mem_of_getElem? hs) k hk2); omega
    · rw [List.getElem?_set_ne (fun h => e1 h.symm)] at hr
      by_cases e2 : j2 = i
      · subst e2
        rw [List.getElem?_set_self hi] at hs
        cases hs
        rcases hf k hk2 with h5 | h5
        · exact h.apart j1 j2 r q hne hr hq k hk h5
        · have := h.lt k (h.sub r (List.mem_of_getElem? hr) k hk); omega
      · rw [List.getElem?_set_ne (fun h => e2 h.symm)] at hs
        exact h.apart j1 j2 r s hne hr hs k hk hk2
  · rcases hmem r hr with ⟨j, _, hj⟩ | rfl
    · exact List.mem_append_left _ (h.sub r (List.mem_of_getElem? hj) k hk)
    · exact List.mem_append_right _ hk
  · rcases List.mem_append.1 hk with hk | hk
    · exact Nat.lt_of_lt_of_le (h.lt k hk) ho.size
    · obtain ⟨_, _, _, _, _, _, _, _, _, _, h8, _⟩ := hr
      exact h8 k hk
end Go.Proofs.YtopnfpobbemfbaaDoor
