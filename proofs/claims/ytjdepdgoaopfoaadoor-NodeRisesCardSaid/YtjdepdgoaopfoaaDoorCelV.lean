/- The walks of the chapter on pages of cells: a page is unpacked, the walk. -/
import Derived.Test.YtjdepdgoaopfoaaDoorCelU
import Derived.Outline
namespace Go.Proofs.YtjdepdgoaopfoaaDoor
open Go.RowKit

/-- What 'Unpack' hands back: a kind, cells of their own, an error. -/
def UnpPost (w : World) (k : UInt8) (l : List (List UInt8)) (er : Int) (e : Ending) (w' : World) : Prop :=
  ∃ v, e = .returned (.tuple #[.int .u8 (k.toNat : Int), v, .int .i64 er]) ∧ OwnBss w' w.heap.size v l ∧ Below w.heap.size w w'

set_option maxRecDepth 100000 in
set_option maxHeartbeats 1000000 in
theorem unpack_len (a : Option Addr) (len cap : Nat) (l : List UInt8) (w : World) (h : Bs w a len cap l) (hl : len ≠ 128) :
    Calls Tryd.prog 47 #[.slice a len cap] w fun e w' => e = .returned (.tuple #[.int .u8 0, .slice none 0 0, .int .i64 1]) ∧ w = w' := by
  have hne : ((len : Int) != 128) = true := by simp; omega
  have hne2 : ((len : Int) == 128) = false := by simp; omega
  have hc := h.cap
  unfold maxLen at hc
  go_enter Tryd.func47, Tryd.ntmps47
  go_wp2
  go_ret3
  exact ⟨rfl, rfl⟩

theorem tNum_four (l : List UInt8) (h : 4 ≤ l.length) : tNum ⟨l, 0⟩ 4 = (beVal (l.take 4), ⟨l.drop 4, 0⟩) := by
  simp [tNum, takeF, show ¬ l.length < 4 by omega]

set_option maxRecDepth 100000 in
set_option maxHeartbeats 1000000 in
theorem unpack_sum (a : Option Addr) (cap : Nat) (l : List UInt8) (w : World) (h : Bs w a 128 cap l) (hh : Half w) (hs : beVal (l.take 4) ≠ crcOf (l.drop 4)) :
    Calls Tryd.prog 47 #[.slice a 128 cap] w (UnpPost w 0 [] 12) := by
  have hll := Lib.hid h.len
  have hc := h.cap
  unfold maxLen at hc
  obtain ⟨a2, ha2, hsl⟩ := slice_from elem_bytes size_bytes a 128 cap 4 (by omega)
  have hsl4 : ∀ w, (Instr.slice 26 (.slice a 128 cap) (some (.int .i64 4)) none none).run Tryd.prog w = .ok (.slice a2 124 (cap - 4)) w := hsl .i64
  have hd := h.drop 4 (by omega)
  rw [← ha2] at hd
  have hT := take_any a 128 cap l w.drew h (by omega)
  have hO : ∀ W, Below w.heap.size w W → Calls Tryd.prog 65 #[.slice a2 124 (cap - 4)] W fun e w' => e = .returned (.int .u32 (crcOf (l.drop 4))) ∧ W = w' := fun W hW => crcOf_any _ _ _ _ W (hd.below (Nat.le_refl _) hW) (hh.below (Nat.le_refl _) hW)
  have hN : ∀ t W, Tk W t ⟨l, 0⟩ → Calls Tryd.prog 50 #[.pointer (some ⟨t, 0, none⟩), .int .i64 4] W (TkPost W t (fun _ v => v = .int .u64 (beVal (l.take 4) : Int)) ⟨l.drop 4, 0⟩) := fun t W hW => by
    have := tNum_any t ⟨l, 0⟩ 4 W hW (by rw [hll.out]; omega)
    rw [tNum_four l (by rw [hll.out]; omega)] at this
    exact this
  have hx := crcOn_lt 0 (l.drop 4)
  change crcOf _ < _ at hx
  generalize crcOf (l.drop 4) = s at *
  generalize beVal (l.take 4) = x at *
  have hne : ((x : Int) != (s : Int)) = true := by simp; omega
  have hw64 : (s : Int) % 18446744073709551616 = (s : Int) := by omega
  have hw64' : IntKind.u64.wrap (s : Int) = (s : Int) := by simp [IntKind.wrap, IntKind.signed, IntKind.bits]; omega
  have hB0 : Below w.heap.size w w.drew := (Below.refl _ _).drew
  clear ha2 hsl hs hh
  go_enter Tryd.func47, Tryd.ntmps47
  go_wp2_with fail
  go_region_with (first | (go_at_call 49; refine hT.mono ?_; rintro e w1 ⟨rfl, htk, hlt, hb1⟩; have hB1 := below_then hB0 hb1) | (go_at_call 50; refine (hN _ _ htk).mono ?_; rintro e w2 ⟨_, rfl, rfl, hg2, htk2⟩; have hB2 := below_take hB1 hlt hg2) | (go_at_call 65; refine (hO _ (by assumption)).mono ?_; rintro e wx ⟨rfl, rfl⟩))
  all_goals
    go_wp2
    go_ret3
    exact ⟨_, rfl, OwnBss.nil _ _, hB2⟩

def UnpOk (w : World) (l : List UInt8) (m : Nat) (e : Ending) (w' : World) : Prop :=
  if okS l m && (fits (kindS l) (cutS l m) && pageOf (kindS l) (cutS l m) == l) then UnpPost w (kindS l) (cutS l m) 0 e w' else UnpPost w 0 [] 11 e w'

theorem sub_run6 (b off cap n : Nat) (hn : n ≤ 122) (hc : 128 ≤ cap) (W : World) : (Instr.slice 26 (.slice (some ⟨b, off, none⟩) 128 cap) (some (.int .i64 6)) (some (.int .i64 (6 + (n : Int)))) (some (.int .i64 128))).run Tryd.prog W = .ok (.slice (some ⟨b, off + 6, none⟩) n 122) W := by
  obtain ⟨sa, hsa, hsr⟩ := sub_run elem_bytes size_bytes (some ⟨b, off, none⟩) 128 cap 6 (6 + n) 128 (by omega) (by omega) (by omega)
  have := hsr .i64 .i64 .i64 W
  rw [show 6 + n - 6 = n by omega, hsa] at this
  simpa [add_none] using this

theorem info_bytes : (Tryd.prog.info? 26).map (fun i => (i.zero, i.size, i.bytes)) = some (some (.slice none 0 0), 1, 24) := by kernel_rfl

set_option maxRecDepth 100000 in
set_option maxHeartbeats 4000000 in
theorem unpack_ok (a : Option Addr) (cap : Nat) (l : List UInt8) (w : World) (h : Bs w a 128 cap l) (hh : Half w) (hs : beVal (l.take 4) = crcOf (l.drop 4)) (m : Nat) (hm : (numS l ≤ 122 ∧ m = numS l) ∨ (122 < numS l ∧ m = 122)) :
    Calls Tryd.prog 47 #[.slice a 128 cap] w (UnpOk w l m) := by
  have hll := Lib.hid h.len
  have hc := h.cap
  unfold maxLen at hc
  obtain ⟨a2, ha2, hsl⟩ := slice_from elem_bytes size_bytes a 128 cap 4 (by omega)
  have hsl4 : ∀ w, (Instr.slice 26 (.slice a 128 cap) (some (.int .i64 4)) none none).run Tryd.prog w = .ok (.slice a2 124 (cap - 4)) w := hsl .i64
  have hd := h.drop 4 (by omega)
  rw [← ha2] at hd
  have hT := take_any a 128 cap l w.drew h (by omega)
  have hO : ∀ W, Below w.heap.size w W → Calls Tryd.prog 65 #[.slice a2 124 (cap - 4)] W fun e w' => e = .returned (.int .u32 (crcOf (l.drop 4))) ∧ W = w' := fun W hW => crcOf_any _ _ _ _ W (hd.below (Nat.le_refl _) hW) (hh.below (Nat.le_refl _) hW)
  have hN : ∀ t W, Tk W t ⟨l, 0⟩ → Calls Tryd.prog 50 #[.pointer (some ⟨t, 0, none⟩), .int .i64 4] W (TkPost W t (fun _ v => v = .int .u64 (beVal (l.take 4) : Int)) ⟨l.drop 4, 0⟩) := fun t W hW => by
    have := tNum_any t ⟨l, 0⟩ 4 W hW (by rw [hll.out]; omega)
    rw [tNum_four l (by rw [hll.out]; omega)] at this
    exact this
  have hx := crcOn_lt 0 (l.drop 4)
  change crcOf _ < _ at hx
  rw [hs] at hN
  generalize crcOf (l.drop 4) = s at *
  have hw64 : (s : Int) % 18446744073709551616 = (s : Int) := by omega
  have hw64' : IntKind.u64.wrap (s : Int) = (s : Int) := by simp [IntKind.wrap, IntKind.signed, IntKind.bits]; omega
  have hB0 : Below w.heap.size w w.drew := (Below.refl _ _).drew
  obtain ⟨b, off, rfl, hbb, hcell⟩ := h.cell (k := 0) (by omega)
  have H := Lib.hid h
  have HH := Lib.hid hh
  clear ha2 hsl hs hh hd h
  go_enter Tryd.func47, Tryd.ntmps47
  go_wp2_with fail
  go_region_with (first | (go_at_call 49; refine hT.mono ?_; rintro e w1 ⟨rfl, htk, hlt, hb1⟩; have hB1 := below_then hB0 hb1) | (go_at_call 50; refine (hN _ _ htk).mono ?_; rintro e w2 ⟨_, rfl, rfl, hg2, htk2⟩; have hB2 := below_take hB1 hlt hg2) | (go_at_call 65; refine (hO _ (by assumption)).mono ?_; rintro e wx ⟨rfl, rfl⟩))
  all_goals
    clear hT hO hN hsl4 htk htk2 hg2 hb1 hB1
    have hc4 : w2.cell? ⟨b, off + 4, none⟩ = some (.int .u8 ((kindS l).toNat : Int)) := (hB2.cell (p := ⟨b, off + 4, none⟩) hbb).trans (hcell 4 (by omega))
    have hc5 : w2.cell? ⟨b, off + 5, none⟩ = some (.int .u8 ((numS l : Nat) : Int)) := (hB2.cell (p := ⟨b, off + 5, none⟩) hbb).trans (hcell 5 (by omega))
    have hn256 : numS l < 256 := (l[5]?.getD 0).toNat_lt
    obtain ⟨i0, hi, hz0, hz1, hz2⟩ := info_parts info_bytes
    have hn0 : IntKind.i64.wrap ((numS l : Nat) : Int) = ((numS l : Nat) : Int) := IntWalk.i64_in _ (by omega)
    go_wp2_with fail
    go_quiet (fail)
    clear hc4 hc5 hn0
    have hB2 := below_drewN hB2 nq
    generalize w2.drewN nq = w3 at *
    rcases hm with ⟨hm1, hm2⟩ | ⟨hm1, hm2⟩
    all_goals
      have HM := Lib.hid hm2
      clear hm2
      try (have hs6 : ∀ W, (Instr.slice 26 (.slice (some ⟨b, off, none⟩) 128 cap) (some (.int .i64 6)) (some (.int .i64 (6 + ((numS l : Nat) : Int)))) (some (.int .i64 128))).run Tryd.prog W = .ok (.slice (some ⟨b, off + 6, none⟩) (numS l) 122) W := sub_run6 b off cap (numS l) hm1 hc.1)
      go_wp2_with fail
      try clear hs6
      go_loopw [8, 9, 42] (fun v e i wr => ∃ k : Nat, k ≤ m ∧ i = .int .i64 k ∧ e = .int .i64 ((endS l k : Nat) : Int) ∧ okS l k = true ∧ OwnBss wr w.heap.size v (cutS l k) ∧ Below w.heap.size w wr) (fun _ _ i _ => m - (intOf i).toNat)
      case atStart => exact ⟨0, Nat.zero_le _, rfl, rfl, rfl, OwnBss.nil _ _, hB2⟩
      case round =>
        obtain ⟨k, hk, rfl, rfl, hok, hown, hb⟩ := hrel
        by_cases hlt : k < m
        · have hck : wr.cell? ⟨b, off + 6 + k, none⟩ = some (.int .u8 ((slotS l k : Nat) : Int)) := by
            have hmm := HM.out
            rw [hb.cell (p := ⟨b, off + 6 + k, none⟩) hbb, Nat.add_assoc, hcell (6 + k) (by omega)]; rfl
          have hklt : k < 122 ∧ k < numS l := by have := HM.out; omega
          have hend := okS_end l k hok
          have hsl := slotS_lt l k
          have hes : endS l (k + 1) = slotS l k := rfl
          have hok1 := okS_succ l k
          rw [hok, Bool.true_and] at hok1
          by_cases hle : slotS l k ≤ endS l k
          · obtain ⟨sa, hsa, hsr⟩ := sub_run elem_bytes size_bytes (some ⟨b, off, none⟩) 128 cap (slotS l k) (endS l k) (endS l k) hle (Nat.le_refl _) (by omega)
            have hrow := (H.out.below (Nat.le_refl _) hb).sub (slotS l k) (endS l k) (endS l k) hle (by omega) (Nat.le_refl _) (by omega)
            rw [← hsa] at hrow
            have hrow : Bs wr sa (endS l k - slotS l k) (endS l k - slotS l k) (cellS l k) := hrow
            have hcut := Lib.hid (cutS_succ l k)
            have HES := Lib.hid hes
            have HOK : Hid (okS l (k + 1) = true) := Lib.hid (by rw [hok1]; simpa using hle)
            clear hsa hes hok1 hok
            generalize slotS l k = q at *
            generalize endS l k = e at *
            generalize cellS l k = c at *
            have hle2 : ¬ (e : Int) < (q : Int) := by omega
            go_wp2_with fail
            refine (bclone_any sa (e - q) (e - q) c wr hrow (by omega)).mono ?_
            rintro e1 w4 ⟨u, rfl, hu, hb4⟩
            obtain ⟨a9, c9, rfl, _⟩ := own_slice hu
            obtain ⟨vs, ho1, ho2, ho3⟩ := (hown.below (Nat.le_refl _) hb4).below (Nat.le_refl _) ((Below.refl _ _).alloc (Nat.le_refl _) (.cells #[.slice a9 c.length c9] 26))
            rw [cutS_length] at ho1
            have hcl : (w4.alloc (.cells #[.slice a9 c.length c9] 26)).cell? ⟨w4.heap.size, 0, none⟩ = some (.slice a9 c.length c9) := by
              simp only [World.cell?, World.alloc_heap_new]; rfl
            have HU := Lib.hid ((own_base hu hb.size).alloc (.cells #[.slice a9 c.length c9] 26))
            have HB4 := Lib.hid ((below_then hb hb4).alloc (below_then hb hb4).size (.cells #[.slice a9 c.length c9] 26))
            have HSZ := Lib.hid (show w.heap.size ≤ w4.heap.size from Nat.le_trans hb.size hb4.size)
            have HL := Lib.hid (cutS_length l k)
            have HO2 := Lib.hid ho2
            have HO3 := Lib.hid ho3
            clear ho2 ho3 hu hown hb4 hrow
            go_wp2_with (at_builtin; refine wpList_append_one rfl _ _ 46 rfl w.heap.size 26 i0 _ 24 Tryd.underlying46 hi hz0 hz1 hz2 rfl _ k vs rfl ho1 w4.heap.size rfl (.slice a9 c.length c9) hcl rfl (by unfold maxLen; omega) (by omega) (by have := HSZ.out; simp; omega) ?_)
            intro v2 w5 hown2 hg
            have HSN := Lib.hid (OwnBss.snoc ho1 HL.out.symm HO2.out HO3.out HU.out hg hown2)
            have HB := Lib.hid (HB4.out.grown hg (by have := HSZ.out; simp; omega) (own_ge ho1))
            clear hg hown2 ho1
            go_wp2
            go_roundw
            case rel => exact ⟨k + 1, by omega, by go_num, by rw [HES.out], HOK.out, by rw [hcut.out]; exact HSN.out, HB.out⟩
            case measure => simp [intOf]; omega
          · have hres : (okS l m && (fits (kindS l) (cutS l m) && pageOf (kindS l) (cutS l m) == l)) = false := by
              rw [okS_mono l (m := k + 1) (by rw [hok1]; simpa using hle) hlt, Bool.false_and]
            have HR := Lib.hid hres
            clear hres hok1 hes hok hown hend
            generalize slotS l k = q at *
            generalize endS l k = e at *
            have hle2 : (e : Int) < (q : Int) := by omega
            go_wp2_with fail
            go_ret3
            rw [UnpOk, HR.out]
            exact ⟨_, rfl, OwnBss.nil _ _, hb⟩
        · obtain rfl : k = m := by omega
          obtain ⟨ao, co, rfl, hbss⟩ := hown.bss
          have hcl := cutS_lens l k hll.out hok
          have hcn := cutS_length l k
          rw [hcn] at hbss
          have hpk := pack_any (kindS l) ao k co (cutS l k) wr hbss (HH.out.below (Nat.le_refl _) hb) (by have := HM.out; omega)
          rw [hcn] at hown
          have hout := Lib.hid hown
          rw [hcn]
          have hbase := hb.size
          have hrow := H.out.below (Nat.le_refl _) hb
          have HOKK := Lib.hid hok
          try (have hge : numS l ≤ k := by have := HM.out; omega)
          try (have hge2 : 122 ≤ k := by have := HM.out; omega)
          clear hcl hcn hok hown hbss
          by_cases hf : fits (kindS l) (cutS l k) = true
          · have hpv : packV (kindS l) (cutS l k) = pageOf (kindS l) (cutS l k) := by rw [packV, if_pos hf]
            have hpe : packE (kindS l) (cutS l k) = 0 := by rw [packE, if_pos hf]
            rw [hpv, hpe] at hpk
            have HF := Lib.hid hf
            clear hpv hpe hf
            go_wp2_with fail
            refine hpk.mono ?_
            rintro e w5 ⟨v5, rfl, hown5, hb5⟩
            obtain ⟨a5, c5, rfl, hbs5⟩ := Bs.of_own hown5
            have hB5 := below_then hb hb5
            have HOUT5 := Lib.hid (hout.out.below (Nat.le_refl _) hb5)
            go_wp2_with fail
            refine (equal_any a5 _ c5 (pageOf (kindS l) (cutS l k)) (some ⟨b, off, none⟩) 128 cap l w5 hbs5 (hrow.below (Nat.le_refl _) hb5)).mono ?_
            rintro e w6 ⟨rfl, rfl⟩
            have HR := Lib.hid (show (okS l k && (fits (kindS l) (cutS l k) && pageOf (kindS l) (cutS l k) == l)) = (pageOf (kindS l) (cutS l k) == l) by rw [HOKK.out, HF.out, Bool.true_and, Bool.true_and])
            cases hq : (pageOf (kindS l) (cutS l k) == l)
            · have HQ := Lib.hid hq
              clear hq hpk hrow hb hown5 hbs5 hb5
              go_wp2_with fail
              go_ret3
              rw [UnpOk, HR.out, HQ.out]
              exact ⟨_, rfl, OwnBss.nil _ _, hB5⟩
            · have HQ := Lib.hid hq
              clear hq hpk hrow hb hown5 hbs5 hb5
              go_wp2_with fail
              go_ret3
              rw [UnpOk, HR.out, HQ.out]
              exact ⟨_, rfl, HOUT5.out, hB5⟩
          · have hpe : packE (kindS l) (cutS l k) = 1 := by rw [packE, if_neg hf]
            have hpv : packV (kindS l) (cutS l k) = [] := by rw [packV, if_neg hf]
            have HR := Lib.hid (show (okS l k && (fits (kindS l) (cutS l k) && pageOf (kindS l) (cutS l k) == l)) = false by rw [Bool.eq_false_iff.2 hf, Bool.false_and, Bool.and_false])
            rw [hpv, hpe] at hpk
            clear hpv hpe hf
            go_wp2_with fail
            refine hpk.mono ?_
            rintro e w5 ⟨v5, rfl, hown5, hb5⟩
            have hB5 := below_then hb hb5
            clear hpk hrow hb hown5 hb5
            go_wp2_with fail
            go_ret3
            rw [UnpOk, HR.out]
            exact ⟨_, rfl, OwnBss.nil _ _, hB5⟩
end Go.Proofs.YtjdepdgoaopfoaaDoor
