/- The law's own functions of the chapter on disks: page, small (printed by gen_dskA.py). -/
import Derived.Test.YtopnfpobbemfbaaDskO
import Derived.OwnWalk
namespace Go.Proofs.Ytopnfpobbemfbaa
open Go.RowKit

def fillL (n : Nat) (f : UInt8) : List UInt8 := List.replicate n f
def partL (f : UInt8) (n k : Nat) : List UInt8 := List.replicate k f ++ List.replicate (n - k) 0
def pageB (y : Stp) : List UInt8 := fillL (if y.short then 127 else 128) y.fill
theorem set_fill (f : UInt8) (n k : Nat) (h : k < n) : (List.replicate k f ++ List.replicate (n - k) 0).set k f = List.replicate (k + 1) f ++ List.replicate (n - (k + 1)) 0 := by
  rw [List.set_append_right _ _ (by simp), List.length_replicate, Nat.sub_self]
  obtain ⟨m, hm⟩ : ∃ m, n - k = m + 1 := ⟨n - k - 1, by omega⟩
  rw [hm, List.replicate_succ, List.set_cons_zero, show n - (k + 1) = m by omega, List.replicate_succ', List.append_assoc]
  rfl
set_option maxRecDepth 100000 in
set_option maxHeartbeats 1000000 in
theorem page_long (y : Stp) (hs : y.short = false) (w : World) : Calls Try.prog 11 #[.agg (scells y).toArray] w (OwnBytes 5 w (fillL 128 y.fill)) := by
  obtain ⟨i0, hi, hz0, hz1, hz2⟩ := info_parts info_byte
  obtain ⟨ki, re, pa, fi, sh, ka, kl, kc, ke⟩ := y
  subst hs
  simp only [scells]
  go_enter Try.func11, Try.ntmps11
  go_wp2_with (at_make; refine wpList_make_full _ rfl _ _ 22 rfl w.heap.size 5 i0 _ 1 Try.underlying22 hi hz0 hz1 .i64 .i64 _ _ 128 rfl rfl rfl rfl (by rw [hz2]; omega) (by unfold maxLen; omega) (by simp) ?_)
  intro w1 hown hg
  have hB0 : Below w.heap.size w (w.alloc (.cells #[.int .i64 ki, .int .i64 re, .int .i64 pa, .int .u8 (fi.toNat : Int), .bool false, .slice ka kl kc] 33)) := (Below.refl _ _).alloc (Nat.le_refl _) _
  have hB := hB0.grown hg (by simp) (fun k e => by cases e)
  have hbox : w1.cell? ⟨w.heap.size, 3, none⟩ = some (.int .u8 (fi.toNat : Int)) := by
    rw [World.cell?_of_block (hg.block w.heap.size (by simp) (by simp))]
    simp only [World.cell?, World.alloc_heap_new w (.cells #[.int .i64 ki, .int .i64 re, .int .i64 pa, .int .u8 (fi.toNat : Int), .bool false, .slice ka kl kc] 33)]; rfl
  have hown' : w1.ownsRow w.heap.size 5 1 (.slice (some ⟨w.heap.size + 1, 0, none⟩) 128 128) 128 ((toI (partL fi 128 0)).map (Value.int .u8)) := by
    simp only [made_list] at hown
    simpa [toI, partL] using hown
  clear hown hg hB0
  go_wp2
  go_loopw [5] (fun i wr => ∃ k : Nat, k ≤ 128 ∧ i = .int .i64 k ∧ wr.ownsRow w.heap.size 5 1 (.slice (some ⟨w.heap.size + 1, 0, none⟩) 128 128) 128 ((toI (partL fi 128 k)).map (Value.int .u8)) ∧ Below w.heap.size w wr ∧ wr.cell? ⟨w.heap.size, 3, none⟩ = some (.int .u8 (fi.toNat : Int))) (fun i _ => 128 - (intOf i).toNat)
  case atStart => exact ⟨0, Nat.zero_le _, rfl, hown', hB, hbox⟩
  case round =>
    obtain ⟨k, hk, rfl, hr, hb, hbx⟩ := hrel
    by_cases hlt : k < 128
    · have hc := hr.cellAt k (by omega)
      have hf := hr.frozenAt k
      have hst := hr.stored k (.int .u8 (fi.toNat : Int))
      have hlist : ((toI (partL fi 128 k)).map (Value.int .u8)).set k (.int .u8 (fi.toNat : Int)) = (toI (partL fi 128 (k + 1))).map (Value.int .u8) := by
        unfold partL
        rw [← set_fill fi 128 k hlt]
        simp only [toI, List.map_set]
      rw [hlist] at hst
      have hst := hst.1
      clear hlist
      have hbx' : (wr.setCell ⟨w.heap.size + 1, k, none⟩ (.int .u8 (fi.toNat : Int))).cell? ⟨w.heap.size, 3, none⟩ = some (.int .u8 (fi.toNat : Int)) := (World.cell?_setCell_far wr _ _ _ (by simp)).trans hbx
      rw [List.getElem?_map, toI, List.getElem?_map] at hc
      have hc' : ∃ v, wr.cell? ⟨w.heap.size + 1, k, none⟩ = some v := by
        rw [hc, partL, List.getElem?_append_right (by simp), List.length_replicate, Nat.sub_self, List.getElem?_replicate, if_pos (by omega)]
        exact ⟨_, rfl⟩
      obtain ⟨v0, hc'⟩ := hc'
      clear hc
      have HS := Lib.hid hst
      have HX := Lib.hid hbx'
      clear hst hbx'
      have l1 : (k : Int) < 128 := by omega
      go_wp2
      go_roundw
      case rel => exact ⟨k + 1, by omega, by go_num, HS.out, hb.setCell (by simp) _, HX.out⟩
      case measure => simp [intOf]; omega
    · obtain rfl : k = 128 := by omega
      have hfl : (fillL 128 fi).length = 128 := by unfold fillL; rw [List.length_replicate]
      have hfe : partL fi 128 128 = fillL 128 fi := by unfold partL fillL; rw [Nat.sub_self, List.replicate_zero, List.append_nil]
      have hr' : wr.ownsRow w.heap.size 5 1 (.slice (some ⟨w.heap.size + 1, 0, none⟩) 128 128) (fillL 128 fi).length ((toI (fillL 128 fi)).map (Value.int .u8)) := by
        rw [hfl, ← hfe]; exact hr
      clear hfl hfe
      have HR := Lib.hid hr'
      clear hr hr'
      go_wp2
      go_ret
      exact ⟨_, rfl, HR.out, hb⟩
set_option maxRecDepth 100000 in
set_option maxHeartbeats 1000000 in
theorem page_short (y : Stp) (hs : y.short = true) (w : World) : Calls Try.prog 11 #[.agg (scells y).toArray] w (OwnBytes 5 w (fillL 127 y.fill)) := by
  obtain ⟨i0, hi, hz0, hz1, hz2⟩ := info_parts info_byte
  obtain ⟨ki, re, pa, fi, sh, ka, kl, kc, ke⟩ := y
  subst hs
  simp only [scells]
  go_enter Try.func11, Try.ntmps11
  go_wp2_with (at_make; refine wpList_make_full _ rfl _ _ 22 rfl w.heap.size 5 i0 _ 1 Try.underlying22 hi hz0 hz1 .i64 .i64 _ _ 127 rfl rfl rfl rfl (by rw [hz2]; omega) (by unfold maxLen; omega) (by simp) ?_)
  intro w1 hown hg
  have hB0 : Below w.heap.size w (w.alloc (.cells #[.int .i64 ki, .int .i64 re, .int .i64 pa, .int .u8 (fi.toNat : Int), .bool true, .slice ka kl kc] 33)) := (Below.refl _ _).alloc (Nat.le_refl _) _
  have hB := hB0.grown hg (by simp) (fun k e => by cases e)
  have hbox : w1.cell? ⟨w.heap.size, 3, none⟩ = some (.int .u8 (fi.toNat : Int)) := by
    rw [World.cell?_of_block (hg.block w.heap.size (by simp) (by simp))]
    simp only [World.cell?, World.alloc_heap_new w (.cells #[.int .i64 ki, .int .i64 re, .int .i64 pa, .int .u8 (fi.toNat : Int), .bool true, .slice ka kl kc] 33)]; rfl
  have hown' : w1.ownsRow w.heap.size 5 1 (.slice (some ⟨w.heap.size + 1, 0, none⟩) 127 127) 127 ((toI (partL fi 127 0)).map (Value.int .u8)) := by
    simp only [made_list] at hown
    simpa [toI, partL] using hown
  clear hown hg hB0
  go_wp2
  go_loopw [5] (fun i wr => ∃ k : Nat, k ≤ 127 ∧ i = .int .i64 k ∧ wr.ownsRow w.heap.size 5 1 (.slice (some ⟨w.heap.size + 1, 0, none⟩) 127 127) 127 ((toI (partL fi 127 k)).map (Value.int .u8)) ∧ Below w.heap.size w wr ∧ wr.cell? ⟨w.heap.size, 3, none⟩ = some (.int .u8 (fi.toNat : Int))) (fun i _ => 127 - (intOf i).toNat)
  case atStart => exact ⟨0, Nat.zero_le _, rfl, hown', hB, hbox⟩
  case round =>
    obtain ⟨k, hk, rfl, hr, hb, hbx⟩ := hrel
    by_cases hlt : k < 127
    · have hc := hr.cellAt k (by omega)
      have hf := hr.frozenAt k
      have hst := hr.stored k (.int .u8 (fi.toNat : Int))
      have hlist : ((toI (partL fi 127 k)).map (Value.int .u8)).set k (.int .u8 (fi.toNat : Int)) = (toI (partL fi 127 (k + 1))).map (Value.int .u8) := by
        unfold partL
        rw [← set_fill fi 127 k hlt]
        simp only [toI, List.map_set]
      rw [hlist] at hst
      have hst := hst.1
      clear hlist
      have hbx' : (wr.setCell ⟨w.heap.size + 1, k, none⟩ (.int .u8 (fi.toNat : Int))).cell? ⟨w.heap.size, 3, none⟩ = some (.int .u8 (fi.toNat : Int)) := (World.cell?_setCell_far wr _ _ _ (by simp)).trans hbx
      rw [List.getElem?_map, toI, List.getElem?_map] at hc
      have hc' : ∃ v, wr.cell? ⟨w.heap.size + 1, k, none⟩ = some v := by
        rw [hc, partL, List.getElem?_append_right (by simp), List.length_replicate, Nat.sub_self, List.getElem?_replicate, if_pos (by omega)]
        exact ⟨_, rfl⟩
      obtain ⟨v0, hc'⟩ := hc'
      clear hc
      have HS := Lib.hid hst
      have HX := Lib.hid hbx'
      clear hst hbx'
      have l1 : (k : Int) < 127 := by omega
      go_wp2
      go_roundw
      case rel => exact ⟨k + 1, by omega, by go_num, HS.out, hb.setCell (by simp) _, HX.out⟩
      case measure => simp [intOf]; omega
    · obtain rfl : k = 127 := by omega
      have hfl : (fillL 127 fi).length = 127 := by unfold fillL; rw [List.length_replicate]
      have hfe : partL fi 127 127 = fillL 127 fi := by unfold partL fillL; rw [Nat.sub_self, List.replicate_zero, List.append_nil]
      have hr' : wr.ownsRow w.heap.size 5 1 (.slice (some ⟨w.heap.size + 1, 0, none⟩) 127 127) (fillL 127 fi).length ((toI (fillL 127 fi)).map (Value.int .u8)) := by
        rw [hfl, ← hfe]; exact hr
      clear hfl hfe
      have HR := Lib.hid hr'
      clear hr hr'
      go_wp2
      go_ret
      exact ⟨_, rfl, HR.out, hb⟩
theorem page_any (y : Stp) (w : World) : Calls Try.prog 11 #[.agg (scells y).toArray] w (OwnBytes 5 w (pageB y)) := by
  cases h : y.short with
  | false => have := page_long y h w; rwa [show fillL 128 y.fill = pageB y by simp [pageB, h]] at this
  | true => have := page_short y h w; rwa [show fillL 127 y.fill = pageB y by simp [pageB, h]] at this
/-- Are steps small? -/
def smallB (l : List Stp) : Bool := (l.all fun y => decide (y.kl ≤ 8)) && decide (l.length ≤ 40)
set_option maxRecDepth 100000 in
set_option maxHeartbeats 1000000 in
theorem small_any {w : World} {a : Option Addr} {len cap : Nat} {l : List Stp} (h : Stps w a len cap l) :
    Calls Try.prog 17 #[.slice a len cap] w fun e w' => e = .returned (.bool (smallB l)) ∧ w = w' := by
  have hl := h.1
  have hm : len ≤ 9223372036854775807 := by have := h.2.1; have := h.2.2.1; unfold maxLen at this; omega
  have HH := Lib.hid h
  have HL := Lib.hid hl
  clear hl h
  go_enter Try.func17, Try.ntmps17
  go_wp2
  go_loop [3] (fun s => ∃ k : Nat, k ≤ len ∧ s = .int .i64 k ∧ (l.take k).all (fun y => decide (y.kl ≤ 8)) = true) (fun s => len - (intOf s).toNat)
  case atStart => exact ⟨0, Nat.zero_le _, rfl, rfl⟩
  case round =>
    obtain ⟨k, hk, rfl, hall⟩ := hrel
    by_cases hlt : k < len
    · obtain ⟨b, off, y, cs, rfl, hb, hy, hcl, ⟨rfl, hks, _⟩, hcell⟩ := HH.out.at hlt
      have hkl : k < l.length := by have := HL.out; omega
      have hts : (l.take (k + 1)).all (fun y => decide (y.kl ≤ 8)) = decide (y.kl ≤ 8) := by
        rw [List.take_succ_eq_append_getElem hkl, List.all_append, hall, (List.getElem?_eq_some_iff.1 hy).2]; simp
      have HTS := Lib.hid hts
      have c5 : w.cell? ⟨b, off + k * 6 + 5, none⟩ = some (.slice y.ka y.kl y.kc) := hcell 5 _ rfl
      have hkm : y.kl ≤ 9223372036854775807 := by have := hks.2.1; have := hks.2.2.1; unfold maxLen at this; omega
      by_cases h8 : 8 < y.kl
      · have e1 : decide (8 < y.kl) = true := by simpa using h8
        have e2 : decide ((8 : Int) < (y.kl : Int)) = true := by simp; omega
        have hs : smallB l = false := by
          unfold smallB
          rw [show l.all (fun y => decide (y.kl ≤ 8)) = false from by
            rw [List.all_eq_false]; exact ⟨y, List.mem_of_getElem? hy, by simp; omega⟩]
          rfl
        have HS := Lib.hid hs
        clear hts hall hcell hks hs hy hcl
        go_wp2
        go_ret
        exact ⟨ret_bool HS.out.symm, rfl⟩
      · have e1 : decide (8 < y.kl) = false := by simpa using h8
        have e2 : decide ((8 : Int) < (y.kl : Int)) = false := by simp; omega
        clear hts hall hcell hks hy hcl
        go_wp2
        go_round
        case rel => exact ⟨k + 1, hlt, by go_num, by rw [HTS.out]; simp; omega⟩
        case measure => simp [intOf]; omega
    · obtain rfl : k = len := by omega
      have hs : smallB l = decide (k ≤ 40) := by
        have := HL.out
        unfold smallB
        rw [List.take_of_length_le (by omega)] at hall
        rw [hall, this]; rfl
      have HS := Lib.hid hs
      clear hall hs
      go_wp2
      go_ret
      exact ⟨ret_bool (by rw [HS.out]; simp; omega), rfl⟩
end Go.Proofs.Ytopnfpobbemfbaa
