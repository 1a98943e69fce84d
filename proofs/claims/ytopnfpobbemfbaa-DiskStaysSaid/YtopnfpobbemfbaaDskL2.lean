/- The walk of the law DiskStays. -/
import Derived.Test.YtopnfpobbemfbaaDskL1
namespace Go.Proofs.Ytopnfpobbemfbaa
open Go.RowKit

theorem row_one (W : World) (n : Int) : Row .i64 (W.alloc (.cells #[.int .i64 n] 3)) (some ⟨W.heap.size, 0, none⟩) 1 1 [n] := Row.made .i64 W 3 [n] rfl (by unfold maxLen; simp)
theorem txs_one (W : World) (s : List UInt8) : Txs (W.alloc (.cells #[.string (strOf s)] 9)) (some ⟨W.heap.size, 0, none⟩) 1 1 [s] := by
  refine ⟨rfl, Nat.le_refl _, by unfold maxLen; omega, (fun h => by cases h), .inr ⟨W.heap.size, 0, rfl, by simp, fun i y hy => ?_⟩⟩
  obtain rfl : i = 0 := by have := (List.getElem?_eq_some_iff.1 hy).1; simp at this; omega
  simp at hy
  subst hy
  refine ⟨[.string (strOf s)], rfl, rfl, fun j v hv => ?_⟩
  obtain rfl : j = 0 := by have := (List.getElem?_eq_some_iff.1 hv).1; simp at this; omega
  simp at hv; subst hv
  simp only [World.cell?, World.alloc_heap_new W (.cells #[.string (strOf s)] 9)]; rfl
theorem one_write {B : Nat} {w w1 : World} {da db M : Nat} {d e : List Rg} (h : Two B w da db M d e) (hb : Below w.heap.size w w1) {a : Option Addr} {cap : Nat} {l : List UInt8} (hr : w1.ownsRow w.heap.size 5 1 (.slice a l.length cap) l.length ((toI l).map (Value.int .u8))) (hM : M ≤ 900000) (r p : Int) :
    Calls Try.prog 10 #[.pointer (some ⟨da, 0, none⟩), .int .i64 r, .int .i64 p, .slice a l.length cap] w1 fun e' w' => e' = .returned (.int .i64 (writeE d r p l)) ∧ Two B w' da db (M + 1) (writeD d r p l) e ∧ Below B w w' := by
  have hg := own_ge hr
  have := write_o (h.opens.below hb) (Bs.own hr) (fun g off hg' => by subst hg'; exact .inr (hg g rfl)) hM r p
  exact this
set_option maxRecDepth 100000 in
set_option maxHeartbeats 4000000 in
theorem stBig {w : World} {a0 a1 : Option Addr} {len0 cap0 len1 cap1 : Nat} {s : List UInt8} (m0 : len0 ≤ 9223372036854775807) (m1 : len1 ≤ 9223372036854775807) (h : 30 < len0 ∨ 30 < len1 ∨ 10 < s.length) :
    Calls Try.prog 3 #[.slice a0 len0 cap0, .slice a1 len1 cap1, .string (strOf s)] w fun e w' => e = .returned (.bool true) ∧ Below w.heap.size w w' := by
  have A := awake_any w
  have z1 := strOf_size s
  have hst := strOf_toList s
  by_cases g0 : 30 < len0
  · have e0 : decide (30 < len0) = true := by simpa using g0
    have e0' : decide ((30 : Int) < len0) = true := by simp; omega
    go_enter Try.func3, Try.ntmps3
    go_wp2_with fail
    refine A.mono ?_
    rintro e w1 ⟨rfl, hb⟩
    go_wp2_with fail
    go_ret
    exact ⟨rfl, hb⟩
  · have e0 : decide (30 < len0) = false := by simpa using g0
    have e0' : decide ((30 : Int) < len0) = false := by simp; omega
    by_cases g1 : 30 < len1
    · have e1 : decide (30 < len1) = true := by simpa using g1
      have e1' : decide ((30 : Int) < len1) = true := by simp; omega
      go_enter Try.func3, Try.ntmps3
      go_wp2_with fail
      refine A.mono ?_
      rintro e w1 ⟨rfl, hb⟩
      go_wp2_with fail
      go_ret
      exact ⟨rfl, hb⟩
    · have e1 : decide (30 < len1) = false := by simpa using g1
      have e1' : decide ((30 : Int) < len1) = false := by simp; omega
      have g2 : 10 < s.length := by omega
      have e2 : decide (10 < s.length) = true := by simpa using g2
      have e2' : decide ((10 : Int) < s.length) = true := by simp; omega
      clear h
      go_enter Try.func3, Try.ntmps3
      go_wp2_with fail
      refine A.mono ?_
      rintro e w1 ⟨rfl, hb⟩
      go_wp2_with fail
      go_ret
      exact ⟨rfl, hb⟩
theorem wrap_byte (b : UInt8) : IntKind.u64.wrap (b.toNat : Int) = (b.toNat : Int) := by
  have := b.toNat_lt
  rw [IntKind.wrap_u64]; omega
/-- A byte's bit, as the law asks it. -/
theorem bit3_lit (w : World) (b : UInt8) (k : Nat) : Calls Try.prog 15 #[.int .u64 (IntKind.u64.wrap (b.toNat : Int)), .int .i64 ((k : Int) % 8)] w fun e w' => e = .returned (.bool (b.toNat / 2 ^ (k % 8) % 2 == 1)) ∧ w = w' := by
  have := bit3_any w b.toNat (k % 8) (by have := b.toNat_lt; omega) (by omega)
  rw [wrap_byte, show (k : Int) % 8 = ((k % 8 : Nat) : Int) by omega]
  exact this
/-- What a round of the writes leaves. -/
def StRel (B : Nat) (w : World) (da db : Nat) (n : Nat) (d : List Rg) (wr : World) : Prop := ∃ M, M ≤ n ∧ Two B wr da db M d d ∧ Below w.heap.size w wr
theorem two_crash {B : Nat} {w : World} {da db M : Nat} {d e : List Rg} (h : Two B w da db M d e) (hM : M ≤ 900000) (s : List UInt8) :
    Calls Try.prog 13 #[.pointer (some ⟨da, 0, none⟩), .slice (some ⟨w.heap.size, 0, none⟩) 1 1] (w.alloc (.cells #[.string (strOf s)] 9)) fun e' w' => e' = .returned (.tuple #[]) ∧ Two B w' da db M (crashD d [s]) e ∧ Below B w w' :=
  crash_o (h.opens.below ((Below.refl _ _).alloc (Nat.le_refl _) _)) hM (txs_one w s) (fun g off hg => by cases hg; exact .inr (Nat.le_refl _))
set_option maxRecDepth 100000 in
set_option maxHeartbeats 8000000 in
theorem lStays {w : World} {a0 a1 : Option Addr} {len0 cap0 len1 cap1 : Nat} {l0 l1 : List UInt8} (h0 : Bs w a0 len0 cap0 l0) (h1 : Bs w a1 len1 cap1 l1) (s : List UInt8) :
    Calls Try.prog 3 #[.slice a0 len0 cap0, .slice a1 len1 cap1, .string (strOf s)] w fun e w' => e = .returned (.bool true) ∧ Below w.heap.size w w' := by
  have m0 : len0 ≤ 9223372036854775807 := by have := h0.cap; unfold maxLen at this; omega
  have m1 : len1 ≤ 9223372036854775807 := by have := h1.cap; unfold maxLen at this; omega
  by_cases hbig : 30 < len0 ∨ 30 < len1 ∨ 10 < s.length
  · exact stBig m0 m1 hbig
  have e0 : decide (30 < len0) = false := by simp; omega
  have e0' : decide ((30 : Int) < len0) = false := by simp; omega
  have e1 : decide (30 < len1) = false := by simp; omega
  have e1' : decide ((30 : Int) < len1) = false := by simp; omega
  have e2 : decide (10 < s.length) = false := by simp; omega
  have e2' : decide ((10 : Int) < s.length) = false := by simp; omega
  have k0 : len0 ≤ 30 := by omega
  have k1 : len1 ≤ 30 := by omega
  have k2 : s.length ≤ 10 := by omega
  have z1 := strOf_size s
  have hst := strOf_toList s
  have A := awake_any w
  have HL0 := Lib.hid h0.len
  have HL1 := Lib.hid h1.len
  have H0 := Lib.hid h0
  have H1 := Lib.hid h1
  have BLD := stp_build
  clear hbig h0 h1
  go_enter Try.func3, Try.ntmps3
  go_wp2_with fail
  refine A.mono ?_
  rintro e w1 ⟨rfl, hb1⟩
  have N := new_ok (row_one w1 30) (by decide)
  clear A
  go_wp2_with fail
  refine N.mono ?_
  rintro e w2 ⟨da, rfl, hd2, hb2⟩
  generalize hB : (w1.alloc (.cells #[.int .i64 30] 3)).heap.size = B at *
  have hBw : w.heap.size ≤ B := by rw [← hB]; have := hb1.size; simp; omega
  have hw2 : Below w.heap.size w w2 := (hb1.alloc hb1.size _).trans (hb2.mono hBw)
  have N2 := new_two (hd2.below ((Below.refl _ _).alloc (Nat.le_refl _) (.cells #[.int .i64 30] 3))) (row_one w2 30) (by decide)
  have hsz2 := hw2.size
  clear N hB hb1 hb2 hd2
  go_wp2_with fail
  refine N2.mono ?_
  rintro e w3 ⟨db, rfl, hd3, hb3⟩
  have hd3 : Two B w3 da db 0 (stR (fun _ => zpage) l0 0) (stR (fun _ => zpage) l0 0) := hd3
  have hw3 : Below w.heap.size w w3 := (hw2.alloc hsz2 _).trans (hb3.mono (by simp; omega))
  clear N2 hb3 hw2 hsz2
  go_wp2_with fail
  go_loopw [12] (fun i wr => ∃ k : Nat, k ≤ len0 ∧ i = .int .i64 k ∧ StRel B w da db (0 + 2 * k) (stR (fun _ => zpage) l0 k) wr) (fun i _ => len0 - (intOf i).toNat)
  case atStart => exact ⟨0, Nat.zero_le _, rfl, 0, Nat.le_refl _, hd3, hw3⟩
  case round =>
    obtain ⟨k, hk, rfl, M, hM, hd, hbw⟩ := hrel
    by_cases hlt : k < len0
    · obtain ⟨b, off, rfl, hb, hc⟩ := H0.out.cell hlt
      have c1 : wr.cell? ⟨b, off + k, none⟩ = some (.int .u8 ((l0[k]?.getD 0).toNat : Int)) := (hbw.cell (p := ⟨b, off + k, none⟩) hb).trans (hc k hlt)
      have STW := stR_write (fun _ => zpage) l0 k (by omega)
      clear hc
      generalize hf : l0[k]?.getD 0 = f at *
      have STW := Lib.hid STW
      have P := page_fill f
      clear hf
      go_wp2_with fail
      refine (P wr).mono ?_
      rintro e wa ⟨va, rfl, hoa, hba⟩
      obtain ⟨aa, ca, rfl, hra⟩ := Bs.of_own hoa
      have C := one_write hd hba hoa (by omega) 0 k
      have hwa : Below w.heap.size w wa := hbw.trans (hba.mono hbw.size)
      clear hra
      go_wp2_with fail
      refine C.mono ?_
      rintro e wb ⟨rfl, hdb, hbb⟩
      have hwb : Below w.heap.size w wb := hbw.trans (hbb.mono hBw)
      have c1b : wb.cell? ⟨b, off + k, none⟩ = some (.int .u8 (f.toNat : Int)) := (hbb.cell (p := ⟨b, off + k, none⟩) (by show b < B; omega)).trans c1
      clear C c1 hoa hba hwa hd
      go_wp2_with fail
      refine (P wb).mono ?_
      rintro e wc ⟨vc, rfl, hoc, hbc⟩
      obtain ⟨ac, cc, rfl, hrc⟩ := Bs.of_own hoc
      have C := one_write hdb.swap hbc hoc (by omega) 0 k
      clear hrc
      go_wp2_with fail
      refine C.mono ?_
      rintro e wd ⟨rfl, hdd, hbd⟩
      have hwd : Below w.heap.size w wd := hwb.trans (hbd.mono hBw)
      have hdd := hdd.swap
      rw [STW.out] at hdd
      have END := Lib.hid (show StRel B w da db (0 + 2 * (k + 1)) (stR (fun _ => zpage) l0 (k + 1)) wd from ⟨M + 1 + 1, by omega, hdd, hwd⟩)
      clear C c1b hoc hbc hdb hbb hwb hbw hdd hwd P STW hM hbd
      go_wp2_with fail
      go_roundw
      case rel => exact ⟨k + 1, hlt, by go_num, END.out⟩
      case measure => simp [intOf]; omega
    · obtain rfl : len0 = k := by omega
      have C := sync_o hd.opens (by omega) 0
      clear hd3 hw3
      go_wp2_with fail
      refine C.mono ?_
      rintro e w4 ⟨rfl, hd4, hb4⟩
      have hw4 : Below w.heap.size w w4 := hbw.trans (hb4.mono hBw)
      have C2 := sync_o hd4.swap.opens (by omega) 0
      clear C hb4 hbw hd
      go_wp2_with fail
      refine C2.mono ?_
      rintro e w5 ⟨rfl, hd5, hb5⟩
      have hw5 : Below w.heap.size w w5 := hw4.trans (hb5.mono hBw)
      have hd5 := hd5.swap
      rw [stR_sync (fun _ => zpage) l0 l1 len0] at hd5
      clear C2 hb5 hw4 hd4
      go_wp2_with fail
      go_loopw [13] (fun i wr => ∃ k : Nat, k ≤ len1 ∧ i = .int .i64 k ∧ StRel B w da db (2 * len0 + 2 * k) (stR (fun q => if q < len0 then toP (fillL 128 (l0[q]?.getD 0)) else zpage) l1 k) wr) (fun i _ => len1 - (intOf i).toNat)
      case atStart => exact ⟨0, Nat.zero_le _, rfl, M, by omega, hd5, hw5⟩
      case round =>
        obtain ⟨k, hk, rfl, M1, hM1, hd, hbw⟩ := hrel
        by_cases hlt : k < len1
        · obtain ⟨b, off, rfl, hb, hc⟩ := H1.out.cell hlt
          have c1 : wr.cell? ⟨b, off + k, none⟩ = some (.int .u8 ((l1[k]?.getD 0).toNat : Int)) := (hbw.cell (p := ⟨b, off + k, none⟩) hb).trans (hc k hlt)
          have STW := stR_write (fun q => if q < len0 then toP (fillL 128 (l0[q]?.getD 0)) else zpage) l1 k (by omega)
          clear hc
          generalize hf : l1[k]?.getD 0 = f at *
          have STW := Lib.hid STW
          have P := page_fill f
          clear hf
          go_wp2_with fail
          refine (P wr).mono ?_
          rintro e wa ⟨va, rfl, hoa, hba⟩
          obtain ⟨aa, ca, rfl, hra⟩ := Bs.of_own hoa
          have C := one_write hd hba hoa (by omega) 0 k
          have hwa : Below w.heap.size w wa := hbw.trans (hba.mono hbw.size)
          clear hra
          go_wp2_with fail
          refine C.mono ?_
          rintro e wb ⟨rfl, hdb, hbb⟩
          have hwb : Below w.heap.size w wb := hbw.trans (hbb.mono hBw)
          have c1b : wb.cell? ⟨b, off + k, none⟩ = some (.int .u8 (f.toNat : Int)) := (hbb.cell (p := ⟨b, off + k, none⟩) (by show b < B; omega)).trans c1
          clear C c1 hoa hba hwa hd
          go_wp2_with fail
          refine (P wb).mono ?_
          rintro e wc ⟨vc, rfl, hoc, hbc⟩
          obtain ⟨ac, cc, rfl, hrc⟩ := Bs.of_own hoc
          have C := one_write hdb.swap hbc hoc (by omega) 0 k
          clear hrc
          go_wp2_with fail
          refine C.mono ?_
          rintro e wd ⟨rfl, hdd, hbd⟩
          have hwd : Below w.heap.size w wd := hwb.trans (hbd.mono hBw)
          have hdd := hdd.swap
          rw [STW.out] at hdd
          have END := Lib.hid (show StRel B w da db (2 * len0 + 2 * (k + 1)) (stR (fun q => if q < len0 then toP (fillL 128 (l0[q]?.getD 0)) else zpage) l1 (k + 1)) wd from ⟨M1 + 1 + 1, by omega, hdd, hwd⟩)
          clear C c1b hoc hbc hdb hbb hwb hbw hdd hwd P STW hM1 hbd
          go_wp2_with fail
          go_roundw
          case rel => exact ⟨k + 1, hlt, by go_num, END.out⟩
          case measure => simp [intOf]; omega
        · obtain rfl : len1 = k := by omega
          have C := two_crash hd (by omega) s
          clear hd5 hw5
          go_wp2_with fail
          refine C.mono ?_
          rintro e w6 ⟨rfl, hd6, hb6⟩
          have hw6 : Below w.heap.size w w6 := hbw.trans (hb6.mono hBw)
          rw [stR_crash] at hd6
          have C2 := two_crash hd6.swap (by omega) [255, 255, 255, 255]
          clear C hb6 hbw hd
          go_wp2_with fail
          refine C2.mono ?_
          rintro e w7 ⟨rfl, hd7, hb7⟩
          have hw7 : Below w.heap.size w w7 := hw6.trans (hb7.mono hBw)
          rw [stR_crash] at hd7
          have hd7 := hd7.swap
          clear C2 hb7 hw6 hd6
          go_wp2_with fail
          go_loopw [14] (fun i wr => ∃ k : Nat, k ≤ 30 ∧ i = .int .i64 k ∧ Two B wr da db M1 (stR (fun q => if q < len1 ∧ bitB s q then toP (fillL 128 (l1[q]?.getD 0)) else (fun q => if q < len0 then toP (fillL 128 (l0[q]?.getD 0)) else zpage) q) l1 0) (stR (fun q => if q < len1 ∧ bitB [255, 255, 255, 255] q then toP (fillL 128 (l1[q]?.getD 0)) else (fun q => if q < len0 then toP (fillL 128 (l0[q]?.getD 0)) else zpage) q) l1 0) ∧ Below w.heap.size w wr) (fun i _ => 30 - (intOf i).toNat)
          case atStart => exact ⟨0, by omega, rfl, hd7, hw7⟩
          case round =>
            obtain ⟨k, hk, rfl, hd, hbw⟩ := hrel
            clear hd7 hw7
            by_cases hlt : k < 30
            · by_cases t0 : k < len0
              · by_cases t1 : k < len1
                · by_cases hbit : bitB s k = true
                  · obtain ⟨b0, o0, rfl, hb0, hc0⟩ := H0.out.cell t0
                    have c0 : wr.cell? ⟨b0, o0 + k, none⟩ = some (.int .u8 ((l0[k]?.getD 0).toNat : Int)) := (hbw.cell (p := ⟨b0, o0 + k, none⟩) hb0).trans (hc0 k t0)
                    clear hc0
                    obtain ⟨b1, o1, rfl, hb1, hc1⟩ := H1.out.cell t1
                    have c1 : wr.cell? ⟨b1, o1 + k, none⟩ = some (.int .u8 ((l1[k]?.getD 0).toNat : Int)) := (hbw.cell (p := ⟨b1, o1 + k, none⟩) hb1).trans (hc1 k t1)
                    clear hc1
                    have hwas : (fun q => if q < len0 then toP (fillL 128 (l0[q]?.getD 0)) else zpage) k = toP (fillL 128 (l0[k]?.getD 0)) := by dsimp only; rw [if_pos t0]
                    have hff := ff_bits ⟨k, by omega⟩
                    have hy : readB (stR (fun q => if q < len1 ∧ bitB [255, 255, 255, 255] q then toP (fillL 128 (l1[q]?.getD 0)) else (fun q => if q < len0 then toP (fillL 128 (l0[q]?.getD 0)) else zpage) q) l1 0) 0 k = fillL 128 (l1[k]?.getD 0) := by
                      rw [stR_read _ _ _ hlt]
                      rw [if_pos ⟨t1, hff⟩, toP_fill]
                    clear hff
                    have hx : readB (stR (fun q => if q < len1 ∧ bitB s q then toP (fillL 128 (l1[q]?.getD 0)) else (fun q => if q < len0 then toP (fillL 128 (l0[q]?.getD 0)) else zpage) q) l1 0) 0 k = fillL 128 (l1[k]?.getD 0) := by
                      rw [stR_read _ _ _ hlt]
                      rw [if_pos ⟨t1, hbit⟩, toP_fill]
                    clear hwas
                    generalize l0[k]?.getD 0 = f0 at *
                    generalize l1[k]?.getD 0 = f1 at *
                    have C := read_o hd.left 0 k
                    have HBK := Lib.hid hbit
                    have HX := Lib.hid hx
                    have HY := Lib.hid hy
                    clear hx hy hbit
                    go_wp2_with fail
                    refine C.mono ?_
                    rintro e w8 ⟨v8, rfl, ho8, hb8⟩
                    obtain ⟨g8, p8, rfl, hp8, hp8', hge8, hlt8, hx8⟩ := read_byte ho8 HX.out 5 (by decide)
                    have hd8 := hd.below hb8
                    have hw8 : Below w.heap.size w w8 := hbw.trans (hb8.mono hbw.size)
                    have C2 := read_o hd8.swap.left 0 k
                    have HX8 := Lib.hid hx8
                    clear C ho8 hb8 hge8 hlt8 hx8 hbw hd
                    go_wp2_with fail
                    refine C2.mono ?_
                    rintro e w9 ⟨v9, rfl, ho9, hb9⟩
                    obtain ⟨g9, p9, rfl, hp9, hp9', hge9, hlt9, hy9⟩ := read_byte ho9 HY.out 5 (by decide)
                    have hd9 := hd8.below hb9
                    have hw9 : Below w.heap.size w w9 := hw8.trans (hb9.mono hw8.size)
                    have hx9 := (hb9.cell (p := ⟨g8, 5, none⟩) (World.block_lt_of_cell? _ _ HX8.out)).trans HX8.out
                    have END := Lib.hid hd9
                    have ENW := Lib.hid hw9
                    clear C2 ho9 hb9 hge9 hlt9 HX8 hw8 hd8 HX HY hd9 hw9
                    have hks : k / 8 < s.length := by
                      have := HBK.out
                      unfold bitB at this
                      by_cases h : k / 8 < s.length
                      · exact h
                      · rw [List.getElem?_eq_none (by omega)] at this; cases this
                    have hbt : (s[k / 8].toNat / 2 ^ (k % 8) % 2 == 1) = true := by
                      have := HBK.out
                      rwa [bitB, List.getElem?_eq_getElem hks] at this
                    have ebt : (strOf s)[k / 8]'(by rw [strOf_size]; exact hks) = s[k / 8] := by rw [strOf_get s _ hks, List.getElem?_eq_getElem hks]; rfl
                    have BT := bit3_lit w9 s[k / 8] k
                    rw [hbt] at BT
                    rw [← ebt] at BT
                    clear hbt ebt
                    have q1 : decide (k / 8 < s.length) = true := by simpa using hks
                    go_wp2_with fail
                    refine BT.mono ?_
                    rintro e w10 ⟨rfl, rfl⟩
                    clear BT
                    go_wp2_with fail
                    go_roundw
                    case rel => exact ⟨k + 1, hlt, by go_num, END.out, ENW.out⟩
                    case measure => simp [intOf]; omega
                  · obtain ⟨b0, o0, rfl, hb0, hc0⟩ := H0.out.cell t0
                    have c0 : wr.cell? ⟨b0, o0 + k, none⟩ = some (.int .u8 ((l0[k]?.getD 0).toNat : Int)) := (hbw.cell (p := ⟨b0, o0 + k, none⟩) hb0).trans (hc0 k t0)
                    clear hc0
                    obtain ⟨b1, o1, rfl, hb1, hc1⟩ := H1.out.cell t1
                    have c1 : wr.cell? ⟨b1, o1 + k, none⟩ = some (.int .u8 ((l1[k]?.getD 0).toNat : Int)) := (hbw.cell (p := ⟨b1, o1 + k, none⟩) hb1).trans (hc1 k t1)
                    clear hc1
                    have hwas : (fun q => if q < len0 then toP (fillL 128 (l0[q]?.getD 0)) else zpage) k = toP (fillL 128 (l0[k]?.getD 0)) := by dsimp only; rw [if_pos t0]
                    have hff := ff_bits ⟨k, by omega⟩
                    have hy : readB (stR (fun q => if q < len1 ∧ bitB [255, 255, 255, 255] q then toP (fillL 128 (l1[q]?.getD 0)) else (fun q => if q < len0 then toP (fillL 128 (l0[q]?.getD 0)) else zpage) q) l1 0) 0 k = fillL 128 (l1[k]?.getD 0) := by
                      rw [stR_read _ _ _ hlt]
                      rw [if_pos ⟨t1, hff⟩, toP_fill]
                    clear hff
                    have hx : readB (stR (fun q => if q < len1 ∧ bitB s q then toP (fillL 128 (l1[q]?.getD 0)) else (fun q => if q < len0 then toP (fillL 128 (l0[q]?.getD 0)) else zpage) q) l1 0) 0 k = fillL 128 (l0[k]?.getD 0) := by
                      rw [stR_read _ _ _ hlt]
                      rw [if_neg (fun h => hbit h.2), hwas, toP_fill]
                    clear hwas
                    generalize l0[k]?.getD 0 = f0 at *
                    generalize l1[k]?.getD 0 = f1 at *
                    have C := read_o hd.left 0 k
                    have HBK := Lib.hid hbit
                    have HX := Lib.hid hx
                    have HY := Lib.hid hy
                    clear hx hy hbit
                    go_wp2_with fail
                    refine C.mono ?_
                    rintro e w8 ⟨v8, rfl, ho8, hb8⟩
                    obtain ⟨g8, p8, rfl, hp8, hp8', hge8, hlt8, hx8⟩ := read_byte ho8 HX.out 5 (by decide)
                    have hd8 := hd.below hb8
                    have hw8 : Below w.heap.size w w8 := hbw.trans (hb8.mono hbw.size)
                    have C2 := read_o hd8.swap.left 0 k
                    have HX8 := Lib.hid hx8
                    clear C ho8 hb8 hge8 hlt8 hx8 hbw hd
                    go_wp2_with fail
                    refine C2.mono ?_
                    rintro e w9 ⟨v9, rfl, ho9, hb9⟩
                    obtain ⟨g9, p9, rfl, hp9, hp9', hge9, hlt9, hy9⟩ := read_byte ho9 HY.out 5 (by decide)
                    have hd9 := hd8.below hb9
                    have hw9 : Below w.heap.size w w9 := hw8.trans (hb9.mono hw8.size)
                    have hx9 := (hb9.cell (p := ⟨g8, 5, none⟩) (World.block_lt_of_cell? _ _ HX8.out)).trans HX8.out
                    have END := Lib.hid hd9
                    have ENW := Lib.hid hw9
                    clear C2 ho9 hb9 hge9 hlt9 HX8 hw8 hd8 HX HY hd9 hw9
                    by_cases hks : k / 8 < s.length
                    · have hbt : (s[k / 8].toNat / 2 ^ (k % 8) % 2 == 1) = false := by
                        have := HBK.out
                        rw [bitB, List.getElem?_eq_getElem hks] at this
                        simpa using this
                      have ebt : (strOf s)[k / 8]'(by rw [strOf_size]; exact hks) = s[k / 8] := by rw [strOf_get s _ hks, List.getElem?_eq_getElem hks]; rfl
                      have BT := bit3_lit w9 s[k / 8] k
                      rw [hbt] at BT
                      rw [← ebt] at BT
                      clear hbt ebt
                      have q1 : decide (k / 8 < s.length) = true := by simpa using hks
                      go_wp2_with fail
                      refine BT.mono ?_
                      rintro e w10 ⟨rfl, rfl⟩
                      clear BT
                      go_wp2_with fail
                      go_roundw
                      case rel => exact ⟨k + 1, hlt, by go_num, END.out, ENW.out⟩
                      case measure => simp [intOf]; omega
                    · have q1 : decide (k / 8 < s.length) = false := by simpa using hks
                      go_wp2_with fail
                      go_roundw
                      case rel => exact ⟨k + 1, hlt, by go_num, END.out, ENW.out⟩
                      case measure => simp [intOf]; omega
                · by_cases hbit : bitB s k = true
                  · obtain ⟨b0, o0, rfl, hb0, hc0⟩ := H0.out.cell t0
                    have c0 : wr.cell? ⟨b0, o0 + k, none⟩ = some (.int .u8 ((l0[k]?.getD 0).toNat : Int)) := (hbw.cell (p := ⟨b0, o0 + k, none⟩) hb0).trans (hc0 k t0)
                    clear hc0
                    have hwas : (fun q => if q < len0 then toP (fillL 128 (l0[q]?.getD 0)) else zpage) k = toP (fillL 128 (l0[k]?.getD 0)) := by dsimp only; rw [if_pos t0]
                    have hff := ff_bits ⟨k, by omega⟩
                    have hy : readB (stR (fun q => if q < len1 ∧ bitB [255, 255, 255, 255] q then toP (fillL 128 (l1[q]?.getD 0)) else (fun q => if q < len0 then toP (fillL 128 (l0[q]?.getD 0)) else zpage) q) l1 0) 0 k = fillL 128 (l0[k]?.getD 0) := by
                      rw [stR_read _ _ _ hlt]
                      rw [if_neg (fun h => t1 h.1), hwas, toP_fill]
                    clear hff
                    have hx : readB (stR (fun q => if q < len1 ∧ bitB s q then toP (fillL 128 (l1[q]?.getD 0)) else (fun q => if q < len0 then toP (fillL 128 (l0[q]?.getD 0)) else zpage) q) l1 0) 0 k = fillL 128 (l0[k]?.getD 0) := by
                      rw [stR_read _ _ _ hlt]
                      rw [if_neg (fun h => t1 h.1), hwas, toP_fill]
                    clear hwas
                    generalize l0[k]?.getD 0 = f0 at *
                    have C := read_o hd.left 0 k
                    have HBK := Lib.hid hbit
                    have HX := Lib.hid hx
                    have HY := Lib.hid hy
                    clear hx hy hbit
                    go_wp2_with fail
                    refine C.mono ?_
                    rintro e w8 ⟨v8, rfl, ho8, hb8⟩
                    obtain ⟨g8, p8, rfl, hp8, hp8', hge8, hlt8, hx8⟩ := read_byte ho8 HX.out 5 (by decide)
                    have hd8 := hd.below hb8
                    have hw8 : Below w.heap.size w w8 := hbw.trans (hb8.mono hbw.size)
                    have C2 := read_o hd8.swap.left 0 k
                    have HX8 := Lib.hid hx8
                    clear C ho8 hb8 hge8 hlt8 hx8 hbw hd
                    go_wp2_with fail
                    refine C2.mono ?_
                    rintro e w9 ⟨v9, rfl, ho9, hb9⟩
                    obtain ⟨g9, p9, rfl, hp9, hp9', hge9, hlt9, hy9⟩ := read_byte ho9 HY.out 5 (by decide)
                    have hd9 := hd8.below hb9
                    have hw9 : Below w.heap.size w w9 := hw8.trans (hb9.mono hw8.size)
                    have hx9 := (hb9.cell (p := ⟨g8, 5, none⟩) (World.block_lt_of_cell? _ _ HX8.out)).trans HX8.out
                    have END := Lib.hid hd9
                    have ENW := Lib.hid hw9
                    clear C2 ho9 hb9 hge9 hlt9 HX8 hw8 hd8 HX HY hd9 hw9
                    have hks : k / 8 < s.length := by
                      have := HBK.out
                      unfold bitB at this
                      by_cases h : k / 8 < s.length
                      · exact h
                      · rw [List.getElem?_eq_none (by omega)] at this; cases this
                    have hbt : (s[k / 8].toNat / 2 ^ (k % 8) % 2 == 1) = true := by
                      have := HBK.out
                      rwa [bitB, List.getElem?_eq_getElem hks] at this
                    have ebt : (strOf s)[k / 8]'(by rw [strOf_size]; exact hks) = s[k / 8] := by rw [strOf_get s _ hks, List.getElem?_eq_getElem hks]; rfl
                    have BT := bit3_lit w9 s[k / 8] k
                    rw [hbt] at BT
                    rw [← ebt] at BT
                    clear hbt ebt
                    have q1 : decide (k / 8 < s.length) = true := by simpa using hks
                    go_wp2_with fail
                    refine BT.mono ?_
                    rintro e w10 ⟨rfl, rfl⟩
                    clear BT
                    go_wp2_with fail
                    go_roundw
                    case rel => exact ⟨k + 1, hlt, by go_num, END.out, ENW.out⟩
                    case measure => simp [intOf]; omega
                  · obtain ⟨b0, o0, rfl, hb0, hc0⟩ := H0.out.cell t0
                    have c0 : wr.cell? ⟨b0, o0 + k, none⟩ = some (.int .u8 ((l0[k]?.getD 0).toNat : Int)) := (hbw.cell (p := ⟨b0, o0 + k, none⟩) hb0).trans (hc0 k t0)
                    clear hc0
                    have hwas : (fun q => if q < len0 then toP (fillL 128 (l0[q]?.getD 0)) else zpage) k = toP (fillL 128 (l0[k]?.getD 0)) := by dsimp only; rw [if_pos t0]
                    have hff := ff_bits ⟨k, by omega⟩
                    have hy : readB (stR (fun q => if q < len1 ∧ bitB [255, 255, 255, 255] q then toP (fillL 128 (l1[q]?.getD 0)) else (fun q => if q < len0 then toP (fillL 128 (l0[q]?.getD 0)) else zpage) q) l1 0) 0 k = fillL 128 (l0[k]?.getD 0) := by
                      rw [stR_read _ _ _ hlt]
                      rw [if_neg (fun h => t1 h.1), hwas, toP_fill]
                    clear hff
                    have hx : readB (stR (fun q => if q < len1 ∧ bitB s q then toP (fillL 128 (l1[q]?.getD 0)) else (fun q => if q < len0 then toP (fillL 128 (l0[q]?.getD 0)) else zpage) q) l1 0) 0 k = fillL 128 (l0[k]?.getD 0) := by
                      rw [stR_read _ _ _ hlt]
                      rw [if_neg (fun h => hbit h.2), hwas, toP_fill]
                    clear hwas
                    generalize l0[k]?.getD 0 = f0 at *
                    have C := read_o hd.left 0 k
                    have HBK := Lib.hid hbit
                    have HX := Lib.hid hx
                    have HY := Lib.hid hy
                    clear hx hy hbit
                    go_wp2_with fail
                    refine C.mono ?_
                    rintro e w8 ⟨v8, rfl, ho8, hb8⟩
                    obtain ⟨g8, p8, rfl, hp8, hp8', hge8, hlt8, hx8⟩ := read_byte ho8 HX.out 5 (by decide)
                    have hd8 := hd.below hb8
                    have hw8 : Below w.heap.size w w8 := hbw.trans (hb8.mono hbw.size)
                    have C2 := read_o hd8.swap.left 0 k
                    have HX8 := Lib.hid hx8
                    clear C ho8 hb8 hge8 hlt8 hx8 hbw hd
                    go_wp2_with fail
                    refine C2.mono ?_
                    rintro e w9 ⟨v9, rfl, ho9, hb9⟩
                    obtain ⟨g9, p9, rfl, hp9, hp9', hge9, hlt9, hy9⟩ := read_byte ho9 HY.out 5 (by decide)
                    have hd9 := hd8.below hb9
                    have hw9 : Below w.heap.size w w9 := hw8.trans (hb9.mono hw8.size)
                    have hx9 := (hb9.cell (p := ⟨g8, 5, none⟩) (World.block_lt_of_cell? _ _ HX8.out)).trans HX8.out
                    have END := Lib.hid hd9
                    have ENW := Lib.hid hw9
                    clear C2 ho9 hb9 hge9 hlt9 HX8 hw8 hd8 HX HY hd9 hw9
                    by_cases hks : k / 8 < s.length
                    · have hbt : (s[k / 8].toNat / 2 ^ (k % 8) % 2 == 1) = false := by
                        have := HBK.out
                        rw [bitB, List.getElem?_eq_getElem hks] at this
                        simpa using this
                      have ebt : (strOf s)[k / 8]'(by rw [strOf_size]; exact hks) = s[k / 8] := by rw [strOf_get s _ hks, List.getElem?_eq_getElem hks]; rfl
                      have BT := bit3_lit w9 s[k / 8] k
                      rw [hbt] at BT
                      rw [← ebt] at BT
                      clear hbt ebt
                      have q1 : decide (k / 8 < s.length) = true := by simpa using hks
                      go_wp2_with fail
                      refine BT.mono ?_
                      rintro e w10 ⟨rfl, rfl⟩
                      clear BT
                      go_wp2_with fail
                      go_roundw
                      case rel => exact ⟨k + 1, hlt, by go_num, END.out, ENW.out⟩
                      case measure => simp [intOf]; omega
                    · have q1 : decide (k / 8 < s.length) = false := by simpa using hks
                      go_wp2_with fail
                      go_roundw
                      case rel => exact ⟨k + 1, hlt, by go_num, END.out, ENW.out⟩
                      case measure => simp [intOf]; omega
              · by_cases t1 : k < len1
                · by_cases hbit : bitB s k = true
                  · obtain ⟨b1, o1, rfl, hb1, hc1⟩ := H1.out.cell t1
                    have c1 : wr.cell? ⟨b1, o1 + k, none⟩ = some (.int .u8 ((l1[k]?.getD 0).toNat : Int)) := (hbw.cell (p := ⟨b1, o1 + k, none⟩) hb1).trans (hc1 k t1)
                    clear hc1
                    have hwas : (fun q => if q < len0 then toP (fillL 128 (l0[q]?.getD 0)) else zpage) k = toP (fillL 128 (0)) := by dsimp only; rw [if_neg t0]; rfl
                    have hff := ff_bits ⟨k, by omega⟩
                    have hy : readB (stR (fun q => if q < len1 ∧ bitB [255, 255, 255, 255] q then toP (fillL 128 (l1[q]?.getD 0)) else (fun q => if q < len0 then toP (fillL 128 (l0[q]?.getD 0)) else zpage) q) l1 0) 0 k = fillL 128 (l1[k]?.getD 0) := by
                      rw [stR_read _ _ _ hlt]
                      rw [if_pos ⟨t1, hff⟩, toP_fill]
                    clear hff
                    have hx : readB (stR (fun q => if q < len1 ∧ bitB s q then toP (fillL 128 (l1[q]?.getD 0)) else (fun q => if q < len0 then toP (fillL 128 (l0[q]?.getD 0)) else zpage) q) l1 0) 0 k = fillL 128 (l1[k]?.getD 0) := by
                      rw [stR_read _ _ _ hlt]
                      rw [if_pos ⟨t1, hbit⟩, toP_fill]
                    clear hwas
                    generalize l1[k]?.getD 0 = f1 at *
                    have C := read_o hd.left 0 k
                    have HBK := Lib.hid hbit
                    have HX := Lib.hid hx
                    have HY := Lib.hid hy
                    clear hx hy hbit
                    go_wp2_with fail
                    refine C.mono ?_
                    rintro e w8 ⟨v8, rfl, ho8, hb8⟩
                    obtain ⟨g8, p8, rfl, hp8, hp8', hge8, hlt8, hx8⟩ := read_byte ho8 HX.out 5 (by decide)
                    have hd8 := hd.below hb8
                    have hw8 : Below w.heap.size w w8 := hbw.trans (hb8.mono hbw.size)
                    have C2 := read_o hd8.swap.left 0 k
                    have HX8 := Lib.hid hx8
                    clear C ho8 hb8 hge8 hlt8 hx8 hbw hd
                    go_wp2_with fail
                    refine C2.mono ?_
                    rintro e w9 ⟨v9, rfl, ho9, hb9⟩
                    obtain ⟨g9, p9, rfl, hp9, hp9', hge9, hlt9, hy9⟩ := read_byte ho9 HY.out 5 (by decide)
                    have hd9 := hd8.below hb9
                    have hw9 : Below w.heap.size w w9 := hw8.trans (hb9.mono hw8.size)
                    have hx9 := (hb9.cell (p := ⟨g8, 5, none⟩) (World.block_lt_of_cell? _ _ HX8.out)).trans HX8.out
                    have END := Lib.hid hd9
                    have ENW := Lib.hid hw9
                    clear C2 ho9 hb9 hge9 hlt9 HX8 hw8 hd8 HX HY hd9 hw9
                    have hks : k / 8 < s.length := by
                      have := HBK.out
                      unfold bitB at this
                      by_cases h : k / 8 < s.length
                      · exact h
                      · rw [List.getElem?_eq_none (by omega)] at this; cases this
                    have hbt : (s[k / 8].toNat / 2 ^ (k % 8) % 2 == 1) = true := by
                      have := HBK.out
                      rwa [bitB, List.getElem?_eq_getElem hks] at this
                    have ebt : (strOf s)[k / 8]'(by rw [strOf_size]; exact hks) = s[k / 8] := by rw [strOf_get s _ hks, List.getElem?_eq_getElem hks]; rfl
                    have BT := bit3_lit w9 s[k / 8] k
                    rw [hbt] at BT
                    rw [← ebt] at BT
                    clear hbt ebt
                    have q1 : decide (k / 8 < s.length) = true := by simpa using hks
                    go_wp2_with fail
                    refine BT.mono ?_
                    rintro e w10 ⟨rfl, rfl⟩
                    clear BT
                    go_wp2_with fail
                    go_roundw
                    case rel => exact ⟨k + 1, hlt, by go_num, END.out, ENW.out⟩
                    case measure => simp [intOf]; omega
                  · obtain ⟨b1, o1, rfl, hb1, hc1⟩ := H1.out.cell t1
                    have c1 : wr.cell? ⟨b1, o1 + k, none⟩ = some (.int .u8 ((l1[k]?.getD 0).toNat : Int)) := (hbw.cell (p := ⟨b1, o1 + k, none⟩) hb1).trans (hc1 k t1)
                    clear hc1
                    have hwas : (fun q => if q < len0 then toP (fillL 128 (l0[q]?.getD 0)) else zpage) k = toP (fillL 128 (0)) := by dsimp only; rw [if_neg t0]; rfl
                    have hff := ff_bits ⟨k, by omega⟩
                    have hy : readB (stR (fun q => if q < len1 ∧ bitB [255, 255, 255, 255] q then toP (fillL 128 (l1[q]?.getD 0)) else (fun q => if q < len0 then toP (fillL 128 (l0[q]?.getD 0)) else zpage) q) l1 0) 0 k = fillL 128 (l1[k]?.getD 0) := by
                      rw [stR_read _ _ _ hlt]
                      rw [if_pos ⟨t1, hff⟩, toP_fill]
                    clear hff
                    have hx : readB (stR (fun q => if q < len1 ∧ bitB s q then toP (fillL 128 (l1[q]?.getD 0)) else (fun q => if q < len0 then toP (fillL 128 (l0[q]?.getD 0)) else zpage) q) l1 0) 0 k = fillL 128 (0) := by
                      rw [stR_read _ _ _ hlt]
                      rw [if_neg (fun h => hbit h.2), hwas, toP_fill]
                    clear hwas
                    generalize l1[k]?.getD 0 = f1 at *
                    have C := read_o hd.left 0 k
                    have HBK := Lib.hid hbit
                    have HX := Lib.hid hx
                    have HY := Lib.hid hy
                    clear hx hy hbit
                    go_wp2_with fail
                    refine C.mono ?_
                    rintro e w8 ⟨v8, rfl, ho8, hb8⟩
                    obtain ⟨g8, p8, rfl, hp8, hp8', hge8, hlt8, hx8⟩ := read_byte ho8 HX.out 5 (by decide)
                    have hd8 := hd.below hb8
                    have hw8 : Below w.heap.size w w8 := hbw.trans (hb8.mono hbw.size)
                    have C2 := read_o hd8.swap.left 0 k
                    have HX8 := Lib.hid hx8
                    clear C ho8 hb8 hge8 hlt8 hx8 hbw hd
                    go_wp2_with fail
                    refine C2.mono ?_
                    rintro e w9 ⟨v9, rfl, ho9, hb9⟩
                    obtain ⟨g9, p9, rfl, hp9, hp9', hge9, hlt9, hy9⟩ := read_byte ho9 HY.out 5 (by decide)
                    have hd9 := hd8.below hb9
                    have hw9 : Below w.heap.size w w9 := hw8.trans (hb9.mono hw8.size)
                    have hx9 := (hb9.cell (p := ⟨g8, 5, none⟩) (World.block_lt_of_cell? _ _ HX8.out)).trans HX8.out
                    have END := Lib.hid hd9
                    have ENW := Lib.hid hw9
                    clear C2 ho9 hb9 hge9 hlt9 HX8 hw8 hd8 HX HY hd9 hw9
                    by_cases hks : k / 8 < s.length
                    · have hbt : (s[k / 8].toNat / 2 ^ (k % 8) % 2 == 1) = false := by
                        have := HBK.out
                        rw [bitB, List.getElem?_eq_getElem hks] at this
                        simpa using this
                      have ebt : (strOf s)[k / 8]'(by rw [strOf_size]; exact hks) = s[k / 8] := by rw [strOf_get s _ hks, List.getElem?_eq_getElem hks]; rfl
                      have BT := bit3_lit w9 s[k / 8] k
                      rw [hbt] at BT
                      rw [← ebt] at BT
                      clear hbt ebt
                      have q1 : decide (k / 8 < s.length) = true := by simpa using hks
                      go_wp2_with fail
                      refine BT.mono ?_
                      rintro e w10 ⟨rfl, rfl⟩
                      clear BT
                      go_wp2_with fail
                      go_roundw
                      case rel => exact ⟨k + 1, hlt, by go_num, END.out, ENW.out⟩
                      case measure => simp [intOf]; omega
                    · have q1 : decide (k / 8 < s.length) = false := by simpa using hks
                      go_wp2_with fail
                      go_roundw
                      case rel => exact ⟨k + 1, hlt, by go_num, END.out, ENW.out⟩
                      case measure => simp [intOf]; omega
                · by_cases hbit : bitB s k = true
                  · have hwas : (fun q => if q < len0 then toP (fillL 128 (l0[q]?.getD 0)) else zpage) k = toP (fillL 128 (0)) := by dsimp only; rw [if_neg t0]; rfl
                    have hff := ff_bits ⟨k, by omega⟩
                    have hy : readB (stR (fun q => if q < len1 ∧ bitB [255, 255, 255, 255] q then toP (fillL 128 (l1[q]?.getD 0)) else (fun q => if q < len0 then toP (fillL 128 (l0[q]?.getD 0)) else zpage) q) l1 0) 0 k = fillL 128 (0) := by
                      rw [stR_read _ _ _ hlt]
                      rw [if_neg (fun h => t1 h.1), hwas, toP_fill]
                    clear hff
                    have hx : readB (stR (fun q => if q < len1 ∧ bitB s q then toP (fillL 128 (l1[q]?.getD 0)) else (fun q => if q < len0 then toP (fillL 128 (l0[q]?.getD 0)) else zpage) q) l1 0) 0 k = fillL 128 (0) := by
                      rw [stR_read _ _ _ hlt]
                      rw [if_neg (fun h => t1 h.1), hwas, toP_fill]
                    clear hwas
                    have C := read_o hd.left 0 k
                    have HBK := Lib.hid hbit
                    have HX := Lib.hid hx
                    have HY := Lib.hid hy
                    clear hx hy hbit
                    go_wp2_with fail
                    refine C.mono ?_
                    rintro e w8 ⟨v8, rfl, ho8, hb8⟩
                    obtain ⟨g8, p8, rfl, hp8, hp8', hge8, hlt8, hx8⟩ := read_byte ho8 HX.out 5 (by decide)
                    have hd8 := hd.below hb8
                    have hw8 : Below w.heap.size w w8 := hbw.trans (hb8.mono hbw.size)
                    have C2 := read_o hd8.swap.left 0 k
                    have HX8 := Lib.hid hx8
                    clear C ho8 hb8 hge8 hlt8 hx8 hbw hd
                    go_wp2_with fail
                    refine C2.mono ?_
                    rintro e w9 ⟨v9, rfl, ho9, hb9⟩
                    obtain ⟨g9, p9, rfl, hp9, hp9', hge9, hlt9, hy9⟩ := read_byte ho9 HY.out 5 (by decide)
                    have hd9 := hd8.below hb9
                    have hw9 : Below w.heap.size w w9 := hw8.trans (hb9.mono hw8.size)
                    have hx9 := (hb9.cell (p := ⟨g8, 5, none⟩) (World.block_lt_of_cell? _ _ HX8.out)).trans HX8.out
                    have END := Lib.hid hd9
                    have ENW := Lib.hid hw9
                    clear C2 ho9 hb9 hge9 hlt9 HX8 hw8 hd8 HX HY hd9 hw9
                    have hks : k / 8 < s.length := by
                      have := HBK.out
                      unfold bitB at this
                      by_cases h : k / 8 < s.length
                      · exact h
                      · rw [List.getElem?_eq_none (by omega)] at this; cases this
                    have hbt : (s[k / 8].toNat / 2 ^ (k % 8) % 2 == 1) = true := by
                      have := HBK.out
                      rwa [bitB, List.getElem?_eq_getElem hks] at this
                    have ebt : (strOf s)[k / 8]'(by rw [strOf_size]; exact hks) = s[k / 8] := by rw [strOf_get s _ hks, List.getElem?_eq_getElem hks]; rfl
                    have BT := bit3_lit w9 s[k / 8] k
                    rw [hbt] at BT
                    rw [← ebt] at BT
                    clear hbt ebt
                    have q1 : decide (k / 8 < s.length) = true := by simpa using hks
                    go_wp2_with fail
                    refine BT.mono ?_
                    rintro e w10 ⟨rfl, rfl⟩
                    clear BT
                    go_wp2_with fail
                    go_roundw
                    case rel => exact ⟨k + 1, hlt, by go_num, END.out, ENW.out⟩
                    case measure => simp [intOf]; omega
                  · have hwas : (fun q => if q < len0 then toP (fillL 128 (l0[q]?.getD 0)) else zpage) k = toP (fillL 128 (0)) := by dsimp only; rw [if_neg t0]; rfl
                    have hff := ff_bits ⟨k, by omega⟩
                    have hy : readB (stR (fun q => if q < len1 ∧ bitB [255, 255, 255, 255] q then toP (fillL 128 (l1[q]?.getD 0)) else (fun q => if q < len0 then toP (fillL 128 (l0[q]?.getD 0)) else zpage) q) l1 0) 0 k = fillL 128 (0) := by
                      rw [stR_read _ _ _ hlt]
                      rw [if_neg (fun h => t1 h.1), hwas, toP_fill]
                    clear hff
                    have hx : readB (stR (fun q => if q < len1 ∧ bitB s q then toP (fillL 128 (l1[q]?.getD 0)) else (fun q => if q < len0 then toP (fillL 128 (l0[q]?.getD 0)) else zpage) q) l1 0) 0 k = fillL 128 (0) := by
                      rw [stR_read _ _ _ hlt]
                      rw [if_neg (fun h => hbit h.2), hwas, toP_fill]
                    clear hwas
                    have C := read_o hd.left 0 k
                    have HBK := Lib.hid hbit
                    have HX := Lib.hid hx
                    have HY := Lib.hid hy
                    clear hx hy hbit
                    go_wp2_with fail
                    refine C.mono ?_
                    rintro e w8 ⟨v8, rfl, ho8, hb8⟩
                    obtain ⟨g8, p8, rfl, hp8, hp8', hge8, hlt8, hx8⟩ := read_byte ho8 HX.out 5 (by decide)
                    have hd8 := hd.below hb8
                    have hw8 : Below w.heap.size w w8 := hbw.trans (hb8.mono hbw.size)
                    have C2 := read_o hd8.swap.left 0 k
                    have HX8 := Lib.hid hx8
                    clear C ho8 hb8 hge8 hlt8 hx8 hbw hd
                    go_wp2_with fail
                    refine C2.mono ?_
                    rintro e w9 ⟨v9, rfl, ho9, hb9⟩
                    obtain ⟨g9, p9, rfl, hp9, hp9', hge9, hlt9, hy9⟩ := read_byte ho9 HY.out 5 (by decide)
                    have hd9 := hd8.below hb9
                    have hw9 : Below w.heap.size w w9 := hw8.trans (hb9.mono hw8.size)
                    have hx9 := (hb9.cell (p := ⟨g8, 5, none⟩) (World.block_lt_of_cell? _ _ HX8.out)).trans HX8.out
                    have END := Lib.hid hd9
                    have ENW := Lib.hid hw9
                    clear C2 ho9 hb9 hge9 hlt9 HX8 hw8 hd8 HX HY hd9 hw9
                    by_cases hks : k / 8 < s.length
                    · have hbt : (s[k / 8].toNat / 2 ^ (k % 8) % 2 == 1) = false := by
                        have := HBK.out
                        rw [bitB, List.getElem?_eq_getElem hks] at this
                        simpa using this
                      have ebt : (strOf s)[k / 8]'(by rw [strOf_size]; exact hks) = s[k / 8] := by rw [strOf_get s _ hks, List.getElem?_eq_getElem hks]; rfl
                      have BT := bit3_lit w9 s[k / 8] k
                      rw [hbt] at BT
                      rw [← ebt] at BT
                      clear hbt ebt
                      have q1 : decide (k / 8 < s.length) = true := by simpa using hks
                      go_wp2_with fail
                      refine BT.mono ?_
                      rintro e w10 ⟨rfl, rfl⟩
                      clear BT
                      go_wp2_with fail
                      go_roundw
                      case rel => exact ⟨k + 1, hlt, by go_num, END.out, ENW.out⟩
                      case measure => simp [intOf]; omega
                    · have q1 : decide (k / 8 < s.length) = false := by simpa using hks
                      go_wp2_with fail
                      go_roundw
                      case rel => exact ⟨k + 1, hlt, by go_num, END.out, ENW.out⟩
                      case measure => simp [intOf]; omega
            · obtain rfl : k = 30 := by omega
              have C := loose_o hd.left (by omega) 0 _ rfl
              have hw8 := Lib.hid hbw
              clear hd hbw
              go_wp2_with fail
              refine C.mono ?_
              rintro e w9 ⟨v9, rfl, ho9, hb9⟩
              obtain ⟨a9, c9, rfl, hc9, hc9'⟩ := own_len ho9 (m := 0) (by simp [rowW])
              have END := Lib.hid (hw8.out.trans (hb9.mono hw8.out.size))
              clear C ho9 hb9
              go_wp2_with fail
              go_ret
              exact ⟨rfl, END.out⟩
end Go.Proofs.Ytopnfpobbemfbaa
