/- The walks of the chapter on pages of cells: the document's sizes and pages. -/
import Derived.Test.YtjdepdgoaopfoaaDoorCelP
namespace Go.Proofs.YtjdepdgoaopfoaaDoor
open Go.RowKit

theorem Strs.len {w : World} {a : Option Addr} {len cap : Nat} {l : List (List UInt8)} (h : Strs w a len cap l) : l.length = len := h.1
theorem Strs.below {w w' : World} {a : Option Addr} {len cap : Nat} {l : List (List UInt8)} {B : Nat} (hB : w.heap.size ≤ B) (hb : Below B w w') (h : Strs w a len cap l) : Strs w' a len cap l := TabR.below hB hb h

set_option maxRecDepth 100000 in
set_option maxHeartbeats 1000000 in
theorem rsize_any (a : Option Addr) (len cap : Nat) (l : List (List UInt8)) (w : World) (h : Strs w a len cap l) (hb : len + lens l ≤ 9223372036854775807) :
    Calls Tryd.prog 61 #[.slice a len cap] w fun e w' => e = .returned (.int .i64 ((len + lens l : Nat) : Int)) ∧ w = w' := by
  have hll := Lib.hid h.1
  have hm := h.2.2.1
  have hc := h.2.1
  unfold maxLen at hm
  go_enter Tryd.func61, Tryd.ntmps61
  go_wp2
  go_loop [3, 4] (fun s i => ∃ k : Nat, k ≤ len ∧ i = .int .i64 k ∧ s = .int .i64 ((k + lens (l.take k) : Nat) : Int)) (fun _ i => len - (intOf i).toNat)
  case atStart => exact ⟨0, Nat.zero_le _, rfl, by simp [lens]⟩
  case round =>
    obtain ⟨k, hk, rfl, rfl⟩ := hrel
    by_cases hlt : k < len
    · obtain ⟨b, off, rfl, hbb, hcell⟩ := h.at hlt
      have hst := lens_take_succ l k (by rw [hll.out]; exact hlt)
      have hle := lens_take_le l (k + 1)
      have hsz := strOf_size (l[k]?.getD [])
      generalize l[k]?.getD [] = c at *
      have hst2 : k + 1 + lens (l.take (k + 1)) = k + lens (l.take k) + (c.length + 1) := by omega
      have hle2 : k + lens (l.take k) + (c.length + 1) ≤ 9223372036854775807 := by omega
      have H := Lib.hid hst2
      clear hst hst2 hle
      generalize k + lens (l.take k) = q at *
      go_wp2
      go_round
      case rel => exact ⟨k + 1, by omega, by go_num, by rw [H.out]; go_num⟩
      case measure => simp [intOf]; omega
    · obtain rfl : k = len := by omega
      have hx : l.take k = l := List.take_of_length_le (by rw [hll.out]; exact Nat.le_refl _)
      rw [hx]
      generalize hq : k + lens l = q at *
      have HQ := Lib.hid hq
      clear hq
      go_wp2
      go_ret
      exact ⟨ret_int (by have := HQ.out; omega), rfl⟩

/-- A page as a text, an error. -/
def StrPost (w : World) (p : List UInt8) (er : Int) (e : Ending) (w' : World) : Prop := e = .returned (.tuple #[.string (strOf p), .int .i64 er]) ∧ Below w.heap.size w w'

theorem conv_nat {P : Program} {W : World} {src e dst t : TypeId} (hs : P.underlying src = some (.slice e)) (he : P.underlying e = some (.int .u8)) (hd : P.underlying dst = some .string) (n : Nat) (hn : n < 256) :
    (convert src dst (.slice (some ⟨W.heap.size, 0, none⟩) 1 1)).run P (W.alloc (.cells #[.int .u8 (n : Int)] t)) = .ok (.string (strOf [UInt8.ofNat n])) (W.alloc (.cells #[.int .u8 (n : Int)] t)) := by
  have h := conv_one (W := W) (t := t) hs he hd (UInt8.ofNat n)
  have e2 : (UInt8.ofNat n).toNat = n := by rw [UInt8.toNat_ofNat']; omega
  rw [e2] at h; exact h
theorem conv_two {P : Program} {W : World} {src e dst t : TypeId} (hs : P.underlying src = some (.slice e)) (he : P.underlying e = some (.int .u8)) (hd : P.underlying dst = some .string) (b : UInt8) (n : Nat) (hn : n < 256) :
    (convert src dst (.slice (some ⟨W.heap.size, 0, none⟩) 2 2)).run P (W.alloc (.cells #[.int .u8 (b.toNat : Int), .int .u8 (n : Int)] t)) = .ok (.string (strOf [b, UInt8.ofNat n])) (W.alloc (.cells #[.int .u8 (b.toNat : Int), .int .u8 (n : Int)] t)) := by
  have e2 : (UInt8.ofNat n).toNat = n := by rw [UInt8.toNat_ofNat']; omega
  have h := conv_string hs he hd (show Bs _ _ _ _ [b, UInt8.ofNat n] from Row.made .u8 W t [(b.toNat : Int), ((UInt8.ofNat n).toNat : Int)] rfl (by unfold maxLen; simp))
  rw [e2] at h; exact h

set_option maxRecDepth 100000 in
set_option maxHeartbeats 1000000 in
theorem rpack_ok (kind : UInt8) (a : Option Addr) (len cap : Nat) (l : List (List UInt8)) (w : World) (h : Strs w a len cap l) (hk : kind ≠ 0) (hfit : len + lens l ≤ 122) :
    Calls Tryd.prog 36 #[.int .u8 kind.toNat, .slice a len cap] w (StrPost w (pageOf kind l) 0) := by
  have hll := Lib.hid h.1
  have hk' : ((kind.toNat : Int) == 0) = false := by
    have : kind.toNat ≠ 0 := fun e => hk (UInt8.toNat_inj.1 e)
    simpa using this
  have hf2 : decide ((122 : Int) < (len : Int) + (lens l : Int)) = false := by simp; omega
  have hn8 : (len : Int) % 256 = (len : Int) := by omega
  go_enter Tryd.func36, Tryd.ntmps36
  go_wp2_with fail
  refine (rsize_any a len cap l w h (by omega)).mono ?_
  rintro e w' ⟨rfl, rfl⟩
  go_wp2
  go_loopw [6, 7, 8] (fun s b i wr => ∃ k : Nat, k ≤ len ∧ i = .int .i64 k ∧ s = .string (strOf (slotsOf 128 (l.take k))) ∧ b = .string (strOf (backOf (l.take k))) ∧ Below w.heap.size w wr) (fun _ _ i _ => len - (intOf i).toNat)
  case atStart => exact ⟨0, Nat.zero_le _, rfl, rfl, rfl, Below.refl _ _⟩
  case round =>
    obtain ⟨k, hk, rfl, rfl, rfl, hb⟩ := hrel
    by_cases hlt : k < len
    · obtain ⟨b, off, rfl, hbb, hcell⟩ := (h.below (Nat.le_refl _) hb).at hlt
      have hm := lens_take_le l (k + 1)
      have hs := lens_take_succ l k (by rw [hll.out]; exact hlt)
      have hts := take_snoc l k [] (by rw [hll.out]; exact hlt)
      have hbk : backOf (l.take (k + 1)) = l[k]?.getD [] ++ backOf (l.take k) := by rw [hts, backOf_append, backOf_one]
      have hsl : slotsOf 128 (l.take (k + 1)) = slotsOf 128 (l.take k) ++ [UInt8.ofNat (128 - lens (l.take (k + 1)))] := by
        rw [hs, hts, slotsOf_append]; simp [slotsOf, Nat.sub_sub]
      have hbl := backOf_length (l.take (k + 1))
      have hbl0 := backOf_length (l.take k)
      have hsl0 := slotsOf_length (l.take k) 128
      rw [List.length_take] at hsl0
      obtain ⟨e, he⟩ : ∃ e, e = 128 - lens (l.take (k + 1)) := ⟨_, rfl⟩
      rw [← he] at hsl
      have he8 : (128 : Int) - (lens (l.take (k + 1)) : Int) = (e : Int) := by omega
      have he6 : e ≤ 128 := by omega
      have h256 : (e : Int) % 256 = (e : Int) := by omega
      have hm1 : lens (l.take (k + 1)) ≤ 122 := by omega
      generalize l[k]?.getD [] = c at *
      generalize backOf (l.take k) = bk at *
      generalize hbe : backOf (l.take (k + 1)) = bk1 at *
      generalize slotsOf 128 (l.take k) = sl at *
      generalize hse : slotsOf 128 (l.take (k + 1)) = sl1 at *
      have HBE := Lib.hid hbe
      have HSE := Lib.hid hse
      clear hbe hse
      have hcl : c.length + bk.length ≤ 122 := by omega
      have hsz1 : (strOf bk1).size = lens (l.take (k + 1)) := by rw [strOf_size]; exact hbl
      have hap := strOf_append c bk
      rw [← hbk] at hap
      have hbnd : (strOf c).size + (strOf bk).size ≤ 9223372036854775807 := by rw [strOf_size, strOf_size]; omega
      have hap2 := strOf_append sl [UInt8.ofNat e]
      rw [← hsl] at hap2
      have hbnd2 : (strOf sl).size + (strOf [UInt8.ofNat e]).size ≤ 9223372036854775807 := by rw [strOf_size, strOf_size]; simp; omega
      have hcv := conv_nat (W := wr) (t := 5) Tryd.underlying26 Tryd.underlying5 Tryd.underlying9 e (by omega)
      have HB := Lib.hid (hb.alloc hb.size (.cells #[.int .u8 (e : Int)] 5))
      clear hs hts hbk hsl hbl hbl0 hsl0 he hm hb
      generalize lens (l.take (k + 1)) = q at *
      generalize UInt8.ofNat e = ub at *
      go_wp2
      go_roundw
      case rel => exact ⟨k + 1, by omega, by go_num, by rw [HSE.out], by rw [HBE.out], HB.out⟩
      case measure => simp [intOf]; omega
    · obtain rfl : k = len := by omega
      have hx : l.take k = l := List.take_of_length_le (by rw [hll.out]; exact Nat.le_refl _)
      rw [hx]
      have hsl := slotsOf_length l 128
      have hbl := backOf_length l
      rw [hll.out] at hsl
      have HPG := Lib.hid (show pageOf kind l = beBytes (crcOf (bodyOf kind k l)) 4 ++ bodyOf kind k l by rw [pageOf, hll.out])
      have hbody : bodyOf kind k l = [kind, UInt8.ofNat k] ++ slotsOf 128 l ++ (List.replicate (122 - k - lens l) 0 ++ backOf l) := by rw [bodyOf, hll.out]; simp
      have hlb := bodyOf_length kind k l (by rw [hll.out]; exact hfit)
      generalize bodyOf kind k l = bd at *
      generalize slotsOf 128 l = sl at *
      generalize backOf l = bk at *
      obtain ⟨z, hz⟩ : ∃ z, z = 122 - k - lens l := ⟨_, rfl⟩
      rw [← hz] at hbody
      obtain ⟨hd, hhd⟩ : ∃ hd, hd = [kind, UInt8.ofNat k] ++ sl := ⟨_, rfl⟩
      rw [← hhd] at hbody
      have hap1 := strOf_append [kind, UInt8.ofNat k] sl
      rw [← hhd] at hap1
      have hap2 := strOf_append (List.replicate z 0) bk
      obtain ⟨zb, hzb⟩ : ∃ zb, zb = List.replicate z 0 ++ bk := ⟨_, rfl⟩
      rw [← hzb] at hbody hap2
      have hap3 := strOf_append hd zb
      rw [← hbody] at hap3
      have hcv := conv_two (W := wr) (t := 5) Tryd.underlying26 Tryd.underlying5 Tryd.underlying9 kind k (by omega)
      obtain ⟨s1, hs1, hs1'⟩ : ∃ s1, (strOf hd).size = s1 ∧ s1 = 2 + k := ⟨_, rfl, by rw [strOf_size, hhd]; simp [hsl]; omega⟩
      obtain ⟨s2, hs2, hs2'⟩ : ∃ s2, (strOf bk).size = s2 ∧ s2 = lens l := ⟨_, rfl, by rw [strOf_size]; exact hbl⟩
      have hz2 : (124 : Int) - (s1 : Int) - (s2 : Int) = (z : Int) := by omega
      have hz3 : z ≤ 122 := by omega
      have hs12 : s1 ≤ 124 ∧ s2 ≤ 122 := by omega
      have hbn1 : (strOf [kind, UInt8.ofNat k]).size + (strOf sl).size ≤ 9223372036854775807 := by rw [strOf_size, strOf_size]; simp; omega
      have hbn2 : (strOf (List.replicate z (0 : UInt8))).size + (strOf bk).size ≤ 9223372036854775807 := by rw [strOf_size, hs2]; simp; omega
      have hbn3 : (strOf hd).size + (strOf zb).size ≤ 9223372036854775807 := by rw [hs1, strOf_size, hzb]; simp; omega
      obtain ⟨rz, hrz⟩ : ∃ rz, rz = List.replicate z (0 : UInt8) := ⟨_, rfl⟩
      rw [← hrz] at hap2 hbn2
      have HRZ := Lib.hid hrz
      have HLB := Lib.hid hlb
      obtain ⟨i0, hi, hz0, hz1, hz2'⟩ := info_parts info_u8
      have hB2 := hb.alloc hb.size (.cells #[.int .u8 (kind.toNat : Int), .int .u8 (k : Int)] 5)
      have HSZ := Lib.hid hb.size
      generalize hU : UInt8.ofNat k = ub at *
      clear hU hhd hzb hbody hx hz hlb hrz hsl hbl hs1' hs2'
      go_wp2_with (at_make; refine wpList_make_full _ rfl _ _ 26 rfl w.heap.size 5 i0 _ 1 Tryd.underlying26 hi hz0 hz1 .i64 .i64 _ _ z rfl rfl rfl rfl (by rw [hz2']; omega) (by unfold maxLen; omega) (by have := HSZ.out; simp; omega) ?_)
      intro w2 hown hg
      have hown' : w2.ownsRow w.heap.size 5 1 (.slice (some ⟨wr.heap.size + 1, 0, none⟩) z z) z ((toI rz).map (Value.int .u8)) := by
        simp only [made_list] at hown
        rw [HRZ.out]; simpa [toI] using hown
      have hcv2 := conv_string Tryd.underlying26 Tryd.underlying5 Tryd.underlying9 (Bs.own hown')
      have HB3 := Lib.hid (hB2.grown hg (by have := HSZ.out; simp; omega) (fun k e => by cases e))
      clear hown hown' hg hcv
      have hbl : bd.length ≤ 9223372036854775807 := by rw [HLB.out]; omega
      go_wp2_with fail
      refine (refOf_any bd w2 hbl).mono ?_
      rintro e w3 ⟨rfl, rfl⟩
      have hsum := crcOn_lt 0 bd
      change crcOf bd < _ at hsum
      generalize hS : crcOf bd = s at *
      have HS := Lib.hid hS
      clear hS
      have hw64 : (s : Int) % 18446744073709551616 = (s : Int) := by omega
      go_wp2_with fail
      refine (refNum_ok s 4 w2 (by omega) (by omega) (by omega)).mono ?_
      rintro e w4 ⟨rfl, hb4⟩
      have hap4 := strOf_append (beBytes s 4) bd
      have hbn4 : (strOf (beBytes s 4)).size + (strOf bd).size ≤ 9223372036854775807 := by rw [strOf_size, strOf_size, beBytes_length, HLB.out]; omega
      have HPG2 := Lib.hid (show pageOf kind l = beBytes s 4 ++ bd from HPG.out)
      generalize beBytes s 4 = s4 at *
      generalize s4 ++ bd = pg at *
      go_wp2
      go_ret2
      exact ⟨by rw [HPG2.out]; rfl, below_then HB3.out hb4⟩

set_option maxRecDepth 100000 in
set_option maxHeartbeats 1000000 in
theorem rpack_zero (a : Option Addr) (len cap : Nat) (w : World) :
    Calls Tryd.prog 36 #[.int .u8 0, .slice a len cap] w fun e w' => e = .returned (.tuple #[.string (strOf []), .int .i64 1]) ∧ w = w' := by
  go_enter Tryd.func36, Tryd.ntmps36
  go_wp2
  go_ret2
  exact ⟨rfl, rfl⟩

set_option maxRecDepth 100000 in
set_option maxHeartbeats 1000000 in
theorem rpack_big (kind : UInt8) (a : Option Addr) (len cap : Nat) (l : List (List UInt8)) (w : World) (h : Strs w a len cap l) (hk : kind ≠ 0) (hfit : 122 < len + lens l) (hb : len + lens l ≤ 9223372036854775807) :
    Calls Tryd.prog 36 #[.int .u8 kind.toNat, .slice a len cap] w fun e w' => e = .returned (.tuple #[.string (strOf []), .int .i64 1]) ∧ w = w' := by
  have hk' : ((kind.toNat : Int) == 0) = false := by
    have : kind.toNat ≠ 0 := fun e => hk (UInt8.toNat_inj.1 e)
    simpa using this
  have hf2 : decide ((122 : Int) < (len : Int) + (lens l : Int)) = true := by simp; omega
  go_enter Tryd.func36, Tryd.ntmps36
  go_wp2_with fail
  refine (rsize_any a len cap l w h hb).mono ?_
  rintro e w' ⟨rfl, rfl⟩
  go_wp2
  go_ret2
  exact ⟨rfl, rfl⟩

theorem rpack_any (kind : UInt8) (a : Option Addr) (len cap : Nat) (l : List (List UInt8)) (w : World) (h : Strs w a len cap l) (hb : len + lens l ≤ 9223372036854775807) :
    Calls Tryd.prog 36 #[.int .u8 kind.toNat, .slice a len cap] w (StrPost w (packV kind l) (packE kind l)) := by
  have hl := h.1
  by_cases hk : kind = 0
  · subst hk
    refine (rpack_zero a len cap w).mono ?_
    rintro e w' ⟨rfl, rfl⟩
    exact ⟨rfl, Below.refl _ _⟩
  · by_cases hf : len + lens l ≤ 122
    · have hfit : fits kind l = true := by simp [fits, hk, hl, hf]
      rw [packV, packE, if_pos hfit, if_pos hfit]
      exact rpack_ok kind a len cap l w h hk hf
    · have hfit : fits kind l = false := by simp [fits, hl]; omega
      rw [packV, packE, hfit]
      refine (rpack_big kind a len cap l w h hk (by omega) hb).mono ?_
      rintro e w' ⟨rfl, rfl⟩
      exact ⟨rfl, Below.refl _ _⟩
end Go.Proofs.YtjdepdgoaopfoaaDoor
