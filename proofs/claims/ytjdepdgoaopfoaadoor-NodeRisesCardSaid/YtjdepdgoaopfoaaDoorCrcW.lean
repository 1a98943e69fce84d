/- The walks of the chapter on sums of bytes. -/
import Derived.Test.YtjdepdgoaopfoaaDoorOctW
import Derived.Test.YtjdepdgoaopfoaaDoorCrcSpec
import Derived.Laws.BitsAllLaws
namespace Go.Proofs.YtjdepdgoaopfoaaDoor
open Go.RowKit

/-- The table lies there. -/
def Half (w : World) : Prop := 0 < w.heap.size ∧ ∀ i, i < 16 → w.cell? ⟨0, i, none⟩ = some (.int .u32 ((half[i]?.getD 0 : Nat) : Int))
theorem Half.below {w w' : World} {B : Nat} (hB : w.heap.size ≤ B) (hb : Below B w w') (h : Half w) : Half w' :=
  ⟨Nat.lt_of_lt_of_le h.1 hb.size, fun i hi => (hb.cell (p := ⟨0, i, none⟩) (Nat.lt_of_lt_of_le h.1 hB)).trans (h.2 i hi)⟩
theorem Half.grown {w w' : World} {t : Nat} (h : Half w) (hg : w.grownBy w' (some t)) (hne : t ≠ 0) : Half w' :=
  ⟨Nat.lt_of_lt_of_le h.1 hg.size, fun i hi => (World.cell?_of_block (hg.block 0 h.1 (fun e => hne (by cases e; rfl)))).trans (h.2 i hi)⟩

theorem max32 : IntKind.u32.max = ((4294967295 : Nat) : Int) := by decide
theorem not_u32 (s : Nat) (h : s < 4294967296) : bits .xor .u32 IntKind.u32.max (s : Int) = ((4294967295 - s : Nat) : Int) := by
  rw [max32, u32_xor_nat 4294967295 s (by decide) h, not32 s h]

theorem and15 (y : Nat) (h : y < 4294967296) : bits .and .u32 (y : Int) 15 = ((y % 16 : Nat) : Int) := by
  have e := u32_and_nat y 15 h (by decide)
  have e2 : y &&& 15 = y % 16 := Nat.and_two_pow_sub_one_eq_mod y 4
  rw [e2] at e
  exact e

set_option maxRecDepth 100000 in
set_option maxHeartbeats 1000000 in
theorem crcOn_any (sum : Nat) (a : Option Addr) (len cap : Nat) (l : List UInt8) (w : World) (hs : sum < 4294967296) (hbs : Bs w a len cap l) (hh : Half w) :
    Calls Tryd.prog 86 #[.int .u32 sum, .slice a len cap] w fun e w' => e = .returned (.int .u32 (crcOn sum l)) ∧ w = w' := by
  have hll := Lib.hid hbs.len
  have hm := hbs.cap
  unfold maxLen at hm
  have hn := not_u32 sum hs
  obtain ⟨x0, hx0⟩ : ∃ x0, x0 = 4294967295 - sum := ⟨_, rfl⟩
  have hres : crcOn sum l = 4294967295 - crcX x0 l := by rw [hx0]; rfl
  have hx0b : x0 < 4294967296 := by omega
  rw [← hx0] at hn
  have HR := Lib.hid hres
  clear hx0 hres
  go_enter Tryd.func86, Tryd.ntmps86
  go_wp2
  go_loop [5, 12] (fun x i => ∃ k : Nat, k ≤ len ∧ i = .int .i64 k ∧ x = .int .u32 (crcX x0 (l.take k))) (fun _ i => len - (intOf i).toNat)
  case atStart => exact ⟨0, Nat.zero_le _, rfl, rfl⟩
  case round =>
    obtain ⟨k, hk, rfl, rfl⟩ := hrel
    by_cases hlt : k < len
    · obtain ⟨b, off, rfl, hb, hcell⟩ := hbs.cell hlt
      have hck := hcell k hlt
      have hxl := crcX_lt (l.take k) hx0b
      have hst : crcX x0 (l.take (k + 1)) = stepC (crcX x0 (l.take k)) (l[k]?.getD 0) := by
        rw [List.take_add_one, List.getElem?_eq_getElem (by rw [hll.out]; exact hlt)]; exact crcX_snoc _ _ _
      have hcb : (l[k]?.getD 0).toNat < 256 := (l[k]?.getD 0).toNat_lt
      generalize l[k]?.getD 0 = c at *
      generalize crcX x0 (l.take k) = x at *
      have H := Lib.hid hst
      clear hst hcell
      have hx1 := u32_xor_nat x c.toNat (by omega) (by omega)
      have hy := xor_lt hxl (show c.toNat < 4294967296 by omega)
      have hy8 : stepC x c = steps 4 (steps 4 (x ^^^ c.toNat)) := steps_add 4 4 _
      have hz := steps_lt 4 hy
      have f1 := steps_four (x ^^^ c.toNat)
      have f2 := steps_four (steps 4 (x ^^^ c.toNat))
      generalize x ^^^ c.toNat = y at *
      generalize hzz : steps 4 y = z at *
      generalize stepC x c = q at *
      generalize hqq : steps 4 z = q' at *
      have hq4 := steps_lt 4 hz
      rw [hqq] at hq4
      have h1 : y % 16 < 16 := by omega
      have h2 : z % 16 < 16 := by omega
      have t1 := hh.2 (y % 16) h1
      have t2 := hh.2 (z % 16) h2
      have hv1 : half[y % 16]?.getD 0 < 4294967296 := by rw [half_eq _ h1]; exact steps_lt 4 (by omega)
      have hv2 : half[z % 16]?.getD 0 < 4294967296 := by rw [half_eq _ h2]; exact steps_lt 4 (by omega)
      generalize half[y % 16]?.getD 0 = v1 at *
      generalize half[z % 16]?.getD 0 = v2 at *
      have hxo1 := u32_xor_nat (y / 16) v1 (by omega) hv1
      have hxo2 := u32_xor_nat (z / 16) v2 (by omega) hv2
      rw [← f1] at hxo1
      rw [← f2] at hxo2
      have hxo1 : bits .xor .u32 ((y : Int) / 16) (v1 : Int) = (z : Int) := hxo1
      have hxo2 : bits .xor .u32 ((z : Int) / 16) (v2 : Int) = (q' : Int) := hxo2
      have HQ := Lib.hid hy8
      have a1 := and15 y hy
      have a2 := and15 z hz
      clear f1 f2 hy8 hzz hqq hh
      go_wp2
      go_round
      case rel => exact ⟨k + 1, by omega, by go_num, by rw [H.out, HQ.out]⟩
      case measure => simp [intOf]; omega
    · obtain rfl : k = len := by omega
      have hx : l.take k = l := List.take_of_length_le (by rw [hll.out]; exact Nat.le_refl _)
      rw [hx]
      have hxl := crcX_lt l hx0b
      have hn2 := not_u32 (crcX x0 l) hxl
      rw [← HR.out] at hn2
      clear hx
      go_wp2
      go_ret
      exact ⟨rfl, rfl⟩

set_option maxRecDepth 100000 in
set_option maxHeartbeats 1000000 in
theorem crcOf_any (a : Option Addr) (len cap : Nat) (l : List UInt8) (w : World) (hbs : Bs w a len cap l) (hh : Half w) :
    Calls Tryd.prog 65 #[.slice a len cap] w fun e w' => e = .returned (.int .u32 (crcOf l)) ∧ w = w' := by
  go_enter Tryd.func65, Tryd.ntmps65
  go_wp2_with fail
  refine (crcOn_any 0 a len cap l w (by omega) hbs hh).mono ?_
  rintro e w' ⟨rfl, rfl⟩
  go_wp2
  go_ret
  exact ⟨rfl, rfl⟩

set_option maxRecDepth 100000 in
set_option maxHeartbeats 2000000 in
theorem refOn_any (sum : Nat) (l : List UInt8) (w : World) (hs : sum < 4294967296) (hl : l.length ≤ 9223372036854775807) :
    Calls Tryd.prog 80 #[.int .u32 sum, .string (strOf l)] w fun e w' => e = .returned (.int .u32 (crcOn sum l)) ∧ w = w' := by
  have hsz := strOf_size l
  obtain ⟨x0, hx0⟩ : ∃ x0, x0 = 4294967295 - sum := ⟨_, rfl⟩
  have hres : crcOn sum l = 4294967295 - crcX x0 l := by rw [hx0]; rfl
  have hx0b : x0 < 4294967296 := by omega
  have hx0c : (x0 : Int) = 4294967295 - (sum : Int) := by omega
  have HR := Lib.hid hres
  have HX := Lib.hid hx0c
  clear hx0 hres hx0c
  go_enter Tryd.func80, Tryd.ntmps80
  go_wp2
  go_loop [5, 6, 7, 8] (fun x i _ _ => ∃ k : Nat, k ≤ l.length ∧ i = .int .i64 k ∧ x = .int .u32 (crcX x0 (l.take k))) (fun _ i _ _ => l.length - (intOf i).toNat)
  case atStart => exact ⟨0, Nat.zero_le _, rfl, by show _ = Value.int .u32 (x0 : Int); rw [HX.out]⟩
  case round =>
    obtain ⟨k, hk, rfl, rfl⟩ := hrel
    by_cases hlt : k < l.length
    · have hxl := crcX_lt (l.take k) hx0b
      have hst : crcX x0 (l.take (k + 1)) = stepC (crcX x0 (l.take k)) (l[k]?.getD 0) := by
        rw [List.take_add_one, List.getElem?_eq_getElem hlt]; exact crcX_snoc _ _ _
      have hget := strOf_get l k hlt
      have hcb : (l[k]?.getD 0).toNat < 256 := (l[k]?.getD 0).toNat_lt
      generalize l[k]?.getD 0 = c at *
      generalize crcX x0 (l.take k) = x at *
      have H := Lib.hid hst
      clear hst
      have hx1 := u32_xor_nat x c.toNat (by omega) (by omega)
      have hy := xor_lt hxl (show c.toNat < 4294967296 by omega)
      have hq : stepC x c = steps 8 (x ^^^ c.toNat) := rfl
      generalize x ^^^ c.toNat = y at *
      generalize stepC x c = q at *
      have HQ := Lib.hid hq
      clear hq
      go_wp2
      go_loop [5, 7, 8] (fun x kk _ => ∃ j : Nat, j ≤ 8 ∧ kk = .int .i64 j ∧ x = .int .u32 (steps j y)) (fun _ kk _ => 8 - (intOf kk).toNat)
      case atStart => exact ⟨0, by omega, rfl, rfl⟩
      case round =>
        obtain ⟨j, hj, rfl, rfl⟩ := hrel
        by_cases hj8 : j < 8
        · have hz := steps_lt j hy
          have hs1 := steps_succ j y
          generalize steps j y = z at *
          have HS := Lib.hid hs1
          clear hs1
          have hpo := u32_xor_nat (z / 2) 3988292384 (by omega) (by omega)
          have hpo : bits .xor .u32 ((z : Int) / 2) 3988292384 = ((z / 2 ^^^ 3988292384 : Nat) : Int) := hpo
          by_cases ho : z % 2 = 1
          · have hb : (((z : Int) % 2) == 1) = true := by simp; omega
            have hbz : stepB z = z / 2 ^^^ 3988292384 := by rw [stepB, if_pos ho]
            have HB := Lib.hid hbz
            clear hbz ho
            go_wp2
            go_round
            case rel => exact ⟨j + 1, by omega, by go_num, by rw [HS.out, HB.out]⟩
            case measure => simp [intOf]; omega
          · have hb : (((z : Int) % 2) == 1) = false := by simp; omega
            have hbz : stepB z = z / 2 := by rw [stepB, if_neg ho]
            have HB := Lib.hid hbz
            clear hbz ho hpo
            go_wp2
            go_round
            case rel => exact ⟨j + 1, by omega, by go_num, by rw [HS.out, HB.out]; go_num⟩
            case measure => simp [intOf]; omega
        · obtain rfl : j = 8 := by omega
          rw [← HQ.out]
          go_wp2
          go_round
          case rel => exact ⟨k + 1, by omega, by go_num, by rw [H.out]⟩
          case measure => simp [intOf]; omega
    · obtain rfl : k = l.length := by omega
      rw [List.take_length]
      have hxl := crcX_lt l hx0b
      have hn2 : (4294967295 : Int) - (crcX x0 l : Int) = (crcOn sum l : Int) := by rw [HR.out]; omega
      go_wp2
      go_ret
      exact ⟨rfl, rfl⟩

set_option maxRecDepth 100000 in
set_option maxHeartbeats 1000000 in
theorem refOf_any (l : List UInt8) (w : World) (hl : l.length ≤ 9223372036854775807) :
    Calls Tryd.prog 62 #[.string (strOf l)] w fun e w' => e = .returned (.int .u32 (crcOf l)) ∧ w = w' := by
  go_enter Tryd.func62, Tryd.ntmps62
  go_wp2_with fail
  refine (refOn_any 0 l w (by omega) hl).mono ?_
  rintro e w' ⟨rfl, rfl⟩
  go_wp2
  go_ret
  exact ⟨rfl, rfl⟩
end Go.Proofs.YtjdepdgoaopfoaaDoor
