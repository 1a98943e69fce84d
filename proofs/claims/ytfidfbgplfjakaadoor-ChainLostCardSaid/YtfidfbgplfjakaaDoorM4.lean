/- Texts that other texts of this claim lean on, one behind the other. -/
import Derived.Test.YtfidfbgplfjakaaDoorM3
import Derived.Laws.BitsAllLaws
import Derived.Laws.CopyOwn
import Derived.Test.YtfidfbgplfjakaaDoorM1
import Derived.Deep.RegionLaw
import Derived.Deep.RegionWith
/- The walks of the chapter on sums of bytes. -/
namespace Go.Proofs.YtfidfbgplfjakaaDoor
open Go.RowKit

/-- The table lies there. -/
def Half (w : World) : Prop := 0 < w.heap.size ∧ ∀ i, i < 16 → w.cell? ⟨0, i, none⟩ = some (.int .u32 ((half[i]?.getD 0 : Nat) : Int))
theorem Half.below {w w' : World} {B : Nat} (hB : w.heap.size ≤ B) (hb : Below B w w') (h : Half w) : Half w' :=
  ⟨Nat.lt_of_lt_of_le h.1 hb.size, fun i hi => (hb.cell (p := ⟨0, i, none⟩) (Nat.lt_of_lt_of_le h.1 hB)).trans (h.2 i hi)⟩
theorem Half.grown {w w' : World} {t : Nat} (h : Half w) (hg : w.grownBy w' (some t)) (hne : t ≠ 0) : Half w' :=
  ⟨Nat.lt_of_lt_of_le h.1 hg.size, fun i hi => (World.cell?_of_block (hg.block 0 h.1 (fun e => hne (by cases e; rfl)))).trans (h.2 i hi)⟩

theorem max32 : IntKind.u32.max = ((4294967295 : Nat) : Int) := by decide
theorem not_u32 (s : Nat) (h : s < 4294967296) : bits .xor .u32 IntKind.u32.max (s : Int) = ((4294967295 - s : Nat) : Int) := by
  rw [max32, u32_xor_nat 4294967295 s (by decide) h, not32 s h]

theorem and15 (y : Nat) (h : y < 4294967296) : bits .and .u32 (y : Int) 15 = ((y % 16 : Nat) : Int) := by
  have e := u32_and_nat y 15 h (by decide)
  have e2 : y &&& 15 = y % 16 := Nat.and_two_pow_sub_one_eq_mod y 4
  rw [e2] at e
  exact e

set_option maxRecDepth 100000 in
set_option maxHeartbeats 1000000 in
theorem crcOn_any (sum : Nat) (a : Option Addr) (len cap : Nat) (l : List UInt8) (w : World) (hs : sum < 4294967296) (hbs : Bs w a len cap l) (hh : Half w) :
    Calls Tryd.prog 60 #[.int .u32 sum, .slice a len cap] w fun e w' => e = .returned (.int .u32 (crcOn sum l)) ∧ w = w' := by
  have hll := Lib.hid hbs.len
  have hm := hbs.cap
  unfold maxLen at hm
  have hn := not_u32 sum hs
  obtain ⟨x0, hx0⟩ : ∃ x0, x0 = 4294967295 - sum := ⟨_, rfl⟩
  have hres : crcOn sum l = 4294967295 - crcX x0 l := by rw [hx0]; rfl
  have hx0b : x0 < 4294967296 := by omega
  rw [← hx0] at hn
  have HR := Lib.hid hres
  clear hx0 hres
  go_enter Tryd.func60, Tryd.ntmps60
  go_wp2
  go_loop [5, 12] (fun x i => ∃ k : Nat, k ≤ len ∧ i = .int .i64 k ∧ x = .int .u32 (crcX x0 (l.take k))) (fun _ i => len - (intOf i).toNat)
  case atStart => exact ⟨0, Nat.zero_le _, rfl, rfl⟩
  case round =>
    obtain ⟨k, hk, rfl, rfl⟩ := hrel
    by_cases hlt : k < len
    · obtain ⟨b, off, rfl, hb, hcell⟩ := hbs.cell hlt
      have hck := hcell k hlt
      have hxl := crcX_lt (l.take k) hx0b
      have hst : crcX x0 (l.take (k + 1)) = stepC (crcX x0 (l.take k)) (l[k]?.getD 0) := by
        rw [List.take_add_one, List.getElem?_eq_getElem (by rw [hll.out]; exact hlt)]; exact crcX_snoc _ _ _
      have hcb : (l[k]?.getD 0).toNat < 256 := (l[k]?.getD 0).toNat_lt
      generalize l[k]?.getD 0 = c at *
      generalize crcX x0 (l.take k) = x at *
      have H := Lib.hid hst
      clear hst hcell
      have hx1 := u32_xor_nat x c.toNat (by omega) (by omega)
      have hy := xor_lt hxl (show c.toNat < 4294967296 by omega)
      have hy8 : stepC x c = steps 4 (steps 4 (x ^^^ c.toNat)) := steps_add 4 4 _
      have hz := steps_lt 4 hy
      have f1 := steps_four (x ^^^ c.toNat)
      have f2 := steps_four (steps 4 (x ^^^ c.toNat))
      generalize x ^^^ c.toNat = y at *
      generalize hzz : steps 4 y = z at *
      generalize stepC x c = q at *
      generalize hqq : steps 4 z = q' at *
      have hq4 := steps_lt 4 hz
      rw [hqq] at hq4
      have h1 : y % 16 < 16 := by omega
      have h2 : z % 16 < 16 := by omega
      have t1 := hh.2 (y % 16) h1
      have t2 := hh.2 (z % 16) h2
      have hv1 : half[y % 16]?.getD 0 < 4294967296 := by rw [half_eq _ h1]; exact steps_lt 4 (by omega)
      have hv2 : half[z % 16]?.getD 0 < 4294967296 := by rw [half_eq _ h2]; exact steps_lt 4 (by omega)
      generalize half[y % 16]?.getD 0 = v1 at *
      generalize half[z % 16]?.getD 0 = v2 at *
      have hxo1 := u32_xor_nat (y / 16) v1 (by omega) hv1
      have hxo2 := u32_xor_nat (z / 16) v2 (by omega) hv2
      rw [← f1] at hxo1
      rw [← f2] at hxo2
      have hxo1 : bits .xor .u32 ((y : Int) / 16) (v1 : Int) = (z : Int) := hxo1
      have hxo2 : bits .xor .u32 ((z : Int) / 16) (v2 : Int) = (q' : Int) := hxo2
      have HQ := Lib.hid hy8
      have a1 := and15 y hy
      have a2 := and15 z hz
      clear f1 f2 hy8 hzz hqq hh
      go_wp2
      go_round
      case rel => exact ⟨k + 1, by omega, by go_num, by rw [H.out, HQ.out]⟩
      case measure => simp [intOf]; omega
    · obtain rfl : k = len := by omega
      have hx : l.take k = l := List.take_of_length_le (by rw [hll.out]; exact Nat.le_refl _)
      rw [hx]
      have hxl := crcX_lt l hx0b
      have hn2 := not_u32 (crcX x0 l) hxl
      rw [← HR.out] at hn2
      clear hx
      go_wp2
      go_ret
      exact ⟨rfl, rfl⟩

set_option maxRecDepth 100000 in
set_option maxHeartbeats 1000000 in
theorem crcOf_any (a : Option Addr) (len cap : Nat) (l : List UInt8) (w : World) (hbs : Bs w a len cap l) (hh : Half w) :
    Calls Tryd.prog 47 #[.slice a len cap] w fun e w' => e = .returned (.int .u32 (crcOf l)) ∧ w = w' := by
  go_enter Tryd.func47, Tryd.ntmps47
  go_wp2_with fail
  refine (crcOn_any 0 a len cap l w (by omega) hbs hh).mono ?_
  rintro e w' ⟨rfl, rfl⟩
  go_wp2
  go_ret
  exact ⟨rfl, rfl⟩

set_option maxRecDepth 100000 in
set_option maxHeartbeats 2000000 in
theorem refOn_any (sum : Nat) (l : List UInt8) (w : World) (hs : sum < 4294967296) (hl : l.length ≤ 9223372036854775807) :
    Calls Tryd.prog 59 #[.int .u32 sum, .string (strOf l)] w fun e w' => e = .returned (.int .u32 (crcOn sum l)) ∧ w = w' := by
  have hsz := strOf_size l
  obtain ⟨x0, hx0⟩ : ∃ x0, x0 = 4294967295 - sum := ⟨_, rfl⟩
  have hres : crcOn sum l = 4294967295 - crcX x0 l := by rw [hx0]; rfl
  have hx0b : x0 < 4294967296 := by omega
  have hx0c : (x0 : Int) = 4294967295 - (sum : Int) := by omega
  have HR := Lib.hid hres
  have HX := Lib.hid hx0c
  clear hx0 hres hx0c
  go_enter Tryd.func59, Tryd.ntmps59
  go_wp2
  go_loop [5, 6, 7, 8] (fun x i _ _ => ∃ k : Nat, k ≤ l.length ∧ i = .int .i64 k ∧ x = .int .u32 (crcX x0 (l.take k))) (fun _ i _ _ => l.length - (intOf i).toNat)
  case atStart => exact ⟨0, Nat.zero_le _, rfl, by show _ = Value.int .u32 (x0 : Int); rw [HX.out]⟩
  case round =>
    obtain ⟨k, hk, rfl, rfl⟩ := hrel
    by_cases hlt : k < l.length
    · have hxl := crcX_lt (l.take k) hx0b
      have hst : crcX x0 (l.take (k + 1)) = stepC (crcX x0 (l.take k)) (l[k]?.getD 0) := by
        rw [List.take_add_one, List.getElem?_eq_getElem hlt]; exact crcX_snoc _ _ _
      have hget := strOf_get l k hlt
      have hcb : (l[k]?.getD 0).toNat < 256 := (l[k]?.getD 0).toNat_lt
      generalize l[k]?.getD 0 = c at *
      generalize crcX x0 (l.take k) = x at *
      have H := Lib.hid hst
      clear hst
      have hx1 := u32_xor_nat x c.toNat (by omega) (by omega)
      have hy := xor_lt hxl (show c.toNat < 4294967296 by omega)
      have hq : stepC x c = steps 8 (x ^^^ c.toNat) := rfl
      generalize x ^^^ c.toNat = y at *
      generalize stepC x c = q at *
      have HQ := Lib.hid hq
      clear hq
      go_wp2
      go_loop [5, 7, 8] (fun x kk _ => ∃ j : Nat, j ≤ 8 ∧ kk = .int .i64 j ∧ x = .int .u32 (steps j y)) (fun _ kk _ => 8 - (intOf kk).toNat)
      case atStart => exact ⟨0, by omega, rfl, rfl⟩
      case round =>
        obtain ⟨j, hj, rfl, rfl⟩ := hrel
        by_cases hj8 : j < 8
        · have hz := steps_lt j hy
          have hs1 := steps_succ j y
          generalize steps j y = z at *
          have HS := Lib.hid hs1
          clear hs1
          have hpo := u32_xor_nat (z / 2) 3988292384 (by omega) (by omega)
          have hpo : bits .xor .u32 ((z : Int) / 2) 3988292384 = ((z / 2 ^^^ 3988292384 : Nat) : Int) := hpo
          by_cases ho : z % 2 = 1
          · have hb : (((z : Int) % 2) == 1) = true := by simp; omega
            have hbz : stepB z = z / 2 ^^^ 3988292384 := by rw [stepB, if_pos ho]
            have HB := Lib.hid hbz
            clear hbz ho
            go_wp2
            go_round
            case rel => exact ⟨j + 1, by omega, by go_num, by rw [HS.out, HB.out]⟩
            case measure => simp [intOf]; omega
          · have hb : (((z : Int) % 2) == 1) = false := by simp; omega
            have hbz : stepB z = z / 2 := by rw [stepB, if_neg ho]
            have HB := Lib.hid hbz
            clear hbz ho hpo
            go_wp2
            go_round
            case rel => exact ⟨j + 1, by omega, by go_num, by rw [HS.out, HB.out]; go_num⟩
            case measure => simp [intOf]; omega
        · obtain rfl : j = 8 := by omega
          rw [← HQ.out]
          go_wp2
          go_round
          case rel => exact ⟨k + 1, by omega, by go_num, by rw [H.out]⟩
          case measure => simp [intOf]; omega
    · obtain rfl : k = l.length := by omega
      rw [List.take_length]
      have hxl := crcX_lt l hx0b
      have hn2 : (4294967295 : Int) - (crcX x0 l : Int) = (crcOn sum l : Int) := by rw [HR.out]; omega
      go_wp2
      go_ret
      exact ⟨rfl, rfl⟩

set_option maxRecDepth 100000 in
set_option maxHeartbeats 1000000 in
theorem refOf_any (l : List UInt8) (w : World) (hl : l.length ≤ 9223372036854775807) :
    Calls Tryd.prog 43 #[.string (strOf l)] w fun e w' => e = .returned (.int .u32 (crcOf l)) ∧ w = w' := by
  go_enter Tryd.func43, Tryd.ntmps43
  go_wp2_with fail
  refine (refOn_any 0 l w (by omega) hl).mono ?_
  rintro e w' ⟨rfl, rfl⟩
  go_wp2
  go_ret
  exact ⟨rfl, rfl⟩
end Go.Proofs.YtfidfbgplfjakaaDoor

/- Pages of cells, said plainly. -/
namespace Go.Proofs.YtfidfbgplfjakaaDoor

def lens (l : List (List UInt8)) : Nat := (l.map List.length).sum
theorem lens_nil : lens [] = 0 := rfl
theorem lens_append (a b : List (List UInt8)) : lens (a ++ b) = lens a + lens b := by simp [lens]
theorem lens_one (c : List UInt8) : lens [c] = c.length := by simp [lens]
theorem take_snoc {α : Type} (l : List α) (k : Nat) (d : α) (h : k < l.length) : l.take (k + 1) = l.take k ++ [l[k]?.getD d] := by
  rw [List.take_add_one, List.getElem?_eq_getElem h]; rfl
theorem lens_take_succ (l : List (List UInt8)) (k : Nat) (h : k < l.length) : lens (l.take (k + 1)) = lens (l.take k) + (l[k]?.getD []).length := by
  rw [take_snoc l k [] h, lens_append, lens_one]
theorem lens_take_le (l : List (List UInt8)) (k : Nat) : lens (l.take k) ≤ lens l := by
  have h := lens_append (l.take k) (l.drop k)
  rw [List.take_append_drop] at h
  omega

/-- The slots: where each cell begins, the first one's end being 'e'. -/
def slotsOf : Nat → List (List UInt8) → List UInt8
  | _, [] => []
  | e, c :: r => UInt8.ofNat (e - c.length) :: slotsOf (e - c.length) r
/-- The cells, the last one ahead. -/
def backOf (l : List (List UInt8)) : List UInt8 := l.reverse.flatten
theorem slotsOf_length (l : List (List UInt8)) : ∀ e, (slotsOf e l).length = l.length := by
  induction l with
  | nil => intro e; rfl
  | cons c r ih => intro e; simp [slotsOf, ih]
theorem slotsOf_append (l m : List (List UInt8)) : ∀ e, slotsOf e (l ++ m) = slotsOf e l ++ slotsOf (e - lens l) m := by
  induction l with
  | nil => intro e; simp [slotsOf, lens]
  | cons c r ih => intro e; simp [slotsOf, ih, lens, Nat.sub_sub]
theorem backOf_append (l m : List (List UInt8)) : backOf (l ++ m) = backOf m ++ backOf l := by simp [backOf]
theorem backOf_one (c : List UInt8) : backOf [c] = c := by simp [backOf]
theorem backOf_length (l : List (List UInt8)) : (backOf l).length = lens l := by
  induction l with
  | nil => rfl
  | cons c r ih =>
    have h1 : c :: r = [c] ++ r := rfl
    rw [h1, backOf_append, List.length_append, ih, backOf_one, lens_append, lens_one]; omega

/-- What is summed of a page. -/
def bodyOf (kind : UInt8) (n : Nat) (l : List (List UInt8)) : List UInt8 :=
  kind :: UInt8.ofNat n :: (slotsOf 128 l ++ (List.replicate (122 - l.length - lens l) 0 ++ backOf l))
def pageOf (kind : UInt8) (l : List (List UInt8)) : List UInt8 := beBytes (crcOf (bodyOf kind l.length l)) 4 ++ bodyOf kind l.length l
theorem bodyOf_length (kind : UInt8) (n : Nat) (l : List (List UInt8)) (h : l.length + lens l ≤ 122) : (bodyOf kind n l).length = 124 := by
  simp [bodyOf, slotsOf_length, backOf_length]; omega

/-- The page while it is laid: no sum yet. -/
def rawOf (kind : UInt8) (n : Nat) (l : List (List UInt8)) : List UInt8 := [0, 0, 0, 0] ++ bodyOf kind n l
theorem rawOf_length (kind : UInt8) (n : Nat) (l : List (List UInt8)) (h : l.length + lens l ≤ 122) : (rawOf kind n l).length = 128 := by
  rw [rawOf, List.length_append, bodyOf_length kind n l h]; rfl
theorem rawOf_nil (kind : UInt8) (n : Nat) : rawOf kind n [] = ((List.replicate 128 (0 : UInt8)).set 4 kind).set 5 (UInt8.ofNat n) := by
  simp [rawOf, bodyOf, slotsOf, backOf, lens, List.replicate, List.set]

theorem splice_mid {α : Type} (a z c b : List α) (h : c.length ≤ z.length) : splice (a ++ (z ++ b)) (a.length + (z.length - c.length)) c = a ++ (z.take (z.length - c.length) ++ (c ++ b)) := by
  unfold splice
  have e1 : (a ++ (z ++ b)).take (a.length + (z.length - c.length)) = a ++ z.take (z.length - c.length) := by
    rw [List.take_append, List.take_of_length_le (by omega)]
    congr 1
    rw [List.take_append_of_le_length (by omega)]
    congr 1; omega
  have e2 : (a ++ (z ++ b)).drop (a.length + (z.length - c.length) + c.length) = b := by
    have : a.length + (z.length - c.length) + c.length = (a ++ z).length := by simp; omega
    rw [this, ← List.append_assoc, List.drop_append, List.drop_length]; simp
  rw [e1, e2]; simp

/-- One cell more is laid. -/
theorem raw_step (kind : UInt8) (n : Nat) (l : List (List UInt8)) (c : List UInt8) (h : l.length + 1 + lens l + c.length ≤ 122) :
    (splice (rawOf kind n l) (128 - lens l - c.length) c).set (6 + l.length) (UInt8.ofNat (128 - lens l - c.length)) = rawOf kind n (l ++ [c]) := by
  have e1 : rawOf kind n l = ([0, 0, 0, 0, kind, UInt8.ofNat n] ++ slotsOf 128 l) ++ (List.replicate (122 - l.length - lens l) 0 ++ backOf l) := by simp [rawOf, bodyOf]
  have e2 := splice_mid ([0, 0, 0, 0, kind, UInt8.ofNat n] ++ slotsOf 128 l) (List.replicate (122 - l.length - lens l) 0) c (backOf l) (by simp; omega)
  have e3 : ([0, 0, 0, 0, kind, UInt8.ofNat n] ++ slotsOf 128 l).length + ((List.replicate (122 - l.length - lens l) (0 : UInt8)).length - c.length) = 128 - lens l - c.length := by
    simp [slotsOf_length]; omega
  rw [e3] at e2
  rw [e1, e2, List.set_append_right _ _ (by simp [slotsOf_length]; omega)]
  have e4 : 6 + l.length - ([0, 0, 0, 0, kind, UInt8.ofNat n] ++ slotsOf 128 l).length = 0 := by simp [slotsOf_length]; omega
  obtain ⟨m, hm⟩ : ∃ m, 122 - l.length - lens l - c.length = m + 1 := ⟨122 - l.length - lens l - c.length - 1, by omega⟩
  have e5 : (List.replicate (122 - l.length - lens l) (0 : UInt8)).take ((List.replicate (122 - l.length - lens l) (0 : UInt8)).length - c.length) = 0 :: List.replicate m 0 := by
    rw [List.length_replicate, List.take_replicate, Nat.min_eq_left (by omega), hm, List.replicate_succ]
  rw [e4, e5]
  have e6 : 122 - (l ++ [c]).length - lens (l ++ [c]) = m := by simp [lens_append, lens_one]; omega
  simp only [rawOf, bodyOf, slotsOf_append, backOf_append, backOf_one, e6, slotsOf, List.cons_append, List.nil_append, List.append_assoc, List.set_cons_zero]

/-- The sum is laid. -/
theorem raw_sum (kind : UInt8) (n : Nat) (l : List (List UInt8)) (s : List UInt8) (h : s.length = 4) : splice (rawOf kind n l) 0 s = s ++ bodyOf kind n l := by
  unfold splice rawOf
  rw [h]; rfl
end Go.Proofs.YtfidfbgplfjakaaDoor

/- The walks of the chapter on numbers and texts as bytes: what is taken. -/
namespace Go.Proofs.YtfidfbgplfjakaaDoor
open Go.RowKit

theorem size_bytes (w : World) : (sizeOf (Tryd.prog.elem 31)).run Tryd.prog w = .ok 1 w := by kernel_rfl
theorem elem_bytes : Tryd.prog.underlying 31 = some (.slice (Tryd.prog.elem 31)) := by kernel_rfl

/-- A taker stands there, in such a state. -/
def Tk (w : World) (t : Nat) (s : TSt) : Prop :=
  ∃ a cap, w.heap[t]? = some (.cells #[.slice a s.l.length cap, .int .i64 s.e] 129 (0, 0)) ∧ Bs w a s.l.length cap s.l

theorem Tk.lt {w : World} {t : Nat} {s : TSt} (h : Tk w t s) : t < w.heap.size := by
  obtain ⟨a, cap, h1, _⟩ := h; exact (Array.getElem?_eq_some_iff.1 h1).1

/-- The bytes don't stand in the taker's own block. -/
theorem bs_ne {w : World} {t : Nat} {a b : Option Addr} {n m len cap : Nat} {e : Int} {T : TypeId} {l : List UInt8} (h1 : w.heap[t]? = some (.cells #[.slice b n m, .int .i64 e] T (0, 0))) (h2 : Bs w a len cap l) :
    ∀ b off, len ≠ 0 → a = some ⟨b, off, none⟩ → some t ≠ some b := by
  intro b off hl ha hb
  cases hb
  obtain ⟨b', off', e1, _, h7⟩ := h2.cell (k := 0) (by omega)
  rw [ha] at e1
  cases e1
  have := h7 0 (by omega)
  simp only [World.cell?, h1, Nat.add_zero] at this
  match off, this with
  | 0, this => simp at this
  | 1, this => simp at this
  | n + 2, this => simp at this

theorem Tk.grown {w w' : World} {t : Nat} {s : TSt} {row : Option Nat} (h : Tk w t s) (hg : w.grownBy w' row) (hne : row ≠ some t) (hb : ∀ a n m b off, w.heap[t]? = some (.cells #[.slice a n m, .int .i64 s.e] 129 (0, 0)) → s.l.length ≠ 0 → a = some ⟨b, off, none⟩ → row ≠ some b) : Tk w' t s := by
  obtain ⟨a, cap, h1, h2⟩ := h
  exact ⟨a, cap, (hg.block t (Array.getElem?_eq_some_iff.1 h1).1 (fun e => hne e.symm)).trans h1, h2.grown hg (fun b off h3 h4 => hb a _ _ b off h1 h3 h4)⟩
theorem Tk.below {w w' : World} {t : Nat} {s : TSt} {B : Nat} (hB : w.heap.size ≤ B) (hb : Below B w w') (h : Tk w t s) : Tk w' t s := by
  obtain ⟨a, cap, h1, h2⟩ := h
  exact ⟨a, cap, (hb.block t (Nat.lt_of_lt_of_le (Array.getElem?_eq_some_iff.1 h1).1 hB)).trans h1, h2.below hB hb⟩

/-- What a call on a taker leaves: a value; the taker in a new state; all else that was there as it was. -/
def TkPost (w : World) (t : Nat) (R : World → Value → Prop) (s' : TSt) (e : Ending) (w' : World) : Prop :=
  ∃ v, e = .returned v ∧ R w' v ∧ w.grownBy w' (some t) ∧ Tk w' t s'

theorem beVal_step (l : List UInt8) (k : Nat) (h : k < l.length) : beVal (l.take (k + 1)) = beVal (l.take k) * 256 + (l[k]?.getD 0).toNat := by
  rw [List.take_add_one, List.getElem?_eq_getElem h]; exact beVal_snoc _ _

set_option maxRecDepth 100000 in
set_option maxHeartbeats 1000000 in
theorem num1_any (a : Option Addr) (len cap : Nat) (l : List UInt8) (w : World) (h : Bs w a len cap l) (h8 : len ≤ 8) :
    Calls Tryd.prog 65 #[.slice a len cap] w fun e w' => e = .returned (.int .u64 (beVal l)) ∧ w = w' := by
  have hll := Lib.hid h.len
  have hm := h.cap.2
  have hc := h.cap.1
  unfold maxLen at hm
  go_enter Tryd.func65, Tryd.ntmps65
  go_wp2
  go_loop [3, 8] (fun x i => ∃ k : Nat, k ≤ len ∧ i = .int .i64 k ∧ x = .int .u64 (beVal (l.take k))) (fun _ i => len - (intOf i).toNat)
  case atStart => exact ⟨0, Nat.zero_le _, rfl, rfl⟩
  case round =>
    obtain ⟨k, hk, rfl, rfl⟩ := hrel
    by_cases hlt : k < len
    · obtain ⟨b, off, rfl, hb, hcell⟩ := h.cell hlt
      have hck := hcell k hlt
      have hst := beVal_step l k (by rw [hll.out]; exact hlt)
      have hbd : beVal (l.take k) < 72057594037927936 := by
        have h1 := beVal_lt (l.take k)
        have h2 : (l.take k).length ≤ 7 := by simp; omega
        have h3 : 256 ^ (l.take k).length ≤ 256 ^ 7 := Nat.pow_le_pow_right (by decide) h2
        omega
      have hcb := (l[k]?.getD 0).toNat_lt
      generalize (l[k]?.getD 0).toNat = c at *
      generalize beVal (l.take k) = x at *
      have H := Lib.hid hst
      clear hst hcell
      have hor := or256 x c hbd hcb
      go_wp2
      go_round
      case rel => exact ⟨k + 1, by omega, by go_num, by rw [H.out]; go_num⟩
      case measure => simp [intOf]; omega
    · obtain rfl : k = len := by omega
      have hx : l.take k = l := List.take_of_length_le (by rw [hll.out]; exact Nat.le_refl _)
      rw [hx]
      clear hx
      go_wp2
      go_ret
      exact ⟨rfl, rfl⟩

set_option maxRecDepth 100000 in
set_option maxHeartbeats 1000000 in
theorem clone_any (a : Option Addr) (len cap : Nat) (l : List UInt8) (w : World) (h : Bs w a len cap l) (hreach : len ≤ 140737488351232) :
    Calls Tryd.prog 63 #[.slice a len cap] w (OwnBytes 5 w l) := by
  obtain ⟨i0, hi, hz0, hz1, hz2⟩ := info_parts info_u8
  have hll := Lib.hid h.len
  cases a with
  | none =>
    have hc := h.2.2.2.1 rfl
    have h0 : len = 0 := by have := h.2.1; omega
    subst hc h0
    have hl0 : l = [] := List.eq_nil_of_length_eq_zero h.len
    have HL := Lib.hid hl0
    clear hl0
    have hq : ∀ W : World, (binOp .eql 31 (.slice none 0 0) (.slice none 0 0)).run Tryd.prog W = .ok (.bool true) W := fun W => Lib.run_eql_slice_nil W _ _ none 0 0 0 0 Tryd.underlying31
    go_enter Tryd.func63, Tryd.ntmps63
    go_wp2
    go_ret
    exact ⟨_, rfl, by rw [HL.out]; exact ⟨rfl, .inl ⟨rfl, rfl⟩⟩, Below.refl _ _⟩
  | some x =>
    have hm := h.cap.2
    unfold maxLen at hm
    have hq : ∀ W : World, (binOp .eql 31 (.slice (some x) len cap) (.slice none 0 0)).run Tryd.prog W = .ok (.bool false) W := fun W => Lib.run_eql_slice_nil W _ _ (some x) len cap 0 0 Tryd.underlying31
    go_enter Tryd.func63, Tryd.ntmps63
    go_wp2_with (at_builtin; refine wpList_append_row rfl _ _ 31 rfl w.heap.size 5 i0 _ 1 Tryd.underlying31 hi hz0 hz1 hz2 rfl _ 0 [] rfl (own_made .u8 w 5 [] rfl (Nat.le_refl _) (by unfold maxLen; simp)) .u8 (some x) len cap (toI l) rfl (h.below (Nat.le_refl _) ((Below.refl _ _).alloc (Nat.le_refl _) _)) (by unfold maxLen; omega) (by omega) (by simp) ?_)
    intro v2 w2 hown hg
    have hB := ((Below.refl w.heap.size w).alloc (Nat.le_refl _) (.cells #[] 5)).grown hg (by simp) (fun k e => by cases e; exact Nat.le_refl _)
    clear hg
    have hown' : w2.ownsRow w.heap.size 5 1 v2 l.length ((toI l).map (Value.int .u8)) := by
      rw [hll.out]; simpa using hown
    clear hown
    go_wp2
    go_ret
    exact ⟨_, rfl, hown', hB⟩
end Go.Proofs.YtfidfbgplfjakaaDoor

/- The walks of the chapter on pages of cells. -/
namespace Go.Proofs.YtfidfbgplfjakaaDoor
open Go.RowKit

set_option maxRecDepth 100000 in
set_option maxHeartbeats 1000000 in
theorem equal_any (a : Option Addr) (n cap : Nat) (l : List UInt8) (b : Option Addr) (m cap2 : Nat) (r : List UInt8) (w : World) (h1 : Bs w a n cap l) (h2 : Bs w b m cap2 r) :
    Calls Tryd.prog 62 #[.slice a n cap, .slice b m cap2] w fun e w' => e = .returned (.bool (l == r)) ∧ w = w' := by
  have c1 := conv_string Tryd.underlying31 Tryd.underlying5 Tryd.underlying9 h1
  have c2 := conv_string Tryd.underlying31 Tryd.underlying5 Tryd.underlying9 h2
  have hst := strOf_toList
  go_enter Tryd.func62, Tryd.ntmps62
  go_wp2
  go_ret
  exact ⟨rfl, rfl⟩

set_option maxRecDepth 100000 in
set_option maxHeartbeats 1000000 in
theorem bclone_any (a : Option Addr) (len cap : Nat) (l : List UInt8) (w : World) (h : Bs w a len cap l) (hreach : len ≤ 140737488351232) :
    Calls Tryd.prog 48 #[.slice a len cap] w (OwnBytes 5 w l) := by
  obtain ⟨i0, hi, hz0, hz1, hz2⟩ := info_parts info_u8
  have hll := Lib.hid h.len
  cases a with
  | none =>
    have hc := h.2.2.2.1 rfl
    have h0 : len = 0 := by have := h.2.1; omega
    subst hc h0
    have hl0 : l = [] := List.eq_nil_of_length_eq_zero h.len
    have HL := Lib.hid hl0
    clear hl0
    have hq : ∀ W : World, (binOp .eql 31 (.slice none 0 0) (.slice none 0 0)).run Tryd.prog W = .ok (.bool true) W := fun W => Lib.run_eql_slice_nil W _ _ none 0 0 0 0 Tryd.underlying31
    go_enter Tryd.func48, Tryd.ntmps48
    go_wp2
    go_ret
    exact ⟨_, rfl, by rw [HL.out]; exact ⟨rfl, .inl ⟨rfl, rfl⟩⟩, Below.refl _ _⟩
  | some x =>
    have hm := h.cap.2
    unfold maxLen at hm
    have hq : ∀ W : World, (binOp .eql 31 (.slice (some x) len cap) (.slice none 0 0)).run Tryd.prog W = .ok (.bool false) W := fun W => Lib.run_eql_slice_nil W _ _ (some x) len cap 0 0 Tryd.underlying31
    go_enter Tryd.func48, Tryd.ntmps48
    go_wp2_with (at_builtin; refine wpList_append_row rfl _ _ 31 rfl w.heap.size 5 i0 _ 1 Tryd.underlying31 hi hz0 hz1 hz2 rfl _ 0 [] rfl (own_made .u8 w 5 [] rfl (Nat.le_refl _) (by unfold maxLen; simp)) .u8 (some x) len cap (toI l) rfl (h.below (Nat.le_refl _) ((Below.refl _ _).alloc (Nat.le_refl _) _)) (by unfold maxLen; omega) (by omega) (by simp) ?_)
    intro v2 w2 hown hg
    have hB := ((Below.refl w.heap.size w).alloc (Nat.le_refl _) (.cells #[] 5)).grown hg (by simp) (fun k e => by cases e; exact Nat.le_refl _)
    clear hg
    have hown' : w2.ownsRow w.heap.size 5 1 v2 l.length ((toI l).map (Value.int .u8)) := by
      rw [hll.out]; simpa using hown
    clear hown
    go_wp2
    go_ret
    exact ⟨_, rfl, hown', hB⟩

/-! rows of rows of bytes, rows of texts -/
/-- What an element of a slice of slices of bytes tells, in a world. -/
def IsBs (w : World) (cs : List Value) (y : List UInt8) : Prop := ∃ a n cap, cs = [.slice a n cap] ∧ Bs w a n cap y
def Bss (w : World) (a : Option Addr) (len cap : Nat) (l : List (List UInt8)) : Prop := TabR 1 (IsBs w) w a len cap l
theorem Bss.below {w w' : World} {a : Option Addr} {len cap : Nat} {l : List (List UInt8)} {B : Nat} (hB : w.heap.size ≤ B) (hb : Below B w w') (h : Bss w a len cap l) : Bss w' a len cap l :=
  (TabR.below hB hb h).mono fun _ _ ⟨a, n, c, e, h⟩ => ⟨a, n, c, e, h.below hB hb⟩
theorem Bss.at {w : World} {a : Option Addr} {len cap : Nat} {l : List (List UInt8)} (h : Bss w a len cap l) {k : Nat} (hk : k < len) :
    ∃ b off a' n' cap', a = some ⟨b, off, none⟩ ∧ b < w.heap.size ∧ w.cell? ⟨b, off + k, none⟩ = some (.slice a' n' cap') ∧ Bs w a' n' cap' (l[k]?.getD []) := by
  obtain ⟨b, off, y, cs, e1, e2, e3, _, ⟨a', n', cap', rfl, e5⟩, e6⟩ := TabR.at h hk
  refine ⟨b, off, a', n', cap', e1, e2, ?_, by rw [e3]; exact e5⟩
  have := e6 0 _ rfl
  simpa using this
def IsStr (cs : List Value) (y : List UInt8) : Prop := cs = [.string (strOf y)]
def Strs (w : World) (a : Option Addr) (len cap : Nat) (l : List (List UInt8)) : Prop := TabR 1 IsStr w a len cap l
theorem Strs.at {w : World} {a : Option Addr} {len cap : Nat} {l : List (List UInt8)} (h : Strs w a len cap l) {k : Nat} (hk : k < len) :
    ∃ b off, a = some ⟨b, off, none⟩ ∧ b < w.heap.size ∧ w.cell? ⟨b, off + k, none⟩ = some (.string (strOf (l[k]?.getD []))) := by
  obtain ⟨b, off, y, cs, e1, e2, e3, _, e5, e6⟩ := TabR.at h hk
  subst e5
  have := e6 0 _ rfl
  refine ⟨b, off, e1, e2, ?_⟩
  rw [e3]; simpa using this

set_option maxRecDepth 100000 in
set_option maxHeartbeats 1000000 in
theorem csize_any (a : Option Addr) (len cap : Nat) (l : List (List UInt8)) (w : World) (h : Bss w a len cap l) (hb : len + lens l ≤ 9223372036854775807) :
    Calls Tryd.prog 46 #[.slice a len cap] w fun e w' => e = .returned (.int .i64 ((len + lens l : Nat) : Int)) ∧ w = w' := by
  have hll := Lib.hid h.1
  have hm := h.2.2.1
  have hc := h.2.1
  unfold maxLen at hm
  go_enter Tryd.func46, Tryd.ntmps46
  go_wp2
  go_loop [3, 10] (fun s i => ∃ k : Nat, k ≤ len ∧ i = .int .i64 k ∧ s = .int .i64 ((len + lens (l.take k) : Nat) : Int)) (fun _ i => len - (intOf i).toNat)
  case atStart => exact ⟨0, Nat.zero_le _, rfl, by simp [lens]⟩
  case round =>
    obtain ⟨k, hk, rfl, rfl⟩ := hrel
    by_cases hlt : k < len
    · obtain ⟨b, off, a', n', cap', rfl, hbb, hcell, hbs⟩ := h.at hlt
      have hst := lens_take_succ l k (by rw [hll.out]; exact hlt)
      have hle := lens_take_le l (k + 1)
      rw [hbs.len] at hst
      have hst2 : len + lens (l.take (k + 1)) = len + lens (l.take k) + n' := by omega
      have hle2 : len + lens (l.take k) + n' ≤ 9223372036854775807 := by omega
      have H := Lib.hid hst2
      clear hst hst2 hle
      generalize len + lens (l.take k) = q at *
      go_wp2
      go_round
      case rel => exact ⟨k + 1, by omega, by go_num, by rw [H.out]; go_num⟩
      case measure => simp [intOf]; omega
    · obtain rfl : k = len := by omega
      have hx : l.take k = l := List.take_of_length_le (by rw [hll.out]; exact Nat.le_refl _)
      rw [hx]
      generalize hq : k + lens l = q at *
      have HQ := Lib.hid hq
      clear hq
      go_wp2
      go_ret
      exact ⟨ret_int (by have := HQ.out; omega), rfl⟩
end Go.Proofs.YtfidfbgplfjakaaDoor

/- The walks of the chapter on pages of cells: a page is packed. -/
namespace Go.Proofs.YtfidfbgplfjakaaDoor
open Go.RowKit

/-- A block of a page's bytes. -/
def Page (w : World) (g : Nat) (l : List UInt8) : Prop := w.heap[g]? = some (.cells ((toI l).map (Value.int .u8)).toArray 91 (0, 0))

theorem page_zero : ∃ Z : Array Value, Z = ((toI (List.replicate 128 (0 : UInt8))).map (Value.int .u8)).toArray ∧ ∀ w, (zeroValue 91).run Tryd.prog w = .ok (.agg Z) w :=
  ⟨_, rfl, fun w => by
    have h : (Tryd.prog.info? 91).map (·.zero) = some (some (.agg ((toI (List.replicate 128 (0 : UInt8))).map (Value.int .u8)).toArray)) := by kernel_rfl
    cases hq : Tryd.prog.info? 91 with
    | none => simp [hq] at h
    | some i =>
      have hz : i.zero = some (.agg ((toI (List.replicate 128 (0 : UInt8))).map (Value.int .u8)).toArray) := by simpa [hq] using h
      simp [zeroValue, typeInfo, hq, hz]⟩

theorem zero_cells : Tryd.zeroCells91 = ((toI (List.replicate 128 (0 : UInt8))).map (Value.int .u8)).toArray := by kernel_rfl
theorem Page.cell {w : World} {g : Nat} {l : List UInt8} (h : Page w g l) {i : Nat} (hi : i < l.length) : w.cell? ⟨g, i, none⟩ = some (.int .u8 ((l[i]?.getD 0).toNat : Int)) := by
  have e : (((toI l).map (Value.int .u8)).toArray)[i]? = some (.int .u8 ((l[i]?.getD 0).toNat : Int)) := by simp [toI, hi]
  simp only [World.cell?, show w.heap[g]? = _ from h]
  exact e
theorem Page.frozen {w : World} {g : Nat} {l : List UInt8} (h : Page w g l) (i : Nat) : w.frozen? ⟨g, i, none⟩ = false := by simp [World.frozen?, show w.heap[g]? = _ from h]
theorem Page.set {w : World} {g : Nat} {l : List UInt8} (h : Page w g l) (i : Nat) (n : Nat) (hn : n < 256) : Page (w.setCell ⟨g, i, none⟩ (.int .u8 (n : Int))) g (l.set i (UInt8.ofNat n)) := by
  have e1 := heap_setCell_at i (.int .u8 (n : Int)) h
  have e2 : (UInt8.ofNat n).toNat = n := by rw [UInt8.toNat_ofNat']; omega
  unfold Page
  rw [e1]
  simp [toI, List.map_set, e2]

theorem page_under : Tryd.prog.underlying 91 = some (.array (Tryd.prog.arrayLen 91) (Tryd.prog.elem 91)) := by kernel_rfl
theorem page_len : Tryd.prog.arrayLen 91 = 128 := by kernel_rfl
theorem page_size (w : World) : (sizeOf (Tryd.prog.elem 91)).run Tryd.prog w = .ok 1 w := by kernel_rfl
/-- The rest of a page from a place on. -/
theorem page_from (g e : Nat) (he : e ≤ 128) : ∃ a2 : Addr, (e < 128 → a2 = ⟨g, e, none⟩) ∧
    ∀ (k : IntKind) (w : World), (Instr.sliceAt 91 (.pointer (some ⟨g, 0, none⟩)) (some (.int k (e : Int))) none none).run Tryd.prog w = .ok (.slice (some a2) (128 - e) (128 - e)) w := by
  refine ⟨if 128 = e then ⟨g, 0, none⟩ else (⟨g, 0, none⟩ : Addr).add (e * 1), fun h => by rw [if_neg (by omega), add_none]; simp, fun k w => ?_⟩
  rw [run_sliceAt_array_l w _ _ page_under k e (by omega) (by rw [page_len]; omega), page_size, page_len]
  rfl
theorem page_all (g : Nat) (w : World) : (Instr.sliceAt 91 (.pointer (some ⟨g, 0, none⟩)) none none none).run Tryd.prog w = .ok (.slice (some ⟨g, 0, none⟩) 128 128) w := by
  rw [run_sliceAt_array_all w _ _ page_under, page_size, page_len]
  rfl
theorem Page.row {w : World} {g : Nat} {l : List UInt8} (h : Page w g l) (hl : l.length = 128) : Bs w (some ⟨g, 0, none⟩) 128 128 l :=
  ⟨by rw [toI_length, hl], Nat.le_refl _, by unfold maxLen; omega, (fun h => by cases h), .inr ⟨g, 0, rfl, (Array.getElem?_eq_some_iff.1 h).1, fun i hi => by rw [Nat.zero_add, h.cell (by omega), toI_get]⟩⟩
theorem Page.rest {w : World} {g e : Nat} {l : List UInt8} (h : Page w g l) (hl : l.length = 128) (he : e ≤ 128) {a2 : Addr} (ha : e < 128 → a2 = ⟨g, e, none⟩) : Bs w (some a2) (128 - e) (128 - e) (l.drop e) :=
  ⟨by rw [toI_length, List.length_drop, hl], Nat.le_refl _, by unfold maxLen; omega, (fun h => by cases h), by
    by_cases h0 : e < 128
    · obtain rfl := ha h0
      exact .inr ⟨g, e, rfl, (Array.getElem?_eq_some_iff.1 h).1, fun i hi => by rw [h.cell (by omega), toI_get, List.getElem?_drop]⟩
    · exact .inl (by omega)⟩

theorem splice_map {α β : Type} (f : α → β) (L : List α) (off : Nat) (cs : List α) : splice (L.map f) off (cs.map f) = (splice L off cs).map f := by simp [splice, List.map_take, List.map_drop]
theorem toI_splice (L : List UInt8) (off : Nat) (cs : List UInt8) : splice ((toI L).map (Value.int .u8)) off ((toI cs).map (Value.int .u8)) = (toI (splice L off cs)).map (Value.int .u8) := by
  rw [splice_map]; congr 1; exact splice_map _ _ _ _
/-- What is copied out of a row of bytes. -/
theorem Bs.source {w : World} {a : Option Addr} {n cap : Nat} {c : List UInt8} (h : Bs w a n cap c) (hpos : 0 < ((toI c).map (Value.int .u8)).length) :
    ∃ ad, a = some ad ∧ ∀ j v, ((toI c).map (Value.int .u8))[j]? = some v → w.cell? (ad.add j) = some v := by
  have hl := h.len
  have hp : 0 < n := by simpa [toI, hl] using hpos
  obtain ⟨b, off, e, _, hc⟩ := h.cell hp
  refine ⟨_, e, fun j v hj => ?_⟩
  have hjl : j < c.length := by
    have := (List.getElem?_eq_some_iff.1 hj).1
    simpa [toI] using this
  rw [add_none, hc j (by omega)]
  simp [toI, hjl] at hj ⊢
  exact hj
theorem one_cells (c : List UInt8) : ∀ v ∈ (toI c).map (Value.int .u8), v.oneCell' = true := fun v hv => by
  obtain ⟨y, _, rfl⟩ := List.mem_map.1 hv; rfl
theorem info_one : (Tryd.prog.info? 5).map (·.size) = some 1 := by kernel_rfl

/-- The sum is copied ahead of a page. -/
theorem copy_sum {w : World} {g n cap : Nat} {a : Option Addr} {raw s : List UInt8} (hp : Page w g raw) (hl : raw.length = 128) (h : Bs w a n cap s) (hn : 0 < n) (hn2 : n ≤ 128) :
    ∃ w4, (Builtin.copy_ #[31, 31] 3 #[.slice (some ⟨g, 0, none⟩) 128 128, .slice a n cap]).run Tryd.prog w = .ok (.int .i64 n) w4 ∧ Page w4 g (splice raw 0 s) ∧ ∀ B w0, Below B w0 w → B ≤ g → Below B w0 w4 := by
  have hsl := h.len
  have hlen : ((toI s).map (Value.int .u8)).length = n := by rw [List.length_map, toI_length, hsl]
  obtain ⟨ad, rfl, hsrc⟩ := h.source (by rw [hlen]; exact hn)
  have hr := run_copy_row (P := Tryd.prog) w 31 31 3 5 g 0 128 128 ad n cap _ _ ((toI s).map (Value.int .u8)) Tryd.underlying31 info_one hp
    (by rw [hlen]; exact (Nat.min_eq_left hn2).symm) hsrc (by rw [hlen, List.size_toArray, List.length_map, toI_length, hl]; omega) (one_cells s)
  rw [hlen] at hr
  refine ⟨_, hr, ?_, fun B w0 hb hB => below_setRow hb hB _⟩
  have h2 := setRow_heap w g _ ((((toI raw).map (Value.int .u8)).take 0 ++ (toI s).map (Value.int .u8) ++ ((toI raw).map (Value.int .u8)).drop (0 + n)).toArray) _ (0, 0) hp
  unfold Page
  rw [← toI_splice, splice, hlen, ← List.append_assoc]
  exact h2

/-- A page and no error; nothing that was there has turned. -/
def PackPost (w : World) (p : List UInt8) (e : Ending) (w' : World) : Prop :=
  ∃ v, e = .returned (.tuple #[v, .int .i64 0]) ∧ w'.ownsRow w.heap.size 5 1 v 128 ((toI p).map (Value.int .u8)) ∧ Below w.heap.size w w'

theorem pageOf_length (kind : UInt8) (l : List (List UInt8)) (h : l.length + lens l ≤ 122) : (pageOf kind l).length = 128 := by
  rw [pageOf, List.length_append, beBytes_length, bodyOf_length kind _ l h]

/-- Four bytes of a number: a row. -/
theorem num_four (x : Nat) (w : World) (hx : x < 18446744073709551616) :
    Calls Tryd.prog 30 #[.int .u64 x, .int .i64 4] w fun e w' => ∃ a cap, e = .returned (.slice a 4 cap) ∧ Bs w' a 4 cap (beBytes x 4) ∧ Below w.heap.size w w' := by
  refine (num_ok x 4 w hx (by omega) (by omega)).mono ?_
  rintro e w3 ⟨v, rfl, hown, hb3⟩
  rw [beBytes_length] at hown
  obtain ⟨a5, cap5, rfl, hbs5⟩ := Bs.of_own hown
  exact ⟨a5, cap5, rfl, hbs5, hb3⟩

theorem own_base {w : World} {base b0 : Nat} {e : TypeId} {size : Nat} {v : Value} {n : Nat} {xs : List Value} (h : w.ownsRow base e size v n xs) (hb : b0 ≤ base) : w.ownsRow b0 e size v n xs :=
  ⟨h.1, h.2.imp id fun ⟨g, cap, cur, e, hg, r⟩ => ⟨g, cap, cur, e, Nat.le_trans hb hg, r⟩⟩

set_option maxRecDepth 100000 in
set_option maxHeartbeats 1000000 in
theorem pack_ok (kind : UInt8) (a : Option Addr) (len cap : Nat) (l : List (List UInt8)) (w : World) (h : Bss w a len cap l) (hh : Half w) (hk : kind ≠ 0) (hfit : len + lens l ≤ 122) :
    Calls Tryd.prog 28 #[.int .u8 kind.toNat, .slice a len cap] w (PackPost w (pageOf kind l)) := by
  have hll := Lib.hid h.1
  have hk' : ((kind.toNat : Int) == 0) = false := by
    have : kind.toNat ≠ 0 := fun e => hk (UInt8.toNat_inj.1 e)
    simpa using this
  have hf2 : decide ((122 : Int) < (len : Int) + (lens l : Int)) = false := by simp; omega
  have hn8 : (len : Int) % 256 = (len : Int) := by omega
  have hk8 := kind.toNat_lt
  go_enter Tryd.func28, Tryd.ntmps28
  go_wp2_with fail
  refine (csize_any a len cap l w h (by omega)).mono ?_
  rintro e w' ⟨rfl, rfl⟩
  go_wp2_with fail
  have hp2 : Page (w.alloc (.cells ((Tryd.zeroCells91.setIfInBounds 4 (.int .u8 (kind.toNat : Int))).setIfInBounds 5 (.int .u8 (len : Int))) 91)) w.heap.size (rawOf kind len []) := by
    unfold Page
    rw [World.alloc_heap_new, rawOf_nil, zero_cells]
    have e4 : (UInt8.ofNat len).toNat = len := by rw [UInt8.toNat_ofNat']; omega
    simp only [toI, List.map_set, e4, List.setIfInBounds_toArray]
  have HP2 := Lib.hid hp2
  have hB2 := (Below.refl w.heap.size w).alloc (Nat.le_refl _) (.cells ((Tryd.zeroCells91.setIfInBounds 4 (.int .u8 (kind.toNat : Int))).setIfInBounds 5 (.int .u8 (len : Int))) 91)
  clear hp2
  generalize w.alloc (.cells ((Tryd.zeroCells91.setIfInBounds 4 (.int .u8 (kind.toNat : Int))).setIfInBounds 5 (.int .u8 (len : Int))) 91) = w2 at *
  go_loopw [7, 25] (fun e i wr => ∃ k : Nat, k ≤ len ∧ i = .int .i64 k ∧ e = .int .i64 ((128 - lens (l.take k) : Nat) : Int) ∧ Page wr w.heap.size (rawOf kind len (l.take k)) ∧ Below w.heap.size w wr) (fun _ i _ => len - (intOf i).toNat)
  case atStart => exact ⟨0, Nat.zero_le _, rfl, rfl, HP2.out, hB2⟩
  case round =>
    obtain ⟨k, hk, rfl, rfl, hp, hb⟩ := hrel
    by_cases hlt : k < len
    · obtain ⟨b, off, a', n', cap', rfl, hbb, hcell, hbs⟩ := (h.below (Nat.le_refl _) hb).at hlt
      have hm := lens_take_le l (k + 1)
      have hs := lens_take_succ l k (by rw [hll.out]; exact hlt)
      have hrl := rawOf_length kind len (l.take k) (by rw [List.length_take, hll.out]; have := lens_take_le l k; omega)
      have hst := raw_step kind len (l.take k) (l[k]?.getD []) (by rw [List.length_take, hll.out]; omega)
      rw [← take_snoc l k [] (by rw [hll.out]; exact hlt), List.length_take, hll.out, Nat.min_eq_left hk] at hst
      have hcl := hbs.len
      obtain ⟨c, hc⟩ : ∃ c, c = l[k]?.getD [] := ⟨_, rfl⟩
      rw [← hc] at hbs hst hs hcl
      obtain ⟨q, hq⟩ : ∃ q, q = 128 - lens (l.take k) := ⟨_, rfl⟩
      rw [← hq] at hst ⊢
      rw [hcl] at hst hs
      have HQ := Lib.hid hq
      have HC := Lib.hid hcl
      clear hc hq hcl
      have HST := Lib.hid hst
      have HRL := Lib.hid hrl
      have HM := Lib.hid hm
      have HS := Lib.hid hs
      have hsub : (q : Int) - (n' : Int) = ((q - n' : Nat) : Int) := by have := HQ.out; omega
      clear hst hrl hm hs
      have hqe : 6 ≤ q - n' ∧ q - n' < 9223372036854775808 ∧ q - n' ≤ 128 := by have := HQ.out; have := HM.out; have := HS.out; omega
      obtain ⟨e, he⟩ : ∃ e, e = q - n' := ⟨_, rfl⟩
      rw [← he] at hsub hqe HST
      obtain ⟨a2, ha2, hsl⟩ := page_from w.heap.size e hqe.2.2
      have HE := Lib.hid he
      have h256 : (e : Int) % 256 = (e : Int) := by omega
      clear he
      have hqn : e + n' ≤ 128 := by have := HQ.out; have := HM.out; have := HS.out; have := HE.out; omega
      have HP := Lib.hid hp
      have HMIN := Lib.hid (show ((toI c).map (Value.int .u8)).length = Nat.min n' (128 - e) by rw [List.length_map, toI_length, HC.out]; exact (Nat.min_eq_left (by omega)).symm)
      have HFIT := Lib.hid (show e + ((toI c).map (Value.int .u8)).length ≤ ((toI (rawOf kind len (l.take k))).map (Value.int .u8)).length by rw [List.length_map, toI_length, HC.out, List.length_map, toI_length, HRL.out]; exact hqn)
      have HPOS := Lib.hid (show 0 < ((toI c).map (Value.int .u8)).length → (some a2 : Option Addr) = some ⟨w.heap.size, e, none⟩ ∧ ∃ ad, a' = some ad ∧ ∀ j v, ((toI c).map (Value.int .u8))[j]? = some v → wr.cell? (ad.add j) = some v from fun hpos => ⟨congrArg some (ha2 (by rw [List.length_map, toI_length, HC.out] at hpos; omega)), hbs.source hpos⟩)
      clear hp
      go_wp2_with (refine wpList_copy_splice rfl _ _ 31 31 rfl 5 Tryd.underlying31 info_one (some a2) a' (128 - e) (128 - e) n' cap' rfl rfl w.heap.size e ((toI (rawOf kind len (l.take k))).map (Value.int .u8)) 91 HP.out ((toI c).map (Value.int .u8)) HMIN.out HPOS.out HFIT.out (one_cells c) w.heap.size w hb (Nat.le_refl _) ?_)
      intro w3 HG hB3
      have hg3 : Page w3 w.heap.size (splice (rawOf kind len (l.take k)) e c) := by
        have := HG.out; rw [toI_splice] at this; exact this
      clear HG
      have hlen3 : (splice (rawOf kind len (l.take k)) e c).length = 128 := by
        rw [length_splice _ _ _ (by rw [HRL.out, HC.out]; exact hqn), HRL.out]
      have hc6 := hg3.cell (i := 6 + k) (by rw [hlen3]; omega)
      have hf6 := hg3.frozen (6 + k)
      have hset := hg3.set (6 + k) e (by omega)
      rw [HST.out] at hset
      have HSET := Lib.hid hset
      have HB : Hid (Below w.heap.size w (w3.setCell ⟨w.heap.size, 6 + k, none⟩ (.int .u8 (e : Int)))) := Lib.hid (hB3.setCell (Nat.le_refl w.heap.size) _)
      clear hset hg3 hlen3
      go_wp2
      go_roundw
      case rel => exact ⟨k + 1, by omega, by go_num, by have := HQ.out; have := HE.out; have := HS.out; go_num, HSET.out, HB.out⟩
      case measure => simp [intOf]; omega
    · obtain rfl : k = len := by omega
      have hx : l.take k = l := List.take_of_length_le (by rw [hll.out]; exact Nat.le_refl _)
      rw [hx] at hp ⊢
      have hl := rawOf_length kind k l (by rw [hll.out]; exact hfit)
      have HW := hh.below (Nat.le_refl _) hb
      obtain ⟨a4, ha4, hs4'⟩ := page_from w.heap.size 4 (by omega)
      obtain rfl := ha4 (by omega)
      have hrow4 : Bs wr (some ⟨w.heap.size, 4, none⟩) 124 124 (bodyOf kind k l) := hp.rest hl (by omega) ha4
      have hsum := crcOn_lt 0 (bodyOf kind k l)
      have HPG := Lib.hid (show splice (rawOf kind k l) 0 (beBytes (crcOf (bodyOf kind k l)) 4) = pageOf kind l by rw [raw_sum _ _ _ _ (beBytes_length _ _), pageOf, hll.out])
      have HPL := Lib.hid (pageOf_length kind l (by rw [hll.out]; exact hfit))
      have hc := crcOf_any (some ⟨w.heap.size, 4, none⟩) 124 124 (bodyOf kind k l) wr.drew (hrow4.drewN 1) (show Half wr.drew from HW)
      change crcOf _ < _ at hsum
      generalize crcOf (bodyOf kind k l) = s at *
      have hw64 : (s : Int) % 18446744073709551616 = (s : Int) := by omega
      have hw64' : IntKind.u64.wrap (s : Int) = (s : Int) := by simp [IntKind.wrap, IntKind.signed, IntKind.bits]; omega
      have hn := num_four s wr.drew (by omega)
      have HP := Lib.hid (show Page wr.drew w.heap.size (rawOf kind k l) from hp)
      have HBB := Lib.hid (show Below w.heap.size w wr.drew from hb.drew)
      have HLT := Lib.hid (show w.heap.size < wr.drew.heap.size from (Array.getElem?_eq_some_iff.1 hp).1)
      clear hx hs4' hrow4 hh HW hp hb
      generalize 128 - lens l = e at *
      go_wp2_with fail
      go_region_with (first | (go_at_call 47; refine hc.mono ?_; rintro e w2 ⟨rfl, rfl⟩) | (go_at_call 30; refine hn.mono ?_; rintro e w3 ⟨a5, cap5, rfl, hbs5, hb3⟩; have hp3 : Page w3 w.heap.size (rawOf kind k l) := (hb3.block _ HLT.out).trans HP.out; obtain ⟨w4, hcp, hpg4, hB4⟩ := copy_sum hp3 hl hbs5 (by omega) (by omega)))
      all_goals
        have hB := hB4 _ _ (below_then HBB.out hb3) (Nat.le_refl _)
        rw [HPG.out] at hpg4
        have hrow := hpg4.row HPL.out
        have hz := hB.size
        go_wp2_with fail
        refine (bclone_any (some ⟨w.heap.size, 0, none⟩) 128 128 (pageOf kind l) w4 hrow (by omega)).mono ?_
        rintro e w5 ⟨v, rfl, hown, hb5⟩
        rw [HPL.out] at hown
        have hown := own_base hown hz
        go_wp2
        go_ret2
        exact ⟨v, rfl, hown, below_then hB hb5⟩

set_option maxRecDepth 100000 in
set_option maxHeartbeats 1000000 in
theorem pack_zero (a : Option Addr) (len cap : Nat) (w : World) :
    Calls Tryd.prog 28 #[.int .u8 0, .slice a len cap] w fun e w' => e = .returned (.tuple #[.slice none 0 0, .int .i64 1]) ∧ w = w' := by
  go_enter Tryd.func28, Tryd.ntmps28
  go_wp2
  go_ret2
  exact ⟨rfl, rfl⟩

set_option maxRecDepth 100000 in
set_option maxHeartbeats 1000000 in
theorem pack_big (kind : UInt8) (a : Option Addr) (len cap : Nat) (l : List (List UInt8)) (w : World) (h : Bss w a len cap l) (hk : kind ≠ 0) (hfit : 122 < len + lens l) (hb : len + lens l ≤ 9223372036854775807) :
    Calls Tryd.prog 28 #[.int .u8 kind.toNat, .slice a len cap] w fun e w' => e = .returned (.tuple #[.slice none 0 0, .int .i64 1]) ∧ w = w' := by
  have hk' : ((kind.toNat : Int) == 0) = false := by
    have : kind.toNat ≠ 0 := fun e => hk (UInt8.toNat_inj.1 e)
    simpa using this
  have hf2 : decide ((122 : Int) < (len : Int) + (lens l : Int)) = true := by simp; omega
  go_enter Tryd.func28, Tryd.ntmps28
  go_wp2_with fail
  refine (csize_any a len cap l w h hb).mono ?_
  rintro e w' ⟨rfl, rfl⟩
  go_wp2
  go_ret2
  exact ⟨rfl, rfl⟩

/-- May cells of a kind be a page? -/
def fits (kind : UInt8) (l : List (List UInt8)) : Bool := kind != 0 && decide (l.length + lens l ≤ 122)
/-- What 'Pack' hands back: a row of bytes, an error. -/
def packV (kind : UInt8) (l : List (List UInt8)) : List UInt8 := if fits kind l then pageOf kind l else []
def packE (kind : UInt8) (l : List (List UInt8)) : Int := if fits kind l then 0 else 1
def PackAny (w : World) (p : List UInt8) (er : Int) (e : Ending) (w' : World) : Prop :=
  ∃ v, e = .returned (.tuple #[v, .int .i64 er]) ∧ w'.ownsRow w.heap.size 5 1 v p.length ((toI p).map (Value.int .u8)) ∧ Below w.heap.size w w'

theorem pack_any (kind : UInt8) (a : Option Addr) (len cap : Nat) (l : List (List UInt8)) (w : World) (h : Bss w a len cap l) (hh : Half w) (hb : len + lens l ≤ 9223372036854775807) :
    Calls Tryd.prog 28 #[.int .u8 kind.toNat, .slice a len cap] w (PackAny w (packV kind l) (packE kind l)) := by
  have hl := h.1
  by_cases hk : kind = 0
  · subst hk
    refine (pack_zero a len cap w).mono ?_
    rintro e w' ⟨rfl, rfl⟩
    exact ⟨_, rfl, ⟨rfl, .inl ⟨rfl, rfl⟩⟩, Below.refl _ _⟩
  · by_cases hf : len + lens l ≤ 122
    · have hfit : fits kind l = true := by simp [fits, hk, hl, hf]
      refine (pack_ok kind a len cap l w h hh hk hf).mono ?_
      rintro e w' ⟨v, rfl, hown, hbw⟩
      refine ⟨v, by rw [packE, if_pos hfit], ?_, hbw⟩
      rw [packV, if_pos hfit, pageOf_length kind l (by omega)]
      exact hown
    · have hfit : fits kind l = false := by simp [fits, hl]; omega
      refine (pack_big kind a len cap l w h hk (by omega) hb).mono ?_
      rintro e w' ⟨rfl, rfl⟩
      refine ⟨_, by rw [packE, hfit]; rfl, ?_, Below.refl _ _⟩
      rw [packV, hfit]
      exact ⟨rfl, .inl ⟨rfl, rfl⟩⟩
end Go.Proofs.YtfidfbgplfjakaaDoor

/- The walks of the chapter on pages of cells: the document's sizes and pages. -/
namespace Go.Proofs.YtfidfbgplfjakaaDoor
open Go.RowKit

theorem Strs.len {w : World} {a : Option Addr} {len cap : Nat} {l : List (List UInt8)} (h : Strs w a len cap l) : l.length = len := h.1
theorem Strs.below {w w' : World} {a : Option Addr} {len cap : Nat} {l : List (List UInt8)} {B : Nat} (hB : w.heap.size ≤ B) (hb : Below B w w') (h : Strs w a len cap l) : Strs w' a len cap l := TabR.below hB hb h

set_option maxRecDepth 100000 in
set_option maxHeartbeats 1000000 in
theorem rsize_any (a : Option Addr) (len cap : Nat) (l : List (List UInt8)) (w : World) (h : Strs w a len cap l) (hb : len + lens l ≤ 9223372036854775807) :
    Calls Tryd.prog 50 #[.slice a len cap] w fun e w' => e = .returned (.int .i64 ((len + lens l : Nat) : Int)) ∧ w = w' := by
  have hll := Lib.hid h.1
  have hm := h.2.2.1
  have hc := h.2.1
  unfold maxLen at hm
  go_enter Tryd.func50, Tryd.ntmps50
  go_wp2
  go_loop [3, 4] (fun s i => ∃ k : Nat, k ≤ len ∧ i = .int .i64 k ∧ s = .int .i64 ((k + lens (l.take k) : Nat) : Int)) (fun _ i => len - (intOf i).toNat)
  case atStart => exact ⟨0, Nat.zero_le _, rfl, by simp [lens]⟩
  case round =>
    obtain ⟨k, hk, rfl, rfl⟩ := hrel
    by_cases hlt : k < len
    · obtain ⟨b, off, rfl, hbb, hcell⟩ := h.at hlt
      have hst := lens_take_succ l k (by rw [hll.out]; exact hlt)
      have hle := lens_take_le l (k + 1)
      have hsz := strOf_size (l[k]?.getD [])
      generalize l[k]?.getD [] = c at *
      have hst2 : k + 1 + lens (l.take (k + 1)) = k + lens (l.take k) + (c.length + 1) := by omega
      have hle2 : k + lens (l.take k) + (c.length + 1) ≤ 9223372036854775807 := by omega
      have H := Lib.hid hst2
      clear hst hst2 hle
      generalize k + lens (l.take k) = q at *
      go_wp2
      go_round
      case rel => exact ⟨k + 1, by omega, by go_num, by rw [H.out]; go_num⟩
      case measure => simp [intOf]; omega
    · obtain rfl : k = len := by omega
      have hx : l.take k = l := List.take_of_length_le (by rw [hll.out]; exact Nat.le_refl _)
      rw [hx]
      generalize hq : k + lens l = q at *
      have HQ := Lib.hid hq
      clear hq
      go_wp2
      go_ret
      exact ⟨ret_int (by have := HQ.out; omega), rfl⟩

/-- A page as a text, an error. -/
def StrPost (w : World) (p : List UInt8) (er : Int) (e : Ending) (w' : World) : Prop := e = .returned (.tuple #[.string (strOf p), .int .i64 er]) ∧ Below w.heap.size w w'

theorem conv_nat {P : Program} {W : World} {src e dst t : TypeId} (hs : P.underlying src = some (.slice e)) (he : P.underlying e = some (.int .u8)) (hd : P.underlying dst = some .string) (n : Nat) (hn : n < 256) :
    (convert src dst (.slice (some ⟨W.heap.size, 0, none⟩) 1 1)).run P (W.alloc (.cells #[.int .u8 (n : Int)] t)) = .ok (.string (strOf [UInt8.ofNat n])) (W.alloc (.cells #[.int .u8 (n : Int)] t)) := by
  have h := conv_one (W := W) (t := t) hs he hd (UInt8.ofNat n)
  have e2 : (UInt8.ofNat n).toNat = n := by rw [UInt8.toNat_ofNat']; omega
  rw [e2] at h; exact h
theorem conv_two {P : Program} {W : World} {src e dst t : TypeId} (hs : P.underlying src = some (.slice e)) (he : P.underlying e = some (.int .u8)) (hd : P.underlying dst = some .string) (b : UInt8) (n : Nat) (hn : n < 256) :
    (convert src dst (.slice (some ⟨W.heap.size, 0, none⟩) 2 2)).run P (W.alloc (.cells #[.int .u8 (b.toNat : Int), .int .u8 (n : Int)] t)) = .ok (.string (strOf [b, UInt8.ofNat n])) (W.alloc (.cells #[.int .u8 (b.toNat : Int), .int .u8 (n : Int)] t)) := by
  have e2 : (UInt8.ofNat n).toNat = n := by rw [UInt8.toNat_ofNat']; omega
  have h := conv_string hs he hd (show Bs _ _ _ _ [b, UInt8.ofNat n] from Row.made .u8 W t [(b.toNat : Int), ((UInt8.ofNat n).toNat : Int)] rfl (by unfold maxLen; simp))
  rw [e2] at h; exact h

set_option maxRecDepth 100000 in
set_option maxHeartbeats 1000000 in
theorem rpack_ok (kind : UInt8) (a : Option Addr) (len cap : Nat) (l : List (List UInt8)) (w : World) (h : Strs w a len cap l) (hk : kind ≠ 0) (hfit : len + lens l ≤ 122) :
    Calls Tryd.prog 32 #[.int .u8 kind.toNat, .slice a len cap] w (StrPost w (pageOf kind l) 0) := by
  have hll := Lib.hid h.1
  have hk' : ((kind.toNat : Int) == 0) = false := by
    have : kind.toNat ≠ 0 := fun e => hk (UInt8.toNat_inj.1 e)
    simpa using this
  have hf2 : decide ((122 : Int) < (len : Int) + (lens l : Int)) = false := by simp; omega
  have hn8 : (len : Int) % 256 = (len : Int) := by omega
  go_enter Tryd.func32, Tryd.ntmps32
  go_wp2_with fail
  refine (rsize_any a len cap l w h (by omega)).mono ?_
  rintro e w' ⟨rfl, rfl⟩
  go_wp2
  go_loopw [6, 7, 8] (fun s b i wr => ∃ k : Nat, k ≤ len ∧ i = .int .i64 k ∧ s = .string (strOf (slotsOf 128 (l.take k))) ∧ b = .string (strOf (backOf (l.take k))) ∧ Below w.heap.size w wr) (fun _ _ i _ => len - (intOf i).toNat)
  case atStart => exact ⟨0, Nat.zero_le _, rfl, rfl, rfl, Below.refl _ _⟩
  case round =>
    obtain ⟨k, hk, rfl, rfl, rfl, hb⟩ := hrel
    by_cases hlt : k < len
    · obtain ⟨b, off, rfl, hbb, hcell⟩ := (h.below (Nat.le_refl _) hb).at hlt
      have hm := lens_take_le l (k + 1)
      have hs := lens_take_succ l k (by rw [hll.out]; exact hlt)
      have hts := take_snoc l k [] (by rw [hll.out]; exact hlt)
      have hbk : backOf (l.take (k + 1)) = l[k]?.getD [] ++ backOf (l.take k) := by rw [hts, backOf_append, backOf_one]
      have hsl : slotsOf 128 (l.take (k + 1)) = slotsOf 128 (l.take k) ++ [UInt8.ofNat (128 - lens (l.take (k + 1)))] := by
        rw [hs, hts, slotsOf_append]; simp [slotsOf, Nat.sub_sub]
      have hbl := backOf_length (l.take (k + 1))
      have hbl0 := backOf_length (l.take k)
      have hsl0 := slotsOf_length (l.take k) 128
      rw [List.length_take] at hsl0
      obtain ⟨e, he⟩ : ∃ e, e = 128 - lens (l.take (k + 1)) := ⟨_, rfl⟩
      rw [← he] at hsl
      have he8 : (128 : Int) - (lens (l.take (k + 1)) : Int) = (e : Int) := by omega
      have he6 : e ≤ 128 := by omega
      have h256 : (e : Int) % 256 = (e : Int) := by omega
      have hm1 : lens (l.take (k + 1)) ≤ 122 := by omega
      generalize l[k]?.getD [] = c at *
      generalize backOf (l.take k) = bk at *
      generalize hbe : backOf (l.take (k + 1)) = bk1 at *
      generalize slotsOf 128 (l.take k) = sl at *
      generalize hse : slotsOf 128 (l.take (k + 1)) = sl1 at *
      have HBE := Lib.hid hbe
      have HSE := Lib.hid hse
      clear hbe hse
      have hcl : c.length + bk.length ≤ 122 := by omega
      have hsz1 : (strOf bk1).size = lens (l.take (k + 1)) := by rw [strOf_size]; exact hbl
      have hap := strOf_append c bk
      rw [← hbk] at hap
      have hbnd : (strOf c).size + (strOf bk).size ≤ 9223372036854775807 := by rw [strOf_size, strOf_size]; omega
      have hap2 := strOf_append sl [UInt8.ofNat e]
      rw [← hsl] at hap2
      have hbnd2 : (strOf sl).size + (strOf [UInt8.ofNat e]).size ≤ 9223372036854775807 := by rw [strOf_size, strOf_size]; simp; omega
      have hcv := conv_nat (W := wr) (t := 5) Tryd.underlying31 Tryd.underlying5 Tryd.underlying9 e (by omega)
      have HB := Lib.hid (hb.alloc hb.size (.cells #[.int .u8 (e : Int)] 5))
      clear hs hts hbk hsl hbl hbl0 hsl0 he hm hb
      generalize lens (l.take (k + 1)) = q at *
      generalize UInt8.ofNat e = ub at *
      go_wp2
      go_roundw
      case rel => exact ⟨k + 1, by omega, by go_num, by rw [HSE.out], by rw [HBE.out], HB.out⟩
      case measure => simp [intOf]; omega
    · obtain rfl : k = len := by omega
      have hx : l.take k = l := List.take_of_length_le (by rw [hll.out]; exact Nat.le_refl _)
      rw [hx]
      have hsl := slotsOf_length l 128
      have hbl := backOf_length l
      rw [hll.out] at hsl
      have HPG := Lib.hid (show pageOf kind l = beBytes (crcOf (bodyOf kind k l)) 4 ++ bodyOf kind k l by rw [pageOf, hll.out])
      have hbody : bodyOf kind k l = [kind, UInt8.ofNat k] ++ slotsOf 128 l ++ (List.replicate (122 - k - lens l) 0 ++ backOf l) := by rw [bodyOf, hll.out]; simp
      have hlb := bodyOf_length kind k l (by rw [hll.out]; exact hfit)
      generalize bodyOf kind k l = bd at *
      generalize slotsOf 128 l = sl at *
      generalize backOf l = bk at *
      obtain ⟨z, hz⟩ : ∃ z, z = 122 - k - lens l := ⟨_, rfl⟩
      rw [← hz] at hbody
      obtain ⟨hd, hhd⟩ : ∃ hd, hd = [kind, UInt8.ofNat k] ++ sl := ⟨_, rfl⟩
      rw [← hhd] at hbody
      have hap1 := strOf_append [kind, UInt8.ofNat k] sl
      rw [← hhd] at hap1
      have hap2 := strOf_append (List.replicate z 0) bk
      obtain ⟨zb, hzb⟩ : ∃ zb, zb = List.replicate z 0 ++ bk := ⟨_, rfl⟩
      rw [← hzb] at hbody hap2
      have hap3 := strOf_append hd zb
      rw [← hbody] at hap3
      have hcv := conv_two (W := wr) (t := 5) Tryd.underlying31 Tryd.underlying5 Tryd.underlying9 kind k (by omega)
      obtain ⟨s1, hs1, hs1'⟩ : ∃ s1, (strOf hd).size = s1 ∧ s1 = 2 + k := ⟨_, rfl, by rw [strOf_size, hhd]; simp [hsl]; omega⟩
      obtain ⟨s2, hs2, hs2'⟩ : ∃ s2, (strOf bk).size = s2 ∧ s2 = lens l := ⟨_, rfl, by rw [strOf_size]; exact hbl⟩
      have hz2 : (124 : Int) - (s1 : Int) - (s2 : Int) = (z : Int) := by omega
      have hz3 : z ≤ 122 := by omega
      have hs12 : s1 ≤ 124 ∧ s2 ≤ 122 := by omega
      have hbn1 : (strOf [kind, UInt8.ofNat k]).size + (strOf sl).size ≤ 9223372036854775807 := by rw [strOf_size, strOf_size]; simp; omega
      have hbn2 : (strOf (List.replicate z (0 : UInt8))).size + (strOf bk).size ≤ 9223372036854775807 := by rw [strOf_size, hs2]; simp; omega
      have hbn3 : (strOf hd).size + (strOf zb).size ≤ 9223372036854775807 := by rw [hs1, strOf_size, hzb]; simp; omega
      obtain ⟨rz, hrz⟩ : ∃ rz, rz = List.replicate z (0 : UInt8) := ⟨_, rfl⟩
      rw [← hrz] at hap2 hbn2
      have HRZ := Lib.hid hrz
      have HLB := Lib.hid hlb
      obtain ⟨i0, hi, hz0, hz1, hz2'⟩ := info_parts info_u8
      have hB2 := hb.alloc hb.size (.cells #[.int .u8 (kind.toNat : Int), .int .u8 (k : Int)] 5)
      have HSZ := Lib.hid hb.size
      generalize hU : UInt8.ofNat k = ub at *
      clear hU hhd hzb hbody hx hz hlb hrz hsl hbl hs1' hs2'
      go_wp2_with (at_make; refine wpList_make_full _ rfl _ _ 31 rfl w.heap.size 5 i0 _ 1 Tryd.underlying31 hi hz0 hz1 .i64 .i64 _ _ z rfl rfl rfl rfl (by rw [hz2']; omega) (by unfold maxLen; omega) (by have := HSZ.out; simp; omega) ?_)
      intro w2 hown hg
      have hown' : w2.ownsRow w.heap.size 5 1 (.slice (some ⟨wr.heap.size + 1, 0, none⟩) z z) z ((toI rz).map (Value.int .u8)) := by
        simp only [made_list] at hown
        rw [HRZ.out]; simpa [toI] using hown
      have hcv2 := conv_string Tryd.underlying31 Tryd.underlying5 Tryd.underlying9 (Bs.own hown')
      have HB3 := Lib.hid (hB2.grown hg (by have := HSZ.out; simp; omega) (fun k e => by cases e))
      clear hown hown' hg hcv
      have hbl : bd.length ≤ 9223372036854775807 := by rw [HLB.out]; omega
      go_wp2_with fail
      refine (refOf_any bd w2 hbl).mono ?_
      rintro e w3 ⟨rfl, rfl⟩
      have hsum := crcOn_lt 0 bd
      change crcOf bd < _ at hsum
      generalize hS : crcOf bd = s at *
      have HS := Lib.hid hS
      clear hS
      have hw64 : (s : Int) % 18446744073709551616 = (s : Int) := by omega
      go_wp2_with fail
      refine (refNum_ok s 4 w2 (by omega) (by omega) (by omega)).mono ?_
      rintro e w4 ⟨rfl, hb4⟩
      have hap4 := strOf_append (beBytes s 4) bd
      have hbn4 : (strOf (beBytes s 4)).size + (strOf bd).size ≤ 9223372036854775807 := by rw [strOf_size, strOf_size, beBytes_length, HLB.out]; omega
      have HPG2 := Lib.hid (show pageOf kind l = beBytes s 4 ++ bd from HPG.out)
      generalize beBytes s 4 = s4 at *
      generalize s4 ++ bd = pg at *
      go_wp2
      go_ret2
      exact ⟨by rw [HPG2.out]; rfl, below_then HB3.out hb4⟩

set_option maxRecDepth 100000 in
set_option maxHeartbeats 1000000 in
theorem rpack_zero (a : Option Addr) (len cap : Nat) (w : World) :
    Calls Tryd.prog 32 #[.int .u8 0, .slice a len cap] w fun e w' => e = .returned (.tuple #[.string (strOf []), .int .i64 1]) ∧ w = w' := by
  go_enter Tryd.func32, Tryd.ntmps32
  go_wp2
  go_ret2
  exact ⟨rfl, rfl⟩

set_option maxRecDepth 100000 in
set_option maxHeartbeats 1000000 in
theorem rpack_big (kind : UInt8) (a : Option Addr) (len cap : Nat) (l : List (List UInt8)) (w : World) (h : Strs w a len cap l) (hk : kind ≠ 0) (hfit : 122 < len + lens l) (hb : len + lens l ≤ 9223372036854775807) :
    Calls Tryd.prog 32 #[.int .u8 kind.toNat, .slice a len cap] w fun e w' => e = .returned (.tuple #[.string (strOf []), .int .i64 1]) ∧ w = w' := by
  have hk' : ((kind.toNat : Int) == 0) = false := by
    have : kind.toNat ≠ 0 := fun e => hk (UInt8.toNat_inj.1 e)
    simpa using this
  have hf2 : decide ((122 : Int) < (len : Int) + (lens l : Int)) = true := by simp; omega
  go_enter Tryd.func32, Tryd.ntmps32
  go_wp2_with fail
  refine (rsize_any a len cap l w h hb).mono ?_
  rintro e w' ⟨rfl, rfl⟩
  go_wp2
  go_ret2
  exact ⟨rfl, rfl⟩

theorem rpack_any (kind : UInt8) (a : Option Addr) (len cap : Nat) (l : List (List UInt8)) (w : World) (h : Strs w a len cap l) (hb : len + lens l ≤ 9223372036854775807) :
    Calls Tryd.prog 32 #[.int .u8 kind.toNat, .slice a len cap] w (StrPost w (packV kind l) (packE kind l)) := by
  have hl := h.1
  by_cases hk : kind = 0
  · subst hk
    refine (rpack_zero a len cap w).mono ?_
    rintro e w' ⟨rfl, rfl⟩
    exact ⟨rfl, Below.refl _ _⟩
  · by_cases hf : len + lens l ≤ 122
    · have hfit : fits kind l = true := by simp [fits, hk, hl, hf]
      rw [packV, packE, if_pos hfit, if_pos hfit]
      exact rpack_ok kind a len cap l w h hk hf
    · have hfit : fits kind l = false := by simp [fits, hl]; omega
      rw [packV, packE, hfit]
      refine (rpack_big kind a len cap l w h hk (by omega) hb).mono ?_
      rintro e w' ⟨rfl, rfl⟩
      exact ⟨rfl, Below.refl _ _⟩
end Go.Proofs.YtfidfbgplfjakaaDoor

/- The walks of the chapter on pages of cells: texts of cells, rows of texts. -/
namespace Go.Proofs.YtfidfbgplfjakaaDoor
open Go.RowKit

/-- 'append(out, x)': a row of the call's own gets one element more. -/
theorem wpList_append_one {P : Program} {w : World} {ops : Array Oper} {rest : List Oper} {o : Oper} {act : Act} {Q : Exit → Act → World → Prop} (hgd : o.guard = none) (s x : Operand) (t : TypeId)
    (ho : o.op = .call { callee := .builtin .append, args := #[s, x], argTypes := #[t, t] })
    (base : Nat) (e : TypeId) (i : TypeInfo) (z : Value) (bytes : Nat) (ht : P.underlying t = some (.slice e)) (hi : P.info? e = some i) (hz : i.zero = some z)
    (hsize : i.size = 1) (hby : i.bytes = bytes) (hzs : z.cells.size = 1)
    (v : Value) (n : Nat) (xs : List Value) (hs : act.eval s = v) (hown : w.ownsRow base e 1 v n xs)
    (b : Nat) (hx : act.eval x = .slice (some ⟨b, 0, none⟩) 1 1) (u : Value) (hu : w.cell? ⟨b, 0, none⟩ = some u) (h1 : u.oneCell' = true)
    (h63 : n + 1 ≤ maxLen) (hbytes : (n + 1) * bytes ≤ 140737488355328) (hbase : base ≤ w.heap.size)
    (h : ∀ v' w', w'.ownsRow base e 1 v' (n + 1) (xs ++ [u]) → w.grownBy w' v.ownBlock → wpList P ops Q rest (act.put o.dst v') w') : wpList P ops Q (o :: rest) act w := by
  refine wpList_append_own w hgd s x t ho base e i z 1 bytes ht hi hz hsize hby hzs (by decide) v n xs hs hown ⟨b, 0, none⟩ 1 1 [u] hx rfl ?_ (fun y hy => by
      obtain rfl := List.mem_singleton.1 hy; exact h1) h63 hbytes hbase fun v' w' h5 h6 _ => h v' w' h5 h6
  intro j y hj
  match j, hj with
  | 0, hj => cases hj; simpa [Addr.add] using hu
  | j + 1, hj => simp at hj

/-- The value that a text is. -/
def sv (c : List UInt8) : Value := .string (strOf c)
/-- The call hands back a row of texts of its own; nothing that was there has turned. -/
def OwnStrs (w : World) (l : List (List UInt8)) (e : Ending) (w' : World) : Prop :=
  ∃ v, e = .returned v ∧ w'.ownsRow w.heap.size 9 1 v l.length (l.map sv) ∧ Below w.heap.size w w'

theorem Strs.of_own {w : World} {base : Nat} {v : Value} {n : Nat} {l : List (List UInt8)} (h : w.ownsRow base 9 1 v n (l.map sv)) :
    ∃ a cap, v = .slice a n cap ∧ Strs w a n cap l := by
  obtain ⟨h1, h2⟩ := h
  simp only [List.length_map, Nat.mul_one] at h1
  rcases h2 with ⟨rfl, rfl⟩ | ⟨g, cap, cur, rfl, hb, hg, hn, hm, hc, ht⟩
  · exact ⟨none, 0, rfl, h1, Nat.le_refl _, by unfold maxLen; omega, fun _ => rfl, .inl rfl⟩
  · refine ⟨_, cap, rfl, h1, hn, hm, (fun h => by cases h), .inr ⟨g, 0, rfl, (Array.getElem?_eq_some_iff.1 hg).1, fun i y hy => ⟨[sv y], rfl, rfl, fun j u hu => ?_⟩⟩⟩
    have hi := (List.getElem?_eq_some_iff.1 hy).1
    match j, hu with
    | 0, hu =>
      cases hu
      simp only [World.cell?, hg, Nat.zero_add, Nat.mul_one, Nat.add_zero]
      have e : (cur.toList.take (n * 1))[i]? = cur.toList[i]? := List.getElem?_take_of_lt (by omega)
      rw [ht] at e
      rw [← Array.getElem?_toList, ← e]
      simp [hy]
    | j + 1, hu => simp at hu

theorem info_str : (Tryd.prog.info? 9).map (fun i => (i.zero, i.size, i.bytes)) = some (some (.string ByteArray.empty), 1, 16) := by kernel_rfl

/-- Few and short cells. -/
def smallF (l : List (List UInt8)) : Bool := decide (l.length ≤ 300) && l.all fun c => decide (c.length ≤ 300)
theorem small_lens (l : List (List UInt8)) (h : l.all (fun c => decide (c.length ≤ 300)) = true) : lens l ≤ l.length * 300 := by
  induction l with
  | nil => simp [lens]
  | cons c r ih =>
    simp only [List.all_cons, Bool.and_eq_true, decide_eq_true_eq] at h
    have := ih h.2
    simp only [lens, List.map_cons, List.sum_cons, List.length_cons] at this ⊢
    omega
theorem smallF_true {l : List (List UInt8)} (h : smallF l = true) : l.length ≤ 300 ∧ lens l ≤ 90000 := by
  simp only [smallF, Bool.and_eq_true, decide_eq_true_eq] at h
  have := small_lens l h.2
  exact ⟨h.1, by omega⟩

end Go.Proofs.YtfidfbgplfjakaaDoor
