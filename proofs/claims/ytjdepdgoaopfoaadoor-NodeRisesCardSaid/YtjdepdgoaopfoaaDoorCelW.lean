/- The walks of the chapter on pages of cells. -/
import Derived.Test.YtjdepdgoaopfoaaDoorCrcW
import Derived.Test.YtjdepdgoaopfoaaDoorCelSpec
import Derived.Test.YtjdepdgoaopfoaaDoorOctT
import Derived.Test.YtjdepdgoaopfoaaDoorRec
namespace Go.Proofs.YtjdepdgoaopfoaaDoor
open Go.RowKit

set_option maxRecDepth 100000 in
set_option maxHeartbeats 1000000 in
theorem equal_any (a : Option Addr) (n cap : Nat) (l : List UInt8) (b : Option Addr) (m cap2 : Nat) (r : List UInt8) (w : World) (h1 : Bs w a n cap l) (h2 : Bs w b m cap2 r) :
    Calls Tryd.prog 74 #[.slice a n cap, .slice b m cap2] w fun e w' => e = .returned (.bool (l == r)) ∧ w = w' := by
  have c1 := conv_string Tryd.underlying26 Tryd.underlying5 Tryd.underlying9 h1
  have c2 := conv_string Tryd.underlying26 Tryd.underlying5 Tryd.underlying9 h2
  have hst := strOf_toList
  go_enter Tryd.func74, Tryd.ntmps74
  go_wp2
  go_ret
  exact ⟨rfl, rfl⟩

set_option maxRecDepth 100000 in
set_option maxHeartbeats 1000000 in
theorem bclone_any (a : Option Addr) (len cap : Nat) (l : List UInt8) (w : World) (h : Bs w a len cap l) (hreach : len ≤ 140737488351232) :
    Calls Tryd.prog 66 #[.slice a len cap] w (OwnBytes 5 w l) := by
  obtain ⟨i0, hi, hz0, hz1, hz2⟩ := info_parts info_u8
  have hll := Lib.hid h.len
  cases a with
  | none =>
    have hc := h.2.2.2.1 rfl
    have h0 : len = 0 := by have := h.2.1; omega
    subst hc h0
    have hl0 : l = [] := List.eq_nil_of_length_eq_zero h.len
    have HL := Lib.hid hl0
    clear hl0
    have hq : ∀ W : World, (binOp .eql 26 (.slice none 0 0) (.slice none 0 0)).run Tryd.prog W = .ok (.bool true) W := fun W => Lib.run_eql_slice_nil W _ _ none 0 0 0 0 Tryd.underlying26
    go_enter Tryd.func66, Tryd.ntmps66
    go_wp2
    go_ret
    exact ⟨_, rfl, by rw [HL.out]; exact ⟨rfl, .inl ⟨rfl, rfl⟩⟩, Below.refl _ _⟩
  | some x =>
    have hm := h.cap.2
    unfold maxLen at hm
    have hq : ∀ W : World, (binOp .eql 26 (.slice (some x) len cap) (.slice none 0 0)).run Tryd.prog W = .ok (.bool false) W := fun W => Lib.run_eql_slice_nil W _ _ (some x) len cap 0 0 Tryd.underlying26
    go_enter Tryd.func66, Tryd.ntmps66
    go_wp2_with (at_builtin; refine wpList_append_row rfl _ _ 26 rfl w.heap.size 5 i0 _ 1 Tryd.underlying26 hi hz0 hz1 hz2 rfl _ 0 [] rfl (own_made .u8 w 5 [] rfl (Nat.le_refl _) (by unfold maxLen; simp)) .u8 (some x) len cap (toI l) rfl (h.below (Nat.le_refl _) ((Below.refl _ _).alloc (Nat.le_refl _) _)) (by unfold maxLen; omega) (by omega) (by simp) ?_)
    intro v2 w2 hown hg
    have hB := ((Below.refl w.heap.size w).alloc (Nat.le_refl _) (.cells #[] 5)).grown hg (by simp) (fun k e => by cases e; exact Nat.le_refl _)
    clear hg
    have hown' : w2.ownsRow w.heap.size 5 1 v2 l.length ((toI l).map (Value.int .u8)) := by
      rw [hll.out]; simpa using hown
    clear hown
    go_wp2
    go_ret
    exact ⟨_, rfl, hown', hB⟩

/-! rows of rows of bytes, rows of texts -/
/-- What an element of a slice of slices of bytes tells, in a world. -/
def IsBs (w : World) (cs : List Value) (y : List UInt8) : Prop := ∃ a n cap, cs = [.slice a n cap] ∧ Bs w a n cap y
def Bss (w : World) (a : Option Addr) (len cap : Nat) (l : List (List UInt8)) : Prop := TabR 1 (IsBs w) w a len cap l
theorem Bss.below {w w' : World} {a : Option Addr} {len cap : Nat} {l : List (List UInt8)} {B : Nat} (hB : w.heap.size ≤ B) (hb : Below B w w') (h : Bss w a len cap l) : Bss w' a len cap l :=
  (TabR.below hB hb h).mono fun _ _ ⟨a, n, c, e, h⟩ => ⟨a, n, c, e, h.below hB hb⟩
theorem Bss.at {w : World} {a : Option Addr} {len cap : Nat} {l : List (List UInt8)} (h : Bss w a len cap l) {k : Nat} (hk : k < len) :
    ∃ b off a' n' cap', a = some ⟨b, off, none⟩ ∧ b < w.heap.size ∧ w.cell? ⟨b, off + k, none⟩ = some (.slice a' n' cap') ∧ Bs w a' n' cap' (l[k]?.getD []) := by
  obtain ⟨b, off, y, cs, e1, e2, e3, _, ⟨a', n', cap', rfl, e5⟩, e6⟩ := TabR.at h hk
  refine ⟨b, off, a', n', cap', e1, e2, ?_, by rw [e3]; exact e5⟩
  have := e6 0 _ rfl
  simpa using this
def IsStr (cs : List Value) (y : List UInt8) : Prop := cs = [.string (strOf y)]
def Strs (w : World) (a : Option Addr) (len cap : Nat) (l : List (List UInt8)) : Prop := TabR 1 IsStr w a len cap l
theorem Strs.at {w : World} {a : Option Addr} {len cap : Nat} {l : List (List UInt8)} (h : Strs w a len cap l) {k : Nat} (hk : k < len) :
    ∃ b off, a = some ⟨b, off, none⟩ ∧ b < w.heap.size ∧ w.cell? ⟨b, off + k, none⟩ = some (.string (strOf (l[k]?.getD []))) := by
  obtain ⟨b, off, y, cs, e1, e2, e3, _, e5, e6⟩ := TabR.at h hk
  subst e5
  have := e6 0 _ rfl
  refine ⟨b, off, e1, e2, ?_⟩
  rw [e3]; simpa using this

set_option maxRecDepth 100000 in
set_option maxHeartbeats 1000000 in
theorem csize_any (a : Option Addr) (len cap : Nat) (l : List (List UInt8)) (w : World) (h : Bss w a len cap l) (hb : len + lens l ≤ 9223372036854775807) :
    Calls Tryd.prog 59 #[.slice a len cap] w fun e w' => e = .returned (.int .i64 ((len + lens l : Nat) : Int)) ∧ w = w' := by
  have hll := Lib.hid h.1
  have hm := h.2.2.1
  have hc := h.2.1
  unfold maxLen at hm
  go_enter Tryd.func59, Tryd.ntmps59
  go_wp2
  go_loop [3, 10] (fun s i => ∃ k : Nat, k ≤ len ∧ i = .int .i64 k ∧ s = .int .i64 ((len + lens (l.take k) : Nat) : Int)) (fun _ i => len - (intOf i).toNat)
  case atStart => exact ⟨0, Nat.zero_le _, rfl, by simp [lens]⟩
  case round =>
    obtain ⟨k, hk, rfl, rfl⟩ := hrel
    by_cases hlt : k < len
    · obtain ⟨b, off, a', n', cap', rfl, hbb, hcell, hbs⟩ := h.at hlt
      have hst := lens_take_succ l k (by rw [hll.out]; exact hlt)
      have hle := lens_take_le l (k + 1)
      rw [hbs.len] at hst
      have hst2 : len + lens (l.take (k + 1)) = len + lens (l.take k) + n' := by omega
      have hle2 : len + lens (l.take k) + n' ≤ 9223372036854775807 := by omega
      have H := Lib.hid hst2
      clear hst hst2 hle
      generalize len + lens (l.take k) = q at *
      go_wp2
      go_round
      case rel => exact ⟨k + 1, by omega, by go_num, by rw [H.out]; go_num⟩
      case measure => simp [intOf]; omega
    · obtain rfl : k = len := by omega
      have hx : l.take k = l := List.take_of_length_le (by rw [hll.out]; exact Nat.le_refl _)
      rw [hx]
      generalize hq : k + lens l = q at *
      have HQ := Lib.hid hq
      clear hq
      go_wp2
      go_ret
      exact ⟨ret_int (by have := HQ.out; omega), rfl⟩
end Go.Proofs.YtjdepdgoaopfoaaDoor
