/- The walks of the chapter on numbers and texts as bytes: what is taken. -/
import Derived.Test.YtjdepdgoaopfoaaDoorOctW
namespace Go.Proofs.YtjdepdgoaopfoaaDoor
open Go.RowKit

theorem size_bytes (w : World) : (sizeOf (Tryd.prog.elem 26)).run Tryd.prog w = .ok 1 w := by kernel_rfl
theorem elem_bytes : Tryd.prog.underlying 26 = some (.slice (Tryd.prog.elem 26)) := by kernel_rfl

/-- A taker stands there, in such a state. -/
def Tk (w : World) (t : Nat) (s : TSt) : Prop :=
  ∃ a cap, w.heap[t]? = some (.cells #[.slice a s.l.length cap, .int .i64 s.e] 137 (0, 0)) ∧ Bs w a s.l.length cap s.l

theorem Tk.lt {w : World} {t : Nat} {s : TSt} (h : Tk w t s) : t < w.heap.size := by
  obtain ⟨a, cap, h1, _⟩ := h; exact (Array.getElem?_eq_some_iff.1 h1).1

/-- The bytes don't stand in the taker's own block. -/
theorem bs_ne {w : World} {t : Nat} {a b : Option Addr} {n m len cap : Nat} {e : Int} {T : TypeId} {l : List UInt8} (h1 : w.heap[t]? = some (.cells #[.slice b n m, .int .i64 e] T (0, 0))) (h2 : Bs w a len cap l) :
    ∀ b off, len ≠ 0 → a = some ⟨b, off, none⟩ → some t ≠ some b := by
  intro b off hl ha hb
  cases hb
  obtain ⟨b', off', e1, _, h7⟩ := h2.cell (k := 0) (by omega)
  rw [ha] at e1
  cases e1
  have := h7 0 (by omega)
  simp only [World.cell?, h1, Nat.add_zero] at this
  match off, this with
  | 0, this => simp at this
  | 1, this => simp at this
  | n + 2, this => simp at this

theorem Tk.grown {w w' : World} {t : Nat} {s : TSt} {row : Option Nat} (h : Tk w t s) (hg : w.grownBy w' row) (hne : row ≠ some t) (hb : ∀ a n m b off, w.heap[t]? = some (.cells #[.slice a n m, .int .i64 s.e] 137 (0, 0)) → s.l.length ≠ 0 → a = some ⟨b, off, none⟩ → row ≠ some b) : Tk w' t s := by
  obtain ⟨a, cap, h1, h2⟩ := h
  exact ⟨a, cap, (hg.block t (Array.getElem?_eq_some_iff.1 h1).1 (fun e => hne e.symm)).trans h1, h2.grown hg (fun b off h3 h4 => hb a _ _ b off h1 h3 h4)⟩
theorem Tk.below {w w' : World} {t : Nat} {s : TSt} {B : Nat} (hB : w.heap.size ≤ B) (hb : Below B w w') (h : Tk w t s) : Tk w' t s := by
  obtain ⟨a, cap, h1, h2⟩ := h
  exact ⟨a, cap, (hb.block t (Nat.lt_of_lt_of_le (Array.getElem?_eq_some_iff.1 h1).1 hB)).trans h1, h2.below hB hb⟩

/-- What a call on a taker leaves: a value; the taker in a new state; all else that was there as it was. -/
def TkPost (w : World) (t : Nat) (R : World → Value → Prop) (s' : TSt) (e : Ending) (w' : World) : Prop :=
  ∃ v, e = .returned v ∧ R w' v ∧ w.grownBy w' (some t) ∧ Tk w' t s'

theorem beVal_step (l : List UInt8) (k : Nat) (h : k < l.length) : beVal (l.take (k + 1)) = beVal (l.take k) * 256 + (l[k]?.getD 0).toNat := by
  rw [List.take_add_one, List.getElem?_eq_getElem h]; exact beVal_snoc _ _

set_option maxRecDepth 100000 in
set_option maxHeartbeats 1000000 in
theorem num1_any (a : Option Addr) (len cap : Nat) (l : List UInt8) (w : World) (h : Bs w a len cap l) (h8 : len ≤ 8) :
    Calls Tryd.prog 77 #[.slice a len cap] w fun e w' => e = .returned (.int .u64 (beVal l)) ∧ w = w' := by
  have hll := Lib.hid h.len
  have hm := h.cap.2
  have hc := h.cap.1
  unfold maxLen at hm
  go_enter Tryd.func77, Tryd.ntmps77
  go_wp2
  go_loop [3, 8] (fun x i => ∃ k : Nat, k ≤ len ∧ i = .int .i64 k ∧ x = .int .u64 (beVal (l.take k))) (fun _ i => len - (intOf i).toNat)
  case atStart => exact ⟨0, Nat.zero_le _, rfl, rfl⟩
  case round =>
    obtain ⟨k, hk, rfl, rfl⟩ := hrel
    by_cases hlt : k < len
    · obtain ⟨b, off, rfl, hb, hcell⟩ := h.cell hlt
      have hck := hcell k hlt
      have hst := beVal_step l k (by rw [hll.out]; exact hlt)
      have hbd : beVal (l.take k) < 72057594037927936 := by
        have h1 := beVal_lt (l.take k)
        have h2 : (l.take k).length ≤ 7 := by simp; omega
        have h3 : 256 ^ (l.take k).length ≤ 256 ^ 7 := Nat.pow_le_pow_right (by decide) h2
        omega
      have hcb := (l[k]?.getD 0).toNat_lt
      generalize (l[k]?.getD 0).toNat = c at *
      generalize beVal (l.take k) = x at *
      have H := Lib.hid hst
      clear hst hcell
      have hor := or256 x c hbd hcb
      go_wp2
      go_round
      case rel => exact ⟨k + 1, by omega, by go_num, by rw [H.out]; go_num⟩
      case measure => simp [intOf]; omega
    · obtain rfl : k = len := by omega
      have hx : l.take k = l := List.take_of_length_le (by rw [hll.out]; exact Nat.le_refl _)
      rw [hx]
      clear hx
      go_wp2
      go_ret
      exact ⟨rfl, rfl⟩

set_option maxRecDepth 100000 in
set_option maxHeartbeats 1000000 in
theorem text1_any (a : Option Addr) (len cap : Nat) (l : List UInt8) (w : World) (h : Bs w a len cap l) :
    Calls Tryd.prog 82 #[.slice a len cap] w fun e w' => e = .returned (.string (strOf l)) ∧ w = w' := by
  have hcv := conv_string Tryd.underlying26 Tryd.underlying5 Tryd.underlying9 h
  go_enter Tryd.func82, Tryd.ntmps82
  go_wp2
  go_ret
  exact ⟨rfl, rfl⟩

set_option maxRecDepth 100000 in
set_option maxHeartbeats 1000000 in
theorem clone_any (a : Option Addr) (len cap : Nat) (l : List UInt8) (w : World) (h : Bs w a len cap l) (hreach : len ≤ 140737488351232) :
    Calls Tryd.prog 75 #[.slice a len cap] w (OwnBytes 5 w l) := by
  obtain ⟨i0, hi, hz0, hz1, hz2⟩ := info_parts info_u8
  have hll := Lib.hid h.len
  cases a with
  | none =>
    have hc := h.2.2.2.1 rfl
    have h0 : len = 0 := by have := h.2.1; omega
    subst hc h0
    have hl0 : l = [] := List.eq_nil_of_length_eq_zero h.len
    have HL := Lib.hid hl0
    clear hl0
    have hq : ∀ W : World, (binOp .eql 26 (.slice none 0 0) (.slice none 0 0)).run Tryd.prog W = .ok (.bool true) W := fun W => Lib.run_eql_slice_nil W _ _ none 0 0 0 0 Tryd.underlying26
    go_enter Tryd.func75, Tryd.ntmps75
    go_wp2
    go_ret
    exact ⟨_, rfl, by rw [HL.out]; exact ⟨rfl, .inl ⟨rfl, rfl⟩⟩, Below.refl _ _⟩
  | some x =>
    have hm := h.cap.2
    unfold maxLen at hm
    have hq : ∀ W : World, (binOp .eql 26 (.slice (some x) len cap) (.slice none 0 0)).run Tryd.prog W = .ok (.bool false) W := fun W => Lib.run_eql_slice_nil W _ _ (some x) len cap 0 0 Tryd.underlying26
    go_enter Tryd.func75, Tryd.ntmps75
    go_wp2_with (at_builtin; refine wpList_append_row rfl _ _ 26 rfl w.heap.size 5 i0 _ 1 Tryd.underlying26 hi hz0 hz1 hz2 rfl _ 0 [] rfl (own_made .u8 w 5 [] rfl (Nat.le_refl _) (by unfold maxLen; simp)) .u8 (some x) len cap (toI l) rfl (h.below (Nat.le_refl _) ((Below.refl _ _).alloc (Nat.le_refl _) _)) (by unfold maxLen; omega) (by omega) (by simp) ?_)
    intro v2 w2 hown hg
    have hB := ((Below.refl w.heap.size w).alloc (Nat.le_refl _) (.cells #[] 5)).grown hg (by simp) (fun k e => by cases e; exact Nat.le_refl _)
    clear hg
    have hown' : w2.ownsRow w.heap.size 5 1 v2 l.length ((toI l).map (Value.int .u8)) := by
      rw [hll.out]; simpa using hown
    clear hown
    go_wp2
    go_ret
    exact ⟨_, rfl, hown', hB⟩
end Go.Proofs.YtjdepdgoaopfoaaDoor
