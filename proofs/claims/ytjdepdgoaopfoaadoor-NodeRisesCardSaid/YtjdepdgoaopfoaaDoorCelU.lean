/- The walks of the chapter on pages of cells: a page is unpacked. -/
import Derived.Test.YtjdepdgoaopfoaaDoorCelT
import Derived.Test.YtjdepdgoaopfoaaDoorOctM
namespace Go.Proofs.YtjdepdgoaopfoaaDoor
open Go.RowKit

/-! what a page tells -/
def slotS (b : List UInt8) (i : Nat) : Nat := (b[6 + i]?.getD 0).toNat
def endS (b : List UInt8) : Nat → Nat
  | 0 => 128
  | i + 1 => slotS b i
def okS (b : List UInt8) (n : Nat) : Bool := (List.range n).all fun i => decide (slotS b i ≤ endS b i)
def cellS (b : List UInt8) (i : Nat) : List UInt8 := (b.drop (slotS b i)).take (endS b i - slotS b i)
def cutS (b : List UInt8) (n : Nat) : List (List UInt8) := (List.range n).map (cellS b)
def kindS (b : List UInt8) : UInt8 := b[4]?.getD 0
def numS (b : List UInt8) : Nat := (b[5]?.getD 0).toNat
/-- Is it a page, its sum apart? -/
def unpB (b : List UInt8) : Bool := okS b (min (numS b) 122) && (fits (kindS b) (cutS b (min (numS b) 122)) && pageOf (kindS b) (cutS b (min (numS b) 122)) == b)
def unpE (b : List UInt8) : Int := if b.length ≠ 128 then 1 else if beVal (b.take 4) ≠ crcOf (b.drop 4) then 12 else if unpB b then 0 else 11
def unpK (b : List UInt8) : UInt8 := if unpE b = 0 then kindS b else 0
def unpL (b : List UInt8) : List (List UInt8) := if unpE b = 0 then cutS b (min (numS b) 122) else []

theorem okS_succ (b : List UInt8) (n : Nat) : okS b (n + 1) = (okS b n && decide (slotS b n ≤ endS b n)) := by
  simp [okS, List.range_succ]
theorem cutS_succ (b : List UInt8) (n : Nat) : cutS b (n + 1) = cutS b n ++ [cellS b n] := by
  simp [cutS, List.range_succ]
theorem cutS_length (b : List UInt8) (n : Nat) : (cutS b n).length = n := by simp [cutS]
theorem slotS_lt (b : List UInt8) (i : Nat) : slotS b i < 256 := (b[6 + i]?.getD 0).toNat_lt
theorem okS_end (b : List UInt8) (n : Nat) (h : okS b n = true) : endS b n ≤ 128 := by
  induction n with
  | zero => simp [endS]
  | succ n ih =>
    rw [okS_succ, Bool.and_eq_true, decide_eq_true_eq] at h
    have := ih h.1
    rw [show endS b (n + 1) = slotS b n from rfl]; omega
theorem okS_mono (b : List UInt8) {m n : Nat} (h : okS b m = false) (hmn : m ≤ n) : okS b n = false := by
  rw [okS, List.all_eq_false] at h ⊢
  obtain ⟨x, hx, hx2⟩ := h
  exact ⟨x, by simp at hx ⊢; omega, hx2⟩
theorem cellS_length (b : List UInt8) (n : Nat) (hb : b.length = 128) (h : okS b (n + 1) = true) : (cellS b n).length = endS b n - slotS b n := by
  have h1 := okS_end b n (by rw [okS_succ, Bool.and_eq_true] at h; exact h.1)
  simp [cellS]; omega
theorem cutS_lens (b : List UInt8) (n : Nat) (hb : b.length = 128) (h : okS b n = true) : lens (cutS b n) = 128 - endS b n := by
  induction n with
  | zero => simp [cutS, lens, endS]
  | succ n ih =>
    have h0 := h
    rw [okS_succ, Bool.and_eq_true, decide_eq_true_eq] at h
    have h1 := okS_end b n h.1
    rw [cutS_succ, lens_append, lens_one, ih h.1, cellS_length b n hb h0, show endS b (n + 1) = slotS b n from rfl]
    omega

/-! a row of rows of bytes of the call's own -/
def OwnBss (w : World) (base : Nat) (v : Value) (l : List (List UInt8)) : Prop :=
  ∃ vs, w.ownsRow base 26 1 v l.length vs ∧ vs.length = l.length ∧ ∀ (i : Nat) (c : List UInt8), l[i]? = some c → ∃ u, vs[i]? = some u ∧ w.ownsRow base 5 1 u c.length ((toI c).map (Value.int .u8))

theorem own_types {w : World} {b1 b2 s1 s2 n1 n2 : Nat} {e1 e2 : TypeId} {v1 v2 : Value} {xs1 xs2 : List Value} (h1 : w.ownsRow b1 e1 s1 v1 n1 xs1) (h2 : w.ownsRow b2 e2 s2 v2 n2 xs2) (hne : e1 ≠ e2) : v1.ownBlock = none ∨ v1.ownBlock ≠ v2.ownBlock := by
  rcases h1.2 with ⟨rfl, rfl⟩ | ⟨g, cap, cur, rfl, _, hg, _⟩
  · exact .inl rfl
  · right
    rcases h2.2 with ⟨rfl, rfl⟩ | ⟨g2, cap2, cur2, rfl, _, hg2, _⟩
    · intro e; cases e
    · intro e
      have e' : g = g2 := by simpa [Value.ownBlock] using e
      subst e'
      rw [hg] at hg2
      cases hg2
      exact hne rfl
theorem own_below {w w' : World} {base : Nat} {e : TypeId} {size : Nat} {v : Value} {n : Nat} {xs : List Value} {B : Nat} (h : w.ownsRow base e size v n xs) (hB : w.heap.size ≤ B) (hb : Below B w w') : w'.ownsRow base e size v n xs := by
  refine ⟨h.1, h.2.imp id fun ⟨g, cap, cur, e1, hg, hh, r⟩ => ⟨g, cap, cur, e1, hg, ?_, r⟩⟩
  rw [hb.block g (Nat.lt_of_lt_of_le (Array.getElem?_eq_some_iff.1 hh).1 hB)]; exact hh
theorem OwnBss.nil (w : World) (base : Nat) : OwnBss w base (.slice none 0 0) [] := ⟨[], World.ownsRow_nil _ _ _ _, rfl, fun i c h => by simp at h⟩
theorem OwnBss.below {w w' : World} {base : Nat} {v : Value} {l : List (List UInt8)} {B : Nat} (h : OwnBss w base v l) (hB : w.heap.size ≤ B) (hb : Below B w w') : OwnBss w' base v l := by
  obtain ⟨vs, h1, h2, h3⟩ := h
  exact ⟨vs, own_below h1 hB hb, h2, fun i c hc => by obtain ⟨u, e1, e2⟩ := h3 i c hc; exact ⟨u, e1, own_below e2 hB hb⟩⟩
theorem OwnBss.base {w : World} {base b0 : Nat} {v : Value} {l : List (List UInt8)} (h : OwnBss w base v l) (hb : b0 ≤ base) : OwnBss w b0 v l := by
  obtain ⟨vs, h1, h2, h3⟩ := h
  exact ⟨vs, own_base h1 hb, h2, fun i c hc => by obtain ⟨u, e1, e2⟩ := h3 i c hc; exact ⟨u, e1, own_base e2 hb⟩⟩
/-- One more. -/
theorem OwnBss.snoc {w w' : World} {base : Nat} {v v' u : Value} {n : Nat} {l : List (List UInt8)} {c : List UInt8} {vs : List Value} (h1 : w.ownsRow base 26 1 v n vs) (hn : n = l.length)
    (h2 : vs.length = l.length) (h3 : ∀ (i : Nat) (c : List UInt8), l[i]? = some c → ∃ u, vs[i]? = some u ∧ w.ownsRow base 5 1 u c.length ((toI c).map (Value.int .u8)))
    (hu : w.ownsRow base 5 1 u c.length ((toI c).map (Value.int .u8))) (hg : w.grownBy w' v.ownBlock) (h1' : w'.ownsRow base 26 1 v' (n + 1) (vs ++ [u])) : OwnBss w' base v' (l ++ [c]) := by
  refine ⟨vs ++ [u], by rw [List.length_append, ← hn]; exact h1', by simp [h2], fun i d hd => ?_⟩
  by_cases hi : i < l.length
  · rw [List.getElem?_append_left hi] at hd
    obtain ⟨x, e1, e2⟩ := h3 i d hd
    exact ⟨x, by rw [List.getElem?_append_left (by omega)]; exact e1, e2.kept hg (own_types e2 h1 (by decide))⟩
  · have hlen := (List.getElem?_eq_some_iff.1 hd).1
    simp at hlen
    obtain rfl : i = l.length := by omega
    rw [List.getElem?_append_right (Nat.le_refl _), Nat.sub_self] at hd
    cases hd
    exact ⟨u, by rw [List.getElem?_append_right (by omega), h2, Nat.sub_self]; rfl, hu.kept hg (own_types hu h1 (by decide))⟩
theorem OwnBss.bss {w : World} {base : Nat} {v : Value} {l : List (List UInt8)} (h : OwnBss w base v l) : ∃ a cap, v = .slice a l.length cap ∧ Bss w a l.length cap l := by
  obtain ⟨vs, ⟨h1, h2⟩, h3, h4⟩ := h
  simp only [Nat.mul_one] at h1
  rcases h2 with ⟨rfl, h0⟩ | ⟨g, cap, cur, rfl, hb, hg, hn, hm, hc, ht⟩
  · rw [h0]
    exact ⟨none, 0, rfl, h0, Nat.le_refl _, by unfold maxLen; omega, fun _ => rfl, .inl rfl⟩
  · refine ⟨_, cap, rfl, rfl, hn, hm, (fun h => by cases h), .inr ⟨g, 0, rfl, (Array.getElem?_eq_some_iff.1 hg).1, fun i y hy => ?_⟩⟩
    obtain ⟨u, e1, e2⟩ := h4 i y hy
    obtain ⟨a, cp, rfl, hbs⟩ := Bs.of_own e2
    refine ⟨[.slice a y.length cp], rfl, ⟨a, _, cp, rfl, hbs⟩, fun j x hx => ?_⟩
    have hi := (List.getElem?_eq_some_iff.1 hy).1
    match j, hx with
    | 0, hx =>
      cases hx
      simp only [World.cell?, hg, Nat.zero_add, Nat.mul_one, Nat.add_zero]
      have e : (cur.toList.take (l.length * 1))[i]? = cur.toList[i]? := List.getElem?_take_of_lt (by omega)
      rw [ht] at e
      rw [← Array.getElem?_toList, ← e]
      exact e1
    | j + 1, hx => simp at hx

/-- 'b[l:h:m]'. -/
theorem Bs.sub {w : World} {a : Option Addr} {len cap : Nat} {L : List UInt8} (h : Bs w a len cap L) (l r m : Nat) (h1 : l ≤ r) (h2 : r ≤ len) (h3 : r ≤ m) (h4 : m ≤ cap) :
    Bs w (if m = l then a else a.map (·.add (l * 1))) (r - l) (m - l) ((L.drop l).take (r - l)) := by
  have hl := h.len
  have hc := h.cap
  refine ⟨by simp [toI_length]; omega, by omega, by omega, (fun hn => ?_), ?_⟩
  · by_cases e : m = l
    · omega
    · rw [if_neg e] at hn
      have : a = none := by simpa using hn
      have := h.2.2.2.1 this
      omega
  · by_cases e : r = l
    · exact .inl (by omega)
    · obtain ⟨b, off, rfl, hb, hcell⟩ := h.cell (k := l) (by omega)
      refine .inr ⟨b, off + l, by rw [if_neg (by omega)]; simp [add_none], hb, fun i hi => ?_⟩
      rw [toI_get, Nat.add_assoc, hcell (l + i) (by omega)]
      simp [hi]
theorem sub_run {P : Program} {T : TypeId} (hT : P.underlying T = some (.slice (P.elem T))) (hz : ∀ w, (sizeOf (P.elem T)).run P w = .ok 1 w) (a : Option Addr) (len cap l r m : Nat) (h1 : l ≤ r) (h3 : r ≤ m) (h4 : m ≤ cap) :
    ∃ a2, a2 = (if m = l then a else a.map (·.add (l * 1))) ∧ ∀ (k k2 k3 : IntKind) w, (Instr.slice T (.slice a len cap) (some (.int k l)) (some (.int k2 r)) (some (.int k3 m))).run P w = .ok (.slice a2 (r - l) (m - l)) w := by
  refine ⟨_, rfl, fun k k2 k3 w => ?_⟩
  rw [run_slice_lhm w T a len cap hT k k2 k3 l r m (by omega) (by omega) (by omega) (by omega), hz]
  rfl
end Go.Proofs.YtjdepdgoaopfoaaDoor
