/- Texts that other texts of this claim lean on, one behind the other. -/
import Derived.Test.YtopnfpobbemfbaaDoorM1
import Derived.Deep.Slices
import Derived.ProofKit
import Derived.ChangeOld
import Derived.Deep.RegionLaw
import Derived.Deep.RegionWith
import Derived.Laws.CopyOwn
/- Slices of records that came in: a slice of elements of so many cells reads as a list. -/
namespace Go.Proofs.YtopnfpobbemfbaaDoor
open Go.RowKit Go.Deep Go.WideShapes

/-- A slice of elements of so many cells; R: what the cells of an element tell. -/
def TabR {α : Type} (sz : Nat) (R : List Value → α → Prop) (w : World) (a : Option Addr) (len cap : Nat) (l : List α) : Prop :=
  l.length = len ∧ len ≤ cap ∧ cap ≤ maxLen ∧ (a = none → cap = 0) ∧ (len = 0 ∨ ∃ b off, a = some ⟨b, off, none⟩ ∧ b < w.heap.size ∧
    ∀ i y, l[i]? = some y → ∃ cs, cs.length = sz ∧ R cs y ∧ ∀ j v, cs[j]? = some v → w.cell? ⟨b, off + i * sz + j, none⟩ = some v)

theorem TabR.mono {α : Type} {sz : Nat} {R R' : List Value → α → Prop} {w : World} {a : Option Addr} {len cap : Nat} {l : List α} (h : TabR sz R w a len cap l) (hR : ∀ cs y, R cs y → R' cs y) : TabR sz R' w a len cap l := by
  obtain ⟨h1, h2, h3, hn, h4⟩ := h
  refine ⟨h1, h2, h3, hn, ?_⟩
  rcases h4 with h4 | ⟨b, off, h5, h6, h7⟩
  · exact .inl h4
  · exact .inr ⟨b, off, h5, h6, fun i y hy => by obtain ⟨cs, c1, c2, c3⟩ := h7 i y hy; exact ⟨cs, c1, hR _ _ c2, c3⟩⟩

theorem TabR.below {α : Type} {sz : Nat} {R : List Value → α → Prop} {w w' : World} {a : Option Addr} {len cap : Nat} {l : List α} {B : Nat} (hB : w.heap.size ≤ B) (hb : Below B w w') (h : TabR sz R w a len cap l) : TabR sz R w' a len cap l := by
  obtain ⟨h1, h2, h3, hn, h4⟩ := h
  refine ⟨h1, h2, h3, hn, ?_⟩
  rcases h4 with h4 | ⟨b, off, h5, h6, h7⟩
  · exact .inl h4
  · exact .inr ⟨b, off, h5, by have := hb.size; omega, fun i y hy => by
      obtain ⟨cs, c1, c2, c3⟩ := h7 i y hy
      exact ⟨cs, c1, c2, fun j v hv => (hb.cell (p := ⟨b, off + i * sz + j, none⟩) (by simp; omega)).trans (c3 j v hv)⟩⟩

theorem TabR.at {α : Type} {sz : Nat} {R : List Value → α → Prop} {w : World} {a : Option Addr} {len cap : Nat} {l : List α} (h : TabR sz R w a len cap l) {k : Nat} (hk : k < len) :
    ∃ b off y cs, a = some ⟨b, off, none⟩ ∧ b < w.heap.size ∧ l[k]? = some y ∧ cs.length = sz ∧ R cs y ∧ ∀ j v, cs[j]? = some v → w.cell? ⟨b, off + k * sz + j, none⟩ = some v := by
  obtain ⟨h1, h2, h3, hn, h4⟩ := h
  rcases h4 with h4 | ⟨b, off, h5, h6, h7⟩
  · omega
  · have hy : l[k]? = some l[k] := List.getElem?_eq_getElem (by omega)
    obtain ⟨cs, c1, c2, c3⟩ := h7 k _ hy
    exact ⟨b, off, _, cs, h5, h6, hy, c1, c2, c3⟩

theorem add_none (b off j : Nat) : (⟨b, off, none⟩ : Addr).add j = ⟨b, off + j, none⟩ := by unfold Addr.add; split <;> simp_all

section
variable {H : Type} {enc : TypeId × Value → H} {P : Program} {w : World} {base : Nat}
/-- A slice that came in, opened: each element by a reader of its cells. -/
theorem open_tab {α : Type} {t e : TypeId} {sz : Nat} (ht : P.underlying t = some (.slice e)) (hsz : P.cellsOf e = sz) (hpos : 0 < sz) (R : List Value → α → Prop)
    (hR : ∀ n cs x, cs.length = sz → DataW.trod enc P w 0 (fun _ => true) true n e cs = some x → ∃ y, R cs y)
    {v : Value} {d : DataW H} {p : List MemPlace} (hv : Value.okWide P w .any base t v) (h : DataW.Trod enc P w 0 (fun _ => true) true t v d p) :
    ∃ a len cap l, v = .slice a len cap ∧ TabR sz R w a len cap l := by
  obtain ⟨a, len, cap, rfl⟩ := okWide_slice ht hv
  obtain ⟨fuel, hf⟩ := h
  rcases open_slice ht hf with ⟨hcs, _⟩ | ⟨x, len', cap', m, n, D, Pl, hcs, _, hl, hm, hmm, _, hx⟩
  · simp [Value.cells] at hcs
    obtain ⟨rfl, rfl, rfl⟩ := hcs
    exact ⟨none, 0, 0, [], rfl, rfl, Nat.le_refl _, by unfold maxLen; omega, fun _ => rfl, .inl rfl⟩
  · simp [Value.cells] at hcs
    obtain ⟨rfl, rfl, rfl⟩ := hcs
    have hlm : len ≤ m := by rw [hmm]; exact hl
    rw [hsz] at hx
    have each : ∀ i, i < len → ∃ q : α × List Value, q.2.length = sz ∧ R q.2 q.1 ∧ ∀ j, j < sz → w.cell? ((x.add (i * sz)).add j) = q.2[j]? := by
      intro i hi
      obtain ⟨cs', h1, h2⟩ := hx i (by omega)
      obtain ⟨_, hlen, hcell⟩ := World.cells?_some h1
      obtain ⟨y, hy⟩ := hR n cs' _ hlen h2
      exact ⟨(y, cs'), hlen, hy, hcell⟩
    by_cases h0 : len = 0
    · subst h0
      exact ⟨_, 0, cap, [], rfl, rfl, hl, hm, (fun h => by cases h), .inl rfl⟩
    · obtain ⟨q0, g1, _, g3⟩ := each 0 (by omega)
      haveI : Inhabited (α × List Value) := ⟨q0⟩
      obtain ⟨q, hq⟩ := choose_lt each
      have g4 := g3 0 hpos
      obtain ⟨v0, hv0⟩ : ∃ v0, q0.2[0]? = some v0 := ⟨_, List.getElem?_eq_getElem (by omega)⟩
      rw [hv0] at g4
      obtain ⟨b, off, spot⟩ := x
      have hspot : spot = none := by
        have := World.cell?_spot g4
        simp [Addr.add] at this
        exact this
      subst hspot
      simp only [add_none] at hq g4
      refine ⟨_, len, cap, (List.range len).map fun i => (q i).1, rfl, by simp, hl, hm, (fun h => by cases h), .inr ⟨b, off, rfl, ?_, fun i y hy => ?_⟩⟩
      · by_cases hb : b < w.heap.size
        · exact hb
        · simp only [World.cell?] at g4
          rw [Array.getElem?_eq_none (show w.heap.size ≤ b by omega)] at g4
          simp at g4
      · have hi : i < len := by
          have := (List.getElem?_eq_some_iff.1 hy).1
          simpa using this
        obtain ⟨c1, c2, c3⟩ := hq i hi
        have hy' : y = (q i).1 := by
          simp [hi] at hy; exact hy.symm
        subst hy'
        refine ⟨(q i).2, c1, c2, fun j v hv => ?_⟩
        have hj : j < sz := by rw [← c1]; exact (List.getElem?_eq_some_iff.1 hv).1
        rw [c3 j hj]; exact hv
end

/-- Two integers. -/
def IsPair (cs : List Value) (y : Int × Int) : Prop := cs = [.int .i64 y.1, .int .i64 y.2]
theorem read_pair {H : Type} {enc : TypeId × Value → H} {P : Program} {w : World} {e : TypeId} {f0 f1 : Field} (he : P.underlying e = some (.struct #[f0, f1])) (o0 : f0.offset = 0) (o1 : f1.offset = 1) (c0 : P.cellsOf f0.type = 1) (c1 : P.cellsOf f1.type = 1)
    (u0 : P.underlying f0.type = some (.int .i64)) (u1 : P.underlying f1.type = some (.int .i64)) :
    ∀ n cs x, cs.length = 2 → DataW.trod enc P w 0 (fun _ => true) true n e cs = some x → ∃ y, IsPair cs y := by
  intro n cs x hlen h
  obtain ⟨xs, k, _, _, _, hxl, hf⟩ := DataW.trod_struct he h
  match xs, hxl, cs, hlen with
  | [y0, y1], _, [v0, v1], _ =>
    have g0 := hf 0 f0 rfl
    have g1 := hf 1 f1 rfl
    simp [o0, o1, c0, c1] at g0 g1
    obtain ⟨n0, e0, _, _⟩ := DataW.trod_int u0 g0
    obtain ⟨n1, e1, _, _⟩ := DataW.trod_int u1 g1
    simp at e0 e1
    exact ⟨(n0, n1), by rw [e0, e1]; rfl⟩
end Go.Proofs.YtopnfpobbemfbaaDoor

/- The walks of the chapter on pages of cells. -/
namespace Go.Proofs.YtopnfpobbemfbaaDoor
open Go.RowKit

set_option maxRecDepth 100000 in
set_option maxHeartbeats 1000000 in
theorem equal_any (a : Option Addr) (n cap : Nat) (l : List UInt8) (b : Option Addr) (m cap2 : Nat) (r : List UInt8) (w : World) (h1 : Bs w a n cap l) (h2 : Bs w b m cap2 r) :
    Calls Tryd.prog 58 #[.slice a n cap, .slice b m cap2] w fun e w' => e = .returned (.bool (l == r)) ∧ w = w' := by
  have c1 := conv_string Tryd.underlying32 Tryd.underlying5 Tryd.underlying9 h1
  have c2 := conv_string Tryd.underlying32 Tryd.underlying5 Tryd.underlying9 h2
  have hst := strOf_toList
  go_enter Tryd.func58, Tryd.ntmps58
  go_wp2
  go_ret
  exact ⟨rfl, rfl⟩

set_option maxRecDepth 100000 in
set_option maxHeartbeats 1000000 in
theorem bclone_any (a : Option Addr) (len cap : Nat) (l : List UInt8) (w : World) (h : Bs w a len cap l) (hreach : len ≤ 140737488351232) :
    Calls Tryd.prog 44 #[.slice a len cap] w (OwnBytes 5 w l) := by
  obtain ⟨i0, hi, hz0, hz1, hz2⟩ := info_parts info_u8
  have hll := Lib.hid h.len
  cases a with
  | none =>
    have hc := h.2.2.2.1 rfl
    have h0 : len = 0 := by have := h.2.1; omega
    subst hc h0
    have hl0 : l = [] := List.eq_nil_of_length_eq_zero h.len
    have HL := Lib.hid hl0
    clear hl0
    have hq : ∀ W : World, (binOp .eql 32 (.slice none 0 0) (.slice none 0 0)).run Tryd.prog W = .ok (.bool true) W := fun W => Lib.run_eql_slice_nil W _ _ none 0 0 0 0 Tryd.underlying32
    go_enter Tryd.func44, Tryd.ntmps44
    go_wp2
    go_ret
    exact ⟨_, rfl, by rw [HL.out]; exact ⟨rfl, .inl ⟨rfl, rfl⟩⟩, Below.refl _ _⟩
  | some x =>
    have hm := h.cap.2
    unfold maxLen at hm
    have hq : ∀ W : World, (binOp .eql 32 (.slice (some x) len cap) (.slice none 0 0)).run Tryd.prog W = .ok (.bool false) W := fun W => Lib.run_eql_slice_nil W _ _ (some x) len cap 0 0 Tryd.underlying32
    go_enter Tryd.func44, Tryd.ntmps44
    go_wp2_with (at_builtin; refine wpList_append_row rfl _ _ 32 rfl w.heap.size 5 i0 _ 1 Tryd.underlying32 hi hz0 hz1 hz2 rfl _ 0 [] rfl (own_made .u8 w 5 [] rfl (Nat.le_refl _) (by unfold maxLen; simp)) .u8 (some x) len cap (toI l) rfl (h.below (Nat.le_refl _) ((Below.refl _ _).alloc (Nat.le_refl _) _)) (by unfold maxLen; omega) (by omega) (by simp) ?_)
    intro v2 w2 hown hg
    have hB := ((Below.refl w.heap.size w).alloc (Nat.le_refl _) (.cells #[] 5)).grown hg (by simp) (fun k e => by cases e; exact Nat.le_refl _)
    clear hg
    have hown' : w2.ownsRow w.heap.size 5 1 v2 l.length ((toI l).map (Value.int .u8)) := by
      rw [hll.out]; simpa using hown
    clear hown
    go_wp2
    go_ret
    exact ⟨_, rfl, hown', hB⟩

/-! rows of rows of bytes, rows of texts -/
/-- What an element of a slice of slices of bytes tells, in a world. -/
def IsBs (w : World) (cs : List Value) (y : List UInt8) : Prop := ∃ a n cap, cs = [.slice a n cap] ∧ Bs w a n cap y
def Bss (w : World) (a : Option Addr) (len cap : Nat) (l : List (List UInt8)) : Prop := TabR 1 (IsBs w) w a len cap l
theorem Bss.below {w w' : World} {a : Option Addr} {len cap : Nat} {l : List (List UInt8)} {B : Nat} (hB : w.heap.size ≤ B) (hb : Below B w w') (h : Bss w a len cap l) : Bss w' a len cap l :=
  (TabR.below hB hb h).mono fun _ _ ⟨a, n, c, e, h⟩ => ⟨a, n, c, e, h.below hB hb⟩
theorem Bss.at {w : World} {a : Option Addr} {len cap : Nat} {l : List (List UInt8)} (h : Bss w a len cap l) {k : Nat} (hk : k < len) :
    ∃ b off a' n' cap', a = some ⟨b, off, none⟩ ∧ b < w.heap.size ∧ w.cell? ⟨b, off + k, none⟩ = some (.slice a' n' cap') ∧ Bs w a' n' cap' (l[k]?.getD []) := by
  obtain ⟨b, off, y, cs, e1, e2, e3, _, ⟨a', n', cap', rfl, e5⟩, e6⟩ := TabR.at h hk
  refine ⟨b, off, a', n', cap', e1, e2, ?_, by rw [e3]; exact e5⟩
  have := e6 0 _ rfl
  simpa using this
def IsStr (cs : List Value) (y : List UInt8) : Prop := cs = [.string (strOf y)]
def Strs (w : World) (a : Option Addr) (len cap : Nat) (l : List (List UInt8)) : Prop := TabR 1 IsStr w a len cap l
theorem Strs.at {w : World} {a : Option Addr} {len cap : Nat} {l : List (List UInt8)} (h : Strs w a len cap l) {k : Nat} (hk : k < len) :
    ∃ b off, a = some ⟨b, off, none⟩ ∧ b < w.heap.size ∧ w.cell? ⟨b, off + k, none⟩ = some (.string (strOf (l[k]?.getD []))) := by
  obtain ⟨b, off, y, cs, e1, e2, e3, _, e5, e6⟩ := TabR.at h hk
  subst e5
  have := e6 0 _ rfl
  refine ⟨b, off, e1, e2, ?_⟩
  rw [e3]; simpa using this

set_option maxRecDepth 100000 in
set_option maxHeartbeats 1000000 in
theorem csize_any (a : Option Addr) (len cap : Nat) (l : List (List UInt8)) (w : World) (h : Bss w a len cap l) (hb : len + lens l ≤ 9223372036854775807) :
    Calls Tryd.prog 42 #[.slice a len cap] w fun e w' => e = .returned (.int .i64 ((len + lens l : Nat) : Int)) ∧ w = w' := by
  have hll := Lib.hid h.1
  have hm := h.2.2.1
  have hc := h.2.1
  unfold maxLen at hm
  go_enter Tryd.func42, Tryd.ntmps42
  go_wp2
  go_loop [3, 10] (fun s i => ∃ k : Nat, k ≤ len ∧ i = .int .i64 k ∧ s = .int .i64 ((len + lens (l.take k) : Nat) : Int)) (fun _ i => len - (intOf i).toNat)
  case atStart => exact ⟨0, Nat.zero_le _, rfl, by simp [lens]⟩
  case round =>
    obtain ⟨k, hk, rfl, rfl⟩ := hrel
    by_cases hlt : k < len
    · obtain ⟨b, off, a', n', cap', rfl, hbb, hcell, hbs⟩ := h.at hlt
      have hst := lens_take_succ l k (by rw [hll.out]; exact hlt)
      have hle := lens_take_le l (k + 1)
      rw [hbs.len] at hst
      have hst2 : len + lens (l.take (k + 1)) = len + lens (l.take k) + n' := by omega
      have hle2 : len + lens (l.take k) + n' ≤ 9223372036854775807 := by omega
      have H := Lib.hid hst2
      clear hst hst2 hle
      generalize len + lens (l.take k) = q at *
      go_wp2
      go_round
      case rel => exact ⟨k + 1, by omega, by go_num, by rw [H.out]; go_num⟩
      case measure => simp [intOf]; omega
    · obtain rfl : k = len := by omega
      have hx : l.take k = l := List.take_of_length_le (by rw [hll.out]; exact Nat.le_refl _)
      rw [hx]
      generalize hq : k + lens l = q at *
      have HQ := Lib.hid hq
      clear hq
      go_wp2
      go_ret
      exact ⟨ret_int (by have := HQ.out; omega), rfl⟩
end Go.Proofs.YtopnfpobbemfbaaDoor

/- The walks of the chapter on pages of cells: a page is packed. -/
namespace Go.Proofs.YtopnfpobbemfbaaDoor
open Go.RowKit

/-- A block of a page's bytes. -/
def Page (w : World) (g : Nat) (l : List UInt8) : Prop := w.heap[g]? = some (.cells ((toI l).map (Value.int .u8)).toArray 79 (0, 0))

theorem page_zero : ∃ Z : Array Value, Z = ((toI (List.replicate 128 (0 : UInt8))).map (Value.int .u8)).toArray ∧ ∀ w, (zeroValue 79).run Tryd.prog w = .ok (.agg Z) w :=
  ⟨_, rfl, fun w => by
    have h : (Tryd.prog.info? 79).map (·.zero) = some (some (.agg ((toI (List.replicate 128 (0 : UInt8))).map (Value.int .u8)).toArray)) := by kernel_rfl
    cases hq : Tryd.prog.info? 79 with
    | none => simp [hq] at h
    | some i =>
      have hz : i.zero = some (.agg ((toI (List.replicate 128 (0 : UInt8))).map (Value.int .u8)).toArray) := by simpa [hq] using h
      simp [zeroValue, typeInfo, hq, hz]⟩

theorem zero_cells : Tryd.zeroCells79 = ((toI (List.replicate 128 (0 : UInt8))).map (Value.int .u8)).toArray := by kernel_rfl
theorem Page.cell {w : World} {g : Nat} {l : List UInt8} (h : Page w g l) {i : Nat} (hi : i < l.length) : w.cell? ⟨g, i, none⟩ = some (.int .u8 ((l[i]?.getD 0).toNat : Int)) := by
  have e : (((toI l).map (Value.int .u8)).toArray)[i]? = some (.int .u8 ((l[i]?.getD 0).toNat : Int)) := by simp [toI, hi]
  simp only [World.cell?, show w.heap[g]? = _ from h]
  exact e
theorem Page.frozen {w : World} {g : Nat} {l : List UInt8} (h : Page w g l) (i : Nat) : w.frozen? ⟨g, i, none⟩ = false := by simp [World.frozen?, show w.heap[g]? = _ from h]
theorem Page.set {w : World} {g : Nat} {l : List UInt8} (h : Page w g l) (i : Nat) (n : Nat) (hn : n < 256) : Page (w.setCell ⟨g, i, none⟩ (.int .u8 (n : Int))) g (l.set i (UInt8.ofNat n)) := by
  have e1 := heap_setCell_at i (.int .u8 (n : Int)) h
  have e2 : (UInt8.ofNat n).toNat = n := by rw [UInt8.toNat_ofNat']; omega
  unfold Page
  rw [e1]
  simp [toI, List.map_set, e2]

theorem page_under : Tryd.prog.underlying 79 = some (.array (Tryd.prog.arrayLen 79) (Tryd.prog.elem 79)) := by kernel_rfl
theorem page_len : Tryd.prog.arrayLen 79 = 128 := by kernel_rfl
theorem page_size (w : World) : (sizeOf (Tryd.prog.elem 79)).run Tryd.prog w = .ok 1 w := by kernel_rfl
/-- The rest of a page from a place on. -/
theorem page_from (g e : Nat) (he : e ≤ 128) : ∃ a2 : Addr, (e < 128 → a2 = ⟨g, e, none⟩) ∧
    ∀ (k : IntKind) (w : World), (Instr.sliceAt 79 (.pointer (some ⟨g, 0, none⟩)) (some (.int k (e : Int))) none none).run Tryd.prog w = .ok (.slice (some a2) (128 - e) (128 - e)) w := by
  refine ⟨if 128 = e then ⟨g, 0, none⟩ else (⟨g, 0, none⟩ : Addr).add (e * 1), fun h => by rw [if_neg (by omega), add_none]; simp, fun k w => ?_⟩
  rw [run_sliceAt_array_l w _ _ page_under k e (by omega) (by rw [page_len]; omega), page_size, page_len]
  rfl
theorem page_all (g : Nat) (w : World) : (Instr.sliceAt 79 (.pointer (some ⟨g, 0, none⟩)) none none none).run Tryd.prog w = .ok (.slice (some ⟨g, 0, none⟩) 128 128) w := by
  rw [run_sliceAt_array_all w _ _ page_under, page_size, page_len]
  rfl
theorem Page.row {w : World} {g : Nat} {l : List UInt8} (h : Page w g l) (hl : l.length = 128) : Bs w (some ⟨g, 0, none⟩) 128 128 l :=
  ⟨by rw [toI_length, hl], Nat.le_refl _, by unfold maxLen; omega, (fun h => by cases h), .inr ⟨g, 0, rfl, (Array.getElem?_eq_some_iff.1 h).1, fun i hi => by rw [Nat.zero_add, h.cell (by omega), toI_get]⟩⟩
theorem Page.rest {w : World} {g e : Nat} {l : List UInt8} (h : Page w g l) (hl : l.length = 128) (he : e ≤ 128) {a2 : Addr} (ha : e < 128 → a2 = ⟨g, e, none⟩) : Bs w (some a2) (128 - e) (128 - e) (l.drop e) :=
  ⟨by rw [toI_length, List.length_drop, hl], Nat.le_refl _, by unfold maxLen; omega, (fun h => by cases h), by
    by_cases h0 : e < 128
    · obtain rfl := ha h0
      exact .inr ⟨g, e, rfl, (Array.getElem?_eq_some_iff.1 h).1, fun i hi => by rw [h.cell (by omega), toI_get, List.getElem?_drop]⟩
    · exact .inl (by omega)⟩

theorem splice_map {α β : Type} (f : α → β) (L : List α) (off : Nat) (cs : List α) : splice (L.map f) off (cs.map f) = (splice L off cs).map f := by simp [splice, List.map_take, List.map_drop]
theorem toI_splice (L : List UInt8) (off : Nat) (cs : List UInt8) : splice ((toI L).map (Value.int .u8)) off ((toI cs).map (Value.int .u8)) = (toI (splice L off cs)).map (Value.int .u8) := by
  rw [splice_map]; congr 1; exact splice_map _ _ _ _
/-- What is copied out of a row of bytes. -/
theorem Bs.source {w : World} {a : Option Addr} {n cap : Nat} {c : List UInt8} (h : Bs w a n cap c) (hpos : 0 < ((toI c).map (Value.int .u8)).length) :
    ∃ ad, a = some ad ∧ ∀ j v, ((toI c).map (Value.int .u8))[j]? = some v → w.cell? (ad.add j) = some v := by
  have hl := h.len
  have hp : 0 < n := by simpa [toI, hl] using hpos
  obtain ⟨b, off, e, _, hc⟩ := h.cell hp
  refine ⟨_, e, fun j v hj => ?_⟩
  have hjl : j < c.length := by
    have := (List.getElem?_eq_some_iff.1 hj).1
    simpa [toI] using this
  rw [add_none, hc j (by omega)]
  simp [toI, hjl] at hj ⊢
  exact hj
theorem one_cells (c : List UInt8) : ∀ v ∈ (toI c).map (Value.int .u8), v.oneCell' = true := fun v hv => by
  obtain ⟨y, _, rfl⟩ := List.mem_map.1 hv; rfl
theorem info_one : (Tryd.prog.info? 5).map (·.size) = some 1 := by kernel_rfl

/-- The sum is copied ahead of a page. -/
theorem copy_sum {w : World} {g n cap : Nat} {a : Option Addr} {raw s : List UInt8} (hp : Page w g raw) (hl : raw.length = 128) (h : Bs w a n cap s) (hn : 0 < n) (hn2 : n ≤ 128) :
    ∃ w4, (Builtin.copy_ #[32, 32] 3 #[.slice (some ⟨g, 0, none⟩) 128 128, .slice a n cap]).run Tryd.prog w = .ok (.int .i64 n) w4 ∧ Page w4 g (splice raw 0 s) ∧ ∀ B w0, Below B w0 w → B ≤ g → Below B w0 w4 := by
  have hsl := h.len
  have hlen : ((toI s).map (Value.int .u8)).length = n := by rw [List.length_map, toI_length, hsl]
  obtain ⟨ad, rfl, hsrc⟩ := h.source (by rw [hlen]; exact hn)
  have hr := run_copy_row (P := Tryd.prog) w 32 32 3 5 g 0 128 128 ad n cap _ _ ((toI s).map (Value.int .u8)) Tryd.underlying32 info_one hp
    (by rw [hlen]; exact (Nat.min_eq_left hn2).symm) hsrc (by rw [hlen, List.size_toArray, List.length_map, toI_length, hl]; omega) (one_cells s)
  rw [hlen] at hr
  refine ⟨_, hr, ?_, fun B w0 hb hB => below_setRow hb hB _⟩
  have h2 := setRow_heap w g _ ((((toI raw).map (Value.int .u8)).take 0 ++ (toI s).map (Value.int .u8) ++ ((toI raw).map (Value.int .u8)).drop (0 + n)).toArray) _ (0, 0) hp
  unfold Page
  rw [← toI_splice, splice, hlen, ← List.append_assoc]
  exact h2

/-- A page and no error; nothing that was there has turned. -/
def PackPost (w : World) (p : List UInt8) (e : Ending) (w' : World) : Prop :=
  ∃ v, e = .returned (.tuple #[v, .int .i64 0]) ∧ w'.ownsRow w.heap.size 5 1 v 128 ((toI p).map (Value.int .u8)) ∧ Below w.heap.size w w'

theorem pageOf_length (kind : UInt8) (l : List (List UInt8)) (h : l.length + lens l ≤ 122) : (pageOf kind l).length = 128 := by
  rw [pageOf, List.length_append, beBytes_length, bodyOf_length kind _ l h]

/-- Four bytes of a number: a row. -/
theorem num_four (x : Nat) (w : World) (hx : x < 18446744073709551616) :
    Calls Tryd.prog 25 #[.int .u64 x, .int .i64 4] w fun e w' => ∃ a cap, e = .returned (.slice a 4 cap) ∧ Bs w' a 4 cap (beBytes x 4) ∧ Below w.heap.size w w' := by
  refine (num_ok x 4 w hx (by omega) (by omega)).mono ?_
  rintro e w3 ⟨v, rfl, hown, hb3⟩
  rw [beBytes_length] at hown
  obtain ⟨a5, cap5, rfl, hbs5⟩ := Bs.of_own hown
  exact ⟨a5, cap5, rfl, hbs5, hb3⟩

theorem own_base {w : World} {base b0 : Nat} {e : TypeId} {size : Nat} {v : Value} {n : Nat} {xs : List Value} (h : w.ownsRow base e size v n xs) (hb : b0 ≤ base) : w.ownsRow b0 e size v n xs :=
  ⟨h.1, h.2.imp id fun ⟨g, cap, cur, e, hg, r⟩ => ⟨g, cap, cur, e, Nat.le_trans hb hg, r⟩⟩

set_option maxRecDepth 100000 in
set_option maxHeartbeats 1000000 in
theorem pack_ok (kind : UInt8) (a : Option Addr) (len cap : Nat) (l : List (List UInt8)) (w : World) (h : Bss w a len cap l) (hh : Half w) (hk : kind ≠ 0) (hfit : len + lens l ≤ 122) :
    Calls Tryd.prog 26 #[.int .u8 kind.toNat, .slice a len cap] w (PackPost w (pageOf kind l)) := by
  have hll := Lib.hid h.1
  have hk' : ((kind.toNat : Int) == 0) = false := by
    have : kind.toNat ≠ 0 := fun e => hk (UInt8.toNat_inj.1 e)
    simpa using this
  have hf2 : decide ((122 : Int) < (len : Int) + (lens l : Int)) = false := by simp; omega
  have hn8 : (len : Int) % 256 = (len : Int) := by omega
  have hk8 := kind.toNat_lt
  go_enter Tryd.func26, Tryd.ntmps26
  go_wp2_with fail
  refine (csize_any a len cap l w h (by omega)).mono ?_
  rintro e w' ⟨rfl, rfl⟩
  go_wp2_with fail
  have hp2 : Page (w.alloc (.cells ((Tryd.zeroCells79.setIfInBounds 4 (.int .u8 (kind.toNat : Int))).setIfInBounds 5 (.int .u8 (len : Int))) 79)) w.heap.size (rawOf kind len []) := by
    unfold Page
    rw [World.alloc_heap_new, rawOf_nil, zero_cells]
    have e4 : (UInt8.ofNat len).toNat = len := by rw [UInt8.toNat_ofNat']; omega
    simp only [toI, List.map_set, e4, List.setIfInBounds_toArray]
  have HP2 := Lib.hid hp2
  have hB2 := (Below.refl w.heap.size w).alloc (Nat.le_refl _) (.cells ((Tryd.zeroCells79.setIfInBounds 4 (.int .u8 (kind.toNat : Int))).setIfInBounds 5 (.int .u8 (len : Int))) 79)
  clear hp2
  generalize w.alloc (.cells ((Tryd.zeroCells79.setIfInBounds 4 (.int .u8 (kind.toNat : Int))).setIfInBounds 5 (.int .u8 (len : Int))) 79) = w2 at *
  go_loopw [7, 25] (fun e i wr => ∃ k : Nat, k ≤ len ∧ i = .int .i64 k ∧ e = .int .i64 ((128 - lens (l.take k) : Nat) : Int) ∧ Page wr w.heap.size (rawOf kind len (l.take k)) ∧ Below w.heap.size w wr) (fun _ i _ => len - (intOf i).toNat)
  case atStart => exact ⟨0, Nat.zero_le _, rfl, rfl, HP2.out, hB2⟩
  case round =>
    obtain ⟨k, hk, rfl, rfl, hp, hb⟩ := hrel
    by_cases hlt : k < len
    · obtain ⟨b, off, a', n', cap', rfl, hbb, hcell, hbs⟩ := (h.below (Nat.le_refl _) hb).at hlt
      have hm := lens_take_le l (k + 1)
      have hs := lens_take_succ l k (by rw [hll.out]; exact hlt)
      have hrl := rawOf_length kind len (l.take k) (by rw [List.length_take, hll.out]; have := lens_take_le l k; omega)
      have hst := raw_step kind len (l.take k) (l[k]?.getD []) (by rw [List.length_take, hll.out]; omega)
      rw [← take_snoc l k [] (by rw [hll.out]; exact hlt), List.length_take, hll.out, Nat.min_eq_left hk] at hst
      have hcl := hbs.len
      obtain ⟨c, hc⟩ : ∃ c, c = l[k]?.getD [] := ⟨_, rfl⟩
      rw [← hc] at hbs hst hs hcl
      obtain ⟨q, hq⟩ : ∃ q, q = 128 - lens (l.take k) := ⟨_, rfl⟩
      rw [← hq] at hst ⊢
      rw [hcl] at hst hs
      have HQ := Lib.hid hq
      have HC := Lib.hid hcl
      clear hc hq hcl
      have HST := Lib.hid hst
      have HRL := Lib.hid hrl
      have HM := Lib.hid hm
      have HS := Lib.hid hs
      have hsub : (q : Int) - (n' : Int) = ((q - n' : Nat) : Int) := by have := HQ.out; omega
      clear hst hrl hm hs
      have hqe : 6 ≤ q - n' ∧ q - n' < 9223372036854775808 ∧ q - n' ≤ 128 := by have := HQ.out; have := HM.out; have := HS.out; omega
      obtain ⟨e, he⟩ : ∃ e, e = q - n' := ⟨_, rfl⟩
      rw [← he] at hsub hqe HST
      obtain ⟨a2, ha2, hsl⟩ := page_from w.heap.size e hqe.2.2
      have HE := Lib.hid he
      have h256 : (e : Int) % 256 = (e : Int) := by omega
      clear he
      have hqn : e + n' ≤ 128 := by have := HQ.out; have := HM.out; have := HS.out; have := HE.out; omega
      have HP := Lib.hid hp
      have HMIN := Lib.hid (show ((toI c).map (Value.int .u8)).length = Nat.min n' (128 - e) by rw [List.length_map, toI_length, HC.out]; exact (Nat.min_eq_left (by omega)).symm)
      have HFIT := Lib.hid (show e + ((toI c).map (Value.int .u8)).length ≤ ((toI (rawOf kind len (l.take k))).map (Value.int .u8)).length by rw [List.length_map, toI_length, HC.out, List.length_map, toI_length, HRL.out]; exact hqn)
      have HPOS := Lib.hid (show 0 < ((toI c).map (Value.int .u8)).length → (some a2 : Option Addr) = some ⟨w.heap.size, e, none⟩ ∧ ∃ ad, a' = some ad ∧ ∀ j v, ((toI c).map (Value.int .u8))[j]? = some v → wr.cell? (ad.add j) = some v from fun hpos => ⟨congrArg some (ha2 (by rw [List.length_map, toI_length, HC.out] at hpos; omega)), hbs.source hpos⟩)
      clear hp
      go_wp2_with (refine wpList_copy_splice rfl _ _ 32 32 rfl 5 Tryd.underlying32 info_one (some a2) a' (128 - e) (128 - e) n' cap' rfl rfl w.heap.size e ((toI (rawOf kind len (l.take k))).map (Value.int .u8)) 79 HP.out ((toI c).map (Value.int .u8)) HMIN.out HPOS.out HFIT.out (one_cells c) w.heap.size w hb (Nat.le_refl _) ?_)
      intro w3 HG hB3
      have hg3 : Page w3 w.heap.size (splice (rawOf kind len (l.take k)) e c) := by
        have := HG.out; rw [toI_splice] at this; exact this
      clear HG
      have hlen3 : (splice (rawOf kind len (l.take k)) e c).length = 128 := by
        rw [length_splice _ _ _ (by rw [HRL.out, HC.out]; exact hqn), HRL.out]
      have hc6 := hg3.cell (i := 6 + k) (by rw [hlen3]; omega)
      have hf6 := hg3.frozen (6 + k)
      have hset := hg3.set (6 + k) e (by omega)
      rw [HST.out] at hset
      have HSET := Lib.hid hset
      have HB : Hid (Below w.heap.size w (w3.setCell ⟨w.heap.size, 6 + k, none⟩ (.int .u8 (e : Int)))) := Lib.hid (hB3.setCell (Nat.le_refl w.heap.size) _)
      clear hset hg3 hlen3
      go_wp2
      go_roundw
      case rel => exact ⟨k + 1, by omega, by go_num, by have := HQ.out; have := HE.out; have := HS.out; go_num, HSET.out, HB.out⟩
      case measure => simp [intOf]; omega
    · obtain rfl : k = len := by omega
      have hx : l.take k = l := List.take_of_length_le (by rw [hll.out]; exact Nat.le_refl _)
      rw [hx] at hp ⊢
      have hl := rawOf_length kind k l (by rw [hll.out]; exact hfit)
      have HW := hh.below (Nat.le_refl _) hb
      obtain ⟨a4, ha4, hs4'⟩ := page_from w.heap.size 4 (by omega)
      obtain rfl := ha4 (by omega)
      have hrow4 : Bs wr (some ⟨w.heap.size, 4, none⟩) 124 124 (bodyOf kind k l) := hp.rest hl (by omega) ha4
      have hsum := crcOn_lt 0 (bodyOf kind k l)
      have HPG := Lib.hid (show splice (rawOf kind k l) 0 (beBytes (crcOf (bodyOf kind k l)) 4) = pageOf kind l by rw [raw_sum _ _ _ _ (beBytes_length _ _), pageOf, hll.out])
      have HPL := Lib.hid (pageOf_length kind l (by rw [hll.out]; exact hfit))
      have hc := crcOf_any (some ⟨w.heap.size, 4, none⟩) 124 124 (bodyOf kind k l) wr.drew (hrow4.drewN 1) (show Half wr.drew from HW)
      change crcOf _ < _ at hsum
      generalize crcOf (bodyOf kind k l) = s at *
      have hw64 : (s : Int) % 18446744073709551616 = (s : Int) := by omega
      have hw64' : IntKind.u64.wrap (s : Int) = (s : Int) := by simp [IntKind.wrap, IntKind.signed, IntKind.bits]; omega
      have hn := num_four s wr.drew (by omega)
      have HP := Lib.hid (show Page wr.drew w.heap.size (rawOf kind k l) from hp)
      have HBB := Lib.hid (show Below w.heap.size w wr.drew from hb.drew)
      have HLT := Lib.hid (show w.heap.size < wr.drew.heap.size from (Array.getElem?_eq_some_iff.1 hp).1)
      clear hx hs4' hrow4 hh HW hp hb
      generalize 128 - lens l = e at *
      go_wp2_with fail
      go_region_with (first | (go_at_call 43; refine hc.mono ?_; rintro e w2 ⟨rfl, rfl⟩) | (go_at_call 25; refine hn.mono ?_; rintro e w3 ⟨a5, cap5, rfl, hbs5, hb3⟩; have hp3 : Page w3 w.heap.size (rawOf kind k l) := (hb3.block _ HLT.out).trans HP.out; obtain ⟨w4, hcp, hpg4, hB4⟩ := copy_sum hp3 hl hbs5 (by omega) (by omega)))
      all_goals
        have hB := hB4 _ _ (below_then HBB.out hb3) (Nat.le_refl _)
        rw [HPG.out] at hpg4
        have hrow := hpg4.row HPL.out
        have hz := hB.size
        go_wp2_with fail
        refine (bclone_any (some ⟨w.heap.size, 0, none⟩) 128 128 (pageOf kind l) w4 hrow (by omega)).mono ?_
        rintro e w5 ⟨v, rfl, hown, hb5⟩
        rw [HPL.out] at hown
        have hown := own_base hown hz
        go_wp2
        go_ret2
        exact ⟨v, rfl, hown, below_then hB hb5⟩

set_option maxRecDepth 100000 in
set_option maxHeartbeats 1000000 in
theorem pack_zero (a : Option Addr) (len cap : Nat) (w : World) :
    Calls Tryd.prog 26 #[.int .u8 0, .slice a len cap] w fun e w' => e = .returned (.tuple #[.slice none 0 0, .int .i64 1]) ∧ w = w' := by
  go_enter Tryd.func26, Tryd.ntmps26
  go_wp2
  go_ret2
  exact ⟨rfl, rfl⟩

set_option maxRecDepth 100000 in
set_option maxHeartbeats 1000000 in
theorem pack_big (kind : UInt8) (a : Option Addr) (len cap : Nat) (l : List (List UInt8)) (w : World) (h : Bss w a len cap l) (hk : kind ≠ 0) (hfit : 122 < len + lens l) (hb : len + lens l ≤ 9223372036854775807) :
    Calls Tryd.prog 26 #[.int .u8 kind.toNat, .slice a len cap] w fun e w' => e = .returned (.tuple #[.slice none 0 0, .int .i64 1]) ∧ w = w' := by
  have hk' : ((kind.toNat : Int) == 0) = false := by
    have : kind.toNat ≠ 0 := fun e => hk (UInt8.toNat_inj.1 e)
    simpa using this
  have hf2 : decide ((122 : Int) < (len : Int) + (lens l : Int)) = true := by simp; omega
  go_enter Tryd.func26, Tryd.ntmps26
  go_wp2_with fail
  refine (csize_any a len cap l w h hb).mono ?_
  rintro e w' ⟨rfl, rfl⟩
  go_wp2
  go_ret2
  exact ⟨rfl, rfl⟩

/-- May cells of a kind be a page? -/
def fits (kind : UInt8) (l : List (List UInt8)) : Bool := kind != 0 && decide (l.length + lens l ≤ 122)
/-- What 'Pack' hands back: a row of bytes, an error. -/
def packV (kind : UInt8) (l : List (List UInt8)) : List UInt8 := if fits kind l then pageOf kind l else []
def packE (kind : UInt8) (l : List (List UInt8)) : Int := if fits kind l then 0 else 1
def PackAny (w : World) (p : List UInt8) (er : Int) (e : Ending) (w' : World) : Prop :=
  ∃ v, e = .returned (.tuple #[v, .int .i64 er]) ∧ w'.ownsRow w.heap.size 5 1 v p.length ((toI p).map (Value.int .u8)) ∧ Below w.heap.size w w'

theorem pack_any (kind : UInt8) (a : Option Addr) (len cap : Nat) (l : List (List UInt8)) (w : World) (h : Bss w a len cap l) (hh : Half w) (hb : len + lens l ≤ 9223372036854775807) :
    Calls Tryd.prog 26 #[.int .u8 kind.toNat, .slice a len cap] w (PackAny w (packV kind l) (packE kind l)) := by
  have hl := h.1
  by_cases hk : kind = 0
  · subst hk
    refine (pack_zero a len cap w).mono ?_
    rintro e w' ⟨rfl, rfl⟩
    exact ⟨_, rfl, ⟨rfl, .inl ⟨rfl, rfl⟩⟩, Below.refl _ _⟩
  · by_cases hf : len + lens l ≤ 122
    · have hfit : fits kind l = true := by simp [fits, hk, hl, hf]
      refine (pack_ok kind a len cap l w h hh hk hf).mono ?_
      rintro e w' ⟨v, rfl, hown, hbw⟩
      refine ⟨v, by rw [packE, if_pos hfit], ?_, hbw⟩
      rw [packV, if_pos hfit, pageOf_length kind l (by omega)]
      exact hown
    · have hfit : fits kind l = false := by simp [fits, hl]; omega
      refine (pack_big kind a len cap l w h hk (by omega) hb).mono ?_
      rintro e w' ⟨rfl, rfl⟩
      refine ⟨_, by rw [packE, hfit]; rfl, ?_, Below.refl _ _⟩
      rw [packV, hfit]
      exact ⟨rfl, .inl ⟨rfl, rfl⟩⟩
end Go.Proofs.YtopnfpobbemfbaaDoor

/- The walks of the chapter on pages of cells: the document's sizes and pages. -/
namespace Go.Proofs.YtopnfpobbemfbaaDoor
open Go.RowKit

theorem Strs.len {w : World} {a : Option Addr} {len cap : Nat} {l : List (List UInt8)} (h : Strs w a len cap l) : l.length = len := h.1
theorem Strs.below {w w' : World} {a : Option Addr} {len cap : Nat} {l : List (List UInt8)} {B : Nat} (hB : w.heap.size ≤ B) (hb : Below B w w') (h : Strs w a len cap l) : Strs w' a len cap l := TabR.below hB hb h

set_option maxRecDepth 100000 in
set_option maxHeartbeats 1000000 in
theorem rsize_any (a : Option Addr) (len cap : Nat) (l : List (List UInt8)) (w : World) (h : Strs w a len cap l) (hb : len + lens l ≤ 9223372036854775807) :
    Calls Tryd.prog 45 #[.slice a len cap] w fun e w' => e = .returned (.int .i64 ((len + lens l : Nat) : Int)) ∧ w = w' := by
  have hll := Lib.hid h.1
  have hm := h.2.2.1
  have hc := h.2.1
  unfold maxLen at hm
  go_enter Tryd.func45, Tryd.ntmps45
  go_wp2
  go_loop [3, 4] (fun s i => ∃ k : Nat, k ≤ len ∧ i = .int .i64 k ∧ s = .int .i64 ((k + lens (l.take k) : Nat) : Int)) (fun _ i => len - (intOf i).toNat)
  case atStart => exact ⟨0, Nat.zero_le _, rfl, by simp [lens]⟩
  case round =>
    obtain ⟨k, hk, rfl, rfl⟩ := hrel
    by_cases hlt : k < len
    · obtain ⟨b, off, rfl, hbb, hcell⟩ := h.at hlt
      have hst := lens_take_succ l k (by rw [hll.out]; exact hlt)
      have hle := lens_take_le l (k + 1)
      have hsz := strOf_size (l[k]?.getD [])
      generalize l[k]?.getD [] = c at *
      have hst2 : k + 1 + lens (l.take (k + 1)) = k + lens (l.take k) + (c.length + 1) := by omega
      have hle2 : k + lens (l.take k) + (c.length + 1) ≤ 9223372036854775807 := by omega
      have H := Lib.hid hst2
      clear hst hst2 hle
      generalize k + lens (l.take k) = q at *
      go_wp2
      go_round
      case rel => exact ⟨k + 1, by omega, by go_num, by rw [H.out]; go_num⟩
      case measure => simp [intOf]; omega
    · obtain rfl : k = len := by omega
      have hx : l.take k = l := List.take_of_length_le (by rw [hll.out]; exact Nat.le_refl _)
      rw [hx]
      generalize hq : k + lens l = q at *
      have HQ := Lib.hid hq
      clear hq
      go_wp2
      go_ret
      exact ⟨ret_int (by have := HQ.out; omega), rfl⟩

/-- A page as a text, an error. -/
def StrPost (w : World) (p : List UInt8) (er : Int) (e : Ending) (w' : World) : Prop := e = .returned (.tuple #[.string (strOf p), .int .i64 er]) ∧ Below w.heap.size w w'

theorem conv_nat {P : Program} {W : World} {src e dst t : TypeId} (hs : P.underlying src = some (.slice e)) (he : P.underlying e = some (.int .u8)) (hd : P.underlying dst = some .string) (n : Nat) (hn : n < 256) :
    (convert src dst (.slice (some ⟨W.heap.size, 0, none⟩) 1 1)).run P (W.alloc (.cells #[.int .u8 (n : Int)] t)) = .ok (.string (strOf [UInt8.ofNat n])) (W.alloc (.cells #[.int .u8 (n : Int)] t)) := by
  have h := conv_one (W := W) (t := t) hs he hd (UInt8.ofNat n)
  have e2 : (UInt8.ofNat n).toNat = n := by rw [UInt8.toNat_ofNat']; omega
  rw [e2] at h; exact h
theorem conv_two {P : Program} {W : World} {src e dst t : TypeId} (hs : P.underlying src = some (.slice e)) (he : P.underlying e = some (.int .u8)) (hd : P.underlying dst = some .string) (b : UInt8) (n : Nat) (hn : n < 256) :
    (convert src dst (.slice (some ⟨W.heap.size, 0, none⟩) 2 2)).run P (W.alloc (.cells #[.int .u8 (b.toNat : Int), .int .u8 (n : Int)] t)) = .ok (.string (strOf [b, UInt8.ofNat n])) (W.alloc (.cells #[.int .u8 (b.toNat : Int), .int .u8 (n : Int)] t)) := by
  have e2 : (UInt8.ofNat n).toNat = n := by rw [UInt8.toNat_ofNat']; omega
  have h := conv_string hs he hd (show Bs _ _ _ _ [b, UInt8.ofNat n] from Row.made .u8 W t [(b.toNat : Int), ((UInt8.ofNat n).toNat : Int)] rfl (by unfold maxLen; simp))
  rw [e2] at h; exact h

set_option maxRecDepth 100000 in
set_option maxHeartbeats 1000000 in
theorem rpack_ok (kind : UInt8) (a : Option Addr) (len cap : Nat) (l : List (List UInt8)) (w : World) (h : Strs w a len cap l) (hk : kind ≠ 0) (hfit : len + lens l ≤ 122) :
    Calls Tryd.prog 30 #[.int .u8 kind.toNat, .slice a len cap] w (StrPost w (pageOf kind l) 0) := by
  have hll := Lib.hid h.1
  have hk' : ((kind.toNat : Int) == 0) = false := by
    have : kind.toNat ≠ 0 := fun e => hk (UInt8.toNat_inj.1 e)
    simpa using this
  have hf2 : decide ((122 : Int) < (len : Int) + (lens l : Int)) = false := by simp; omega
  have hn8 : (len : Int) % 256 = (len : Int) := by omega
  go_enter Tryd.func30, Tryd.ntmps30
  go_wp2_with fail
  refine (rsize_any a len cap l w h (by omega)).mono ?_
  rintro e w' ⟨rfl, rfl⟩
  go_wp2
  go_loopw [6, 7, 8] (fun s b i wr => ∃ k : Nat, k ≤ len ∧ i = .int .i64 k ∧ s = .string (strOf (slotsOf 128 (l.take k))) ∧ b = .string (strOf (backOf (l.take k))) ∧ Below w.heap.size w wr) (fun _ _ i _ => len - (intOf i).toNat)
  case atStart => exact ⟨0, Nat.zero_le _, rfl, rfl, rfl, Below.refl _ _⟩
  case round =>
    obtain ⟨k, hk, rfl, rfl, rfl, hb⟩ := hrel
    by_cases hlt : k < len
    · obtain ⟨b, off, rfl, hbb, hcell⟩ := (h.below (Nat.le_refl _) hb).at hlt
      have hm := lens_take_le l (k + 1)
      have hs := lens_take_succ l k (by rw [hll.out]; exact hlt)
      have hts := take_snoc l k [] (by rw [hll.out]; exact hlt)
      have hbk : backOf (l.take (k + 1)) = l[k]?.getD [] ++ backOf (l.take k) := by rw [hts, backOf_append, backOf_one]
      have hsl : slotsOf 128 (l.take (k + 1)) = slotsOf 128 (l.take k) ++ [UInt8.ofNat (128 - lens (l.take (k + 1)))] := by
        rw [hs, hts, slotsOf_append]; simp [slotsOf, Nat.sub_sub]
      have hbl := backOf_length (l.take (k + 1))
      have hbl0 := backOf_length (l.take k)
      have hsl0 := slotsOf_length (l.take k) 128
      rw [List.length_take] at hsl0
      obtain ⟨e, he⟩ : ∃ e, e = 128 - lens (l.take (k + 1)) := ⟨_, rfl⟩
      rw [← he] at hsl
      have he8 : (128 : Int) - (lens (l.take (k + 1)) : Int) = (e : Int) := by omega
      have he6 : e ≤ 128 := by omega
      have h256 : (e : Int) % 256 = (e : Int) := by omega
      have hm1 : lens (l.take (k + 1)) ≤ 122 := by omega
      generalize l[k]?.getD [] = c at *
      generalize backOf (l.take k) = bk at *
      generalize hbe : backOf (l.take (k + 1)) = bk1 at *
      generalize slotsOf 128 (l.take k) = sl at *
      generalize hse : slotsOf 128 (l.take (k + 1)) = sl1 at *
      have HBE := Lib.hid hbe
      have HSE := Lib.hid hse
      clear hbe hse
      have hcl : c.length + bk.length ≤ 122 := by omega
      have hsz1 : (strOf bk1).size = lens (l.take (k + 1)) := by rw [strOf_size]; exact hbl
      have hap := strOf_append c bk
      rw [← hbk] at hap
      have hbnd : (strOf c).size + (strOf bk).size ≤ 9223372036854775807 := by rw [strOf_size, strOf_size]; omega
      have hap2 := strOf_append sl [UInt8.ofNat e]
      rw [← hsl] at hap2
      have hbnd2 : (strOf sl).size + (strOf [UInt8.ofNat e]).size ≤ 9223372036854775807 := by rw [strOf_size, strOf_size]; simp; omega
      have hcv := conv_nat (W := wr) (t := 5) Tryd.underlying32 Tryd.underlying5 Tryd.underlying9 e (by omega)
      have HB := Lib.hid (hb.alloc hb.size (.cells #[.int .u8 (e : Int)] 5))
      clear hs hts hbk hsl hbl hbl0 hsl0 he hm hb
      generalize lens (l.take (k + 1)) = q at *
      generalize UInt8.ofNat e = ub at *
      go_wp2
      go_roundw
      case rel => exact ⟨k + 1, by omega, by go_num, by rw [HSE.out], by rw [HBE.out], HB.out⟩
      case measure => simp [intOf]; omega
    · obtain rfl : k = len := by omega
      have hx : l.take k = l := List.take_of_length_le (by rw [hll.out]; exact Nat.le_refl _)
      rw [hx]
      have hsl := slotsOf_length l 128
      have hbl := backOf_length l
      rw [hll.out] at hsl
      have HPG := Lib.hid (show pageOf kind l = beBytes (crcOf (bodyOf kind k l)) 4 ++ bodyOf kind k l by rw [pageOf, hll.out])
      have hbody : bodyOf kind k l = [kind, UInt8.ofNat k] ++ slotsOf 128 l ++ (List.replicate (122 - k - lens l) 0 ++ backOf l) := by rw [bodyOf, hll.out]; simp
      have hlb := bodyOf_length kind k l (by rw [hll.out]; exact hfit)
      generalize bodyOf kind k l = bd at *
      generalize slotsOf 128 l = sl at *
      generalize backOf l = bk at *
      obtain ⟨z, hz⟩ : ∃ z, z = 122 - k - lens l := ⟨_, rfl⟩
      rw [← hz] at hbody
      obtain ⟨hd, hhd⟩ : ∃ hd, hd = [kind, UInt8.ofNat k] ++ sl := ⟨_, rfl⟩
      rw [← hhd] at hbody
      have hap1 := strOf_append [kind, UInt8.ofNat k] sl
      rw [← hhd] at hap1
      have hap2 := strOf_append (List.replicate z 0) bk
      obtain ⟨zb, hzb⟩ : ∃ zb, zb = List.replicate z 0 ++ bk := ⟨_, rfl⟩
      rw [← hzb] at hbody hap2
      have hap3 := strOf_append hd zb
      rw [← hbody] at hap3
      have hcv := conv_two (W := wr) (t := 5) Tryd.underlying32 Tryd.underlying5 Tryd.underlying9 kind k (by omega)
      obtain ⟨s1, hs1, hs1'⟩ : ∃ s1, (strOf hd).size = s1 ∧ s1 = 2 + k := ⟨_, rfl, by rw [strOf_size, hhd]; simp [hsl]; omega⟩
      obtain ⟨s2, hs2, hs2'⟩ : ∃ s2, (strOf bk).size = s2 ∧ s2 = lens l := ⟨_, rfl, by rw [strOf_size]; exact hbl⟩
      have hz2 : (124 : Int) - (s1 : Int) - (s2 : Int) = (z : Int) := by omega
      have hz3 : z ≤ 122 := by omega
      have hs12 : s1 ≤ 124 ∧ s2 ≤ 122 := by omega
      have hbn1 : (strOf [kind, UInt8.ofNat k]).size + (strOf sl).size ≤ 9223372036854775807 := by rw [strOf_size, strOf_size]; simp; omega
      have hbn2 : (strOf (List.replicate z (0 : UInt8))).size + (strOf bk).size ≤ 9223372036854775807 := by rw [strOf_size, hs2]; simp; omega
      have hbn3 : (strOf hd).size + (strOf zb).size ≤ 9223372036854775807 := by rw [hs1, strOf_size, hzb]; simp; omega
      obtain ⟨rz, hrz⟩ : ∃ rz, rz = List.replicate z (0 : UInt8) := ⟨_, rfl⟩
      rw [← hrz] at hap2 hbn2
      have HRZ := Lib.hid hrz
      have HLB := Lib.hid hlb
      obtain ⟨i0, hi, hz0, hz1, hz2'⟩ := info_parts info_u8
      have hB2 := hb.alloc hb.size (.cells #[.int .u8 (kind.toNat : Int), .int .u8 (k : Int)] 5)
      have HSZ := Lib.hid hb.size
      generalize hU : UInt8.ofNat k = ub at *
      clear hU hhd hzb hbody hx hz hlb hrz hsl hbl hs1' hs2'
      go_wp2_with (at_make; refine wpList_make_full _ rfl _ _ 32 rfl w.heap.size 5 i0 _ 1 Tryd.underlying32 hi hz0 hz1 .i64 .i64 _ _ z rfl rfl rfl rfl (by rw [hz2']; omega) (by unfold maxLen; omega) (by have := HSZ.out; simp; omega) ?_)
      intro w2 hown hg
      have hown' : w2.ownsRow w.heap.size 5 1 (.slice (some ⟨wr.heap.size + 1, 0, none⟩) z z) z ((toI rz).map (Value.int .u8)) := by
        simp only [made_list] at hown
        rw [HRZ.out]; simpa [toI] using hown
      have hcv2 := conv_string Tryd.underlying32 Tryd.underlying5 Tryd.underlying9 (Bs.own hown')
      have HB3 := Lib.hid (hB2.grown hg (by have := HSZ.out; simp; omega) (fun k e => by cases e))
      clear hown hown' hg hcv
      have hbl : bd.length ≤ 9223372036854775807 := by rw [HLB.out]; omega
      go_wp2_with fail
      refine (refOf_any bd w2 hbl).mono ?_
      rintro e w3 ⟨rfl, rfl⟩
      have hsum := crcOn_lt 0 bd
      change crcOf bd < _ at hsum
      generalize hS : crcOf bd = s at *
      have HS := Lib.hid hS
      clear hS
      have hw64 : (s : Int) % 18446744073709551616 = (s : Int) := by omega
      go_wp2_with fail
      refine (refNum_ok s 4 w2 (by omega) (by omega) (by omega)).mono ?_
      rintro e w4 ⟨rfl, hb4⟩
      have hap4 := strOf_append (beBytes s 4) bd
      have hbn4 : (strOf (beBytes s 4)).size + (strOf bd).size ≤ 9223372036854775807 := by rw [strOf_size, strOf_size, beBytes_length, HLB.out]; omega
      have HPG2 := Lib.hid (show pageOf kind l = beBytes s 4 ++ bd from HPG.out)
      generalize beBytes s 4 = s4 at *
      generalize s4 ++ bd = pg at *
      go_wp2
      go_ret2
      exact ⟨by rw [HPG2.out]; rfl, below_then HB3.out hb4⟩

set_option maxRecDepth 100000 in
set_option maxHeartbeats 1000000 in
theorem rpack_zero (a : Option Addr) (len cap : Nat) (w : World) :
    Calls Tryd.prog 30 #[.int .u8 0, .slice a len cap] w fun e w' => e = .returned (.tuple #[.string (strOf []), .int .i64 1]) ∧ w = w' := by
  go_enter Tryd.func30, Tryd.ntmps30
  go_wp2
  go_ret2
  exact ⟨rfl, rfl⟩

set_option maxRecDepth 100000 in
set_option maxHeartbeats 1000000 in
theorem rpack_big (kind : UInt8) (a : Option Addr) (len cap : Nat) (l : List (List UInt8)) (w : World) (h : Strs w a len cap l) (hk : kind ≠ 0) (hfit : 122 < len + lens l) (hb : len + lens l ≤ 9223372036854775807) :
    Calls Tryd.prog 30 #[.int .u8 kind.toNat, .slice a len cap] w fun e w' => e = .returned (.tuple #[.string (strOf []), .int .i64 1]) ∧ w = w' := by
  have hk' : ((kind.toNat : Int) == 0) = false := by
    have : kind.toNat ≠ 0 := fun e => hk (UInt8.toNat_inj.1 e)
    simpa using this
  have hf2 : decide ((122 : Int) < (len : Int) + (lens l : Int)) = true := by simp; omega
  go_enter Tryd.func30, Tryd.ntmps30
  go_wp2_with fail
  refine (rsize_any a len cap l w h hb).mono ?_
  rintro e w' ⟨rfl, rfl⟩
  go_wp2
  go_ret2
  exact ⟨rfl, rfl⟩

theorem rpack_any (kind : UInt8) (a : Option Addr) (len cap : Nat) (l : List (List UInt8)) (w : World) (h : Strs w a len cap l) (hb : len + lens l ≤ 9223372036854775807) :
    Calls Tryd.prog 30 #[.int .u8 kind.toNat, .slice a len cap] w (StrPost w (packV kind l) (packE kind l)) := by
  have hl := h.1
  by_cases hk : kind = 0
  · subst hk
    refine (rpack_zero a len cap w).mono ?_
    rintro e w' ⟨rfl, rfl⟩
    exact ⟨rfl, Below.refl _ _⟩
  · by_cases hf : len + lens l ≤ 122
    · have hfit : fits kind l = true := by simp [fits, hk, hl, hf]
      rw [packV, packE, if_pos hfit, if_pos hfit]
      exact rpack_ok kind a len cap l w h hk hf
    · have hfit : fits kind l = false := by simp [fits, hl]; omega
      rw [packV, packE, hfit]
      refine (rpack_big kind a len cap l w h hk (by omega) hb).mono ?_
      rintro e w' ⟨rfl, rfl⟩
      exact ⟨rfl, Below.refl _ _⟩
end Go.Proofs.YtopnfpobbemfbaaDoor

/- The walks of the chapter on pages of cells: texts of cells, rows of texts. -/
namespace Go.Proofs.YtopnfpobbemfbaaDoor
open Go.RowKit

/-- 'append(out, x)': a row of the call's own gets one element more. -/
theorem wpList_append_one {P : Program} {w : World} {ops : Array Oper} {rest : List Oper} {o : Oper} {act : Act} {Q : Exit → Act → World → Prop} (hgd : o.guard = none) (s x : Operand) (t : TypeId)
    (ho : o.op = .call { callee := .builtin .append, args := #[s, x], argTypes := #[t, t] })
    (base : Nat) (e : TypeId) (i : TypeInfo) (z : Value) (bytes : Nat) (ht : P.underlying t = some (.slice e)) (hi : P.info? e = some i) (hz : i.zero = some z)
    (hsize : i.size = 1) (hby : i.bytes = bytes) (hzs : z.cells.size = 1)
    (v : Value) (n : Nat) (xs : List Value) (hs : act.eval s = v) (hown : w.ownsRow base e 1 v n xs)
    (b : Nat) (hx : act.eval x = .slice (some ⟨b, 0, none⟩) 1 1) (u : Value) (hu : w.cell? ⟨b, 0, none⟩ = some u) (h1 : u.oneCell' = true)
    (h63 : n + 1 ≤ maxLen) (hbytes : (n + 1) * bytes ≤ 140737488355328) (hbase : base ≤ w.heap.size)
    (h : ∀ v' w', w'.ownsRow base e 1 v' (n + 1) (xs ++ [u]) → w.grownBy w' v.ownBlock → wpList P ops Q rest (act.put o.dst v') w') : wpList P ops Q (o :: rest) act w := by
  refine wpList_append_own w hgd s x t ho base e i z 1 bytes ht hi hz hsize hby hzs (by decide) v n xs hs hown ⟨b, 0, none⟩ 1 1 [u] hx rfl ?_ (fun y hy => by
      obtain rfl := List.mem_singleton.1 hy; exact h1) h63 hbytes hbase fun v' w' h5 h6 _ => h v' w' h5 h6
  intro j y hj
  match j, hj with
  | 0, hj => cases hj; simpa [Addr.add] using hu
  | j + 1, hj => simp at hj

/-- The value that a text is. -/
def sv (c : List UInt8) : Value := .string (strOf c)
/-- The call hands back a row of texts of its own; nothing that was there has turned. -/
def OwnStrs (w : World) (l : List (List UInt8)) (e : Ending) (w' : World) : Prop :=
  ∃ v, e = .returned v ∧ w'.ownsRow w.heap.size 9 1 v l.length (l.map sv) ∧ Below w.heap.size w w'

theorem Strs.of_own {w : World} {base : Nat} {v : Value} {n : Nat} {l : List (List UInt8)} (h : w.ownsRow base 9 1 v n (l.map sv)) :
    ∃ a cap, v = .slice a n cap ∧ Strs w a n cap l := by
  obtain ⟨h1, h2⟩ := h
  simp only [List.length_map, Nat.mul_one] at h1
  rcases h2 with ⟨rfl, rfl⟩ | ⟨g, cap, cur, rfl, hb, hg, hn, hm, hc, ht⟩
  · exact ⟨none, 0, rfl, h1, Nat.le_refl _, by unfold maxLen; omega, fun _ => rfl, .inl rfl⟩
  · refine ⟨_, cap, rfl, h1, hn, hm, (fun h => by cases h), .inr ⟨g, 0, rfl, (Array.getElem?_eq_some_iff.1 hg).1, fun i y hy => ⟨[sv y], rfl, rfl, fun j u hu => ?_⟩⟩⟩
    have hi := (List.getElem?_eq_some_iff.1 hy).1
    match j, hu with
    | 0, hu =>
      cases hu
      simp only [World.cell?, hg, Nat.zero_add, Nat.mul_one, Nat.add_zero]
      have e : (cur.toList.take (n * 1))[i]? = cur.toList[i]? := List.getElem?_take_of_lt (by omega)
      rw [ht] at e
      rw [← Array.getElem?_toList, ← e]
      simp [hy]
    | j + 1, hu => simp at hu

theorem info_str : (Tryd.prog.info? 9).map (fun i => (i.zero, i.size, i.bytes)) = some (some (.string ByteArray.empty), 1, 16) := by kernel_rfl

/-- Few and short cells. -/
def smallF (l : List (List UInt8)) : Bool := decide (l.length ≤ 300) && l.all fun c => decide (c.length ≤ 300)
theorem small_lens (l : List (List UInt8)) (h : l.all (fun c => decide (c.length ≤ 300)) = true) : lens l ≤ l.length * 300 := by
  induction l with
  | nil => simp [lens]
  | cons c r ih =>
    simp only [List.all_cons, Bool.and_eq_true, decide_eq_true_eq] at h
    have := ih h.2
    simp only [lens, List.map_cons, List.sum_cons, List.length_cons] at this ⊢
    omega
theorem smallF_true {l : List (List UInt8)} (h : smallF l = true) : l.length ≤ 300 ∧ lens l ≤ 90000 := by
  simp only [smallF, Bool.and_eq_true, decide_eq_true_eq] at h
  have := small_lens l h.2
  exact ⟨h.1, by omega⟩

end Go.Proofs.YtopnfpobbemfbaaDoor

/- The walks of the chapter on numbers and texts as bytes: so many bytes, taken, and what they come to (three instances). -/
namespace Go.Proofs.YtopnfpobbemfbaaDoor
open Go.RowKit

/-- A taker of its own bytes. -/
def TakeOwn (w : World) (l : List UInt8) (e : Ending) (w' : World) : Prop :=
  ∃ a cap, e = .returned (.pointer (some ⟨w'.heap.size - 1, 0, none⟩)) ∧ w'.heap[w'.heap.size - 1]? = some (.cells #[.slice a l.length cap, .int .i64 0] 124 (0, 0)) ∧
    w'.ownsRow w.heap.size 5 1 (.slice a l.length cap) l.length ((toI l).map (Value.int .u8)) ∧ w.heap.size ≤ w'.heap.size - 1 ∧ w'.heap.size - 1 < w'.heap.size ∧ Below w.heap.size w w'

set_option maxRecDepth 100000 in
set_option maxHeartbeats 1000000 in
theorem take_any (a : Option Addr) (len cap : Nat) (l : List UInt8) (w : World) (h : Bs w a len cap l) (hreach : len ≤ 140737488351232) :
    Calls Tryd.prog 56 #[.slice a len cap] w fun e w' => e = .returned (.pointer (some ⟨w'.heap.size - 1, 0, none⟩)) ∧ Tk w' (w'.heap.size - 1) ⟨l, 0⟩ ∧ w.heap.size ≤ w'.heap.size - 1 ∧ Below w.heap.size w w' := by
  have hll := Lib.hid h.len
  go_enter Tryd.func56, Tryd.ntmps56
  go_wp2_with fail
  refine (clone_any a len cap l w h hreach).mono ?_
  rintro e w1 ⟨v, rfl, hown, hb⟩
  obtain ⟨a2, cap2, rfl, hbs⟩ := Bs.of_own hown
  clear hown
  go_wp2
  go_ret
  have hs := hb.size
  refine ⟨by simp, ⟨a2, cap2, ?_, hbs.below (Nat.le_refl _) ((Below.refl _ _).alloc (Nat.le_refl _) _)⟩, by simp; omega, hb.alloc hs _⟩
  have := World.alloc_heap_new w1 (.cells #[.slice a2 l.length cap2, .int .i64 0] 124)
  simpa using this

set_option maxRecDepth 100000 in
set_option maxHeartbeats 1000000 in
/-- .. and of what it takes: a row of its own. -/
theorem take_own (a : Option Addr) (len cap : Nat) (l : List UInt8) (w : World) (h : Bs w a len cap l) (hreach : len ≤ 140737488351232) :
    Calls Tryd.prog 56 #[.slice a len cap] w (TakeOwn w l) := by
  have hll := Lib.hid h.len
  go_enter Tryd.func56, Tryd.ntmps56
  go_wp2_with fail
  refine (clone_any a len cap l w h hreach).mono ?_
  rintro e w1 ⟨v, rfl, hown, hb⟩
  obtain ⟨a2, cap2, rfl, _⟩ := own_slice hown
  go_wp2
  go_ret
  have hs := hb.size
  refine ⟨a2, cap2, by simp, ?_, hown.alloc _, by simp; omega, by simp, hb.alloc hs _⟩
  have := World.alloc_heap_new w1 (.cells #[.slice a2 l.length cap2, .int .i64 0] 124)
  simpa using this

/-! ### uint64 -/
set_option maxRecDepth 100000 in
set_option maxHeartbeats 1000000 in
theorem some_u64_nil (n : Int) (w : World) :
    Calls Tryd.prog 61 #[.pointer none, .int .i64 n, .func (.func 62) #[] #[]] w fun e w' => e = .returned (.int .u64 0) ∧ w = w' := by
  go_enter Tryd.func61, Tryd.ntmps61
  go_wp2
  go_ret
  exact ⟨rfl, rfl⟩

set_option maxRecDepth 100000 in
set_option maxHeartbeats 1000000 in
theorem some_u64_err (t : Nat) (s : TSt) (n : Int) (w : World) (h : Tk w t s) (he : s.e ≠ 0) :
    Calls Tryd.prog 61 #[.pointer (some ⟨t, 0, none⟩), .int .i64 n, .func (.func 62) #[] #[]] w fun e w' => e = .returned (.int .u64 0) ∧ w = w' := by
  obtain ⟨a, cap, hblk, hbs⟩ := h
  have hc1 : w.cell? ⟨t, 1, none⟩ = some (.int .i64 s.e) := by simp [World.cell?, hblk]
  have hne : (s.e == 0) = false := by simpa using he
  have hne' : (s.e != 0) = true := by simpa using he
  clear he
  generalize s.e = er at *
  go_enter Tryd.func61, Tryd.ntmps61
  go_wp2
  go_ret
  exact ⟨rfl, rfl⟩

set_option maxRecDepth 100000 in
set_option maxHeartbeats 1000000 in
theorem some_u64_any (t : Nat) (s : TSt) (n : Nat) (w : World) (h : Tk w t s) (h8 : n ≤ 8) (hreach : s.l.length ≤ 140737488351232) :
    Calls Tryd.prog 61 #[.pointer (some ⟨t, 0, none⟩), .int .i64 n, .func (.func 62) #[] #[]] w (TkPost w t (fun _ v => v = .int .u64 (beVal (takeF s n).1)) (takeF s n).2) := by
  by_cases he : s.e ≠ 0
  · refine (some_u64_err t s n w h he).mono ?_
    rintro e w' ⟨rfl, rfl⟩
    refine ⟨_, rfl, ?_, grown_below (Below.refl _ _) _, ?_⟩
    · simp only [takeF, if_pos he]; try rfl
    · simp only [takeF, if_pos he]; exact h
  · obtain ⟨sl, se⟩ := s
    obtain rfl : se = 0 := by simpa using he
    clear he
    have hT := h
    obtain ⟨a, cap, hblk, hbs⟩ := h
    dsimp only at hbs hblk hreach
    have hc0 : w.cell? ⟨t, 0, none⟩ = some (.slice a sl.length cap) := by simp [World.cell?, hblk]
    have hc1 : w.cell? ⟨t, 1, none⟩ = some (.int .i64 0) := by simp [World.cell?, hblk]
    have hf0 : w.frozen? ⟨t, 0, none⟩ = false := by simp [World.frozen?, hblk]
    have hf1 : w.frozen? ⟨t, 1, none⟩ = false := by simp [World.frozen?, hblk]
    have hm := hbs.cap
    unfold maxLen at hm
    by_cases hlt : sl.length < n
    · have hts : takeF ⟨sl, 0⟩ n = ([], ⟨sl, 10⟩) := by simp [takeF, hlt]
      rw [hts]
      clear hts
      have hnew : Tk (w.setCell ⟨t, 1, none⟩ (.int .i64 10)) t ⟨sl, 10⟩ :=
        ⟨a, cap, heap_setCell_at 1 (.int .i64 10) hblk, hbs.grown (grown_setCell _ _ _) (bs_ne hblk hbs)⟩
      have hgr := grown_setCell w ⟨t, 1, none⟩ (.int .i64 10)
      clear hblk hbs hT
      go_enter Tryd.func61, Tryd.ntmps61
      go_wp2
      go_ret
      exact ⟨_, rfl, rfl, hgr, hnew⟩
    · have hts : takeF ⟨sl, 0⟩ n = (sl.take n, ⟨sl.drop n, 0⟩) := by simp [takeF, hlt]
      rw [hts]
      clear hts
      obtain ⟨a2, ha2, hsl⟩ := slice_from elem_bytes size_bytes a sl.length cap n (by omega)
      have q1 := hbs.take n (by omega)
      have q2 := hbs.drop n (by omega)
      rw [← ha2] at q2
      clear ha2
      have hgr := grown_setCell w ⟨t, 0, none⟩ (.slice a2 (sl.length - n) (cap - n))
      have hnew : Tk (w.setCell ⟨t, 0, none⟩ (.slice a2 (sl.length - n) (cap - n))) t ⟨sl.drop n, 0⟩ :=
        ⟨a2, cap - n, by rw [List.length_drop]; exact heap_setCell_at 0 (.slice a2 (sl.length - n) (cap - n)) hblk, by rw [List.length_drop]; exact q2.grown hgr (bs_ne hblk q2)⟩
      have q1' := q1.grown hgr (bs_ne hblk q1)
      clear hblk hbs hT q1 q2
      go_enter Tryd.func61, Tryd.ntmps61
      go_wp2_with fail
      refine (num1_any _ _ _ _ _ q1' h8).mono ?_
      rintro e w2 ⟨rfl, rfl⟩
      go_wp2
      go_ret
      exact ⟨_, rfl, rfl, hgr, hnew⟩
end Go.Proofs.YtopnfpobbemfbaaDoor

/- The walks of the chapter on numbers and texts as bytes: a taker's methods. -/
namespace Go.Proofs.YtopnfpobbemfbaaDoor
open Go.RowKit

/-! a taker that there isn't -/
set_option maxRecDepth 100000 in
set_option maxHeartbeats 1000000 in
theorem tNum_nil (size : Int) (w : World) :
    Calls Tryd.prog 57 #[.pointer none, .int .i64 size] w fun e w' => e = .returned (.int .u64 0) ∧ w = w' := by
  go_enter Tryd.func57, Tryd.ntmps57
  go_wp2_with (go_at_call 61; refine (some_u64_nil _ _).mono ?_; rintro e w' ⟨rfl, rfl⟩)
  go_ret
  exact ⟨rfl, rfl⟩
/-! a taker -/
set_option maxRecDepth 100000 in
set_option maxHeartbeats 1000000 in
theorem tNum_any (t : Nat) (s : TSt) (size : Int) (w : World) (h : Tk w t s) (hreach : s.l.length ≤ 140737488351232) :
    Calls Tryd.prog 57 #[.pointer (some ⟨t, 0, none⟩), .int .i64 size] w (TkPost w t (fun _ v => v = .int .u64 ((tNum s size).1 : Int)) (tNum s size).2) := by
  have hT := h
  obtain ⟨a, cap, hblk, hbs⟩ := h
  have hc1 : w.cell? ⟨t, 1, none⟩ = some (.int .i64 s.e) := by simp [World.cell?, hblk]
  have hf1 : w.frozen? ⟨t, 1, none⟩ = false := by simp [World.frozen?, hblk]
  by_cases he : s.e = 0
  · by_cases hsz : size < 1 ∨ 8 < size
    · have hr : tNum s size = (0, { s with e := 1 }) := by simp [tNum, he, hsz]
      rw [hr]
      have hnew : Tk (w.setCell ⟨t, 1, none⟩ (.int .i64 1)) t { s with e := 1 } :=
        ⟨a, cap, heap_setCell_at 1 (.int .i64 1) hblk, hbs.grown (grown_setCell _ _ _) (bs_ne hblk hbs)⟩
      have hgr := grown_setCell w ⟨t, 1, none⟩ (.int .i64 1)
      rw [he] at hc1
      clear hr hblk hbs hT he
      rcases hsz with hsz | hsz
      · go_enter Tryd.func57, Tryd.ntmps57
        go_wp2
        go_ret
        exact ⟨_, rfl, rfl, hgr, hnew⟩
      · have hsz' : ¬ size < 1 := by omega
        go_enter Tryd.func57, Tryd.ntmps57
        go_wp2
        go_ret
        exact ⟨_, rfl, rfl, hgr, hnew⟩
    · obtain ⟨n, rfl⟩ := Int.eq_ofNat_of_zero_le (show 0 ≤ size by omega)
      have hr : tNum s (n : Int) = (beVal (takeF s n).1, (takeF s n).2) := by simp only [tNum]; rw [if_neg (fun h => hsz h.2)]; rfl
      rw [hr]
      have hs1 : ¬ (n : Int) < 1 := by omega
      have hs2 : ¬ (8 : Int) < (n : Int) := by omega
      have hcall := some_u64_any t s n w hT (by omega) hreach
      rw [he] at hc1
      clear hr hblk hbs hT he hsz
      go_enter Tryd.func57, Tryd.ntmps57
      go_wp2_with fail
      refine hcall.mono ?_
      rintro e w' ⟨v, rfl, rfl, hgr, hnew⟩
      go_wp2
      go_ret
      exact ⟨_, rfl, rfl, hgr, hnew⟩
  · have hr : tNum s size = (0, s) := by simp [tNum, takeF, he, beVal_nil]
    rw [hr]
    have hcall := some_u64_err t s size w hT he
    have hne : (s.e == 0) = false := by simpa using he
    clear hr hblk hbs he
    generalize s.e = er at *
    go_enter Tryd.func57, Tryd.ntmps57
    go_wp2_with fail
    refine hcall.mono ?_
    rintro e w' ⟨rfl, rfl⟩
    go_wp2
    go_ret
    exact ⟨_, rfl, rfl, grown_below (Below.refl _ _) _, hT⟩

theorem takeF_len (s : TSt) (n : Nat) : (takeF s n).2.l.length ≤ s.l.length := by
  unfold takeF; split
  · exact Nat.le_refl _
  · split
    · exact Nat.le_refl _
    · simp
theorem tNum_len (s : TSt) (size : Int) : (tNum s size).2.l.length ≤ s.l.length := by
  unfold tNum; split
  · exact Nat.le_refl _
  · exact takeF_len _ _
theorem takeF_le (s : TSt) (n : Nat) : (takeF s n).1.length ≤ n := by
  unfold takeF; split
  · simp
  · split
    · simp
    · simp; omega
theorem tNum_lt (s : TSt) (k : Nat) : (tNum s (k : Int)).1 < 256 ^ k := by
  unfold tNum; split
  · exact Nat.pow_pos (by decide)
  · exact Nat.lt_of_lt_of_le (beVal_lt _) (Nat.pow_le_pow_right (by decide) (takeF_le _ _))

end Go.Proofs.YtopnfpobbemfbaaDoor

/- The walks of the chapter on pages of cells: a page is unpacked. -/
namespace Go.Proofs.YtopnfpobbemfbaaDoor
open Go.RowKit

/-! what a page tells -/
def slotS (b : List UInt8) (i : Nat) : Nat := (b[6 + i]?.getD 0).toNat
def endS (b : List UInt8) : Nat → Nat
  | 0 => 128
  | i + 1 => slotS b i
def okS (b : List UInt8) (n : Nat) : Bool := (List.range n).all fun i => decide (slotS b i ≤ endS b i)
def cellS (b : List UInt8) (i : Nat) : List UInt8 := (b.drop (slotS b i)).take (endS b i - slotS b i)
def cutS (b : List UInt8) (n : Nat) : List (List UInt8) := (List.range n).map (cellS b)
def kindS (b : List UInt8) : UInt8 := b[4]?.getD 0
def numS (b : List UInt8) : Nat := (b[5]?.getD 0).toNat
/-- Is it a page, its sum apart? -/
def unpB (b : List UInt8) : Bool := okS b (min (numS b) 122) && (fits (kindS b) (cutS b (min (numS b) 122)) && pageOf (kindS b) (cutS b (min (numS b) 122)) == b)
def unpE (b : List UInt8) : Int := if b.length ≠ 128 then 1 else if beVal (b.take 4) ≠ crcOf (b.drop 4) then 12 else if unpB b then 0 else 11
def unpK (b : List UInt8) : UInt8 := if unpE b = 0 then kindS b else 0
def unpL (b : List UInt8) : List (List UInt8) := if unpE b = 0 then cutS b (min (numS b) 122) else []

theorem okS_succ (b : List UInt8) (n : Nat) : okS b (n + 1) = (okS b n && decide (slotS b n ≤ endS b n)) := by
  simp [okS, List.range_succ]
theorem cutS_succ (b : List UInt8) (n : Nat) : cutS b (n + 1) = cutS b n ++ [cellS b n] := by
  simp [cutS, List.range_succ]
theorem cutS_length (b : List UInt8) (n : Nat) : (cutS b n).length = n := by simp [cutS]
theorem slotS_lt (b : List UInt8) (i : Nat) : slotS b i < 256 := (b[6 + i]?.getD 0).toNat_lt
theorem okS_end (b : List UInt8) (n : Nat) (h : okS b n = true) : endS b n ≤ 128 := by
  induction n with
  | zero => simp [endS]
  | succ n ih =>
    rw [okS_succ, Bool.and_eq_true, decide_eq_true_eq] at h
    have := ih h.1
    rw [show endS b (n + 1) = slotS b n from rfl]; omega
theorem okS_mono (b : List UInt8) {m n : Nat} (h : okS b m = false) (hmn : m ≤ n) : okS b n = false := by
  rw [okS, List.all_eq_false] at h ⊢
  obtain ⟨x, hx, hx2⟩ := h
  exact ⟨x, by simp at hx ⊢; omega, hx2⟩
theorem cellS_length (b : List UInt8) (n : Nat) (hb : b.length = 128) (h : okS b (n + 1) = true) : (cellS b n).length = endS b n - slotS b n := by
  have h1 := okS_end b n (by rw [okS_succ, Bool.and_eq_true] at h; exact h.1)
  simp [cellS]; omega
theorem cutS_lens (b : List UInt8) (n : Nat) (hb : b.length = 128) (h : okS b n = true) : lens (cutS b n) = 128 - endS b n := by
  induction n with
  | zero => simp [cutS, lens, endS]
  | succ n ih =>
    have h0 := h
    rw [okS_succ, Bool.and_eq_true, decide_eq_true_eq] at h
    have h1 := okS_end b n h.1
    rw [cutS_succ, lens_append, lens_one, ih h.1, cellS_length b n hb h0, show endS b (n + 1) = slotS b n from rfl]
    omega

/-! a row of rows of bytes of the call's own -/
def OwnBss (w : World) (base : Nat) (v : Value) (l : List (List UInt8)) : Prop :=
  ∃ vs, w.ownsRow base 32 1 v l.length vs ∧ vs.length = l.length ∧ ∀ (i : Nat) (c : List UInt8), l[i]? = some c → ∃ u, vs[i]? = some u ∧ w.ownsRow base 5 1 u c.length ((toI c).map (Value.int .u8))

theorem own_types {w : World} {b1 b2 s1 s2 n1 n2 : Nat} {e1 e2 : TypeId} {v1 v2 : Value} {xs1 xs2 : List Value} (h1 : w.ownsRow b1 e1 s1 v1 n1 xs1) (h2 : w.ownsRow b2 e2 s2 v2 n2 xs2) (hne : e1 ≠ e2) : v1.ownBlock = none ∨ v1.ownBlock ≠ v2.ownBlock := by
  rcases h1.2 with ⟨rfl, rfl⟩ | ⟨g, cap, cur, rfl, _, hg, _⟩
  · exact .inl rfl
  · right
    rcases h2.2 with ⟨rfl, rfl⟩ | ⟨g2, cap2, cur2, rfl, _, hg2, _⟩
    · intro e; cases e
    · intro e
      have e' : g = g2 := by simpa [Value.ownBlock] using e
      subst e'
      rw [hg] at hg2
      cases hg2
      exact hne rfl
theorem own_below {w w' : World} {base : Nat} {e : TypeId} {size : Nat} {v : Value} {n : Nat} {xs : List Value} {B : Nat} (h : w.ownsRow base e size v n xs) (hB : w.heap.size ≤ B) (hb : Below B w w') : w'.ownsRow base e size v n xs := by
  refine ⟨h.1, h.2.imp id fun ⟨g, cap, cur, e1, hg, hh, r⟩ => ⟨g, cap, cur, e1, hg, ?_, r⟩⟩
  rw [hb.block g (Nat.lt_of_lt_of_le (Array.getElem?_eq_some_iff.1 hh).1 hB)]; exact hh
theorem OwnBss.nil (w : World) (base : Nat) : OwnBss w base (.slice none 0 0) [] := ⟨[], World.ownsRow_nil _ _ _ _, rfl, fun i c h => by simp at h⟩
theorem OwnBss.below {w w' : World} {base : Nat} {v : Value} {l : List (List UInt8)} {B : Nat} (h : OwnBss w base v l) (hB : w.heap.size ≤ B) (hb : Below B w w') : OwnBss w' base v l := by
  obtain ⟨vs, h1, h2, h3⟩ := h
  exact ⟨vs, own_below h1 hB hb, h2, fun i c hc => by obtain ⟨u, e1, e2⟩ := h3 i c hc; exact ⟨u, e1, own_below e2 hB hb⟩⟩
theorem OwnBss.base {w : World} {base b0 : Nat} {v : Value} {l : List (List UInt8)} (h : OwnBss w base v l) (hb : b0 ≤ base) : OwnBss w b0 v l := by
  obtain ⟨vs, h1, h2, h3⟩ := h
  exact ⟨vs, own_base h1 hb, h2, fun i c hc => by obtain ⟨u, e1, e2⟩ := h3 i c hc; exact ⟨u, e1, own_base e2 hb⟩⟩
/-- One more. -/
theorem OwnBss.snoc {w w' : World} {base : Nat} {v v' u : Value} {n : Nat} {l : List (List UInt8)} {c : List UInt8} {vs : List Value} (h1 : w.ownsRow base 32 1 v n vs) (hn : n = l.length)
    (h2 : vs.length = l.length) (h3 : ∀ (i : Nat) (c : List UInt8), l[i]? = some c → ∃ u, vs[i]? = some u ∧ w.ownsRow base 5 1 u c.length ((toI c).map (Value.int .u8)))
    (hu : w.ownsRow base 5 1 u c.length ((toI c).map (Value.int .u8))) (hg : w.grownBy w' v.ownBlock) (h1' : w'.ownsRow base 32 1 v' (n + 1) (vs ++ [u])) : OwnBss w' base v' (l ++ [c]) := by
  refine ⟨vs ++ [u], by rw [List.length_append, ← hn]; exact h1', by simp [h2], fun i d hd => ?_⟩
  by_cases hi : i < l.length
  · rw [List.getElem?_append_left hi] at hd
    obtain ⟨x, e1, e2⟩ := h3 i d hd
    exact ⟨x, by rw [List.getElem?_append_left (by omega)]; exact e1, e2.kept hg (own_types e2 h1 (by decide))⟩
  · have hlen := (List.getElem?_eq_some_iff.1 hd).1
    simp at hlen
    obtain rfl : i = l.length := by omega
    rw [List.getElem?_append_right (Nat.le_refl _), Nat.sub_self] at hd
    cases hd
    exact ⟨u, by rw [List.getElem?_append_right (by omega), h2, Nat.sub_self]; rfl, hu.kept hg (own_types hu h1 (by decide))⟩
theorem OwnBss.bss {w : World} {base : Nat} {v : Value} {l : List (List UInt8)} (h : OwnBss w base v l) : ∃ a cap, v = .slice a l.length cap ∧ Bss w a l.length cap l := by
  obtain ⟨vs, ⟨h1, h2⟩, h3, h4⟩ := h
  simp only [Nat.mul_one] at h1
  rcases h2 with ⟨rfl, h0⟩ | ⟨g, cap, cur, rfl, hb, hg, hn, hm, hc, ht⟩
  · rw [h0]
    exact ⟨none, 0, rfl, h0, Nat.le_refl _, by unfold maxLen; omega, fun _ => rfl, .inl rfl⟩
  · refine ⟨_, cap, rfl, rfl, hn, hm, (fun h => by cases h), .inr ⟨g, 0, rfl, (Array.getElem?_eq_some_iff.1 hg).1, fun i y hy => ?_⟩⟩
    obtain ⟨u, e1, e2⟩ := h4 i y hy
    obtain ⟨a, cp, rfl, hbs⟩ := Bs.of_own e2
    refine ⟨[.slice a y.length cp], rfl, ⟨a, _, cp, rfl, hbs⟩, fun j x hx => ?_⟩
    have hi := (List.getElem?_eq_some_iff.1 hy).1
    match j, hx with
    | 0, hx =>
      cases hx
      simp only [World.cell?, hg, Nat.zero_add, Nat.mul_one, Nat.add_zero]
      have e : (cur.toList.take (l.length * 1))[i]? = cur.toList[i]? := List.getElem?_take_of_lt (by omega)
      rw [ht] at e
      rw [← Array.getElem?_toList, ← e]
      exact e1
    | j + 1, hx => simp at hx

/-- 'b[l:h:m]'. -/
theorem Bs.sub {w : World} {a : Option Addr} {len cap : Nat} {L : List UInt8} (h : Bs w a len cap L) (l r m : Nat) (h1 : l ≤ r) (h2 : r ≤ len) (h3 : r ≤ m) (h4 : m ≤ cap) :
    Bs w (if m = l then a else a.map (·.add (l * 1))) (r - l) (m - l) ((L.drop l).take (r - l)) := by
  have hl := h.len
  have hc := h.cap
  refine ⟨by simp [toI_length]; omega, by omega, by omega, (fun hn => ?_), ?_⟩
  · by_cases e : m = l
    · omega
    · rw [if_neg e] at hn
      have : a = none := by simpa using hn
      have := h.2.2.2.1 this
      omega
  · by_cases e : r = l
    · exact .inl (by omega)
    · obtain ⟨b, off, rfl, hb, hcell⟩ := h.cell (k := l) (by omega)
      refine .inr ⟨b, off + l, by rw [if_neg (by omega)]; simp [add_none], hb, fun i hi => ?_⟩
      rw [toI_get, Nat.add_assoc, hcell (l + i) (by omega)]
      simp [hi]
theorem sub_run {P : Program} {T : TypeId} (hT : P.underlying T = some (.slice (P.elem T))) (hz : ∀ w, (sizeOf (P.elem T)).run P w = .ok 1 w) (a : Option Addr) (len cap l r m : Nat) (h1 : l ≤ r) (h3 : r ≤ m) (h4 : m ≤ cap) :
    ∃ a2, a2 = (if m = l then a else a.map (·.add (l * 1))) ∧ ∀ (k k2 k3 : IntKind) w, (Instr.slice T (.slice a len cap) (some (.int k l)) (some (.int k2 r)) (some (.int k3 m))).run P w = .ok (.slice a2 (r - l) (m - l)) w := by
  refine ⟨_, rfl, fun k k2 k3 w => ?_⟩
  rw [run_slice_lhm w T a len cap hT k k2 k3 l r m (by omega) (by omega) (by omega) (by omega), hz]
  rfl
end Go.Proofs.YtopnfpobbemfbaaDoor
