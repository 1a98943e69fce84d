/- Texts that other texts of this claim lean on, one behind the other. -/
import Derived.Test.YtfidfbgplfjakaaDoorM1
import Derived.Test.YtfidfbgplfjakaaDoorM3
import Derived.Test.YtfidfbgplfjakaaDoorM5
import Derived.Outline
import Derived.Test.YtfidfbgplfjakaaDoorM7
import Derived.Test.YtfidfbgplfjakaaDoorM8
import Derived.OwnWalk
import Derived.Test.YtfidfbgplfjakaaDoorM4
import Derived.Test.YtfidfbgplfjakaaDoorM6
/- What came in, opened: slices of integers. -/
namespace Go.Proofs.YtfidfbgplfjakaaDoor
open Go.RowKit Go.Deep Go.WideShapes Go.ChangeShapes

/-- Integers that came in. -/
def Ints (w : World) (a : Option Addr) (len cap : Nat) (l : List Int) : Prop := Row .i64 w a len cap l ∧ ∀ n ∈ l, (Lit.int .i64 n).wf = true
theorem open_intsR {H : Type} {enc : TypeId × Value → H} {P : Program} {w : World} {base : Nat} {t e : TypeId} (ht : P.underlying t = some (.slice e)) (he : P.underlying e = some (.int .i64)) (hc : P.cellsOf e = 1)
    {v : Value} {d : DataW H} {p : List MemPlace} (hv : Value.okWide P w .any base t v) (h : DataW.Trod enc P w 0 (fun _ => true) true t v d p) :
    ∃ a len cap l, v = .slice a len cap ∧ Ints w a len cap l := by
  obtain ⟨a, len, cap, rfl⟩ := okWide_slice ht hv
  obtain ⟨fuel, hf⟩ := h
  rcases open_ints ht he hc hf with ⟨hcs, _⟩ | ⟨x, l, c, zs, hcs, _, hl, hm, hz, _, hcell, hwz⟩
  · simp [Value.cells] at hcs
    obtain ⟨rfl, rfl, rfl⟩ := hcs
    exact ⟨none, 0, 0, _, rfl, Row.of_frame (.inl ⟨rfl, rfl, rfl, rfl⟩)⟩
  · simp [Value.cells] at hcs
    obtain ⟨rfl, rfl, rfl⟩ := hcs
    exact ⟨_, _, _, _, rfl, Row.of_frame (.inr ⟨_, rfl, hl, hm, by simpa using hz, hcell, hwz⟩)⟩
end Go.Proofs.YtfidfbgplfjakaaDoor

/- A disk of the call's own beside blocks that are others'. -/
namespace Go.Proofs.YtfidfbgplfjakaaDoor
open Go.RowKit

/-- A disk of the call's own, and blocks that are others'. -/
def OneK (B : Nat) (K : List Nat) (w : World) (da M : Nat) (d : List Rg) : Prop := ∃ F bs, DskIn w F da M bs d ∧ (∀ k ∈ F, B ≤ k ∧ k ∉ K) ∧ B ≤ w.heap.size ∧ ∀ k ∈ K, k < w.heap.size
def KeepK (K : List Nat) (w w' : World) : Prop := ∀ k ∈ K, w'.heap[k]? = w.heap[k]?
theorem OneK.opens {B : Nat} {K : List Nat} {w : World} {da M : Nat} {d : List Rg} (h : OneK B K w da M d) : Opens B w.heap.size w da M d (fun w' M' d' => OneK B K w' da M' d' ∧ Below B w w' ∧ KeepK K w w') := by
  obtain ⟨F, bs, h1, h2, h3, h4⟩ := h
  refine ⟨F, bs, h1, fun k hk => ⟨(h2 k hk).1, h1.lt k hk⟩, Nat.le_refl _, h3, fun w' F' bs' d' M' _ ho hd hF => ⟨⟨F', bs', hd, fun k hk => ?_, by have := ho.size; omega, fun k hk => Nat.lt_of_lt_of_le (h4 k hk) ho.size⟩, ho.below h3 (fun k hk => (h2 k hk).1), fun k hk => ho.block (h4 k hk) (fun hk2 => (h2 k hk2).2 hk)⟩⟩
  rcases hF k hk with h5 | h5
  · exact h2 k h5
  · exact ⟨by omega, fun hk2 => by have := h4 k hk2; omega⟩
theorem OneK.one {B : Nat} {K : List Nat} {w : World} {da M : Nat} {d : List Rg} (h : OneK B K w da M d) : One B w da M d := by
  obtain ⟨F, bs, h1, h2, h3, h4⟩ := h
  exact ⟨F, bs, h1, fun k hk => (h2 k hk).1, h3⟩
theorem One.k {B : Nat} {w : World} {da M : Nat} {d : List Rg} (h : One B w da M d) : OneK B [] w da M d := by
  obtain ⟨F, bs, h1, h2, h3⟩ := h
  exact ⟨F, bs, h1, fun k hk => ⟨h2 k hk, by simp⟩, h3, by simp⟩
theorem OneK.below {B : Nat} {K : List Nat} {w w' : World} {da M : Nat} {d : List Rg} (h : OneK B K w da M d) (hb : Below w.heap.size w w') : OneK B K w' da M d := by
  obtain ⟨F, bs, h1, h2, h3, h4⟩ := h
  exact ⟨F, bs, h1.below hb, h2, by have := hb.size; omega, fun k hk => Nat.lt_of_lt_of_le (h4 k hk) hb.size⟩
theorem OneK.add {B : Nat} {K : List Nat} {w w' : World} {da M : Nat} {d : List Rg} (h : OneK B K w da M d) (hb : Below w.heap.size w w') (g : Nat) (h1 : w.heap.size ≤ g) (h2 : g < w'.heap.size) : OneK B (g :: K) w' da M d := by
  obtain ⟨F, bs, e1, e2, e3, e4⟩ := h
  refine ⟨F, bs, e1.below hb, fun k hk => ⟨(e2 k hk).1, fun hk2 => ?_⟩, by omega, fun k hk => ?_⟩
  · rcases List.mem_cons.1 hk2 with rfl | hk2
    · have := e1.lt k hk; omega
    · exact (e2 k hk).2 hk2
  · rcases List.mem_cons.1 hk with rfl | hk
    · exact h2
    · exact Nat.lt_of_lt_of_le (e4 k hk) hb.size
theorem write_k {B : Nat} {K : List Nat} {w : World} {da M : Nat} {d : List Rg} (h : OneK B K w da M d) {a : Option Addr} {len cap : Nat} {l : List UInt8} (hb : Bs w a len cap l) (hF : ∀ g off, a = some ⟨g, off, none⟩ → g ∈ K ∨ g < B) (hM : M ≤ 900000) (r p : Int) :
    Calls Tryd.prog 16 #[.pointer (some ⟨da, 0, none⟩), .int .i64 r, .int .i64 p, .slice a len cap] w fun e w' => e = .returned (.int .i64 (writeE d r p l)) ∧ OneK B K w' da (M + 1) (writeD d r p l) ∧ Below B w w' ∧ KeepK K w w' := by
  obtain ⟨F, bs, h1, h2, h3, h4⟩ := h
  refine (write_any h1 hb (fun g off hg hk => by have := h2 g hk; rcases hF g off hg with h5 | h5; exact this.2 h5; omega) hM r p).mono ?_
  rintro e w' ⟨rfl, ho, F', bs', hd, hF'⟩
  refine ⟨rfl, ⟨F', bs', hd, fun k hk => ?_, by have := ho.size; omega, fun k hk => Nat.lt_of_lt_of_le (h4 k hk) ho.size⟩, ho.below h3 (fun k hk => (h2 k hk).1), fun k hk => ho.block (h4 k hk) (fun hk2 => (h2 k hk2).2 hk)⟩
  rcases hF' k hk with h5 | h5
  · exact h2 k h5
  · exact ⟨by omega, fun hk2 => by have := h4 k hk2; omega⟩
/-- The blocks from one on, below another one. -/
def span (lo hi : Nat) : List Nat := List.range' lo (hi - lo)
theorem mem_span {lo hi k : Nat} : k ∈ span lo hi ↔ lo ≤ k ∧ k < hi := by unfold span; rw [List.mem_range'_1]; omega
/-- What was made behind a disk stays. -/
theorem One.span {B : Nat} {w w' : World} {da M : Nat} {d : List Rg} (h : One B w da M d) (hb : Below w.heap.size w w') : OneK B (span w.heap.size w'.heap.size) w' da M d := by
  obtain ⟨F, bs, e1, e2, e3⟩ := h
  refine ⟨F, bs, e1.below hb, fun k hk => ⟨e2 k hk, fun h2 => ?_⟩, by have := hb.size; omega, fun k hk => (mem_span.1 hk).2⟩
  have := e1.lt k hk
  have := mem_span.1 h2
  omega
theorem KeepK.refl (K : List Nat) (w : World) : KeepK K w w := fun _ _ => rfl
theorem KeepK.trans {K : List Nat} {a b c : World} (h : KeepK K a b) (k : KeepK K b c) : KeepK K a c := fun i hi => (k i hi).trans (h i hi)
theorem KeepK.of_below {lo : Nat} {w w' : World} (hb : Below w.heap.size w w') {hi : Nat} (h : hi ≤ w.heap.size) : KeepK (span lo hi) w w' := fun k hk => hb.block k (by have := mem_span.1 hk; omega)
theorem OwnBss.keptS {w w' : World} {base lo hi : Nat} {v : Value} {l : List (List UInt8)} (h : OwnBss w base v l) (hk : KeepK (span lo hi) w w') (hlo : lo ≤ base) (hhi : w.heap.size ≤ hi) : OwnBss w' base v l := by
  have kk : ∀ {e : TypeId} {sz : Nat} {u : Value} {n : Nat} {xs : List Value}, w.ownsRow base e sz u n xs → w'.ownsRow base e sz u n xs := fun {e sz u n xs} ho =>
    ⟨ho.1, ho.2.imp id fun ⟨g, cap, cur, e1, hg1, hh, r⟩ => ⟨g, cap, cur, e1, hg1, (hk g (mem_span.2 ⟨by omega, by have := (Array.getElem?_eq_some_iff.1 hh).1; omega⟩)).trans hh, r⟩⟩
  obtain ⟨vs, h1, h2, h3⟩ := h
  exact ⟨vs, kk h1, h2, fun i c hc => by obtain ⟨u, hu, ho⟩ := h3 i c hc; exact ⟨u, hu, kk ho⟩⟩
end Go.Proofs.YtfidfbgplfjakaaDoor

/- What the document's answers use of chapter 03: rows of numbers that are the same; a bit. -/
namespace Go.Proofs.YtfidfbgplfjakaaDoor
open Go.RowKit

theorem drewN_add (w : World) (a b : Nat) : (w.drewN a).drewN b = w.drewN (a + b) := by
  cases w; simp [World.drewN, Nat.add_assoc]
set_option maxRecDepth 100000 in
set_option maxHeartbeats 1000000 in
theorem ints_any {w : World} {a b : Option Addr} {n ca m cb : Nat} {l k : List Int} (ha : Row .i64 w a n ca l) (hb : Row .i64 w b m cb k) :
    Calls Tryd.prog 20 #[.slice a n ca, .slice b m cb] w fun e w' => e = .returned (.bool (decide (l = k))) ∧ ∃ j, w' = w.drewN j := by
  have hn := ha.1
  have hm := hb.1
  have hna : n ≤ 9223372036854775807 := by have := ha.2.1; have := ha.2.2.1; unfold maxLen at this; omega
  have hmb : m ≤ 9223372036854775807 := by have := hb.2.1; have := hb.2.2.1; unfold maxLen at this; omega
  by_cases hnm : n = m
  · subst hnm
    have e0 : ((n : Int) == (n : Int)) = true := by simp
    have HA := Lib.hid ha.2.2.2.2
    have HB := Lib.hid hb.2.2.2.2
    have HN := Lib.hid hn
    have HM := Lib.hid hm
    clear hn hm ha hb
    go_enter Tryd.func20, Tryd.ntmps20
    go_wp2
    go_loopw [5] (fun s wr => ∃ i : Nat, i ≤ n ∧ s = .int .i64 i ∧ l.take i = k.take i ∧ ∃ j, wr = w.drewN j) (fun s _ => n - (intOf s).toNat)
    case atStart => exact ⟨0, Nat.zero_le _, rfl, by simp, 0, rfl⟩
    case round =>
      obtain ⟨i, hi, rfl, htk, j, rfl⟩ := hrel
      by_cases hlt : i < n
      · obtain ⟨b1, o1, rfl, _, c1⟩ := HA.out.resolve_left (by omega)
        obtain ⟨b2, o2, rfl, _, c2⟩ := HB.out.resolve_left (by omega)
        have d1 := c1 i hlt
        have d2 := c2 i hlt
        have hl := HN.out
        have hk := HM.out
        have hts : l.take (i + 1) = l.take i ++ [l[i]?.getD 0] := by rw [List.take_succ_eq_append_getElem (by omega), List.getElem?_eq_getElem (by omega)]; rfl
        have htk2 : k.take (i + 1) = k.take i ++ [k[i]?.getD 0] := by rw [List.take_succ_eq_append_getElem (by omega), List.getElem?_eq_getElem (by omega)]; rfl
        by_cases he : l[i]?.getD 0 = k[i]?.getD 0
        · have HT : Hid (l.take (i + 1) = k.take (i + 1)) := Lib.hid (by rw [hts, htk2, htk, he])
          clear hts htk2 htk c1 c2 hl hk
          generalize l[i]?.getD 0 = x at *
          generalize k[i]?.getD 0 = y at *
          subst he
          have q1 : (x == x) = true := by simp
          go_wp2
          go_quiet (fail)
          go_wp2
          go_roundw
          case rel => exact ⟨i + 1, hlt, by go_num, HT.out, _, rfl⟩
          case measure => simp [intOf]; omega
        · have HF : Hid (decide (l = k) = false) := Lib.hid (by
            apply decide_eq_false
            intro e
            exact he (by rw [e]))
          clear hts htk2 htk c1 c2 hl hk
          generalize l[i]?.getD 0 = x at *
          generalize k[i]?.getD 0 = y at *
          have q1 : (x == y) = false := by simpa using he
          clear he
          go_wp2
          go_quiet (fail)
          go_wp2
          go_ret
          exact ⟨ret_bool HF.out.symm, _, drewN_add _ _ _⟩
      · obtain rfl : i = n := by omega
        have HF : Hid (decide (l = k) = true) := Lib.hid (by
          apply decide_eq_true
          rwa [List.take_of_length_le (by rw [HN.out]; exact Nat.le_refl _), List.take_of_length_le (by rw [HM.out]; exact Nat.le_refl _)] at htk)
        clear htk
        go_wp2
        go_ret
        exact ⟨ret_bool HF.out.symm, _, rfl⟩
  · have e0 : ((n : Int) == (m : Int)) = false := by simp; omega
    have e1 : (n == m) = false := by simpa using hnm
    have HF : Hid (decide (l = k) = false) := Lib.hid (by
      apply decide_eq_false
      intro e; subst e; omega)
    clear hn hm ha hb hnm
    go_enter Tryd.func20, Tryd.ntmps20
    go_wp2
    go_ret
    exact ⟨ret_bool HF.out.symm, 0, rfl⟩
end Go.Proofs.YtfidfbgplfjakaaDoor

/- The walks of value and awake (long values). -/
namespace Go.Proofs.YtfidfbgplfjakaaDoor
open Go.RowKit

theorem toL_len {s : ByteArray} (h : s.size ≤ maxLen) : s.data.toList.length ≤ 9223372036854775807 := by
  unfold maxLen at h
  rw [Array.length_toList]
  have : s.data.size = s.size := rfl
  omega
/-- So many bytes, no two on end the same. -/
def valC (n : Nat) : List UInt8 := (List.range n).map fun i => UInt8.ofNat (7 * i)
theorem valC_length (n : Nat) : (valC n).length = n := by simp [valC]
def valP (n k : Nat) : List UInt8 := valC k ++ List.replicate (n - k) 0
theorem valP_set (n k : Nat) (h : k < n) : (valP n k).set k (UInt8.ofNat (7 * k)) = valP n (k + 1) := by
  unfold valP
  rw [List.set_append_right _ _ (by simp [valC_length]), valC_length, Nat.sub_self]
  obtain ⟨m, hm⟩ : ∃ m, n - k = m + 1 := ⟨n - k - 1, by omega⟩
  rw [hm, List.replicate_succ, List.set_cons_zero, show n - (k + 1) = m by omega]
  simp [valC, List.range_succ]
theorem made_listC (n : Nat) (v : Value) : (Array.replicate n v).toList = List.replicate n v := by simp
set_option maxRecDepth 100000 in
set_option maxHeartbeats 2000000 in
theorem value_any (n : Nat) (hn : n ≤ 1000) (w : World) : Calls Tryd.prog 22 #[.int .i64 (n : Int)] w fun e w' => e = .returned (.string (strOf (valC n))) ∧ Below w.heap.size w w' := by
  obtain ⟨i0, hi, hz0, hz1, hz2⟩ := info_parts info_u8
  go_enter Tryd.func22, Tryd.ntmps22
  go_wp2_with (at_make; refine wpList_make_full _ rfl _ _ 31 rfl w.heap.size 5 i0 _ 1 Tryd.underlying31 hi hz0 hz1 .i64 .i64 _ _ n rfl rfl rfl rfl (by rw [hz2]; omega) (by unfold maxLen; omega) (by simp) ?_)
  intro w1 hown hg
  have hB := (Below.refl w.heap.size w).grown hg (Nat.le_refl _) (fun k e => by cases e)
  have hown' : w1.ownsRow w.heap.size 5 1 (.slice (some ⟨w.heap.size, 0, none⟩) n n) n ((toI (valP n 0)).map (Value.int .u8)) := by
    simp only [made_list] at hown
    simpa [toI, valP, valC] using hown
  clear hown hg
  go_wp2
  go_loopw [4] (fun i wr => ∃ k : Nat, k ≤ n ∧ i = .int .i64 k ∧ wr.ownsRow w.heap.size 5 1 (.slice (some ⟨w.heap.size, 0, none⟩) n n) n ((toI (valP n k)).map (Value.int .u8)) ∧ Below w.heap.size w wr) (fun i _ => n - (intOf i).toNat)
  case atStart => exact ⟨0, Nat.zero_le _, rfl, hown', hB⟩
  case round =>
    obtain ⟨k, hk, rfl, hr, hb⟩ := hrel
    by_cases hlt : k < n
    · have hc := hr.cellAt k (by omega)
      have hf := hr.frozenAt k
      obtain ⟨z, hz⟩ : ∃ z : Nat, (UInt8.ofNat (7 * k)).toNat = z := ⟨_, rfl⟩
      have hz7 : (7 * (k : Int)) % 256 = (z : Int) := by rw [← hz, UInt8.toNat_ofNat']; omega
      have hst := hr.stored k (.int .u8 (z : Int))
      have hlist : ((toI (valP n k)).map (Value.int .u8)).set k (.int .u8 (z : Int)) = (toI (valP n (k + 1))).map (Value.int .u8) := by
        rw [← valP_set n k hlt, ← hz]
        simp only [toI, List.map_set]
      rw [hlist] at hst
      have hst := hst.1
      have hc' : ∃ v, wr.cell? ⟨w.heap.size, k, none⟩ = some v := by
        rw [hc, List.getElem?_map, toI, List.getElem?_map, List.getElem?_eq_getElem (by simp [valP, valC_length]; omega)]
        exact ⟨_, rfl⟩
      obtain ⟨v0, hc'⟩ := hc'
      clear hc hlist hz
      have HS := Lib.hid hst
      clear hst
      go_wp2
      go_roundw
      case rel => exact ⟨k + 1, by omega, by go_num, HS.out, hb.setCell (Nat.le_refl _) _⟩
      case measure => simp [intOf]; omega
    · obtain rfl : k = n := by omega
      have hfe : valP k k = valC k := by unfold valP; rw [Nat.sub_self, List.replicate_zero, List.append_nil]
      rw [hfe] at hr
      have hbs := Bs.own hr
      have hcv := conv_string (P := Tryd.prog) Tryd.underlying31 Tryd.underlying5 Tryd.underlying9 hbs
      clear hr hbs hfe
      go_wp2
      go_ret
      exact ⟨rfl, hb⟩

theorem aw_row3 (W : World) : Row .i64 (W.alloc (.cells #[.int .i64 5, .int .i64 3, .int .i64 8] 3)) (some ⟨W.heap.size, 0, none⟩) 3 3 [5, 3, 8] := Row.made .i64 W 3 [5, 3, 8] rfl (by unfold maxLen; simp)
theorem aw_one (W : World) (n : Int) : Row .i64 (W.alloc (.cells #[.int .i64 n] 3)) (some ⟨W.heap.size, 0, none⟩) 1 1 [n] := Row.made .i64 W 3 [n] rfl (by unfold maxLen; simp)
theorem aw_put : putOkC (valC 300) [5, 3, 8] = true := by
  unfold putOkC
  rw [valC_length]
  decide

theorem aw_lt (j : Nat) (hj : j < ([5, 3, 8] : List Int).length) : atC [5, 3, 8] j < ((9 : Nat) : Int) := by
  have h3 : j < 3 := hj
  have : j = 0 ∨ j = 1 ∨ j = 2 := by omega
  rcases this with rfl | rfl | rfl <;> decide

/-- The pages so far. -/
def LaidC (v : List UInt8) (at_ : List Int) (N i : Nat) (d : List Rg) : Prop := ∃ f, RegAt d 0 N f ∧ ∀ k, k < i → f (atC at_ k).toNat = pageC v at_ k
theorem LaidC.new (v : List UInt8) (at_ : List Int) (N : Nat) : LaidC v at_ N 0 (newD [(N : Int)]) := ⟨zeros, RegAt.new (l := [(N : Int)]) (r := 0) rfl, fun k hk => by omega⟩
theorem atC_bound {v : List UInt8} {at_ : List Int} (h : putOkC v at_ = true) {i : Nat} (hi : i < at_.length) : 2 ≤ atC at_ i ∧ atC at_ i ≤ 999 := pgC_lt (aptC_at (putC_parts h).2.2 hi).1
theorem atC_ne {v : List UInt8} {at_ : List Int} (h : putOkC v at_ = true) {i j : Nat} (hij : i < j) (hj : j < at_.length) : atC at_ i ≠ atC at_ j := by
  intro e
  refine (aptC_at (putC_parts h).2.2 hj).2 ?_
  rw [← e]
  exact List.mem_of_getElem? (i := i) (by rw [List.getElem?_take_of_lt hij, atC, List.getElem?_eq_getElem (by omega)]; rfl)
theorem LaidC.step {v : List UInt8} {at_ : List Int} {N i : Nat} {d : List Rg} (h : LaidC v at_ N i d) (hok : putOkC v at_ = true) (hi : i < at_.length) (hN : atC at_ i < N) :
    writeE d 0 (atC at_ i) (pageC v at_ i) = 0 ∧ LaidC v at_ N (i + 1) (writeD d 0 (atC at_ i) (pageC v at_ i)) := by
  obtain ⟨f, h1, h2⟩ := h
  have hb := atC_bound hok hi
  obtain ⟨e, h3, _⟩ := h1.write (p := atC at_ i) (by omega) (pageC_len v at_ i)
  refine ⟨e, _, h3, fun k hk => ?_⟩
  unfold upd
  by_cases hki : k = i
  · subst hki; rw [if_pos rfl]
  · rw [if_neg (fun e => ?_)]
    · exact h2 k (by omega)
    · have h5 := atC_bound hok (show k < at_.length by omega)
      exact atC_ne hok (show k < i by omega) hi (by omega)
theorem LaidC.got {v : List UInt8} {at_ : List Int} {N : Nat} {d : List Rg} (h : LaidC v at_ N at_.length d) (hok : putOkC v at_ = true) (hN : ∀ i, i < at_.length → atC at_ i < N) : getDC d 0 (atC at_ 0) v.length = (v, at_, 0) := by
  obtain ⟨f, h1, h2⟩ := h
  exact gotC_back hok h1 hN (fun i hi => h2 i hi)
theorem putLC_get {v : List UInt8} {at_ : List Int} (hok : putOkC v at_ = true) {i : Nat} (hi : i < at_.length) : (putLC v at_)[i]? = some (pageC v at_ i) := by
  rw [putLC, hok, if_pos rfl]
  simp [hi]
theorem putLC_len {v : List UInt8} {at_ : List Int} (hok : putOkC v at_ = true) : (putLC v at_).length = at_.length := by
  rw [putLC, hok, if_pos rfl]; simp

set_option maxRecDepth 100000 in
set_option maxHeartbeats 2000000 in
theorem awake_any (w : World) (hh : Half w) : Calls Tryd.prog 8 #[] w fun e w' => e = .returned (.bool true) ∧ Below w.heap.size w w' := by
  have hb0 : Below w.heap.size w (w.alloc (.cells #[.int .i64 9] 3)) := (Below.refl _ _).alloc (Nat.le_refl _) _
  have N := new_ok (aw_one w 9) (by decide)
  go_enter Tryd.func8, Tryd.ntmps8
  go_wp2_with fail
  refine N.mono ?_
  rintro e w1 ⟨db, rfl, hd1, hb1⟩
  have hsz : (w.alloc (.cells #[.int .i64 9] 3)).heap.size = w.heap.size + 1 := by simp
  rw [hsz] at hd1
  have hw1 := below_then hb0 hb1
  have V := fun W => value_any 300 (by omega) W
  clear N hb0 hb1 hsz
  go_wp2_with fail
  refine (V _).mono ?_
  rintro e w2 ⟨rfl, hb2⟩
  have hw2 := below_then hw1 hb2
  have P := cput_any (aw_row3 w2) (by intro x hx; simp at hx; unfold I64; rcases hx with rfl | rfl | rfl <;> omega) (valC 300) (by rw [valC_length]; omega) (hh.below (Nat.le_refl _) (hw2.alloc hw2.size _))
  go_wp2_with fail
  refine P.mono ?_
  rintro e w3 ⟨v3, rfl, ho3, hb3⟩
  rw [putEC, aw_put, if_pos rfl]
  have hpl : (putLC (valC 300) [5, 3, 8]).length = 3 := by rw [putLC_len aw_put]; rfl
  have hw3 : Below w.heap.size w w3 := below_then (hw2.alloc hw2.size _) hb3
  have hb13 : Below w1.heap.size w1 w3 := below_then (hb2.alloc hb2.size _) hb3
  have HD1 := Lib.hid (hd1.span hb13)
  have hs13 := hb13.size
  obtain ⟨vs, hvs, hvs2⟩ := ho3
  obtain ⟨a3, c3, rfl, hc3, hcm3, _⟩ := own_slice hvs
  have HO3 := Lib.hid (show OwnBss w3 w1.heap.size (.slice a3 (putLC (valC 300) [5, 3, 8]).length c3) (putLC (valC 300) [5, 3, 8]) from OwnBss.base ⟨vs, hvs, hvs2⟩ (by have := hb2.size; simp; omega))
  rw [hpl] at hc3 ⊢
  have HPL := Lib.hid hpl
  unfold maxLen at hcm3
  have hsz2 : w.heap.size + 1 ≤ w2.heap.size + 1 := by have := hw2.size; omega
  clear P hb3 hvs hvs2 hpl hb2 hd1 hb13
  go_wp2_with fail
  go_loopw [5] (fun s5 wr => ∃ (i : Nat) (d : List Rg), i ≤ 3 ∧ s5 = .int .i64 i ∧ OneK (w.heap.size + 1) (span w1.heap.size w3.heap.size) wr db i d ∧ LaidC (valC 300) [5, 3, 8] 9 i d ∧ Below (w.heap.size + 1) w3 wr ∧ KeepK (span w1.heap.size w3.heap.size) w3 wr) (fun s _ => 3 - (intOf s).toNat)
  case atStart => exact ⟨0, _, Nat.zero_le _, rfl, HD1.out, LaidC.new _ _ 9, Below.refl _ _, KeepK.refl _ _⟩
  case round =>
    clear HD1
    obtain ⟨i, d, hi, rfl, hd, hlaid, hb, hkk⟩ := hrel
    by_cases hlt : i < 3
    · have hob := HO3.out.keptS hkk (Nat.le_refl _) (Nat.le_refl _)
      obtain ⟨g, k, a7, c7, e7, _, _, hg, hge, hcell, hbs, hgx⟩ := hob.get (putLC_get aw_put (i := i) (by simpa using hlt))
      cases e7
      rw [pageC_len] at hcell hbs
      obtain ⟨hwe, hlaid2⟩ := hlaid.step aw_put (by simpa using hlt) (by
        have : i = 0 ∨ i = 1 ∨ i = 2 := by omega
        rcases this with rfl | rfl | rfl <;> decide)
      obtain ⟨w4, hw4⟩ : ∃ w4, w4 = wr.drew.alloc (.cells #[.int .i64 5, .int .i64 3, .int .i64 8] 3) := ⟨_, rfl⟩
      have hb4 : Below wr.heap.size wr w4 := by rw [hw4]; exact ((Below.refl _ _).drew).alloc (Nat.le_refl _) _
      have hgB : ∀ g' off, a7 = some ⟨g', off, none⟩ → g' ∈ span w1.heap.size w3.heap.size ∨ g' < w.heap.size + 1 := fun g' off e => .inl (mem_span.2 (by
        have h1 := (hgx g' off e).1
        obtain ⟨vs, _, q2⟩ := HO3.out
        refine ⟨h1, ?_⟩
        obtain ⟨g2, k2, a2, cc2, e2, _, _, _, _, hcl2, _, hgx2⟩ := HO3.out.get (putLC_get aw_put (i := i) (by simpa using hlt))
        cases e2
        have hcl3 : wr.cell? ⟨g, i, none⟩ = w3.cell? ⟨g, i, none⟩ := World.cell?_of_block (hkk g (mem_span.2 ⟨hge, by have := World.block_lt_of_cell? _ _ hcl2; simpa using this⟩))
        rw [hcl3, hcl2, pageC_len] at hcell
        cases hcell
        exact (hgx2 g' off e).2))
      have C := write_k (hd.below hb4) (hbs.below (Nat.le_refl _) hb4) hgB (by omega) 0 (atC [5, 3, 8] i)
      rw [hwe] at C
      have cA : w4.cell? ⟨wr.heap.size, i, none⟩ = some (.int .i64 (atC [5, 3, 8] i)) := by
        have : w4.heap[wr.heap.size]? = some (.cells #[.int .i64 5, .int .i64 3, .int .i64 8] 3 (0, 0)) := by rw [hw4]; exact World.alloc_heap_new wr.drew _
        refine cell_of this i _ ?_
        have : i = 0 ∨ i = 1 ∨ i = 2 := by omega
        rcases this with rfl | rfl | rfl <;> rfl
      have cB : ∀ W : World, W.cell? ⟨g, i, none⟩ = some (.slice a7 128 c7) → W.cell? ⟨g, i, none⟩ = some (.slice a7 128 c7) := fun W hW => hW
      have cB1 : wr.drew.cell? ⟨g, i, none⟩ = some (.slice a7 128 c7) := hcell
      have cB2 : (wr.drew.alloc (.cells #[.int .i64 5, .int .i64 3, .int .i64 8] 3)).cell? ⟨g, i, none⟩ = some (.slice a7 128 c7) := by rw [← hw4]; exact (hb4.cell (p := ⟨g, i, none⟩) hg).trans hcell
      have cB4 : (wr.alloc (.cells #[.int .i64 5, .int .i64 3, .int .i64 8] 3)).drew.cell? ⟨g, i, none⟩ = some (.slice a7 128 c7) := cB2
      have hgs : g ∈ span w1.heap.size w3.heap.size := by
        obtain ⟨g2, k2, a2, cc2, e2, _, _, hg2, _, _⟩ := HO3.out.get (putLC_get aw_put (i := i) (by simpa using hlt))
        cases e2
        exact mem_span.2 ⟨hge, hg2⟩
      rw [show w4 = (wr.alloc (.cells #[.int .i64 5, .int .i64 3, .int .i64 8] 3)).drew from hw4] at C cA
      have cA2 : (wr.alloc (.cells #[.int .i64 5, .int .i64 3, .int .i64 8] 3)).cell? ⟨wr.heap.size, i, none⟩ = some (.int .i64 (atC [5, 3, 8] i)) := cA
      have HBA : Hid (Below (w.heap.size + 1) w3 (wr.drew.alloc (.cells #[.int .i64 5, .int .i64 3, .int .i64 8] 3))) := Lib.hid (by rw [← hw4]; exact hb.trans (hb4.mono (by obtain ⟨_, _, _, _, h3, _⟩ := hd; exact h3)))
      have HKA : Hid (KeepK (span w1.heap.size w3.heap.size) w3 (wr.drew.alloc (.cells #[.int .i64 5, .int .i64 3, .int .i64 8] 3))) := Lib.hid (by
        rw [← hw4]
        obtain ⟨_, _, _, _, _, h4⟩ := hd
        exact hkk.trans (fun k hk => hb4.block k (h4 k hk)))
      have HD := Lib.hid hd
      have HLD := Lib.hid hlaid2
      have HB := Lib.hid hb
      have HK := Lib.hid hkk
      have hb0 : Below wr.heap.size wr wr.drew := (Below.refl _ _).drew
      have hc128 := hbs.cap
      unfold maxLen at hc128
      have HB4 : Hid (Below wr.heap.size wr w4) := Lib.hid hb4
      have HW4 := Lib.hid hw4
      clear hd hlaid hlaid2 hb hcell hbs hgx hwe hkk hob hgB hb4 hw4
      generalize atC [5, 3, 8] i = p at *
      go_wp2_with fail
      refine wp_region_noPanic ?_
      refine wp_region_held_drew (S := (fun W => W.cell? ⟨g, i, none⟩ = some (.slice a7 128 c7))) (by kernel_rfl) (by exact cB1) (fun hHeld => ?_)
      refine wpAnyH_take (i := 0) (oi := { dst := some 35, op := Op.move (Operand.tmp 1), type := 36, pos := "law.go:31", after := #[], guard := none }) (v := ?_) rfl (by kernel_rfl) (by kernel_rfl) (by kernel_rfl) (fun _ _ _ h => h) (Or.inl ⟨by rfl, ?_⟩) (by assumption) ?_
      rotate_left
      · (intro W hW; (try dsimp only at hW); go_simp <;> (with_reducible rfl))
      try simp only [Act.put, List.setIfInBounds_toArray, List.set_cons_zero, List.set_cons_succ]
      refine wpAnyH_take (i := 2) (oi := { dst := some 37, op := Op.move (Operand.tmp 5), type := 3, pos := "law.go:31", after := #[], guard := none }) (v := ?_) rfl (by kernel_rfl) (by kernel_rfl) (by kernel_rfl) (fun _ _ _ h => h) (Or.inl ⟨by rfl, ?_⟩) (by assumption) ?_
      rotate_left
      · (intro W hW; (try dsimp only at hW); go_simp <;> (with_reducible rfl))
      try simp only [Act.put, List.setIfInBounds_toArray, List.set_cons_zero, List.set_cons_succ]
      refine wpAnyH_take (i := 5) (oi := { dst := some 40, op := Op.move (Operand.tmp 3), type := 24, pos := "law.go:31", after := #[], guard := none }) (v := ?_) rfl (by kernel_rfl) (by kernel_rfl) (by kernel_rfl) (fun _ _ _ h => h) (Or.inl ⟨by rfl, ?_⟩) (by assumption) ?_
      rotate_left
      · (intro W hW; (try dsimp only at hW); go_simp <;> (with_reducible rfl))
      try simp only [Act.put, List.setIfInBounds_toArray, List.set_cons_zero, List.set_cons_succ]
      refine wpAnyH_take (i := 6) (oi := { dst := some 41, op := Op.move (Operand.tmp 5), type := 3, pos := "law.go:31", after := #[], guard := none }) (v := ?_) rfl (by kernel_rfl) (by kernel_rfl) (by kernel_rfl) (fun _ _ _ h => h) (Or.inl ⟨by rfl, ?_⟩) (by assumption) ?_
      rotate_left
      · (intro W hW; (try dsimp only at hW); go_simp <;> (with_reducible rfl))
      try simp only [Act.put, List.setIfInBounds_toArray, List.set_cons_zero, List.set_cons_succ]
      refine wpAnyH_take (i := 7) (oi := { dst := some 42, op := Op.indexAddr 24 (Operand.tmp 40) (Operand.tmp 41), type := 0, pos := "law.go:31", after := #[{ on := 5, ground := Ground.data }, { on := 6, ground := Ground.data }], guard := none }) (v := ?_) rfl (by kernel_rfl) (by kernel_rfl) (by kernel_rfl) (fun _ _ _ h => h) (Or.inl ⟨by rfl, ?_⟩) (by assumption) ?_
      rotate_left
      · (intro W hW; (try dsimp only at hW); go_simp <;> (with_reducible rfl))
      try simp only [Act.put, List.setIfInBounds_toArray, List.set_cons_zero, List.set_cons_succ]
      refine wpAnyH_take (i := 8) (oi := { dst := some 43, op := Op.load 31 (Operand.tmp 42), type := 31, pos := "law.go:31", after := #[{ on := 7, ground := Ground.data }], guard := none }) (v := ?_) rfl (by kernel_rfl) (by kernel_rfl) (by kernel_rfl) (fun _ _ _ h => h) (Or.inl ⟨by rfl, ?_⟩) (by assumption) ?_
      rotate_left
      · (intro W hW; (try dsimp only at hW); go_simp <;> (with_reducible rfl))
      try simp only [Act.put, List.setIfInBounds_toArray, List.set_cons_zero, List.set_cons_succ]
      refine wpAnyH_ready (rs := [1]) (by kernel_rfl) (by simp) (AllReadyH.cons (o := { dst := some 36, op := Op.buildSlice 22 3 #[(0, Operand.const (Value.int IntKind.i64 5)), (1, Operand.const (Value.int IntKind.i64 3)), (2, Operand.const (Value.int IntKind.i64 8))], type := 22, pos := "law.go:31", after := #[], guard := none }) rfl (fun K hK => ?_) AllReadyH.nil)
      (rw [if_pos (by rfl)]; go_wp2_with (fail))
      refine hK.out _ _ (by first | (with_reducible assumption) | (with_reducible exact cB3) | (with_reducible exact cB4) | (with_reducible exact cB2)) (fun hHeld => ?_)
      clear hK K
      try simp only [Act.put, List.setIfInBounds_toArray, List.set_cons_zero, List.set_cons_succ]
      refine wpAnyH_take (i := 3) (oi := { dst := some 38, op := Op.indexAddr 22 (Operand.tmp 36) (Operand.tmp 37), type := 0, pos := "law.go:31", after := #[{ on := 1, ground := Ground.data }, { on := 2, ground := Ground.data }], guard := none }) (v := ?_) rfl (by kernel_rfl) (by kernel_rfl) (by kernel_rfl) (fun _ _ _ h => h) (Or.inl ⟨by rfl, ?_⟩) (by assumption) ?_
      rotate_left
      · (intro W hW; (try dsimp only at hW); go_simp <;> (with_reducible rfl))
      try simp only [Act.put, List.setIfInBounds_toArray, List.set_cons_zero, List.set_cons_succ]
      refine wpAnyH_ready (rs := [4]) (by kernel_rfl) (by simp) (AllReadyH.cons (o := { dst := some 39, op := Op.load 3 (Operand.tmp 38), type := 3, pos := "law.go:31", after := #[{ on := 3, ground := Ground.data }], guard := none }) rfl (fun K hK => ?_) AllReadyH.nil)
      (rw [if_pos (by rfl)]; go_wp2_with (fail))
      refine hK.out _ _ (by first | (with_reducible assumption) | (with_reducible exact cB3) | (with_reducible exact cB4) | (with_reducible exact cB2)) (fun hHeld => ?_)
      clear hK K
      try simp only [Act.put, List.setIfInBounds_toArray, List.set_cons_zero, List.set_cons_succ]
      refine wpAnyH_ready (rs := [9]) (by kernel_rfl) (by simp) (AllReadyH.cons (o := { dst := some 44, op := Op.call { callee := Callee.value (Operand.func 16), args := #[Operand.tmp 35, Operand.const (Value.int IntKind.i64 0), Operand.tmp 39, Operand.tmp 43], argTypes := #[36, 3, 3, 31] }, type := 25, pos := "law.go:31", after := #[{ on := 0, ground := Ground.data }, { on := 4, ground := Ground.data }, { on := 8, ground := Ground.data }], guard := none }) rfl (fun K hK => ?_) AllReadyH.nil)
      (rw [if_pos (by rfl)]; go_wp2_with (first | (go_at_call 16; refine C.mono ?_; rintro e wx ⟨rfl, hdx, hbx, hkx⟩; have cB3 : wx.cell? ⟨g, i, none⟩ = some (.slice a7 128 c7) := (World.cell?_of_block (hkx g hgs)).trans cB2)))
      refine hK.out _ _ (by first | (with_reducible assumption) | (with_reducible exact cB3) | (with_reducible exact cB4) | (with_reducible exact cB2)) (fun hHeld => ?_)
      clear hK K
      try simp only [Act.put, List.setIfInBounds_toArray, List.set_cons_zero, List.set_cons_succ]
      refine wpAnyH_done (by kernel_rfl) ?_ _
      refine NoPanic.normal ?_
      clear hHeld
      have HDX := Lib.hid hdx
      have HBX := Lib.hid (HBA.out.trans hbx)
      have HKX := Lib.hid (HKA.out.trans hkx)
      clear hdx hbx hkx cA cA2 cB cB1 cB2 cB3 cB4 C
      go_wp2_with fail
      go_roundw
      case rel => exact ⟨i + 1, _, hlt, by go_num, HDX.out, HLD.out, HBX.out, HKX.out⟩
      case measure => simp [intOf]; omega
    · obtain rfl : i = 3 := by omega
      have hgot := LaidC.got (d := d) (N := 9) hlaid aw_put aw_lt
      rw [valC_length] at hgot
      have hwr : Below w.heap.size w wr := hw3.trans (hb.mono (Nat.le_succ _))
      have G := cget_any hd.one (hh.below (Nat.le_refl _) hwr) 0 5 300 (by unfold I64; omega)
      rw [show getDC d 0 5 300 = (valC 300, [5, 3, 8], 0) from hgot] at G
      clear hgot hlaid hd hb hkk HO3
      go_wp2_with fail
      refine G.mono ?_
      rintro e w5 ⟨v5, rfl, ho5, hb5⟩
      obtain ⟨a5, c5, rfl, row5⟩ := Row.of_own ho5
      have hw5 := below_then hwr hb5
      have N1 := cneed_any 119 w5
      have N2 := cneed_any 120 w5
      have N3 := cneed_any 16 w5
      rw [show needC 119 = 1 by decide] at N1
      rw [show needC 120 = 2 by decide] at N2
      rw [show needC 16 = 0 by decide] at N3
      clear G ho5 hb5
      go_wp2_with fail
      refine N1.mono ?_
      rintro e w6 ⟨rfl, rfl⟩
      go_wp2_with fail
      refine N2.mono ?_
      rintro e w6 ⟨rfl, rfl⟩
      go_wp2_with fail
      refine N3.mono ?_
      rintro e w6 ⟨rfl, rfl⟩
      go_wp2_with fail
      refine (V _).mono ?_
      rintro e w6 ⟨rfl, hb6⟩

      have hw6 := below_then hw5 hb6
      have hlen : ([5, 3, 8] : List Int).length = 3 := rfl
      have I2 := ints_any ((row5.below (Nat.le_refl _) hb6).below (Nat.le_refl _) ((Below.refl _ _).alloc (Nat.le_refl _) (.cells #[.int .i64 5, .int .i64 3, .int .i64 8] 3))) (aw_row3 w6)
      rw [show decide (([5, 3, 8] : List Int) = [5, 3, 8]) = true by decide] at I2
      have HW := Lib.hid (hw6.alloc hw6.size (.cells #[.int .i64 5, .int .i64 3, .int .i64 8] 3))
      clear N1 N2 N3 V hb6 row5 hw5
      go_wp2_with fail
      refine I2.mono ?_
      rintro e w7 ⟨rfl, j2, rfl⟩
      have HW2 := Lib.hid (below_drewN HW.out j2)
      go_wp2_with fail
      go_ret
      exact ⟨rfl, HW2.out⟩
end Go.Proofs.YtfidfbgplfjakaaDoor

/- The walks of the chapter on long values: the document's Put. -/
namespace Go.Proofs.YtfidfbgplfjakaaDoor
open Go.RowKit

def RPutPostC (w : World) (v : List UInt8) (at_ : List Int) (e : Ending) (w' : World) : Prop :=
  ∃ u, e = .returned (.tuple #[u, .int .i64 (putEC v at_)]) ∧ w'.ownsRow w.heap.size 9 1 u (putLC v at_).length ((putLC v at_).map sv) ∧ Below w.heap.size w w'
theorem rputPostC_bad {w w' : World} {v : List UInt8} {at_ : List Int} (h : putOkC v at_ = false) (hb : Below w.heap.size w w') : RPutPostC w v at_ (.returned (.tuple #[.slice none 0 0, .int .i64 1])) w' := by
  refine ⟨.slice none 0 0, by rw [putEC, h]; rfl, ?_, hb⟩
  rw [putLC, h]
  exact World.ownsRow_nil _ _ _ _
theorem strsC_single (W : World) (s : List UInt8) (t : TypeId) : Strs (W.alloc (.cells #[.string (strOf s)] t)) (some ⟨W.heap.size, 0, none⟩) 1 1 [s] := by
  refine ⟨rfl, Nat.le_refl _, by unfold maxLen; omega, (fun h => by cases h), .inr ⟨W.heap.size, 0, rfl, by simp, fun i y hy => ?_⟩⟩
  have hi := (List.getElem?_eq_some_iff.1 hy).1
  simp at hi; subst hi
  simp at hy; subst hy
  refine ⟨[.string (strOf s)], rfl, rfl, fun j v hj => ?_⟩
  match j, hj with
  | 0, hj =>
    cases hj
    have := World.alloc_heap_new W (.cells #[.string (strOf s)] t)
    simp only [World.cell?, Nat.zero_add, Nat.zero_mul, this]
    rfl
  | j + 1, hj => simp at hj
/-- A number's two lowest bytes, whatever it is. -/
def wordUC (n : Int) : List UInt8 := numF (n % 18446744073709551616) 2
theorem wordUC_eq {n : Int} (h : 0 ≤ n ∧ n < 65536) : wordUC n = wordC n := by
  unfold wordUC numF wordC
  rw [if_neg (by omega), show n % 18446744073709551616 = n by omega]
  rfl
theorem wordUC_length (n : Int) : (wordUC n).length = 2 := by
  unfold wordUC numF
  rw [if_neg (by omega)]
  exact beBytes_length _ _
/-- A page as the document lays it, while the next place isn't looked at. -/
def rpageC (v : List UInt8) (at_ : List Int) (i : Nat) : List UInt8 := pageOf 3 [wordUC (nextC at_ i) ++ partC v i]
theorem rpageC_eq {v : List UInt8} {at_ : List Int} (h : aptC at_ = true) (i : Nat) : rpageC v at_ i = pageC v at_ i := by
  unfold rpageC pageC cellC
  rw [wordUC_eq (nextC_lt h i)]
def aptCAt (at_ : List Int) (i : Nat) : Bool := pgC (atC at_ i) && !(at_.take i).contains (atC at_ i)
theorem info_strC : (Tryd.prog.info? 9).map (fun i => (i.zero, i.size, i.bytes)) = some (some (.string ⟨#[]⟩), 1, 16) := by kernel_rfl

set_option maxRecDepth 100000 in
set_option maxHeartbeats 1000000 in
theorem crput_any {w : World} {a : Option Addr} {n cap : Nat} {at_ : List Int} (h : Row .i64 w a n cap at_) (v : List UInt8) (hv : v.length ≤ 100000) (hn9 : n ≤ 1000) :
    Calls Tryd.prog 10 #[.string (strOf v), .slice a n cap] w (RPutPostC w v at_) := by
  obtain ⟨k0, hk, hx0, hx1, hx2⟩ := info_parts info_strC
  have C : Calls Tryd.prog 12 #[.int .i64 (v.length : Int)] w fun e w' => e = .returned (.int .i64 (needC (v.length : Int) : Int)) ∧ w = w' := crneed_any _ w
  obtain ⟨e1, hc1, hcm1⟩ := h.lensC
  have hsz := strOf_size v
  have hn4 := needC_le v.length
  have hpos := needC_pos (n := (v.length : Int))
  have H1 := Lib.hid h
  have E1 := Lib.hid e1
  have HD : Hid (putOkC v at_ = (decide (needC v.length ≠ 0) && (decide (n = needC v.length) && aptC at_))) := Lib.hid (by rw [putOkC, e1])
  have hfit : needC (v.length : Int) ≠ 0 → 119 * (needC (v.length : Int) - 1) < v.length ∧ v.length ≤ 119 * needC (v.length : Int) := fun h => needC_fit h
  clear h e1
  generalize needC (v.length : Int) = q at *
  by_cases h0 : q = 0
  · have HB : Hid (putOkC v at_ = false) := Lib.hid (by rw [HD.out, h0]; simp)
    have d0 : ((q : Int) == 0) = true := by rw [beq_iff_eq]; omega
    have d1 : (q == 0) = true := by simpa using h0
    clear HD hfit hpos
    go_enter Tryd.func10, Tryd.ntmps10
    go_wp2_with fail
    refine C.mono ?_
    rintro e w' ⟨rfl, rfl⟩
    go_wp2_with fail
    go_ret2
    exact rputPostC_bad HB.out (Below.refl _ _)
  have d0 : ((q : Int) == 0) = false := by rw [beq_eq_false_iff_ne]; omega
  have d1 : (q == 0) = false := by simpa using h0
  by_cases hnq : ¬ n = q
  · have HB : Hid (putOkC v at_ = false) := Lib.hid (by rw [HD.out]; simp [hnq])
    have d2 : ((n : Int) != q) = true := by rw [bne_iff_ne]; omega
    have d3 : ((n : Int) == q) = false := by rw [beq_eq_false_iff_ne]; omega
    clear HD hfit hpos
    go_enter Tryd.func10, Tryd.ntmps10
    go_wp2_with fail
    refine C.mono ?_
    rintro e w' ⟨rfl, rfl⟩
    go_wp2_with fail
    go_ret2
    exact rputPostC_bad HB.out (Below.refl _ _)
  obtain rfl := Decidable.not_not.1 hnq
  clear hnq
  have hf := hfit h0
  have hp := hpos h0
  have d2 : ((n : Int) != n) = false := by simp
  have d3 : ((n : Int) == n) = true := by simp
  have HD2 : Hid (putOkC v at_ = aptC at_) := Lib.hid (by rw [HD.out]; simp [h0])
  clear HD hfit hpos
  go_enter Tryd.func10, Tryd.ntmps10
  go_wp2_with fail
  refine C.mono ?_
  rintro e w' ⟨rfl, rfl⟩
  clear C
  go_wp2_with fail
  go_loopw [7, 8] (fun s7 s wr => ∃ (i : Nat), i ≤ n ∧ s = .int .i64 i ∧ wr.ownsRow w.heap.size 9 1 s7 i (((List.range i).map (rpageC v at_)).map sv) ∧ Below w.heap.size w wr ∧ ∀ j, j < i → aptCAt at_ j = true) (fun _ s _ => n - (intOf s).toNat)
  case atStart => exact ⟨0, Nat.zero_le _, rfl, World.ownsRow_nil _ _ _ _, Below.refl _ _, fun j hj => by omega⟩
  case round =>
    obtain ⟨i, hi', rfl, hout, hb, hall⟩ := hrel
    by_cases hlt : i < n
    · obtain ⟨b1, o1, hadr, hbl, hcell⟩ := H1.out.cellC hlt
      subst hadr
      have c1 : wr.cell? ⟨b1, o1 + i, none⟩ = _ := (hb.cell (p := ⟨b1, o1 + i, none⟩) hbl).trans (hcell i hlt)
      have HAD := Lib.hid (show aptCAt at_ i = (pgC (atC at_ i) && !(at_.take i).contains (atC at_ i)) from rfl)
      have HF : Hid (aptCAt at_ i = false → aptC at_ = false) := Lib.hid (fun e => by
        rw [aptC, List.all_eq_false]
        exact ⟨i, by rw [List.mem_range, E1.out]; exact hlt, by unfold aptCAt at e; rw [e]; simp⟩)
      have HT : Hid (aptCAt at_ i = true → ∀ j, j < i + 1 → aptCAt at_ j = true) := Lib.hid (fun e j hj => by
        by_cases hji : j = i
        · subst hji; exact e
        · exact hall j (by omega))
      have HB := Lib.hid hb
      have HO := Lib.hid hout
      have HBAD : Hid (∀ W, Below w.heap.size w W → aptCAt at_ i = false → RPutPostC w v at_ (.returned (.tuple #[.slice none 0 0, .int .i64 1])) W) := Lib.hid (fun W hW h => rputPostC_bad (by rw [HD2.out, HF.out h]) hW)
      have hrow1 := (H1.out.below (Nat.le_refl _) hb).take i (Nat.le_of_lt hlt)
      obtain ⟨x, hx⟩ : ∃ x, atC at_ i = x := ⟨_, rfl⟩
      rw [hx] at c1 HAD
      obtain ⟨t1, ht1⟩ : ∃ t, decide (x ∈ at_.take i) = t := ⟨_, rfl⟩
      have hH1 : ∀ k, Calls Tryd.prog 31 #[.slice (some ⟨b1, o1, none⟩) i cap, .int .i64 x] (wr.drewN k) fun e w' => e = .returned (.bool t1) ∧ wr.drewN k = w' := fun k => by
        have := chas_any (hrow1.drewN k) x
        rwa [ht1] at this
      have HAE : Hid (aptCAt at_ i = (pgC x && !t1)) := Lib.hid (by
        rw [HAD.out, ← ht1]
        congr 2
        rw [Bool.eq_iff_iff]
        simp)
      have hsl : ∀ W, (Instr.slice 22 (.slice (some ⟨b1, o1, none⟩) n cap) none (some (.int .i64 (i : Int))) none).run Tryd.prog W = .ok (.slice (some ⟨b1, o1, none⟩) i cap) W := fun W => by
        rw [run_slice_h W 22 _ n cap elem_ints .i64 (i : Int) (by omega) (by omega), size_ints]
        simp [sliced]
        intro _
        exact add_none b1 o1 0
      have HCELL := Lib.hid hcell
      clear hout hb hall ht1 hx HAD HF hcell
      by_cases h2 : x < 2
      · have d2 : decide (x < 2) = true := by simpa using h2
        have HE : Hid (aptCAt at_ i = false) := Lib.hid (by rw [HAE.out]; simp [pgC]; omega)
        go_wp2_with fail
        go_quiet (fail)
        go_wp2_with fail
        go_ret2
        exact HBAD.out _ (below_drewN HB.out nq) HE.out
      have d4 : decide (x < 2) = false := by simpa using h2
      by_cases h9 : 999 < x
      · have d9 : decide (999 < x) = true := by simpa using h9
        have HE : Hid (aptCAt at_ i = false) := Lib.hid (by rw [HAE.out]; simp [pgC]; omega)
        go_wp2_with fail
        go_quiet (fail)
        go_wp2_with fail
        go_ret2
        exact HBAD.out _ (below_drewN HB.out nq) HE.out
      have d9 : decide (999 < x) = false := by simpa using h9
      have HPG : Hid (pgC x = true) := Lib.hid (by simp [pgC]; omega)
      cases t1
      · have HE : Hid (aptCAt at_ i = true) := Lib.hid (by rw [HAE.out, HPG.out]; rfl)
        clear HAE
        go_wp2_with fail
        go_quiet (first | (go_at_call 31; (with_reducible exact quiet_same (hH1 _))))
        have hpl := partC_length (v := v) (i := i)
        obtain ⟨f, hf2⟩ : ∃ f, 119 * i = f := ⟨_, rfl⟩
        obtain ⟨m, hm⟩ : ∃ m, min 119 (v.length - f) = m := ⟨_, rfl⟩
        have hmi : min ((v.length : Int) - 119 * (i : Int)) 119 = (m : Int) := by omega
        have P : ∀ W, Calls Tryd.prog 34 #[.int .i64 (v.length : Int), .int .i64 (i : Int)] W fun e w' => e = .returned (.int .i64 (m : Int)) ∧ W = w' := fun W => by
          have := cpart_any v.length i (by omega) (by omega) W
          rwa [hmi] at this
        have hfi : 119 * (i : Int) = (f : Int) := by omega
        have hfm : f + m ≤ v.length := by omega
        have hex : (strOf v).extract f (f + m) = strOf (partC v i) := by
          rw [strOf_extract, partC, hf2, show f + m - f = m by omega]
          congr 1
          by_cases h9 : m = 119
          · rw [h9]
          · rw [List.take_of_length_le (by simp; omega), List.take_of_length_le (by simp; omega)]
        have hml : (partC v i).length = m := by rw [hpl, hf2]; exact hm
        have HRS := Lib.hid (show (List.range (i + 1)).map (rpageC v at_) = (List.range i).map (rpageC v at_) ++ [rpageC v at_ i] by simp [List.range_succ])
        have HPGE := Lib.hid (show rpageC v at_ i = pageOf 3 [wordUC (nextC at_ i) ++ partC v i] from rfl)
        have hfit3 : fits 3 [wordUC (nextC at_ i) ++ partC v i] = true := by
          have := partC_le v i
          simp [fits, lens_one, wordUC_length]; omega
        have HFI := Lib.hid hfit3
        have hm9 : m ≤ 119 := by omega
        clear hf2 hm hmi hpl hfit3
        by_cases hnx : i + 1 < n
        · have d5 : decide ((i : Int) + 1 < n) = true := by simp; omega
          have HNX0 := Lib.hid (show nextC at_ i = atC at_ (i + 1) by rw [nextC, if_pos (by rw [E1.out]; exact hnx)])
          have c2 : wr.cell? ⟨b1, o1 + (i + 1), none⟩ = _ := (HB.out.cell (p := ⟨b1, o1 + (i + 1), none⟩) hbl).trans (HCELL.out (i + 1) hnx)
          obtain ⟨nx, hnxe⟩ : ∃ nx, atC at_ (i + 1) = nx := ⟨_, rfl⟩
          rw [hnxe] at c2
          have HNX := Lib.hid (HNX0.out.trans hnxe)
          clear hnxe HNX0
          go_wp2_with fail
          refine (refNum_any (nx % 18446744073709551616) 2 (wr.drewN nq) (by omega)).mono ?_
          rintro e w3 ⟨rfl, hb3⟩
          have HB3 : Hid (Below w.heap.size w w3) := Lib.hid (below_then (below_drewN HB.out nq) hb3)
          have HO3 : Hid (w3.ownsRow w.heap.size 9 1 u7 i (((List.range i).map (rpageC v at_)).map sv)) := Lib.hid (own_below (show (wr.drewN nq).ownsRow w.heap.size 9 1 u7 i (((List.range i).map (rpageC v at_)).map sv) from HO.out) (Nat.le_refl _) hb3)
          rw [show numF (nx % 18446744073709551616) 2 = wordUC nx from rfl]
          clear hb3
          have hap := strOf_append (wordUC nx) (partC v i)
          have hbn : (strOf (wordUC nx)).size + (strOf (partC v i)).size ≤ 9223372036854775807 := by rw [strOf_size, strOf_size, wordUC_length, hml]; omega
          have hcl : (wordUC nx ++ partC v i).length = 2 + m := by rw [List.length_append, wordUC_length, hml]
          rw [HNX.out] at HFI HPGE
          generalize wordUC nx = U at *
          generalize partC v i = Q at *
          have hpk0 : ∀ W : World, Calls Tryd.prog 32 #[.int .u8 3, .slice (some ⟨W.heap.size, 0, none⟩) 1 1] (W.alloc (.cells #[.string (strOf (U ++ Q))] 9)) (StrPost (W.alloc (.cells #[.string (strOf (U ++ Q))] 9)) (pageOf 3 [U ++ Q]) 0) := fun W => by
            have := rpack_any 3 (some ⟨W.heap.size, 0, none⟩) 1 1 [U ++ Q] (W.alloc (.cells #[.string (strOf (U ++ Q))] 9)) (strsC_single W (U ++ Q) _) (by rw [lens_one, hcl]; omega)
            rwa [packV, packE, if_pos HFI.out, if_pos HFI.out] at this
          clear hml hcl
          go_wp2_with fail
          refine (P _).mono ?_
          rintro e w4 ⟨rfl, rfl⟩
          go_wp2_with fail
          refine (hpk0 _).mono ?_
          rintro e w5 ⟨rfl, hb5⟩
          have hA8 : Below w3.heap.size w3 (w3.alloc (.cells #[.string (strOf (U ++ Q))] 9)) := (Below.refl _ _).alloc (Nat.le_refl _) _
          have hb8 := below_then (below_then HB3.out hA8) hb5
          have ho8 := own_below (own_below HO3.out (Nat.le_refl _) hA8) (Nat.le_refl _) hb5
          obtain ⟨v10, w10, hr10, ho10, hg10, _⟩ := run_append_new (P := Tryd.prog) (w := w5) w.heap.size 28 9 k0 _ 1 16 Tryd.underlying28 hk hx0 hx1 hx2 rfl (by decide) ho8 #[.string (strOf (pageOf 3 [U ++ Q]))] rfl (by intro u hu; simp at hu; subst hu; rfl) (by unfold maxLen; omega) (by omega) hb8.size
          have HB10 := Lib.hid (hb8.grown hg10 hb8.size (own_ge ho8))
          have HO10 : Hid (w10.ownsRow w.heap.size 9 1 v10 (i + 1) (((List.range (i + 1)).map (rpageC v at_)).map sv)) := Lib.hid (by rw [HRS.out, HPGE.out, List.map_append]; exact ho10)
          clear hpk0 hb5 hb8 ho8 ho10 hg10 hA8 P
          go_wp2_with (at_builtin; refine wpList_append_run rfl _ _ _ _ rfl rfl rfl hr10 ?_)
          go_roundw
          case rel => exact ⟨i + 1, hlt, by go_num, HO10.out, HB10.out, HT.out HE.out⟩
          case measure => simp [intOf]; omega
        · have d5 : decide ((i : Int) + 1 < n) = false := by simp; omega
          have HNX := Lib.hid (show nextC at_ i = 0 by rw [nextC, if_neg (by rw [E1.out]; exact hnx)])
          go_wp2_with fail
          refine (refNum_any (0) 2 (wr.drewN nq) (by omega)).mono ?_
          rintro e w3 ⟨rfl, hb3⟩
          have HB3 : Hid (Below w.heap.size w w3) := Lib.hid (below_then (below_drewN HB.out nq) hb3)
          have HO3 : Hid (w3.ownsRow w.heap.size 9 1 u7 i (((List.range i).map (rpageC v at_)).map sv)) := Lib.hid (own_below (show (wr.drewN nq).ownsRow w.heap.size 9 1 u7 i (((List.range i).map (rpageC v at_)).map sv) from HO.out) (Nat.le_refl _) hb3)
          rw [show numF (0) 2 = wordUC 0 from rfl]
          clear hb3
          have hap := strOf_append (wordUC 0) (partC v i)
          have hbn : (strOf (wordUC 0)).size + (strOf (partC v i)).size ≤ 9223372036854775807 := by rw [strOf_size, strOf_size, wordUC_length, hml]; omega
          have hcl : (wordUC 0 ++ partC v i).length = 2 + m := by rw [List.length_append, wordUC_length, hml]
          rw [HNX.out] at HFI HPGE
          generalize wordUC 0 = U at *
          generalize partC v i = Q at *
          have hpk0 : ∀ W : World, Calls Tryd.prog 32 #[.int .u8 3, .slice (some ⟨W.heap.size, 0, none⟩) 1 1] (W.alloc (.cells #[.string (strOf (U ++ Q))] 9)) (StrPost (W.alloc (.cells #[.string (strOf (U ++ Q))] 9)) (pageOf 3 [U ++ Q]) 0) := fun W => by
            have := rpack_any 3 (some ⟨W.heap.size, 0, none⟩) 1 1 [U ++ Q] (W.alloc (.cells #[.string (strOf (U ++ Q))] 9)) (strsC_single W (U ++ Q) _) (by rw [lens_one, hcl]; omega)
            rwa [packV, packE, if_pos HFI.out, if_pos HFI.out] at this
          clear hml hcl
          go_wp2_with fail
          refine (P _).mono ?_
          rintro e w4 ⟨rfl, rfl⟩
          go_wp2_with fail
          refine (hpk0 _).mono ?_
          rintro e w5 ⟨rfl, hb5⟩
          have hA8 : Below w3.heap.size w3 (w3.alloc (.cells #[.string (strOf (U ++ Q))] 9)) := (Below.refl _ _).alloc (Nat.le_refl _) _
          have hb8 := below_then (below_then HB3.out hA8) hb5
          have ho8 := own_below (own_below HO3.out (Nat.le_refl _) hA8) (Nat.le_refl _) hb5
          obtain ⟨v10, w10, hr10, ho10, hg10, _⟩ := run_append_new (P := Tryd.prog) (w := w5) w.heap.size 28 9 k0 _ 1 16 Tryd.underlying28 hk hx0 hx1 hx2 rfl (by decide) ho8 #[.string (strOf (pageOf 3 [U ++ Q]))] rfl (by intro u hu; simp at hu; subst hu; rfl) (by unfold maxLen; omega) (by omega) hb8.size
          have HB10 := Lib.hid (hb8.grown hg10 hb8.size (own_ge ho8))
          have HO10 : Hid (w10.ownsRow w.heap.size 9 1 v10 (i + 1) (((List.range (i + 1)).map (rpageC v at_)).map sv)) := Lib.hid (by rw [HRS.out, HPGE.out, List.map_append]; exact ho10)
          clear hpk0 hb5 hb8 ho8 ho10 hg10 hA8 P
          go_wp2_with (at_builtin; refine wpList_append_run rfl _ _ _ _ rfl rfl rfl hr10 ?_)
          go_roundw
          case rel => exact ⟨i + 1, hlt, by go_num, HO10.out, HB10.out, HT.out HE.out⟩
          case measure => simp [intOf]; omega
      · have HE : Hid (aptCAt at_ i = false) := Lib.hid (by rw [HAE.out, HPG.out]; rfl)
        clear HAE
        go_wp2_with fail
        go_quiet (first | (go_at_call 31; (with_reducible exact quiet_same (hH1 _))))
        go_wp2_with fail
        go_ret2
        exact HBAD.out _ (below_drewN HB.out nq) HE.out
    · obtain rfl : i = n := by omega
      have HA : Hid (putOkC v at_ = true) := Lib.hid (by
        rw [HD2.out, aptC, List.all_eq_true]
        intro j hj
        rw [List.mem_range, E1.out] at hj
        exact hall j hj)
      have HE : Hid (RPutPostC w v at_ (.returned (.tuple #[u7, .int .i64 0])) wr) := Lib.hid ⟨_, by rw [putEC, HA.out]; rfl, by
        have hap : aptC at_ = true := by rw [← HD2.out]; exact HA.out
        rw [putLC, HA.out, if_pos rfl, E1.out, List.length_map, List.length_range, ← List.map_congr_left (fun j _ => rpageC_eq hap j)]; exact hout, hb⟩
      clear hout hall
      go_wp2_with fail
      go_ret2
      exact HE.out
end Go.Proofs.YtfidfbgplfjakaaDoor

/- Slices of texts. -/
namespace Go.Proofs.YtfidfbgplfjakaaDoor
open Go.RowKit

/-- A slice of texts. -/
def IsTx (cs : List Value) (s : List UInt8) : Prop := cs = [.string (strOf s)]
def Txs (w : World) (a : Option Addr) (len cap : Nat) (l : List (List UInt8)) : Prop := TabR 1 IsTx w a len cap l
theorem Txs.at {w : World} {a : Option Addr} {len cap : Nat} {l : List (List UInt8)} (h : Txs w a len cap l) {k : Nat} (hk : k < len) :
    ∃ b off s, a = some ⟨b, off, none⟩ ∧ b < w.heap.size ∧ l[k]? = some s ∧ w.cell? ⟨b, off + k, none⟩ = some (.string (strOf s)) := by
  obtain ⟨b, off, y, cs, e1, e2, e3, _, e5, e6⟩ := TabR.at h hk
  have e5' : cs = [.string (strOf y)] := e5
  subst e5'
  have := e6 0 _ rfl
  exact ⟨b, off, y, e1, e2, e3, by simpa using this⟩
def strV (s : List UInt8) : Value := .string (strOf s)
theorem fm_sing : ∀ P : List (List UInt8), P.flatMap (fun y => [strV y]) = P.map strV
  | [] => rfl
  | y :: l => by rw [List.flatMap_cons, fm_sing l]; rfl
/-- A row of texts of the call's own reads as one. -/
theorem txs_own2 {w : World} {base : Nat} {v : Value} {ks : List (List UInt8)} (h : w.ownsRow base 9 1 v ks.length (ks.map strV)) : ∃ a cap, v = .slice a ks.length cap ∧ Txs w a ks.length cap ks := by
  obtain ⟨a, cap, e, ht⟩ := TabR.of_own (fun s => [strV s]) (fun _ => rfl) (R := fun cs s => cs = [strV s]) (fun _ => rfl) (l := ks) (by rw [fm_sing]; exact h)
  exact ⟨a, cap, e, ht⟩
theorem info_str2 : (Tryd.prog.info? 9).map (fun i => (i.zero, i.size, i.bytes)) = some (some (.string ByteArray.empty), 1, 16) := by kernel_rfl
theorem cntR_loose (x : Rg) : (cntR x).loose = x.loose := by unfold cntR; split <;> (try split) <;> rfl
end Go.Proofs.YtfidfbgplfjakaaDoor

/- The reference's regions: rows of records that never turn. -/
namespace Go.Proofs.YtfidfbgplfjakaaDoor
open Go.RowKit

/-- The cells of a region's record. -/
abbrev C4 := { l : List Value // l.length = 4 ∧ ∀ v ∈ l, v.oneCell' = true }
/-- A loose write's cells, as the reference has it. -/
def lcells (y : Nat × P128) : List Value := [.int .i64 (y.1 : Int), .string (strOf y.2.1)]
theorem lcells_length (y : Nat × P128) : (lcells y).length = 2 := rfl
def Ls (w : World) (a : Option Addr) (len cap : Nat) (l : List (Nat × P128)) : Prop := TabR 2 (fun cs y => cs = lcells y) w a len cap l
/-- All pages, as texts. -/
def pagesL (x : Rg) : List (List UInt8) := (List.range x.size).map fun p => (x.pages p).1
theorem pagesL_length (x : Rg) : (pagesL x).length = x.size := by simp [pagesL]
def IsG (w : World) (g : List Value) (x : Rg) : Prop := ∃ pa pc la lc, g = [.slice pa x.size pc, .slice la x.loose.length lc, .int .i64 x.left, .bool x.down] ∧ Txs w pa x.size pc (pagesL x) ∧ Ls w la x.loose.length lc x.loose ∧ x.size ≤ 1000 ∧ (∀ p ∈ x.loose, p.1 < x.size) ∧ -1 ≤ x.left ∧ x.left ≤ 9223372036854775807
theorem IsG.below {B : Nat} {w w' : World} {g : List Value} {x : Rg} (h : IsG w g x) (hB : w.heap.size ≤ B) (hb : Below B w w') : IsG w' g x := by
  obtain ⟨pa, pc, la, lc, h1, h2, h3, h4⟩ := h
  exact ⟨pa, pc, la, lc, h1, TabR.below hB hb h2, TabR.below hB hb h3, h4⟩
/-- A row of regions. -/
def Gs (w : World) (a : Option Addr) (len cap : Nat) (d : List Rg) : Prop := d.length = len ∧ ∃ gs : List C4, TabR 4 (fun cs (y : C4) => cs = y.1) w a len cap gs ∧ ∀ (i : Nat) (g : C4) (x : Rg), gs[i]? = some g → d[i]? = some x → IsG w g.1 x
theorem Gs.below {B : Nat} {w w' : World} {a : Option Addr} {len cap : Nat} {d : List Rg} (h : Gs w a len cap d) (hB : w.heap.size ≤ B) (hb : Below B w w') : Gs w' a len cap d := by
  obtain ⟨h1, gs, h2, h3⟩ := h
  exact ⟨h1, gs, TabR.below hB hb h2, fun i g x hg hx => (h3 i g x hg hx).below hB hb⟩
theorem Gs.at {w : World} {a : Option Addr} {len cap : Nat} {d : List Rg} (h : Gs w a len cap d) {i : Nat} {x : Rg} (hx : d[i]? = some x) :
    ∃ b off pa pc la lc, a = some ⟨b, off, none⟩ ∧ b < w.heap.size ∧ w.cell? ⟨b, off + i * 4, none⟩ = some (.slice pa x.size pc) ∧ w.cell? ⟨b, off + i * 4 + 1, none⟩ = some (.slice la x.loose.length lc) ∧ w.cell? ⟨b, off + i * 4 + 2, none⟩ = some (.int .i64 x.left) ∧ w.cell? ⟨b, off + i * 4 + 3, none⟩ = some (.bool x.down) ∧
      Txs w pa x.size pc (pagesL x) ∧ Ls w la x.loose.length lc x.loose ∧ x.size ≤ 1000 ∧ (∀ p ∈ x.loose, p.1 < x.size) ∧ -1 ≤ x.left ∧ x.left ≤ 9223372036854775807 := by
  obtain ⟨h1, gs, h2, h3⟩ := h
  have hi : i < len := by rw [← h1]; exact (List.getElem?_eq_some_iff.1 hx).1
  obtain ⟨b, off, y, cs, e1, e2, e3, _, e5, e6⟩ := TabR.at h2 hi
  obtain ⟨pa, pc, la, lc, g1, g2, g3, g4, g5, g6⟩ := h3 i y x e3 hx
  have e7 : cs = [.slice pa x.size pc, .slice la x.loose.length lc, .int .i64 x.left, .bool x.down] := e5.trans g1
  subst e7
  exact ⟨b, off, pa, pc, la, lc, e1, e2, by simpa using e6 0 _ rfl, e6 1 _ rfl, e6 2 _ rfl, e6 3 _ rfl, g2, g3, g4, g5, g6⟩
/-- Worlds that agree on some blocks. -/
def Agree (K : Nat → Prop) (w W : World) : Prop := w.heap.size ≤ W.heap.size ∧ ∀ k o, K k → w.heap[k]? = some o → W.heap[k]? = some o
theorem Agree.refl (K : Nat → Prop) (w : World) : Agree K w w := ⟨Nat.le_refl _, fun _ _ _ h => h⟩
theorem Agree.trans {K : Nat → Prop} {w1 w2 w3 : World} (h : Agree K w1 w2) (h2 : Agree K w2 w3) : Agree K w1 w3 := ⟨Nat.le_trans h.1 h2.1, fun k o hk ho => h2.2 k o hk (h.2 k o hk ho)⟩
theorem Agree.mono {K K2 : Nat → Prop} {w W : World} (h : Agree K2 w W) (hK : ∀ k, K k → K2 k) : Agree K w W := ⟨h.1, fun k o hk ho => h.2 k o (hK k hk) ho⟩
theorem agree_below {K : Nat → Prop} {w w' : World} (hb : Below w.heap.size w w') : Agree K w w' :=
  ⟨hb.size, fun k o _ ho => by rw [hb.block k (Array.getElem?_eq_some_iff.1 ho).1]; exact ho⟩
/-- Some blocks, and all from one on. -/
def From (K : Nat → Prop) (B : Nat) (k : Nat) : Prop := K k ∨ B ≤ k
theorem Agree.step {K : Nat → Prop} {w w' W : World} (hb : Below w.heap.size w w') (h : Agree (From K w.heap.size) w' W) : Agree K w W := (agree_below hb).trans (h.mono fun _ hk => .inl hk)
theorem TabR.agree {α : Type} {sz : Nat} {R : List Value → α → Prop} {w : World} {a : Option Addr} {len cap : Nat} {l : List α} (h : TabR sz R w a len cap l) {K : Nat → Prop} (hK : ∀ b off, a = some ⟨b, off, none⟩ → K b) : ∀ W, Agree K w W → TabR sz R W a len cap l := by
  intro W hW
  obtain ⟨h1, h2, h3, hn, h4⟩ := h
  refine ⟨h1, h2, h3, hn, ?_⟩
  rcases h4 with h4 | ⟨b, off, h5, h6, h7⟩
  · exact .inl h4
  · have hbk : W.heap[b]? = w.heap[b]? := by
      rw [Array.getElem?_eq_getElem h6]
      exact hW.2 b _ (hK b off h5) (Array.getElem?_eq_getElem h6)
    exact .inr ⟨b, off, h5, by have := hW.1; omega, fun i y hy => by
      obtain ⟨cs, c1, c2, c3⟩ := h7 i y hy
      exact ⟨cs, c1, c2, fun j v hv => (World.cell?_of_block hbk).trans (c3 j v hv)⟩⟩
/-- A row of regions that stands on some blocks alone. -/
def GsK (K : Nat → Prop) (w : World) (a : Option Addr) (len cap : Nat) (d : List Rg) : Prop := d.length = len ∧ ∃ gs : List C4, (∀ W, Agree K w W → TabR 4 (fun cs (y : C4) => cs = y.1) W a len cap gs) ∧ ∀ (i : Nat) (g : C4) (x : Rg), gs[i]? = some g → d[i]? = some x → ∀ W, Agree K w W → IsG W g.1 x
theorem GsK.gs {K : Nat → Prop} {w : World} {a : Option Addr} {len cap : Nat} {d : List Rg} (h : GsK K w a len cap d) : Gs w a len cap d := by
  obtain ⟨h1, gs, h2, h3⟩ := h
  exact ⟨h1, gs, h2 w (Agree.refl _ _), fun i g x hg hx => h3 i g x hg hx w (Agree.refl _ _)⟩
theorem GsK.agree {K : Nat → Prop} {w w' : World} {a : Option Addr} {len cap : Nat} {d : List Rg} (h : GsK K w a len cap d) (hA : Agree K w w') : GsK K w' a len cap d := by
  obtain ⟨h1, gs, h2, h3⟩ := h
  exact ⟨h1, gs, fun W hW => h2 W (hA.trans hW), fun i g x hg hx W hW => h3 i g x hg hx W (hA.trans hW)⟩
theorem GsK.below {K : Nat → Prop} {w w' : World} {a : Option Addr} {len cap : Nat} {d : List Rg} (h : GsK K w a len cap d) (hb : Below w.heap.size w w') : GsK K w' a len cap d := h.agree (agree_below hb)
theorem GsK.mono {K K2 : Nat → Prop} {w : World} {a : Option Addr} {len cap : Nat} {d : List Rg} (h : GsK K w a len cap d) (hK : ∀ k, K k → K2 k) : GsK K2 w a len cap d := by
  obtain ⟨h1, gs, h2, h3⟩ := h
  exact ⟨h1, gs, fun W hW => h2 W (hW.mono hK), fun i g x hg hx W hW => h3 i g x hg hx W (hW.mono hK)⟩
theorem GsK.at {K : Nat → Prop} {w : World} {a : Option Addr} {len cap : Nat} {d : List Rg} (h : GsK K w a len cap d) {i : Nat} {x : Rg} (hx : d[i]? = some x) :
    ∃ b off pa pc la lc, a = some ⟨b, off, none⟩ ∧ b < w.heap.size ∧ w.cell? ⟨b, off + i * 4, none⟩ = some (.slice pa x.size pc) ∧ w.cell? ⟨b, off + i * 4 + 1, none⟩ = some (.slice la x.loose.length lc) ∧ w.cell? ⟨b, off + i * 4 + 2, none⟩ = some (.int .i64 x.left) ∧ w.cell? ⟨b, off + i * 4 + 3, none⟩ = some (.bool x.down) ∧
      (∀ W, Agree K w W → Txs W pa x.size pc (pagesL x)) ∧ (∀ W, Agree K w W → Ls W la x.loose.length lc x.loose) ∧ x.size ≤ 1000 ∧ (∀ p ∈ x.loose, p.1 < x.size) ∧ -1 ≤ x.left ∧ x.left ≤ 9223372036854775807 := by
  obtain ⟨h1, gs, h2, h3⟩ := h
  have hi : i < len := by rw [← h1]; exact (List.getElem?_eq_some_iff.1 hx).1
  obtain ⟨b, off, y, cs, e1, e2, e3, _, e5, e6⟩ := TabR.at (h2 w (Agree.refl _ _)) hi
  obtain ⟨pa, pc, la, lc, g1, g2, g3, g4, g5, g6⟩ := h3 i y x e3 hx w (Agree.refl _ _)
  have e7 : cs = [.slice pa x.size pc, .slice la x.loose.length lc, .int .i64 x.left, .bool x.down] := e5.trans g1
  have hW : ∀ W, Agree K w W → Txs W pa x.size pc (pagesL x) ∧ Ls W la x.loose.length lc x.loose := by
    intro W hW
    obtain ⟨pa', pc', la', lc', k1, k2, k3, _⟩ := h3 i y x e3 hx W hW
    have := g1.symm.trans k1
    simp only [List.cons.injEq, Value.slice.injEq] at this
    obtain ⟨⟨rfl, _, rfl⟩, ⟨rfl, _, rfl⟩, _⟩ := this
    exact ⟨k2, k3⟩
  subst e7
  exact ⟨b, off, pa, pc, la, lc, e1, e2, by simpa using e6 0 _ rfl, e6 1 _ rfl, e6 2 _ rfl, e6 3 _ rfl, fun W h => (hW W h).1, fun W h => (hW W h).2, g4, g5, g6⟩
/-- What may not be asked. -/
def refE (d : List Rg) (r p : Int) (asked : Bool) : Int := if asked then pagedE d r p else upE d r
set_option maxRecDepth 100000 in
set_option maxHeartbeats 2000000 in
theorem rup_any {w : World} {a : Option Addr} {len cap : Nat} {d : List Rg} (h : Gs w a len cap d) (hlen : len ≤ 9223372036854775807) (r p : Int) (asked : Bool) :
    Calls Tryd.prog 37 #[.slice a len cap, .int .i64 r, .int .i64 p, .bool asked] w fun e w' => e = .returned (.int .i64 (refE d r p asked)) ∧ w = w' := by
  have hl := h.1
  by_cases h0 : r < 0
  · have q0 : decide (r < 0) = true := by simpa using h0
    have HE : Hid (refE d r p asked = 2) := Lib.hid (by
      have hu : upE d r = 2 := by unfold upE; rw [if_neg (by omega)]
      unfold refE pagedE; rw [hu]; simp)
    clear h0 h hl
    go_enter Tryd.func37, Tryd.ntmps37
    go_wp2_with fail
    go_ret
    exact ⟨ret_int HE.out.symm, rfl⟩
  · obtain ⟨i, rfl⟩ := Int.eq_ofNat_of_zero_le (show 0 ≤ r by omega)
    have q0 : decide ((i : Int) < 0) = false := by simp
    by_cases h1 : i < len
    · obtain ⟨x, hx⟩ : ∃ x, d[i]? = some x := ⟨_, List.getElem?_eq_getElem (by omega)⟩
      obtain ⟨b, off, pa, pc, la, lc, rfl, hb, c0, c1, c2, c3, g2, g3, g4, g5, g6⟩ := h.at hx
      have q1 : decide (len ≤ i) = false := by simp; omega
      have hu : upE d (i : Int) = if x.down then 3 else 0 := by
        unfold upE; rw [if_pos (by omega), Int.toNat_natCast, hx]; rfl
      have hp : pagedE d (i : Int) p = if x.down then 3 else if 0 ≤ p ∧ p < x.size then 0 else 2 := by
        unfold pagedE; rw [hu, atR_of hx]
        cases x.down <;> simp
      cases hd : x.down with
      | true =>
        rw [hd] at c3
        have HE : Hid (refE d (i : Int) p asked = 3) := Lib.hid (by unfold refE; rw [hu, hp, hd]; simp)
        clear hu hp hd h hl hx g2 g3 g5 g6 h0
        go_enter Tryd.func37, Tryd.ntmps37
        go_wp2_with fail
        go_ret
        exact ⟨ret_int HE.out.symm, rfl⟩
      | false =>
        rw [hd] at c3
        cases asked with
        | false =>
          have HE : Hid (refE d (i : Int) p false = 0) := Lib.hid (by unfold refE; rw [hu, hd]; simp)
          clear hu hp hd h hl hx g2 g3 g5 g6 h0
          go_enter Tryd.func37, Tryd.ntmps37
          go_wp2_with fail
          go_ret
          exact ⟨ret_int HE.out.symm, rfl⟩
        | true =>
          by_cases p0 : p < 0
          · have q2 : decide (p < 0) = true := by simpa using p0
            have HE : Hid (refE d (i : Int) p true = 2) := Lib.hid (by unfold refE; rw [hp, hd]; simp; omega)
            clear hu hp hd h hl hx g2 g3 g5 g6 h0
            go_enter Tryd.func37, Tryd.ntmps37
            go_wp2_with fail
            go_ret
            exact ⟨ret_int HE.out.symm, rfl⟩
          · have q2 : decide (p < 0) = false := by simpa using p0
            by_cases p1 : p < x.size
            · have q3 : decide ((x.size : Int) ≤ p) = false := by simpa using p1
              have HE : Hid (refE d (i : Int) p true = 0) := Lib.hid (by unfold refE; rw [hp, hd]; simp; omega)
              clear hu hp hd h hl hx g2 g3 g5 g6 h0
              go_enter Tryd.func37, Tryd.ntmps37
              go_wp2_with fail
              go_ret
              exact ⟨ret_int HE.out.symm, rfl⟩
            · have q3 : decide ((x.size : Int) ≤ p) = true := by simp; omega
              have HE : Hid (refE d (i : Int) p true = 2) := Lib.hid (by unfold refE; rw [hp, hd]; simp; omega)
              clear hu hp hd h hl hx g2 g3 g5 g6 h0
              go_enter Tryd.func37, Tryd.ntmps37
              go_wp2_with fail
              go_ret
              exact ⟨ret_int HE.out.symm, rfl⟩
    · have q1 : decide (len ≤ i) = true := by simp; omega
      have HE : Hid (refE d (i : Int) p asked = 2) := Lib.hid (by
        have hu : upE d (i : Int) = 2 := by unfold upE; rw [if_neg (by omega)]
        unfold refE pagedE; rw [hu]; simp)
      clear h0 h hl
      go_enter Tryd.func37, Tryd.ntmps37
      go_wp2_with fail
      go_ret
      exact ⟨ret_int HE.out.symm, rfl⟩
end Go.Proofs.YtfidfbgplfjakaaDoor

/- The reference's region: a call that counts; a text's bit. -/
namespace Go.Proofs.YtfidfbgplfjakaaDoor
open Go.RowKit

def CountsPost (w : World) (pa : Option Addr) (pc : Nat) (la : Option Addr) (lc : Nat) (x : Rg) (e : Ending) (w' : World) : Prop :=
  e = .returned (.tuple #[.agg #[.slice pa x.size pc, .slice la x.loose.length lc, .int .i64 (cntR x).left, .bool (cntR x).down], .int .i64 (cntE x)]) ∧ Below w.heap.size w w'
set_option maxRecDepth 100000 in
set_option maxHeartbeats 2000000 in
theorem counts_rg {w : World} (pa : Option Addr) (pc : Nat) (la : Option Addr) (lc : Nat) (x : Rg) (hl : -1 ≤ x.left) (hr : x.left ≤ 9223372036854775807) :
    Calls Tryd.prog 38 #[.agg #[.slice pa x.size pc, .slice la x.loose.length lc, .int .i64 x.left, .bool x.down]] w (CountsPost w pa pc la lc x) := by
  have hb1 : ∀ c0 c1 c2 c3 : Value, Below w.heap.size w (w.alloc (.cells #[c0, c1, c2, c3] 87)) := fun _ _ _ _ => (Below.refl _ _).alloc (Nat.le_refl _) _
  by_cases h0 : x.left = 0
  · have q0 : (x.left == 0) = true := by simpa using h0
    have HE := Lib.hid (show cntE x = 3 by rw [cntE, if_pos h0])
    have HR := Lib.hid (show cntR x = { x with down := true } by rw [cntR, if_pos h0])
    clear h0
    go_enter Tryd.func38, Tryd.ntmps38
    go_wp2_with fail
    exact bodyPost_ret (v := .tuple #[.agg #[.slice pa x.size pc, .slice la x.loose.length lc, .int .i64 x.left, .bool true], .int .i64 3]) (by simp [results, Tryd.results38, go_sem]) rfl ⟨by rw [HE.out, HR.out], ((Below.refl _ _).alloc (Nat.le_refl _) _).alloc (by simp) _⟩
  · have q0 : (x.left == 0) = false := by simpa using h0
    have HE := Lib.hid (show cntE x = 0 by rw [cntE, if_neg h0])
    by_cases h1 : 0 < x.left
    · have q1 : decide (0 < x.left) = true := by simpa using h1
      have HR := Lib.hid (show cntR x = { x with left := x.left - 1 } by rw [cntR, if_neg h0, if_pos h1])
      clear h0
      go_enter Tryd.func38, Tryd.ntmps38
      go_wp2_with fail
      exact bodyPost_ret (v := .tuple #[.agg #[.slice pa x.size pc, .slice la x.loose.length lc, .int .i64 (x.left - 1), .bool x.down], .int .i64 0]) (by simp [results, Tryd.results38, go_sem]) rfl ⟨by rw [HE.out, HR.out], ((Below.refl _ _).alloc (Nat.le_refl _) _).alloc (by simp) _⟩
    · have q1 : decide (0 < x.left) = false := by simpa using h1
      have HR := Lib.hid (show cntR x = x by rw [cntR, if_neg h0, if_neg h1])
      clear h0
      go_enter Tryd.func38, Tryd.ntmps38
      go_wp2_with fail
      exact bodyPost_ret (v := .tuple #[.agg #[.slice pa x.size pc, .slice la x.loose.length lc, .int .i64 x.left, .bool x.down], .int .i64 0]) (by simp [results, Tryd.results38, go_sem]) rfl ⟨by rw [HE.out, HR.out], ((Below.refl _ _).alloc (Nat.le_refl _) _).alloc (by simp) _⟩
end Go.Proofs.YtfidfbgplfjakaaDoor
