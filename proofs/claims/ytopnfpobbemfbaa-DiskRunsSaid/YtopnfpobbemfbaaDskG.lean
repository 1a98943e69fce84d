/- A write of a step, beside a box; what stays. -/
import Derived.Test.YtopnfpobbemfbaaDskL1
import Derived.Deep.RegionHeld3
import Derived.Deep.RegionLaw
import Derived.Deep.DeepCutAuto
namespace Go.Proofs.Ytopnfpobbemfbaa
open Go.RowKit

def Mid (T : Nat) (w w' : World) : Prop := ∀ k, T ≤ k → k < w.heap.size → w'.heap[k]? = w.heap[k]?
theorem Mid.boxes {T : Nat} {w w' : World} (h : Mid T w w') {l : List (Nat × List Value)} (hl : Boxes w l) (hT : ∀ p ∈ l, T ≤ p.1) : Boxes w' l := by
  intro p hp
  obtain ⟨t, ht⟩ := hl p hp
  exact ⟨t, (h p.1 (hT p hp) (Array.getElem?_eq_some_iff.1 ht).1).trans ht⟩
section
variable {B T : Nat} {w : World} {da M : Nat} {d : List Rg} {Q : World → Nat → List Rg → Prop}
theorem write_m (h : Opens B T w da M d Q) {a : Option Addr} {len cap : Nat} {l : List UInt8} (hb : Bs w a len cap l) (hF : ∀ g off, a = some ⟨g, off, none⟩ → g < B ∨ T ≤ g) (hM : M ≤ 900000) (r p : Int) :
    Calls Try.prog 10 #[.pointer (some ⟨da, 0, none⟩), .int .i64 r, .int .i64 p, .slice a len cap] w fun e w' => e = .returned (.int .i64 (writeE d r p l)) ∧ Q w' (M + 1) (writeD d r p l) ∧ Mid T w w' := by
  obtain ⟨F, bs, h1, h2, h3, h4, h5⟩ := h
  refine (write_any h1 hb (fun g off hg hk => by have := h2 g hk; rcases hF g off hg with h | h <;> omega) hM r p).mono ?_
  rintro e w' ⟨rfl, ho, F', bs', hd, hF'⟩
  exact ⟨rfl, h5 w' F' bs' _ _ (Nat.le_succ M) ho hd (fun k hk => (hF' k hk).imp id (fun h => by omega)), fun k hk hlt => ho.block hlt (fun hkF => by have := h2 k hkF; omega)⟩
theorem sync_m (h : Opens B T w da M d Q) (hM : M ≤ 900000) (r : Int) :
    Calls Try.prog 12 #[.pointer (some ⟨da, 0, none⟩), .int .i64 r] w fun e w' => e = .returned (.int .i64 (syncE d r)) ∧ Q w' M (syncD d r) ∧ Mid T w w' := by
  obtain ⟨F, bs, h1, h2, h3, h4, h5⟩ := h
  refine (dsync_any h1 (by omega) r).mono ?_
  rintro e w' ⟨rfl, ho, F', bs', hd, hF'⟩
  exact ⟨rfl, h5 w' F' bs' _ _ (Nat.le_refl M) ho hd (fun k hk => (hF' k hk).imp id (fun h => by omega)), fun k hk hlt => ho.block hlt (fun hkF => by have := h2 k hkF; omega)⟩
theorem stop_m (h : Opens B T w da M d Q) (r a : Int) (ha : a ≤ 9223372036854775807) :
    Calls Try.prog 18 #[.pointer (some ⟨da, 0, none⟩), .int .i64 r, .int .i64 a] w fun e w' => e = .returned (.tuple #[]) ∧ Q w' M (stopD d r a) ∧ Mid T w w' := by
  obtain ⟨F, bs, h1, h2, h3, h4, h5⟩ := h
  refine (dstop_any h1 r a ha).mono ?_
  rintro e w' ⟨rfl, ho, F', bs', hd, hF'⟩
  exact ⟨rfl, h5 w' F' bs' _ _ (Nat.le_refl M) ho hd (fun k hk => (hF' k hk).imp id (fun h => by omega)), fun k hk hlt => ho.block hlt (fun hkF => by have := h2 k hkF; omega)⟩
theorem crash_m (h : Opens B T w da M d Q) (hM : M ≤ 900000) {a : Option Addr} {len cap : Nat} {ks : List (List UInt8)} (hks : Txs w a len cap ks) (hF : ∀ g off, len ≠ 0 → a = some ⟨g, off, none⟩ → g < B ∨ T ≤ g) :
    Calls Try.prog 13 #[.pointer (some ⟨da, 0, none⟩), .slice a len cap] w fun e w' => e = .returned (.tuple #[]) ∧ Q w' M (crashD d ks) ∧ Mid T w w' := by
  obtain ⟨F, bs, h1, h2, h3, h4, h5⟩ := h
  refine (dcrash_any h1 (by omega) hks (fun g off hne hg hk => by have := h2 g hk; rcases hF g off hne hg with h | h <;> omega)).mono ?_
  rintro e w' ⟨rfl, ho, F', bs', hd, hF'⟩
  exact ⟨rfl, h5 w' F' bs' _ _ (Nat.le_refl M) ho hd (fun k hk => (hF' k hk).imp id (fun h => by omega)), fun k hk hlt => ho.block hlt (fun hkF => by have := h2 k hkF; omega)⟩
end
/-- The cells of a step's box. -/
theorem stp_cells {W : World} {bx : Nat} {y : Stp} {l : List (Nat × List Value)} (h : Boxes W ((bx, scells y) :: l)) : W.cell? ⟨bx, 0, none⟩ = some (.int .i64 y.kind) ∧ W.cell? ⟨bx, 1, none⟩ = some (.int .i64 y.region) ∧ W.cell? ⟨bx, 2, none⟩ = some (.int .i64 y.page) ∧ W.cell? ⟨bx, 3, none⟩ = some (.int .u8 (y.fill.toNat : Int)) ∧ W.cell? ⟨bx, 4, none⟩ = some (.bool y.short) ∧ W.cell? ⟨bx, 5, none⟩ = some (.slice y.ka y.kl y.kc) :=
  ⟨h.cell 0 0 rfl rfl, h.cell 0 1 rfl rfl, h.cell 0 2 rfl rfl, h.cell 0 3 rfl rfl, h.cell 0 4 rfl rfl, h.cell 0 5 rfl rfl⟩
/-- The page's call, at the step's own cells. -/
theorem page_lit (y : Stp) (W : World) : Calls Try.prog 11 #[.agg #[.int .i64 y.kind, .int .i64 y.region, .int .i64 y.page, .int .u8 (y.fill.toNat : Int), .bool y.short, .slice y.ka y.kl y.kc]] W (OwnBytes 5 W (pageB y)) := page_any y W
/-- A step out of the row that came in. -/
theorem Stps.stepAt {w w' : World} {a : Option Addr} {len cap : Nat} {l : List Stp} (h : Stps w a len cap l) (hb : Below w.heap.size w w') {k : Nat} (hk : k < len) :
    ∃ b off y, a = some ⟨b, off, none⟩ ∧ b < w.heap.size ∧ l[k]? = some y ∧ Txs w y.ka y.kl y.kc y.keep ∧ y.page ≤ 9223372036854775807 ∧ w'.rangeAt b (off + k * 6) (scells y) := by
  obtain ⟨b, off, y, cs, e1, e2, e3, _, ⟨rfl, e5, e6⟩, e7⟩ := TabR.at h hk
  exact ⟨b, off, y, e1, e2, e3, e5, e6, fun j v hv => (hb.cell (p := ⟨b, off + k * 6 + j, none⟩) e2).trans (e7 j v hv)⟩
/-- Two disks of the call's own, and blocks that are others'. -/
def TwoK (B : Nat) (K : List Nat) (w : World) (da db M : Nat) (d e : List Rg) : Prop := ∃ F G bs cs, DskIn w F da M bs d ∧ DskIn w G db M cs e ∧ (∀ k ∈ F, B ≤ k ∧ k ∉ K) ∧ (∀ k ∈ G, B ≤ k ∧ k ∉ K) ∧ (∀ k ∈ F, k ∉ G) ∧ B ≤ w.heap.size ∧ ∀ k ∈ K, k < w.heap.size
theorem TwoK.opens {B : Nat} {K : List Nat} {w : World} {da db M : Nat} {d e : List Rg} (h : TwoK B K w da db M d e) : Opens B w.heap.size w da M d (fun w' M' d' => TwoK B K w' da db M' d' e ∧ Below B w w' ∧ KeepK K w w') := by
  obtain ⟨F, G, bs, cs, h1, h2, h3, h4, h5, h6, h7⟩ := h
  refine ⟨F, bs, h1, fun k hk => ⟨(h3 k hk).1, h1.lt k hk⟩, Nat.le_refl _, h6, fun w' F' bs' d' M' hM ho hd hF => ⟨⟨F', G, bs', cs, hd, (h2.only ho (fun k hk hk2 => h5 k hk2 hk)).more hM, fun k hk => ?_, h4, fun k hk hk2 => ?_, by have := ho.size; omega, fun k hk => Nat.lt_of_lt_of_le (h7 k hk) ho.size⟩, ho.below h6 (fun k hk => (h3 k hk).1), fun k hk => ho.block (h7 k hk) (fun hk2 => (h3 k hk2).2 hk)⟩⟩
  · rcases hF k hk with h8 | h8
    · exact h3 k h8
    · exact ⟨by omega, fun hk2 => by have := h7 k hk2; omega⟩
  · rcases hF k hk with h8 | h8
    · exact h5 k h8 hk2
    · have := h2.lt k hk2; omega
theorem TwoK.swap {B : Nat} {K : List Nat} {w : World} {da db M : Nat} {d e : List Rg} (h : TwoK B K w da db M d e) : TwoK B K w db da M e d := by
  obtain ⟨F, G, bs, cs, h1, h2, h3, h4, h5, h6⟩ := h
  exact ⟨G, F, cs, bs, h2, h1, h4, h3, fun k hk hk2 => h5 k hk2 hk, h6⟩
theorem TwoK.two {B : Nat} {K : List Nat} {w : World} {da db M : Nat} {d e : List Rg} (h : TwoK B K w da db M d e) : Two B w da db M d e := by
  obtain ⟨F, G, bs, cs, h1, h2, h3, h4, h5, h6, _⟩ := h
  exact ⟨F, G, bs, cs, h1, h2, fun k hk => (h3 k hk).1, fun k hk => (h4 k hk).1, h5, h6⟩
theorem Two.k {B : Nat} {w : World} {da db M : Nat} {d e : List Rg} (h : Two B w da db M d e) : TwoK B [] w da db M d e := by
  obtain ⟨F, G, bs, cs, h1, h2, h3, h4, h5, h6⟩ := h
  exact ⟨F, G, bs, cs, h1, h2, fun k hk => ⟨h3 k hk, by simp⟩, fun k hk => ⟨h4 k hk, by simp⟩, h5, h6, by simp⟩
theorem TwoK.below {B : Nat} {K : List Nat} {w w' : World} {da db M : Nat} {d e : List Rg} (h : TwoK B K w da db M d e) (hb : Below w.heap.size w w') : TwoK B K w' da db M d e := by
  obtain ⟨F, G, bs, cs, h1, h2, h3, h4, h5, h6, h7⟩ := h
  exact ⟨F, G, bs, cs, h1.below hb, h2.below hb, h3, h4, h5, by have := hb.size; omega, fun k hk => Nat.lt_of_lt_of_le (h7 k hk) hb.size⟩
theorem TwoK.add {B : Nat} {K : List Nat} {w w' : World} {da db M : Nat} {d e : List Rg} (h : TwoK B K w da db M d e) (hb : Below w.heap.size w w') (g : Nat) (h1 : w.heap.size ≤ g) (h2 : g < w'.heap.size) : TwoK B (g :: K) w' da db M d e := by
  obtain ⟨F, G, bs, cs, e1, e2, e3, e4, e5, e6, e7⟩ := h
  refine ⟨F, G, bs, cs, e1.below hb, e2.below hb, fun k hk => ⟨(e3 k hk).1, fun hk2 => ?_⟩, fun k hk => ⟨(e4 k hk).1, fun hk2 => ?_⟩, e5, by omega, fun k hk => ?_⟩
  · rcases List.mem_cons.1 hk2 with rfl | hk2
    · have := e1.lt k hk; omega
    · exact (e3 k hk).2 hk2
  · rcases List.mem_cons.1 hk2 with rfl | hk2
    · have := e2.lt k hk; omega
    · exact (e4 k hk).2 hk2
  · rcases List.mem_cons.1 hk with rfl | hk
    · exact h2
    · exact Nat.lt_of_lt_of_le (e7 k hk) hb.size
theorem KeepK.boxes {K : List Nat} {w w' : World} (h : KeepK K w w') {l : List (Nat × List Value)} (hl : Boxes w l) (hK : ∀ p ∈ l, p.1 ∈ K) : Boxes w' l := by
  intro p hp
  obtain ⟨t, ht⟩ := hl p hp
  exact ⟨t, (h p.1 (hK p hp)).trans ht⟩
theorem KeepK.cell {K : List Nat} {w w' : World} (h : KeepK K w w') {a : Addr} {v : Value} (hc : w.cell? a = some v) (hK : a.block ∈ K) : w'.cell? a = some v := (World.cell?_of_block (h a.block hK)).trans hc
/-- The world in which a step's box is new; the region's draw. -/
theorem TwoK.box {B : Nat} {K : List Nat} {w : World} {da db M : Nat} {d e : List Rg} (h : TwoK B K w da db M d e) (o : Obj) : TwoK B (w.heap.size :: K) (w.alloc o).drew da db M d e :=
  (h.add (w' := w.alloc o) ((Below.refl _ _).alloc (Nat.le_refl _) o) w.heap.size (Nat.le_refl _) (by simp)).below ⟨rfl, rfl, rfl, Nat.le_refl _, fun _ _ => rfl⟩
theorem TwoK.drew {B : Nat} {K : List Nat} {w : World} {da db M : Nat} {d e : List Rg} (h : TwoK B K w da db M d e) : TwoK B K w.drew da db M d e := h.below ⟨rfl, rfl, rfl, Nat.le_refl _, fun _ _ => rfl⟩
theorem OneK.box {B : Nat} {K : List Nat} {w : World} {da M : Nat} {d : List Rg} (h : OneK B K w da M d) (o : Obj) : OneK B (w.heap.size :: K) (w.alloc o).drew da M d :=
  (h.add (w' := w.alloc o) ((Below.refl _ _).alloc (Nat.le_refl _) o) w.heap.size (Nat.le_refl _) (by simp)).below ⟨rfl, rfl, rfl, Nat.le_refl _, fun _ _ => rfl⟩
theorem OneK.drew {B : Nat} {K : List Nat} {w : World} {da M : Nat} {d : List Rg} (h : OneK B K w da M d) : OneK B K w.drew da M d := h.below ⟨rfl, rfl, rfl, Nat.le_refl _, fun _ _ => rfl⟩
theorem size_abox (w : World) (o : Obj) : (w.alloc o).drew.heap.size = w.heap.size + 1 := by show (w.heap.push o).size = _; simp
theorem below_abox {w w6 : World} {o : Obj} (h : Below (w.alloc o).drew.heap.size (w.alloc o).drew w6) : Below w.heap.size w w6 := by
  have h2 : Below (w.alloc o).heap.size (w.alloc o) w6 := ⟨h.os, h.tape, h.output, h.size, h.block⟩
  exact ((Below.refl _ _).alloc (Nat.le_refl _) o).trans (h2.mono (by simp))
end Go.Proofs.Ytopnfpobbemfbaa
