/- The document's example of a disk: awake. -/
import Derived.Test.YtopnfpobbemfbaaDskA
namespace Go.Proofs.Ytopnfpobbemfbaa
open Go.RowKit

/-- A disk of the call's own, and blocks that are others'. -/
def OneK (B : Nat) (K : List Nat) (w : World) (da M : Nat) (d : List Rg) : Prop := ∃ F bs, DskIn w F da M bs d ∧ (∀ k ∈ F, B ≤ k ∧ k ∉ K) ∧ B ≤ w.heap.size ∧ ∀ k ∈ K, k < w.heap.size
def KeepK (K : List Nat) (w w' : World) : Prop := ∀ k ∈ K, w'.heap[k]? = w.heap[k]?
theorem OneK.opens {B : Nat} {K : List Nat} {w : World} {da M : Nat} {d : List Rg} (h : OneK B K w da M d) : Opens B w.heap.size w da M d (fun w' M' d' => OneK B K w' da M' d' ∧ Below B w w' ∧ KeepK K w w') := by
  obtain ⟨F, bs, h1, h2, h3, h4⟩ := h
  refine ⟨F, bs, h1, fun k hk => ⟨(h2 k hk).1, h1.lt k hk⟩, Nat.le_refl _, h3, fun w' F' bs' d' M' _ ho hd hF => ⟨⟨F', bs', hd, fun k hk => ?_, by have := ho.size; omega, fun k hk => Nat.lt_of_lt_of_le (h4 k hk) ho.size⟩, ho.below h3 (fun k hk => (h2 k hk).1), fun k hk => ho.block (h4 k hk) (fun hk2 => (h2 k hk2).2 hk)⟩⟩
  rcases hF k hk with h5 | h5
  · exact h2 k h5
  · exact ⟨by omega, fun hk2 => by have := h4 k hk2; omega⟩
theorem OneK.one {B : Nat} {K : List Nat} {w : World} {da M : Nat} {d : List Rg} (h : OneK B K w da M d) : One B w da M d := by
  obtain ⟨F, bs, h1, h2, h3, h4⟩ := h
  exact ⟨F, bs, h1, fun k hk => (h2 k hk).1, h3⟩
theorem One.k {B : Nat} {w : World} {da M : Nat} {d : List Rg} (h : One B w da M d) : OneK B [] w da M d := by
  obtain ⟨F, bs, h1, h2, h3⟩ := h
  exact ⟨F, bs, h1, fun k hk => ⟨h2 k hk, by simp⟩, h3, by simp⟩
theorem OneK.below {B : Nat} {K : List Nat} {w w' : World} {da M : Nat} {d : List Rg} (h : OneK B K w da M d) (hb : Below w.heap.size w w') : OneK B K w' da M d := by
  obtain ⟨F, bs, h1, h2, h3, h4⟩ := h
  exact ⟨F, bs, h1.below hb, h2, by have := hb.size; omega, fun k hk => Nat.lt_of_lt_of_le (h4 k hk) hb.size⟩
theorem OneK.add {B : Nat} {K : List Nat} {w w' : World} {da M : Nat} {d : List Rg} (h : OneK B K w da M d) (hb : Below w.heap.size w w') (g : Nat) (h1 : w.heap.size ≤ g) (h2 : g < w'.heap.size) : OneK B (g :: K) w' da M d := by
  obtain ⟨F, bs, e1, e2, e3, e4⟩ := h
  refine ⟨F, bs, e1.below hb, fun k hk => ⟨(e2 k hk).1, fun hk2 => ?_⟩, by omega, fun k hk => ?_⟩
  · rcases List.mem_cons.1 hk2 with rfl | hk2
    · have := e1.lt k hk; omega
    · exact (e2 k hk).2 hk2
  · rcases List.mem_cons.1 hk with rfl | hk
    · exact h2
    · exact Nat.lt_of_lt_of_le (e4 k hk) hb.size
/-- A page that was read: its first byte. -/
theorem read_first {w w' : World} {l : List UInt8} {v : Value} (ho : w'.ownsRow w.heap.size 5 1 v l.length ((toI l).map (Value.int .u8))) {f : UInt8} (hl : l = fillL 128 f) :
    ∃ g cap, v = .slice (some ⟨g, 0, none⟩) 128 cap ∧ 128 ≤ cap ∧ cap ≤ 9223372036854775807 ∧ w.heap.size ≤ g ∧ g < w'.heap.size ∧ w'.cell? ⟨g, 0, none⟩ = some (.int .u8 (f.toNat : Int)) := by
  subst hl
  have e : (fillL 128 f).length = 128 := by simp [fillL]
  rw [e] at ho
  obtain ⟨a, cap, rfl, h1, h2, h3⟩ := own_slice ho
  obtain ⟨g, rfl⟩ := h3 (by decide)
  have hg := own_ge ho g rfl
  have hlt := own_lt ho g rfl
  have hc := ho.cellAt 0 (by decide)
  refine ⟨g, cap, rfl, h1, by unfold maxLen at h2; omega, hg, hlt, ?_⟩
  rw [hc]
  simp [fillL, toI]
theorem stp_build (f : Int) (w : World) : (Instr.build 33 #[(3, .int .u8 f)]).run Try.prog w = .ok (.agg #[.int .i64 0, .int .i64 0, .int .i64 0, .int .u8 f, .bool false, .slice none 0 0]) w := by
  go_simp
theorem page_fill (f : UInt8) (w : World) : Calls Try.prog 11 #[.agg #[.int .i64 0, .int .i64 0, .int .i64 0, .int .u8 (f.toNat : Int), .bool false, .slice none 0 0]] w (OwnBytes 5 w (fillL 128 f)) :=
  page_any ⟨0, 0, 0, f, false, none, 0, 0, []⟩ w
def w7 : List Rg := newD [4, 5]
def w7a : List Rg := writeD w7 1 4 (fillL 128 7)
def w7b : List Rg := crashD w7a []
def w7c : List Rg := writeD w7b 1 4 (fillL 128 8)
def w7d : List Rg := syncD w7c 1
def w7e : List Rg := crashD w7d []
theorem aw1 : writeE w7 1 4 (fillL 128 7) = 0 := by decide +kernel
theorem aw2 : readB w7a 1 4 = fillL 128 7 := by decide +kernel
theorem aw3 : readB w7b 1 4 = fillL 128 0 := by decide +kernel
theorem aw4 : readB w7e 1 4 = fillL 128 8 := by decide +kernel
theorem aw5 : (w7a[1]?.map (·.loose.length)) = some 1 := by decide +kernel
theorem aw6 : sizeL w7e 0 = 4 := by decide +kernel
theorem aw7 : sizeL w7e 2 = 0 := by decide +kernel
end Go.Proofs.Ytopnfpobbemfbaa
