/- A disk and the reference's regions, side by side. -/
import Derived.Test.YtopnfpobbemfbaaRgN
namespace Go.Proofs.Ytopnfpobbemfbaa
open Go.RowKit

theorem GsK.lt {K : Nat → Prop} {w : World} {a : Option Addr} {len cap : Nat} {d : List Rg} (h : GsK K w a len cap d) : GsK (fun k => K k ∧ k < w.heap.size) w a len cap d := by
  have up : ∀ W, Agree (fun k => K k ∧ k < w.heap.size) w W → Agree K w W := fun W hW => ⟨hW.1, fun k o hk ho => hW.2 k o ⟨hk, (Array.getElem?_eq_some_iff.1 ho).1⟩ ho⟩
  obtain ⟨h1, gs, h2, h3⟩ := h
  exact ⟨h1, gs, fun W hW => h2 W (up W hW), fun i g x hg hx W hW => h3 i g x hg hx W (up W hW)⟩
/-- A disk of the call's own; regions of the reference that stand on none of its blocks. -/
def Both (B : Nat) (w : World) (da M : Nat) (d : List Rg) (a : Option Addr) (n cap : Nat) (e : List Rg) : Prop :=
  ∃ F bs, DskIn w F da M bs d ∧ (∀ k ∈ F, B ≤ k) ∧ B ≤ w.heap.size ∧ GsK (fun k => k ∉ F) w a n cap e
theorem Both.one {B : Nat} {w : World} {da M : Nat} {d e : List Rg} {a : Option Addr} {n cap : Nat} (h : Both B w da M d a n cap e) : One B w da M d := by
  obtain ⟨F, bs, h1, h2, h3, h4⟩ := h
  exact ⟨F, bs, h1, h2, h3⟩
theorem Both.gs {B : Nat} {w : World} {da M : Nat} {d e : List Rg} {a : Option Addr} {n cap : Nat} (h : Both B w da M d a n cap e) : Gs w a n cap e := by
  obtain ⟨F, bs, h1, h2, h3, h4⟩ := h
  exact h4.gs
theorem Both.below {B : Nat} {w w' : World} {da M : Nat} {d e : List Rg} {a : Option Addr} {n cap : Nat} (h : Both B w da M d a n cap e) (hb : Below w.heap.size w w') : Both B w' da M d a n cap e := by
  obtain ⟨F, bs, h1, h2, h3, h4⟩ := h
  exact ⟨F, bs, h1.below hb, h2, by have := hb.size; omega, h4.below hb⟩
theorem Both.mk {B N : Nat} {w w' : World} {da M : Nat} {d e : List Rg} {a : Option Addr} {n cap : Nat} (h : One B w da M d) (hb : Below w.heap.size w w') (hN : w.heap.size ≤ N) (hg : GsK (From (fun _ => False) N) w' a n cap e) : Both B w' da M d a n cap e := by
  obtain ⟨F, bs, h1, h2, h3⟩ := h
  refine ⟨F, bs, h1.below hb, h2, by have := hb.size; omega, hg.mono fun k hk hF => ?_⟩
  rcases hk with hk | hk
  · exact hk
  · have := h1.lt k hF; omega
/-- What is done to the disk leaves the regions. -/
theorem Both.opens {B : Nat} {w : World} {da M : Nat} {d e : List Rg} {a : Option Addr} {n cap : Nat} (h : Both B w da M d a n cap e) : Opens B w.heap.size w da M d (fun w' M' d' => Both B w' da M' d' a n cap e ∧ Below B w w') := by
  obtain ⟨F, bs, h1, h2, h3, h4⟩ := h
  refine ⟨F, bs, h1, fun k hk => ⟨h2 k hk, h1.lt k hk⟩, Nat.le_refl _, h3, fun w' F' bs' d' M' _ ho hd hF => ⟨⟨F', bs', hd, fun k hk => (hF k hk).elim (h2 k) (fun h => by omega), by have := ho.size; omega, ?_⟩, ho.below h3 h2⟩⟩
  have hA : Agree (fun k => k ∉ F ∧ k < w.heap.size) w w' := ⟨ho.size, fun k o hk h5 => by rw [ho.block hk.2 hk.1]; exact h5⟩
  refine (h4.lt.agree hA).mono fun k hk hk2 => ?_
  rcases hF k hk2 with h5 | h5
  · exact hk.1 h5
  · have := hk.2; omega
/-- What is done to the regions leaves the disk. -/
theorem Both.turn {B : Nat} {w w' : World} {da M : Nat} {d e e2 : List Rg} {a a2 : Option Addr} {n cap n2 cap2 : Nat} (h : Both B w da M d a n cap e) (hb : Below w.heap.size w w') (hg : ∀ F : List Nat, (∀ k ∈ F, k < w.heap.size) → GsK (fun k => k ∉ F) w a n cap e → GsK (From (fun k => k ∉ F) w.heap.size) w' a2 n2 cap2 e2) : Both B w' da M d a2 n2 cap2 e2 := by
  obtain ⟨F, bs, h1, h2, h3, h4⟩ := h
  refine ⟨F, bs, h1.below hb, h2, by have := hb.size; omega, (hg F h1.lt h4).mono fun k hk hF => ?_⟩
  rcases hk with hk | hk
  · exact hk hF
  · have := h1.lt k hF; omega
theorem both_write {B : Nat} {w : World} {da M : Nat} {d e : List Rg} {a : Option Addr} {n cap : Nat} (h : Both B w da M d a n cap e) (hlen : n ≤ 1000) (hL : ∀ x ∈ e, x.loose.length ≤ 100000) (r p : Int) (l : List UInt8) :
    Calls Try.prog 20 #[.slice a n cap, .int .i64 r, .int .i64 p, .string (strOf l)] w fun e1 w' => ∃ a2 n2 cap2, e1 = .returned (.tuple #[.slice a2 n2 cap2, .int .i64 (writeE e r p l)]) ∧ Both B w' da M d a2 n2 cap2 (writeD e r p l) ∧ Below w.heap.size w w' := by
  obtain ⟨F, bs, h1, h2, h3, h4⟩ := h
  refine (rwrite_any h4 hlen hL r p l).mono ?_
  rintro e1 w' ⟨a2, n2, cap2, rfl, hg, hb⟩
  refine ⟨a2, n2, cap2, rfl, ⟨F, bs, h1.below hb, h2, by have := hb.size; omega, hg.mono fun k hk hF => ?_⟩, hb⟩
  rcases hk with hk | hk
  · exact hk hF
  · have := h1.lt k hF; omega
theorem atR_len {d : List Rg} {M : Nat} (h : ∀ x ∈ d, x.loose.length ≤ M) {r p : Int} (hu : pagedE d r p = 0) : (atR d r).loose.length ≤ M := by
  obtain ⟨i, pn, x, rfl, rfl, hx, _⟩ := pagedE_zero hu
  rw [atR_of hx]
  exact h x (List.mem_of_getElem? hx)
theorem write_loose {d : List Rg} {M : Nat} (h : ∀ x ∈ d, x.loose.length ≤ M) (r p : Int) (b : List UInt8) : ∀ x ∈ writeD d r p b, x.loose.length ≤ M + 1 := by
  intro x hx
  unfold writeD at hx
  split at hx
  · rename_i hu
    rcases List.mem_or_eq_of_mem_set hx with hx | rfl
    · have := h x hx; omega
    · have := atR_len h hu.1
      unfold wroteR
      split
      · simp; omega
      · rw [cntR_loose]; omega
  · have := h x hx; omega
theorem write_length (d : List Rg) (r p : Int) (b : List UInt8) : (writeD d r p b).length = d.length := by
  unfold writeD; split <;> simp
theorem new_loose (l : List Int) : ∀ x ∈ newD l, x.loose.length ≤ 0 := by
  intro x hx
  simp only [newD, List.mem_map] at hx
  obtain ⟨n, _, rfl⟩ := hx
  exact Nat.le_refl _
end Go.Proofs.Ytopnfpobbemfbaa
