/- Laws that the statements on spoiled and lost pages share. -/
import Derived.Test.YtfidfbgplfjakaaDoorChnL1q
namespace Go.Proofs.YtfidfbgplfjakaaDoor
open Go.RowKit

theorem One.setOut {B : Nat} {w : World} {da M : Nat} {d : List Rg} (h : One B w da M d) (a : Addr) (u : Value) (ha : a.block < B) : One B (w.setCell a u) da M d := by
  obtain ⟨F, bs, h1, h2, h3⟩ := h
  have ho : Only [a.block] w (w.setCell a u) := (Only.refl _ _).set a u (by simp)
  exact ⟨F, bs, h1.only ho (fun k hk hk2 => by simp at hk2; subst hk2; have := h2 _ hk; omega), h2, by simpa [World.setCell] using h3⟩
theorem zerosC_sum : (crcOf (List.replicate 124 0) == 0) = false := by kernel_rfl
theorem zerosC_unp : unpE (List.replicate 128 0) = 12 := by
  have h := zerosC_sum
  unfold unpE
  rw [if_neg (by simp)]
  have e1 : (List.replicate 128 (0 : UInt8)).take 4 = List.replicate 4 0 := by simp
  have e2 : (List.replicate 128 (0 : UInt8)).drop 4 = List.replicate 124 0 := by simp
  rw [e1, e2, if_pos]
  intro e
  have hz : beVal (List.replicate 4 0) = 0 := by decide
  rw [hz] at e
  rw [← e] at h
  simp at h
theorem oneEC_of {b : List UInt8} (h : unpE b = 12) : oneEC b = 12 := by rw [oneEC, if_pos (by rw [h]; decide), h]
/-- One of the rows of bytes, as a row of the call's own. -/
theorem OwnBss.own {w : World} {base : Nat} {v : Value} {l : List (List UInt8)} (h : OwnBss w base v l) {i : Nat} {c : List UInt8} (hc : l[i]? = some c) (h0 : 0 < c.length) :
    ∃ g k gx cx, v = .slice (some ⟨g, 0, none⟩) l.length k ∧ g < w.heap.size ∧ g ≠ gx ∧ gx < w.heap.size ∧ w.cell? ⟨g, i, none⟩ = some (.slice (some ⟨gx, 0, none⟩) c.length cx) ∧ w.ownsRow base 5 1 (.slice (some ⟨gx, 0, none⟩) c.length cx) c.length ((toI c).map (Value.int .u8)) := by
  obtain ⟨vs, h1, h2, h3⟩ := h
  obtain ⟨u, e1, e2⟩ := h3 i c hc
  obtain ⟨a, cx, rfl, _, _, hga⟩ := own_slice e2
  obtain ⟨gx, rfl⟩ := hga h0
  have hgx := own_lt e2 gx rfl
  have hne := own_types h1 e2 (by decide)
  obtain ⟨a0, k, rfl, hlen, hk, hk2, hcell⟩ := own_cells1 h1
  obtain ⟨g, rfl, hg, hcl⟩ := hcell i _ e1
  refine ⟨g, k, gx, cx, rfl, hg, fun e => ?_, hgx, hcl, e2⟩
  subst e
  rcases hne with h | h
  · cases h
  · exact h rfl
theorem OneK.put {B : Nat} {K : List Nat} {w : World} {da M : Nat} {d : List Rg} (h : OneK B K w da M d) (a : Addr) (u : Value) (ha : a.block ∈ K) : OneK B K (w.setCell a u) da M d := by
  obtain ⟨F, bs, h1, h2, h3, h4⟩ := h
  have ho : Only [a.block] w (w.setCell a u) := (Only.refl _ _).set a u (by simp)
  exact ⟨F, bs, h1.only ho (fun k hk hk2 => by simp at hk2; subst hk2; exact (h2 _ hk).2 ha), h2, by simpa [World.setCell] using h3, fun k hk => by simpa [World.setCell] using h4 k hk⟩
theorem OneK.more {B : Nat} {K : List Nat} {w : World} {da M M' : Nat} {d : List Rg} (h : OneK B K w da M d) (hM : M ≤ M') : OneK B K w da M' d := by
  obtain ⟨F, bs, h1, h2⟩ := h
  exact ⟨F, bs, h1.more hM, h2⟩
theorem own_blk {w w' : World} {base : Nat} {e : TypeId} {size : Nat} {g n c : Nat} {xs : List Value} (h : w.ownsRow base e size (.slice (some ⟨g, 0, none⟩) n c) n xs) (hb : w'.heap[g]? = w.heap[g]?) : w'.ownsRow base e size (.slice (some ⟨g, 0, none⟩) n c) n xs :=
  ⟨h.1, h.2.imp id fun ⟨g', cap, cur, e1, hg1, hh, r⟩ => ⟨g', cap, cur, e1, hg1, by cases e1; exact hb.trans hh, r⟩⟩
end Go.Proofs.YtfidfbgplfjakaaDoor
