/- The law DiskRuns: a disk and the reference's regions, step by step. -/
import Derived.Test.YtopnfpobbemfbaaRgP
namespace Go.Proofs.Ytopnfpobbemfbaa
open Go.RowKit

/-- A disk, the reference's regions, and blocks that are others'. -/
def BothK (B : Nat) (K : List Nat) (w : World) (da M : Nat) (d : List Rg) (a : Option Addr) (n cap : Nat) (e : List Rg) : Prop :=
  ∃ F bs, DskIn w F da M bs d ∧ (∀ k ∈ F, B ≤ k ∧ k ∉ K) ∧ B ≤ w.heap.size ∧ (∀ k ∈ K, k < w.heap.size) ∧ GsK (fun k => k ∉ F) w a n cap e
theorem BothK.both {B : Nat} {K : List Nat} {w : World} {da M : Nat} {d e : List Rg} {a : Option Addr} {n cap : Nat} (h : BothK B K w da M d a n cap e) : Both B w da M d a n cap e := by
  obtain ⟨F, bs, h1, h2, h3, h4, h5⟩ := h
  exact ⟨F, bs, h1, fun k hk => (h2 k hk).1, h3, h5⟩
theorem Both.addK {B : Nat} {w w' : World} {da M : Nat} {d e : List Rg} {a : Option Addr} {n cap : Nat} (h : Both B w da M d a n cap e) (hb : Below w.heap.size w w') (g : Nat) (h1 : w.heap.size ≤ g) (h2 : g < w'.heap.size) : BothK B [g] w' da M d a n cap e := by
  obtain ⟨F, bs, e1, e2, e3, e4⟩ := h
  refine ⟨F, bs, e1.below hb, fun k hk => ⟨e2 k hk, fun hk2 => ?_⟩, by omega, fun k hk => by simp at hk; omega, e4.below hb⟩
  have := e1.lt k hk
  simp at hk2; omega
theorem BothK.below {B : Nat} {K : List Nat} {w w' : World} {da M : Nat} {d e : List Rg} {a : Option Addr} {n cap : Nat} (h : BothK B K w da M d a n cap e) (hb : Below w.heap.size w w') : BothK B K w' da M d a n cap e := by
  obtain ⟨F, bs, h1, h2, h3, h4, h5⟩ := h
  exact ⟨F, bs, h1.below hb, h2, by have := hb.size; omega, fun k hk => Nat.lt_of_lt_of_le (h4 k hk) hb.size, h5.below hb⟩
theorem BothK.opens {B : Nat} {K : List Nat} {w : World} {da M : Nat} {d e : List Rg} {a : Option Addr} {n cap : Nat} (h : BothK B K w da M d a n cap e) : Opens B w.heap.size w da M d (fun w' M' d' => BothK B K w' da M' d' a n cap e ∧ Below B w w' ∧ KeepK K w w') := by
  obtain ⟨F, bs, h1, h2, h3, h4, h5⟩ := h
  refine ⟨F, bs, h1, fun k hk => ⟨(h2 k hk).1, h1.lt k hk⟩, Nat.le_refl _, h3, fun w' F' bs' d' M' _ ho hd hF => ⟨⟨F', bs', hd, fun k hk => ?_, by have := ho.size; omega, fun k hk => Nat.lt_of_lt_of_le (h4 k hk) ho.size, ?_⟩, ho.below h3 (fun k hk => (h2 k hk).1), fun k hk => ho.block (h4 k hk) (fun hk2 => (h2 k hk2).2 hk)⟩⟩
  · rcases hF k hk with h6 | h6
    · exact h2 k h6
    · exact ⟨by omega, fun hk2 => by have := h4 k hk2; omega⟩
  · have hA : Agree (fun k => k ∉ F ∧ k < w.heap.size) w w' := ⟨ho.size, fun k o hk h6 => by rw [ho.block hk.2 hk.1]; exact h6⟩
    refine (h5.lt.agree hA).mono fun k hk hk2 => ?_
    rcases hF k hk2 with h6 | h6
    · exact hk.1 h6
    · have := hk.2; omega
theorem both_sync {B : Nat} {w : World} {da M : Nat} {d e : List Rg} {a : Option Addr} {n cap : Nat} (h : Both B w da M d a n cap e) (hlen : n ≤ 1000) (hL : ∀ x ∈ e, x.loose.length ≤ 100000) (r : Int) :
    Calls Try.prog 21 #[.slice a n cap, .int .i64 r] w fun e1 w' => ∃ a2 n2 cap2, e1 = .returned (.tuple #[.slice a2 n2 cap2, .int .i64 (syncE e r)]) ∧ Both B w' da M d a2 n2 cap2 (syncD e r) ∧ Below w.heap.size w w' := by
  obtain ⟨F, bs, h1, h2, h3, h4⟩ := h
  refine (rsync_any h4 hlen hL r).mono ?_
  rintro e1 w' ⟨a2, n2, cap2, rfl, hg, hb⟩
  refine ⟨a2, n2, cap2, rfl, ⟨F, bs, h1.below hb, h2, by have := hb.size; omega, hg.mono fun k hk hF => ?_⟩, hb⟩
  rcases hk with hk | hk
  · exact hk hF
  · have := h1.lt k hF; omega
theorem both_stop {B : Nat} {w : World} {da M : Nat} {d e : List Rg} {a : Option Addr} {n cap : Nat} (h : Both B w da M d a n cap e) (hlen : n ≤ 1000) (r af : Int) (haf : af ≤ 9223372036854775807) :
    Calls Try.prog 22 #[.slice a n cap, .int .i64 r, .int .i64 af] w fun e1 w' => ∃ a2 n2 cap2, e1 = .returned (.slice a2 n2 cap2) ∧ Both B w' da M d a2 n2 cap2 (stopD e r af) ∧ Below w.heap.size w w' := by
  obtain ⟨F, bs, h1, h2, h3, h4⟩ := h
  refine (rstop_any h4 hlen r af haf).mono ?_
  rintro e1 w' ⟨a2, n2, cap2, rfl, hg, hb⟩
  refine ⟨a2, n2, cap2, rfl, ⟨F, bs, h1.below hb, h2, by have := hb.size; omega, hg.mono fun k hk hF => ?_⟩, hb⟩
  rcases hk with hk | hk
  · exact hk hF
  · have := h1.lt k hF; omega
theorem both_crash {B : Nat} {w : World} {da M : Nat} {d e : List Rg} {a : Option Addr} {n cap : Nat} (h : Both B w da M d a n cap e) (hlen : n ≤ 1000) (hL : ∀ x ∈ e, x.loose.length ≤ 100000) {ka : Option Addr} {kl kc : Nat} {keep : List (List UInt8)} (hk : Txs w ka kl kc keep) :
    Calls Try.prog 23 #[.slice a n cap, .slice ka kl kc] w fun e1 w' => ∃ a2 n2 cap2, e1 = .returned (.slice a2 n2 cap2) ∧ Both B w' da M d a2 n2 cap2 (crashD e keep) ∧ Below w.heap.size w w' := by
  refine (rcrash_any h.gs hlen hL hk).mono ?_
  rintro e1 w' ⟨a2, cap2, rfl, hg, hb⟩
  obtain ⟨F, bs, h1, h2, h3, h4⟩ := h
  refine ⟨a2, _, cap2, rfl, ⟨F, bs, h1.below hb, h2, by have := hb.size; omega, hg.mono fun k hk hF => ?_⟩, hb⟩
  rcases hk with hk | hk
  · exact hk
  · have := h1.lt k hF; omega

/-! what stays: the sizes; few are loose -/
/-- How great the regions are, and that no more than so many writes are loose in one. -/
def Few (d : List Rg) (sizes : List Int) (M : Nat) : Prop := d.map (fun x => (x.size : Int)) = sizes ∧ ∀ x ∈ d, x.loose.length ≤ M
theorem Few.more {d : List Rg} {sizes : List Int} {M M' : Nat} (h : Few d sizes M) (hM : M ≤ M') : Few d sizes M' := ⟨h.1, fun x hx => Nat.le_trans (h.2 x hx) hM⟩
theorem Few.len {d : List Rg} {sizes : List Int} {M : Nat} (h : Few d sizes M) : d.length = sizes.length := by rw [← h.1]; simp
theorem Few.set {d : List Rg} {sizes : List Int} {M M' : Nat} (h : Few d sizes M) (hM : M ≤ M') {i : Nat} {x y : Rg} (hx : d[i]? = some x) (hs : y.size = x.size) (hl : y.loose.length ≤ M') : Few (d.set i y) sizes M' := by
  refine ⟨?_, fun z hz => ?_⟩
  · rw [← h.1, List.map_set]
    apply List.ext_getElem?
    intro k
    by_cases hk : i = k
    · subst hk
      have hi := (List.getElem?_eq_some_iff.1 hx).1
      rw [List.getElem?_set_self (by simpa using hi), List.getElem?_map, hx, Option.map_some, hs]
    · rw [List.getElem?_set_ne hk]
  · rcases List.mem_or_eq_of_mem_set hz with hz | rfl
    · exact Nat.le_trans (h.2 z hz) hM
    · exact hl
theorem few_write {d : List Rg} {sizes : List Int} {M : Nat} (h : Few d sizes M) (r p : Int) (b : List UInt8) : Few (writeD d r p b) sizes (M + 1) := by
  unfold writeD
  split
  · rename_i hu
    obtain ⟨i, pn, x, rfl, rfl, hx, _⟩ := pagedE_zero hu.1
    rw [atR_of hx, Int.toNat_natCast]
    have h1 := h.2 x (List.mem_of_getElem? hx)
    refine h.set (Nat.le_succ M) hx ?_ ?_
    · unfold wroteR; split
      · exact wrote_size x
      · exact wrote_size x
    · unfold wroteR; split
      · simp; omega
      · rw [cntR_loose]; omega
  · exact h.more (Nat.le_succ M)
theorem upE_zero {d : List Rg} {r : Int} (hu : upE d r = 0) : ∃ (i : Nat) (x : Rg), r = i ∧ d[i]? = some x := by
  have hr : 0 ≤ r ∧ r < d.length := by
    unfold upE at hu; split at hu
    · assumption
    · simp at hu
  obtain ⟨i, rfl⟩ := Int.eq_ofNat_of_zero_le hr.1
  exact ⟨i, _, rfl, List.getElem?_eq_getElem (by omega)⟩
theorem few_sync {d : List Rg} {sizes : List Int} {M : Nat} (h : Few d sizes M) (r : Int) : Few (syncD d r) sizes M := by
  unfold syncD
  split
  · rename_i hu
    obtain ⟨i, x, rfl, hx⟩ := upE_zero hu
    rw [atR_of hx, Int.toNat_natCast]
    have h1 := h.2 x (List.mem_of_getElem? hx)
    refine h.set (Nat.le_refl M) hx ?_ ?_
    · unfold syncR; split
      · show (cntR x).size = x.size; exact wrote_size x
      · exact wrote_size x
    · unfold syncR; split
      · simp [settled]
      · rw [cntR_loose]; omega
  · exact h
theorem few_stop {d : List Rg} {sizes : List Int} {M : Nat} (h : Few d sizes M) (r a : Int) : Few (stopD d r a) sizes M := by
  unfold stopD
  split
  · rename_i hr
    obtain ⟨i, rfl⟩ := Int.eq_ofNat_of_zero_le hr.1
    obtain ⟨x, hx⟩ : ∃ x, d[i]? = some x := ⟨_, List.getElem?_eq_getElem (by omega)⟩
    rw [atR_of hx, Int.toNat_natCast]
    exact h.set (Nat.le_refl M) hx rfl (h.2 x (List.mem_of_getElem? hx))
  · exact h
theorem few_crash {d : List Rg} {sizes : List Int} {M : Nat} (h : Few d sizes M) (keep : List (List UInt8)) : Few (crashD d keep) sizes M := by
  refine ⟨?_, fun x hx => ?_⟩
  · rw [← h.1]
    apply List.ext_getElem?
    intro k
    simp only [crashD, List.getElem?_map, List.getElem?_mapIdx]
    cases d[k]? <;> rfl
  · obtain ⟨k, hk⟩ := List.mem_iff_getElem?.1 hx
    simp only [crashD, List.getElem?_mapIdx] at hk
    cases hd : d[k]? with
    | none => rw [hd] at hk; cases hk
    | some y => rw [hd] at hk; cases hk; simp [crashR, settled]
theorem few_new {l : List Int} (h : newOk l = true) : Few (newD l) l 0 := by
  refine ⟨?_, new_loose l⟩
  unfold newOk at h
  simp only [Bool.and_eq_true, List.all_eq_true, decide_eq_true_eq] at h
  unfold newD
  rw [List.map_map]
  conv => rhs; rw [← List.map_id l]
  apply List.map_congr_left
  intro n hn
  have := h.2 n hn
  simp [Rg.new]; omega
/-- What a disk and the reference tell of a region. -/
theorem few_at {d : List Rg} {sizes : List Int} {M : Nat} (h : Few d sizes M) {i : Nat} {x : Rg} (hx : d[i]? = some x) : (x.size : Int) = sizes[i]?.getD 0 ∧ sizeL d i = x.size ∧ downB d i = x.down := by
  have hi := (List.getElem?_eq_some_iff.1 hx).1
  refine ⟨?_, ?_, ?_⟩
  · rw [← h.1]; simp [hx]
  · unfold sizeL; rw [if_pos (by omega), atR_of hx]
  · unfold downB; rw [if_pos (by omega), atR_of hx]
end Go.Proofs.Ytopnfpobbemfbaa
