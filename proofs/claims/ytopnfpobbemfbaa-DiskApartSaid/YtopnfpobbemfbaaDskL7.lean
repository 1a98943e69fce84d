/- The law DiskApart: plain. -/
import Derived.Test.YtopnfpobbemfbaaDskG
import Derived.Test.YtopnfpobbemfbaaRef3
namespace Go.Proofs.Ytopnfpobbemfbaa
open Go.RowKit

/-- Two disks of three regions that have one in common. -/
def ApGood (k : Nat) (d e : List Rg) : Prop := d.length = 3 ∧ e.length = 3 ∧ d[k]? = e[k]? ∧ ∃ x, d[k]? = some x ∧ x.size = 4
theorem apGood_new (k : Nat) (hk : k < 3) : ApGood k (newD [4, 4, 4]) (newD [4, 4, 4]) := by
  refine ⟨rfl, rfl, rfl, Rg.new 4, ?_, rfl⟩
  rcases (show k = 0 ∨ k = 1 ∨ k = 2 by omega) with rfl | rfl | rfl <;> rfl
theorem ap_upE {d e : List Rg} {k : Nat} (h : ApGood k d e) : upE d k = upE e k := by
  obtain ⟨h1, h2, h3, _⟩ := h
  unfold upE
  rw [h1, h2, Int.toNat_natCast, h3]
theorem ap_atR {d e : List Rg} {k : Nat} (h : ApGood k d e) : atR d k = atR e k := by
  obtain ⟨h1, h2, h3, _⟩ := h
  unfold atR
  rw [Int.toNat_natCast, h3]
theorem ap_pagedE {d e : List Rg} {k : Nat} (h : ApGood k d e) (p : Int) : pagedE d k p = pagedE e k p := by unfold pagedE; rw [ap_upE h, ap_atR h]
theorem ap_writeE {d e : List Rg} {k : Nat} (h : ApGood k d e) (p : Int) (b : List UInt8) : writeE d k p b = writeE e k p b := by unfold writeE; rw [ap_pagedE h, ap_atR h]
theorem ap_syncE {d e : List Rg} {k : Nat} (h : ApGood k d e) : syncE d k = syncE e k := by unfold syncE; rw [ap_upE h, ap_atR h]
theorem ap_readB {d e : List Rg} {k : Nat} (h : ApGood k d e) (p : Int) : readB d k p = readB e k p := by unfold readB; rw [ap_pagedE h, ap_atR h]
theorem ap_downB {d e : List Rg} {k : Nat} (h : ApGood k d e) : downB d k = downB e k := by unfold downB; rw [ap_atR h, h.1, h.2.1]
theorem ap_set {d e : List Rg} {k : Nat} (h : ApGood k d e) (x : Rg) (hx : x.size = 4) : ApGood k (d.set k x) (e.set k x) := by
  obtain ⟨h1, h2, h3, y, hy, _⟩ := h
  have hk : k < d.length := (List.getElem?_eq_some_iff.1 hy).1
  exact ⟨by simp [h1], by simp [h2], by rw [List.getElem?_set_self hk, List.getElem?_set_self (by omega)], x, by rw [List.getElem?_set_self hk], hx⟩
theorem ap_other {d e : List Rg} {k : Nat} (h : ApGood k d e) (j : Nat) (hj : j ≠ k) (x : Rg) : ApGood k (d.set j x) e := by
  obtain ⟨h1, h2, h3, y, hy, hs⟩ := h
  exact ⟨by simp [h1], h2, by rw [List.getElem?_set_ne hj]; exact h3, y, by rw [List.getElem?_set_ne hj]; exact hy, hs⟩
theorem ap_size {d e : List Rg} {k : Nat} (h : ApGood k d e) : (atR d k).size = 4 := by
  obtain ⟨h1, h2, h3, y, hy, hs⟩ := h
  rw [atR_of hy]; exact hs
theorem wroteR_size (x : Rg) (p : Nat) (b : P128) : (wroteR x p b).size = x.size := by
  unfold wroteR; split
  · exact wrote_size x
  · exact wrote_size x
theorem syncR_size (x : Rg) : (syncR x).size = x.size := by
  unfold syncR; split
  · exact wrote_size x
  · exact wrote_size x
theorem ap_write {d e : List Rg} {k : Nat} (h : ApGood k d e) (p : Int) (b : List UInt8) : ApGood k (writeD d k p b) (writeD e k p b) := by
  unfold writeD
  rw [ap_pagedE h, ap_atR h]
  split
  · rw [Int.toNat_natCast]
    exact ap_set h _ (by rw [wroteR_size, ← ap_atR h]; exact ap_size h)
  · exact h
theorem ap_sync {d e : List Rg} {k : Nat} (h : ApGood k d e) : ApGood k (syncD d k) (syncD e k) := by
  unfold syncD
  rw [ap_upE h, ap_atR h]
  split
  · rw [Int.toNat_natCast]
    exact ap_set h _ (by rw [syncR_size, ← ap_atR h]; exact ap_size h)
  · exact h
theorem ap_stop {d e : List Rg} {k : Nat} (h : ApGood k d e) (a : Int) : ApGood k (stopD d k a) (stopD e k a) := by
  unfold stopD
  rw [h.1, h.2.1, ap_atR h]
  split
  · rw [Int.toNat_natCast]
    exact ap_set h _ (by show (atR e k).size = 4; rw [← ap_atR h]; exact ap_size h)
  · exact h
/-- What a step in another region leaves. -/
def otherD (d : List Rg) (y : Stp) : List Rg := if y.kind = 0 then writeD d y.region y.page (pageB y) else if y.kind = 1 then syncD d y.region else if y.kind = 2 then stopD d y.region y.page else d
theorem ap_otherD {d e : List Rg} {k : Nat} (h : ApGood k d e) (y : Stp) (hy : y.region ≠ (k : Int)) : ApGood k (otherD d y) e := by
  have hn : ∀ j : Int, 0 ≤ j → j ≠ (k : Int) → j.toNat ≠ k := fun j h0 h1 h2 => h1 (by omega)
  unfold otherD
  split
  · unfold writeD
    split
    · rename_i hu
      obtain ⟨i, pn, x, hr, _, _⟩ := pagedE_zero hu.1
      exact ap_other h _ (hn _ (by omega) hy) _
    · exact h
  · split
    · unfold syncD
      split
      · rename_i hu
        have : 0 ≤ y.region := by
          unfold upE at hu
          split at hu
          · rename_i hr; exact hr.1
          · cases hu
        exact ap_other h _ (hn _ this hy) _
      · exact h
    · split
      · unfold stopD
        split
        · rename_i hr
          exact ap_other h _ (hn _ hr.1 hy) _
        · exact h
      · exact h
/-- Texts of which all but one are other ones. -/
def keepL (k : Nat) (ks : List (List UInt8)) (n : Nat) : List (List UInt8) := (List.range n).map fun r => if r = k then ks[r]?.getD [] else [255, 255]
theorem keepL_succ (k : Nat) (ks : List (List UInt8)) (n : Nat) : keepL k ks (n + 1) = keepL k ks n ++ [if n = k then ks[n]?.getD [] else [255, 255]] := by simp [keepL, List.range_succ]
theorem ap_crash {d e : List Rg} {k : Nat} (h : ApGood k d e) (ks : List (List UInt8)) : ApGood k (crashD d ks) (crashD e (keepL k ks ks.length)) := by
  obtain ⟨h1, h2, h3, y, hy, hs⟩ := h
  have hb : keepB (keepL k ks ks.length) k = keepB ks k := by
    funext i
    unfold keepB keepL
    by_cases hk : k < ks.length
    · simp [List.getElem?_map, hk]
    · rw [List.getElem?_eq_none (by simpa using hk), List.getElem?_eq_none (by simpa using hk)]
  refine ⟨by simp [crashD, h1], by simp [crashD, h2], ?_, crashR y (keepB ks k), ?_, hs⟩
  · unfold crashD
    rw [List.getElem?_mapIdx, List.getElem?_mapIdx, ← h3, hy]
    simp [hb]
  · unfold crashD
    rw [List.getElem?_mapIdx, hy]; rfl
theorem Opens.same {B T : Nat} {w w' : World} {da M : Nat} {d : List Rg} {Q : World → Nat → List Rg → Prop} (h : Opens B T w da M d Q) (hb : Below w.heap.size w w') {M' : Nat} (hM : M ≤ M') : Q w' M' d := by
  obtain ⟨F, bs, h1, h2, h3, h4, h5⟩ := h
  exact h5 w' F bs d M' hM (Only.of_below hb) ((h1.below hb).more hM) (fun k hk => .inl hk)
theorem Opens.more {B T : Nat} {w : World} {da M : Nat} {d : List Rg} {Q : World → Nat → List Rg → Prop} (h : Opens B T w da M d Q) {M' : Nat} (hM : M ≤ M') : Opens B T w da M' d Q := by
  obtain ⟨F, bs, h1, h2, h3, h4, h5⟩ := h
  exact ⟨F, bs, h1.more hM, h2, h3, h4, fun w' F' bs' d' M2 hM2 => h5 w' F' bs' d' M2 (Nat.le_trans hM hM2)⟩
theorem Opens.le {B T : Nat} {w : World} {da M : Nat} {d : List Rg} {Q : World → Nat → List Rg → Prop} (h : Opens B T w da M d Q) : T ≤ w.heap.size := by
  obtain ⟨F, bs, h1, h2, h3, h4, h5⟩ := h; exact h3
theorem txs_own {w : World} {base : Nat} {v : Value} {ks : List (List UInt8)} (h : w.ownsRow base 9 1 v ks.length (ks.map fun s => Value.string (strOf s))) : ∃ a cap, v = .slice a ks.length cap ∧ Txs w a ks.length cap ks := by
  obtain ⟨a, cap, rfl, hl, h1, h2, h3⟩ := own_cells1 h
  refine ⟨a, cap, rfl, rfl, h1, h2, ?_, ?_⟩
  · intro e; subst e
    rcases h.2 with ⟨e, _⟩ | ⟨g, c, cur, e, _⟩
    · simp only [Value.slice.injEq] at e; exact e.2.2
    · simp at e
  · by_cases h0 : ks.length = 0
    · exact .inl h0
    · obtain ⟨g, rfl, hg, _⟩ := h3 0 (.string (strOf ks[0])) (by rw [List.getElem?_map, List.getElem?_eq_getElem (by omega)]; rfl)
      refine .inr ⟨g, 0, rfl, hg, fun i y hy => ⟨[.string (strOf y)], rfl, rfl, fun j u hu => ?_⟩⟩
      obtain rfl : j = 0 := by have := (List.getElem?_eq_some_iff.1 hu).1; simp at this; omega
      simp at hu; subst hu
      obtain ⟨g', e, _, hc⟩ := h3 i (.string (strOf y)) (by rw [List.getElem?_map, hy]; rfl)
      cases e
      simpa using hc
end Go.Proofs.Ytopnfpobbemfbaa
