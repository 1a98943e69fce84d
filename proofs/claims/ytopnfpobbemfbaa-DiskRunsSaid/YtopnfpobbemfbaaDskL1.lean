/- The law DiskStays: plain, and its walk. -/
import Derived.Test.YtopnfpobbemfbaaDskC
import Derived.Test.YtopnfpobbemfbaaRef3
namespace Go.Proofs.Ytopnfpobbemfbaa
open Go.RowKit

theorem bs_of_frame {w : World} {a : Option Addr} {len cap : Nat} {zs : List Int}
    (h : (a = none ∧ len = 0 ∧ cap = 0 ∧ zs = []) ∨ ∃ x, a = some x ∧ len ≤ cap ∧ cap ≤ maxLen ∧ zs.length = cap ∧ (∀ i, i < zs.length → w.cell? (x.add i) = some (.int .u8 (zs.getD i 0))) ∧ ∀ n ∈ zs, (Lit.int .u8 n).wf = true) : ∃ l, Bs w a len cap l := by
  obtain ⟨r, hr⟩ := Row.of_frame h
  exact ⟨ofI (zs.take len), by unfold Bs; rw [toI_ofI _ hr]; exact r⟩
/-- Pages one behind the other, each of one byte. -/
def rowW (l : List UInt8) (k : Nat) : List (Nat × P128) := (List.range k).map fun i => (i, toP (fillL 128 (l[i]?.getD 0)))
theorem rowW_succ (l : List UInt8) (k : Nat) : rowW l (k + 1) = rowW l k ++ [(k, toP (fillL 128 (l[k]?.getD 0)))] := by simp [rowW, List.range_succ]
theorem rowW_length (l : List UInt8) (k : Nat) : (rowW l k).length = k := by simp [rowW]
theorem laid_rowW (keep : Nat → Bool) (l : List UInt8) (f : Nat → P128) : ∀ k, laid keep 0 (rowW l k) f = fun q => if q < k ∧ keep q then toP (fillL 128 (l[q]?.getD 0)) else f q
  | 0 => by funext q; simp [rowW, laid]
  | k + 1 => by
    rw [rowW_succ, laid_snoc, rowW_length, Nat.zero_add, laid_rowW keep l f k]
    funext q
    by_cases hk : keep k
    · rw [if_pos hk]
      dsimp only
      by_cases hq : q = k
      · subst hq; rw [if_pos rfl, if_pos ⟨by omega, hk⟩]
      · rw [if_neg hq]
        by_cases h1 : q < k ∧ keep q
        · rw [if_pos h1, if_pos ⟨by omega, h1.2⟩]
        · rw [if_neg h1, if_neg (fun h => h1 ⟨by omega, h.2⟩)]
    · rw [if_neg hk]
      by_cases h1 : q < k ∧ keep q
      · rw [if_pos h1, if_pos ⟨by omega, h1.2⟩]
      · rw [if_neg h1, if_neg (fun h => h1 ⟨by
          by_cases e : q = k
          · subst e; exact absurd h.2 hk
          · omega, h.2⟩)]
def stR (f : Nat → P128) (l : List UInt8) (k : Nat) : List Rg := [⟨30, f, rowW l k, -1, false⟩]
theorem fillL_length (n : Nat) (f : UInt8) : (fillL n f).length = n := by simp [fillL]
theorem stR_new (l : List UInt8) : newD [30] = stR (fun _ => zpage) l 0 := rfl
theorem stR_write (f : Nat → P128) (l : List UInt8) (k : Nat) (h : k < 30) : writeD (stR f l k) 0 k (fillL 128 (l[k]?.getD 0)) = stR f l (k + 1) := by
  have hp : pagedE (stR f l k) 0 (k : Int) = 0 := by
    simp [pagedE, upE, atR, stR]; omega
  unfold writeD
  rw [if_pos ⟨hp, fillL_length _ _⟩]
  simp [stR, atR, wroteR, cntE, cntR, rowW_succ]
theorem stR_sync (f : Nat → P128) (l m : List UInt8) (k : Nat) : syncD (stR f l k) 0 = stR (fun q => if q < k then toP (fillL 128 (l[q]?.getD 0)) else f q) m 0 := by
  have hu : upE (stR f l k) 0 = 0 := by simp [upE, stR]
  unfold syncD
  rw [if_pos hu]
  have h := laid_rowW (fun _ => true) l f k
  simp [stR, atR, syncR, cntE, cntR, settled, h]
  simp [rowW]
theorem stR_crash (f : Nat → P128) (l : List UInt8) (k : Nat) (s : List UInt8) : crashD (stR f l k) [s] = stR (fun q => if q < k ∧ bitB s q then toP (fillL 128 (l[q]?.getD 0)) else f q) l 0 := by
  have hk : keepB [s] 0 = bitB s := by funext q; simp [keepB]
  simp [crashD, stR, crashR, settled, hk, laid_rowW]
  simp [rowW]
theorem stR_read (f : Nat → P128) (l : List UInt8) (p : Nat) (h : p < 30) : readB (stR f l 0) 0 p = (f p).1 := by
  have hp : pagedE (stR f l 0) 0 (p : Int) = 0 := by simp [pagedE, upE, atR, stR]; omega
  unfold readB
  rw [if_pos hp]
  simp [stR, atR, seen, lastW, rowW]
theorem ff_bits : ∀ q : Fin 32, bitB [255, 255, 255, 255] q.val = true := by decide
def pfill (n : Nat) (l : List UInt8) (f : Nat → UInt8) (k : Nat → Bool) (q : Nat) : UInt8 := if q < n ∧ k q then l[q]?.getD 0 else f q
theorem toP_fill (f : UInt8) : (toP (fillL 128 f)).1 = fillL 128 f := toP_val (fillL_length _ _)
theorem fill_at (n : Nat) (f : UInt8) (j : Nat) (hj : j < n) : ((toI (fillL n f)).map (Value.int .u8))[j]? = some (.int .u8 (f.toNat : Int)) := by
  simp [fillL, toI, hj]
/-- A byte of a page that was read. -/
theorem read_byte {w w' : World} {l : List UInt8} {v : Value} (ho : w'.ownsRow w.heap.size 5 1 v l.length ((toI l).map (Value.int .u8))) {f : UInt8} (hl : l = fillL 128 f) (j : Nat) (hj : j < 128) :
    ∃ g cap, v = .slice (some ⟨g, 0, none⟩) 128 cap ∧ 128 ≤ cap ∧ cap ≤ 9223372036854775807 ∧ w.heap.size ≤ g ∧ g < w'.heap.size ∧ w'.cell? ⟨g, j, none⟩ = some (.int .u8 (f.toNat : Int)) := by
  subst hl
  rw [fillL_length] at ho
  obtain ⟨a, cap, rfl, h1, h2, h3⟩ := own_slice ho
  obtain ⟨g, rfl⟩ := h3 (by decide)
  have hg := own_ge ho g rfl
  have hlt := own_lt ho g rfl
  have hc := ho.cellAt j (by omega)
  refine ⟨g, cap, rfl, h1, by unfold maxLen at h2; omega, hg, hlt, ?_⟩
  rw [hc]
  exact fill_at 128 f j hj
end Go.Proofs.Ytopnfpobbemfbaa
