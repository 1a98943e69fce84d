/- The reference's regions: pages behind some writes, plain. -/
import Derived.Test.YtopnfpobbemfbaaRgK
namespace Go.Proofs.Ytopnfpobbemfbaa
open Go.RowKit

theorem keptL_laid (n : Nat) : ∀ (l : List (Nat × P128)) (i : Nat) (f : Nat → P128), keptL ((List.range n).map fun p => (f p).1) l = (List.range n).map fun p => (laid (fun _ => true) i l f p).1
  | [], _, _ => rfl
  | y :: l, i, f => by
    show keptL (((List.range n).map fun p => (f p).1).set y.1 y.2.1) l = _
    have e : ((List.range n).map fun p => (f p).1).set y.1 y.2.1 = (List.range n).map fun p => ((fun q => if q = y.1 then y.2 else f q) p).1 := by
      apply List.ext_getElem?
      intro k
      by_cases hk : k = y.1
      · subst hk
        by_cases hn : y.1 < n
        · rw [List.getElem?_set_self (by simpa using hn)]
          simp [hn]
        · rw [List.getElem?_eq_none (by simp; omega), List.getElem?_eq_none (by simp; omega)]
      · rw [List.getElem?_set_ne (fun h => hk h.symm)]
        by_cases hn : k < n
        · simp [hn, hk]
        · rw [List.getElem?_eq_none (by simp; omega), List.getElem?_eq_none (by simp; omega)]
    rw [e, keptL_laid n l (i + 1)]
    simp [laid]
/-- What is kept of loose writes, of which so many stood ahead. -/
def keepF (keep : Nat → Bool) : Nat → List (Nat × P128) → List (Nat × P128)
  | _, [] => []
  | i, y :: l => if keep i then y :: keepF keep (i + 1) l else keepF keep (i + 1) l
theorem keepF_snoc (keep : Nat → Bool) (y : Nat × P128) : ∀ (l : List (Nat × P128)) (i : Nat), keepF keep i (l ++ [y]) = keepF keep i l ++ (if keep (i + l.length) then [y] else [])
  | [], i => by simp [keepF]
  | z :: l, i => by
    simp only [List.cons_append, keepF, keepF_snoc keep y l (i + 1), List.length_cons]
    rw [show i + 1 + l.length = i + (l.length + 1) by omega]
    split <;> simp
theorem keepF_laid (keep : Nat → Bool) : ∀ (l : List (Nat × P128)) (i j : Nat) (f : Nat → P128), laid (fun _ => true) j (keepF keep i l) f = laid keep i l f
  | [], _, _, _ => rfl
  | y :: l, i, j, f => by
    simp only [keepF, laid]
    cases keep i with
    | true => simp only [if_true, laid]; exact keepF_laid keep l (i + 1) (j + 1) _
    | false => simp only [Bool.false_eq_true, if_false]; exact keepF_laid keep l (i + 1) j _
theorem pagesL_sync (x : Rg) : pagesL (settled x (fun _ => true)) = keptL (pagesL x) x.loose := by
  unfold pagesL settled
  rw [keptL_laid x.size x.loose 0 x.pages]
theorem pagesL_crash (x : Rg) (keep : Nat → Bool) : pagesL (crashR x keep) = keptL (pagesL x) (keepF keep 0 x.loose) := by
  unfold pagesL crashR settled
  rw [keptL_laid x.size _ 0 x.pages, keepF_laid]
end Go.Proofs.Ytopnfpobbemfbaa
