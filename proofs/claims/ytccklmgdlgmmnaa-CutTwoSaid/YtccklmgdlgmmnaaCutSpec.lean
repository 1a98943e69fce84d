/- Plain functions of the chapter on parting a node's cells; no program in sight. -/
namespace Go.Proofs.Ytccklmgdlgmmnaa

def sumI (l : List Int) : Int := l.foldl (fun a b => a + b) 0
theorem foldl_add (l : List Int) (a : Int) : l.foldl (fun a b => a + b) a = a + l.foldl (fun a b => a + b) 0 := by
  induction l generalizing a with
  | nil => simp
  | cons x l ih => simp only [List.foldl_cons]; rw [ih, ih (0 + x)]; omega
theorem sumI_nil : sumI [] = 0 := rfl
theorem sumI_cons (x : Int) (l : List Int) : sumI (x :: l) = x + sumI l := by
  simp only [sumI, List.foldl_cons]; rw [foldl_add]; omega
theorem sumI_append (l m : List Int) : sumI (l ++ m) = sumI l + sumI m := by
  induction l with
  | nil => simp [sumI_nil]
  | cons x l ih => simp only [List.cons_append, sumI_cons, ih]; omega
theorem sumI_take_succ (l : List Int) (k : Nat) (h : k < l.length) : sumI (l.take (k + 1)) = sumI (l.take k) + l[k]?.getD 0 := by
  rw [List.take_add_one, sumI_append]; simp [h, sumI_cons, sumI_nil]
theorem sumI_split (l : List Int) (k : Nat) : sumI l = sumI (l.take k) + sumI (l.drop k) := by
  rw [← sumI_append, List.take_append_drop]

def neighF (m k : Int) : Int := if k + 1 < m then k + 1 else k - 1

def Small (l : List Int) : Prop := l.length ≤ 1000 ∧ ∀ x ∈ l, 0 ≤ x ∧ x ≤ 1000
theorem Small.take {l : List Int} (h : Small l) (k : Nat) : Small (l.take k) := ⟨by have := List.length_take_le k l; simp; have := h.1; omega, fun x hx => h.2 x (List.mem_of_mem_take hx)⟩
theorem Small.drop {l : List Int} (h : Small l) (k : Nat) : Small (l.drop k) := ⟨by have := h.1; simp; omega, fun x hx => h.2 x (List.mem_of_mem_drop hx)⟩
theorem sumI_bd (l : List Int) (h : ∀ x ∈ l, 0 ≤ x ∧ x ≤ 1000) : 0 ≤ sumI l ∧ sumI l ≤ 1000 * l.length := by
  induction l with
  | nil => simp [sumI_nil]
  | cons x l ih =>
    have h1 := h x (by simp)
    have h2 := ih (fun y hy => h y (by simp [hy]))
    rw [sumI_cons]; simp only [List.length_cons]; omega
theorem Small.bd {l : List Int} (h : Small l) : 0 ≤ sumI l ∧ sumI l ≤ 1000000 := by
  have h1 := sumI_bd l h.2
  have := h.1
  omega
theorem Small.get {l : List Int} (h : Small l) (k : Nat) : 0 ≤ l[k]?.getD 0 ∧ l[k]?.getD 0 ≤ 1000 := by
  cases e : l[k]? with
  | none => simp
  | some x => simpa using h.2 x (List.mem_of_getElem? e)

def sizesB (l : List Int) : Bool := l.all (fun x => decide (0 ≤ x) && decide (x ≤ 1000)) && decide (l.length ≤ 100)
theorem sizesB_true {l : List Int} (h : sizesB l = true) : l.length ≤ 100 ∧ ∀ x ∈ l, 0 ≤ x ∧ x ≤ 1000 := by
  simp [sizesB] at h; exact ⟨h.2, fun x hx => h.1 x hx⟩
theorem sizesB_bad {l : List Int} (k : Nat) (hk : k < l.length) (h : l[k]?.getD 0 < 0 ∨ 1000 < l[k]?.getD 0) : sizesB l = false := by
  have hx : l[k] ∈ l := List.getElem_mem hk
  simp [hk] at h
  cases hb : sizesB l with
  | false => rfl
  | true => have := (sizesB_true hb).2 _ hx; omega
theorem sizesB_all {l : List Int} (h : ∀ j, j < l.length → 0 ≤ l[j]?.getD 0 ∧ l[j]?.getD 0 ≤ 1000) : sizesB l = decide ((l.length : Int) ≤ 100) := by
  have : l.all (fun x => decide (0 ≤ x) && decide (x ≤ 1000)) = true := by
    rw [List.all_eq_true]; intro x hx
    obtain ⟨j, hj, rfl⟩ := List.getElem_of_mem hx
    simpa [hj] using h j hj
  rw [sizesB, this, Bool.true_and]; simp; omega

def worse (l : List Int) (k : Nat) : Int := max (sumI (l.take k)) (sumI (l.drop k))

def better (p x : Int × Int) : Int × Int := if x.2 < p.1 then (x.2, x.1) else p
def foldBest (l : List Int) (pre : List (Int × Int)) : Int × Int := pre.foldl better (sumI l + 1, 0)
theorem foldBest_snoc (l : List Int) (pre : List (Int × Int)) (x : Int × Int) : foldBest l (pre ++ [x]) = better (foldBest l pre) x := by simp [foldBest]
def bestTo (l : List Int) (n : Nat) : Int × Int := foldBest l ((List.range n).map fun k : Nat => ((k : Int) + 1, worse l (k + 1)))
theorem bestTo_zero (l : List Int) : bestTo l 0 = (sumI l + 1, 0) := rfl
theorem bestTo_succ (l : List Int) (n : Nat) : bestTo l (n + 1) = better (bestTo l n) ((n : Int) + 1, worse l (n + 1)) := by
  simp [bestTo, List.range_succ, foldBest_snoc]
/-- Where sizes are parted. -/
def atF (l : List Int) : Int := if sumI l ≤ 122 then 0 else (bestTo l (l.length - 1)).2

theorem worse_one_le {l : List Int} (h : Small l) : worse l 1 ≤ sumI l := by
  have e := sumI_split l 1
  have h1 := (h.take 1).bd
  have h2 := (h.drop 1).bd
  unfold worse; omega
/-- Behind the first place the best so far is a place. -/
theorem bestTo_pos {l : List Int} (h : Small l) (n : Nat) : ∃ m : Nat, 1 ≤ m ∧ m ≤ n + 1 ∧ bestTo l (n + 1) = (worse l m, (m : Int)) := by
  induction n with
  | zero =>
    refine ⟨1, by omega, by omega, ?_⟩
    have := worse_one_le h
    rw [bestTo_succ, bestTo_zero, better, if_pos (by simp; omega)]
    simp
  | succ n ih =>
    obtain ⟨m, h1, h2, e⟩ := ih
    rw [bestTo_succ (n := n + 1), e, better]
    by_cases hlt : worse l (n + 1 + 1) < worse l m
    · rw [if_pos (by simpa using hlt)]; exact ⟨n + 1 + 1, by omega, by omega, by simp⟩
    · rw [if_neg (by simpa using hlt)]; exact ⟨m, h1, by omega, rfl⟩

end Go.Proofs.Ytccklmgdlgmmnaa
