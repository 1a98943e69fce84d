/- Leaves and branches as cells: plain laws. -/
import Derived.Test.YtjdepdgoaopfoaaDoorCelB
import Derived.Test.YtjdepdgoaopfoaaDoorCelX
namespace Go.Proofs.YtjdepdgoaopfoaaDoor

/-- A value: in its leaf, or far. -/
structure Vv where
  data : List UInt8
  far : Bool
  size : Int
  page : Int
deriving DecidableEq
/-- An entry. -/
structure En where
  key : List UInt8
  v : Vv
deriving DecidableEq
def Vv.zero : Vv := ⟨[], false, 0, 0⟩

/-- A number's bits. -/
def u64N (n : Int) : Nat := (n % 18446744073709551616).toNat
theorem u64N_lt (n : Int) : u64N n < 18446744073709551616 := by unfold u64N; omega
theorem u64N_of {n : Int} (h0 : 0 ≤ n) (h1 : n < 18446744073709551616) : u64N n = n.toNat := by unfold u64N; rw [Int.emod_eq_of_lt h0 h1]
def two (n : Int) : List UInt8 := beBytes (u64N n) 2
theorem two_length (n : Int) : (two n).length = 2 := beBytes_length _ _
def encL (v : Vv) : List UInt8 := if v.far then [1] ++ two v.size ++ two v.page else [0] ++ v.data
def encB (v : Vv) : List UInt8 := two v.page
def encV (leaf : Bool) (v : Vv) : List UInt8 := if leaf then encL v else encB v
def cellN (leaf : Bool) (e : En) : List UInt8 := textF e.key ++ encV leaf e.v
def cellsN (leaf : Bool) (l : List En) : List (List UInt8) := l.map (cellN leaf)
theorem cellsN_length (leaf : Bool) (l : List En) : (cellsN leaf l).length = l.length := by simp [cellsN]
theorem textF_length (k : List UInt8) : (textF k).length = min k.length 255 + 1 := by simp [textF]; omega
theorem encV_length (leaf : Bool) (v : Vv) : (encV leaf v).length = if leaf then (if v.far then 5 else v.data.length + 1) else 2 := by
  cases leaf
  · simp [encV, encB, two_length]
  · cases h : v.far <;> simp [encV, encL, h, two_length]

def keyB (k : List UInt8) : Bool := k != [] && decide (k.length ≤ 16)
def pageB (n : Int) : Bool := decide (2 ≤ n) && decide (n ≤ 999)
def mayL (e : En) : Bool :=
  if e.v.far then keyB e.key && (e.v.data == [] && (decide (16 < e.v.size) && (decide (e.v.size ≤ 400) && pageB e.v.page)))
  else keyB e.key && (decide (e.v.data.length ≤ 16) && (e.v.size == 0 && e.v.page == 0))
def firstB (i : Nat) (k : List UInt8) : Bool := if i = 0 then k == [] else keyB k
def mayB (i : Nat) (e : En) : Bool := firstB i e.key && (pageB e.v.page && e.v == ⟨[], false, 0, e.v.page⟩)
def mayN (leaf : Bool) (i : Nat) (e : En) : Bool := if leaf then mayL e else mayB i e
def leastN (leaf : Bool) : Nat := if leaf then 1 else 2
/-- 'a <= b' of texts. -/
def kle (a b : List UInt8) : Bool := decide (a < b) || a == b
/-- Do the first so many entries stand right? -/
def stepN (leaf : Bool) (l : List En) (i : Nat) : Bool := mayN leaf i (l[i]?.getD ⟨[], Vv.zero⟩) && !(decide (0 < i) && kle (l[i]?.getD ⟨[], Vv.zero⟩).key (l[i - 1]?.getD ⟨[], Vv.zero⟩).key)
def upN (leaf : Bool) (l : List En) (n : Nat) : Bool := (List.range n).all (stepN leaf l)
def nodeB (leaf : Bool) (l : List En) : Bool := upN leaf l l.length && (decide (leastN leaf ≤ l.length) && decide (l.length + lens (cellsN leaf l) ≤ 122))
theorem upN_succ (leaf : Bool) (l : List En) (n : Nat) : upN leaf l (n + 1) = (upN leaf l n && stepN leaf l n) := by simp [upN, List.range_succ]
theorem upN_mono (leaf : Bool) (l : List En) {m n : Nat} (h : upN leaf l m = false) (hmn : m ≤ n) : upN leaf l n = false := by
  rw [upN, List.all_eq_false] at h ⊢
  obtain ⟨x, hx, hx2⟩ := h
  exact ⟨x, by simp at hx ⊢; omega, hx2⟩
def kindN (leaf : Bool) : UInt8 := if leaf then 1 else 2
/-- What is put. -/
def putN (leaf : Bool) (l : List En) : List UInt8 := if nodeB leaf l then pageOf (kindN leaf) (cellsN leaf l) else []
def putNE (leaf : Bool) (l : List En) : Int := if nodeB leaf l then 0 else 1
theorem fits_node {leaf : Bool} {l : List En} (h : nodeB leaf l = true) : fits (kindN leaf) (cellsN leaf l) = true := by
  simp only [nodeB, Bool.and_eq_true, decide_eq_true_eq] at h
  simp only [fits, Bool.and_eq_true, decide_eq_true_eq, cellsN_length]
  exact ⟨by cases leaf <;> rfl, h.2.2⟩
theorem pack_node {leaf : Bool} {l : List En} (h : nodeB leaf l = true) : packV (kindN leaf) (cellsN leaf l) = putN leaf l ∧ packE (kindN leaf) (cellsN leaf l) = putNE leaf l := by
  rw [packV, packE, putN, putNE, h, fits_node h]; exact ⟨rfl, rfl⟩

/-! what is got -/
/-- What is behind a key. -/
def decV (leaf : Bool) (s : TSt) : Option Vv :=
  if leaf then
    if (tNum s 1).1 = 0 then (if tDone (tRest (tNum s 1).2).2 = 0 then some ⟨(tRest (tNum s 1).2).1, false, 0, 0⟩ else none)
    else if (tNum s 1).1 = 1 then (if tDone (tNum (tNum (tNum s 1).2 2).2 2).2 = 0 then some ⟨[], true, ((tNum (tNum s 1).2 2).1 : Int), ((tNum (tNum (tNum s 1).2 2).2 2).1 : Int)⟩ else none)
    else none
  else if tDone (tNum s 2).2 = 0 then some ⟨[], false, 0, ((tNum s 2).1 : Int)⟩ else none
/-- An entry of a cell. -/
def decE (leaf : Bool) (c : List UInt8) : Option En := (decV leaf (tText ⟨c, 0⟩).2).map fun v => ⟨(tText ⟨c, 0⟩).1, v⟩
/-- The entries of cells; none: one is none. -/
def decL (leaf : Bool) : List (List UInt8) → Option (List En)
  | [] => some []
  | c :: r => match decE leaf c, decL leaf r with
    | some e, some l => some (e :: l)
    | _, _ => none
theorem decL_append (leaf : Bool) (a b : List (List UInt8)) : decL leaf (a ++ b) = match decL leaf a, decL leaf b with
    | some x, some y => some (x ++ y)
    | _, _ => none := by
  induction a with
  | nil => simp only [List.nil_append, decL]; cases decL leaf b <;> rfl
  | cons c r ih =>
    simp only [List.cons_append, decL, ih]
    cases decE leaf c <;> cases decL leaf r <;> cases decL leaf b <;> rfl
theorem decL_snoc (leaf : Bool) (a : List (List UInt8)) (c : List UInt8) : decL leaf (a ++ [c]) = match decL leaf a, decE leaf c with
    | some x, some y => some (x ++ [y])
    | _, _ => none := by
  rw [decL_append]
  simp only [decL]
  cases decL leaf a <;> cases decE leaf c <;> rfl
theorem decL_length {leaf : Bool} : ∀ {a : List (List UInt8)} {l : List En}, decL leaf a = some l → l.length = a.length
  | [], l, h => by cases h; rfl
  | c :: r, l, h => by
    simp only [decL] at h
    cases hc : decE leaf c with
    | none => rw [hc] at h; cases h
    | some e =>
      cases hr : decL leaf r with
      | none => rw [hc, hr] at h; cases h
      | some m => rw [hc, hr] at h; cases h; simp [decL_length hr]
/-- Once a cell is none, all are none. -/
theorem decL_none {leaf : Bool} {a : List (List UInt8)} {k : Nat} {c : List UInt8} (hk : a[k]? = some c) (h : decE leaf c = none) : decL leaf a = none := by
  induction a generalizing k with
  | nil => simp at hk
  | cons x r ih =>
    simp only [decL]
    cases k with
    | zero => cases hk; rw [h]
    | succ k => rw [ih (k := k) hk]; cases decE leaf x <;> rfl
def leafK (b : List UInt8) : Bool := unpK b == 1
/-- The node of a page: its entries. -/
def entN (b : List UInt8) : Option (List En) := decL (leafK b) (unpL b)
def getNB (b : List UInt8) : Bool := decide ((unpK b).toNat ≤ 2) && (match entN b with | some l => nodeB (leafK b) l | none => false)
def getNE (b : List UInt8) : Int := if unpE b ≠ 0 then unpE b else if getNB b then 0 else 11
def getNL (b : List UInt8) : List En := if getNE b = 0 then (entN b).getD [] else []
def getNF (b : List UInt8) : Bool := if getNE b = 0 then leafK b else false

/-! what is put is got -/
theorem takeF_app (a r : List UInt8) (n : Nat) (h : a.length = n) : takeF ⟨a ++ r, 0⟩ n = (a, ⟨r, 0⟩) := by
  subst h
  simp [takeF]
theorem tText_app (k : List UInt8) (h : k.length ≤ 255) (r : List UInt8) : tText ⟨textF k ++ r, 0⟩ = (k, ⟨r, 0⟩) := by
  have hk : k.take 255 = k := List.take_of_length_le h
  have e : tNum ⟨textF k ++ r, 0⟩ 1 = (k.length, ⟨k ++ r, 0⟩) := by
    rw [textF, hk]
    show tNum ⟨[UInt8.ofNat k.length] ++ (k ++ r), 0⟩ 1 = _
    have h2 : ¬ ((0 : Int) = 0 ∧ ((1 : Int) < 1 ∨ 8 < (1 : Int))) := by omega
    rw [tNum, if_neg h2, show (1 : Int).toNat = 1 from rfl, takeF_app _ _ 1 rfl]
    have : beVal [UInt8.ofNat k.length] = k.length := by simp [beVal, UInt8.toNat_ofNat']; omega
    rw [this]
  rw [tText, e]
  exact takeF_app _ _ _ rfl
theorem tNum_two (n : Int) (h0 : 0 ≤ n) (h1 : n < 65536) (r : List UInt8) : tNum ⟨two n ++ r, 0⟩ 2 = (n.toNat, ⟨r, 0⟩) := by
  have := tNum_be (u64N n) 2 (by decide) (by decide) (by rw [u64N_of h0 (by omega)]; omega) r
  rw [u64N_of h0 (by omega)] at this
  rw [two, u64N_of h0 (by omega)]
  exact this
theorem keyB_len {k : List UInt8} (h : keyB k = true) : k.length ≤ 16 := by
  simp only [keyB, Bool.and_eq_true, decide_eq_true_eq] at h; exact h.2
theorem pageB_iff (n : Int) : pageB n = true ↔ 2 ≤ n ∧ n ≤ 999 := by simp [pageB]
theorem may_len {leaf : Bool} {i : Nat} {e : En} (h : mayN leaf i e = true) : e.key.length ≤ 16 := by
  cases leaf
  · simp only [mayN, mayB, firstB, Bool.false_eq_true, if_false, Bool.and_eq_true] at h
    split at h
    · have := h.1; simp at this; rw [this]; simp
    · exact keyB_len h.1
  · simp only [mayN, mayL, if_true] at h
    split at h <;> (simp only [Bool.and_eq_true] at h; exact keyB_len h.1)
theorem dec_cell {leaf : Bool} {i : Nat} {e : En} (h : mayN leaf i e = true) : decE leaf (cellN leaf e) = some e := by
  have hl := may_len h
  rw [decE, cellN, tText_app _ (by omega)]
  obtain ⟨k, d, f, s, p⟩ := e
  cases leaf
  · simp only [mayN, mayB, Bool.false_eq_true, if_false, Bool.and_eq_true, pageB_iff] at h
    obtain ⟨_, ⟨h2, h3⟩, h4⟩ := h
    simp only [beq_iff_eq, Vv.mk.injEq] at h4
    obtain ⟨rfl, rfl, rfl, _⟩ := h4
    have e1 := tNum_two p (by omega) (by omega) []
    rw [List.append_nil] at e1
    simp only [encV, encB, decV, Bool.false_eq_true, if_false, e1]
    have : ((p.toNat : Nat) : Int) = p := by omega
    simp [tDone, this]
  · simp only [mayN, mayL, if_true] at h
    cases f with
    | true =>
      simp only [if_true, Bool.and_eq_true, decide_eq_true_eq, pageB_iff, beq_iff_eq] at h
      obtain ⟨_, rfl, h2, h3, h4, h5⟩ := h
      have e0 : tNum ⟨[1] ++ (two s ++ two p), 0⟩ 1 = (1, ⟨two s ++ two p, 0⟩) := by
        have h2 : ¬ ((0 : Int) = 0 ∧ ((1 : Int) < 1 ∨ 8 < (1 : Int))) := by omega
        rw [tNum, if_neg h2, show (1 : Int).toNat = 1 from rfl, takeF_app _ _ 1 rfl]; rfl
      have e1 := tNum_two s (by omega) (by omega) (two p)
      have e2 := tNum_two p (by omega) (by omega) []
      rw [List.append_nil] at e2
      simp only [encV, encL, decV, if_true, List.append_assoc, e0, e1, e2]
      have a1 : ((p.toNat : Nat) : Int) = p := by omega
      have a2 : ((s.toNat : Nat) : Int) = s := by omega
      simp [tDone, a1, a2]
    | false =>
      simp only [Bool.false_eq_true, if_false, Bool.and_eq_true, decide_eq_true_eq, beq_iff_eq] at h
      obtain ⟨_, h2, rfl, rfl⟩ := h
      have e0 : tNum ⟨[0] ++ d, 0⟩ 1 = (0, ⟨d, 0⟩) := by
        have h2 : ¬ ((0 : Int) = 0 ∧ ((1 : Int) < 1 ∨ 8 < (1 : Int))) := by omega
        rw [tNum, if_neg h2, show (1 : Int).toNat = 1 from rfl, takeF_app _ _ 1 rfl]; rfl
      have e1 : tRest ⟨d, 0⟩ = (d, ⟨[], 0⟩) := by
        have := takeF_app d [] d.length rfl
        rwa [List.append_nil] at this
      simp only [encV, encL, decV, Bool.false_eq_true, if_false, if_true, e0, e1]
      simp [tDone]
theorem dec_cells {leaf : Bool} : ∀ (l : List En), (∀ e ∈ l, ∃ i, mayN leaf i e = true) → decL leaf (cellsN leaf l) = some l
  | [], _ => rfl
  | e :: l, h => by
    obtain ⟨i, hi⟩ := h e (by simp)
    have := dec_cells l (fun x hx => h x (by simp [hx]))
    simp only [cellsN, List.map_cons, decL, dec_cell hi]
    rw [show l.map (cellN leaf) = cellsN leaf l from rfl, this]
theorem upN_may {leaf : Bool} {l : List En} {n : Nat} (h : upN leaf l n = true) {i : Nat} (hi : i < n) : stepN leaf l i = true := by
  rw [upN, List.all_eq_true] at h
  exact h i (by simpa using hi)
theorem nodeB_may {leaf : Bool} {l : List En} (h : nodeB leaf l = true) : ∀ e ∈ l, ∃ i, mayN leaf i e = true := by
  intro e he
  obtain ⟨i, hi⟩ := List.mem_iff_getElem?.1 he
  simp only [nodeB, Bool.and_eq_true] at h
  have hl := (List.getElem?_eq_some_iff.1 hi).1
  have := upN_may h.1 hl
  simp only [stepN, hi, Option.getD_some, Bool.and_eq_true] at this
  exact ⟨i, this.1⟩
theorem get_putN {leaf : Bool} {l : List En} (h : nodeB leaf l = true) : getNE (putN leaf l) = 0 ∧ getNL (putN leaf l) = l ∧ getNF (putN leaf l) = leaf := by
  have hp : putN leaf l = pageOf (kindN leaf) (cellsN leaf l) := by rw [putN, if_pos h]
  obtain ⟨u1, u2, u3⟩ := page_back (kindN leaf) (cellsN leaf l) (fits_node h)
  have hk : leafK (putN leaf l) = leaf := by rw [leafK, hp, u2]; cases leaf <;> rfl
  have he : entN (putN leaf l) = some l := by rw [entN, hk, hp, u3, dec_cells l (nodeB_may h)]
  have hk2 : decide ((unpK (putN leaf l)).toNat ≤ 2) = true := by rw [hp, u2]; cases leaf <;> rfl
  have hb : getNB (putN leaf l) = true := by rw [getNB, hk2, he, hk]; exact h
  have hE : getNE (putN leaf l) = 0 := by rw [getNE, hp, if_neg (by rw [u1]; simp), ← hp, if_pos hb]
  exact ⟨hE, by rw [getNL, if_pos hE, he]; rfl, by rw [getNF, if_pos hE, hk]⟩

/-! an entry less; entries the other way round; the other kind -/
theorem stepN_take (leaf : Bool) (l : List En) (k i : Nat) (h : i < k) : stepN leaf (l.take k) i = stepN leaf l i := by
  rw [stepN, stepN, List.getElem?_take_of_lt h, List.getElem?_take_of_lt (show i - 1 < k by omega)]
theorem upN_take (leaf : Bool) (l : List En) (k n : Nat) (h : n ≤ k) : upN leaf (l.take k) n = upN leaf l n := by
  induction n with
  | zero => rfl
  | succ n ih => rw [upN_succ, upN_succ, ih (by omega), stepN_take leaf l k n (by omega)]
theorem upN_true {leaf : Bool} {l : List En} {n m : Nat} (h : upN leaf l n = true) (hm : m ≤ n) : upN leaf l m = true := by
  cases hx : upN leaf l m with
  | true => rfl
  | false => rw [upN_mono leaf l hx hm] at h; cases h
theorem lens_map_take (leaf : Bool) (l : List En) (k : Nat) : lens (cellsN leaf (l.take k)) ≤ lens (cellsN leaf l) := by
  rw [cellsN, List.map_take]; exact lens_take_le _ _
theorem node_less {leaf : Bool} {l : List En} (h : nodeB leaf l = true) : nodeB leaf (l.take (l.length - 1)) = decide (leastN leaf ≤ l.length - 1) := by
  simp only [nodeB, Bool.and_eq_true, decide_eq_true_eq] at h
  obtain ⟨h1, h2, h3⟩ := h
  have hl : (l.take (l.length - 1)).length = l.length - 1 := by simp
  have hm := lens_map_take leaf l (l.length - 1)
  rw [nodeB, hl, upN_take _ _ _ _ (Nat.le_refl _), upN_true h1 (Nat.sub_le _ _)]
  have : decide (l.length - 1 + lens (cellsN leaf (l.take (l.length - 1))) ≤ 122) = true := by simp; omega
  rw [this]; simp
end Go.Proofs.YtjdepdgoaopfoaaDoor
