/- Texts that other texts of this claim lean on, one behind the other. -/
import Derived.Test.YtopnfpobbemfbaaDoorM1
import Derived.Test.YtopnfpobbemfbaaDoorM2
import Derived.Outline
import Derived.Maps.Own
import Derived.Maps.OwnOps
import Derived.Maps.Views
import Derived.RangeFuncNested
import Derived.RangeFuncBound
import Derived.RangeFuncCalls
import Derived.RangeFuncLeaves
import Derived.RangeFuncBox
import Derived.Shelf.Abstract
import Derived.Shelf.RegionOpen
import Derived.WalkKit
import Derived.OwnWalkIn
import Derived.TacticsInMore
import Derived.LoopNIn
import Derived.LoopIn
import Derived.Deep.RegionHeld3
/- Plain laws of numbers that are put and taken; no program in sight. -/
namespace Go.Proofs.YtopnfpobbemfbaaDoor

theorem beVal_beBytes (x n : Nat) : beVal (beBytes x n) = x % 256 ^ n := by
  induction n generalizing x with
  | zero => simp [beBytes, beVal_nil, Nat.mod_one]
  | succ n ih =>
    have e : 256 ^ (n + 1) = 256 * 256 ^ n := by rw [Nat.pow_succ, Nat.mul_comm]
    have e2 : x % 2 ^ 8 = x % 256 := rfl
    rw [beBytes, beVal_snoc, ih, UInt8.toNat_ofNat', e, Nat.mod_mul, e2]
    omega

/-- A number's bytes, behind which others stand, are taken as the number. -/
theorem tNum_be (x n : Nat) (h1 : 1 ≤ n) (h8 : n ≤ 8) (hx : x < 256 ^ n) (r : List UInt8) : tNum ⟨beBytes x n ++ r, 0⟩ (n : Int) = (x, ⟨r, 0⟩) := by
  have hl := beBytes_length x n
  rw [tNum, if_neg (by simp; omega)]
  have : takeF ⟨beBytes x n ++ r, 0⟩ n = (beBytes x n, ⟨r, 0⟩) := by
    simp only [takeF]
    rw [if_neg (by simp), if_neg (by simp [hl])]
    simp [hl]
  rw [Int.toNat_natCast, this, beVal_beBytes, Nat.mod_eq_of_lt hx]
theorem tText_text (s : List UInt8) (h : s.length ≤ 255) : tText ⟨UInt8.ofNat s.length :: s, 0⟩ = (s, ⟨[], 0⟩) := by
  have e := tNum_be s.length 1 (by omega) (by omega) (by omega) s
  have e2 : beBytes s.length 1 ++ s = UInt8.ofNat s.length :: s := by simp [beBytes]
  rw [e2] at e
  have e3 : tNum ⟨UInt8.ofNat s.length :: s, 0⟩ 1 = (s.length, ⟨s, 0⟩) := e
  rw [tText, e3]
  simp [takeF]
theorem tText_short (s : List UInt8) (h : s.length ≤ 255) : (tText ⟨(UInt8.ofNat s.length :: s).dropLast, 0⟩).2.e = 10 := by
  cases hs : s with
  | nil => decide
  | cons c r =>
    have e0 : (UInt8.ofNat (c :: r).length :: c :: r).dropLast = UInt8.ofNat (c :: r).length :: (c :: r).dropLast := rfl
    rw [e0]
    have hr : (c :: r).length ≤ 255 := by rw [← hs]; exact h
    have e := tNum_be (c :: r).length 1 (by omega) (by omega) (by omega) (c :: r).dropLast
    have e2 : beBytes (c :: r).length 1 ++ (c :: r).dropLast = UInt8.ofNat (c :: r).length :: (c :: r).dropLast := by simp [beBytes]
    rw [e2] at e
    have e3 : tNum ⟨UInt8.ofNat (c :: r).length :: (c :: r).dropLast, 0⟩ 1 = ((c :: r).length, ⟨(c :: r).dropLast, 0⟩) := e
    rw [tText, e3]
    have hl : (c :: r).dropLast.length < (c :: r).length := by simp
    simp only [takeF]
    rw [if_neg (by simp), if_pos hl]

section
variable (X N : Nat → Nat)
/-- The numbers from one place on, so many, one behind the other. -/
def encN : Nat → Nat → List UInt8
  | 0, _ => []
  | k + 1, i => beBytes (X i) (N i) ++ encN k (i + 1)
theorem encN_snoc (k i : Nat) : encN X N (k + 1) i = encN X N k i ++ beBytes (X (i + k)) (N (i + k)) := by
  induction k generalizing i with
  | zero => simp [encN]
  | succ k ih =>
    have e : i + 1 + k = i + (k + 1) := by omega
    rw [encN, ih (i + 1), encN, List.append_assoc, e]
theorem encN_length (h : ∀ i, N i ≤ 8) (k i : Nat) : (encN X N k i).length ≤ 8 * k := by
  induction k generalizing i with
  | zero => simp [encN]
  | succ k ih =>
    rw [encN, List.length_append, beBytes_length]
    have := ih (i + 1)
    have := h i
    omega
end
end Go.Proofs.YtopnfpobbemfbaaDoor

/- Plain laws of pages: what is packed is unpacked. -/
namespace Go.Proofs.YtopnfpobbemfbaaDoor

theorem slotsOf_get (l : List (List UInt8)) (i e : Nat) (h : i < l.length) : (slotsOf e l)[i]? = some (UInt8.ofNat (e - lens (l.take (i + 1)))) := by
  induction l generalizing i e with
  | nil => simp at h
  | cons c r ih =>
    match i with
    | 0 => simp [slotsOf, lens]
    | i + 1 =>
      have := ih i (e - c.length) (by simpa using h)
      simp only [slotsOf, List.getElem?_cons_succ, this, List.take_succ_cons]
      congr 2
      simp [lens, Nat.sub_sub]

theorem pageOf_five' (kind : UInt8) (c : List (List UInt8)) : (pageOf kind c)[5]? = some (UInt8.ofNat c.length) := by
  rw [pageOf, List.getElem?_append_right (by rw [beBytes_length]; omega), beBytes_length]; rfl

theorem page_kind (kind : UInt8) (l : List (List UInt8)) (_hfit : l.length + lens l ≤ 122) : kindS (pageOf kind l) = kind := by
  rw [kindS, pageOf, List.getElem?_append_right (by rw [beBytes_length]; omega), beBytes_length]; rfl
theorem page_num (kind : UInt8) (l : List (List UInt8)) (hfit : l.length + lens l ≤ 122) : numS (pageOf kind l) = l.length := by
  rw [numS, pageOf_five' kind l]
  simp; omega
theorem page_slot (kind : UInt8) (l : List (List UInt8)) (_hfit : l.length + lens l ≤ 122) (i : Nat) (h : i < l.length) : slotS (pageOf kind l) i = 128 - lens (l.take (i + 1)) := by
  have hl := lens_take_le l (i + 1)
  have e : (pageOf kind l)[6 + i]? = some (UInt8.ofNat (128 - lens (l.take (i + 1)))) := by
    rw [pageOf, List.getElem?_append_right (by rw [beBytes_length]; omega), beBytes_length, show 6 + i - 4 = i + 2 by omega, bodyOf]
    simp only [List.getElem?_cons_succ]
    rw [List.getElem?_append_left (by rw [slotsOf_length]; exact h), slotsOf_get l i 128 h]
  rw [slotS, e]
  simp; omega
theorem page_end (kind : UInt8) (l : List (List UInt8)) (hfit : l.length + lens l ≤ 122) (i : Nat) (h : i ≤ l.length) : endS (pageOf kind l) i = 128 - lens (l.take i) := by
  match i with
  | 0 => simp [endS, lens]
  | i + 1 => exact page_slot kind l hfit i h
theorem page_ok (kind : UInt8) (l : List (List UInt8)) (hfit : l.length + lens l ≤ 122) : okS (pageOf kind l) l.length = true := by
  rw [okS, List.all_eq_true]
  intro i hi
  rw [List.mem_range] at hi
  rw [decide_eq_true_eq, page_slot kind l hfit i hi, page_end kind l hfit i (by omega), lens_take_succ l i hi]
  omega
theorem page_cell (kind : UInt8) (l : List (List UInt8)) (hfit : l.length + lens l ≤ 122) (i : Nat) (h : i < l.length) : cellS (pageOf kind l) i = l[i] := by
  have h1 := page_slot kind l hfit i h
  have h2 := page_end kind l hfit i (by omega)
  have hle := lens_take_le l (i + 1)
  have hs := lens_take_succ l i h
  have hg : l[i]?.getD [] = l[i] := by rw [List.getElem?_eq_getElem h]; rfl
  rw [hg] at hs
  have hsplit : backOf l = backOf (l.drop (i + 1)) ++ (l[i] ++ backOf (l.take i)) := by
    have e : l = l.take i ++ ([l[i]] ++ l.drop (i + 1)) := by simp
    conv => lhs; rw [e]
    rw [backOf_append, backOf_append, backOf_one, List.append_assoc]
  have hlen : lens l = lens (l.take (i + 1)) + lens (l.drop (i + 1)) := by rw [← lens_append, List.take_append_drop]
  have hp : pageOf kind l = (beBytes (crcOf (bodyOf kind l.length l)) 4 ++ (kind :: UInt8.ofNat l.length :: (slotsOf 128 l ++ (List.replicate (122 - l.length - lens l) 0 ++ backOf (l.drop (i + 1)))))) ++ (l[i] ++ backOf (l.take i)) := by
    rw [pageOf]
    conv => lhs; arg 2; rw [bodyOf, hsplit]
    simp [List.append_assoc]
  rw [cellS, h1, h2, hp]
  have hlen2 : (beBytes (crcOf (bodyOf kind l.length l)) 4 ++ (kind :: UInt8.ofNat l.length :: (slotsOf 128 l ++ (List.replicate (122 - l.length - lens l) 0 ++ backOf (l.drop (i + 1)))))).length = 128 - lens (l.take (i + 1)) := by
    simp only [List.length_append, List.length_cons, beBytes_length, slotsOf_length, List.length_replicate, backOf_length]
    omega
  rw [← hlen2, List.drop_left, hlen2]
  have : 128 - lens (l.take i) - (128 - lens (l.take (i + 1))) = l[i].length := by omega
  rw [this, List.take_left]
theorem page_cut (kind : UInt8) (l : List (List UInt8)) (hfit : l.length + lens l ≤ 122) : cutS (pageOf kind l) l.length = l := by
  apply List.ext_getElem
  · simp [cutS]
  · intro i h1 h2
    simp only [cutS, List.getElem_map, List.getElem_range]
    exact page_cell kind l hfit i h2

/-- What is packed is unpacked. -/
theorem page_back (kind : UInt8) (l : List (List UInt8)) (h : fits kind l = true) : unpE (pageOf kind l) = 0 ∧ unpK (pageOf kind l) = kind ∧ unpL (pageOf kind l) = l := by
  have hfit : l.length + lens l ≤ 122 := by
    simp only [fits, Bool.and_eq_true, decide_eq_true_eq] at h; exact h.2
  have hlen := pageOf_length kind l hfit
  have hn := page_num kind l hfit
  have hk := page_kind kind l hfit
  have hmin : min l.length 122 = l.length := Nat.min_eq_left (by omega)
  have hc := page_cut kind l hfit
  have hB : unpB (pageOf kind l) = true := by
    rw [unpB, hn, hk, hmin, hc, page_ok kind l hfit, h]; simp
  have hsum : beVal ((pageOf kind l).take 4) = crcOf ((pageOf kind l).drop 4) := by
    have e1 : (pageOf kind l).take 4 = beBytes (crcOf (bodyOf kind l.length l)) 4 := by
      rw [pageOf, List.take_append_of_le_length (by rw [beBytes_length]; omega), List.take_of_length_le (by rw [beBytes_length]; omega)]
    have e2 : (pageOf kind l).drop 4 = bodyOf kind l.length l := by
      rw [pageOf]
      have := List.drop_left (l₁ := beBytes (crcOf (bodyOf kind l.length l)) 4) (l₂ := bodyOf kind l.length l)
      rwa [beBytes_length] at this
    have hx := crcOn_lt 0 (bodyOf kind l.length l)
    rw [e1, e2, beVal_beBytes, Nat.mod_eq_of_lt (by exact hx)]
  have hE : unpE (pageOf kind l) = 0 := by
    rw [unpE, if_neg (by omega), if_neg (by simpa using hsum), if_pos hB]
  refine ⟨hE, ?_, ?_⟩
  · rw [unpK, hE, hk]; rfl
  · rw [unpL, hE, hn, hmin, hc]; rfl
end Go.Proofs.YtopnfpobbemfbaaDoor

/- Free pages as pages: plain laws. -/
namespace Go.Proofs.YtopnfpobbemfbaaDoor

/-- How many pages so many numbers take. -/
def needF (n : Int) : Nat := if n < 1 then 0 else ((n - 1) / 59 + 1).toNat
def pgB (n : Int) : Bool := decide (2 ≤ n) && decide (n ≤ 999)
def atI (l : List Int) (i : Nat) : Int := l[i]?.getD 0
def risAt (l : List Int) (i : Nat) : Bool := pgB (atI l i) && (decide (i = 0) || decide (atI l (i - 1) < atI l i))
/-- Numbers of pages, each above the one ahead of it. -/
def risB (l : List Int) : Bool := (List.range l.length).all fun i => risAt l i
def aptAt (at_ l : List Int) (i : Nat) : Bool := pgB (atI at_ i) && !(l ++ at_.take i).contains (atI at_ i)
/-- Places of pages, none twice, and none of some numbers. -/
def aptB (at_ l : List Int) : Bool := (List.range at_.length).all fun i => aptAt at_ l i
/-- A number as two bytes. -/
def wordB (n : Int) : List UInt8 := beBytes n.toNat 2
theorem wordB_length (n : Int) : (wordB n).length = 2 := beBytes_length _ _
def nextI (at_ : List Int) (i : Nat) : Int := if i + 1 < at_.length then atI at_ (i + 1) else 0
def numsL (l : List Int) (i : Nat) : List Int := (l.drop (59 * i)).take 59
def cellL (l at_ : List Int) (i : Nat) : List UInt8 := (nextI at_ i :: numsL l i).flatMap wordB
def putOk (l at_ : List Int) : Bool := risB l && (decide (needF l.length ≤ at_.length) && aptB at_ l)
def pageL (l at_ : List Int) (i : Nat) : List UInt8 := pageOf 4 [cellL l at_ i]
def putL (l at_ : List Int) : List (List UInt8) := if putOk l at_ then (List.range at_.length).map (pageL l at_) else []
def putE (l at_ : List Int) : Int := if putOk l at_ then 0 else 1

theorem words_length (x : List Int) : (x.flatMap wordB).length = 2 * x.length := by
  induction x with
  | nil => rfl
  | cons a x ih => simp [ih, wordB_length]; omega
theorem numsL_le (l : List Int) (i : Nat) : (numsL l i).length ≤ 59 := by simp [numsL]; omega
theorem cellL_length (l at_ : List Int) (i : Nat) : (cellL l at_ i).length = 2 * ((numsL l i).length + 1) := by rw [cellL, words_length]; simp
theorem page_fits (l at_ : List Int) (i : Nat) : fits 4 [cellL l at_ i] = true := by
  have := numsL_le l i
  simp [fits, lens_one, cellL_length]; omega

/-- Bytes as numbers, two by two. -/
def wordsOf : List UInt8 → List Int
  | a :: b :: r => ((a.toNat * 256 + b.toNat : Nat) : Int) :: wordsOf r
  | _ => []
theorem wordsOf_length (c : List UInt8) : (wordsOf c).length = c.length / 2 := by
  match c with
  | [] => rfl
  | [_] => simp [wordsOf]
  | a :: b :: r => simp [wordsOf, wordsOf_length r]; omega
theorem pg_lt {n : Int} (h : pgB n = true) : 0 ≤ n ∧ n < 65536 := by simp [pgB] at h; omega
theorem wordsOf_word (n : Int) (h : 0 ≤ n ∧ n < 65536) (r : List UInt8) : wordsOf (wordB n ++ r) = n :: wordsOf r := by
  obtain ⟨k, rfl⟩ := Int.eq_ofNat_of_zero_le h.1
  have e : wordB (k : Int) = [UInt8.ofNat (k / 256), UInt8.ofNat k] := by simp [wordB, beBytes]
  rw [e]
  simp only [List.cons_append, List.nil_append, wordsOf]
  congr 1
  simp [UInt8.toNat_ofNat']
  omega
theorem wordsOf_words (x : List Int) (h : ∀ n ∈ x, 0 ≤ n ∧ n < 65536) : wordsOf (x.flatMap wordB) = x := by
  induction x with
  | nil => rfl
  | cons a x ih => rw [List.flatMap_cons, wordsOf_word a (h a (by simp)), ih (fun n hn => h n (by simp [hn]))]

/-- What a page's bytes tell: an error, the numbers. -/
def oneE (b : List UInt8) : Int :=
  if unpE b ≠ 0 then unpE b else if unpK b ≠ 4 ∨ (unpL b).length ≠ 1 ∨ ((unpL b)[0]?.getD []).length % 2 ≠ 0 then 11
  else if ((unpL b)[0]?.getD []).length = 0 ∨ 120 < ((unpL b)[0]?.getD []).length then 11 else 0
def oneL (b : List UInt8) : List Int := if oneE b = 0 then wordsOf ((unpL b)[0]?.getD []) else []
theorem oneL_len {b : List UInt8} (h : oneE b = 0) : 1 ≤ (oneL b).length ∧ (oneL b).length ≤ 60 := by
  rw [oneL, if_pos h, wordsOf_length]
  unfold oneE at h
  split at h
  · rename_i h1; exact absurd h h1
  · split at h
    · cases h
    · split at h
      · cases h
      · omega
theorem one_page (l at_ : List Int) (i : Nat) (h1 : ∀ n ∈ numsL l i, 0 ≤ n ∧ n < 65536) (h2 : 0 ≤ nextI at_ i ∧ nextI at_ i < 65536) :
    oneE (pageL l at_ i) = 0 ∧ oneL (pageL l at_ i) = nextI at_ i :: numsL l i := by
  obtain ⟨e1, e2, e3⟩ := page_back 4 [cellL l at_ i] (page_fits l at_ i)
  have hl := cellL_length l at_ i
  have hn := numsL_le l i
  have hE : oneE (pageL l at_ i) = 0 := by
    unfold oneE pageL
    rw [e1, e2, e3]
    simp [hl]; omega
  refine ⟨hE, ?_⟩
  rw [oneL, if_pos hE]
  unfold pageL
  rw [e3]
  show wordsOf (cellL l at_ i) = _
  rw [cellL, wordsOf_words]
  intro n hn
  rcases List.mem_cons.1 hn with rfl | hn
  · exact h2
  · exact h1 n hn

/-- The numbers from one page on: what each page tells is given. -/
def getF (rd : Int → Int × List Int) : Nat → List Int → List Int → Int → List Int × List Int × Int
  | 0, _, _, _ => ([], [], 0)
  | n + 1, l, at_, next =>
    if next = 0 then (l, at_, 0)
    else if (rd next).1 ≠ 0 then ([], [], (rd next).1)
    else if risB (l ++ (rd next).2.drop 1) = false ∨ (l.length < 59 * at_.length ∧ 1 < (rd next).2.length) then ([], [], 11)
    else if atI (rd next).2 0 = 0 then (l ++ (rd next).2.drop 1, at_ ++ [next], 0)
    else if pgB (atI (rd next).2 0) = false ∨ atI (rd next).2 0 ∈ at_ ++ [next] then ([], [], 11)
    else getF rd n (l ++ (rd next).2.drop 1) (at_ ++ [next]) (atI (rd next).2 0)

/-- Places that may have come so far. -/
def AtOk (at_ : List Int) (next : Int) : Prop := at_.Nodup ∧ (∀ x ∈ at_.drop 1, pgB x = true) ∧ (next ≠ 0 → next ∉ at_ ∧ (at_ ≠ [] → pgB next = true))
theorem nodup_le (n : Nat) : ∀ l : List Nat, l.Nodup → (∀ x ∈ l, x < n) → l.length ≤ n := by
  induction n with
  | zero =>
    intro l _ h
    cases l with
    | nil => exact Nat.le_refl _
    | cons a l => exact absurd (h a (by simp)) (by omega)
  | succ n ih =>
    intro l hn h
    by_cases hm : n ∈ l
    · have h1 := ih (l.erase n) (hn.erase n) (fun x hx => by
        have hx2 := (hn.mem_erase_iff).1 hx
        have := h x hx2.2
        have := hx2.1
        omega)
      rw [List.length_erase_of_mem hm] at h1
      omega
    · have h1 := ih l hn (fun x hx => by
        have := h x hx
        have : x ≠ n := fun e => hm (e ▸ hx)
        omega)
      omega
theorem pages_le {l : List Int} (hn : l.Nodup) (h : ∀ x ∈ l, pgB x = true) : l.length ≤ 998 := by
  have h1 := nodup_le 998 (l.map fun x => (x - 2).toNat) (by
    rw [List.nodup_iff_pairwise_ne] at *
    rw [List.pairwise_map]
    refine List.Pairwise.imp_of_mem ?_ hn
    intro a b ha hb hne e
    have := h a ha
    have := h b hb
    simp [pgB] at *
    omega) (fun x hx => by
    obtain ⟨y, hy, rfl⟩ := List.mem_map.1 hx
    have := h y hy
    simp [pgB] at this
    omega)
  simpa using h1
theorem AtOk.le {at_ : List Int} {next : Int} (h : AtOk at_ next) : at_.length ≤ 999 := by
  obtain ⟨h1, h2, _⟩ := h
  have := pages_le (h1.sublist (List.drop_sublist 1 at_)) h2
  simp at this
  omega
theorem AtOk.start (next : Int) : AtOk [] next := ⟨List.nodup_nil, by simp, fun _ => ⟨by simp, fun h => absurd rfl h⟩⟩
theorem AtOk.push {at_ : List Int} {next nx : Int} (h : AtOk at_ next) (h0 : next ≠ 0) (hp : pgB nx = true) (hn : nx ∉ at_ ++ [next]) : AtOk (at_ ++ [next]) nx := by
  obtain ⟨h1, h2, h3⟩ := h
  obtain ⟨h4, h5⟩ := h3 h0
  refine ⟨?_, ?_, fun _ => ⟨hn, fun _ => hp⟩⟩
  · rw [List.nodup_append]
    exact ⟨h1, by simp, fun a ha b hb e => by simp at hb; subst hb; subst e; exact h4 ha⟩
  · intro x hx
    cases at_ with
    | nil => simp at hx
    | cons a r =>
      simp only [List.cons_append, List.drop_succ_cons, List.drop_zero, List.mem_append, List.mem_singleton] at hx
      rcases hx with hx | rfl
      · exact h2 x (by simpa using hx)
      · exact h5 (by simp)
/-- A list that rises has no more numbers than there are pages. -/
theorem ris_at {l : List Int} (h : risB l = true) {i : Nat} (hi : i < l.length) : risAt l i = true := by
  rw [risB, List.all_eq_true] at h
  exact h i (by simpa using hi)
theorem ris_pg {l : List Int} (h : risB l = true) : ∀ n ∈ l, pgB n = true := by
  intro n hn
  obtain ⟨i, hi, e⟩ := List.getElem_of_mem hn
  have := ris_at h hi
  simp only [risAt, atI, List.getElem?_eq_getElem hi, e, Bool.and_eq_true] at this
  exact this.1
theorem ris_lt {l : List Int} (h : risB l = true) (j : Nat) : ∀ i, i < j → j < l.length → atI l i < atI l j := by
  induction j with
  | zero => intro i hi; omega
  | succ j ih =>
    intro i hi hj
    have h1 := ris_at h hj
    simp only [risAt, Bool.and_eq_true, Bool.or_eq_true, decide_eq_true_eq, Nat.add_sub_cancel] at h1
    have h2 : atI l j < atI l (j + 1) := by
      rcases h1.2 with h2 | h2
      · omega
      · exact h2
    by_cases e : i = j
    · subst e; exact h2
    · have := ih i (by omega) (by omega); omega
theorem ris_nodup {l : List Int} (h : risB l = true) : l.Nodup := by
  rw [List.nodup_iff_pairwise_ne, List.pairwise_iff_getElem]
  intro i j hi hj hij e
  have := ris_lt h j i hij hj
  simp [atI, hi, hj, e] at this
theorem ris_le {l : List Int} (h : risB l = true) : l.length ≤ 998 := pages_le (ris_nodup h) (ris_pg h)
theorem ris_take {l : List Int} (h : risB l = true) (k : Nat) : risB (l.take k) = true := by
  rw [risB, List.all_eq_true]
  intro i hi
  simp at hi
  have h1 := ris_at h (i := i) (by omega)
  have e1 : atI (l.take k) i = atI l i := by simp [atI, show i < k by omega]
  have e2 : atI (l.take k) (i - 1) = atI l (i - 1) := by simp [atI, show i - 1 < k by omega]
  rw [risAt, e1, e2]; exact h1
theorem getF_start (rd : Int → Int × List Int) (n : Nat) (l at_ : List Int) : getF rd (n + 1) l at_ 0 = (l, at_, 0) := by rw [getF, if_pos rfl]

/-- What is put, and told by each page, is got. -/
theorem put_parts {l at_ : List Int} (h : putOk l at_ = true) : risB l = true ∧ needF l.length ≤ at_.length ∧ aptB at_ l = true := by
  simpa [putOk, Bool.and_eq_true] using h
theorem apt_at {l at_ : List Int} (h : aptB at_ l = true) {i : Nat} (hi : i < at_.length) : pgB (atI at_ i) = true ∧ atI at_ i ∉ l ∧ atI at_ i ∉ at_.take i := by
  rw [aptB, List.all_eq_true] at h
  have := h i (by simpa using hi)
  simp [aptAt] at this
  exact ⟨this.1, this.2.1, this.2.2⟩
theorem apt_pg {l at_ : List Int} (h : aptB at_ l = true) : ∀ n ∈ at_, pgB n = true := by
  intro n hn
  obtain ⟨i, hi, e⟩ := List.getElem_of_mem hn
  have := (apt_at h hi).1
  simpa [atI, hi, e] using this
theorem apt_nodup {l at_ : List Int} (h : aptB at_ l = true) : at_.Nodup := by
  rw [List.nodup_iff_pairwise_ne, List.pairwise_iff_getElem]
  intro i j hi hj hij e
  have h1 := (apt_at h hj).2.2
  apply h1
  simp only [atI, List.getElem?_eq_getElem hj, Option.getD_some]
  rw [← e]
  exact List.mem_of_getElem? (i := i) (by rw [List.getElem?_take_of_lt hij, List.getElem?_eq_getElem hi])
theorem next_lt {l at_ : List Int} (h : aptB at_ l = true) (i : Nat) : 0 ≤ nextI at_ i ∧ nextI at_ i < 65536 := by
  unfold nextI
  split
  · rename_i hi; exact pg_lt (apt_at h hi).1
  · omega
theorem nums_lt {l : List Int} (h : risB l = true) (i : Nat) : ∀ n ∈ numsL l i, 0 ≤ n ∧ n < 65536 := fun n hn => pg_lt (ris_pg h n (List.mem_of_mem_drop (List.mem_of_mem_take hn)))
/-- What each page of a list tells. -/
theorem put_one {l at_ : List Int} (h : putOk l at_ = true) (i : Nat) : oneE (pageL l at_ i) = 0 ∧ oneL (pageL l at_ i) = nextI at_ i :: numsL l i := by
  obtain ⟨h1, h2, h3⟩ := put_parts h
  exact one_page l at_ i (nums_lt h1 i) (next_lt h3 i)
theorem take_nums (l : List Int) (i : Nat) : l.take (59 * i) ++ numsL l i = l.take (59 * (i + 1)) := by
  rw [numsL, ← List.take_add, Nat.mul_succ]
theorem need_le {n m : Nat} (h : needF (n : Int) ≤ m) : n ≤ 59 * m := by
  unfold needF at h
  split at h <;> omega
theorem get_back {l at_ : List Int} (h : putOk l at_ = true) (rd : Int → Int × List Int) :
    ∀ m i, m = at_.length - i → i < at_.length → (∀ j, i ≤ j → j < at_.length → rd (atI at_ j) = (0, nextI at_ j :: numsL l j)) → ∀ n, m ≤ n → getF rd n (l.take (59 * i)) (at_.take i) (atI at_ i) = (l, at_, 0) := by
  obtain ⟨h1, h2, h3⟩ := put_parts h
  have hneed := need_le h2
  intro m
  induction m with
  | zero => intro i hm hi; omega
  | succ m ih =>
    intro i hm hi hrd n hn
    obtain ⟨n, rfl⟩ : ∃ k, n = k + 1 := ⟨n - 1, by omega⟩
    have hp := (apt_at h3 hi).1
    have h0 : atI at_ i ≠ 0 := by intro e; rw [e] at hp; cases hp
    have hts : at_.take i ++ [atI at_ i] = at_.take (i + 1) := by
      rw [List.take_succ_eq_append_getElem hi]; simp [atI, hi]
    rw [getF, if_neg h0, hrd i (Nat.le_refl _) hi]
    simp only [ne_eq, not_true, if_false, List.drop_succ_cons, List.drop_zero, take_nums, hts, List.length_cons]
    rw [if_neg (by
      rintro (h4 | ⟨h4, h5⟩)
      · rw [ris_take h1] at h4; cases h4
      · simp [numsL] at h4 h5; omega)]
    have ea : atI (nextI at_ i :: numsL l i) 0 = nextI at_ i := rfl
    rw [ea]
    by_cases hl : i + 1 < at_.length
    · have en : nextI at_ i = atI at_ (i + 1) := by rw [nextI, if_pos hl]
      obtain ⟨g1, g2, g3⟩ := apt_at h3 hl
      have g0 : atI at_ (i + 1) ≠ 0 := by intro e; rw [e] at g1; cases g1
      rw [en, if_neg g0, if_neg (by
        rintro (h4 | h4)
        · rw [g1] at h4; cases h4
        · exact g3 h4)]
      exact ih (i + 1) (by omega) hl (fun j hj hj2 => hrd j (by omega) hj2) n (by omega)
    · have en : nextI at_ i = 0 := by rw [nextI, if_neg hl]
      rw [en, if_pos rfl, List.take_of_length_le (by omega), List.take_of_length_le (by omega)]
/-- A page of a list that isn't told stops it. -/
theorem get_lost {l at_ : List Int} (h : putOk l at_ = true) (rd : Int → Int × List Int) (w : Nat) (e : Int) (he : e ≠ 0) (hw : w < at_.length) (hE : (rd (atI at_ w)).1 = e) :
    ∀ m i, m = at_.length - i → i ≤ w → (∀ j, j < w → rd (atI at_ j) = (0, nextI at_ j :: numsL l j)) → ∀ n, m ≤ n → getF rd n (l.take (59 * i)) (at_.take i) (atI at_ i) = ([], [], e) := by
  obtain ⟨h1, h2, h3⟩ := put_parts h
  have hneed := need_le h2
  intro m
  induction m with
  | zero => intro i hm hi; omega
  | succ m ih =>
    intro i hm hi hrd n hn
    obtain ⟨n, rfl⟩ : ∃ k, n = k + 1 := ⟨n - 1, by omega⟩
    have hp := (apt_at h3 (show i < at_.length by omega)).1
    have h0 : atI at_ i ≠ 0 := by intro e; rw [e] at hp; cases hp
    rw [getF, if_neg h0]
    by_cases hiw : i = w
    · subst hiw
      rw [hE, if_pos he]
    · have hts : at_.take i ++ [atI at_ i] = at_.take (i + 1) := by
        rw [List.take_succ_eq_append_getElem (show i < at_.length by omega)]; simp [atI, show i < at_.length by omega]
      rw [hrd i (by omega)]
      simp only [ne_eq, not_true, if_false, List.drop_succ_cons, List.drop_zero, take_nums, hts, List.length_cons]
      rw [if_neg (by
        rintro (h4 | ⟨h4, h5⟩)
        · rw [ris_take h1] at h4; cases h4
        · simp [numsL] at h4 h5; omega)]
      have ea : atI (nextI at_ i :: numsL l i) 0 = nextI at_ i := rfl
      rw [ea]
      have hl : i + 1 < at_.length := by omega
      have en : nextI at_ i = atI at_ (i + 1) := by rw [nextI, if_pos hl]
      obtain ⟨g1, g2, g3⟩ := apt_at h3 hl
      have g0 : atI at_ (i + 1) ≠ 0 := by intro e; rw [e] at g1; cases g1
      rw [en, if_neg g0, if_neg (by
        rintro (h4 | h4)
        · rw [g1] at h4; cases h4
        · exact g3 h4)]
      exact ih (i + 1) (by omega) (by omega) hrd n (by omega)

/-! how many pages a list takes of its own -/
def ownF (f w : Nat) : Nat := max ((f + w + 59) / 60) ((w + 58) / 59)
theorem own_need (f w k : Nat) : needF (((f - k : Nat) + w : Nat) : Int) ≤ k ↔ ownF f w ≤ k := by
  unfold needF ownF
  split <;> omega
end Go.Proofs.YtopnfpobbemfbaaDoor

/- The walks of the chapter on free pages: what is counted and held against each other. -/
namespace Go.Proofs.YtopnfpobbemfbaaDoor
open Go.RowKit

theorem lneed_any (n : Int) (w : World) (h : n ≤ 9223372036854775807) :
    Calls Tryd.prog 11 #[.int .i64 n] w fun e w' => e = .returned (.int .i64 (needF n : Int)) ∧ w = w' := by
  by_cases h1 : n < 1
  · have d1 : decide (n < 1) = true := by simpa using h1
    have HN := Lib.hid (show needF n = 0 by rw [needF, if_pos h1])
    go_enter Tryd.func11, Tryd.ntmps11
    go_wp2
    go_ret
    exact ⟨ret_int (by rw [HN.out]; rfl), rfl⟩
  · have d1 : decide (n < 1) = false := by simpa using h1
    have HN := Lib.hid (show needF n = ((n - 1) / 59 + 1).toNat by rw [needF, if_neg h1])
    go_enter Tryd.func11, Tryd.ntmps11
    go_wp2
    go_ret
    exact ⟨ret_int (by rw [HN.out]; omega), rfl⟩

theorem lpage_any (n : Int) (w : World) :
    Calls Tryd.prog 37 #[.int .i64 n] w fun e w' => e = .returned (.bool (pgB n)) ∧ w = w' := by
  by_cases h1 : 2 ≤ n
  · have d1 : decide (2 ≤ n) = true := by simpa using h1
    have HN := Lib.hid (show pgB n = decide (n ≤ 999) by rw [pgB, d1]; rfl)
    go_enter Tryd.func37, Tryd.ntmps37
    go_wp2
    go_ret
    exact ⟨ret_bool (by rw [HN.out]), rfl⟩
  · have d1 : decide (2 ≤ n) = false := by simpa using h1
    have HN := Lib.hid (show pgB n = false by rw [pgB, d1]; rfl)
    go_enter Tryd.func37, Tryd.ntmps37
    go_wp2
    go_ret
    exact ⟨ret_bool (by rw [HN.out]), rfl⟩

theorem Row.cellI {w : World} {a : Option Addr} {len cap : Nat} {l : List Int} (h : Row .i64 w a len cap l) {k : Nat} (hk : k < len) :
    ∃ b off, a = some ⟨b, off, none⟩ ∧ b < w.heap.size ∧ ∀ i, i < len → w.cell? ⟨b, off + i, none⟩ = some (.int .i64 (atI l i)) := by
  rcases h.2.2.2.2 with h0 | h0
  · omega
  · exact h0
theorem Row.lens {k : IntKind} {w : World} {a : Option Addr} {len cap : Nat} {l : List Int} (h : Row k w a len cap l) : l.length = len ∧ len ≤ cap ∧ cap ≤ 9223372036854775807 := ⟨h.1, h.2.1, by have := h.2.2.1; unfold maxLen at this; omega⟩

set_option maxRecDepth 100000 in
set_option maxHeartbeats 1000000 in
theorem rising_any {w : World} {a : Option Addr} {len cap : Nat} {l : List Int} (h : Row .i64 w a len cap l) :
    Calls Tryd.prog 23 #[.slice a len cap] w fun e w' => e = .returned (.bool (risB l)) ∧ w = w' := by
  obtain ⟨hl, hc, hm⟩ := h.lens
  have HL := Lib.hid hl
  have HR := Lib.hid h
  clear hl h
  go_enter Tryd.func23, Tryd.ntmps23
  go_wp2
  go_loopw [3, 4, 7] (fun s3 s4 s7 wr => ∃ i : Nat, i ≤ len ∧ s7 = .int .i64 i ∧ (∀ j, j < i → risAt l j = true) ∧ wr = w) (fun _ _ s _ => len - (intOf s).toNat)
  case atStart => exact ⟨0, Nat.zero_le _, rfl, fun j hj => by omega, rfl⟩
  case round =>
    obtain ⟨i, hi, rfl, hall, rfl⟩ := hrel
    by_cases hlt : i < len
    · obtain ⟨b, off, rfl, hb, hcell⟩ := HR.out.cellI hlt
      have c1 := hcell i hlt
      have HA0 := Lib.hid (show risAt l i = (pgB (atI l i) && (decide (i = 0) || decide (atI l (i - 1) < atI l i))) from rfl)
      have HB : Hid (risAt l i = false → risB l = false) := Lib.hid (fun e => by
        rw [risB, List.all_eq_false]
        exact ⟨i, by rw [List.mem_range, HL.out]; exact hlt, by rw [e]; simp⟩)
      have HC : Hid (risAt l i = true → ∀ j, j < i + 1 → risAt l j = true) := Lib.hid (fun e j hj => by
        by_cases hji : j = i
        · subst hji; exact e
        · exact hall j (by omega))
      clear hall
      by_cases h0 : i = 0
      · subst h0
        have HA1 := Lib.hid (HA0.out.trans (show _ = pgB (atI l 0) by simp))
        clear HA0
        rw [Nat.add_zero] at c1
        clear hcell
        have hx : ∃ x, atI l 0 = x := ⟨_, rfl⟩
        obtain ⟨x, hx⟩ := hx
        rw [hx] at c1
        have HA : Hid (risAt l 0 = pgB x) := Lib.hid (HA1.out.trans (by rw [hx]))
        clear HA1
        clear hx
        go_wp2_with fail
        refine (lpage_any x wr).mono ?_
        rintro e w' ⟨rfl, rfl⟩
        cases hp : pgB x
        · have HP := Lib.hid hp
          clear hp
          go_wp2_with fail
          go_ret
          exact ⟨ret_bool (HB.out (HA.out.trans HP.out)).symm, rfl⟩
        · have HP := Lib.hid hp
          clear hp
          go_wp2_with fail
          go_roundw
          case rel => exact ⟨1, by omega, by go_num, HC.out (HA.out.trans HP.out), by first | rfl | trivial⟩
          case measure => simp [intOf]; omega
      · have c2 := hcell (i - 1) (by omega)
        have hi0 : decide ((0 : Int) < i) = true := by simp; omega
        have hn0 : 0 < i := by omega
        have HA := Lib.hid (HA0.out.trans (show _ = (pgB (atI l i) && decide (atI l (i - 1) < atI l i)) by simp [h0]))
        clear HA0
        have e1 : ((i : Int) - 1) = ((i - 1 : Nat) : Int) := by omega
        clear hcell h0
        generalize atI l i = x at *
        generalize atI l (i - 1) = y at *
        go_wp2_with fail
        refine (lpage_any x wr).mono ?_
        rintro e w' ⟨rfl, rfl⟩
        cases hp : pgB x
        · have HP := Lib.hid hp
          clear hp
          go_wp2_with fail
          go_ret
          exact ⟨ret_bool (HB.out (HA.out.trans (by rw [HP.out]; rfl))).symm, rfl⟩
        · have HP := Lib.hid hp
          clear hp
          by_cases hxy : x ≤ y
          · have d : decide (x ≤ y) = true := by simpa using hxy
            go_wp2_with fail
            go_ret
            exact ⟨ret_bool (HB.out (HA.out.trans (by rw [HP.out]; simp; omega))).symm, rfl⟩
          · have d : decide (x ≤ y) = false := by simpa using hxy
            go_wp2_with fail
            go_roundw
            case rel => exact ⟨i + 1, by omega, by go_num, HC.out (HA.out.trans (by rw [HP.out]; simp; omega)), by first | rfl | trivial⟩
            case measure => simp [intOf]; omega
    · obtain rfl : i = len := by omega
      have HB : Hid (risB l = true) := Lib.hid (by
        rw [risB, List.all_eq_true]
        intro j hj
        rw [List.mem_range, HL.out] at hj
        exact hall j hj)
      clear hall
      go_wp2_with fail
      go_ret
      exact ⟨ret_bool HB.out.symm, rfl⟩

set_option maxRecDepth 100000 in
set_option maxHeartbeats 1000000 in
theorem own_any (f v : Int) (w : World) (hf : f ≤ 100000) (hv : v ≤ 100000) (hf0 : -100000 ≤ f) (hv0 : -100000 ≤ v) :
    Calls Tryd.prog 14 #[.int .i64 f, .int .i64 v] w fun e w' => e = .returned (.int .i64 (ownF f.toNat v.toNat : Int)) ∧ w = w' := by
  obtain ⟨F, hF⟩ : ∃ F : Nat, f.toNat = F := ⟨_, rfl⟩
  obtain ⟨V, hV⟩ : ∃ F : Nat, v.toNat = F := ⟨_, rfl⟩
  rw [hF, hV]
  have hF3 : F ≤ 100000 := by omega
  have hV3 : V ≤ 100000 := by omega
  have hown : ownF F V ≤ 200000 := by unfold ownF; omega
  have HN := Lib.hid (own_need F V)
  have HF : (f < 0 ∧ F = 0) ∨ (0 ≤ f ∧ f = F) := by omega
  have HV : (v < 0 ∧ V = 0) ∨ (0 ≤ v ∧ v = V) := by omega
  clear hF hV
  have HNEED : ∀ (k : Nat) (m : Int), m = ((F - k + V : Nat) : Int) → Calls Tryd.prog 11 #[.int .i64 m] w fun e w' => e = .returned (.int .i64 (needF ((F - k + V : Nat) : Int) : Int)) ∧ w = w' := by
    intro k m hm
    subst hm
    exact lneed_any _ w (by omega)
  go_enter Tryd.func14, Tryd.ntmps14
  go_wp2
  all_goals
    go_loop [5] (fun s => ∃ k : Nat, s = .int .i64 k ∧ k ≤ ownF F V) (fun s => ownF F V - (intOf s).toNat)
    case atStart => exact ⟨0, rfl, Nat.zero_le _⟩
    case round =>
      obtain ⟨k, rfl, hk⟩ := hrel
      have hn := HN.out k
      have hnk := HNEED k
      generalize needF ((F - k + V : Nat) : Int) = q at *
      go_wp2_with fail
      all_goals
        refine (hnk _ (by omega)).mono ?_
        rintro e w' ⟨rfl, rfl⟩
        by_cases hq : q ≤ k
        · have hd : decide ((q : Int) ≤ k) = true := by simpa using hq
          have HK : Hid (ownF F V = k) := Lib.hid (by have := hn.1 hq; omega)
          clear hn hnk
          go_wp2_with fail
          go_ret
          exact ⟨ret_int (by rw [HK.out]), rfl⟩
        · have hd : decide ((q : Int) ≤ k) = false := by simp; omega
          have hlt : k < ownF F V := by
            by_cases h : ownF F V ≤ k
            · exact absurd (hn.2 h) hq
            · omega
          clear hn hnk
          go_wp2_with fail
          go_round
          case rel => exact ⟨k + 1, by go_num, hlt⟩
          case measure => simp [intOf]; omega
end Go.Proofs.YtopnfpobbemfbaaDoor

/- The walks of the chapter on free pages: places that are apart; numbers that are sought. -/
namespace Go.Proofs.YtopnfpobbemfbaaDoor
open Go.RowKit Go.Maps

/-- How a number reads. -/
def intR (v : Value) : Option (DataW Unit × List MemPlace) := match v with | .int .i64 n => some (.lit (.int .i64 n), []) | _ => none
theorem intR_inv {v : Value} {n : Int} {ps : List MemPlace} (h : intR v = some (.lit (.int .i64 n), ps)) : v = .int .i64 n := by
  unfold intR at h
  split at h
  · simp at h; rw [h.1]
  · cases h
theorem elem_ints : Tryd.prog.underlying 22 = some (.slice (Tryd.prog.elem 22)) := by kernel_rfl
theorem size_ints (w : World) : (sizeOf (Tryd.prog.elem 22)).run Tryd.prog w = .ok 1 w := by kernel_rfl
def I64 (n : Int) : Prop := -9223372036854775808 ≤ n ∧ n ≤ 9223372036854775807
/-- A map of numbers: how often each came. -/
def CtMap (w : World) (mb n : Nat) (f : Int → Nat) : Prop :=
  ∃ D : DataW Unit, w.ownsMap Tryd.prog 3 intR mb n D ∧ IsMap D ∧ ∀ p : Int, D.atKey (.int .i64 p) (.lit (.int .i64 0)) = .lit (.int .i64 (f p : Int))
theorem int_keyW : Keyed Tryd.prog 3 := int_keyed Tryd.underlying3
theorem key_intW (p : Int) (h : I64 p) : keyOf Tryd.prog 3 (.int .i64 p) = some (.int .i64 p) :=
  keyOf_int_mk Tryd.underlying3 (by unfold I64 at h; simp [Lit.wf, IntKind.min, IntKind.max, IntKind.signed, IntKind.bits]; omega)
theorem CtMap.made (w : World) : CtMap (w.alloc (.map #[] 0)) w.heap.size 0 (fun _ => 0) :=
  ⟨.map [], World.ownsMap_made _ _ _ _, isMap_empty, fun _ => rfl⟩
theorem CtMap.lt {w : World} {mb n : Nat} {f : Int → Nat} (h : CtMap w mb n f) : mb < w.heap.size := by
  obtain ⟨D, h1, _⟩ := h; exact h1.lt
theorem zero_int (w : World) : (zeroValue 3).run Tryd.prog w = .ok (.int .i64 0) w := by kernel_rfl
theorem CtMap.lookup {w : World} {mb n : Nat} {f : Int → Nat} (h : CtMap w mb n f) (p : Int) (hp : I64 p) :
    (Instr.lookup 99 (.map (some mb)) (.int .i64 p) false).run Tryd.prog w = .ok (.int .i64 (f p : Int)) w := by
  obtain ⟨D, h1, _, h3⟩ := h
  obtain ⟨v, ps, hr, hv⟩ := h1.lookup int_keyW Tryd.underlying99 (zero_int w) (show intR (.int .i64 0) = some (.lit (.int .i64 0), []) from rfl) (key_intW p hp)
  rw [h3] at hv
  rw [hr, intR_inv hv]
theorem CtMap.update {w : World} {mb n : Nat} {f : Int → Nat} (h : CtMap w mb n f) (p : Int) (hp : I64 p) (c : Nat) (hn : n ≤ 1000000) :
    ∃ w', (Instr.mapUpdate 99 (.map (some mb)) (.int .i64 p) (.int .i64 (c : Int))).run Tryd.prog w = .ok () w' ∧ CtMap w' mb (n + 1) (fun q => if q = p then c else f q) ∧ w.grownBy w' (some mb) := by
  obtain ⟨D, h1, h2, h3⟩ := h
  obtain ⟨w', hr, ho, hg⟩ := h1.update int_keyW Tryd.underlying99 (by unfold maxLen; omega) (key_intW p hp) (show intR (.int .i64 (c : Int)) = some (.lit (.int .i64 (c : Int)), []) from rfl)
  refine ⟨w', hr, ⟨_, ho, h2.put _ _, fun q => ?_⟩, hg⟩
  dsimp only
  by_cases hq : q = p
  · subst hq
    rw [atKey_put_same h2 (int_keyW.key (key_intW q hp)), if_pos rfl]
  · rw [atKey_put_other (by simp; omega), h3, if_neg hq]
/-- One more came. -/
theorem CtMap.inc {w : World} {mb n : Nat} {L : List Int} (h : CtMap w mb n (fun q => L.count q)) (p : Int) (hp : I64 p) (hn : n ≤ 1000000) :
    ∃ w', (Instr.mapUpdate 99 (.map (some mb)) (.int .i64 p) (.int .i64 ((L.count p : Int) + 1))).run Tryd.prog w = .ok () w' ∧ CtMap w' mb (n + 1) (fun q => (L ++ [p]).count q) ∧ w.grownBy w' (some mb) := by
  obtain ⟨w', h1, h2, h3⟩ := h.update p hp (L.count p + 1) hn
  refine ⟨w', by rw [← h1]; rfl, ?_, h3⟩
  have e : (fun q => if q = p then L.count p + 1 else L.count q) = fun q => (L ++ [p]).count q := by
    funext q
    rw [List.count_append]
    by_cases hq : q = p
    · subst hq; simp
    · rw [if_neg hq, List.count_eq_zero_of_not_mem (a := q) (l := [p]) (by simpa using hq)]; rfl
  rw [← e]; exact h2

def I64s (l : List Int) : Prop := ∀ n ∈ l, I64 n
theorem I64s.at {l : List Int} (h : I64s l) {i : Nat} (hi : i < l.length) : I64 (atI l i) := by
  unfold atI; rw [List.getElem?_eq_getElem hi]; exact h _ (List.getElem_mem hi)
theorem takeI (l : List Int) (i : Nat) (hi : i < l.length) : l.take (i + 1) = l.take i ++ [atI l i] := by
  rw [List.take_succ_eq_append_getElem hi]; simp [atI, hi]

set_option maxRecDepth 100000 in
set_option maxHeartbeats 2000000 in
theorem apart_any {w : World} {a a2 : Option Addr} {n cap m cap2 : Nat} {at_ l : List Int} (h1 : Row .i64 w a n cap at_) (h2 : Row .i64 w a2 m cap2 l) (i1 : I64s at_) (i2 : I64s l) (hn : n ≤ 100000) (hm : m ≤ 100000) :
    Calls Tryd.prog 24 #[.slice a n cap, .slice a2 m cap2] w fun e w' => e = .returned (.bool (aptB at_ l)) ∧ Below w.heap.size w w' := by
  obtain ⟨hl1, hc1, hm1⟩ := h1.lens
  obtain ⟨hl2, hc2, hm2⟩ := h2.lens
  have HL1 := Lib.hid hl1
  have HL2 := Lib.hid hl2
  have HR1 := Lib.hid h1
  have HR2 := Lib.hid h2
  have HS := Lib.hid (show CtMap (w.alloc (.map #[] 0)) w.heap.size 0 (fun q => (l.take 0).count q) from CtMap.made w)
  have HB := Lib.hid ((Below.refl w.heap.size w).alloc (Nat.le_refl _) (.map #[] 0))
  have hmm := @run_makeMap Tryd.prog
  clear hl1 hl2 h1 h2
  go_enter Tryd.func24, Tryd.ntmps24
  go_wp2
  clear hmm
  go_loopw [7, 13] (fun s7 s wr => ∃ i : Nat, i ≤ m ∧ s = .int .i64 i ∧ CtMap wr w.heap.size i (fun q => (l.take i).count q) ∧ Below w.heap.size w wr) (fun _ s _ => m - (intOf s).toNat)
  case atStart => exact ⟨0, Nat.zero_le _, rfl, HS.out, HB.out⟩
  case round =>
    obtain ⟨i, hi, rfl, hmap, hb⟩ := hrel
    by_cases hlt : i < m
    · obtain ⟨b, off, rfl, hbl, hcell⟩ := HR2.out.cellI hlt
      have c1 : wr.cell? ⟨b, off + i, none⟩ = _ := (hb.cell (p := ⟨b, off + i, none⟩) hbl).trans (hcell i hlt)
      have hx := i2.at (i := i) (by rw [HL2.out]; exact hlt)
      have ht := takeI l i (by rw [HL2.out]; exact hlt)
      have hlk := hmap.lookup _ hx
      obtain ⟨w2, hup, hmap2, hg⟩ := hmap.inc _ hx (by omega)
      have HM : Hid (CtMap w2 w.heap.size (i + 1) (fun q => (l.take (i + 1)).count q)) := Lib.hid (by rw [ht]; exact hmap2)
      have HB2 := Lib.hid (hb.grown hg hb.size (fun k e => by cases e; exact Nat.le_refl _))
      have hcnt : List.count (atI l i) (l.take i) ≤ 100000 := Nat.le_trans List.count_le_length (by simp; omega)
      clear hmap hmap2 hg hcell ht hb hbl
      generalize atI l i = x at *
      generalize List.count x (l.take i) = ct at *
      go_wp2_with fail
      go_roundw
      case rel => exact ⟨i + 1, hlt, by go_num, HM.out, HB2.out⟩
      case measure => simp [intOf]; omega
    · obtain rfl : i = m := by omega
      rw [List.take_of_length_le (by rw [HL2.out]; exact Nat.le_refl _)] at hmap
      have hmap : CtMap wr w.heap.size (i + 0) (fun q => (l ++ at_.take 0).count q) := by simpa using hmap
      have HM := Lib.hid hmap
      clear hmap HS HB
      go_wp2_with fail
      go_loopw [9, 24] (fun s9 s wr => ∃ j : Nat, j ≤ n ∧ s = .int .i64 j ∧ CtMap wr w.heap.size (i + j) (fun q => (l ++ at_.take j).count q) ∧ Below w.heap.size w wr ∧ ∀ k, k < j → aptAt at_ l k = true) (fun _ s _ => n - (intOf s).toNat)
      case atStart => exact ⟨0, Nat.zero_le _, rfl, HM.out, hb, fun k hk => by omega⟩
      case round =>
        clear HM hb
        obtain ⟨j, hj, rfl, hmap, hb, hall⟩ := hrel
        by_cases hlt : j < n
        · obtain ⟨b, off, rfl, hbl, hcell⟩ := HR1.out.cellI hlt
          have c1 : wr.cell? ⟨b, off + j, none⟩ = _ := (hb.cell (p := ⟨b, off + j, none⟩) hbl).trans (hcell j hlt)
          have hx := i1.at (i := j) (by rw [HL1.out]; exact hlt)
          have ht := takeI at_ j (by rw [HL1.out]; exact hlt)
          have hlk := hmap.lookup _ hx
          obtain ⟨w2, hup, hmap2, hg⟩ := hmap.inc _ hx (by omega)
          have hlk2 := hmap2.lookup _ hx
          have hdef := Lib.hid (show aptAt at_ l j = (pgB (atI at_ j) && !(l ++ at_.take j).contains (atI at_ j)) from rfl)
          have HM : Hid (CtMap w2 w.heap.size (i + (j + 1)) (fun q => (l ++ at_.take (j + 1)).count q)) := Lib.hid (by rw [ht, ← List.append_assoc]; exact hmap2)
          have HB2 := Lib.hid (hb.grown hg hb.size (fun k e => by cases e; exact Nat.le_refl _))
          have hcnt : List.count (atI at_ j) (l ++ at_.take j) ≤ 200000 := Nat.le_trans List.count_le_length (by simp [HL2.out]; omega)
          have hct2 : List.count (atI at_ j) ((l ++ at_.take j) ++ [atI at_ j]) = List.count (atI at_ j) (l ++ at_.take j) + 1 := by rw [List.count_append]; simp
          have hcm : (l ++ at_.take j).contains (atI at_ j) = decide (0 < List.count (atI at_ j) (l ++ at_.take j)) := by
            rw [Bool.eq_iff_iff, decide_eq_true_eq, List.count_pos_iff, List.contains_iff_mem]
          have HF : Hid (aptAt at_ l j = false → aptB at_ l = false) := Lib.hid (fun e => by
            rw [aptB, List.all_eq_false]
            exact ⟨j, by rw [List.mem_range, HL1.out]; exact hlt, by rw [e]; simp⟩)
          have HT : Hid (aptAt at_ l j = true → ∀ k, k < j + 1 → aptAt at_ l k = true) := Lib.hid (fun e k hk => by
            by_cases hkj : k = j
            · subst hkj; exact e
            · exact hall k (by omega))
          rw [hct2] at hlk2
          clear hmap hmap2 hg hcell ht hb hbl hct2 hall
          generalize atI at_ j = x at *
          generalize (l ++ at_.take j).contains x = cn at *
          generalize List.count x (l ++ at_.take j) = ct at *
          have HCM := Lib.hid hcm
          clear hcm
          go_wp2_with fail
          refine (lpage_any x w2).mono ?_
          rintro e w' ⟨rfl, rfl⟩
          cases hp : pgB x
          · have HP := Lib.hid hp
            clear hp
            go_wp2_with fail
            go_ret
            exact ⟨ret_bool (HF.out (hdef.out.trans (by rw [HP.out]; rfl))).symm, HB2.out⟩
          · have HP := Lib.hid hp
            clear hp
            by_cases h0 : 0 < ct
            · have d0 : decide ((1 : Int) < (ct : Int) + 1) = true := by simp; omega
              have d1 : decide ((1 : Int) < ((ct + 1 : Nat) : Int)) = true := by simp; omega
              go_wp2_with fail
              go_ret
              exact ⟨ret_bool (HF.out (hdef.out.trans (by rw [HP.out, HCM.out]; simp; omega))).symm, HB2.out⟩
            · have d0 : decide ((1 : Int) < (ct : Int) + 1) = false := by simp; omega
              have d1 : decide ((1 : Int) < ((ct + 1 : Nat) : Int)) = false := by simp; omega
              go_wp2_with fail
              go_roundw
              case rel => exact ⟨j + 1, hlt, by go_num, HM.out, HB2.out, HT.out (hdef.out.trans (by rw [HP.out, HCM.out]; simp; omega))⟩
              case measure => simp [intOf]; omega
        · obtain rfl : j = n := by omega
          have HB : Hid (aptB at_ l = true) := Lib.hid (by
            rw [aptB, List.all_eq_true]
            intro k hk
            rw [List.mem_range, HL1.out] at hk
            exact hall k hk)
          clear hall hmap
          go_wp2_with fail
          go_ret
          exact ⟨ret_bool HB.out.symm, hb⟩

set_option maxRecDepth 100000 in
set_option maxHeartbeats 1000000 in
theorem index_any {w : World} {a : Option Addr} {len cap : Nat} {l : List Int} (h : Row .i64 w a len cap l) (x : Int) :
    Calls Tryd.prog 51 #[.slice a len cap, .int .i64 x] w fun e w' => (∃ i : Int, e = .returned (.int .i64 i) ∧ (0 ≤ i ↔ x ∈ l)) ∧ w = w' := by
  obtain ⟨hl, hc, hm⟩ := h.lens
  have HL := Lib.hid hl
  have HR := Lib.hid h
  clear hl h
  go_enter Tryd.func51, Tryd.ntmps51
  go_wp2
  go_loop [5, 8] (fun s5 s => ∃ i : Nat, i ≤ len ∧ s = .int .i64 i ∧ ∀ j, j < i → atI l j ≠ x) (fun _ s => len - (intOf s).toNat)
  case atStart => exact ⟨0, Nat.zero_le _, rfl, fun j hj => by omega⟩
  case round =>
    obtain ⟨i, hi, rfl, hall⟩ := hrel
    by_cases hlt : i < len
    · obtain ⟨b, off, rfl, hb, hcell⟩ := HR.out.cellI hlt
      have c1 := hcell i hlt
      by_cases hx : atI l i = x
      · have HY : Hid (x ∈ l) := Lib.hid (by
          rw [← hx, atI, List.getElem?_eq_getElem (by rw [HL.out]; exact hlt)]
          exact List.getElem_mem _)
        rw [hx] at c1
        have e1 : (x == x) = true := by simp
        clear hcell hall hx
        go_wp2_with fail
        go_ret
        exact ⟨⟨_, rfl, ⟨fun _ => HY.out, fun _ => by omega⟩⟩, rfl⟩
      · have HN : Hid (∀ j, j < i + 1 → atI l j ≠ x) := Lib.hid (fun j hj => by
          by_cases hji : j = i
          · subst hji; exact hx
          · exact hall j (by omega))
        have e1 : (x == atI l i) = false := by simpa using fun e : x = atI l i => hx e.symm
        clear hcell hall hx
        generalize atI l i = y at *
        go_wp2_with fail
        go_round
        case rel => exact ⟨i + 1, hlt, by go_num, HN.out⟩
        case measure => simp [intOf]; omega
    · obtain rfl : i = len := by omega
      have HN : Hid (x ∉ l) := Lib.hid (fun hx => by
        obtain ⟨j, hj, e⟩ := List.getElem_of_mem hx
        exact hall j (by rw [← HL.out]; exact hj) (by rw [atI, List.getElem?_eq_getElem hj, e]; rfl))
      clear hall
      go_wp2_with fail
      go_ret
      exact ⟨⟨_, rfl, ⟨fun h => absurd h (by decide), fun h => absurd h HN.out⟩⟩, rfl⟩
theorem contains_any {w : World} {a : Option Addr} {len cap : Nat} {l : List Int} (h : Row .i64 w a len cap l) (x : Int) :
    Calls Tryd.prog 38 #[.slice a len cap, .int .i64 x] w fun e w' => e = .returned (.bool (decide (x ∈ l))) ∧ w = w' := by
  go_enter Tryd.func38, Tryd.ntmps38
  go_wp2_with fail
  refine (index_any h x).mono ?_
  rintro e w' ⟨⟨i, rfl, hi⟩, rfl⟩
  have HI := Lib.hid hi
  clear hi
  go_wp2_with fail
  go_ret
  exact ⟨ret_bool (decide_eq_decide.2 HI.out), rfl⟩
end Go.Proofs.YtopnfpobbemfbaaDoor

/- A round of a range over a function: what a region does outside of a round it does within one. -/
namespace Go.Proofs.YtopnfpobbemfbaaDoor
open Go.RowKit

/-- Q, but 'False' where the code is left in another way. -/
def Calm (Q : Exit → Act → World → Prop) : Exit → Act → World → Prop
  | .normal, a, w => Q .normal a w
  | _, _, _ => False
theorem Calm.out {Q : Exit → Act → World → Prop} : ∀ (e : Exit) (a : Act) (w : World), Calm Q e a w → Q e a w := fun e a w h => by
  cases e <;> first | exact h | exact (h : False).elim
theorem calm_letsOut {Q : Exit → Act → World → Prop} (h : LetsOut (Calm Q)) : False := by obtain ⟨a, w, h⟩ := h; exact h
section
variable {P : Program} {l n : Nat} {Q : Exit → Act → World → Prop}
theorem calls_round {f : FuncId} {args : Array Value} {w : World} {R : Ending → World → Prop} (h : Calls P f args w R) : CallsIn (Fence.wide.inRound l) n P f args w R := callsIn_wide.2 h
theorem upon_round {o : Oper} {a : Act} {next : Act → World → Prop} (r : Result Next) (h : o.upon P a next Q r) : o.uponIn (Fence.wide.inRound l) n P a next Q r := by
  cases r with
  | ok x w =>
    cases x with
    | value v => exact h
    | skip => exact h
    | defer d => exact h
    | enter f args => exact ⟨fun e => (by cases e), calls_round h⟩
    | row row args => exact ⟨fun e => (by cases e), fun c cs _ => let ⟨v, w', r, s⟩ := h c cs; ⟨v, w', r, stepsIn_wide.2 s⟩⟩
    | round => exact h.elim
    | _ => exact h
  | halt x w => cases x <;> exact h
theorem wpOps_round {ops : Array Oper} (hd : ∀ o ∈ ops, ∀ c, o.op ≠ .defer c) (hQ : LetsOut Q → False) : ∀ (L : List Nat) (a : Act) (w : World), wpOps P ops Q L a w → wpOpsIn (Fence.wide.inRound l) n P ops Q L a w := by
  intro L
  induction L with
  | nil => intro a w h; exact h
  | cons i L ih =>
    intro a w h
    simp only [wpOps] at h
    simp only [wpOpsIn]
    cases ho : ops[i]? with
    | none =>
      rw [ho] at h
      exact ih a w h
    | some o =>
      rw [ho] at h
      have hm : o ∈ ops := Array.mem_of_getElem? ho
      by_cases hw : Region.wanted o (yielded ops a.tmps) = true
      · simp only [hw, if_true] at h ⊢
        rcases h with h | ⟨_, h⟩
        · refine ⟨fun _ _ => trivial, ?_⟩
          rw [Oper.semAt_eq _ _ _ (hd o hm)]
          refine upon_round _ ?_
          exact Oper.wp_mono (P := P) (fun a w => ih a w) h
        · exact (hQ h).elim
      · simp only [hw] at h ⊢
        exact ⟨fun _ _ => trivial, ih _ _ h⟩
/-- No operation lays a call aside. -/
def noDefer (ops : Array Oper) : Bool := ops.all fun o => match o.op with | .defer _ => false | _ => true
theorem noDefer_out {ops : Array Oper} (h : noDefer ops = true) : ∀ o ∈ ops, ∀ c, o.op ≠ .defer c := by
  intro o ho c hc
  have := (Array.all_eq_true'.1 h) o ho
  rw [hc] at this
  cases this
theorem Calm.normal {Q : Exit → Act → World → Prop} {a : Act} {w : World} (h : Q .normal a w) : Calm Q .normal a w := h
theorem region_round_held {id : Nat} {ops : Array Oper} {S : World → Prop} {a : Act} {w : World} (hd : noDefer ops = true) (hm : P.follows .mixedOrders = true) (hS : S w.drew)
    (h : S w.drew → wpAnyH P .any ops (Calm Q) S ops.size (Array.replicate ops.size false) a w.drew) : (Code.region id ops true).wpIn (Fence.wide.inRound l) n P Q a w := by
  refine wpIn_mono ?_ Calm.out
  refine wpIn_region_draw fun t => ?_
  refine wpOps_round (noDefer_out hd) calm_letsOut _ _ _ ?_
  simp only [Region.schedule, hm, Bool.true_or, if_true]
  exact wpAny_sound ops.size t _ a _ (wpAny_of_held _ _ _ _ (h hS))
end

/-- A range over a function: the assignment and the body in one. -/
theorem wpIn_range_one {F : Fence} {n : Nat} {P : Program} {α : Type} {g : Operand} {ps : Array Tmp} {assign body : Code} {Q : Exit → Act → World → Prop} {a : Act} {w : World}
    (hro : F.round = none) (h1 : 1 ≤ n) {gf : Nat} {lb : Array Value} (hg : a.eval g = .func (.func gf) #[] lb) (hFg : F.fn gf) (eg : ∀ args w, (callFunc gf args).run P w = .ok (.enter gf args) w)
    {encs : α → Array Value} {Kp : World → World → Prop} {S Sp : List α → Prop} {N : Nat} {w0 : World} (hseq : SeqStopsK F (n - 1) P gf lb encs Kp S Sp N w0)
    (hKt : ∀ {A B C : World}, Kp A B → Kp B C → Kp A C) (hKb : ∀ (W : World) (l : Nat) (o o' : Obj), w.heap.size ≤ l → W.heap[l]? = some o → o.isCells = false → o.isWalk = false → Kp W (W.putObj l o')) (hKr : ∀ W, Kp W W) (hb0 : Below w0.heap.size w0 w) (hps : ∀ x, (encs x).size = ps.size)
    (I : List α → World → Prop) (Ix : Code → List α → World → Prop) (hI : OwnFrom w.heap.size I) (hIx : ∀ c, OwnFrom w.heap.size (Ix c)) (h0 : I [] w)
    (hround : ∀ (l : Nat) (x : α) (W : World) (K : Act → World → Prop), (∀ a', (∀ (l' : Nat) (pre : List α) (W' : World), I pre W' → pre.length < N → body.wpIn (F.inRound l') (n - 1 - 1) P (ownPostG w.heap.size Kp I Ix (pre ++ [x]) W') a' W') → K a' W) →
      assign.wpIn (F.inRound l) (n - 1 - 1) P (Exit.then K (fun _ _ _ => False)) { tmps := (ps.zip (encs x)).foldl (fun t (p, v) => t.setIfInBounds p v) a.tmps, defers := [] } W)
    (hdone : ∀ (D : Nat) (xs : List α) (W : World), w.heap.size ≤ D → S xs → I xs W → W.heap[D]? = some (.deferred (some [])) → Q .normal { a with defers := { target := .collected D, args := #[] } :: a.defers } W)
    (hstop : ∀ (D : Nat) (c : Code) (pre : List α) (W : World), w.heap.size ≤ D → Sp pre → Ix c pre W → W.heap[D]? = some (.deferred (some [])) → c.wpIn F n P Q { a with defers := { target := .collected D, args := #[] } :: a.defers } W) :
    (Code.rangeFunc g ps assign body).wpIn F n P Q a w :=
  wpIn_rangeFunc_ownH hro h1 hg hFg eg hseq (fun h k => hKt h k) hKb hb0 hps I Ix hI hIx h0
    (fun x a' _ => ∀ (l' : Nat) (pre : List α) (W' : World), I pre W' → pre.length < N → body.wpIn (F.inRound l') (n - 1 - 1) P (ownPostG w.heap.size Kp I Ix (pre ++ [x]) W') a' W')
    (fun _ _ _ _ _ _ hs _ _ => hs)
    (fun l _ x W K hi hK => hround l x W K (fun a' h => hK a' W (KeepsFrom.refl _ _) (hKr W) hi h))
    (fun l pre _ _ W _ _ hi hax hlt => hax l pre W hi hlt) hdone hstop
end Go.Proofs.YtopnfpobbemfbaaDoor

/- The iterator over the chunks of a row of bytes. -/
namespace Go.Proofs.YtopnfpobbemfbaaDoor
open Go.RowKit Go.Shelf
attribute [local go_sem] Oper.semAt_some

/-- The k-th chunk of a row of so many bytes. -/
def chunkV (b off L z : Nat) (k : Nat) : Value := .slice (some ⟨b, off + z * k, none⟩) (min z (L - z * k)) (min z (L - z * k))
def chunkN (L z : Nat) : Nat := (L + z - 1) / z
theorem chunkN_lt {L z k : Nat} (hz : 1 ≤ z) (h : k < chunkN L z) : z * k < L := by
  unfold chunkN at h
  have h1 := (Nat.le_div_iff_mul_le hz).1 (Nat.succ_le_of_lt h)
  rw [Nat.succ_mul, Nat.mul_comm k z] at h1
  omega
theorem chunkN_ge {L z k : Nat} (hz : 1 ≤ z) (h : z * k < L) : k < chunkN L z := by
  unfold chunkN
  refine (Nat.le_div_iff_mul_le hz).2 ?_
  rw [Nat.succ_mul, Nat.mul_comm k z]
  omega
/-- Boxes that a body leaves alone. -/
def KeepC (n₀ : Nat) (bs : List Nat) (A B : World) : Prop := Below n₀ A B ∧ ∀ k ∈ bs, ∀ o, A.heap[k]? = some o → o.isCells = true → B.heap[k]? = some o
theorem KeepC.refl (n₀ : Nat) (bs : List Nat) (A : World) : KeepC n₀ bs A A := ⟨Below.refl _ _, fun _ _ _ h _ => h⟩
theorem keepC_t {n₀ : Nat} {bs : List Nat} {A B C : World} (h : KeepC n₀ bs A B) (k : KeepC n₀ bs B C) : KeepC n₀ bs A C := ⟨h.1.trans k.1, fun i hi o ho hc => k.2 i hi o (h.2 i hi o ho hc) hc⟩
theorem KeepC.drewN {n₀ : Nat} {bs : List Nat} {A B : World} (h : KeepC n₀ bs A B) (m : Nat) : KeepC n₀ bs A (B.drewN m) := ⟨below_drewN h.1 m, h.2⟩
theorem keepC_b {n₀ : Nat} {bs : List Nat} {w : World} (hn : n₀ ≤ w.heap.size) (W : World) (l : Nat) (o o' : Obj) (hl : w.heap.size ≤ l) (h : W.heap[l]? = some o) (hc : o.isCells = false) (hw : o.isWalk = false) : KeepC n₀ bs W (W.putObj l o') := by
  refine ⟨belowK_b hn W l o o' hl h hc hw, fun k _ o2 ho hc2 => ?_⟩
  have hne : k ≠ l := by
    intro e; subst e
    rw [h] at ho; cases ho
    rw [hc] at hc2; cases hc2
  rw [World.putObj_heap_other (by omega)]; exact ho

theorem chunk_any (a : Option Addr) (L cap z : Nat) (w : World) (hz : 1 ≤ z) :
    Calls Tryd.prog 50 #[.slice a L cap, .int .i64 z] w fun e w' => e = .returned (.func (.func 59) #[] #[.pointer (some ⟨w.heap.size, 0, none⟩), .pointer (some ⟨w.heap.size + 1, 0, none⟩)]) ∧
      (w.alloc (.cells #[.slice a L cap] 32)).alloc (.cells #[.int .i64 z] 3) = w' := by
  have d0 : decide ((z : Int) < 1) = false := by simp; omega
  go_enter Tryd.func50, Tryd.ntmps50
  go_wp2
  go_ret
  exact ⟨rfl, rfl⟩

set_option maxRecDepth 100000 in
set_option maxHeartbeats 4000000 in
theorem chunk1_in (n : Nat) (hn : 1 ≤ n) (l' Bs Bz n₀ : Nat) (a : Option Addr) (b off L cap z : Nat) (ha : 0 < L → a = some ⟨b, off, none⟩) (hz : 1 ≤ z) (hz2 : z ≤ 100000) (hL : L ≤ cap) (hcap : L ≤ 1000000000) (J Jx : List (Fin (chunkN L z)) → World → Prop)
    (hY : ∀ pre x W, J pre W → pre.length < chunkN L z → YieldAt Fence.wide (n - 1) Tryd.prog l' #[chunkV b off L z x.1] W fun e W' =>
      (e = .returned (.bool true) ∧ J (pre ++ [x]) W' ∧ KeepC n₀ [Bs, Bz] W W') ∨ (e = .returned (.bool false) ∧ Jx (pre ++ [x]) W'))
    (W : World) (hBs : W.heap[Bs]? = some (.cells #[.slice a L cap] 32 (0, 0))) (hBz : W.heap[Bz]? = some (.cells #[.int .i64 z] 3 (0, 0))) (h0 : J [] W) (hJd : ∀ pre W m, J pre W → J pre (W.drewN m)) :
    CallsIn Fence.wide n Tryd.prog 59 #[.func (.yield l') #[] #[], .pointer (some ⟨Bs, 0, none⟩), .pointer (some ⟨Bz, 0, none⟩)] W fun e W' => (∃ v, e = .returned v) ∧
      ((∃ ys, ys.map Fin.val = List.range (chunkN L z) ∧ J ys W') ∨ (∃ pre, True ∧ Jx pre W')) := by
  refine callsIn_of_wp Tryd.func59 rfl trivial ?_ rfl
  simp only [Tryd.ntmps59, List.size_toArray, List.length_cons, List.length_nil, Nat.reduceAdd, Nat.reduceSub, Array.replicate_succ, Array.replicate_zero, List.push_toArray, List.append_toArray, List.nil_append, List.cons_append]
  have HBs := Lib.hid hBs
  have HBz := Lib.hid hBz
  clear hBs hBz
  gi_wp2
  gi_loopw [4, 5] (fun s4 s5 wr => ∃ (k : Nat) (pre : List (Fin (chunkN L z))), pre.map Fin.val = List.range k ∧ s4 = .int .i64 ((z * k : Nat) : Int) ∧ k ≤ chunkN L z ∧ J pre wr ∧ KeepC n₀ [Bs, Bz] W wr)
    (fun s4 _ _ => L + z - (intOf s4).toNat)
  case atStart => exact ⟨0, [], rfl, rfl, Nat.zero_le _, h0, KeepC.refl _ _ _⟩
  case round =>
    obtain ⟨k, pre, hpre, rfl, hk, hJ, hkc⟩ := hrel
    have hb1 := hkc.2 Bs (by simp) _ HBs.out rfl
    have hb2 := hkc.2 Bz (by simp) _ HBz.out rfl
    have c1 : wr.cell? ⟨Bs, 0, none⟩ = some (.slice a L cap) := by simp [World.cell?, hb1]
    have c2 : wr.cell? ⟨Bz, 0, none⟩ = some (.int .i64 z) := by simp [World.cell?, hb2]
    obtain ⟨p, hp⟩ : ∃ p, z * k = p := ⟨_, rfl⟩
    by_cases hlt : p < L
    · obtain rfl := ha (by omega)
      clear ha
      have hkN : k < chunkN L z := chunkN_ge hz (by omega)
      obtain ⟨e, he⟩ : ∃ e, min z (L - p) = e := ⟨_, rfl⟩
      have hif1 : (if L - p < z then ((L - p : Nat) : Int) else (z : Int)) = (e : Int) := by split <;> omega
      obtain ⟨sa, hsa, hsub⟩ := sub_run elem_bytes size_bytes (some ⟨b, off, none⟩) L cap p (p + e) (p + e) (by omega) (by omega) (by omega)
      have hsub2 : ∀ W, (Instr.slice 32 (.slice (some ⟨b, off, none⟩) L cap) (some (.int .i64 (p : Int))) (some (.int .i64 ((p : Int) + (e : Int)))) (some (.int .i64 ((p : Int) + (e : Int))))).run Tryd.prog W = .ok (.slice (some ⟨b, off + p, none⟩) e e) W := fun W => by
        have h1 := hsub .i64 .i64 .i64 W
        rw [show p + e - p = e by omega, hsa, if_neg (by omega)] at h1
        simpa [add_none] using h1
      have hcv : chunkV b off L z k = .slice (some ⟨b, off + p, none⟩) e e := by rw [chunkV, hp, he]
      have hpz : z * (k + 1) = p + z := by rw [Nat.mul_succ, hp]
      have HPZ := Lib.hid hpz
      have HPR : Hid ((pre ++ [(⟨k, hkN⟩ : Fin (chunkN L z))]).map Fin.val = List.range (k + 1)) := Lib.hid (by rw [List.map_append, hpre, List.range_succ]; rfl)
      have HPL : Hid (pre.length < chunkN L z) := Lib.hid (by
        have := congrArg List.length hpre
        simp at this; omega)
      have HCV := Lib.hid hcv
      have hpe : p + e ≤ 1000000000 := by omega
      have hpz1 : p + z ≤ 1000200000 := by omega
      clear hpz hsa hcv he hpre hb1 hb2 hsub
      rw [hp]
      clear hp
      gi_wp2
      refine wpIn_wide.2 ?_
      go_quiet (fail)
      obtain ⟨fn, tmps, assign, body, hy, hR⟩ := hY pre ⟨k, hkN⟩ (wr.drewN nq) (hJd _ _ _ hJ) HPL.out
      rw [HCV.out] at hy
      clear hif1
      gi_wp2
      refine hR.mono ?_
      rintro e W3 (⟨rfl, hJ3, hk3⟩ | ⟨rfl, hJx3⟩)
      · have hk4 := keepC_t (hkc.drewN nq) hk3
        have hb3 := hk4.2 Bz (by simp) _ HBz.out rfl
        have c3 : W3.cell? ⟨Bz, 0, none⟩ = some (.int .i64 z) := by simp [World.cell?, hb3]
        clear hb3
        gi_wp2
        go_roundw
        case rel => exact ⟨k + 1, _, HPR.out, by rw [HPZ.out]; go_num, hkN, hJ3, hk4⟩
        case measure => simp [intOf]; omega
      · gi_wp2
        refine bodyPost_ret (results_none rfl _ _ _) rfl ?_
        exact ⟨⟨_, rfl⟩, .inr ⟨_, trivial, hJx3⟩⟩
    · have hkN : k = chunkN L z := by
        by_cases h : k < chunkN L z
        · have := chunkN_lt hz h; omega
        · omega
      subst hkN
      rw [hp]
      clear hp hkc
      have HPR := Lib.hid hpre
      clear hpre
      gi_wp2
      go_end0
      exact ⟨⟨_, rfl⟩, .inl ⟨_, HPR.out, hJ⟩⟩

theorem chunk_stops (n : Nat) (hn : 1 ≤ n) (Bs Bz n₀ : Nat) (a : Option Addr) (b off L cap z : Nat) (ha : 0 < L → a = some ⟨b, off, none⟩) (hz : 1 ≤ z) (hz2 : z ≤ 100000) (hL : L ≤ cap) (hcap : L ≤ 1000000000) (w : World)
    (hBs : w.heap[Bs]? = some (.cells #[.slice a L cap] 32 (0, 0))) (hBz : w.heap[Bz]? = some (.cells #[.int .i64 z] 3 (0, 0))) :
    SeqStopsK Fence.wide n Tryd.prog 59 #[.pointer (some ⟨Bs, 0, none⟩), .pointer (some ⟨Bz, 0, none⟩)] (fun x : Fin (chunkN L z) => #[chunkV b off L z x.1]) (KeepC n₀ [Bs, Bz])
      (fun ys => ys.map Fin.val = List.range (chunkN L z)) (fun _ => True) (chunkN L z) w := fun l' J Jx W hW hA _ hY h0 => by
  have h1 := (hW.block Bs (Array.getElem?_eq_some_iff.1 hBs).1).trans hBs
  have h2 := (hW.block Bz (Array.getElem?_eq_some_iff.1 hBz).1).trans hBz
  exact chunk1_in n hn l' Bs Bz n₀ a b off L cap z ha hz hz2 hL hcap J Jx (fun pre x W1 g1 g2 => hY pre x W1 g1 g2) W h1 h2 h0 (fun pre X m hX => hA pre X (X.drewN m) none hX ⟨rfl, rfl, rfl, Nat.le_refl _, fun _ _ _ => rfl⟩ (fun r e => by cases e))
end Go.Proofs.YtopnfpobbemfbaaDoor
