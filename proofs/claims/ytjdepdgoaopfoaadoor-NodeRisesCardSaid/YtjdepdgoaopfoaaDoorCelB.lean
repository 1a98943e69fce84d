/- Plain laws of pages: what is packed is unpacked. -/
import Derived.Test.YtjdepdgoaopfoaaDoorCelU
import Derived.Test.YtjdepdgoaopfoaaDoorOctB
namespace Go.Proofs.YtjdepdgoaopfoaaDoor

theorem slotsOf_get (l : List (List UInt8)) (i e : Nat) (h : i < l.length) : (slotsOf e l)[i]? = some (UInt8.ofNat (e - lens (l.take (i + 1)))) := by
  induction l generalizing i e with
  | nil => simp at h
  | cons c r ih =>
    match i with
    | 0 => simp [slotsOf, lens]
    | i + 1 =>
      have := ih i (e - c.length) (by simpa using h)
      simp only [slotsOf, List.getElem?_cons_succ, this, List.take_succ_cons]
      congr 2
      simp [lens, Nat.sub_sub]

theorem pageOf_five' (kind : UInt8) (c : List (List UInt8)) : (pageOf kind c)[5]? = some (UInt8.ofNat c.length) := by
  rw [pageOf, List.getElem?_append_right (by rw [beBytes_length]; omega), beBytes_length]; rfl

theorem page_kind (kind : UInt8) (l : List (List UInt8)) (_hfit : l.length + lens l ≤ 122) : kindS (pageOf kind l) = kind := by
  rw [kindS, pageOf, List.getElem?_append_right (by rw [beBytes_length]; omega), beBytes_length]; rfl
theorem page_num (kind : UInt8) (l : List (List UInt8)) (hfit : l.length + lens l ≤ 122) : numS (pageOf kind l) = l.length := by
  rw [numS, pageOf_five' kind l]
  simp; omega
theorem page_slot (kind : UInt8) (l : List (List UInt8)) (_hfit : l.length + lens l ≤ 122) (i : Nat) (h : i < l.length) : slotS (pageOf kind l) i = 128 - lens (l.take (i + 1)) := by
  have hl := lens_take_le l (i + 1)
  have e : (pageOf kind l)[6 + i]? = some (UInt8.ofNat (128 - lens (l.take (i + 1)))) := by
    rw [pageOf, List.getElem?_append_right (by rw [beBytes_length]; omega), beBytes_length, show 6 + i - 4 = i + 2 by omega, bodyOf]
    simp only [List.getElem?_cons_succ]
    rw [List.getElem?_append_left (by rw [slotsOf_length]; exact h), slotsOf_get l i 128 h]
  rw [slotS, e]
  simp; omega
theorem page_end (kind : UInt8) (l : List (List UInt8)) (hfit : l.length + lens l ≤ 122) (i : Nat) (h : i ≤ l.length) : endS (pageOf kind l) i = 128 - lens (l.take i) := by
  match i with
  | 0 => simp [endS, lens]
  | i + 1 => exact page_slot kind l hfit i h
theorem page_ok (kind : UInt8) (l : List (List UInt8)) (hfit : l.length + lens l ≤ 122) : okS (pageOf kind l) l.length = true := by
  rw [okS, List.all_eq_true]
  intro i hi
  rw [List.mem_range] at hi
  rw [decide_eq_true_eq, page_slot kind l hfit i hi, page_end kind l hfit i (by omega), lens_take_succ l i hi]
  omega
theorem page_cell (kind : UInt8) (l : List (List UInt8)) (hfit : l.length + lens l ≤ 122) (i : Nat) (h : i < l.length) : cellS (pageOf kind l) i = l[i] := by
  have h1 := page_slot kind l hfit i h
  have h2 := page_end kind l hfit i (by omega)
  have hle := lens_take_le l (i + 1)
  have hs := lens_take_succ l i h
  have hg : l[i]?.getD [] = l[i] := by rw [List.getElem?_eq_getElem h]; rfl
  rw [hg] at hs
  have hsplit : backOf l = backOf (l.drop (i + 1)) ++ (l[i] ++ backOf (l.take i)) := by
    have e : l = l.take i ++ ([l[i]] ++ l.drop (i + 1)) := by simp
    conv => lhs; rw [e]
    rw [backOf_append, backOf_append, backOf_one, List.append_assoc]
  have hlen : lens l = lens (l.take (i + 1)) + lens (l.drop (i + 1)) := by rw [← lens_append, List.take_append_drop]
  have hp : pageOf kind l = (beBytes (crcOf (bodyOf kind l.length l)) 4 ++ (kind :: UInt8.ofNat l.length :: (slotsOf 128 l ++ (List.replicate (122 - l.length - lens l) 0 ++ backOf (l.drop (i + 1)))))) ++ (l[i] ++ backOf (l.take i)) := by
    rw [pageOf]
    conv => lhs; arg 2; rw [bodyOf, hsplit]
    simp [List.append_assoc]
  rw [cellS, h1, h2, hp]
  have hlen2 : (beBytes (crcOf (bodyOf kind l.length l)) 4 ++ (kind :: UInt8.ofNat l.length :: (slotsOf 128 l ++ (List.replicate (122 - l.length - lens l) 0 ++ backOf (l.drop (i + 1)))))).length = 128 - lens (l.take (i + 1)) := by
    simp only [List.length_append, List.length_cons, beBytes_length, slotsOf_length, List.length_replicate, backOf_length]
    omega
  rw [← hlen2, List.drop_left, hlen2]
  have : 128 - lens (l.take i) - (128 - lens (l.take (i + 1))) = l[i].length := by omega
  rw [this, List.take_left]
theorem page_cut (kind : UInt8) (l : List (List UInt8)) (hfit : l.length + lens l ≤ 122) : cutS (pageOf kind l) l.length = l := by
  apply List.ext_getElem
  · simp [cutS]
  · intro i h1 h2
    simp only [cutS, List.getElem_map, List.getElem_range]
    exact page_cell kind l hfit i h2

/-- What is packed is unpacked. -/
theorem page_back (kind : UInt8) (l : List (List UInt8)) (h : fits kind l = true) : unpE (pageOf kind l) = 0 ∧ unpK (pageOf kind l) = kind ∧ unpL (pageOf kind l) = l := by
  have hfit : l.length + lens l ≤ 122 := by
    simp only [fits, Bool.and_eq_true, decide_eq_true_eq] at h; exact h.2
  have hlen := pageOf_length kind l hfit
  have hn := page_num kind l hfit
  have hk := page_kind kind l hfit
  have hmin : min l.length 122 = l.length := Nat.min_eq_left (by omega)
  have hc := page_cut kind l hfit
  have hB : unpB (pageOf kind l) = true := by
    rw [unpB, hn, hk, hmin, hc, page_ok kind l hfit, h]; simp
  have hsum : beVal ((pageOf kind l).take 4) = crcOf ((pageOf kind l).drop 4) := by
    have e1 : (pageOf kind l).take 4 = beBytes (crcOf (bodyOf kind l.length l)) 4 := by
      rw [pageOf, List.take_append_of_le_length (by rw [beBytes_length]; omega), List.take_of_length_le (by rw [beBytes_length]; omega)]
    have e2 : (pageOf kind l).drop 4 = bodyOf kind l.length l := by
      rw [pageOf]
      have := List.drop_left (l₁ := beBytes (crcOf (bodyOf kind l.length l)) 4) (l₂ := bodyOf kind l.length l)
      rwa [beBytes_length] at this
    have hx := crcOn_lt 0 (bodyOf kind l.length l)
    rw [e1, e2, beVal_beBytes, Nat.mod_eq_of_lt (by exact hx)]
  have hE : unpE (pageOf kind l) = 0 := by
    rw [unpE, if_neg (by omega), if_neg (by simpa using hsum), if_pos hB]
  refine ⟨hE, ?_, ?_⟩
  · rw [unpK, hE, hk]; rfl
  · rw [unpL, hE, hn, hmin, hc]; rfl
end Go.Proofs.YtjdepdgoaopfoaaDoor
