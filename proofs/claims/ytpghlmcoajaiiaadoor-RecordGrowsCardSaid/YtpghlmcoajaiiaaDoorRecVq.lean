/- Records that grow, one behind the other: plain. -/
import Derived.Test.YtpghlmcoajaiiaaDoorM12
import Derived.Test.YtpghlmcoajaiiaaDoorRecKq
import Derived.Test.YtpghlmcoajaiiaaDoorM8
namespace Go.Proofs.YtpghlmcoajaiiaaDoor

/-- A record that fits. -/
def fitRc (r : RcD) : Prop := r.bucket.length ≤ 20 ∧ r.key.length ≤ 20 ∧ 0 ≤ r.actor ∧ r.actor ≤ 255 ∧ 0 ≤ r.from_ ∧ r.from_ ≤ 255 ∧ 0 ≤ r.to_ ∧ r.to_ ≤ 255
theorem u64w_fit {x : Int} (h0 : 0 ≤ x) (h1 : x ≤ 255) : ((((u64w x).toNat % 256 : Nat)) : Int) = x := by
  obtain ⟨k, rfl⟩ : ∃ k : Nat, x = (k : Int) := ⟨x.toNat, by omega⟩
  rw [u64w_nat k (by omega), Int.toNat_natCast]
  omega
theorem fit_back {r : RcD} (h : fitRc r) (hd : r.digest < 4294967296) : getRE (rcB r) = 0 ∧ getR (rcB r) = r := by
  obtain ⟨h1, h2, h3, h4, h5, h6, h7, h8⟩ := h
  have g := get_put r hd
  refine ⟨g.1, g.2.trans ?_⟩
  rw [u64w_fit h3 h4, u64w_fit h5 h6, u64w_fit h7 h8, List.take_of_length_le (by omega), List.take_of_length_le (by omega)]
theorem keyB_length (n : Int) : (keyB n).length = 8 := by
  unfold keyB numF
  rw [if_neg (by omega)]
  exact beBytes_length _ _
/-- The entries of so many records. -/
def recE (l : List RcD) (k : Nat) : List UInt8 × Tv := (keyB (k : Int), ⟨rcB ((l[k]?).getD zeroRc), []⟩)
def recsE (l : List RcD) (i : Nat) : List (List UInt8 × Tv) := (List.range i).map (recE l)
theorem recsE_len (l : List RcD) (i : Nat) : (recsE l i).length = i := by unfold recsE; simp
theorem recsE_keys (l : List RcD) (i : Nat) : keysOf (recsE l i) = (List.range i).map (fun k : Nat => keyB (k : Int)) := by
  unfold recsE keysOf
  rw [List.map_map]; rfl
theorem recsE_succ (l : List RcD) {i : Nat} {r : RcD} (h : l[i]? = some r) (h9 : i < 100000) : putL (keyB (i : Int)) ⟨rcB r, []⟩ (recsE l i) = recsE l (i + 1) := by
  have e : recsE l (i + 1) = recsE l i ++ [recE l i] := by unfold recsE; rw [List.range_succ, List.map_append]; rfl
  have h1 := putL_ahead (key := keyB (i : Int)) (v := ⟨rcB r, []⟩) (B := []) (A := recsE l i) (fun c hc => by
    unfold recsE at hc
    obtain ⟨k, hk, rfl⟩ := List.mem_map.1 hc
    exact keyB_lt (m := k) (n := i) (by simpa using hk) (by omega))
  rw [List.append_nil] at h1
  rw [h1, e]
  unfold recE
  rw [h]; rfl
theorem keyB_nlt {m n : Nat} (h : n ≤ m) (hm : m < 100000) : ¬ keyB (m : Int) < keyB (n : Int) := by
  rcases Nat.lt_or_eq_of_le h with h | rfl
  · exact klt_asymm (keyB_lt h (by omega))
  · exact klt_irrefl _
theorem recsE_pos (l : List RcD) (f n : Nat) (hf : f < 100000) (hn : n < 100000) : posK (keyB (f : Int)) (keysOf (recsE l n)) = min f n := by
  rw [recsE_keys]
  refine posK_eq (by simp; omega) (fun j hj => ?_) (fun hj => ?_)
  · rw [List.getElem?_map, List.getElem?_range (by omega)]
    show keyB (j : Int) < keyB (f : Int)
    exact keyB_lt (by omega) (by omega)
  · simp at hj
    rw [List.getElem?_map, List.getElem?_range (by omega)]
    show ¬ keyB ((min f n : Nat) : Int) < keyB (f : Int)
    exact keyB_nlt (by omega) (by omega)
/-- What is listed. -/
def wantL (l : List RcD) (f m : Nat) : List RcD := (l.drop f).take m
theorem recsE_data (l : List RcD) : (recsE l l.length).map (·.2.data) = l.map rcB := by
  unfold recsE
  rw [List.map_map]
  refine List.ext_getElem? fun i => ?_
  by_cases hi : i < l.length
  · rw [List.getElem?_map, List.getElem?_range hi, List.getElem?_map, List.getElem?_eq_getElem hi]
    show some (rcB ((l[i]?).getD zeroRc)) = _
    rw [List.getElem?_eq_getElem hi]; rfl
  · rw [List.getElem?_eq_none (by simp; omega), List.getElem?_eq_none (by simp; omega)]
theorem drop_min {α : Type} (L : List α) (f : Nat) : L.drop (min f L.length) = L.drop f := by
  rcases Nat.le_total f L.length with h | h
  · rw [Nat.min_eq_left h]
  · rw [Nat.min_eq_right h, List.drop_of_length_le (Nat.le_refl _), List.drop_of_length_le h]
theorem datas_want (l : List RcD) (f m : Nat) : datas (((recsE l l.length).drop (min f l.length)).take m) = (wantL l f m).map rcB := by
  have h := drop_min l f
  unfold datas wantL
  rw [List.map_take, List.map_drop, recsE_data, ← List.map_drop, h, List.map_take]
theorem back_err (L : List RcD) (hm : ∀ r ∈ L, fitRc r ∧ r.digest < 4294967296) : errL (L.map rcB) = 0 := by
  refine errL_all fun d hd => ?_
  obtain ⟨r, hr, e⟩ := List.mem_map.1 hd
  rw [← e]
  exact (fit_back (hm r hr).1 (hm r hr).2).1
theorem back_get : ∀ (L : List RcD), (∀ r ∈ L, fitRc r ∧ r.digest < 4294967296) → (L.map rcB).map getR = L
  | [], _ => rfl
  | r :: L, hm => by
    rw [List.map_cons, List.map_cons, back_get L (fun x hx => hm x (List.mem_cons_of_mem _ hx)), (fit_back (hm r List.mem_cons_self).1 (hm r List.mem_cons_self).2).2]
theorem back_rec (L : List RcD) (hm : ∀ r ∈ L, fitRc r ∧ r.digest < 4294967296) : recL (L.map rcB) = L := by
  have he := back_err L hm
  have hg := back_get L hm
  generalize L.map rcB = D at he hg
  unfold recL
  rw [if_pos he, hg]
theorem listed (l : List RcD) (f m : Nat) (h : ∀ r ∈ l, fitRc r ∧ r.digest < 4294967296) : errL (datas (((recsE l l.length).drop (min f l.length)).take m)) = 0 ∧ recL (datas (((recsE l l.length).drop (min f l.length)).take m)) = wantL l f m := by
  have hm : ∀ r ∈ wantL l f m, fitRc r ∧ r.digest < 4294967296 := fun r hr => h r (List.mem_of_mem_drop (List.mem_of_mem_take hr))
  rw [datas_want]
  exact ⟨back_err _ hm, back_rec _ hm⟩
theorem wantL_len (l : List RcD) (f m : Nat) : (wantL l f m).length = min (l.length - f) m := by unfold wantL; simp; omega
theorem wantL_at (l : List RcD) (f m : Nat) {i : Nat} (hi : i < (wantL l f m).length) : (wantL l f m)[i]? = l[f + i]? := by
  rw [wantL_len] at hi
  unfold wantL
  rw [List.getElem?_take_of_lt (by omega), List.getElem?_drop]
end Go.Proofs.YtpghlmcoajaiiaaDoor
