/- Trees of which a node was spoiled: plain. -/
import Derived.Test.YtemfnjlfcemehaaM7
namespace Go.Proofs.Ytemfnjlfcemehaa

/-- How often a cell stands there. -/
def tmsF (kind : Int) (at_ i : Nat) : Nat := if i = at_ ∧ kind = 2 then 0 else if i = at_ ∧ kind = 3 then 2 else 1
def spV (kind : Int) (key : List UInt8) (at_ i : Nat) (c : List UInt8 × Tv) : List UInt8 × Tv := if i = at_ ∧ kind = 0 then (key, c.2) else if i = at_ ∧ kind = 1 then (c.1, ⟨key ++ c.2.data, c.2.pages⟩) else c
def ownData : List UInt8 := [97, 32, 118, 97, 108, 117, 101, 32, 111, 102, 32, 105, 116, 115, 32, 111, 119, 110]
/-- A leaf of its own. -/
def ownKid : Tr := .leaf 0 [([109], ⟨ownData, []⟩)]
theorem ownKid_put : putW 1 (.leaf 0 []) [109] ⟨ownData, []⟩ = ownKid := by
  have h : atF (sizesT (.leaf 0 [([109], ⟨ownData, []⟩)])) = 0 := by decide +kernel
  have e : putW 1 (.leaf 0 []) [109] ⟨ownData, []⟩ = (if atF (sizesT (.leaf 0 [([109], ⟨ownData, []⟩)])) = 0 then .leaf 0 [([109], ⟨ownData, []⟩)] else mendT 0 [([], .leaf 0 [([109], ⟨ownData, []⟩)])] 0) := rfl
  rw [e, if_pos h]; rfl
def spK (kind : Int) (key : List UInt8) (at_ i : Nat) (c : List UInt8 × Tr) : List UInt8 × Tr := if i = at_ ∧ kind = 0 then (key, c.2) else if i = at_ ∧ kind = 4 then (c.1, ownKid) else c
/-- Cells, each so often, each as it is to be. -/
def spTo {α : Type} (tm : Nat → Nat) (f : Nat → α → α) (l : List α) : Nat → List α
  | 0 => []
  | i + 1 => spTo tm f l i ++ (match l[i]? with | none => [] | some c => List.replicate (tm i) (f i c))
theorem spTo_succ {α : Type} (tm : Nat → Nat) (f : Nat → α → α) {l : List α} {i : Nat} {c : α} (h : l[i]? = some c) : spTo tm f l (i + 1) = spTo tm f l i ++ List.replicate (tm i) (f i c) := by
  show _ ++ (match l[i]? with | none => [] | some c => List.replicate (tm i) (f i c)) = _
  rw [h]
theorem spTo_map {α β : Type} (g : α → β) {tm : Nat → Nat} {f : Nat → α → α} {f' : Nat → β → β} (h : ∀ i c, g (f i c) = f' i (g c)) (l : List α) : ∀ i, (spTo tm f l i).map g = spTo tm f' (l.map g) i
  | 0 => rfl
  | i + 1 => by
    show (spTo tm f l i ++ _).map g = spTo tm f' (l.map g) i ++ _
    rw [List.map_append, spTo_map g h l i, List.getElem?_map]
    cases l[i]? with
    | none => rfl
    | some c => simp [h]
theorem spTo_mem {α : Type} {tm : Nat → Nat} {f : Nat → α → α} {l : List α} : ∀ {i : Nat} {d : α}, d ∈ spTo tm f l i → ∃ j c, j < i ∧ c ∈ l ∧ d = f j c
  | 0, _, h => by cases h
  | i + 1, d, h => by
    rcases List.mem_append.1 h with h | h
    · obtain ⟨j, c, h1, h2, h3⟩ := spTo_mem h
      exact ⟨j, c, by omega, h2, h3⟩
    · cases hc : l[i]? with
      | none => rw [hc] at h; cases h
      | some c =>
        rw [hc] at h
        exact ⟨i, c, by omega, List.mem_of_getElem? hc, (List.mem_replicate.1 h).2⟩
theorem tms_le (kind : Int) (at_ i : Nat) : tmsF kind at_ i ≤ 2 := by unfold tmsF; split <;> (try split) <;> omega
theorem spTo_len {α : Type} (kind : Int) (at_ : Nat) (f : Nat → α → α) (l : List α) : ∀ i, (spTo (tmsF kind at_) f l i).length ≤ i + (if at_ < i then 1 else 0)
  | 0 => by simp [spTo]
  | i + 1 => by
    have ih := spTo_len kind at_ f l i
    show (spTo (tmsF kind at_) f l i ++ _).length ≤ _
    rw [List.length_append]
    cases l[i]? with
    | none => simp only [List.length_nil]; split at ih <;> split <;> omega
    | some c =>
      simp only [List.length_replicate]
      by_cases e : i = at_
      · subst e
        have := tms_le kind i i
        rw [if_neg (by omega)] at ih
        rw [if_pos (by omega)]
        omega
      · have : tmsF kind at_ i = 1 := by unfold tmsF; rw [if_neg (fun h => e h.1), if_neg (fun h => e h.1)]
        rw [this]
        split at ih <;> split <;> omega
theorem spTo_ge {α : Type} (kind : Int) (at_ : Nat) (f : Nat → α → α) (l : List α) : ∀ i, i ≤ l.length → i ≤ (spTo (tmsF kind at_) f l i).length + (if at_ < i then 1 else 0)
  | 0, _ => by omega
  | i + 1, hi => by
    have ih := spTo_ge kind at_ f l i (by omega)
    have hc : l[i]? = some l[i] := List.getElem?_eq_getElem (by omega)
    rw [spTo_succ _ _ hc, List.length_append, List.length_replicate]
    by_cases e : i = at_
    · subst e
      rw [if_neg (by omega)] at ih
      rw [if_pos (by omega)]
      omega
    · have : tmsF kind at_ i = 1 := by unfold tmsF; rw [if_neg (fun h => e h.1), if_neg (fun h => e h.1)]
      rw [this]
      split at ih <;> split <;> omega
/-- A tree of which a node is other. -/
def spoilT : Nat → List UInt8 → Int → Nat → List UInt8 → Tr → Tr
  | 0, _, _, _, _, t => t
  | _ + 1, _, kind, a, key, .leaf p l => if l.length = 0 then .leaf p l else .leaf (if kind = 5 then (a : Int) else p) (spTo (tmsF kind (a % l.length)) (spV kind key (a % l.length)) l l.length)
  | _ + 1, [], kind, a, key, .node p l => if l.length = 0 then .node p l else .node (if kind = 5 then (a : Int) else p) (spTo (tmsF kind (a % l.length)) (spK kind key (a % l.length)) l l.length)
  | n + 1, x :: way, kind, a, key, .node p l => if l.length = 0 then .node p l else .node p (l.set (x.toNat % l.length) (keyAt l (x.toNat % l.length), spoilT n way kind a key (kidAt l (x.toNat % l.length))))
theorem spoil_kind (n : Nat) (way : List UInt8) (kind : Int) (a : Nat) (key : List UInt8) (t : Tr) : (spoilT n way kind a key t).isLeaf = t.isLeaf := by
  cases n with
  | zero => rfl
  | succ n =>
    cases t with
    | leaf p l => unfold spoilT; split <;> rfl
    | node p l => cases way <;> (unfold spoilT; split <;> rfl)
/-- What spoiling asks of a tree. -/
def Sml : Nat → Tr → Prop
  | 0, _ => True
  | _ + 1, .leaf _ l => l.length ≤ 100 ∧ ∀ c ∈ l, c.1.length ≤ 100 ∧ c.2.data.length ≤ 500
  | n + 1, .node _ l => l.length ≤ 100 ∧ ∀ c ∈ l, c.1.length ≤ 100 ∧ Sml n c.2
/-- A node of at most so many cells. -/
def Fit (B : Nat) : Nat → Tr → Prop
  | 0, _ => True
  | _ + 1, .leaf _ l => l.length ≤ B ∧ ∀ c ∈ l, c.1.length ≤ 200 ∧ c.2.data.length ≤ 1000
  | n + 1, .node _ l => l.length ≤ B ∧ ∀ c ∈ l, c.1.length ≤ 200 ∧ Fit B n c.2
theorem Fit.bnd {B : Nat} (hB : B ≤ 1000) : ∀ {n : Nat} {t : Tr}, Fit B n t → Bnd n t
  | 0, _, _ => trivial
  | _ + 1, .leaf _ l, h => ⟨by have := h.1; omega, h.2⟩
  | n + 1, .node _ l, h => ⟨by have := h.1; omega, fun c hc => ⟨(h.2 c hc).1, Fit.bnd hB (h.2 c hc).2⟩⟩
theorem Fit.cnt {B : Nat} {n : Nat} {t : Tr} (h : Fit B (n + 1) t) : cntT t ≤ B := by
  cases t with
  | leaf p l => exact h.1
  | node p l => exact h.1
theorem Sml.fit : ∀ {n : Nat} {t : Tr}, Sml n t → Fit 101 n t
  | 0, _, _ => trivial
  | _ + 1, .leaf _ l, h => ⟨by have := h.1; omega, fun c hc => by have := h.2 c hc; omega⟩
  | n + 1, .node _ l, h => ⟨by have := h.1; omega, fun c hc => ⟨by have := (h.2 c hc).1; omega, Sml.fit (h.2 c hc).2⟩⟩
theorem ownKid_fit : ∀ n, Fit 101 n ownKid
  | 0 => trivial
  | _ + 1 => ⟨by simp, fun c hc => by
    rw [List.mem_singleton] at hc
    subst hc
    exact ⟨by simp, by simp [ownData]⟩⟩
theorem spoil_fit : ∀ {n : Nat} (way : List UInt8) (kind : Int) (a : Nat) {key : List UInt8} {t : Tr}, Sml n t → key.length ≤ 100 → Fit 101 n (spoilT n way kind a key t)
  | 0, _, _, _, _, _, _, _ => trivial
  | n + 1, way, kind, a, key, .leaf p l, h, hk => by
    unfold spoilT
    split
    · exact h.fit
    · rename_i hl
      have hlt : a % l.length < l.length := Nat.mod_lt _ (by omega)
      refine ⟨?_, fun d hd => ?_⟩
      · have := spTo_len kind (a % l.length) (spV kind key (a % l.length)) l l.length
        have := h.1
        rw [if_pos hlt] at *
        omega
      · obtain ⟨j, c, _, hc, rfl⟩ := spTo_mem hd
        have := h.2 c hc
        unfold spV
        split
        · exact ⟨by show key.length ≤ _; omega, by show c.2.data.length ≤ _; omega⟩
        · split
          · exact ⟨by show c.1.length ≤ _; omega, by show (key ++ c.2.data).length ≤ _; rw [List.length_append]; omega⟩
          · exact ⟨by omega, by omega⟩
  | n + 1, [], kind, a, key, .node p l, h, hk => by
    unfold spoilT
    split
    · exact h.fit
    · rename_i hl
      have hlt : a % l.length < l.length := Nat.mod_lt _ (by omega)
      refine ⟨?_, fun d hd => ?_⟩
      · have := spTo_len kind (a % l.length) (spK kind key (a % l.length)) l l.length
        have := h.1
        rw [if_pos hlt] at *
        omega
      · obtain ⟨j, c, _, hc, rfl⟩ := spTo_mem hd
        have h2 := h.2 c hc
        unfold spK
        split
        · exact ⟨by show key.length ≤ _; omega, h2.2.fit⟩
        · split
          · exact ⟨by have := h2.1; show c.1.length ≤ _; omega, ownKid_fit _⟩
          · exact ⟨by have := h2.1; omega, h2.2.fit⟩
  | n + 1, x :: way, kind, a, key, .node p l, h, hk => by
    unfold spoilT
    split
    · exact h.fit
    · rename_i hl
      have hlt : x.toNat % l.length < l.length := Nat.mod_lt _ (by omega)
      have hm : l[x.toNat % l.length] ∈ l := List.getElem_mem hlt
      have e1 : keyAt l (x.toNat % l.length) = l[x.toNat % l.length].1 := by simp [keyAt, hlt]
      have e2 : kidAt l (x.toNat % l.length) = l[x.toNat % l.length].2 := by simp [kidAt, hlt]
      refine ⟨by rw [List.length_set]; have := h.1; omega, fun d hd => ?_⟩
      rcases List.mem_or_eq_of_mem_set hd with hd | rfl
      · exact ⟨by have := (h.2 d hd).1; omega, (h.2 d hd).2.fit⟩
      · rw [e1, e2]
        exact ⟨by have := (h.2 _ hm).1; show l[x.toNat % l.length].1.length ≤ _; omega, spoil_fit way kind a (h.2 _ hm).2 hk⟩
theorem shape_sml : ∀ {n : Nat} {lo hi : List UInt8} {t : Tr}, Shape n lo hi t → sumT t ≤ 200 → Sml n t
  | 0, _, _, _, h, _ => h.elim
  | n + 1, lo, hi, .leaf p l, h, hs => by
    have hc := shape_cnt h hs
    obtain ⟨rfl, hl⟩ := h
    have : l.length ≤ 50 := hc
    refine ⟨by omega, fun c hm => ?_⟩
    obtain ⟨h1, _, _, h2⟩ := hl.2 c hm
    have := h1.2
    have := h2.1
    omega
  | n + 1, lo, hi, .node p l, h, hs => by
    have hc := shape_cnt h hs
    obtain ⟨h1, h0⟩ := shape_kids h
    have : l.length ≤ 50 := hc
    refine ⟨by omega, fun c hm => ⟨by have := kid_keys h1 h0 c hm; omega, ?_⟩⟩
    obtain ⟨lo', hi', g⟩ := kids_each h1 c hm
    exact shape_sml g.1 (by have := g.2.2; omega)
theorem Whole.sml {n : Nat} {t : Tr} (h : Whole n t) : Sml n t := shape_sml h.1.1 (by have := h.1.2.1; omega)
/-- Each branch has a kid. -/
def Pos : Nat → Tr → Prop
  | 0, _ => False
  | _ + 1, .leaf _ _ => True
  | n + 1, .node _ l => 0 < l.length ∧ ∀ c ∈ l, Pos n c.2
theorem Pos.some {n : Nat} {t : Tr} (h : Pos n t) (hl : t.isLeaf = false) : 0 < cntT t := by
  cases n with
  | zero => exact h.elim
  | succ n => cases t with
    | leaf p l => cases hl
    | node p l => exact h.1
theorem topOk_pos : ∀ {n : Nat} {t : Tr}, Bnd n t → Pos n t → TopOk n t
  | 0, _, _, h => h.elim
  | n + 1, t, hb, hp => by
    refine ⟨hb, hp.some, fun p l e h1 => ?_⟩
    subst e
    obtain ⟨c, rfl⟩ := List.length_eq_one_iff.1 h1
    have hb2 := (hb.2 c (by simp)).2
    have hp2 := hp.2 c (by simp)
    simpa [kidAt] using topOk_pos hb2 hp2
theorem shape_pos : ∀ {n : Nat} {lo hi : List UInt8} {t : Tr}, Shape n lo hi t → Pos n t
  | 0, _, _, _, h => h.elim
  | n + 1, lo, hi, .leaf p l, _ => trivial
  | n + 1, lo, hi, .node p l, h => by
    obtain ⟨h1, h0⟩ := shape_kids h
    refine ⟨List.length_pos_iff.2 (kids_ne h1), fun c hm => ?_⟩
    obtain ⟨lo', hi', g⟩ := kids_each h1 c hm
    exact shape_pos g.1
end Go.Proofs.Ytemfnjlfcemehaa
