/- A branch of which a kid was spoiled: what mending it, and its top, ask: plain. -/
import Derived.Test.YtemfnjlfcemehaaTreSoq
namespace Go.Proofs.Ytemfnjlfcemehaa

/-- A kid that is fine. -/
def Fine (B n : Nat) (c : List UInt8 × Tr) : Prop := c.1.length ≤ 200 ∧ Fit B n c.2 ∧ Pos n c.2
theorem Fit.more {B C : Nat} (h : B ≤ C) : ∀ {n : Nat} {t : Tr}, Fit B n t → Fit C n t
  | 0, _, _ => trivial
  | _ + 1, .leaf _ l, g => ⟨Nat.le_trans g.1 h, g.2⟩
  | n + 1, .node _ l, g => ⟨Nat.le_trans g.1 h, fun c hc => ⟨(g.2 c hc).1, Fit.more h (g.2 c hc).2⟩⟩
theorem part_fine {B n : Nat} {t : Tr} (h : Fit B (n + 1) t) (hp : Pos (n + 1) t) {at_ : Nat} (h1 : 0 < at_) (h2 : at_ < cntT t) :
    Fit B (n + 1) (partT at_ t).1 ∧ Pos (n + 1) (partT at_ t).1 ∧ Fit B (n + 1) (partT at_ t).2.1 ∧ Pos (n + 1) (partT at_ t).2.1 ∧ (partT at_ t).2.2.length ≤ 200 := by
  cases t with
  | leaf p l =>
    have h2 : at_ < l.length := h2
    refine ⟨⟨by have := h.1; simp [partT]; omega, fun c hc => h.2 c (List.mem_of_mem_take hc)⟩, trivial, ⟨by have := h.1; simp; omega, fun c hc => h.2 c (List.mem_of_mem_drop hc)⟩, trivial, ?_⟩
    show (keyAt l at_).length ≤ 200
    have := (h.2 _ (List.getElem_mem h2)).1
    simpa [keyAt, h2] using this
  | node p l =>
    have h2 : at_ < l.length := h2
    have hf : (firstK [] (l.drop at_)).length = l.length - at_ := by
      have : (l.drop at_).length = l.length - at_ := by simp
      rw [← this]
      cases l.drop at_ <;> rfl
    have hm : ∀ c ∈ firstK [] (l.drop at_), ∃ d ∈ l, c.2 = d.2 ∧ (c.1 = [] ∨ c.1 = d.1) := by
      intro c hc
      cases hd : l.drop at_ with
      | nil => rw [hd] at hc; cases hc
      | cons d r =>
        rw [hd] at hc
        have hsub : ∀ e ∈ d :: r, e ∈ l := fun e he => List.mem_of_mem_drop (by rw [hd]; exact he)
        rcases List.mem_cons.1 hc with rfl | hc
        · exact ⟨d, hsub d (by simp), rfl, .inl rfl⟩
        · exact ⟨c, hsub c (List.mem_cons_of_mem _ hc), rfl, .inr rfl⟩
    refine ⟨⟨by have := h.1; show (l.take at_).length ≤ B; simp; omega, fun c hc => h.2 c (List.mem_of_mem_take hc)⟩, ⟨by show 0 < (l.take at_).length; simp; omega, fun c hc => hp.2 c (List.mem_of_mem_take hc)⟩, ⟨by have := h.1; show (firstK [] (l.drop at_)).length ≤ B; rw [hf]; omega, fun c hc => ?_⟩, ⟨by show 0 < (firstK [] (l.drop at_)).length; rw [hf]; omega, fun c hc => ?_⟩, ?_⟩
    · obtain ⟨d, hd, e1, e2⟩ := hm c hc
      rw [e1]
      refine ⟨?_, (h.2 d hd).2⟩
      rcases e2 with e2 | e2
      · rw [e2]; simp
      · rw [e2]; exact (h.2 d hd).1
    · obtain ⟨d, hd, e1, _⟩ := hm c hc
      rw [e1]; exact hp.2 d hd
    · show (keyAt l at_).length ≤ 200
      have := (h.2 _ (List.getElem_mem h2)).1
      simpa [keyAt, h2] using this
theorem at_range {t : Tr} {n : Nat} (h : Bnd (n + 1) t) (ha : atF (sizesT t) ≠ 0) : 0 < (atF (sizesT t)).toNat ∧ (atF (sizesT t)).toNat < cntT t := by
  rcases atF_cases h.small with ⟨e, _⟩ | ⟨_, A, g1, g2, g3, _⟩
  · exact absurd e ha
  · rw [g3]
    have e : (sizesT t).length = cntT t := sizes_len t
    constructor <;> simp <;> omega
theorem split_fine {B n : Nat} (hB : B ≤ 1000) {l m : List (List UInt8 × Tr)} {k : Nat} (hk : k < l.length) (h : ∀ c ∈ l, Fine B (n + 1) c) (hs : splitT l k = some m) : (∀ c ∈ m, Fine B (n + 1) c) ∧ 0 < m.length ∧ m.length ≤ l.length + 1 := by
  have hkid : Fine B (n + 1) (l[k]) := h _ (List.getElem_mem hk)
  have e1 : kidAt l k = l[k].2 := by simp [kidAt, hk]
  have e2 : keyAt l k = l[k].1 := by simp [keyAt, hk]
  unfold splitT at hs
  by_cases ha : atF (sizesT (kidAt l k)) = 0
  · rw [if_pos ha] at hs; cases hs
  · rw [if_neg ha] at hs
    cases hs
    rw [e1] at ha ⊢
    obtain ⟨g1, g2⟩ := at_range (n := n) (Fit.bnd hB hkid.2.1) ha
    obtain ⟨p1, p2, p3, p4, p5⟩ := part_fine hkid.2.1 hkid.2.2 g1 g2
    refine ⟨fun c hc => ?_, by simp; omega, by simp; omega⟩
    rcases List.mem_append.1 hc with hc | hc
    · exact h c (List.mem_of_mem_take hc)
    · rcases List.mem_cons.1 hc with rfl | hc
      · exact ⟨by rw [e2]; exact hkid.1, p1, p2⟩
      · rcases List.mem_cons.1 hc with rfl | hc
        · exact ⟨p5, p3, p4⟩
        · exact h c (List.mem_of_mem_drop hc)
theorem join_fine {B n : Nat} {key : List UInt8} {x y : Tr} (hx : Fit B (n + 1) x) (hy : Fit B (n + 1) y) (px : Pos (n + 1) x) (py : Pos (n + 1) y) (hk : key.length ≤ 200) : Fit (2 * B) (n + 1) (joinT key x y) ∧ Pos (n + 1) (joinT key x y) := by
  cases x with
  | leaf p l =>
    cases y with
    | leaf q m =>
      refine ⟨⟨by have := hx.1; have := hy.1; simp; omega, fun c hc => ?_⟩, trivial⟩
      rcases List.mem_append.1 hc with hc | hc
      · exact hx.2 c hc
      · exact hy.2 c hc
    | node q m => exact ⟨hx.more (by omega), px⟩
  | node p l =>
    cases y with
    | leaf q m => exact ⟨hx.more (by omega), px⟩
    | node q m =>
      have e : (firstK key m).length = m.length := by cases m <;> rfl
      have hm : ∀ c ∈ firstK key m, ∃ d ∈ m, c.2 = d.2 ∧ (c.1 = key ∨ c.1 = d.1) := by
        intro c hc
        cases m with
        | nil => cases hc
        | cons d r =>
          rcases List.mem_cons.1 hc with rfl | hc
          · exact ⟨d, by simp, rfl, .inl rfl⟩
          · exact ⟨c, List.mem_cons_of_mem _ hc, rfl, .inr rfl⟩
      refine ⟨⟨by have := hx.1; have := hy.1; show (l ++ firstK key m).length ≤ _; rw [List.length_append, e]; omega, fun c hc => ?_⟩, ⟨by have := px.1; show 0 < (l ++ firstK key m).length; rw [List.length_append]; omega, fun c hc => ?_⟩⟩
      · rcases List.mem_append.1 hc with hc | hc
        · exact ⟨(hx.2 c hc).1, Fit.more (by omega) (hx.2 c hc).2⟩
        · obtain ⟨d, hd, e1, e2⟩ := hm c hc
          rw [e1]
          refine ⟨?_, Fit.more (by omega) (hy.2 d hd).2⟩
          rcases e2 with e2 | e2
          · rw [e2]; exact hk
          · rw [e2]; exact (hy.2 d hd).1
      · rcases List.mem_append.1 hc with hc | hc
        · exact px.2 c hc
        · obtain ⟨d, hd, e1, _⟩ := hm c hc
          rw [e1]; exact py.2 d hd
theorem Fine.more {B C n : Nat} (h : B ≤ C) {c : List UInt8 × Tr} (g : Fine B n c) : Fine C n c := ⟨g.1, g.2.1.more h, g.2.2⟩
/-- What mending leaves. -/
theorem mend_fine {B n : Nat} (hB : 2 * B ≤ 1000) {p : Int} {l : List (List UInt8 × Tr)} {k : Nat} (hk : k < l.length) (hl : l.length ≤ 2 * B - 1) (h : ∀ c ∈ l, Fine B (n + 1) c) : Fit (2 * B) (n + 2) (mendT p l k) ∧ Pos (n + 2) (mendT p l k) := by
  have mk : ∀ {q : Int} {m : List (List UInt8 × Tr)}, (∀ c ∈ m, Fine (2 * B) (n + 1) c) → 0 < m.length → m.length ≤ 2 * B → Fit (2 * B) (n + 2) (.node q m) ∧ Pos (n + 2) (.node q m) := fun h0 h1 h2 => ⟨⟨h2, fun c hc => ⟨(h0 c hc).1, (h0 c hc).2.1⟩⟩, ⟨h1, fun c hc => (h0 c hc).2.2⟩⟩
  have h9 : ∀ c ∈ l, Fine (2 * B) (n + 1) c := fun c hc => (h c hc).more (by omega)
  unfold mendT
  cases hs : splitT l k with
  | some m =>
    obtain ⟨g1, g2, g3⟩ := split_fine (by omega) hk h hs
    exact mk (fun c hc => (g1 c hc).more (by omega)) g2 (by omega)
  | none =>
    simp only
    by_cases hlow : lowT (kidAt l k) = false ∨ l.length < 2
    · rw [if_pos hlow]
      exact mk h9 (by omega) (by omega)
    · rw [if_neg hlow]
      have hj : joinAt l.length k + 1 < l.length := by
        unfold joinAt
        split <;> omega
      obtain ⟨a, c, d, r, rfl, haj⟩ := list_two hj
      rw [← haj]
      have ej := joined_right a r c d
      have hc : Fine B (n + 1) c := h c (by simp)
      have hd : Fine B (n + 1) d := h d (by simp)
      obtain ⟨q1, q2⟩ := join_fine (key := d.1) hc.2.1 hd.2.1 hc.2.2 hd.2.2 hd.1
      have hJ : ∀ x ∈ joined (a ++ c :: d :: r) a.length, Fine (2 * B) (n + 1) x := by
        rw [ej]
        intro x hx
        rcases List.mem_append.1 hx with hx | hx
        · exact h9 x (by simp [hx])
        · rcases List.mem_cons.1 hx with rfl | hx
          · exact ⟨hc.1, q1, q2⟩
          · exact h9 x (by simp [hx])
      have hJl : (joined (a ++ c :: d :: r) a.length).length + 1 = (a ++ c :: d :: r).length := by rw [ej]; simp; omega
      have hJk : a.length < (joined (a ++ c :: d :: r) a.length).length := by rw [ej]; simp
      cases hs2 : splitT (joined (a ++ c :: d :: r) a.length) a.length with
      | some m =>
        obtain ⟨g1, g2, g3⟩ := split_fine hB hJk hJ hs2
        exact mk g1 g2 (by omega)
      | none => exact mk hJ (by omega) (by omega)
end Go.Proofs.Ytemfnjlfcemehaa
