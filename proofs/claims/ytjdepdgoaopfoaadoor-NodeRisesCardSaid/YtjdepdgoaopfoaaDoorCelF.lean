/- The walks of the chapter on pages of cells: rows cut and appended. -/
import Derived.Test.YtjdepdgoaopfoaaDoorCelU
namespace Go.Proofs.YtjdepdgoaopfoaaDoor
open Go.RowKit Go.Deep

theorem TabR.take {α : Type} {sz : Nat} {R : List Value → α → Prop} {w : World} {a : Option Addr} {len cap : Nat} {l : List α} (j : Nat) (hj : j ≤ len) (h : TabR sz R w a len cap l) : TabR sz R w a j cap (l.take j) := by
  obtain ⟨h1, h2, h3, hn, h4⟩ := h
  refine ⟨by simp; omega, by omega, h3, hn, ?_⟩
  rcases h4 with h4 | ⟨b, off, h5, h6, h7⟩
  · exact .inl (by omega)
  · refine .inr ⟨b, off, h5, h6, fun i y hy => h7 i y ?_⟩
    have hi : i < j := by have := (List.getElem?_eq_some_iff.1 hy).1; simp at this; omega
    rwa [List.getElem?_take_of_lt hi] at hy
theorem TabR.drop {α : Type} {sz : Nat} {R : List Value → α → Prop} {w : World} {a : Option Addr} {len cap : Nat} {l : List α} (j : Nat) (hj : j ≤ len) (h : TabR sz R w a len cap l) :
    TabR sz R w (if cap = j then a else a.map (·.add (j * sz))) (len - j) (cap - j) (l.drop j) := by
  obtain ⟨h1, h2, h3, hn, h4⟩ := h
  refine ⟨by simp; omega, by omega, by omega, (fun h => by
    have : cap = 0 := by
      by_cases e : cap = j
      · rw [if_pos e] at h; exact hn h
      · rw [if_neg e] at h; exact hn (by simpa using h)
    omega), ?_⟩
  rcases h4 with h4 | ⟨b, off, rfl, h6, h7⟩
  · exact .inl (by omega)
  · by_cases e : cap = j
    · exact .inl (by omega)
    · refine .inr ⟨b, off + j * sz, by rw [if_neg e]; simp [add_none], h6, fun i y hy => ?_⟩
      rw [List.getElem?_drop] at hy
      obtain ⟨cs, c1, c2, c3⟩ := h7 (j + i) y hy
      refine ⟨cs, c1, c2, fun k v hv => ?_⟩
      rw [← c3 k v hv]
      congr 2
      rw [Nat.add_mul]; omega
theorem Bss.len {w : World} {a : Option Addr} {len cap : Nat} {l : List (List UInt8)} (h : Bss w a len cap l) : l.length = len := h.1

/-- A slice of one-celled elements and its cells. -/
def Vals (w : World) (a : Option Addr) (len cap : Nat) (vs : List Value) : Prop :=
  vs.length = len ∧ len ≤ cap ∧ cap ≤ maxLen ∧ (a = none → cap = 0) ∧ (len = 0 ∨ ∃ b off, a = some ⟨b, off, none⟩ ∧ b < w.heap.size ∧ ∀ i u, vs[i]? = some u → w.cell? ⟨b, off + i, none⟩ = some u)
theorem Vals.below {w w' : World} {a : Option Addr} {len cap : Nat} {vs : List Value} {B : Nat} (hB : w.heap.size ≤ B) (hb : Below B w w') (h : Vals w a len cap vs) : Vals w' a len cap vs := by
  obtain ⟨h1, h2, h3, hn, h4⟩ := h
  refine ⟨h1, h2, h3, hn, h4.imp id fun ⟨b, off, h5, h6, h7⟩ => ⟨b, off, h5, by have := hb.size; omega, fun i u hu => (hb.cell (p := ⟨b, off + i, none⟩) (by simp; omega)).trans (h7 i u hu)⟩⟩
/-- The values of a slice of slices of bytes. -/
theorem Bss.vals {w : World} {a : Option Addr} {len cap : Nat} {l : List (List UInt8)} (h : Bss w a len cap l) :
    ∃ vs, Vals w a len cap vs ∧ (∀ u ∈ vs, u.oneCell' = true) ∧ ∀ (i : Nat) (c : List UInt8), l[i]? = some c → ∃ a n cp, vs[i]? = some (.slice a n cp) ∧ Bs w a n cp c := by
  have hl := h.1
  by_cases h0 : len = 0
  · subst h0
    obtain rfl : l = [] := List.eq_nil_of_length_eq_zero hl
    exact ⟨[], ⟨rfl, h.2.1, h.2.2.1, h.2.2.2.1, .inl rfl⟩, fun u hu => by simp at hu, fun i c hc => by simp at hc⟩
  · have each : ∀ i, i < len → ∃ q : Option Addr × Nat × Nat, Bs w q.1 q.2.1 q.2.2 (l[i]?.getD []) ∧ ∀ b off, a = some ⟨b, off, none⟩ → w.cell? ⟨b, off + i, none⟩ = some (.slice q.1 q.2.1 q.2.2) := by
      intro i hi
      obtain ⟨b, off, a', n', cap', e1, _, e3, e4⟩ := h.at hi
      exact ⟨(a', n', cap'), e4, fun b2 off2 e => by rw [e1] at e; cases e; exact e3⟩
    obtain ⟨q0, _, _⟩ := each 0 (by omega)
    haveI : Inhabited (Option Addr × Nat × Nat) := ⟨q0⟩
    obtain ⟨q, hq⟩ := choose_lt each
    obtain ⟨b, off, a0, n0, c0, e1, hb, _, _⟩ := h.at (k := 0) (by omega)
    refine ⟨(List.range len).map fun i => .slice (q i).1 (q i).2.1 (q i).2.2, ⟨by simp, h.2.1, h.2.2.1, h.2.2.2.1, .inr ⟨b, off, e1, hb, fun i u hu => ?_⟩⟩, fun u hu => ?_, fun i c hc => ?_⟩
    · have hi : i < len := by have := (List.getElem?_eq_some_iff.1 hu).1; simpa using this
      simp [hi] at hu
      rw [← hu]; exact (hq i hi).2 b off e1
    · obtain ⟨i, _, rfl⟩ := List.mem_map.1 hu; rfl
    · have hi : i < len := by rw [← hl]; exact (List.getElem?_eq_some_iff.1 hc).1
      refine ⟨_, _, _, by simp [hi]; exact ⟨rfl, rfl, rfl⟩, ?_⟩
      have := (hq i hi).1
      rwa [hc] at this
theorem bss_of_own {w : World} {base : Nat} {v : Value} {n : Nat} {l : List (List UInt8)} {vs : List Value} (h : w.ownsRow base 26 1 v n vs) (hl : l.length = n)
    (h4 : ∀ (i : Nat) (c : List UInt8), l[i]? = some c → ∃ a n cp, vs[i]? = some (.slice a n cp) ∧ Bs w a n cp c) : ∃ a cap, v = .slice a n cap ∧ Bss w a n cap l := by
  obtain ⟨h1, h2⟩ := h
  simp only [Nat.mul_one] at h1
  rcases h2 with ⟨rfl, h0⟩ | ⟨g, cap, cur, rfl, hb, hg, hn, hm, hc, ht⟩
  · rw [h0]
    exact ⟨none, 0, rfl, by omega, Nat.le_refl _, by unfold maxLen; omega, fun _ => rfl, .inl rfl⟩
  · refine ⟨_, cap, rfl, hl, hn, hm, (fun h => by cases h), .inr ⟨g, 0, rfl, (Array.getElem?_eq_some_iff.1 hg).1, fun i y hy => ?_⟩⟩
    obtain ⟨a, n2, cp, e1, hbs⟩ := h4 i y hy
    refine ⟨[.slice a n2 cp], rfl, ⟨a, _, cp, rfl, hbs⟩, fun j x hx => ?_⟩
    have hi := (List.getElem?_eq_some_iff.1 hy).1
    match j, hx with
    | 0, hx =>
      cases hx
      simp only [World.cell?, hg, Nat.zero_add, Nat.mul_one, Nat.add_zero]
      have e : (cur.toList.take (n * 1))[i]? = cur.toList[i]? := List.getElem?_take_of_lt (by omega)
      rw [ht] at e
      rw [← Array.getElem?_toList, ← e]
      exact e1
    | j + 1, hx => simp at hx

/-- 'append' to a row of the call's own, of what any slice of one-celled elements holds. -/
theorem wpList_append_vals {P : Program} {w : World} {ops : Array Oper} {rest : List Oper} {o : Oper} {act : Act} {Q : Exit → Act → World → Prop} (hgd : o.guard = none) (s x : Operand) (t : TypeId)
    (ho : o.op = .call { callee := .builtin .append, args := #[s, x], argTypes := #[t, t] })
    (base : Nat) (e : TypeId) (i : TypeInfo) (z : Value) (bytes : Nat) (ht : P.underlying t = some (.slice e)) (hi : P.info? e = some i) (hz : i.zero = some z)
    (hsize : i.size = 1) (hby : i.bytes = bytes) (hzs : z.cells.size = 1)
    (v : Value) (n : Nat) (xs : List Value) (hs : act.eval s = v) (hown : w.ownsRow base e 1 v n xs)
    (a : Option Addr) (m c : Nat) (vs : List Value) (hx : act.eval x = .slice a m c) (hrow : Vals w a m c vs) (h1c : ∀ u ∈ vs, u.oneCell' = true)
    (h63 : n + m ≤ maxLen) (hbytes : (n + m) * bytes ≤ 140737488355328) (hbase : base ≤ w.heap.size)
    (h : ∀ v' w', w'.ownsRow base e 1 v' (n + m) (xs ++ vs) → w.grownBy w' v.ownBlock → wpList P ops Q rest (act.put o.dst v') w') : wpList P ops Q (o :: rest) act w := by
  obtain ⟨h1, h2, h3, hn, h4⟩ := hrow
  cases a with
  | none =>
    have hc := hn rfl
    have hm : m = 0 := by omega
    subst hc hm
    obtain rfl : vs = [] := List.eq_nil_of_length_eq_zero h1
    exact wpList_append_own_none hgd s x t ho base e i 1 ht hi v n xs hs hown hx (h v w (by simpa using hown) ⟨rfl, rfl, rfl, Nat.le_refl _, fun _ _ _ => rfl⟩)
  | some ad =>
    refine wpList_append_own w hgd s x t ho base e i z 1 bytes ht hi hz hsize hby hzs (by decide) v n xs hs hown ad m c vs hx (by simp [h1]) ?_ h1c h63 hbytes hbase fun v' w' h5 h6 _ => h v' w' h5 h6
    intro j u hj
    have hjl := (List.getElem?_eq_some_iff.1 hj).1
    rcases h4 with h4 | ⟨b, off, h5, h6, h7⟩
    · omega
    · cases h5
      rw [add_none, h7 j u hj]
end Go.Proofs.YtjdepdgoaopfoaaDoor
