/- A disk in memory: which blocks it has; what a change in some blocks leaves. -/
import Derived.Test.YtopnfpobbemfbaaDskSpec
import Derived.Test.YtopnfpobbemfbaaHeld
namespace Go.Proofs.Ytopnfpobbemfbaa
open Go.RowKit

/-- Nothing that was there has turned but these blocks. -/
def Only (S : List Nat) (w w' : World) : Prop := w'.os = w.os ∧ w'.tape = w.tape ∧ w'.output = w.output ∧ w.heap.size ≤ w'.heap.size ∧ ∀ k, k < w.heap.size → k ∉ S → w'.heap[k]? = w.heap[k]?
theorem Only.size {S : List Nat} {w w' : World} (h : Only S w w') : w.heap.size ≤ w'.heap.size := h.2.2.2.1
theorem Only.block {S : List Nat} {w w' : World} (h : Only S w w') {k : Nat} (hk : k < w.heap.size) (hS : k ∉ S) : w'.heap[k]? = w.heap[k]? := h.2.2.2.2 k hk hS
theorem Only.refl (S : List Nat) (w : World) : Only S w w := ⟨rfl, rfl, rfl, Nat.le_refl _, fun _ _ _ => rfl⟩
theorem Only.of_below {S : List Nat} {w w' : World} (h : Below w.heap.size w w') : Only S w w' := ⟨h.os, h.tape, h.output, h.size, fun k hk _ => h.block k hk⟩
theorem Only.of_grown {S : List Nat} {w w' : World} {row : Option Nat} (h : w.grownBy w' row) (hr : ∀ k, row = some k → k ∈ S ∨ w.heap.size ≤ k) : Only S w w' :=
  ⟨h.os, h.tape, h.output, h.size, fun k hk hS => h.block k hk (fun e => (hr k e.symm).elim hS (fun h => by omega))⟩
theorem Only.trans {S : List Nat} {a b c : World} (h : Only S a b) (k : Only S b c) : Only S a c :=
  ⟨k.1.trans h.1, k.2.1.trans h.2.1, k.2.2.1.trans h.2.2.1, Nat.le_trans h.size k.size, fun _ hi hS => (k.block (Nat.lt_of_lt_of_le hi h.size) hS).trans (h.block hi hS)⟩
/-- What comes second may turn what is new. -/
theorem Only.then {S S' : List Nat} {a b c : World} (h : Only S a b) (k : Only S' b c) (hs : ∀ i ∈ S', i ∈ S ∨ a.heap.size ≤ i) : Only S a c :=
  ⟨k.1.trans h.1, k.2.1.trans h.2.1, k.2.2.1.trans h.2.2.1, Nat.le_trans h.size k.size, fun i hi hS => (k.block (Nat.lt_of_lt_of_le hi h.size) (fun e => (hs i e).elim hS (fun h => by omega))).trans (h.block hi hS)⟩
theorem Only.mono {S S' : List Nat} {w w' : World} (h : Only S w w') (hs : ∀ k ∈ S, k ∈ S') : Only S' w w' := ⟨h.1, h.2.1, h.2.2.1, h.size, fun _ hk hS => h.block hk (fun e => hS (hs _ e))⟩
theorem Only.set {S : List Nat} {w w' : World} (h : Only S w w') (a : Addr) (u : Value) (ha : a.block ∈ S) : Only S w (w'.setCell a u) :=
  ⟨h.1, h.2.1, h.2.2.1, by simpa [World.setCell] using h.size, fun k hk hS => (Below.heap_setCell w' a u k (fun e => hS (by rw [e]; exact ha))).trans (h.block hk hS)⟩
theorem Only.drew {S : List Nat} {w w' : World} (h : Only S w w') : Only S w w'.drew := h
theorem Only.below {S : List Nat} {w w' : World} (h : Only S w w') {B : Nat} (hB : B ≤ w.heap.size) (hS : ∀ k ∈ S, B ≤ k) : Below B w w' :=
  ⟨h.1, h.2.1, h.2.2.1, h.size, fun k hk => h.block (by omega) (fun e => by have := hS k e; omega)⟩
theorem Boxes.only {S : List Nat} {w w' : World} {l : List (Nat × List Value)} (h : Boxes w l) (ho : Only S w w') (hS : ∀ p ∈ l, p.1 ∉ S) : Boxes w' l := by
  intro p hp
  obtain ⟨t, ht⟩ := h p hp
  exact ⟨t, (ho.block (Array.getElem?_eq_some_iff.1 ht).1 (hS p hp)).trans ht⟩
theorem own_only {S : List Nat} {w w' : World} {base : Nat} {e : TypeId} {size : Nat} {v : Value} {n : Nat} {xs : List Value} (h : w.ownsRow base e size v n xs) (ho : Only S w w') (hS : ∀ k, v.ownBlock = some k → k ∉ S) : w'.ownsRow base e size v n xs := by
  refine ⟨h.1, h.2.imp id fun ⟨g, cap, cur, e1, hg, hh, r⟩ => ⟨g, cap, cur, e1, hg, ?_, r⟩⟩
  subst e1
  rw [ho.block (Array.getElem?_eq_some_iff.1 hh).1 (hS g rfl)]; exact hh

/-- The cells of a write. -/
def wcells (x : Nat × P128) : List Value := .int .i64 (x.1 : Int) :: pcells x.2.1
theorem wcells_length (x : Nat × P128) : (wcells x).length = 129 := by
  simp [wcells, pcells_length, x.2.2]
theorem wcells_one (x : Nat × P128) : ∀ v ∈ wcells x, v.oneCell' = true := fun v hv => by
  rcases List.mem_cons.1 hv with rfl | hv
  · rfl
  · exact pcells_one _ v hv
/-- A region stands there: its box, its map, its loose writes; all its blocks are these. -/
def RegIn (w : World) (fp : List Nat) (b M : Nat) (x : Rg) : Prop :=
  ∃ mb n v, w.heap[b]? = some (.cells #[.int .i64 (x.size : Int), .map (some mb), v, .int .i64 x.left, .bool x.down] 71 (0, 0)) ∧ PgMap w mb n x.pages ∧
    w.ownsRow 0 78 129 v x.loose.length (x.loose.flatMap wcells) ∧ n + x.loose.length ≤ M ∧ b ∈ fp ∧ mb ∈ fp ∧ (∀ k, v.ownBlock = some k → k ∈ fp) ∧ (∀ k ∈ fp, k < w.heap.size) ∧ x.size ≤ 1000 ∧ (∀ p ∈ x.loose, p.1 < x.size) ∧ x.left ≤ 9223372036854775807
theorem RegIn.only {S : List Nat} {w w' : World} {fp : List Nat} {b M : Nat} {x : Rg} (h : RegIn w fp b M x) (ho : Only S w w') (hS : ∀ k ∈ fp, k ∉ S) : RegIn w' fp b M x := by
  obtain ⟨mb, n, v, h1, h2, h3, h4, h5, h6, h7, h8, h9⟩ := h
  exact ⟨mb, n, v, (ho.block (h8 b h5) (hS b h5)).trans h1, h2.kept (ho.block (h8 mb h6) (hS mb h6)), own_only h3 ho (fun k hk => hS k (h7 k hk)), h4, h5, h6, h7, fun k hk => Nat.lt_of_lt_of_le (h8 k hk) ho.size, h9⟩
theorem RegIn.more {w : World} {fp : List Nat} {b M M' : Nat} {x : Rg} (h : RegIn w fp b M x) (hM : M ≤ M') : RegIn w fp b M' x := by
  obtain ⟨mb, n, v, h1, h2, h3, h4, h5⟩ := h
  exact ⟨mb, n, v, h1, h2, h3, by omega, h5⟩

/-- A disk stands there; all its blocks are F. -/
structure DskIn (w : World) (F : List Nat) (db M : Nat) (bs : List (Nat × List Nat)) (d : List Rg) : Prop where
  cells : ∃ pv, w.heap[db]? = some (.cells #[pv] 66 (0, 0)) ∧ w.ownsRow 0 67 1 pv d.length (bs.map fun q => .pointer (some ⟨q.1, 0, none⟩)) ∧ (∀ k, pv.ownBlock = some k → k ∈ F ∧ ∀ q ∈ bs, k ∉ q.2)
  mem : db ∈ F
  off : ∀ q ∈ bs, db ∉ q.2
  len : bs.length = d.length
  reg : ∀ (i : Nat) (q : Nat × List Nat) (x : Rg), bs[i]? = some q → d[i]? = some x → RegIn w q.2 q.1 M x
  apart : ∀ (i j : Nat) (q r : Nat × List Nat), i ≠ j → bs[i]? = some q → bs[j]? = some r → ∀ k ∈ q.2, k ∉ r.2
  sub : ∀ q ∈ bs, ∀ k ∈ q.2, k ∈ F
  lt : ∀ k ∈ F, k < w.heap.size
theorem DskIn.only {S : List Nat} {w w' : World} {F : List Nat} {db M : Nat} {bs : List (Nat × List Nat)} {d : List Rg} (h : DskIn w F db M bs d) (ho : Only S w w') (hS : ∀ k ∈ F, k ∉ S) : DskIn w' F db M bs d := by
  obtain ⟨pv, h1, h2, h3⟩ := h.cells
  exact ⟨⟨pv, (ho.block (h.lt _ h.mem) (hS _ h.mem)).trans h1, own_only h2 ho (fun k hk => hS k (h3 k hk).1), h3⟩, h.mem, h.off, h.len, fun i q x hq hx => (h.reg i q x hq hx).only ho (fun k hk => hS k (h.sub q (List.mem_of_getElem? hq) k hk)), h.apart, h.sub, fun k hk => Nat.lt_of_lt_of_le (h.lt k hk) ho.size⟩
theorem DskIn.below {w w' : World} {F : List Nat} {db M : Nat} {bs : List (Nat × List Nat)} {d : List Rg} (h : DskIn w F db M bs d) (hb : Below w.heap.size w w') : DskIn w' F db M bs d :=
  h.only (S := []) (Only.of_below hb) (fun _ _ => by simp)
theorem DskIn.more {w : World} {F : List Nat} {db M M' : Nat} {bs : List (Nat × List Nat)} {d : List Rg} (h : DskIn w F db M bs d) (hM : M ≤ M') : DskIn w F db M' bs d :=
  ⟨h.cells, h.mem, h.off, h.len, fun i q x hq hx => (h.reg i q x hq hx).more hM, h.apart, h.sub, h.lt⟩
/-- A region of a disk turns. -/
theorem DskIn.turn {w w' : World} {F : List Nat} {db M M' : Nat} {bs : List (Nat × List Nat)} {d : List Rg} (h : DskIn w F db M bs d) {i : Nat} {q : Nat × List Nat} (hq : bs[i]? = some q) {fp : List Nat} {x : Rg}
    (ho : Only q.2 w w') (hr : RegIn w' fp q.1 M' x) (hf : ∀ k ∈ fp, k ∈ q.2 ∨ w.heap.size ≤ k) (hM : M ≤ M') : DskIn w' (F ++ fp) db M' (bs.set i (q.1, fp)) (d.set i x) := by
  obtain ⟨pv, h1, h2, h3⟩ := h.cells
  have hqm := List.mem_of_getElem? hq
  have hi := (List.getElem?_eq_some_iff.1 hq).1
  have hmem : ∀ r ∈ bs.set i (q.1, fp), (∃ j, j ≠ i ∧ bs[j]? = some r) ∨ r = (q.1, fp) := fun r hr => by
    obtain ⟨j, hj⟩ := List.mem_iff_getElem?.1 hr
    by_cases e : j = i
    · subst e
      rw [List.getElem?_set_self hi] at hj
      exact .inr (by cases hj; rfl)
    · rw [List.getElem?_set_ne (fun h => e h.symm)] at hj
      exact .inl ⟨j, e, hj⟩
  have hfp : ∀ k, k < w.heap.size → k ∉ q.2 → k ∉ fp := fun k hk hn hk2 => (hf k hk2).elim hn (fun h => by omega)
  refine ⟨⟨pv, (ho.block (h.lt _ h.mem) (h.off q hqm)).trans h1, ?_, fun k hk => ⟨List.mem_append_left _ (h3 k hk).1, fun r hr => ?_⟩⟩, List.mem_append_left _ h.mem, fun r hr => ?_, by simp [h.len], fun j r y hj hy => ?_, fun j1 j2 r s hne hr hs k hk hk2 => ?_, fun r hr k hk => ?_, fun k hk => ?_⟩
  · have : (bs.set i (q.1, fp)).map (fun q => Value.pointer (some ⟨q.1, 0, none⟩)) = bs.map fun q => Value.pointer (some ⟨q.1, 0, none⟩) := by
      apply List.ext_getElem?
      intro j
      rw [List.getElem?_map, List.getElem?_map]
      by_cases e : j = i
      · subst e
        rw [List.getElem?_set_self hi, hq]; rfl
      · rw [List.getElem?_set_ne (fun h => e h.symm)]
    rw [this, List.length_set]
    exact own_only h2 ho (fun k hk => (h3 k hk).2 q hqm)
  · rcases hmem r hr with ⟨j, _, hj⟩ | rfl
    · exact (h3 k hk).2 r (List.mem_of_getElem? hj)
    · exact hfp k (h.lt k (h3 k hk).1) ((h3 k hk).2 q hqm)
  · rcases hmem r hr with ⟨j, _, hj⟩ | rfl
    · exact h.off r (List.mem_of_getElem? hj)
    · exact hfp db (h.lt _ h.mem) (h.off q hqm)
  · by_cases e : j = i
    · subst e
      have hjd : j < d.length := by rw [← h.len]; exact hi
      rw [List.getElem?_set_self hi] at hj
      rw [List.getElem?_set_self hjd] at hy
      cases hj; cases hy
      exact hr
    · rw [List.getElem?_set_ne (fun h => e h.symm)] at hj hy
      exact ((h.reg j r y hj hy).only ho (fun k hk => fun hk2 => h.apart j i r q e hj hq k hk hk2)).more hM
  · by_cases e1 : j1 = i
    · subst e1
      rw [List.getElem?_set_self hi] at hr
      rw [List.getElem?_set_ne hne] at hs
      cases hr
      rcases hf k hk with h5 | h5
      · exact h.apart j1 j2 q s hne hq hs k h5 hk2
      · have := h.lt k (h.sub s (List.mem_of_getElem? hs) k hk2); omega
    · rw [List.getElem?_set_ne (fun h => e1 h.symm)] at hr
      by_cases e2 : j2 = i
      · subst e2
        rw [List.getElem?_set_self hi] at hs
        cases hs
        rcases hf k hk2 with h5 | h5
        · exact h.apart j1 j2 r q hne hr hq k hk h5
        · have := h.lt k (h.sub r (List.mem_of_getElem? hr) k hk); omega
      · rw [List.getElem?_set_ne (fun h => e2 h.symm)] at hs
        exact h.apart j1 j2 r s hne hr hs k hk hk2
  · rcases hmem r hr with ⟨j, _, hj⟩ | rfl
    · exact List.mem_append_left _ (h.sub r (List.mem_of_getElem? hj) k hk)
    · exact List.mem_append_right _ hk
  · rcases List.mem_append.1 hk with hk | hk
    · exact Nat.lt_of_lt_of_le (h.lt k hk) ho.size
    · obtain ⟨_, _, _, _, _, _, _, _, _, _, h8, _⟩ := hr
      exact h8 k hk
end Go.Proofs.Ytopnfpobbemfbaa
