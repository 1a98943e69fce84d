/- Texts that other texts of this claim lean on, one behind the other. -/
import Derived.Test.YtfidfbgplfjakaaDoorM1
import Derived.Outline
import Derived.Deep.DeepCutAuto
import Derived.Deep.RegionHeld3
import Derived.Deep.RegionLaw
/- A disk in memory: which blocks it has; what a change in some blocks leaves. -/
namespace Go.Proofs.YtfidfbgplfjakaaDoor
open Go.RowKit

/-- Nothing that was there has turned but these blocks. -/
def Only (S : List Nat) (w w' : World) : Prop := w'.os = w.os ∧ w'.tape = w.tape ∧ w'.output = w.output ∧ w.heap.size ≤ w'.heap.size ∧ ∀ k, k < w.heap.size → k ∉ S → w'.heap[k]? = w.heap[k]?
theorem Only.size {S : List Nat} {w w' : World} (h : Only S w w') : w.heap.size ≤ w'.heap.size := h.2.2.2.1
theorem Only.block {S : List Nat} {w w' : World} (h : Only S w w') {k : Nat} (hk : k < w.heap.size) (hS : k ∉ S) : w'.heap[k]? = w.heap[k]? := h.2.2.2.2 k hk hS
theorem Only.refl (S : List Nat) (w : World) : Only S w w := ⟨rfl, rfl, rfl, Nat.le_refl _, fun _ _ _ => rfl⟩
theorem Only.of_below {S : List Nat} {w w' : World} (h : Below w.heap.size w w') : Only S w w' := ⟨h.os, h.tape, h.output, h.size, fun k hk _ => h.block k hk⟩
theorem Only.of_grown {S : List Nat} {w w' : World} {row : Option Nat} (h : w.grownBy w' row) (hr : ∀ k, row = some k → k ∈ S ∨ w.heap.size ≤ k) : Only S w w' :=
  ⟨h.os, h.tape, h.output, h.size, fun k hk hS => h.block k hk (fun e => (hr k e.symm).elim hS (fun h => by omega))⟩
theorem Only.trans {S : List Nat} {a b c : World} (h : Only S a b) (k : Only S b c) : Only S a c :=
  ⟨k.1.trans h.1, k.2.1.trans h.2.1, k.2.2.1.trans h.2.2.1, Nat.le_trans h.size k.size, fun _ hi hS => (k.block (Nat.lt_of_lt_of_le hi h.size) hS).trans (h.block hi hS)⟩
/-- What comes second may turn what is new. -/
theorem Only.then {S S' : List Nat} {a b c : World} (h : Only S a b) (k : Only S' b c) (hs : ∀ i ∈ S', i ∈ S ∨ a.heap.size ≤ i) : Only S a c :=
  ⟨k.1.trans h.1, k.2.1.trans h.2.1, k.2.2.1.trans h.2.2.1, Nat.le_trans h.size k.size, fun i hi hS => (k.block (Nat.lt_of_lt_of_le hi h.size) (fun e => (hs i e).elim hS (fun h => by omega))).trans (h.block hi hS)⟩
theorem Only.mono {S S' : List Nat} {w w' : World} (h : Only S w w') (hs : ∀ k ∈ S, k ∈ S') : Only S' w w' := ⟨h.1, h.2.1, h.2.2.1, h.size, fun _ hk hS => h.block hk (fun e => hS (hs _ e))⟩
theorem Only.set {S : List Nat} {w w' : World} (h : Only S w w') (a : Addr) (u : Value) (ha : a.block ∈ S) : Only S w (w'.setCell a u) :=
  ⟨h.1, h.2.1, h.2.2.1, by simpa [World.setCell] using h.size, fun k hk hS => (Below.heap_setCell w' a u k (fun e => hS (by rw [e]; exact ha))).trans (h.block hk hS)⟩
theorem Only.drew {S : List Nat} {w w' : World} (h : Only S w w') : Only S w w'.drew := h
theorem Only.below {S : List Nat} {w w' : World} (h : Only S w w') {B : Nat} (hB : B ≤ w.heap.size) (hS : ∀ k ∈ S, B ≤ k) : Below B w w' :=
  ⟨h.1, h.2.1, h.2.2.1, h.size, fun k hk => h.block (by omega) (fun e => by have := hS k e; omega)⟩
theorem Boxes.only {S : List Nat} {w w' : World} {l : List (Nat × List Value)} (h : Boxes w l) (ho : Only S w w') (hS : ∀ p ∈ l, p.1 ∉ S) : Boxes w' l := by
  intro p hp
  obtain ⟨t, ht⟩ := h p hp
  exact ⟨t, (ho.block (Array.getElem?_eq_some_iff.1 ht).1 (hS p hp)).trans ht⟩
theorem own_only {S : List Nat} {w w' : World} {base : Nat} {e : TypeId} {size : Nat} {v : Value} {n : Nat} {xs : List Value} (h : w.ownsRow base e size v n xs) (ho : Only S w w') (hS : ∀ k, v.ownBlock = some k → k ∉ S) : w'.ownsRow base e size v n xs := by
  refine ⟨h.1, h.2.imp id fun ⟨g, cap, cur, e1, hg, hh, r⟩ => ⟨g, cap, cur, e1, hg, ?_, r⟩⟩
  subst e1
  rw [ho.block (Array.getElem?_eq_some_iff.1 hh).1 (hS g rfl)]; exact hh

/-- The cells of a write. -/
def wcells (x : Nat × P128) : List Value := .int .i64 (x.1 : Int) :: pcells x.2.1
theorem wcells_length (x : Nat × P128) : (wcells x).length = 129 := by
  simp [wcells, pcells_length, x.2.2]
theorem wcells_one (x : Nat × P128) : ∀ v ∈ wcells x, v.oneCell' = true := fun v hv => by
  rcases List.mem_cons.1 hv with rfl | hv
  · rfl
  · exact pcells_one _ v hv
/-- A region stands there: its box, its map, its loose writes; all its blocks are these. -/
def RegIn (w : World) (fp : List Nat) (b M : Nat) (x : Rg) : Prop :=
  ∃ mb n v, w.heap[b]? = some (.cells #[.int .i64 (x.size : Int), .map (some mb), v, .int .i64 x.left, .bool x.down] 84 (0, 0)) ∧ PgMap w mb n x.pages ∧
    w.ownsRow 0 94 129 v x.loose.length (x.loose.flatMap wcells) ∧ n + x.loose.length ≤ M ∧ b ∈ fp ∧ mb ∈ fp ∧ (∀ k, v.ownBlock = some k → k ∈ fp) ∧ (∀ k ∈ fp, k < w.heap.size) ∧ x.size ≤ 1000 ∧ (∀ p ∈ x.loose, p.1 < x.size) ∧ x.left ≤ 9223372036854775807
theorem RegIn.only {S : List Nat} {w w' : World} {fp : List Nat} {b M : Nat} {x : Rg} (h : RegIn w fp b M x) (ho : Only S w w') (hS : ∀ k ∈ fp, k ∉ S) : RegIn w' fp b M x := by
  obtain ⟨mb, n, v, h1, h2, h3, h4, h5, h6, h7, h8, h9⟩ := h
  exact ⟨mb, n, v, (ho.block (h8 b h5) (hS b h5)).trans h1, h2.kept (ho.block (h8 mb h6) (hS mb h6)), own_only h3 ho (fun k hk => hS k (h7 k hk)), h4, h5, h6, h7, fun k hk => Nat.lt_of_lt_of_le (h8 k hk) ho.size, h9⟩
theorem RegIn.more {w : World} {fp : List Nat} {b M M' : Nat} {x : Rg} (h : RegIn w fp b M x) (hM : M ≤ M') : RegIn w fp b M' x := by
  obtain ⟨mb, n, v, h1, h2, h3, h4, h5⟩ := h
  exact ⟨mb, n, v, h1, h2, h3, by omega, h5⟩

/-- A disk stands there; all its blocks are F. -/
structure DskIn (w : World) (F : List Nat) (db M : Nat) (bs : List (Nat × List Nat)) (d : List Rg) : Prop where
  cells : ∃ pv, w.heap[db]? = some (.cells #[pv] 79 (0, 0)) ∧ w.ownsRow 0 80 1 pv d.length (bs.map fun q => .pointer (some ⟨q.1, 0, none⟩)) ∧ (∀ k, pv.ownBlock = some k → k ∈ F ∧ ∀ q ∈ bs, k ∉ q.2)
  mem : db ∈ F
  off : ∀ q ∈ bs, db ∉ q.2
  len : bs.length = d.length
  reg : ∀ (i : Nat) (q : Nat × List Nat) (x : Rg), bs[i]? = some q → d[i]? = some x → RegIn w q.2 q.1 M x
  apart : ∀ (i j : Nat) (q r : Nat × List Nat), i ≠ j → bs[i]? = some q → bs[j]? = some r → ∀ k ∈ q.2, k ∉ r.2
  sub : ∀ q ∈ bs, ∀ k ∈ q.2, k ∈ F
  lt : ∀ k ∈ F, k < w.heap.size
theorem DskIn.only {S : List Nat} {w w' : World} {F : List Nat} {db M : Nat} {bs : List (Nat × List Nat)} {d : List Rg} (h : DskIn w F db M bs d) (ho : Only S w w') (hS : ∀ k ∈ F, k ∉ S) : DskIn w' F db M bs d := by
  obtain ⟨pv, h1, h2, h3⟩ := h.cells
  exact ⟨⟨pv, (ho.block (h.lt _ h.mem) (hS _ h.mem)).trans h1, own_only h2 ho (fun k hk => hS k (h3 k hk).1), h3⟩, h.mem, h.off, h.len, fun i q x hq hx => (h.reg i q x hq hx).only ho (fun k hk => hS k (h.sub q (List.mem_of_getElem? hq) k hk)), h.apart, h.sub, fun k hk => Nat.lt_of_lt_of_le (h.lt k hk) ho.size⟩
theorem DskIn.below {w w' : World} {F : List Nat} {db M : Nat} {bs : List (Nat × List Nat)} {d : List Rg} (h : DskIn w F db M bs d) (hb : Below w.heap.size w w') : DskIn w' F db M bs d :=
  h.only (S := []) (Only.of_below hb) (fun _ _ => by simp)
theorem DskIn.more {w : World} {F : List Nat} {db M M' : Nat} {bs : List (Nat × List Nat)} {d : List Rg} (h : DskIn w F db M bs d) (hM : M ≤ M') : DskIn w F db M' bs d :=
  ⟨h.cells, h.mem, h.off, h.len, fun i q x hq hx => (h.reg i q x hq hx).more hM, h.apart, h.sub, h.lt⟩
/-- A region of a disk turns. -/
theorem DskIn.turn {w w' : World} {F : List Nat} {db M M' : Nat} {bs : List (Nat × List Nat)} {d : List Rg} (h : DskIn w F db M bs d) {i : Nat} {q : Nat × List Nat} (hq : bs[i]? = some q) {fp : List Nat} {x : Rg}
    (ho : Only q.2 w w') (hr : RegIn w' fp q.1 M' x) (hf : ∀ k ∈ fp, k ∈ q.2 ∨ w.heap.size ≤ k) (hM : M ≤ M') : DskIn w' (F ++ fp) db M' (bs.set i (q.1, fp)) (d.set i x) := by
  obtain ⟨pv, h1, h2, h3⟩ := h.cells
  have hqm := List.mem_of_getElem? hq
  have hi := (List.getElem?_eq_some_iff.1 hq).1
  have hmem : ∀ r ∈ bs.set i (q.1, fp), (∃ j, j ≠ i ∧ bs[j]? = some r) ∨ r = (q.1, fp) := fun r hr => by
    obtain ⟨j, hj⟩ := List.mem_iff_getElem?.1 hr
    by_cases e : j = i
    · subst e
      rw [List.getElem?_set_self hi] at hj
      exact .inr (by cases hj; rfl)
    · rw [List.getElem?_set_ne (fun h => e h.symm)] at hj
      exact .inl ⟨j, e, hj⟩
  have hfp : ∀ k, k < w.heap.size → k ∉ q.2 → k ∉ fp := fun k hk hn hk2 => (hf k hk2).elim hn (fun h => by omega)
  refine ⟨⟨pv, (ho.block (h.lt _ h.mem) (h.off q hqm)).trans h1, ?_, fun k hk => ⟨List.mem_append_left _ (h3 k hk).1, fun r hr => ?_⟩⟩, List.mem_append_left _ h.mem, fun r hr => ?_, by simp [h.len], fun j r y hj hy => ?_, fun j1 j2 r s hne hr hs k hk hk2 => ?_, fun r hr k hk => ?_, fun k hk => ?_⟩
  · have : (bs.set i (q.1, fp)).map (fun q => Value.pointer (some ⟨q.1, 0, none⟩)) = bs.map fun q => Value.pointer (some ⟨q.1, 0, none⟩) := by
      apply List.ext_getElem?
      intro j
      rw [List.getElem?_map, List.getElem?_map]
      by_cases e : j = i
      · subst e
        rw [List.getElem?_set_self hi, hq]; rfl
      · rw [List.getElem?_set_ne (fun h => e h.symm)]
    rw [this, List.length_set]
    exact own_only h2 ho (fun k hk => (h3 k hk).2 q hqm)
  · rcases hmem r hr with ⟨j, _, hj⟩ | rfl
    · exact (h3 k hk).2 r (List.mem_of_getElem? hj)
    · exact hfp k (h.lt k (h3 k hk).1) ((h3 k hk).2 q hqm)
  · rcases hmem r hr with ⟨j, _, hj⟩ | rfl
    · exact h.off r (List.mem_of_getElem? hj)
    · exact hfp db (h.lt _ h.mem) (h.off q hqm)
  · by_cases e : j = i
    · subst e
      have hjd : j < d.length := by rw [← h.len]; exact hi
      rw [List.getElem?_set_self hi] at hj
      rw [List.getElem?_set_self hjd] at hy
      cases hj; cases hy
      exact hr
    · rw [List.getElem?_set_ne (fun h => e h.symm)] at hj hy
      exact ((h.reg j r y hj hy).only ho (fun k hk => fun hk2 => h.apart j i r q e hj hq k hk hk2)).more hM
  · by_cases e1 : j1 = i
    · subst e1
      rw [List.getElem?_set_self hi] at hr
      rw [List.getElem?_set_ne hne] at hs
      cases hr
      rcases hf k hk with h5 | h5
      · exact h.apart j1 j2 q s hne hq hs k h5 hk2
      · have := h.lt k (h.sub s (List.mem_of_getElem? hs) k hk2); omega
    · rw [List.getElem?_set_ne (fun h => e1 h.symm)] at hr
      by_cases e2 : j2 = i
      · subst e2
        rw [List.getElem?_set_self hi] at hs
        cases hs
        rcases hf k hk2 with h5 | h5
        · exact h.apart j1 j2 r q hne hr hq k hk h5
        · have := h.lt k (h.sub r (List.mem_of_getElem? hr) k hk); omega
      · rw [List.getElem?_set_ne (fun h => e2 h.symm)] at hs
        exact h.apart j1 j2 r s hne hr hs k hk hk2
  · rcases hmem r hr with ⟨j, _, hj⟩ | rfl
    · exact List.mem_append_left _ (h.sub r (List.mem_of_getElem? hj) k hk)
    · exact List.mem_append_right _ hk
  · rcases List.mem_append.1 hk with hk | hk
    · exact Nat.lt_of_lt_of_le (h.lt k hk) ho.size
    · obtain ⟨_, _, _, _, _, _, _, _, _, _, h8, _⟩ := hr
      exact h8 k hk
end Go.Proofs.YtfidfbgplfjakaaDoor

/- The walks of the chapter on disks: a region of a disk; what may be asked of it. -/
namespace Go.Proofs.YtfidfbgplfjakaaDoor
open Go.RowKit

/-- A row of one-celled elements of the call's own: its cells. -/
theorem own_cells1 {w : World} {base : Nat} {e : TypeId} {v : Value} {n : Nat} {xs : List Value} (h : w.ownsRow base e 1 v n xs) :
    ∃ a cap, v = .slice a n cap ∧ xs.length = n ∧ n ≤ cap ∧ cap ≤ maxLen ∧ ∀ i u, xs[i]? = some u → ∃ g, a = some ⟨g, 0, none⟩ ∧ g < w.heap.size ∧ w.cell? ⟨g, i, none⟩ = some u := by
  obtain ⟨h1, h2⟩ := h
  simp only [Nat.mul_one] at h1
  rcases h2 with ⟨rfl, h0⟩ | ⟨g, cap, cur, rfl, hb, hg, hn, hm, hc, ht⟩
  · refine ⟨none, 0, by rw [h0], by omega, by omega, by unfold maxLen; omega, fun i u hu => ?_⟩
    have := (List.getElem?_eq_some_iff.1 hu).1; omega
  · refine ⟨_, cap, rfl, by omega, hn, hm, fun i u hu => ⟨g, rfl, (Array.getElem?_eq_some_iff.1 hg).1, ?_⟩⟩
    have hi := (List.getElem?_eq_some_iff.1 hu).1
    rw [← ht, List.getElem?_take_of_lt (by omega)] at hu
    simp only [World.cell?, hg]
    rw [← Array.getElem?_toList]; exact hu

theorem DskIn.row {w : World} {F : List Nat} {db M : Nat} {bs : List (Nat × List Nat)} {d : List Rg} (h : DskIn w F db M bs d) :
    ∃ a cap, w.cell? ⟨db, 0, none⟩ = some (.slice a d.length cap) ∧ d.length ≤ cap ∧ cap ≤ 9223372036854775807 ∧ ∀ i q, bs[i]? = some q → ∃ g, a = some ⟨g, 0, none⟩ ∧ w.cell? ⟨g, i, none⟩ = some (.pointer (some ⟨q.1, 0, none⟩)) := by
  obtain ⟨pv, h1, h2, _⟩ := h.cells
  obtain ⟨a, cap, rfl, h3, h4, h5, h6⟩ := own_cells1 h2
  refine ⟨a, cap, by simp [World.cell?, h1], h4, by unfold maxLen at h5; omega, fun i q hq => ?_⟩
  obtain ⟨g, e, _, hc⟩ := h6 i (.pointer (some ⟨q.1, 0, none⟩)) (by rw [List.getElem?_map, hq]; rfl)
  exact ⟨g, e, hc⟩

set_option maxRecDepth 100000 in
set_option maxHeartbeats 1000000 in
theorem of_in {w : World} {F : List Nat} {db M : Nat} {bs : List (Nat × List Nat)} {d : List Rg} (h : DskIn w F db M bs d) (i : Nat) (q : Nat × List Nat) (hq : bs[i]? = some q) :
    Calls Tryd.prog 61 #[.pointer (some ⟨db, 0, none⟩), .int .i64 (i : Int)] w fun e w' => e = .returned (.pointer (some ⟨q.1, 0, none⟩)) ∧ w = w' := by
  have hi : i < d.length := by rw [← h.len]; exact (List.getElem?_eq_some_iff.1 hq).1
  obtain ⟨a, cap, c0, hcap, hm, hcell⟩ := h.row
  obtain ⟨g, rfl, c1⟩ := hcell i q hq
  have h1 : decide ((d.length : Int) ≤ (i : Int)) = false := by simp; omega
  have h2 : decide (d.length ≤ i) = false := by simp; omega
  clear hcell h hq
  go_enter Tryd.func61, Tryd.ntmps61
  go_wp2
  go_ret
  exact ⟨rfl, rfl⟩
set_option maxRecDepth 100000 in
set_option maxHeartbeats 1000000 in
theorem of_out {w : World} {F : List Nat} {db M : Nat} {bs : List (Nat × List Nat)} {d : List Rg} (h : DskIn w F db M bs d) (r : Int) (hr : ¬ (0 ≤ r ∧ r < d.length)) :
    Calls Tryd.prog 61 #[.pointer (some ⟨db, 0, none⟩), .int .i64 r] w fun e w' => e = .returned (.pointer none) ∧ w = w' := by
  obtain ⟨a, cap, c0, hcap, hm, hcell⟩ := h.row
  by_cases h0 : r < 0
  · have h1 : decide (r < 0) = true := by simpa using h0
    clear hcell h hr
    go_enter Tryd.func61, Tryd.ntmps61
    go_wp2
    go_ret
    exact ⟨rfl, rfl⟩
  · have h1 : decide (r < 0) = false := by simpa using h0
    have h2 : decide ((d.length : Int) ≤ r) = true := by simp; omega
    clear hcell h hr
    go_enter Tryd.func61, Tryd.ntmps61
    go_wp2
    go_ret
    exact ⟨rfl, rfl⟩
set_option maxRecDepth 100000 in
set_option maxHeartbeats 1000000 in
theorem of_nil (r : Int) (w : World) :
    Calls Tryd.prog 61 #[.pointer none, .int .i64 r] w fun e w' => e = .returned (.pointer none) ∧ w = w' := by
  go_enter Tryd.func61, Tryd.ntmps61
  go_wp2
  go_ret
  exact ⟨rfl, rfl⟩

/-- The cells of a region's box. -/
theorem RegIn.cells {w : World} {fp : List Nat} {b M : Nat} {x : Rg} (h : RegIn w fp b M x) :
    ∃ mb a cap, w.cell? ⟨b, 0, none⟩ = some (.int .i64 (x.size : Int)) ∧ w.cell? ⟨b, 1, none⟩ = some (.map (some mb)) ∧ w.cell? ⟨b, 2, none⟩ = some (.slice a x.loose.length cap) ∧ w.cell? ⟨b, 3, none⟩ = some (.int .i64 x.left) ∧ w.cell? ⟨b, 4, none⟩ = some (.bool x.down) ∧ ∀ j, w.frozen? ⟨b, j, none⟩ = false := by
  obtain ⟨mb, n, v, h1, h2, h3, _⟩ := h
  obtain ⟨a, cap, rfl, _⟩ := own_slice h3
  exact ⟨mb, a, cap, by simp [World.cell?, h1], by simp [World.cell?, h1], by simp [World.cell?, h1], by simp [World.cell?, h1], by simp [World.cell?, h1], fun j => by simp [World.frozen?, h1]⟩

/-- A region that goes; else the error. -/
def UpPost (bs : List (Nat × List Nat)) (r er : Int) (e : Ending) : Prop := (er = 0 ∧ ∃ q, bs[r.toNat]? = some q ∧ e = .returned (.tuple #[.pointer (some ⟨q.1, 0, none⟩), .int .i64 0])) ∨ (er ≠ 0 ∧ e = .returned (.tuple #[.pointer none, .int .i64 er]))
set_option maxRecDepth 100000 in
set_option maxHeartbeats 1000000 in
theorem up_any {w : World} {F : List Nat} {db M : Nat} {bs : List (Nat × List Nat)} {d : List Rg} (h : DskIn w F db M bs d) (r : Int) :
    Calls Tryd.prog 51 #[.pointer (some ⟨db, 0, none⟩), .int .i64 r] w fun e w' => UpPost bs r (upE d r) e ∧ w = w' := by
  by_cases hr : 0 ≤ r ∧ r < d.length
  · obtain ⟨i, rfl⟩ := Int.eq_ofNat_of_zero_le hr.1
    have hi : i < d.length := by omega
    obtain ⟨q, hq⟩ : ∃ q, bs[i]? = some q := ⟨_, List.getElem?_eq_getElem (by rw [h.len]; exact hi)⟩
    obtain ⟨x, hx⟩ : ∃ x, d[i]? = some x := ⟨_, List.getElem?_eq_getElem hi⟩
    have hs : upE d (i : Int) = if x.down then 3 else 0 := by rw [upE, if_pos hr, Int.toNat_natCast, hx]; rfl
    obtain ⟨mb, a, cap, c0, c1, c2, c3, c4, _⟩ := (h.reg i q x hq hx).cells
    have O := of_in h i q hq
    have HQ := Lib.hid hq
    rw [hs]
    clear hs hq hx h hr
    cases hd : x.down with
    | true =>
      rw [hd] at c4
      clear hd
      go_enter Tryd.func51, Tryd.ntmps51
      go_wp2_with fail
      refine O.mono ?_
      rintro e w' ⟨rfl, rfl⟩
      go_wp2
      go_ret2
      exact ⟨.inr ⟨by decide, rfl⟩, rfl⟩
    | false =>
      rw [hd] at c4
      clear hd
      go_enter Tryd.func51, Tryd.ntmps51
      go_wp2_with fail
      refine O.mono ?_
      rintro e w' ⟨rfl, rfl⟩
      go_wp2
      go_ret2
      exact ⟨.inl ⟨rfl, q, HQ.out, rfl⟩, rfl⟩
  · have hs : upE d r = 2 := by rw [upE, if_neg hr]
    have O := of_out h r hr
    rw [hs]
    clear hs h hr
    go_enter Tryd.func51, Tryd.ntmps51
    go_wp2_with fail
    refine O.mono ?_
    rintro e w' ⟨rfl, rfl⟩
    go_wp2
    go_ret2
    exact ⟨.inr ⟨by decide, rfl⟩, rfl⟩
end Go.Proofs.YtfidfbgplfjakaaDoor

/- The walks of the chapter on disks: pages asked for; calls that count; a region stopped. -/
namespace Go.Proofs.YtfidfbgplfjakaaDoor
open Go.RowKit

/-- A region's box, its map and its row are apart. -/
theorem reg_apart {w : World} {b mb n : Nat} {v : Value} {c0 c1 c2 c3 c4 : Value} {f : Nat → P128} {m : Nat} {xs : List Value} (h1 : w.heap[b]? = some (.cells #[c0, c1, c2, c3, c4] 84 (0, 0))) (h2 : PgMap w mb n f) (h3 : w.ownsRow 0 94 129 v m xs) :
    mb ≠ b ∧ ∀ k, v.ownBlock = some k → k ≠ b ∧ k ≠ mb := by
  obtain ⟨D, ⟨es, c, hm, _⟩, _⟩ := h2
  refine ⟨(fun e => by rw [e, h1] at hm; cases hm), fun k hk => ?_⟩
  rcases h3.2 with ⟨rfl, _⟩ | ⟨g, cap, cur, rfl, _, hg, _⟩
  · cases hk
  · cases hk
    refine ⟨fun e => ?_, fun e => ?_⟩
    · have e' : g = b := e
      rw [e', h1] at hg
      simp only [Option.some.injEq, Obj.cells.injEq] at hg
      exact absurd hg.2.1 (by decide)
    · have e' : g = mb := e
      rw [e', hm] at hg; cases hg
theorem RegIn.left {w : World} {fp : List Nat} {b M : Nat} {x : Rg} (h : RegIn w fp b M x) : x.left ≤ 9223372036854775807 := by
  obtain ⟨_, _, _, _, _, _, _, _, _, _, _, _, _, h⟩ := h; exact h
/-- A region's box is written over. -/
theorem RegIn.box {w : World} {fp : List Nat} {b M : Nat} {x : Rg} (h : RegIn w fp b M x) (l : Int) (hl : l ≤ 9223372036854775807) (dn : Bool) (w' : World) (ho : Only [b] w w') (hb : ∀ mb v, w.heap[b]? = some (.cells #[.int .i64 (x.size : Int), .map (some mb), v, .int .i64 x.left, .bool x.down] 84 (0, 0)) → w'.heap[b]? = some (.cells #[.int .i64 (x.size : Int), .map (some mb), v, .int .i64 l, .bool dn] 84 (0, 0))) :
    RegIn w' fp b M { x with left := l, down := dn } ∧ Only fp w w' := by
  obtain ⟨mb, n, v, h1, h2, h3, h4, h5, h6, h7, h8, h9, h10, _⟩ := h
  obtain ⟨a1, a2⟩ := reg_apart h1 h2 h3
  refine ⟨⟨mb, n, v, hb mb v h1, h2.kept (ho.block h2.lt (by simpa using a1)), own_only h3 ho (fun k hk => by simpa using (a2 k hk).1), h4, h5, h6, h7, fun k hk => Nat.lt_of_lt_of_le (h8 k hk) ho.size, h9, h10, hl⟩, ho.mono (fun k hk => by simp at hk; subst hk; exact h5)⟩
theorem RegIn.setLeft {w : World} {fp : List Nat} {b M : Nat} {x : Rg} (h : RegIn w fp b M x) (l : Int) (hl : l ≤ 9223372036854775807) :
    RegIn (w.setCell ⟨b, 3, none⟩ (.int .i64 l)) fp b M { x with left := l } ∧ Only fp w (w.setCell ⟨b, 3, none⟩ (.int .i64 l)) :=
  h.box l hl x.down _ ((Only.refl _ w).set _ _ (by simp)) (fun mb v hh => by rw [heap_setCell_at 3 _ hh]; rfl)
theorem RegIn.setDown {w : World} {fp : List Nat} {b M : Nat} {x : Rg} (h : RegIn w fp b M x) (dn : Bool) :
    RegIn (w.setCell ⟨b, 4, none⟩ (.bool dn)) fp b M { x with down := dn } ∧ Only fp w (w.setCell ⟨b, 4, none⟩ (.bool dn)) :=
  h.box x.left h.left dn _ ((Only.refl _ w).set _ _ (by simp)) (fun mb v hh => by rw [heap_setCell_at 4 _ hh]; rfl)

def CountPost (w : World) (fp : List Nat) (b M : Nat) (x : Rg) (e : Ending) (w' : World) : Prop := e = .returned (.int .i64 (cntE x)) ∧ Only fp w w' ∧ RegIn w' fp b M (cntR x)
set_option maxRecDepth 100000 in
set_option maxHeartbeats 1000000 in
theorem count_any {w : World} {fp : List Nat} {b M : Nat} {x : Rg} (h : RegIn w fp b M x) :
    Calls Tryd.prog 36 #[.pointer (some ⟨b, 0, none⟩)] w (CountPost w fp b M x) := by
  obtain ⟨mb, a, cap, c0, c1, c2, c3, c4, hf⟩ := h.cells
  have f3 := hf 3
  have f4 := hf 4
  have H := Lib.hid h
  have h' := h.left
  clear hf h
  by_cases h0 : x.left = 0
  · have HE := Lib.hid (show cntE x = 3 by rw [cntE, if_pos h0])
    have HR := Lib.hid (show cntR x = { x with down := true } by rw [cntR, if_pos h0])
    have q0 : (x.left == 0) = true := by simpa using h0
    clear h0
    go_enter Tryd.func36, Tryd.ntmps36
    go_wp2
    go_ret
    obtain ⟨g1, g2⟩ := H.out.setDown true
    exact ⟨by rw [HE.out]; rfl, g2, by rw [HR.out]; exact g1⟩
  · have q0 : (x.left == 0) = false := by simpa using h0
    by_cases h1 : 0 < x.left
    · have HE := Lib.hid (show cntE x = 0 by rw [cntE, if_neg h0])
      have HR := Lib.hid (show cntR x = { x with left := x.left - 1 } by rw [cntR, if_neg h0, if_pos h1])
      have q1 : decide (0 < x.left) = true := by simpa using h1
      have hbig := h'
      clear h0
      go_enter Tryd.func36, Tryd.ntmps36
      go_wp2
      go_ret
      obtain ⟨g1, g2⟩ := H.out.setLeft (x.left - 1) (by omega)
      exact ⟨by rw [HE.out]; rfl, g2, by rw [HR.out]; exact g1⟩
    · have HE := Lib.hid (show cntE x = 0 by rw [cntE, if_neg h0])
      have HR := Lib.hid (show cntR x = x by rw [cntR, if_neg h0, if_neg h1])
      have q1 : decide (0 < x.left) = false := by simpa using h1
      clear h0
      go_enter Tryd.func36, Tryd.ntmps36
      go_wp2
      go_ret
      exact ⟨by rw [HE.out]; rfl, Only.refl _ _, by rw [HR.out]; exact H.out⟩
set_option maxRecDepth 100000 in
set_option maxHeartbeats 1000000 in
theorem paged_any {w : World} {F : List Nat} {db M : Nat} {bs : List (Nat × List Nat)} {d : List Rg} (h : DskIn w F db M bs d) (r p : Int) :
    Calls Tryd.prog 35 #[.pointer (some ⟨db, 0, none⟩), .int .i64 r, .int .i64 p] w fun e w' => UpPost bs r (pagedE d r p) e ∧ w = w' := by
  have U := up_any h r
  by_cases hu : upE d r = 0
  · have hr : 0 ≤ r ∧ r < d.length := by
      unfold upE at hu; split at hu
      · assumption
      · simp at hu
    obtain ⟨i, rfl⟩ := Int.eq_ofNat_of_zero_le hr.1
    have hi : i < d.length := by omega
    obtain ⟨q, hq⟩ : ∃ q, bs[i]? = some q := ⟨_, List.getElem?_eq_getElem (by rw [h.len]; exact hi)⟩
    obtain ⟨x, hx⟩ : ∃ x, d[i]? = some x := ⟨_, List.getElem?_eq_getElem hi⟩
    have hs : pagedE d (i : Int) p = if 0 ≤ p ∧ p < x.size then 0 else 2 := by rw [pagedE, if_pos hu, atR, Int.toNat_natCast, hx]; rfl
    obtain ⟨mb, a, cap, c0, c1, c2, c3, c4, _⟩ := (h.reg i q x hq hx).cells
    rw [hu] at U
    rw [hs]
    have HQ := Lib.hid hq
    have U : Calls Tryd.prog 51 #[.pointer (some ⟨db, 0, none⟩), .int .i64 (i : Int)] w fun e w' => e = .returned (.tuple #[.pointer (some ⟨q.1, 0, none⟩), .int .i64 0]) ∧ w = w' := U.mono fun e w' ⟨h1, h2⟩ => by
      refine ⟨?_, h2⟩
      rcases h1 with ⟨_, q', hq', he⟩ | ⟨h0, _⟩
      · rw [Int.toNat_natCast, hq] at hq'; cases hq'; exact he
      · exact absurd rfl h0
    clear hs hq hx h hr hu
    by_cases h1 : p < 0
    · have q1 : decide (p < 0) = true := by simpa using h1
      rw [if_neg (by omega)]
      go_enter Tryd.func35, Tryd.ntmps35
      go_wp2_with fail
      refine U.mono ?_
      rintro e w' ⟨rfl, rfl⟩
      go_wp2
      go_ret2
      exact ⟨.inr ⟨by decide, rfl⟩, rfl⟩
    · have q1 : decide (p < 0) = false := by simpa using h1
      by_cases h2 : (x.size : Int) ≤ p
      · have q2 : decide ((x.size : Int) ≤ p) = true := by simpa using h2
        rw [if_neg (by omega)]
        go_enter Tryd.func35, Tryd.ntmps35
        go_wp2_with fail
        refine U.mono ?_
        rintro e w' ⟨rfl, rfl⟩
        go_wp2
        go_ret2
        exact ⟨.inr ⟨by decide, rfl⟩, rfl⟩
      · have q2 : decide ((x.size : Int) ≤ p) = false := by simpa using h2
        rw [if_pos (by omega)]
        go_enter Tryd.func35, Tryd.ntmps35
        go_wp2_with fail
        refine U.mono ?_
        rintro e w' ⟨rfl, rfl⟩
        go_wp2
        go_ret2
        exact ⟨.inl ⟨rfl, q, by rw [Int.toNat_natCast]; exact HQ.out, rfl⟩, rfl⟩
  · have hs : pagedE d r p = upE d r := by rw [pagedE, if_neg hu]
    have q0 : (upE d r == 0) = false := by simpa using hu
    rw [hs]
    generalize upE d r = er at *
    have U : Calls Tryd.prog 51 #[.pointer (some ⟨db, 0, none⟩), .int .i64 r] w fun e w' => e = .returned (.tuple #[.pointer none, .int .i64 er]) ∧ w = w' := U.mono fun e w' ⟨h1, h2⟩ => by
      refine ⟨?_, h2⟩
      rcases h1 with ⟨h0, _⟩ | ⟨_, he⟩
      · exact absurd h0 hu
      · exact he
    have HU := Lib.hid hu
    clear hs hu h
    go_enter Tryd.func35, Tryd.ntmps35
    go_wp2_with fail
    refine U.mono ?_
    rintro e w' ⟨rfl, rfl⟩
    go_wp2
    go_ret2
    exact ⟨.inr ⟨HU.out, rfl⟩, rfl⟩
end Go.Proofs.YtfidfbgplfjakaaDoor

/- A page is written. -/
namespace Go.Proofs.YtfidfbgplfjakaaDoor
open Go.RowKit

section
variable {P : Program}
theorem run_arrayAt {w : World} {arr e : TypeId} {n len cap : Nat} {a : Option Addr} (hu : P.underlying arr = some (.array n e)) (hn : n ≤ len) : (Instr.arrayAt arr (.slice a len cap)).run P w = .ok (.pointer a) w := by
  unfold Instr.arrayAt
  simp only [Sem.run_bind, run_underlying hu w, Result.andThen_ok]
  rw [if_neg (by omega)]
  rfl
theorem exec_arrayAt {w : World} {a : Act} {o : Oper} (ty : TypeId) (x : Operand) (ho : o.op = .sliceToArrayPointer ty x) {e : TypeId} {n len cap : Nat} {p : Option Addr} (hx : a.eval x = .slice p len cap) (hu : P.underlying ty = some (.array n e)) (hn : n ≤ len) :
    (execOp a.eval o).run P w = .ok (.value (.pointer p)) w := by
  unfold execOp
  simp only [ho, hx, Sem.run_bind, Sem.run_pure, Result.andThen_ok, run_arrayAt hu hn]
theorem exec_load_mid {w : World} {a : Act} {o : Oper} (ty : TypeId) (x : Operand) (ho : o.op = .load ty x) (b off : Nat) (hx : a.eval x = .pointer (some ⟨b, off, none⟩)) (cs : List Value) (d : TypeDesc) (hc : w.rangeAt b off cs)
    (hu : P.underlying ty = some d) (hd : d.isRow = true) (hi : (P.info? ty).map (·.size) = some cs.length) : (execOp a.eval o).run P w = .ok (.value (.agg cs.toArray)) w := by
  unfold execOp
  simp only [ho, hx, Instr.loadAt, Instr.sureAddr, Sem.run_bind, Sem.run_pure, Result.andThen_ok, run_loadVar_mid w b off ty cs d hc hu hd hi]
theorem exec_build_two {w : World} {a : Act} {o : Oper} (t : TypeId) (x y : Operand) (ho : o.op = .build t #[(0, x), (1, y)]) {vx vy v : Value} (hx : a.eval x = vx) (hy : a.eval y = vy) (hr : (Instr.build t #[(0, vx), (1, vy)]).run P w = .ok v w) :
    (execOp a.eval o).run P w = .ok (.value v) w := by
  unfold execOp
  simp only [ho, Sem.run_bind, Sem.run_pure, Result.andThen_ok, List.map_toArray, List.map_cons, List.map_nil, hx, hy, hr]
theorem step_buildSlice_one {ops : Array Oper} {o : Oper} {a : Act} {w : World} {K : Act → World → Prop} {Q : Exit → Act → World → Prop} {E : Prop} (hgd : o.guard = none) (t : TypeId) (x : Operand) (ho : o.op = .buildSlice t 1 #[(0, x)]) {v r : Value} {w' : World} (hx : a.eval x = v)
    (hr : (Instr.buildSlice t 1 #[(0, v)]).run P w = .ok r w') (h : K (a.put o.dst r) w') : if Region.wanted o (yielded ops a.tmps) = true then Oper.wp P o a w K Q else E := by
  have hw : Region.wanted o (yielded ops a.tmps) = true := by simp [Region.wanted, hgd]
  rw [if_pos hw]
  unfold Oper.wp execOp
  simp only [ho, Sem.run_bind, Sem.run_pure, Result.andThen_ok, List.map_toArray, List.map_cons, List.map_nil, hx, hr]
  exact h
theorem step_load_run {ops : Array Oper} {o : Oper} {a : Act} {w : World} {K : Act → World → Prop} {Q : Exit → Act → World → Prop} {E : Prop} (hgd : o.guard = none) (ty : TypeId) (x : Operand) (ho : o.op = .load ty x) {v r : Value} (hx : a.eval x = v)
    (hr : (Instr.loadAt ty v).run P w = .ok r w) (h : K (a.put o.dst r) w) : if Region.wanted o (yielded ops a.tmps) = true then Oper.wp P o a w K Q else E := by
  have hw : Region.wanted o (yielded ops a.tmps) = true := by simp [Region.wanted, hgd]
  rw [if_pos hw]
  unfold Oper.wp execOp
  simp only [ho, Sem.run_bind, Sem.run_pure, Result.andThen_ok, hx, hr]
  exact h
theorem step_store_run {ops : Array Oper} {o : Oper} {a : Act} {w : World} {K : Act → World → Prop} {Q : Exit → Act → World → Prop} {E : Prop} (hgd : o.guard = none) (ty : TypeId) (x y : Operand) (ho : o.op = .store ty x y) {p v : Value} {w' : World} (hx : a.eval x = p) (hy : a.eval y = v)
    (hr : (Instr.storeAt ty p v).run P w = .ok () w') (h : K (a.put o.dst undef) w') : if Region.wanted o (yielded ops a.tmps) = true then Oper.wp P o a w K Q else E := by
  have hw : Region.wanted o (yielded ops a.tmps) = true := by simp [Region.wanted, hgd]
  rw [if_pos hw]
  unfold Oper.wp execOp
  simp only [ho, Sem.run_bind, Sem.run_pure, Result.andThen_ok, hx, hy, hr]
  exact h
end
theorem store_loose {W : World} {b n k : Nat} {a : Option Addr} {u : Value} (h : W.cell? ⟨b, 2, none⟩ = some u) (hf : W.frozen? ⟨b, 2, none⟩ = false) : (Instr.storeAt 82 (.pointer (some ⟨b, 2, none⟩)) (.slice a n k)).run Tryd.prog W = .ok () (W.setCell ⟨b, 2, none⟩ (.slice a n k)) := by
  go_simp
theorem load_loose {W : World} {b n k : Nat} {a : Option Addr} (h : W.cell? ⟨b, 2, none⟩ = some (.slice a n k)) : (Instr.loadAt 82 (.pointer (some ⟨b, 2, none⟩))).run Tryd.prog W = .ok (.slice a n k) W := by
  go_simp
theorem info_page : (Tryd.prog.info? 92).map (fun i => (i.zero, i.size, i.bytes)) = some (some (pv zpage.1), 128, 128) := by kernel_rfl
theorem info_write : (Tryd.prog.info? 94).map (fun i => (i.zero, i.size, i.bytes)) = some (some (.agg (wcells (0, zpage)).toArray), 129, 136) := by kernel_rfl
theorem info_int : (Tryd.prog.info? 3).map (fun i => (i.zero, i.size, i.bytes)) = some (some (.int .i64 0), 1, 8) := by kernel_rfl
theorem size_page : (Tryd.prog.info? 92).map (·.size) = some 128 := by
  obtain ⟨i, hi, _, hs, _⟩ := info_parts info_page
  rw [hi, Option.map_some, hs]
theorem size_write : (Tryd.prog.info? 94).map (·.size) = some 129 := by
  obtain ⟨i, hi, _, hs, _⟩ := info_parts info_write
  rw [hi, Option.map_some, hs]
theorem build_write (w : World) (p : Nat) (l : P128) : (Instr.build 94 #[(0, .int .i64 (p : Int)), (1, pv l.1)]).run Tryd.prog w = .ok (.agg (wcells (p, l)).toArray) w := by
  obtain ⟨i, hi, hz, hs, _⟩ := info_parts info_write
  obtain ⟨i0, hi0, hz0, hs0, _⟩ := info_parts info_int
  obtain ⟨i1, hi1, hz1, hs1, _⟩ := info_parts info_page
  have := run_build_two (P := Tryd.prog) (w := w) Tryd.underlying94 hi hz hi0 hi1 rfl (by rw [hs0]) (by rw [hs0, hs1]; simp [Value.cells, wcells_length]) (.int .i64 (p : Int)) (pv l.1) (by rw [hs0]; rfl) (by rw [hs1]; simp [pv, Value.cells, pcells_length, l.2])
  rw [this]
  simp [wcells, pv, Value.cells]
theorem row_write (w : World) (x : Nat × P128) : (Instr.buildSlice 82 1 #[(0, .agg (wcells x).toArray)]).run Tryd.prog w = .ok (.slice (some ⟨w.heap.size, 0, none⟩) 1 1) (w.alloc (.cells (wcells x).toArray 94)) := by
  obtain ⟨i, hi, hz, hs, _⟩ := info_parts info_write
  exact run_buildSlice_one Tryd.underlying82 hi hz (by rw [hs]; simp [Value.cells, wcells_length]) (by omega) (by omega) _ (by rw [hs]; simp [Value.cells, wcells_length])

theorem RegIn.push {w : World} {fp : List Nat} {b M : Nat} {x : Rg} (h : RegIn w fp b M x) (p : Nat) (hp : p < x.size) (l : P128) (hM : M ≤ 1000000) :
    ∃ a cap v' w', w.cell? ⟨b, 2, none⟩ = some (.slice a x.loose.length cap) ∧ (Builtin.append_ #[82, 82] 82 #[.slice a x.loose.length cap, .slice (some ⟨w.heap.size, 0, none⟩) 1 1]).run Tryd.prog (w.alloc (.cells (wcells (p, l)).toArray 94)) = .ok v' w' ∧
      (∃ k, w'.cell? ⟨b, 2, none⟩ = some k) ∧ w'.frozen? ⟨b, 2, none⟩ = false ∧ Only fp w w' ∧ (∃ a' n' c', v' = .slice a' n' c') ∧
      ∃ fp', RegIn (w'.setCell ⟨b, 2, none⟩ v') fp' b (M + 1) { x with loose := x.loose ++ [(p, l)] } ∧ ∀ k ∈ fp', k ∈ fp ∨ w.heap.size ≤ k := by
  obtain ⟨mb, n, v, h1, h2, h3, h4, h5, h6, h7, h8, h9, h10, h11⟩ := h
  obtain ⟨a1, a2⟩ := reg_apart h1 h2 h3
  obtain ⟨a, cap, rfl, _⟩ := own_slice h3
  obtain ⟨i, hi, hz, hs, hby⟩ := info_parts info_write
  have hn : x.loose.length ≤ 1000000 := by omega
  obtain ⟨v', w', hr, ho, hg, hv⟩ := run_append_new (P := Tryd.prog) 0 82 94 i _ 129 136 Tryd.underlying82 hi hz hs hby (by simp [Value.cells, wcells_length]) (by decide) h3 (wcells (p, l)).toArray (by simp [wcells_length]) (fun u hu => wcells_one _ u (by simpa using hu)) (by unfold maxLen; omega) (by omega) (Nat.zero_le _)
  have hb : w'.heap[b]? = some (.cells #[.int .i64 (x.size : Int), .map (some mb), .slice a x.loose.length cap, .int .i64 x.left, .bool x.down] 84 (0, 0)) :=
    (hg.block b (h8 b h5) (fun e => (a2 b e.symm).1 rfl)).trans h1
  have hmb : w'.heap[mb]? = w.heap[mb]? := hg.block mb (h8 mb h6) (fun e => (a2 mb e.symm).2 rfl)
  have hO : Only fp w w' := Only.of_grown hg (fun k hk => .inl (h7 k hk))
  obtain ⟨a', cap', rfl, _⟩ := own_slice ho
  have hv2 : ∀ k, Value.ownBlock (.slice a' (x.loose.length + 1) cap') = some k → k ≠ b := fun k hk => by
    rcases hv with hv | hv
    · rw [hv] at hk; exact (a2 k hk).1
    · rw [hv] at hk; cases hk; have := h8 b h5; omega
  refine ⟨a, cap, _, w', by simp [World.cell?, h1], hr, ⟨_, by simp only [World.cell?, hb]; rfl⟩, by simp [World.frozen?, hb], hO, ⟨_, _, _, rfl⟩, fp ++ (Value.ownBlock (.slice a' (x.loose.length + 1) cap')).toList, ?_, ?_⟩
  · have hO2 : Only [b] w' (w'.setCell ⟨b, 2, none⟩ (.slice a' (x.loose.length + 1) cap')) := (Only.refl _ _).set _ _ (by simp)
    refine ⟨mb, n, .slice a' (x.loose.length + 1) cap', ?_, ?_, ?_, ?_, List.mem_append_left _ h5, List.mem_append_left _ h6, fun k hk => List.mem_append_right _ (by rw [hk]; simp), fun k hk => ?_, h9, ?_, h11⟩
    · rw [heap_setCell_at 2 _ hb]; rfl
    · exact h2.kept ((hO2.block (Nat.lt_of_lt_of_le (h8 mb h6) hg.size) (by simpa using a1)).trans hmb)
    · have := own_only ho hO2 (fun k hk => by simpa using hv2 k hk)
      simpa using this
    · simp; omega
    · have hlt : k < w'.heap.size := by
        rcases List.mem_append.1 hk with hk | hk
        · exact Nat.lt_of_lt_of_le (h8 k hk) hg.size
        · rcases ho.2 with ⟨e, _⟩ | ⟨g, c, cur, e, _, hh, _⟩
          · rw [e] at hk; simp [Value.ownBlock] at hk
          · rw [e] at hk; simp [Value.ownBlock] at hk; subst hk; exact (Array.getElem?_eq_some_iff.1 hh).1
      exact Nat.lt_of_lt_of_le hlt hO2.size
    · intro q hq
      rcases List.mem_append.1 hq with hq | hq
      · exact h10 q hq
      · simp at hq; subst hq; exact hp
  · intro k hk
    rcases List.mem_append.1 hk with hk | hk
    · exact .inl hk
    · rcases hv with hv | hv
      · rw [hv] at hk; exact .inl (h7 k (by simpa using hk))
      · rw [hv] at hk; simp at hk; right; omega
end Go.Proofs.YtfidfbgplfjakaaDoor

/- The walk of Write (printed by gen_dskQ.py). -/
namespace Go.Proofs.YtfidfbgplfjakaaDoor
open Go.RowKit

theorem Bs.range {w : World} {g off len cap : Nat} {l : List UInt8} (h : Bs w (some ⟨g, off, none⟩) len cap l) : w.rangeAt g off (pcells l) := by
  intro j v hv
  have hj : j < len := by
    have := (List.getElem?_eq_some_iff.1 hv).1
    rw [pcells_length] at this; have := h.len; omega
  obtain ⟨b, o, e, _, hc⟩ := h.cell hj
  cases e
  rw [hc j hj]
  have hl : j < l.length := by have := h.len; omega
  simp [pcells, toI, List.getElem?_eq_getElem hl] at hv
  rw [List.getElem?_eq_getElem hl, Option.getD_some, hv]
theorem rangeAt_only {S : List Nat} {w w' : World} {g off : Nat} {cs : List Value} (h : w.rangeAt g off cs) (ho : Only S w w') (hg : g ∉ S) : w'.rangeAt g off cs := fun j v hv => by
  have h1 := h j v hv
  rw [← h1]
  exact World.cell?_of_block (ho.block (World.block_lt_of_cell? w _ h1) hg)
theorem atR_of {d : List Rg} {i : Nat} {x : Rg} (h : d[i]? = some x) : atR d (i : Int) = x := by rw [atR, Int.toNat_natCast, h]; rfl
theorem cntE_or (x : Rg) : cntE x = 0 ∨ cntE x = 3 := by unfold cntE; split <;> simp
theorem wrote_size (x : Rg) : (cntR x).size = x.size := by unfold cntR; split <;> (try split) <;> rfl
theorem pagedE_zero {d : List Rg} {r p : Int} (h : pagedE d r p = 0) : ∃ i pn : Nat, ∃ x, r = i ∧ p = pn ∧ d[i]? = some x ∧ x.down = false ∧ pn < x.size := by
  unfold pagedE at h
  split at h
  · rename_i hu
    split at h
    · rename_i hp
      unfold upE at hu
      split at hu
      · rename_i hr
        obtain ⟨i, rfl⟩ := Int.eq_ofNat_of_zero_le hr.1
        obtain ⟨pn, rfl⟩ := Int.eq_ofNat_of_zero_le hp.1
        have hi : i < d.length := by omega
        have hx : d[i]? = some d[i] := List.getElem?_eq_getElem hi
        rw [atR_of hx] at hp
        rw [Int.toNat_natCast, hx] at hu
        refine ⟨i, pn, _, rfl, rfl, hx, ?_, by omega⟩
        cases hd : d[i].down
        · rfl
        · simp [hd] at hu
      · cases hu
    · cases h
  · rename_i hu
    exact absurd h hu

def WritePost (w : World) (F : List Nat) (db M : Nat) (d : List Rg) (r p : Int) (l : List UInt8) (e : Ending) (w' : World) : Prop :=
  e = .returned (.int .i64 (writeE d r p l)) ∧ Only F w w' ∧ ∃ F' bs', DskIn w' F' db (M + 1) bs' (writeD d r p l) ∧ ∀ k ∈ F', k ∈ F ∨ w.heap.size ≤ k
set_option maxRecDepth 100000 in
set_option maxHeartbeats 8000000 in
theorem write_wide {w : World} {F : List Nat} {db M : Nat} {bs : List (Nat × List Nat)} {d : List Rg} (h : DskIn w F db M bs d) {a : Option Addr} {len cap : Nat} {l : List UInt8} (hb : Bs w a len cap l) (hF : len = 128 → ∀ g off, a = some ⟨g, off, none⟩ → g ∉ F) (hM : M ≤ 900000) (r p : Int) :
    Calls Tryd.prog 16 #[.pointer (some ⟨db, 0, none⟩), .int .i64 r, .int .i64 p, .slice a len cap] w (WritePost w F db M d r p l) := by
  have U := paged_any h r p
  have hll := hb.len
  by_cases hu : pagedE d r p = 0
  · obtain ⟨i, pn, x, rfl, rfl, hx, hdn, hpn⟩ := pagedE_zero hu
    have hi : i < d.length := (List.getElem?_eq_some_iff.1 hx).1
    obtain ⟨q, hq⟩ : ∃ q, bs[i]? = some q := ⟨_, List.getElem?_eq_getElem (by rw [h.len]; exact hi)⟩
    rw [hu] at U
    have U : Calls Tryd.prog 35 #[.pointer (some ⟨db, 0, none⟩), .int .i64 (i : Int), .int .i64 (pn : Int)] w fun e w' => e = .returned (.tuple #[.pointer (some ⟨q.1, 0, none⟩), .int .i64 0]) ∧ w = w' := U.mono fun e w' ⟨h1, h2⟩ => by
      refine ⟨?_, h2⟩
      rcases h1 with ⟨_, q', hq', he⟩ | ⟨h0, _⟩
      · rw [Int.toNat_natCast, hq] at hq'; cases hq'; exact he
      · exact absurd rfl h0
    have hE : writeE d i pn l = if l.length = 128 then cntE x else 1 := by rw [writeE, if_pos hu, atR_of hx]
    have hD : writeD d i pn l = if l.length = 128 then d.set i (wroteR x pn (toP l)) else d := by
      unfold writeD
      rw [atR_of hx, Int.toNat_natCast, Int.toNat_natCast]
      by_cases h1 : l.length = 128
      · rw [if_pos ⟨hu, h1⟩, if_pos h1]
      · rw [if_neg (fun h => h1 h.2), if_neg h1]
    by_cases hl : l.length = 128
    · rw [if_pos hl] at hE hD
      obtain rfl : len = 128 := by omega
      obtain ⟨g, off, rfl, hg, _⟩ := hb.cell (k := 0) (by omega)
      have hgF := hF rfl g off rfl
      have hgq : g ∉ q.2 := fun e => hgF (h.sub q (List.mem_of_getElem? hq) g e)
      have C := count_any (h.reg i q x hq hx)
      have R0 := hb.range
      rcases cntE_or x with hc | hc
      · -- it goes
        have hwr : wroteR x pn (toP l) = { cntR x with loose := (cntR x).loose ++ [(pn, toP l)] } := by
          unfold wroteR; rw [if_pos hc]
          unfold cntR; split <;> (try split) <;> rfl
        have KEY : ∀ w1, CountPost w q.2 q.1 M x (.returned (.int .i64 0)) w1 → ∃ a9 n9 k9 v9 m9 j9 w9, w1.cell? ⟨q.1, 2, none⟩ = some (.slice a9 n9 k9) ∧ (Builtin.append_ #[82, 82] 82 #[.slice a9 n9 k9, .slice (some ⟨w1.drew.heap.size, 0, none⟩) 1 1]).run Tryd.prog (w1.drew.alloc (.cells (wcells (pn, ⟨l, hl⟩)).toArray 94)) = .ok (.slice v9 m9 j9) w9 ∧
            (∃ k, w9.cell? ⟨q.1, 2, none⟩ = some k) ∧ w9.frozen? ⟨q.1, 2, none⟩ = false ∧ w1.drew.rangeAt g off (pcells l) ∧ w9.rangeAt g off (pcells l) ∧ (w9.setCell ⟨q.1, 2, none⟩ (.slice v9 m9 j9)).rangeAt g off (pcells l) ∧
            WritePost w F db M d i pn l (.returned (.int .i64 0)) (w9.setCell ⟨q.1, 2, none⟩ (.slice v9 m9 j9)) := by
          rintro w1 ⟨_, o1, r1⟩
          have hqb : q.1 ∈ q.2 := by obtain ⟨_, _, _, _, _, _, _, h5, _⟩ := h.reg i q x hq hx; exact h5
          obtain ⟨a9, k9, _, w9, c1, c2, c3, c4, c5, ⟨v9, m9, j9, rfl⟩, fp', c7, c8⟩ := (r1.only (S := []) (Only.refl _ _).drew (fun _ _ => by simp)).push pn (by rw [wrote_size]; exact hpn) ⟨l, hl⟩ (by omega)
          have o2 : Only q.2 w w9 := o1.drew.trans c5
          have o3 : Only q.2 w (w9.setCell ⟨q.1, 2, none⟩ (.slice v9 m9 j9)) := o2.set _ _ hqb
          have hs := o1.size
          refine ⟨a9, _, k9, v9, m9, j9, w9, c1, c2, c3, c4, rangeAt_only R0 o1.drew hgq, rangeAt_only R0 o2 hgq, rangeAt_only R0 o3 hgq, by rw [hE, hc], o3.mono (fun k hk => h.sub q (List.mem_of_getElem? hq) k hk), ?_⟩
          have hf : ∀ k ∈ fp', k ∈ q.2 ∨ w.heap.size ≤ k := fun k hk => (c8 k hk).imp id (fun h => Nat.le_trans hs h)
          rw [hD, hwr, show toP l = ⟨l, hl⟩ by rw [toP, dif_pos hl]]
          refine ⟨_, _, h.turn hq o3 c7 hf (Nat.le_succ M), fun k hk => ?_⟩
          rcases List.mem_append.1 hk with hk | hk
          · exact .inl hk
          · exact (hf k hk).imp (fun e => h.sub q (List.mem_of_getElem? hq) k e) id
        have C : Calls Tryd.prog 36 #[.pointer (some ⟨q.1, 0, none⟩)] w fun e w1 => e = .returned (.int .i64 0) ∧ CountPost w q.2 q.1 M x (.returned (.int .i64 0)) w1 := C.mono fun e w1 ⟨h1, h2, h3⟩ => ⟨by rw [h1, hc], by rw [hc], h2, h3⟩
        clear h hb hF hu hx hdn hq hE hD hgF hgq hll R0 hwr hg hc hi hpn hM
        go_enter Tryd.func16, Tryd.ntmps16
        go_wp2_with fail
        refine U.mono ?_
        rintro e w0 ⟨rfl, rfl⟩
        go_wp2_with fail
        refine C.mono ?_
        rintro e w1 ⟨rfl, hC⟩
        obtain ⟨a9, n9, k9, v9, m9, j9, w9, c9, hr9, ⟨k2, c10⟩, f10, hR, h9, h10, END⟩ := KEY w1 hC
        have hA := World.rangeAt_alloc hR (.cells (wcells (pn, ⟨l, hl⟩)).toArray 94)
        have hlt9 := World.block_lt_of_cell? w1 _ c9
        have cA : (w1.drew.alloc (.cells (wcells (pn, ⟨l, hl⟩)).toArray 94)).cell? ⟨q.1, 2, none⟩ = some (.slice a9 n9 k9) := ((Below.refl w1.heap.size w1.drew).alloc (Nat.le_refl _) _).cell (p := ⟨q.1, 2, none⟩) hlt9 |>.trans c9
        have c9 : w1.drew.cell? ⟨q.1, 2, none⟩ = some (.slice a9 n9 k9) := c9
        have END := Lib.hid END
        clear KEY hC C U
        go_wp2_with fail
        refine wp_region_noPanic ?_
        refine wp_region_held_drew (S := fun W => W.rangeAt g off (pcells l)) (by kernel_rfl) (by exact hR) (fun hHeld => ?_)
        refine wpAnyH_take (i := 0) (oi := { dst := some 30, op := Op.move (Operand.tmp 9), type := 80, pos := "disk.go:120", after := #[], guard := none }) (v := ?_) rfl (by kernel_rfl) (by kernel_rfl) (by kernel_rfl) (fun _ _ _ h => h) (Or.inl ⟨by rfl, ?_⟩) (by assumption) ?_
        rotate_left
        · (intro W hW; (try dsimp only at hW); go_simp <;> (with_reducible rfl))
        try simp only [Act.put, List.setIfInBounds_toArray, List.set_cons_zero, List.set_cons_succ]
        refine wpAnyH_take (i := 1) (oi := { dst := some 31, op := Op.move (Operand.tmp 9), type := 80, pos := "disk.go:120", after := #[], guard := none }) (v := ?_) rfl (by kernel_rfl) (by kernel_rfl) (by kernel_rfl) (fun _ _ _ h => h) (Or.inl ⟨by rfl, ?_⟩) (by assumption) ?_
        rotate_left
        · (intro W hW; (try dsimp only at hW); go_simp <;> (with_reducible rfl))
        try simp only [Act.put, List.setIfInBounds_toArray, List.set_cons_zero, List.set_cons_succ]
        refine wpAnyH_take (i := 2) (oi := { dst := some 32, op := Op.nilCheck (Operand.tmp 31), type := 0, pos := "disk.go:120", after := #[{ on := 1, ground := Ground.data }], guard := none }) (v := ?_) rfl (by kernel_rfl) (by kernel_rfl) (by kernel_rfl) (fun _ _ _ h => h) (Or.inl ⟨by rfl, ?_⟩) (by assumption) ?_
        rotate_left
        · (intro W hW; (try dsimp only at hW); go_simp <;> (with_reducible rfl))
        try simp only [Act.put, List.setIfInBounds_toArray, List.set_cons_zero, List.set_cons_succ]
        refine wpAnyH_take (i := 3) (oi := { dst := some 33, op := Op.fieldAddr 84 (Operand.tmp 32) 2, type := 0, pos := "disk.go:120", after := #[{ on := 2, ground := Ground.data }], guard := none }) (v := ?_) rfl (by kernel_rfl) (by kernel_rfl) (by kernel_rfl) (fun _ _ _ h => h) (Or.inl ⟨by rfl, ?_⟩) (by assumption) ?_
        rotate_left
        · (intro W hW; (try dsimp only at hW); go_simp <;> (with_reducible rfl))
        try simp only [Act.put, List.setIfInBounds_toArray, List.set_cons_zero, List.set_cons_succ]
        refine wpAnyH_take (i := 5) (oi := { dst := some 35, op := Op.move (Operand.tmp 2), type := 3, pos := "disk.go:120", after := #[], guard := none }) (v := ?_) rfl (by kernel_rfl) (by kernel_rfl) (by kernel_rfl) (fun _ _ _ h => h) (Or.inl ⟨by rfl, ?_⟩) (by assumption) ?_
        rotate_left
        · (intro W hW; (try dsimp only at hW); go_simp <;> (with_reducible rfl))
        try simp only [Act.put, List.setIfInBounds_toArray, List.set_cons_zero, List.set_cons_succ]
        refine wpAnyH_take (i := 6) (oi := { dst := some 36, op := Op.move (Operand.tmp 3), type := 31, pos := "disk.go:120", after := #[], guard := none }) (v := ?_) rfl (by kernel_rfl) (by kernel_rfl) (by kernel_rfl) (fun _ _ _ h => h) (Or.inl ⟨by rfl, ?_⟩) (by assumption) ?_
        rotate_left
        · (intro W hW; (try dsimp only at hW); go_simp <;> (with_reducible rfl))
        try simp only [Act.put, List.setIfInBounds_toArray, List.set_cons_zero, List.set_cons_succ]
        refine wpAnyH_take (i := 7) (oi := { dst := some 37, op := Op.sliceToArrayPointer 92 (Operand.tmp 36), type := 0, pos := "disk.go:120", after := #[{ on := 6, ground := Ground.data }], guard := none }) (v := .pointer (some ⟨g, off, none⟩)) rfl (by kernel_rfl) (by kernel_rfl) (by kernel_rfl) (fun _ _ _ h => h) (Or.inl ⟨by rfl, fun W _ => exec_arrayAt 92 _ rfl rfl Tryd.underlying92 (Nat.le_refl _)⟩) (by assumption) ?_
        try simp only [Act.put, List.setIfInBounds_toArray, List.set_cons_zero, List.set_cons_succ]
        refine wpAnyH_take (i := 8) (oi := { dst := some 38, op := Op.load 92 (Operand.tmp 37), type := 92, pos := "disk.go:120", after := #[{ on := 7, ground := Ground.data }], guard := none }) (v := pv l) rfl (by kernel_rfl) (by kernel_rfl) (by kernel_rfl) (fun _ _ _ h => h) (Or.inl ⟨by rfl, fun W hW => exec_load_mid 92 _ rfl g off rfl (pcells l) _ hW Tryd.underlying92 rfl (by rw [size_page, pcells_length, hl])⟩) (by assumption) ?_
        try simp only [Act.put, List.setIfInBounds_toArray, List.set_cons_zero, List.set_cons_succ]
        refine wpAnyH_take (i := 9) (oi := { dst := some 39, op := Op.build 94 #[(0, Operand.tmp 35), (1, Operand.tmp 38)], type := 94, pos := "disk.go:120", after := #[{ on := 5, ground := Ground.data }, { on := 8, ground := Ground.data }], guard := none }) (v := .agg (wcells (pn, ⟨l, hl⟩)).toArray) rfl (by kernel_rfl) (by kernel_rfl) (by kernel_rfl) (fun _ _ _ h => h) (Or.inl ⟨by rfl, fun W _ => exec_build_two (vx := .int .i64 (pn : Int)) (vy := pv l) 94 _ _ rfl rfl rfl (build_write W pn ⟨l, hl⟩)⟩) (by assumption) ?_
        try simp only [Act.put, List.setIfInBounds_toArray, List.set_cons_zero, List.set_cons_succ]
        refine wpAnyH_ready (rs := [4, 10]) (by kernel_rfl) (by simp) (AllReadyH.cons (o := { dst := some 34, op := Op.load 82 (Operand.tmp 33), type := 82, pos := "disk.go:120", after := #[{ on := 3, ground := Ground.data }], guard := none }) rfl (fun K hK => ?_) (AllReadyH.cons (o := { dst := some 40, op := Op.buildSlice 82 1 #[(0, Operand.tmp 39)], type := 82, pos := "disk.go:120", after := #[{ on := 9, ground := Ground.data }], guard := none }) rfl (fun K hK => ?_) AllReadyH.nil))
        · refine step_load_run rfl 82 _ rfl rfl (load_loose c9) ?_
          refine hK.out _ _ (by with_reducible assumption) (fun hHeld => ?_)
          clear hK K
          try simp only [Act.put, List.setIfInBounds_toArray, List.set_cons_zero, List.set_cons_succ]
          refine wpAnyH_ready (rs := [10]) (by kernel_rfl) (by simp) (AllReadyH.cons (o := { dst := some 40, op := Op.buildSlice 82 1 #[(0, Operand.tmp 39)], type := 82, pos := "disk.go:120", after := #[{ on := 9, ground := Ground.data }], guard := none }) rfl (fun K hK => ?_) AllReadyH.nil)
          refine step_buildSlice_one rfl 82 _ rfl rfl (row_write _ _) ?_
          refine hK.out _ _ (by exact hA) (fun hHeld => ?_)
          clear hK K
          try simp only [Act.put, List.setIfInBounds_toArray, List.set_cons_zero, List.set_cons_succ]
          refine wpAnyH_ready (rs := [11]) (by kernel_rfl) (by simp) (AllReadyH.cons (o := { dst := some 41, op := Op.call { callee := Callee.builtin Builtin.append, args := #[Operand.tmp 34, Operand.tmp 40], argTypes := #[82, 82] }, type := 82, pos := "disk.go:120", after := #[{ on := 4, ground := Ground.data }, { on := 10, ground := Ground.data }], guard := none }) rfl (fun K hK => ?_) AllReadyH.nil)
          refine step_append_run rfl _ _ _ _ rfl rfl rfl hr9 ?_
          refine hK.out _ _ (by exact h9) (fun hHeld => ?_)
          clear hK K
          try simp only [Act.put, List.setIfInBounds_toArray, List.set_cons_zero, List.set_cons_succ]
          refine wpAnyH_take (i := 12) (oi := { dst := some 42, op := Op.nilCheck (Operand.tmp 30), type := 0, pos := "disk.go:120", after := #[{ on := 0, ground := Ground.data }, { on := 0, ground := Ground.phase }, { on := 1, ground := Ground.phase }, { on := 2, ground := Ground.phase }, { on := 3, ground := Ground.phase }, { on := 4, ground := Ground.phase }, { on := 5, ground := Ground.phase }, { on := 6, ground := Ground.phase }, { on := 7, ground := Ground.phase }, { on := 8, ground := Ground.phase }, { on := 9, ground := Ground.phase }, { on := 10, ground := Ground.phase }, { on := 11, ground := Ground.phase }], guard := none }) (v := ?_) rfl (by kernel_rfl) (by kernel_rfl) (by kernel_rfl) (fun _ _ _ h => h) (Or.inl ⟨by rfl, ?_⟩) (by assumption) ?_
          rotate_left
          · (intro W hW; (try dsimp only at hW); go_simp <;> (with_reducible rfl))
          try simp only [Act.put, List.setIfInBounds_toArray, List.set_cons_zero, List.set_cons_succ]
          refine wpAnyH_take (i := 13) (oi := { dst := some 43, op := Op.fieldAddr 84 (Operand.tmp 42) 2, type := 0, pos := "disk.go:120", after := #[{ on := 12, ground := Ground.data }, { on := 0, ground := Ground.phase }, { on := 1, ground := Ground.phase }, { on := 2, ground := Ground.phase }, { on := 3, ground := Ground.phase }, { on := 4, ground := Ground.phase }, { on := 5, ground := Ground.phase }, { on := 6, ground := Ground.phase }, { on := 7, ground := Ground.phase }, { on := 8, ground := Ground.phase }, { on := 9, ground := Ground.phase }, { on := 10, ground := Ground.phase }, { on := 11, ground := Ground.phase }], guard := none }) (v := ?_) rfl (by kernel_rfl) (by kernel_rfl) (by kernel_rfl) (fun _ _ _ h => h) (Or.inl ⟨by rfl, ?_⟩) (by assumption) ?_
          rotate_left
          · (intro W hW; (try dsimp only at hW); go_simp <;> (with_reducible rfl))
          try simp only [Act.put, List.setIfInBounds_toArray, List.set_cons_zero, List.set_cons_succ]
          refine wpAnyH_ready (rs := [14]) (by kernel_rfl) (by simp) (AllReadyH.cons (o := { dst := none, op := Op.store 82 (Operand.tmp 43) (Operand.tmp 41), type := 0, pos := "disk.go:120", after := #[{ on := 13, ground := Ground.data }, { on := 11, ground := Ground.data }, { on := 11, ground := Ground.chain }, { on := 0, ground := Ground.phase }, { on := 1, ground := Ground.phase }, { on := 2, ground := Ground.phase }, { on := 3, ground := Ground.phase }, { on := 4, ground := Ground.phase }, { on := 5, ground := Ground.phase }, { on := 6, ground := Ground.phase }, { on := 7, ground := Ground.phase }, { on := 8, ground := Ground.phase }, { on := 9, ground := Ground.phase }, { on := 10, ground := Ground.phase }, { on := 11, ground := Ground.phase }], guard := none }) rfl (fun K hK => ?_) AllReadyH.nil)
          refine step_store_run rfl 82 _ _ rfl rfl rfl (store_loose c10 f10) ?_
          refine hK.out _ _ (by exact h10) (fun hHeld => ?_)
          clear hK K
          refine wpAnyH_done (by kernel_rfl) ?_ _
          refine NoPanic.normal ?_
          clear hHeld
          go_wp2_with fail
          go_ret
          exact END.out
        · refine step_buildSlice_one rfl 82 _ rfl rfl (row_write _ _) ?_
          refine hK.out _ _ (by exact hA) (fun hHeld => ?_)
          clear hK K
          try simp only [Act.put, List.setIfInBounds_toArray, List.set_cons_zero, List.set_cons_succ]
          refine wpAnyH_ready (rs := [4]) (by kernel_rfl) (by simp) (AllReadyH.cons (o := { dst := some 34, op := Op.load 82 (Operand.tmp 33), type := 82, pos := "disk.go:120", after := #[{ on := 3, ground := Ground.data }], guard := none }) rfl (fun K hK => ?_) AllReadyH.nil)
          refine step_load_run rfl 82 _ rfl rfl (load_loose cA) ?_
          refine hK.out _ _ (by exact hA) (fun hHeld => ?_)
          clear hK K
          try simp only [Act.put, List.setIfInBounds_toArray, List.set_cons_zero, List.set_cons_succ]
          refine wpAnyH_ready (rs := [11]) (by kernel_rfl) (by simp) (AllReadyH.cons (o := { dst := some 41, op := Op.call { callee := Callee.builtin Builtin.append, args := #[Operand.tmp 34, Operand.tmp 40], argTypes := #[82, 82] }, type := 82, pos := "disk.go:120", after := #[{ on := 4, ground := Ground.data }, { on := 10, ground := Ground.data }], guard := none }) rfl (fun K hK => ?_) AllReadyH.nil)
          refine step_append_run rfl _ _ _ _ rfl rfl rfl hr9 ?_
          refine hK.out _ _ (by exact h9) (fun hHeld => ?_)
          clear hK K
          try simp only [Act.put, List.setIfInBounds_toArray, List.set_cons_zero, List.set_cons_succ]
          refine wpAnyH_take (i := 12) (oi := { dst := some 42, op := Op.nilCheck (Operand.tmp 30), type := 0, pos := "disk.go:120", after := #[{ on := 0, ground := Ground.data }, { on := 0, ground := Ground.phase }, { on := 1, ground := Ground.phase }, { on := 2, ground := Ground.phase }, { on := 3, ground := Ground.phase }, { on := 4, ground := Ground.phase }, { on := 5, ground := Ground.phase }, { on := 6, ground := Ground.phase }, { on := 7, ground := Ground.phase }, { on := 8, ground := Ground.phase }, { on := 9, ground := Ground.phase }, { on := 10, ground := Ground.phase }, { on := 11, ground := Ground.phase }], guard := none }) (v := ?_) rfl (by kernel_rfl) (by kernel_rfl) (by kernel_rfl) (fun _ _ _ h => h) (Or.inl ⟨by rfl, ?_⟩) (by assumption) ?_
          rotate_left
          · (intro W hW; (try dsimp only at hW); go_simp <;> (with_reducible rfl))
          try simp only [Act.put, List.setIfInBounds_toArray, List.set_cons_zero, List.set_cons_succ]
          refine wpAnyH_take (i := 13) (oi := { dst := some 43, op := Op.fieldAddr 84 (Operand.tmp 42) 2, type := 0, pos := "disk.go:120", after := #[{ on := 12, ground := Ground.data }, { on := 0, ground := Ground.phase }, { on := 1, ground := Ground.phase }, { on := 2, ground := Ground.phase }, { on := 3, ground := Ground.phase }, { on := 4, ground := Ground.phase }, { on := 5, ground := Ground.phase }, { on := 6, ground := Ground.phase }, { on := 7, ground := Ground.phase }, { on := 8, ground := Ground.phase }, { on := 9, ground := Ground.phase }, { on := 10, ground := Ground.phase }, { on := 11, ground := Ground.phase }], guard := none }) (v := ?_) rfl (by kernel_rfl) (by kernel_rfl) (by kernel_rfl) (fun _ _ _ h => h) (Or.inl ⟨by rfl, ?_⟩) (by assumption) ?_
          rotate_left
          · (intro W hW; (try dsimp only at hW); go_simp <;> (with_reducible rfl))
          try simp only [Act.put, List.setIfInBounds_toArray, List.set_cons_zero, List.set_cons_succ]
          refine wpAnyH_ready (rs := [14]) (by kernel_rfl) (by simp) (AllReadyH.cons (o := { dst := none, op := Op.store 82 (Operand.tmp 43) (Operand.tmp 41), type := 0, pos := "disk.go:120", after := #[{ on := 13, ground := Ground.data }, { on := 11, ground := Ground.data }, { on := 11, ground := Ground.chain }, { on := 0, ground := Ground.phase }, { on := 1, ground := Ground.phase }, { on := 2, ground := Ground.phase }, { on := 3, ground := Ground.phase }, { on := 4, ground := Ground.phase }, { on := 5, ground := Ground.phase }, { on := 6, ground := Ground.phase }, { on := 7, ground := Ground.phase }, { on := 8, ground := Ground.phase }, { on := 9, ground := Ground.phase }, { on := 10, ground := Ground.phase }, { on := 11, ground := Ground.phase }], guard := none }) rfl (fun K hK => ?_) AllReadyH.nil)
          refine step_store_run rfl 82 _ _ rfl rfl rfl (store_loose c10 f10) ?_
          refine hK.out _ _ (by exact h10) (fun hHeld => ?_)
          clear hK K
          refine wpAnyH_done (by kernel_rfl) ?_ _
          refine NoPanic.normal ?_
          clear hHeld
          go_wp2_with fail
          go_ret
          exact END.out
      · -- it stops
        have END : ∀ w1, CountPost w q.2 q.1 M x (.returned (.int .i64 3)) w1 → WritePost w F db M d i pn l (.returned (.int .i64 3)) w1 := by
          rintro w1 ⟨_, o1, r1⟩
          refine ⟨by rw [hE, hc], o1.mono (fun k hk => h.sub q (List.mem_of_getElem? hq) k hk), ?_⟩
          rw [hD, wroteR, if_neg (by rw [hc]; decide)]
          refine ⟨_, _, h.turn hq o1 (r1.more (Nat.le_succ M)) (fun k hk => .inl hk) (Nat.le_succ M), fun k hk => ?_⟩
          rcases List.mem_append.1 hk with hk | hk
          · exact .inl hk
          · exact .inl (h.sub q (List.mem_of_getElem? hq) k hk)
        have C : Calls Tryd.prog 36 #[.pointer (some ⟨q.1, 0, none⟩)] w fun e w1 => e = .returned (.int .i64 3) ∧ CountPost w q.2 q.1 M x (.returned (.int .i64 3)) w1 := C.mono fun e w1 ⟨h1, h2, h3⟩ => ⟨by rw [h1, hc], by rw [hc], h2, h3⟩
        clear h hb hF hu hx hdn hq hE hD hgF hgq hll R0 hg hc hi hpn hM
        go_enter Tryd.func16, Tryd.ntmps16
        go_wp2_with fail
        refine U.mono ?_
        rintro e w0 ⟨rfl, rfl⟩
        go_wp2_with fail
        refine C.mono ?_
        rintro e w1 ⟨rfl, hC⟩
        have END := Lib.hid (END w1 hC)
        clear hC C U
        go_wp2
        go_ret
        exact END.out
    · rw [if_neg hl] at hE hD
      have q0 : ((len : Int) == 128) = false := by simp; omega
      have q1 : (len == 128) = false := by simp; omega
      have END := Lib.hid (show WritePost w F db M d i pn l (.returned (.int .i64 1)) w from ⟨by rw [hE], Only.refl _ _, F, bs, by rw [hD]; exact h.more (Nat.le_succ M), fun k hk => .inl hk⟩)
      clear h hb hF hu hx hdn hq hE hD hll hi hpn hM hl
      go_enter Tryd.func16, Tryd.ntmps16
      go_wp2_with fail
      refine U.mono ?_
      rintro e w0 ⟨rfl, rfl⟩
      go_wp2
      go_ret
      exact END.out
  · have hE : writeE d r p l = pagedE d r p := by rw [writeE, if_neg hu]
    have hD : writeD d r p l = d := by rw [writeD, if_neg (fun h => hu h.1)]
    have END := Lib.hid (show WritePost w F db M d r p l (.returned (.int .i64 (pagedE d r p))) w from ⟨by rw [hE], Only.refl _ _, F, bs, by rw [hD]; exact h.more (Nat.le_succ M), fun k hk => .inl hk⟩)
    have q0 : (pagedE d r p == 0) = false := by simpa using hu
    clear hE hD
    generalize pagedE d r p = er at *
    have U : Calls Tryd.prog 35 #[.pointer (some ⟨db, 0, none⟩), .int .i64 r, .int .i64 p] w fun e w' => e = .returned (.tuple #[.pointer none, .int .i64 er]) ∧ w = w' := U.mono fun e w' ⟨h1, h2⟩ => by
      refine ⟨?_, h2⟩
      rcases h1 with ⟨h0, _⟩ | ⟨_, he⟩
      · exact absurd h0 hu
      · exact he
    clear hu h hb hF hll hM
    go_enter Tryd.func16, Tryd.ntmps16
    go_wp2_with fail
    refine U.mono ?_
    rintro e w0 ⟨rfl, rfl⟩
    go_wp2
    go_ret
    exact END.out
theorem write_any {w : World} {F : List Nat} {db M : Nat} {bs : List (Nat × List Nat)} {d : List Rg} (h : DskIn w F db M bs d) {a : Option Addr} {len cap : Nat} {l : List UInt8} (hb : Bs w a len cap l) (hF : ∀ g off, a = some ⟨g, off, none⟩ → g ∉ F) (hM : M ≤ 900000) (r p : Int) :
    Calls Tryd.prog 16 #[.pointer (some ⟨db, 0, none⟩), .int .i64 r, .int .i64 p, .slice a len cap] w (WritePost w F db M d r p l) := write_wide h hb (fun _ => hF) hM r p
end Go.Proofs.YtfidfbgplfjakaaDoor

/- The walks of Stop; what no disk answers. -/
namespace Go.Proofs.YtfidfbgplfjakaaDoor
open Go.RowKit

set_option maxRecDepth 100000 in
set_option maxHeartbeats 1000000 in
theorem up_nil (r : Int) (w : World) : Calls Tryd.prog 51 #[.pointer none, .int .i64 r] w fun e w' => e = .returned (.tuple #[.pointer none, .int .i64 1]) ∧ w = w' := by
  have O := of_nil r w
  go_enter Tryd.func51, Tryd.ntmps51
  go_wp2_with fail
  refine O.mono ?_
  rintro e w' ⟨rfl, rfl⟩
  go_wp2
  go_ret2
  exact ⟨rfl, rfl⟩
set_option maxRecDepth 100000 in
set_option maxHeartbeats 1000000 in
theorem paged_nil (r p : Int) (w : World) : Calls Tryd.prog 35 #[.pointer none, .int .i64 r, .int .i64 p] w fun e w' => e = .returned (.tuple #[.pointer none, .int .i64 1]) ∧ w = w' := by
  have O := up_nil r w
  go_enter Tryd.func35, Tryd.ntmps35
  go_wp2_with fail
  refine O.mono ?_
  rintro e w' ⟨rfl, rfl⟩
  go_wp2
  go_ret2
  exact ⟨rfl, rfl⟩
set_option maxRecDepth 100000 in
set_option maxHeartbeats 1000000 in
theorem write_nil (r p : Int) (v : Value) (w : World) : Calls Tryd.prog 16 #[.pointer none, .int .i64 r, .int .i64 p, v] w fun e w' => e = .returned (.int .i64 1) ∧ w = w' := by
  have O := paged_nil r p w
  go_enter Tryd.func16, Tryd.ntmps16
  go_wp2_with fail
  refine O.mono ?_
  rintro e w' ⟨rfl, rfl⟩
  go_wp2
  go_ret
  exact ⟨rfl, rfl⟩
set_option maxRecDepth 100000 in
set_option maxHeartbeats 1000000 in
theorem dread_nil (r p : Int) (w : World) : Calls Tryd.prog 52 #[.pointer none, .int .i64 r, .int .i64 p] w fun e w' => e = .returned (.tuple #[.slice none 0 0, .int .i64 1]) ∧ w = w' := by
  have O := paged_nil r p w
  go_enter Tryd.func52, Tryd.ntmps52
  go_wp2_with fail
  refine O.mono ?_
  rintro e w' ⟨rfl, rfl⟩
  go_wp2
  go_ret2
  exact ⟨rfl, rfl⟩

def StopPost (w : World) (F : List Nat) (db M : Nat) (d : List Rg) (e : Ending) (w' : World) : Prop :=
  e = .returned (.tuple #[]) ∧ Only F w w' ∧ ∃ F' bs', DskIn w' F' db M bs' d ∧ ∀ k ∈ F', k ∈ F ∨ w.heap.size ≤ k
end Go.Proofs.YtfidfbgplfjakaaDoor

/- The loose writes of a region, one by one. -/
namespace Go.Proofs.YtfidfbgplfjakaaDoor
open Go.RowKit

theorem flatW_get {α : Type} (f : α → List Value) (n : Nat) (hf : ∀ x, (f x).length = n) : ∀ (l : List α) (k : Nat) (x : α), l[k]? = some x → ∀ j, j < n → (l.flatMap f)[k * n + j]? = (f x)[j]?
  | [], k, x, h, j, hj => by simp at h
  | y :: l, 0, x, h, j, hj => by
    simp at h; subst h
    rw [List.flatMap_cons, Nat.zero_mul, Nat.zero_add, List.getElem?_append_left (by rw [hf]; exact hj)]
  | y :: l, k + 1, x, h, j, hj => by
    simp at h
    rw [List.flatMap_cons, List.getElem?_append_right (by rw [hf, Nat.add_mul]; omega), hf, show (k + 1) * n + j - n = k * n + j by rw [Nat.add_mul]; omega]
    exact flatW_get f n hf l k x h j hj
/-- A loose write's cells. -/
theorem own_range {w : World} {base : Nat} {e : TypeId} {v : Value} {l : List (Nat × P128)} (h : w.ownsRow base e 129 v l.length (l.flatMap wcells)) {k : Nat} {x : Nat × P128} (hk : l[k]? = some x) :
    ∃ g cap, v = .slice (some ⟨g, 0, none⟩) l.length cap ∧ l.length ≤ cap ∧ cap ≤ maxLen ∧ w.rangeAt g (k * 129) (wcells x) := by
  have hlt := (List.getElem?_eq_some_iff.1 hk).1
  rcases h.2 with ⟨_, h0⟩ | ⟨g, cap, cur, rfl, _, hg, hn, hm, hc, ht⟩
  · omega
  · refine ⟨g, cap, rfl, hn, hm, fun j u hu => ?_⟩
    have hj : j < 129 := by have := (List.getElem?_eq_some_iff.1 hu).1; rwa [wcells_length] at this
    have h1 := flatW_get wcells 129 wcells_length l k x hk j hj
    rw [hu, ← ht, List.getElem?_take_of_lt (by have : (k + 1) * 129 ≤ l.length * 129 := Nat.mul_le_mul_right _ hlt; omega)] at h1
    simp only [World.cell?, hg]
    rw [← Array.getElem?_toList]; exact h1
/-- The loose writes of a region, in its box. -/
theorem RegIn.loose {w : World} {fp : List Nat} {b M : Nat} {x : Rg} (h : RegIn w fp b M x) :
    ∃ a cap, w.cell? ⟨b, 2, none⟩ = some (.slice a x.loose.length cap) ∧ x.loose.length ≤ cap ∧ cap ≤ 9223372036854775807 ∧ x.loose.length ≤ M ∧ ∀ k y, x.loose[k]? = some y → ∃ g, a = some ⟨g, 0, none⟩ ∧ g ∈ fp ∧ w.rangeAt g (k * 129) (wcells y) := by
  obtain ⟨mb, n, v, h1, h2, h3, h4, h5, h6, h7, h8⟩ := h
  obtain ⟨a, cap, rfl, hc1, hc2, _⟩ := own_slice h3
  refine ⟨a, cap, by simp [World.cell?, h1], hc1, by unfold maxLen at hc2; omega, by omega, fun k y hy => ?_⟩
  obtain ⟨g, cap', e, _, _, hr⟩ := own_range h3 hy
  cases e
  exact ⟨g, rfl, h7 g rfl, hr⟩
/-- A loose write is loaded. -/
theorem load_write {W : World} {g o : Nat} {y : Nat × P128} (h : W.rangeAt g o (wcells y)) : (Instr.loadAt 94 (.pointer (some ⟨g, o, none⟩))).run Tryd.prog W = .ok (.agg (wcells y).toArray) W :=
  run_loadAt_mid W g o 94 (wcells y) _ h Tryd.underlying94 rfl (by rw [size_write, wcells_length])
theorem load_page {W : World} {g o : Nat} {l : P128} (h : W.rangeAt g o (pcells l.1)) : (Instr.loadAt 92 (.pointer (some ⟨g, o, none⟩))).run Tryd.prog W = .ok (pv l.1) W :=
  run_loadAt_mid W g o 92 (pcells l.1) _ h Tryd.underlying92 rfl (by rw [size_page, pcells_length, l.2])
theorem store_write {W : World} {g o : Nat} {y : Nat × P128} (h : W.there g o 129) : (Instr.storeAt 94 (.pointer (some ⟨g, o, none⟩)) (.agg (wcells y).toArray)).run Tryd.prog W = .ok () (W.setCells g o (wcells y)) := by
  have := run_storeAt_mid (P := Tryd.prog) W g o 94 (wcells y).toArray (by simpa [wcells_length] using h) (by rw [size_write]; simp [wcells_length]) (all_oneCell_toArray (wcells_one y))
  simpa using this
theorem store_page {W : World} {g o : Nat} {l : P128} (h : W.there g o 128) : (Instr.storeAt 92 (.pointer (some ⟨g, o, none⟩)) (pv l.1)).run Tryd.prog W = .ok () (W.setCells g o (pcells l.1)) := by
  have := run_storeAt_mid (P := Tryd.prog) W g o 92 (pcells l.1).toArray (by simpa [pcells_length, l.2] using h) (by rw [size_page]; simp [pcells_length, l.2]) (all_oneCell_toArray (pcells_one l.1))
  simpa [pv] using this
/-- The page within a loose write; its number. -/
theorem wcells_page {W : World} {g o : Nat} {y : Nat × P128} (h : W.rangeAt g o (wcells y)) : W.rangeAt g (o + 1) (pcells y.2.1) := fun j v hv => by
  have := h (j + 1) v (by simpa [wcells] using hv)
  rwa [show o + 1 + j = o + (j + 1) by omega]
theorem wcells_at {W : World} {g o : Nat} {y : Nat × P128} (h : W.rangeAt g o (wcells y)) : W.cell? ⟨g, o, none⟩ = some (.int .i64 (y.1 : Int)) := h 0 _ rfl
end Go.Proofs.YtfidfbgplfjakaaDoor
