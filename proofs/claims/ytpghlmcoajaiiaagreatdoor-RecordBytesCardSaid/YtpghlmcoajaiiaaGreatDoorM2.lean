/- Texts that other texts of this claim lean on, one behind the other. -/
import Derived.Test.YtpghlmcoajaiiaaGreatDoorM1
import Derived.Laws.Append
import Derived.Laws.AppendOwn
/- How trees lie in memory: the program's, and the document's. -/
namespace Go.Proofs.YtpghlmcoajaiiaaGreatDoor
open Go.RowKit

theorem TabR.move {α : Type} {sz : Nat} {R R' : List Value → α → Prop} {w w' : World} {a : Option Addr} {len cap : Nat} {l : List α} (h : TabR sz R w a len cap l) (hb : Below w.heap.size w w') (hR : ∀ cs y, y ∈ l → R cs y → R' cs y) : TabR sz R' w' a len cap l := by
  obtain ⟨h1, h2, h3, hn, h4⟩ := TabR.below (Nat.le_refl _) hb h
  refine ⟨h1, h2, h3, hn, ?_⟩
  rcases h4 with h4 | ⟨b, off, h5, h6, h7⟩
  · exact .inl h4
  · exact .inr ⟨b, off, h5, h6, fun i y hy => by obtain ⟨cs, c1, c2, c3⟩ := h7 i y hy; exact ⟨cs, c1, hR _ _ (List.mem_of_getElem? hy) c2, c3⟩⟩
theorem TabR.lens {α : Type} {sz : Nat} {R : List Value → α → Prop} {w : World} {a : Option Addr} {len cap : Nat} {l : List α} (h : TabR sz R w a len cap l) : l.length = len ∧ len ≤ cap ∧ cap ≤ 9223372036854775807 := ⟨h.1, h.2.1, by have := h.2.2.1; unfold maxLen at this; omega⟩
theorem TabR.nil {α : Type} {sz : Nat} {R : List Value → α → Prop} (w : World) : TabR sz R w none 0 0 ([] : List α) := ⟨rfl, Nat.le_refl _, by unfold maxLen; omega, fun _ => rfl, .inl rfl⟩
def IsKey (cs : List Value) (y : List UInt8) : Prop := cs = [.string (strOf y)]
def KeysIn (w : World) (a : Option Addr) (n c : Nat) (l : List (List UInt8)) : Prop := TabR 1 IsKey w a n c l
/-- A value's cells. -/
def IsTv (w : World) (cs : List Value) (v : Tv) : Prop := ∃ a n c, cs = [.string (strOf v.data), .slice a n c] ∧ Row .i64 w a n c v.pages
theorem IsTv.below {w w' : World} {cs : List Value} {v : Tv} (h : IsTv w cs v) (hb : Below w.heap.size w w') : IsTv w' cs v := by
  obtain ⟨a, n, c, e, hr⟩ := h
  exact ⟨a, n, c, e, hr.below (Nat.le_refl _) hb⟩
def ValsIn (w : World) (a : Option Addr) (n c : Nat) (l : List Tv) : Prop := TabR 2 (IsTv w) w a n c l
/-- A node's cells, as the program has it. -/
def NodeIn : Nat → World → List Value → Tr → Prop
  | 0, _, _, _ => False
  | _ + 1, w, cs, .leaf p l => ∃ ka kn kc va vn vc ca cc, cs = [.int .i64 p, .bool true, .slice ka kn kc, .slice va vn vc, .slice ca 0 cc] ∧ KeysIn w ka kn kc (keysOf l) ∧ ValsIn w va vn vc (l.map (·.2)) ∧ TabR 5 (fun _ (_ : Unit) => True) w ca 0 cc []
  | n + 1, w, cs, .node p l => ∃ ka kn kc va vc ca cn cc, cs = [.int .i64 p, .bool false, .slice ka kn kc, .slice va 0 vc, .slice ca cn cc] ∧ KeysIn w ka kn kc (keysOf l) ∧ TabR 2 (fun _ (_ : Unit) => True) w va 0 vc [] ∧ TabR 5 (NodeIn n w) w ca cn cc (l.map (·.2))
theorem NodeIn.below : ∀ {n : Nat} {w w' : World} {cs : List Value} {t : Tr}, NodeIn n w cs t → Below w.heap.size w w' → NodeIn n w' cs t
  | 0, _, _, _, _, h, _ => h.elim
  | _ + 1, _, _, _, .leaf p l, h, hb => by
    obtain ⟨ka, kn, kc, va, vn, vc, ca, cc, e, h1, h2, h3⟩ := h
    exact ⟨ka, kn, kc, va, vn, vc, ca, cc, e, TabR.below (Nat.le_refl _) hb h1, TabR.move h2 hb (fun _ _ _ h => h.below hb), TabR.below (Nat.le_refl _) hb h3⟩
  | n + 1, _, _, _, .node p l, h, hb => by
    obtain ⟨ka, kn, kc, va, vc, ca, cn, cc, e, h1, h2, h3⟩ := h
    exact ⟨ka, kn, kc, va, vc, ca, cn, cc, e, TabR.below (Nat.le_refl _) hb h1, TabR.below (Nat.le_refl _) hb h2, TabR.move h3 hb (fun _ _ _ h => NodeIn.below h hb)⟩
theorem NodeIn.more : ∀ {n m : Nat} {w : World} {cs : List Value} {t : Tr}, NodeIn n w cs t → n ≤ m → NodeIn m w cs t
  | 0, _, _, _, _, h, _ => h.elim
  | n + 1, 0, _, _, _, _, h => by omega
  | _ + 1, _ + 1, _, _, .leaf p l, h, _ => h
  | n + 1, m + 1, _, _, .node p l, h, hm => by
    obtain ⟨ka, kn, kc, va, vc, ca, cn, cc, e, h1, h2, h3⟩ := h
    exact ⟨ka, kn, kc, va, vc, ca, cn, cc, e, h1, h2, TabR.mono h3 (fun _ _ h => NodeIn.more h (by omega))⟩
/-- A leaf's cell, as the document has it. -/
def IsLc (w : World) (cs : List Value) (y : List UInt8 × Tv) : Prop := ∃ pa pn pc ka kc, cs = [.string (strOf y.1), .string (strOf y.2.data), .slice pa pn pc, .slice ka 0 kc] ∧ Row .i64 w pa pn pc y.2.pages ∧ TabR 3 (fun _ (_ : Unit) => True) w ka 0 kc []
/-- A node's cells, as the document has it. -/
def RIn : Nat → World → List Value → Tr → Prop
  | 0, _, _, _ => False
  | _ + 1, w, cs, .leaf p l => ∃ a n c, cs = [.int .i64 p, .bool true, .slice a n c] ∧ TabR 4 (IsLc w) w a n c l
  | n + 1, w, cs, .node p l => ∃ a m c, cs = [.int .i64 p, .bool false, .slice a m c] ∧ TabR 4 (fun cs (y : List UInt8 × Tr) => ∃ pa pc ka kc, cs = [.string (strOf y.1), .string (strOf []), .slice pa 0 pc, .slice ka 1 kc] ∧ Row .i64 w pa 0 pc [] ∧ TabR 3 (RIn n w) w ka 1 kc [y.2]) w a m c l
/-- A branch's cell, as the document has it. -/
def IsNc (n : Nat) (w : World) (cs : List Value) (y : List UInt8 × Tr) : Prop := ∃ pa pc ka kc, cs = [.string (strOf y.1), .string (strOf []), .slice pa 0 pc, .slice ka 1 kc] ∧ Row .i64 w pa 0 pc [] ∧ TabR 3 (RIn n w) w ka 1 kc [y.2]
theorem IsLc.below {w w' : World} {cs : List Value} {y : List UInt8 × Tv} (h : IsLc w cs y) (hb : Below w.heap.size w w') : IsLc w' cs y := by
  obtain ⟨pa, pn, pc, ka, kc, e, h1, h2⟩ := h
  exact ⟨pa, pn, pc, ka, kc, e, h1.below (Nat.le_refl _) hb, TabR.below (Nat.le_refl _) hb h2⟩
theorem RIn.below : ∀ {n : Nat} {w w' : World} {cs : List Value} {t : Tr}, RIn n w cs t → Below w.heap.size w w' → RIn n w' cs t
  | 0, _, _, _, _, h, _ => h.elim
  | _ + 1, _, _, _, .leaf p l, h, hb => by
    obtain ⟨a, n, c, e, h1⟩ := h
    exact ⟨a, n, c, e, TabR.move h1 hb (fun _ _ _ h => h.below hb)⟩
  | n + 1, _, _, _, .node p l, h, hb => by
    obtain ⟨a, m, c, e, h1⟩ := h
    refine ⟨a, m, c, e, TabR.move h1 hb (fun _ _ _ h => ?_)⟩
    obtain ⟨pa, pc, ka, kc, e, g1, g2⟩ := h
    exact ⟨pa, pc, ka, kc, e, g1.below (Nat.le_refl _) hb, TabR.move g2 hb (fun _ _ _ h => RIn.below h hb)⟩
theorem IsNc.below {n : Nat} {w w' : World} {cs : List Value} {y : List UInt8 × Tr} (h : IsNc n w cs y) (hb : Below w.heap.size w w') : IsNc n w' cs y := by
  obtain ⟨pa, pc, ka, kc, e, g1, g2⟩ := h
  exact ⟨pa, pc, ka, kc, e, g1.below (Nat.le_refl _) hb, TabR.move g2 hb (fun _ _ _ h => RIn.below h hb)⟩
theorem RIn.more : ∀ {n m : Nat} {w : World} {cs : List Value} {t : Tr}, RIn n w cs t → n ≤ m → RIn m w cs t
  | 0, _, _, _, _, h, _ => h.elim
  | n + 1, 0, _, _, _, _, h => by omega
  | _ + 1, _ + 1, _, _, .leaf p l, h, _ => h
  | n + 1, m + 1, _, _, .node p l, h, hm => by
    obtain ⟨a, k, c, e, h1⟩ := h
    refine ⟨a, k, c, e, TabR.mono h1 (fun _ _ h => ?_)⟩
    obtain ⟨pa, pc, ka, kc, e, g1, g2⟩ := h
    exact ⟨pa, pc, ka, kc, e, g1, TabR.mono g2 (fun _ _ h => RIn.more h (by omega))⟩
theorem IsNc.more {n m : Nat} {w : World} {cs : List Value} {y : List UInt8 × Tr} (h : IsNc n w cs y) (hm : n ≤ m) : IsNc m w cs y := by
  obtain ⟨pa, pc, ka, kc, e, g1, g2⟩ := h
  exact ⟨pa, pc, ka, kc, e, g1, TabR.mono g2 (fun _ _ h => RIn.more h hm)⟩

/-! rows as rows of cells -/
/-- So many cells, each of one word. -/
def Cl (sz : Nat) : Type := { cs : List Value // cs.length = sz ∧ ∀ u ∈ cs, u.oneCell' = true }
/-- A slice as a row of raw cells. -/
def Raw (sz : Nat) (w : World) (a : Option Addr) (n c : Nat) (L : List (Cl sz)) : Prop := TabR sz (fun cs y => cs = y.1) w a n c L
/-- What the cells tell. -/
def Tells {α : Type} {sz : Nat} (R : List Value → α → Prop) (L : List (Cl sz)) (l : List α) : Prop := L.length = l.length ∧ ∀ (i : Nat) (x : Cl sz) (y : α), L[i]? = some x → l[i]? = some y → R x.1 y
theorem TabR.raw {α : Type} {sz : Nat} {R : List Value → α → Prop} {w : World} {a : Option Addr} {n c : Nat} {l : List α} (h : TabR sz R w a n c l) (h1 : ∀ cs y, R cs y → ∀ u ∈ cs, u.oneCell' = true) : ∃ L : List (Cl sz), Raw sz w a n c L ∧ Tells R L l := by
  obtain ⟨e1, e2, e3, e4, e5⟩ := h
  rcases e5 with e5 | ⟨b, off, f1, f2, f3⟩
  · subst e5
    have : l = [] := List.eq_nil_of_length_eq_zero e1
    subst this
    exact ⟨[], ⟨rfl, e2, e3, e4, .inl rfl⟩, rfl, fun i x y hx => by simp at hx⟩
  · have each : ∀ i, i < l.length → ∃ x : Cl sz, ∃ y, l[i]? = some y ∧ R x.1 y ∧ ∀ j v, x.1[j]? = some v → w.cell? ⟨b, off + i * sz + j, none⟩ = some v := by
      intro i hi
      have hy : l[i]? = some l[i] := List.getElem?_eq_getElem hi
      obtain ⟨cs, c1, c2, c3⟩ := f3 i _ hy
      exact ⟨⟨cs, c1, h1 _ _ c2⟩, _, hy, c2, c3⟩
    by_cases h0 : l.length = 0
    · have : l = [] := List.eq_nil_of_length_eq_zero h0
      subst this
      exact ⟨[], ⟨by simpa using e1, e2, e3, e4, .inl (by simpa using e1.symm)⟩, rfl, fun i x y hx => by simp at hx⟩
    · obtain ⟨x0, _⟩ := each 0 (by omega)
      haveI : Inhabited (Cl sz) := ⟨x0⟩
      obtain ⟨q, hq⟩ := Go.Deep.choose_lt each
      refine ⟨(List.range l.length).map q, ⟨by simpa using e1, e2, e3, e4, .inr ⟨b, off, f1, f2, fun i y hy => ?_⟩⟩, by simp, fun i x y hx hy => ?_⟩
      · have hi : i < l.length := by have := (List.getElem?_eq_some_iff.1 hy).1; simpa using this
        have hy' : y = q i := by simp [hi] at hy; exact hy.symm
        subst hy'
        obtain ⟨z, _, _, g3⟩ := hq i hi
        exact ⟨(q i).1, (q i).2.1, rfl, g3⟩
      · have hi : i < l.length := (List.getElem?_eq_some_iff.1 hy).1
        have hx' : x = q i := by simp [hi] at hx; exact hx.symm
        subst hx'
        obtain ⟨z, g1, g2, _⟩ := hq i hi
        rw [hy] at g1; cases g1
        exact g2
theorem Raw.tab {α : Type} {sz : Nat} {R : List Value → α → Prop} {w : World} {a : Option Addr} {n c : Nat} {L : List (Cl sz)} {l : List α} (h : Raw sz w a n c L) (hR : Tells R L l) : TabR sz R w a n c l := by
  obtain ⟨e1, e2, e3, e4, e5⟩ := h
  refine ⟨by rw [← hR.1]; exact e1, e2, e3, e4, ?_⟩
  rcases e5 with e5 | ⟨b, off, f1, f2, f3⟩
  · exact .inl e5
  · refine .inr ⟨b, off, f1, f2, fun i y hy => ?_⟩
    have hi : i < L.length := by rw [hR.1]; exact (List.getElem?_eq_some_iff.1 hy).1
    have hx : L[i]? = some L[i] := List.getElem?_eq_getElem hi
    obtain ⟨cs, c1, c2, c3⟩ := f3 i _ hx
    exact ⟨cs, c1, by rw [c2]; exact hR.2 i _ y hx hy, c3⟩
section
variable {α : Type} {sz : Nat} {R : List Value → α → Prop}
theorem Tells.mono {R' : List Value → α → Prop} {L : List (Cl sz)} {l : List α} (h : Tells R L l) (hR : ∀ cs y, y ∈ l → R cs y → R' cs y) : Tells R' L l := ⟨h.1, fun i x y hx hy => hR _ _ (List.mem_of_getElem? hy) (h.2 i x y hx hy)⟩
theorem Tells.nil : Tells R ([] : List (Cl sz)) ([] : List α) := ⟨rfl, fun i x y hx => by simp at hx⟩
theorem Tells.append {L M : List (Cl sz)} {l m : List α} (h : Tells R L l) (g : Tells R M m) : Tells R (L ++ M) (l ++ m) := by
  refine ⟨by rw [List.length_append, List.length_append, h.1, g.1], fun i x y hx hy => ?_⟩
  by_cases hi : i < L.length
  · rw [List.getElem?_append_left hi] at hx
    rw [List.getElem?_append_left (by rw [← h.1]; exact hi)] at hy
    exact h.2 i x y hx hy
  · rw [List.getElem?_append_right (by omega)] at hx
    rw [List.getElem?_append_right (by rw [← h.1]; omega), ← h.1] at hy
    exact g.2 _ x y hx hy
theorem Tells.take {L : List (Cl sz)} {l : List α} (h : Tells R L l) (k : Nat) : Tells R (L.take k) (l.take k) := by
  refine ⟨by rw [List.length_take, List.length_take, h.1], fun i x y hx hy => ?_⟩
  rw [List.getElem?_take] at hx hy
  split at hx
  · rename_i hi
    rw [if_pos hi] at hy
    exact h.2 i x y hx hy
  · cases hx
theorem Tells.drop {L : List (Cl sz)} {l : List α} (h : Tells R L l) (k : Nat) : Tells R (L.drop k) (l.drop k) := by
  refine ⟨by rw [List.length_drop, List.length_drop, h.1], fun i x y hx hy => ?_⟩
  rw [List.getElem?_drop] at hx hy
  exact h.2 _ x y hx hy
theorem Tells.one {x : Cl sz} {y : α} (h : R x.1 y) : Tells R [x] [y] := by
  refine ⟨rfl, fun i x' y' hx hy => ?_⟩
  cases i with
  | zero => simp at hx hy; subst hx hy; exact h
  | succ i => simp at hx
theorem Tells.cons {x : Cl sz} {y : α} {L : List (Cl sz)} {l : List α} (h : R x.1 y) (g : Tells R L l) : Tells R (x :: L) (y :: l) := (Tells.one h).append g
theorem Tells.set {L : List (Cl sz)} {l : List α} (h : Tells R L l) (k : Nat) {x : Cl sz} {y : α} (hx : R x.1 y) : Tells R (L.set k x) (l.set k y) := by
  refine ⟨by rw [List.length_set, List.length_set, h.1], fun i x' y' h1 h2 => ?_⟩
  rw [List.getElem?_set] at h1 h2
  split at h1
  · rename_i e
    subst e
    rw [if_pos rfl] at h2
    split at h1 <;> split at h2
    · cases h1; cases h2; exact hx
    · cases h2
    · cases h1
    · cases h1
  · rename_i e
    rw [if_neg e] at h2
    exact h.2 i x' y' h1 h2
end
/-- The cells behind one another. -/
def flatC {sz : Nat} (L : List (Cl sz)) : List Value := L.flatMap (·.1)
theorem flatC_append {sz : Nat} (L M : List (Cl sz)) : flatC (L ++ M) = flatC L ++ flatC M := by simp [flatC]
theorem flatC_one {sz : Nat} (x : Cl sz) : flatC [x] = x.1 := by simp [flatC]
/-- A row of records of the call's own, read. -/
theorem Raw.of_own {sz : Nat} {w : World} {base : Nat} {e : TypeId} {v : Value} {n : Nat} {L : List (Cl sz)} (h : w.ownsRow base e sz v n (flatC L)) (hn : L.length = n) : ∃ a cap, v = .slice a n cap ∧ Raw sz w a n cap L := by
  subst hn
  exact TabR.of_own (fun y : Cl sz => y.1) (fun y => y.2.1) (fun y => rfl) h
section
variable {P : Program}
/-- 'append' of a row of records to one of the call's own. -/
theorem run_append_raw {w : World} (base : Nat) (t e : TypeId) (i : TypeInfo) (z : Value) (sz bytes : Nat) (ht : P.underlying t = some (.slice e)) (hi : P.info? e = some i) (hz : i.zero = some z)
    (hsize : i.size = sz) (hby : i.bytes = bytes) (hzs : z.cells.size = sz) (hsz : 0 < sz) {v : Value} {n : Nat} {L : List (Cl sz)} (hown : w.ownsRow base e sz v n (flatC L))
    {a : Option Addr} {m c : Nat} {M : List (Cl sz)} (hrow : Raw sz w a m c M) (h63 : n + m ≤ maxLen) (hbytes : (n + m) * bytes ≤ 140737488355328) (hbase : base ≤ w.heap.size) :
    ∃ v' w', (Builtin.append_ #[t, t] t #[v, .slice a m c]).run P w = .ok v' w' ∧ AppOut w base e sz v (n + m) (flatC (L ++ M)) w.heap.size v' w' := by
  rw [flatC_append]
  exact run_append_tab base t e i z sz bytes ht hi hz hsize hby hzs hsz hown (fun cs (y : Cl sz) => cs = y.1) (fun y => y.1) (fun cs y h => h) (fun y => y.2.1) (fun y => y.2.2) hrow h63 hbytes hbase
end
theorem Raw.lens {sz : Nat} {w : World} {a : Option Addr} {n c : Nat} {L : List (Cl sz)} (h : Raw sz w a n c L) : L.length = n ∧ n ≤ c ∧ c ≤ 9223372036854775807 := TabR.lens h
theorem Raw.below {sz : Nat} {w w' : World} {a : Option Addr} {n c : Nat} {L : List (Cl sz)} (h : Raw sz w a n c L) (hb : Below w.heap.size w w') : Raw sz w' a n c L := TabR.below (Nat.le_refl _) hb h
end Go.Proofs.YtpghlmcoajaiiaaGreatDoor

/- Rows of raw cells: cut, cloned, put one behind the other; no program in sight. -/
namespace Go.Proofs.YtpghlmcoajaiiaaGreatDoor
open Go.RowKit

theorem TabR.tk {α : Type} {sz : Nat} {R : List Value → α → Prop} {w : World} {a : Option Addr} {len cap : Nat} {l : List α} (h : TabR sz R w a len cap l) {j : Nat} (hj : j ≤ len) : TabR sz R w a j cap (l.take j) := by
  obtain ⟨h1, h2, h3, hn, h4⟩ := h
  refine ⟨by simp; omega, by omega, h3, hn, ?_⟩
  rcases h4 with h4 | ⟨b, off, h5, h6, h7⟩
  · exact .inl (by omega)
  · refine .inr ⟨b, off, h5, h6, fun i y hy => h7 i y ?_⟩
    have hi : i < j := by have := (List.getElem?_eq_some_iff.1 hy).1; simp at this; omega
    rwa [List.getElem?_take_of_lt hi] at hy
theorem TabR.dp {α : Type} {sz : Nat} {R : List Value → α → Prop} {w : World} {a : Option Addr} {len cap : Nat} {l : List α} (h : TabR sz R w a len cap l) {j : Nat} (hj : j ≤ len) :
    TabR sz R w (if cap = j then a else a.map (·.add (j * sz))) (len - j) (cap - j) (l.drop j) := by
  obtain ⟨h1, h2, h3, hn, h4⟩ := h
  refine ⟨by simp; omega, by omega, by omega, (fun h => by
    have : cap = 0 := by
      by_cases e : cap = j
      · rw [if_pos e] at h; exact hn h
      · rw [if_neg e] at h; exact hn (by simpa using h)
    omega), ?_⟩
  rcases h4 with h4 | ⟨b, off, rfl, h6, h7⟩
  · exact .inl (by omega)
  · by_cases e : cap = j
    · exact .inl (by omega)
    · refine .inr ⟨b, off + j * sz, by rw [if_neg e]; simp [add_none], h6, fun i y hy => ?_⟩
      rw [List.getElem?_drop] at hy
      obtain ⟨cs, c1, c2, c3⟩ := h7 (j + i) y hy
      refine ⟨cs, c1, c2, fun k v hv => ?_⟩
      rw [← c3 k v hv]
      congr 2
      rw [Nat.add_mul]; omega
/-- What a type's row of the table tells. -/
def RowInfo (P : Program) (e : TypeId) (sz bytes : Nat) : Prop := ∃ i z, P.info? e = some i ∧ i.zero = some z ∧ i.size = sz ∧ i.bytes = bytes ∧ z.cells.size = sz
theorem row_info {P : Program} {e : TypeId} {sz bytes : Nat} (h : (P.info? e).map (fun i => (i.zero.map (·.cells.size), i.size, i.bytes)) = some (some sz, sz, bytes)) : RowInfo P e sz bytes := by
  cases hi : P.info? e with
  | none => rw [hi] at h; cases h
  | some i =>
    rw [hi] at h
    simp only [Option.map_some, Option.some.injEq, Prod.mk.injEq] at h
    obtain ⟨h1, h2, h3⟩ := h
    obtain ⟨z, h4, h5⟩ := Option.map_eq_some_iff.1 h1
    exact ⟨i, z, hi, h4, h2, h3, h5⟩
/-- A slice of the call's own row, as what a call answers. -/
def OwnRaw (E : TypeId) (sz : Nat) (w : World) (L : List (Cl sz)) (e : Ending) (w' : World) : Prop := ∃ v, e = .returned v ∧ w'.ownsRow w.heap.size E sz v L.length (flatC L) ∧ Below w.heap.size w w'
theorem own_base {w : World} {B B' : Nat} {e : TypeId} {size : Nat} {v : Value} {n : Nat} {xs : List Value} (h : w.ownsRow B e size v n xs) (hB : B' ≤ B) : w.ownsRow B' e size v n xs :=
  ⟨h.1, h.2.imp id fun ⟨g, cap, cur, e1, hg, r⟩ => ⟨g, cap, cur, e1, Nat.le_trans hB hg, r⟩⟩
theorem own_held {w w' : World} {base : Nat} {e : TypeId} {size : Nat} {v : Value} {n : Nat} {xs : List Value} (h : w.ownsRow base e size v n xs) (hb : Below w.heap.size w w') : w'.ownsRow base e size v n xs := by
  refine ⟨h.1, h.2.imp id fun ⟨g, cap, cur, e1, hg, hh, r⟩ => ⟨g, cap, cur, e1, hg, ?_, r⟩⟩
  rw [hb.block g (Array.getElem?_eq_some_iff.1 hh).1]; exact hh
theorem OwnRaw.after {E : TypeId} {sz : Nat} {w W : World} {L : List (Cl sz)} {e : Ending} {w' : World} (hb : Below w.heap.size w W) (h : OwnRaw E sz W L e w') : OwnRaw E sz w L e w' := by
  obtain ⟨v, h1, h2, h3⟩ := h
  exact ⟨v, h1, own_base h2 hb.size, hb.trans (h3.mono hb.size)⟩
theorem OwnRaw.sl {E : TypeId} {sz : Nat} {w : World} {L : List (Cl sz)} {e : Ending} {w' : World} (h : OwnRaw E sz w L e w') :
    ∃ a c, e = .returned (.slice a L.length c) ∧ L.length ≤ c ∧ c ≤ 9223372036854775807 ∧ w'.ownsRow w.heap.size E sz (.slice a L.length c) L.length (flatC L) ∧ Below w.heap.size w w' := by
  obtain ⟨v, rfl, h2, h3⟩ := h
  rcases h2.2 with ⟨rfl, h0⟩ | ⟨g, cap, cur, rfl, _, _, hn, hm, _⟩
  · exact ⟨none, 0, by rw [h0], by omega, by omega, by rw [h0]; rw [h0] at h2; exact h2, h3⟩
  · exact ⟨_, cap, rfl, hn, by unfold maxLen at hm; omega, h2, h3⟩
theorem own_empty (W : World) (t : TypeId) (sz : Nat) {b : Nat} (hb : W.heap.size = b) {base : Nat} (hbase : base ≤ b) : (W.alloc (.cells #[] t)).ownsRow base t sz (.slice (some ⟨b, 0, none⟩) 0 0) 0 [] := by
  subst hb
  exact ⟨by simp, .inr ⟨_, 0, _, rfl, hbase, World.alloc_heap_new W _, Nat.le_refl _, by unfold maxLen; omega, by simp, by simp⟩⟩
theorem own_nil (W : World) (t : TypeId) (sz base : Nat) : W.ownsRow base t sz (.slice none 0 0) 0 [] := ⟨by simp, .inl ⟨rfl, rfl⟩⟩
/-- A fresh row of raw cells is the call's own. -/
theorem own_raw (W : World) (t : TypeId) {sz : Nat} (L : List (Cl sz)) {b : Nat} (hb : W.heap.size = b) {base : Nat} (hbase : base ≤ b) (h : L.length ≤ maxLen) :
    (W.alloc (.cells (flatC L).toArray t)).ownsRow base t sz (.slice (some ⟨b, 0, none⟩) L.length L.length) L.length (flatC L) := by
  subst hb
  have hl : (flatC L).length = L.length * sz := flat_len (fun y : Cl sz => y.1) sz (fun y => y.2.1) L
  exact ⟨by simpa using hl, .inr ⟨_, _, _, rfl, hbase, World.alloc_heap_new W _, Nat.le_refl _, h, by simp [hl], List.take_of_length_le (by simp [hl])⟩⟩
theorem run_append_nil_zerosR {P : Program} (w : World) (t u ty e : TypeId) (k : IntKind) (i : TypeInfo) (z : Value) (sz : Nat) (ht : P.underlying t = some (.slice e)) (hu : P.underlying u = some (.int k)) (hi : P.info? e = some i) (hz : i.zero = some z) (hz1 : i.size = sz) (hsz : 0 < sz)
    (n : Nat) (h0 : 0 < n) (h9 : n ≤ 100000) (hby : i.bytes ≤ 100) :
    (Builtin.append_ #[t, u] ty #[.slice none 0 0, .int .i64 (n : Int)]).run P w =
      .ok (.slice (some ⟨w.heap.size, 0, none⟩) n (grownCap w n 0 e))
        (w.drew.alloc (.cells (Builtin.zeroCells z.cells n ++ Builtin.zeroCells z.cells (grownCap w n 0 e - n)) e)) := by
  have hn : n ≠ 0 := by omega
  have hz0 : ¬ n * sz = 0 := Nat.mul_ne_zero hn (by omega)
  have hle : ¬ ((n : Int) ≤ 0) := by omega
  have hneg : ¬ ((n : Int) < 0) := by omega
  have hw : IntKind.i64.wrap (n : Int) = (n : Int) := by simp [IntKind.wrap, IntKind.signed, IntKind.bits]; omega
  have hmul : n * i.bytes ≤ 10000000 := Nat.le_trans (Nat.mul_le_mul h9 hby) (by omega)
  have h48 : ¬ ((281474976710656 : Int) < (n : Int) * (i.bytes : Int)) := by
    have : ((n * i.bytes : Nat) : Int) ≤ 10000000 := by omega
    rw [Int.natCast_mul] at this; omega
  have h63' : ¬ (9223372036854775807 < (n : Int)) := by omega
  have h48' : ¬ (281474976710656 < Builtin.nextslicecap n 0 * i.bytes) := by rw [nextslicecap_zero h0]; omega
  simp [Builtin.append_, run_underlying ht, run_underlying hu, sizeOf, typeInfo, zeroValue, hi, hz, hz1, asInt, asIntOf, hw, hneg, h48, hn, hz0, Builtin.firstCells, h63', h48', Question.forced, newRow, grownCap]
theorem run_grow {P : Program} (w : World) (t u e : TypeId) (sz bytes : Nat) (ht : P.underlying t = some (.slice e)) {k : IntKind} (hu : P.underlying u = some (.int k)) (hi : RowInfo P e sz bytes) (hsz : 0 < sz) (hby : bytes ≤ 100) (n : Nat) (h0 : 0 < n) (h9 : n ≤ 100000) :
    ∃ c w', (Builtin.append_ #[t, u] t #[.slice none 0 0, .int .i64 (n : Int)]).run P w = .ok (.slice (some ⟨w.heap.size, 0, none⟩) n c) w' ∧ n ≤ c ∧ c ≤ 9223372036854775807 ∧ w'.ownsRow w.heap.size e sz (.slice (some ⟨w.heap.size, 0, none⟩) 0 c) 0 [] ∧ Below w.heap.size w w' := by
  obtain ⟨i, z, hi, hz, hz1, hz2, hz3⟩ := hi
  have hr := run_append_nil_zerosR (P := P) w t u t e k i z sz ht hu hi hz hz1 hsz n h0 h9 (by omega)
  have hge := grownCap_ge w n 0 e
  have hle := grownCap_le_maxLen w n 0 e (by unfold maxLen; omega)
  refine ⟨_, _, hr, hge, by unfold maxLen at hle; omega, ⟨by simp, .inr ⟨_, _, _, rfl, Nat.le_refl _, World.alloc_heap_new w.drew _, Nat.zero_le _, hle, ?_, by simp⟩⟩, ((Below.refl _ _).drew).alloc (Nat.le_refl _) _⟩
  simp [Builtin.zeroCells, hz3]
  rw [← Nat.add_mul, Nat.add_sub_cancel' hge]
/-- A slice of rows. -/
def IsRaw (sz : Nat) (w : World) (cs : List Value) (L : List (Cl sz)) : Prop := ∃ a n c, cs = [.slice a n c] ∧ Raw sz w a n c L
def Raws (sz : Nat) (w : World) (a : Option Addr) (n c : Nat) (LL : List (List (Cl sz))) : Prop := TabR 1 (IsRaw sz w) w a n c LL
theorem IsRaw.below {sz : Nat} {w w' : World} {cs : List Value} {L : List (Cl sz)} (h : IsRaw sz w cs L) (hb : Below w.heap.size w w') : IsRaw sz w' cs L := by
  obtain ⟨a, n, c, e, h⟩ := h
  exact ⟨a, n, c, e, h.below hb⟩
theorem Raws.below {sz : Nat} {w w' : World} {a : Option Addr} {n c : Nat} {LL : List (List (Cl sz))} (h : Raws sz w a n c LL) (hb : Below w.heap.size w w') : Raws sz w' a n c LL := TabR.move h hb (fun _ _ _ h => h.below hb)
theorem Raws.at {sz : Nat} {w : World} {a : Option Addr} {n c : Nat} {LL : List (List (Cl sz))} (h : Raws sz w a n c LL) {k : Nat} (hk : k < n) :
    ∃ b off a' n' c' L, a = some ⟨b, off, none⟩ ∧ b < w.heap.size ∧ w.cell? ⟨b, off + k, none⟩ = some (.slice a' n' c') ∧ LL[k]? = some L ∧ Raw sz w a' n' c' L := by
  obtain ⟨b, off, y, cs, e1, e2, e3, _, ⟨a', n', c', rfl, h'⟩, e6⟩ := TabR.at h hk
  have := e6 0 _ rfl
  rw [Nat.mul_one, Nat.add_zero] at this
  exact ⟨b, off, a', n', c', y, e1, e2, this, e3, h'⟩
def lenR {α : Type} (LL : List (List α)) : Nat := (LL.map List.length).sum
theorem lenR_succ {α : Type} {LL : List (List α)} {i : Nat} {L : List α} (h : LL[i]? = some L) : lenR (LL.take (i + 1)) = lenR (LL.take i) + L.length ∧ (LL.take (i + 1)).flatten = (LL.take i).flatten ++ L := by
  obtain ⟨hi, e⟩ := List.getElem?_eq_some_iff.1 h
  have e2 : LL.take (i + 1) = LL.take i ++ [L] := by rw [List.take_succ_eq_append_getElem hi, e]
  rw [e2]
  exact ⟨by simp [lenR], by simp⟩
theorem lenR_take {α : Type} (LL : List (List α)) (i : Nat) : lenR (LL.take i) ≤ lenR LL := by
  have : lenR LL = lenR (LL.take i) + lenR (LL.drop i) := by
    conv => lhs; rw [← List.take_append_drop i LL]
    simp only [lenR, List.map_append, List.sum_append]
  omega
theorem lenR_flat {α : Type} (LL : List (List α)) : LL.flatten.length = lenR LL := by simp [lenR, List.length_flatten]
theorem lenR_zero {α : Type} {LL : List (List α)} (h : lenR LL = 0) : LL.flatten = [] := List.eq_nil_of_length_eq_zero (by rw [lenR_flat]; exact h)
/-- A fresh row of two or three rows. -/
theorem Raws.made {sz : Nat} {W : World} {t : TypeId} (vs : List (Option Addr × Nat × Nat)) (LL : List (List (Cl sz))) (h : ∀ (i : Nat) x L, vs[i]? = some x → LL[i]? = some L → Raw sz W x.1 x.2.1 x.2.2 L) (hl : vs.length = LL.length) (h9 : LL.length ≤ 1000) {b : Nat} (hb : W.heap.size = b) :
    Raws sz (W.alloc (.cells (vs.map fun x => Value.slice x.1 x.2.1 x.2.2).toArray t)) (some ⟨b, 0, none⟩) LL.length LL.length LL := by
  subst hb
  have hB : Below W.heap.size W (W.alloc (.cells (vs.map fun x => Value.slice x.1 x.2.1 x.2.2).toArray t)) := (Below.refl _ _).alloc (Nat.le_refl _) _
  refine ⟨rfl, Nat.le_refl _, by unfold maxLen; omega, (fun h => by cases h), .inr ⟨_, _, rfl, by simp, fun i L hL => ?_⟩⟩
  have hi := (List.getElem?_eq_some_iff.1 hL).1
  have hx : vs[i]? = some vs[i] := List.getElem?_eq_getElem (by omega)
  refine ⟨[.slice vs[i].1 vs[i].2.1 vs[i].2.2], rfl, ⟨_, _, _, rfl, (h i _ L hx hL).below hB⟩, fun j v hj => ?_⟩
  cases j with
  | succ j => simp at hj
  | zero =>
    simp at hj
    subst hj
    have := World.alloc_heap_new W (.cells (vs.map fun x => Value.slice x.1 x.2.1 x.2.2).toArray t)
    simp only [World.cell?, this]
    simp [show i < vs.length by omega]
end Go.Proofs.YtpghlmcoajaiiaaGreatDoor

/- Tools for regions that draw: boxes made beside calls, in whatever order. -/
namespace Go.Proofs.YtpghlmcoajaiiaaGreatDoor
open Go.RowKit

theorem Below.al {a w : World} {o : Obj} (h : Below a.heap.size a w) : Below a.heap.size a (w.alloc o) := h.alloc h.size o
theorem Below.dr {B : Nat} {a w : World} (h : Below B a w) : Below B a w.drew := h.drew
theorem Below.st {a w : World} {b i : Nat} {u : Value} (h : Below a.heap.size a w) (hb : a.heap.size ≤ b) : Below a.heap.size a (w.setCell ⟨b, i, none⟩ u) := h.setCell hb _
theorem Boxes.al {w : World} {l : List (Nat × List Value)} {o : Obj} (h : Boxes w l) : Boxes (w.alloc o) l := h.step ((Below.refl _ _).alloc (Nat.le_refl _) o)
theorem Boxes.dr {w : World} {l : List (Nat × List Value)} (h : Boxes w l) : Boxes w.drew l := h
theorem Boxes.st {w : World} {l : List (Nat × List Value)} {b i : Nat} {u : Value} (h : Boxes w l) (hne : ∀ p ∈ l, p.1 ≠ b) : Boxes (w.setCell ⟨b, i, none⟩ u) l := h.set ⟨b, i, none⟩ u hne
theorem below_via {a W w' : World} (h1 : Below a.heap.size a W) (h2 : Below W.heap.size W w') : Below a.heap.size a w' := h1.trans (h2.mono h1.size)
/-- What a call that makes a row leaves, beside the region's first world. -/
def RowOut (E : TypeId) (sz : Nat) (wc W : World) (L : List (Cl sz)) (e : Ending) (w' : World) : Prop :=
  ∃ a c, e = .returned (.slice a L.length c) ∧ L.length ≤ c ∧ c ≤ 9223372036854775807 ∧ w'.ownsRow wc.heap.size E sz (.slice a L.length c) L.length (flatC L) ∧ Below W.heap.size W w' ∧ Below wc.heap.size wc w'
theorem OwnRaw.row {E : TypeId} {sz : Nat} {wc W : World} {L : List (Cl sz)} {e : Ending} {w' : World} (hb : Below wc.heap.size wc W) (h : OwnRaw E sz W L e w') : RowOut E sz wc W L e w' := by
  obtain ⟨a, c, h1, h2, h3, h4, h5⟩ := h.sl
  exact ⟨a, c, h1, h2, h3, own_base h4 hb.size, h5, below_via hb h5⟩
/-- A block, and its cells. -/
def BoxAt (w : World) (b : Nat) (cs : Array Value) : Prop := ∃ t, w.heap[b]? = some (.cells cs t (0, 0))
theorem BoxAt.here {w : World} {cs : Array Value} {t : TypeId} : BoxAt (w.alloc (.cells cs t)) w.heap.size cs := ⟨t, World.alloc_heap_new w (.cells cs t)⟩
theorem BoxAt.here2 {w : World} {o : Obj} {cs : Array Value} {t : TypeId} : BoxAt ((w.alloc o).alloc (.cells cs t)) (w.heap.size + 1) cs := by
  have := World.alloc_heap_new (w.alloc o) (.cells cs t)
  exact ⟨t, by simpa using this⟩
theorem BoxAt.here3 {w : World} {o o' : Obj} {cs : Array Value} {t : TypeId} : BoxAt (((w.alloc o).alloc o').alloc (.cells cs t)) (w.heap.size + 1 + 1) cs := by
  have := World.alloc_heap_new ((w.alloc o).alloc o') (.cells cs t)
  exact ⟨t, by simpa using this⟩
theorem BoxAt.below {w w' : World} {b : Nat} {cs : Array Value} (h : BoxAt w b cs) (hb : Below w.heap.size w w') : BoxAt w' b cs := by
  obtain ⟨t, ht⟩ := h
  exact ⟨t, (hb.block b (Array.getElem?_eq_some_iff.1 ht).1).trans ht⟩
theorem BoxAt.al {w : World} {b : Nat} {cs : Array Value} {o : Obj} (h : BoxAt w b cs) : BoxAt (w.alloc o) b cs := h.below ((Below.refl _ _).alloc (Nat.le_refl _) o)
theorem BoxAt.dr {w : World} {b : Nat} {cs : Array Value} (h : BoxAt w b cs) : BoxAt w.drew b cs := h
theorem BoxAt.cell {w : World} {b : Nat} {cs : Array Value} (h : BoxAt w b cs) {i : Nat} {v : Value} (hv : cs[i]? = some v) : w.cell? ⟨b, i, none⟩ = some v := by
  obtain ⟨t, ht⟩ := h
  simp only [World.cell?, ht]; exact hv
theorem BoxAt.lt {w : World} {b : Nat} {cs : Array Value} (h : BoxAt w b cs) : b < w.heap.size := by
  obtain ⟨t, ht⟩ := h
  exact (Array.getElem?_eq_some_iff.1 ht).1
theorem BoxAt.frozen {w : World} {b : Nat} {cs : Array Value} (h : BoxAt w b cs) (i : Nat) : w.frozen? ⟨b, i, none⟩ = false := by
  obtain ⟨t, ht⟩ := h
  simp [World.frozen?, ht]
theorem BoxAt.boxes {w : World} {b : Nat} {cs : Array Value} (h : BoxAt w b cs) : Boxes w [(b, cs.toList)] := by
  obtain ⟨t, ht⟩ := h
  exact Boxes.cons (t := t) (by simpa using ht) (Boxes.nil w)
/-- A row of the call's own does not stand in a box that holds something else. -/
theorem own_not_box {w : World} {base : Nat} {e : TypeId} {sz : Nat} {a : Option Addr} {n c b : Nat} {xs : List Value} {cs : Array Value} (ho : w.ownsRow base e sz (.slice a n c) n xs) (hx : BoxAt w b cs) (hne : ∃ i, i < xs.length ∧ cs[i]? ≠ xs[i]?) : ∀ g off, a = some ⟨g, off, none⟩ → g ≠ b := by
  intro g' off' e' he
  rcases ho.2 with ⟨h, h0⟩ | ⟨g, cap, cur, h, hb, hg, hn, hm, hc, ht⟩
  · cases h; cases e'
  · cases h
    cases e'
    obtain ⟨t, hh⟩ := hx
    rw [← he, hg] at hh
    cases hh
    obtain ⟨i, hi, hne⟩ := hne
    have hl := ho.1
    have e1 : (cs.toList.take (n * sz))[i]? = cs.toList[i]? := List.getElem?_take_of_lt (by omega)
    rw [ht] at e1
    exact hne (by rw [e1, Array.getElem?_toList])
theorem zero_lt {W w' : World} {b : Nat} {cs : Array Value} (hx : BoxAt W b cs) (hb : Below W.heap.size W w') : BoxAt w' b cs ∧ b < W.heap.size := ⟨hx.below hb, hx.lt⟩
theorem raws_box2 {sz : Nat} {w : World} {b : Nat} {a1 a2 : Option Addr} {n1 c1 n2 c2 : Nat} {L1 L2 : List (Cl sz)} (h : BoxAt w b #[.slice a1 n1 c1, .slice a2 n2 c2]) (h1 : Raw sz w a1 n1 c1 L1) (h2 : Raw sz w a2 n2 c2 L2) :
    Raws sz w (some ⟨b, 0, none⟩) 2 2 [L1, L2] := by
  refine ⟨rfl, Nat.le_refl _, by unfold maxLen; omega, (fun h => by cases h), .inr ⟨_, _, rfl, h.lt, fun i L hL => ?_⟩⟩
  match i, hL with
  | 0, hL =>
    cases hL
    refine ⟨_, rfl, ⟨_, _, _, rfl, h1⟩, fun j v hj => ?_⟩
    cases j with
    | zero => simp at hj; subst hj; exact h.cell rfl
    | succ j => simp at hj
  | 1, hL =>
    cases hL
    refine ⟨_, rfl, ⟨_, _, _, rfl, h2⟩, fun j v hj => ?_⟩
    cases j with
    | zero => simp at hj; subst hj; exact h.cell rfl
    | succ j => simp at hj
  | i + 2, hL => simp at hL
/-- A row of one or two elements that a call has just laid. -/
theorem raw_box {sz : Nat} {w : World} {b : Nat} {L : List (Cl sz)} (h : BoxAt w b (flatC L).toArray) (hl : L.length ≤ 1000) : Raw sz w (some ⟨b, 0, none⟩) L.length L.length L := by
  refine ⟨rfl, Nat.le_refl _, by unfold maxLen; omega, (fun h => by cases h), .inr ⟨_, _, rfl, h.lt, fun i y hy => ⟨y.1, y.2.1, rfl, fun j v hv => ?_⟩⟩⟩
  have := flat_get (fun y : Cl sz => y.1) sz (fun y => y.2.1) L i y j v hy hv
  rw [Nat.zero_add]
  exact h.cell (by simpa [flatC] using this)
end Go.Proofs.YtpghlmcoajaiiaaGreatDoor

/- Trees that may be: plain laws; no program in sight. -/
namespace Go.Proofs.YtpghlmcoajaiiaaGreatDoor

def keyOk (k : List UInt8) : Prop := k ≠ [] ∧ k.length ≤ 16
def valOk (v : Tv) : Prop := v.data.length ≤ 400 ∧ (v.pages ≠ [] → 16 < v.data.length)
/-- Below a key, if that isn't empty. -/
def ltH (hi k : List UInt8) : Prop := hi = [] ∨ k < hi
theorem ltH.of {hi k j : List UInt8} (h : ltH hi k) (hj : j < k) : ltH hi j := h.imp id (klt_trans hj)
/-- The kids of a branch: each within its span. -/
def KidsP (P : List UInt8 → List UInt8 → Tr → Prop) : List UInt8 → List UInt8 → List (List UInt8 × Tr) → Prop
  | _, _, [] => False
  | lo, hi, [c] => P lo hi c.2
  | lo, hi, c :: d :: r => P lo d.1 c.2 ∧ keyOk d.1 ∧ lo < d.1 ∧ ltH hi d.1 ∧ KidsP P d.1 hi (d :: r)
def LeafOk (lo hi : List UInt8) (l : List (List UInt8 × Tv)) : Prop :=
  (keysOf l).Pairwise (fun a b => a < b) ∧ ∀ c ∈ l, keyOk c.1 ∧ ¬ c.1 < lo ∧ ltH hi c.1 ∧ valOk c.2
/-- What a node may hold, whatever its cells come to. -/
def Shape : Nat → List UInt8 → List UInt8 → Tr → Prop
  | 0, _, _, _ => False
  | n + 1, lo, hi, .leaf _ l => n = 0 ∧ LeafOk lo hi l
  | n + 1, lo, hi, .node _ l => KidsP (fun lo hi t => Shape n lo hi t ∧ 30 ≤ sumT t ∧ sumT t ≤ 122) lo hi l ∧ keyAt l 0 = []
def Good (n : Nat) (lo hi : List UInt8) (t : Tr) : Prop := Shape n lo hi t ∧ 30 ≤ sumT t ∧ sumT t ≤ 122

section
variable {P : List UInt8 → List UInt8 → Tr → Prop}
theorem kids_first {lo hi : List UInt8} {k k' : List UInt8} {t : Tr} {r : List (List UInt8 × Tr)} (h : KidsP P lo hi ((k, t) :: r)) : KidsP P lo hi ((k', t) :: r) := by
  cases r <;> exact h
theorem kids_split {hi : List UInt8} {d : List UInt8 × Tr} {b : List (List UInt8 × Tr)} : ∀ {a : List (List UInt8 × Tr)} {c : List UInt8 × Tr} {lo : List UInt8}, KidsP P lo hi (c :: a ++ d :: b) →
    KidsP P lo d.1 (c :: a) ∧ keyOk d.1 ∧ lo < d.1 ∧ ltH hi d.1 ∧ KidsP P d.1 hi (d :: b)
  | [], c, lo, h => h
  | e :: a, c, lo, h => by
    obtain ⟨h1, h2, h3, h4, h5⟩ := h
    obtain ⟨g1, g2, g3, g4, g5⟩ := kids_split (a := a) (c := e) (lo := e.1) h5
    exact ⟨⟨h1, h2, h3, .inr g3, g1⟩, g2, klt_trans h3 g3, g4, g5⟩
theorem kids_glue {hi : List UInt8} {d : List UInt8 × Tr} {b : List (List UInt8 × Tr)} : ∀ {a : List (List UInt8 × Tr)} {c : List UInt8 × Tr} {lo : List UInt8}, KidsP P lo d.1 (c :: a) → keyOk d.1 → lo < d.1 → ltH hi d.1 → KidsP P d.1 hi (d :: b) →
    KidsP P lo hi (c :: a ++ d :: b)
  | [], c, lo, h1, h2, h3, h4, h5 => ⟨h1, h2, h3, h4, h5⟩
  | e :: a, c, lo, h1, h2, h3, h4, h5 => by
    obtain ⟨g1, g2, g3, g4, g5⟩ := h1
    have g6 : e.1 < d.1 := g4.resolve_left h2.1
    exact ⟨g1, g2, g3, h4.of g6, kids_glue g5 h2 g6 h4 h5⟩
theorem kids_ne {lo hi : List UInt8} {l : List (List UInt8 × Tr)} (h : KidsP P lo hi l) : l ≠ [] := by
  intro e; subst e; exact h
theorem kids_mono {Q : List UInt8 → List UInt8 → Tr → Prop} (hPQ : ∀ lo hi t, P lo hi t → Q lo hi t) : ∀ {l : List (List UInt8 × Tr)} {lo hi : List UInt8}, KidsP P lo hi l → KidsP Q lo hi l
  | [_], _, _, h => hPQ _ _ _ h
  | _ :: d :: r, _, _, h => ⟨hPQ _ _ _ h.1, h.2.1, h.2.2.1, h.2.2.2.1, kids_mono hPQ (l := d :: r) h.2.2.2.2⟩
/-- A kid's surroundings. -/
def Ctx (P : List UInt8 → List UInt8 → Tr → Prop) (lo hi : List UInt8) (a b : List (List UInt8 × Tr)) (k lo' hi' : List UInt8) : Prop :=
  ((a = [] ∧ lo' = lo) ∨ (a ≠ [] ∧ KidsP P lo k a ∧ keyOk k ∧ lo < k ∧ lo' = k)) ∧
  ((b = [] ∧ hi' = hi) ∨ ∃ d r, b = d :: r ∧ hi' = d.1 ∧ keyOk d.1 ∧ ltH hi d.1 ∧ KidsP P d.1 hi b) ∧
  (a ≠ [] ∨ b ≠ [] → ltH hi' lo')
theorem kids_focus {lo hi : List UInt8} {a b : List (List UInt8 × Tr)} {c : List UInt8 × Tr} (h : KidsP P lo hi (a ++ c :: b)) : ∃ lo' hi', Ctx P lo hi a b c.1 lo' hi' ∧ P lo' hi' c.2 := by
  cases a with
  | nil =>
    cases b with
    | nil => exact ⟨lo, hi, ⟨.inl ⟨rfl, rfl⟩, .inl ⟨rfl, rfl⟩, fun h => by rcases h with h | h <;> exact absurd rfl h⟩, h⟩
    | cons d r =>
      obtain ⟨h1, h2, h3, h4, h5⟩ := h
      exact ⟨lo, d.1, ⟨.inl ⟨rfl, rfl⟩, .inr ⟨d, r, rfl, rfl, h2, h4, h5⟩, fun _ => .inr h3⟩, h1⟩
  | cons e a =>
    obtain ⟨g1, g2, g3, g4, g5⟩ := kids_split h
    cases b with
    | nil => exact ⟨c.1, hi, ⟨.inr ⟨by simp, g1, g2, g3, rfl⟩, .inl ⟨rfl, rfl⟩, fun _ => g4⟩, g5⟩
    | cons d r =>
      obtain ⟨h1, h2, h3, h4, h5⟩ := g5
      exact ⟨c.1, d.1, ⟨.inr ⟨by simp, g1, g2, g3, rfl⟩, .inr ⟨d, r, rfl, rfl, h2, h4, h5⟩, fun _ => .inr h3⟩, h1⟩
theorem kids_plug {lo hi : List UInt8} {a b : List (List UInt8 × Tr)} {k lo' hi' : List UInt8} (hc : Ctx P lo hi a b k lo' hi') {t : Tr} {m : List (List UInt8 × Tr)} (hm : KidsP P lo' hi' ((k, t) :: m)) : KidsP P lo hi (a ++ ((k, t) :: m ++ b)) := by
  obtain ⟨h1, h2, h3⟩ := hc
  have hmb : KidsP P lo' hi ((k, t) :: m ++ b) := by
    rcases h2 with ⟨rfl, rfl⟩ | ⟨d, r, rfl, rfl, g1, g2, g3⟩
    · rw [List.append_nil]; exact hm
    · exact kids_glue hm g1 ((h3 (.inr (by simp))).resolve_left g1.1) g2 g3
  rcases h1 with ⟨rfl, rfl⟩ | ⟨ha, g1, g2, g3, rfl⟩
  · exact hmb
  · cases a with
    | nil => exact absurd rfl ha
    | cons e a =>
      refine kids_glue (d := (lo', t)) (b := m ++ b) g1 g2 g3 ?_ hmb
      have h5 := h3 (.inl ha)
      rcases h2 with ⟨rfl, rfl⟩ | ⟨d, r, rfl, rfl, e1, e2, e3⟩
      · exact h5
      · exact e2.of (h5.resolve_left e1.1)
end

/-! cells' sizes -/
theorem vSz_le (v : Tv) : vSz v ≤ 16 := by unfold vSz; split <;> omega
theorem sum_leaf (p : Int) (l : List (List UInt8 × Tv)) : sumT (.leaf p l) = sumI (l.map fun c => ((3 + vSz c.2 + c.1.length : Nat) : Int)) := rfl
theorem sum_node (p : Int) (l : List (List UInt8 × Tr)) : sumT (.node p l) = sumI (l.map fun c => ((4 + c.1.length : Nat) : Int)) := rfl
theorem sum_node_append (p q r : Int) (a b : List (List UInt8 × Tr)) : sumT (.node p (a ++ b)) = sumT (.node q a) + sumT (.node r b) := by
  simp only [sum_node, List.map_append, sumI_append]
theorem sum_node_cons (p q : Int) (c : List UInt8 × Tr) (b : List (List UInt8 × Tr)) : sumT (.node p (c :: b)) = ((4 + c.1.length : Nat) : Int) + sumT (.node q b) := by
  simp only [sum_node, List.map_cons, sumI_cons]
theorem sum_node_nil (p : Int) : sumT (.node p []) = 0 := rfl
theorem sum_leaf_append (p q r : Int) (a b : List (List UInt8 × Tv)) : sumT (.leaf p (a ++ b)) = sumT (.leaf q a) + sumT (.leaf r b) := by
  simp only [sum_leaf, List.map_append, sumI_append]
theorem sum_leaf_cons (p q : Int) (c : List UInt8 × Tv) (b : List (List UInt8 × Tv)) : sumT (.leaf p (c :: b)) = ((3 + vSz c.2 + c.1.length : Nat) : Int) + sumT (.leaf q b) := by
  simp only [sum_leaf, List.map_cons, sumI_cons]
theorem sumI_nonneg {l : List Int} (h : ∀ x ∈ l, 0 ≤ x) : 0 ≤ sumI l := by
  induction l with
  | nil => simp [sumI_nil]
  | cons x l ih =>
    rw [sumI_cons]
    have := h x (by simp)
    have := ih (fun y hy => h y (by simp [hy]))
    omega
theorem sizes_nonneg (t : Tr) : ∀ x ∈ sizesT t, 0 ≤ x := by
  cases t <;> (intro x hx; obtain ⟨c, _, rfl⟩ := List.mem_map.1 hx; omega)
theorem sumT_nonneg (t : Tr) : 0 ≤ sumT t := sumI_nonneg (sizes_nonneg t)
/-- A place at which parts are best comes out within a cell. -/
theorem cut_bal {l : List Int} (h : Small l) {c : Int} (hc : ∀ x ∈ l, x ≤ c) (hc1 : 0 ≤ c ∧ c ≤ 100) (h1 : 122 < sumI l) {m : Nat} (hl : ∀ k, 1 ≤ k → k < l.length → worse l m ≤ worse l k) :
    2 * worse l m ≤ sumI l + c := by
  obtain ⟨k, hk, ha, hb⟩ := first_half l h (by omega)
  have hs := sumI_take_succ l k hk
  have hx : l[k]?.getD 0 ≤ c := by simp [hk]; exact hc _ (List.getElem_mem hk)
  have w0 := (h.take k).bd
  have hlow := worse_lo (l := l) m
  by_cases hd : 2 * sumI (l.take (k + 1)) ≤ sumI l + c
  · have hk1 : k + 1 < l.length := by
      by_cases e : k + 1 = l.length
      · rw [e, sumI_take_all] at hd; omega
      · omega
    have := hl (k + 1) (by omega) hk1
    have := worse_lo (l := l) (k + 1)
    omega
  · have hk0 : 1 ≤ k := by
      by_cases e : k = 0
      · subst e; simp [sumI_nil] at *; omega
      · omega
    have := hl k hk0 hk
    have := worse_lo (l := l) k
    omega
/-- Where cells of 36 at most, that are 200 together at most, are parted. -/
theorem cut_parts {l : List Int} (hlen : l.length ≤ 1000) (h0 : ∀ x ∈ l, 0 ≤ x ∧ x ≤ 36) (hsum : sumI l ≤ 200) : (atF l = 0 ∧ sumI l ≤ 122) ∨
    ∃ m : Nat, 1 ≤ m ∧ m < l.length ∧ atF l = (m : Int) ∧ 122 < sumI l ∧ sumI (l.take m) ≤ 122 ∧ sumI (l.drop m) ≤ 122 ∧ ∀ c : Int, 0 ≤ c → (∀ x ∈ l, x ≤ c) → sumI l - c ≤ 2 * sumI (l.take m) ∧ sumI l - c ≤ 2 * sumI (l.drop m) := by
  have hS : Small l := ⟨hlen, fun x hx => by have := h0 x hx; omega⟩
  rcases atF_cases hS with ⟨e, hc⟩ | ⟨h1, m, g1, g2, g3, g4⟩
  · left
    refine ⟨e, ?_⟩
    rcases hc with hc | hc
    · exact hc
    · match l, hc, h0 with
      | [], _, _ => simp [sumI_nil]
      | [x], _, h0 => rw [sumI_cons, sumI_nil]; have := h0 x (by simp); omega
      | _ :: _ :: _, hc, _ => simp at hc; omega
  · right
    have hb := cut_bal hS (c := 36) (fun x hx => (h0 x hx).2) (by omega) h1 (m := m) (fun k a b => (g4 k a b).1)
    have hw := worse_lo (l := l) m
    refine ⟨m, g1, g2, g3, h1, by omega, by omega, fun c hc0 hc => ?_⟩
    by_cases hc9 : c ≤ 100
    · have := cut_bal hS (c := c) hc ⟨hc0, hc9⟩ h1 (m := m) (fun k a b => (g4 k a b).1)
      omega
    · have h5 := sumI_nonneg (l := l.take m) (fun x hx => (h0 x (List.mem_of_mem_take hx)).1)
      have h6 := sumI_nonneg (l := l.drop m) (fun x hx => (h0 x (List.mem_of_mem_drop hx)).1)
      omega
end Go.Proofs.YtpghlmcoajaiiaaGreatDoor

/- Trees that may be: parted, put together, mended. -/
namespace Go.Proofs.YtpghlmcoajaiiaaGreatDoor

theorem keyAt_at {α : Type} (a b : List (List UInt8 × α)) (c : List UInt8 × α) : keyAt (a ++ c :: b) a.length = c.1 := by simp [keyAt]
theorem kidAt_at (a b : List (List UInt8 × Tr)) (c : List UInt8 × Tr) : kidAt (a ++ c :: b) a.length = c.2 := by simp [kidAt]
theorem list_at {α : Type} {l : List α} {k : Nat} (h : k < l.length) : ∃ a c b, l = a ++ c :: b ∧ a.length = k := by
  refine ⟨l.take k, l[k], l.drop (k + 1), ?_, by simp; omega⟩
  simp
theorem kids_keys {P : List UInt8 → List UInt8 → Tr → Prop} : ∀ {r : List (List UInt8 × Tr)} {c : List UInt8 × Tr} {lo hi : List UInt8}, KidsP P lo hi (c :: r) → ∀ d ∈ r, keyOk d.1
  | [], _, _, _, _, d, hd => by cases hd
  | e :: r, _, _, _, h, d, hd => by
    rcases List.mem_cons.1 hd with rfl | hd
    · exact h.2.1
    · exact kids_keys h.2.2.2.2 d hd
theorem shape_kids {n : Nat} {lo hi : List UInt8} {p : Int} {l : List (List UInt8 × Tr)} (h : Shape (n + 1) lo hi (.node p l)) : KidsP (Good n) lo hi l ∧ keyAt l 0 = [] := h
theorem shape_node {n : Nat} {lo hi : List UInt8} {p : Int} {l : List (List UInt8 × Tr)} (h : KidsP (Good n) lo hi l) (h0 : keyAt l 0 = []) : Shape (n + 1) lo hi (.node p l) := ⟨h, h0⟩
theorem kids_good0 {lo hi : List UInt8} {l : List (List UInt8 × Tr)} (h : KidsP (Good 0) lo hi l) : False := by
  match l, h with
  | [_], h => exact h.1
  | _ :: _ :: _, h => exact h.1.1
/-- A node's cells' sizes. -/
theorem node_cells {P : List UInt8 → List UInt8 → Tr → Prop} {lo hi : List UInt8} {p : Int} {l : List (List UInt8 × Tr)} (h : KidsP P lo hi l) (h0 : keyAt l 0 = []) : ∀ x ∈ sizesT (.node p l), 4 ≤ x ∧ x ≤ 20 := by
  intro x hx
  obtain ⟨c, hc, rfl⟩ := List.mem_map.1 hx
  cases l with
  | nil => exact absurd h (by simp [KidsP])
  | cons e r =>
    rcases List.mem_cons.1 hc with rfl | hc
    · have : c.1 = [] := by simpa [keyAt] using h0
      rw [this]; simp
    · have := (kids_keys h c hc).2
      omega
theorem leaf_cells {lo hi : List UInt8} {p : Int} {l : List (List UInt8 × Tv)} (h : LeafOk lo hi l) : ∀ x ∈ sizesT (.leaf p l), 4 ≤ x ∧ x ≤ 35 := by
  intro x hx
  obtain ⟨c, hc, rfl⟩ := List.mem_map.1 hx
  obtain ⟨h1, _⟩ := h.2 c hc
  have h2 := vSz_le c.2
  have h3 := h1.2
  have h4 : 0 < c.1.length := List.length_pos_iff.2 h1.1
  omega
theorem shape_cells {n : Nat} {lo hi : List UInt8} {t : Tr} (h : Shape n lo hi t) : ∀ x ∈ sizesT t, 4 ≤ x ∧ x ≤ 35 := by
  cases n with
  | zero => exact h.elim
  | succ n =>
    cases t with
    | leaf p l => exact leaf_cells h.2
    | node p l => exact fun x hx => by have := node_cells (shape_kids h).1 (shape_kids h).2 x hx; omega
theorem len_sum {l : List Int} (h : ∀ x ∈ l, 4 ≤ x) : 4 * (l.length : Int) ≤ sumI l := by
  induction l with
  | nil => simp [sumI_nil]
  | cons x l ih =>
    have h1 := h x (by simp)
    have h2 := ih (fun y hy => h y (by simp [hy]))
    rw [sumI_cons]; simp only [List.length_cons]; omega
theorem shape_parts {n : Nat} {lo hi : List UInt8} {t : Tr} (h : Shape n lo hi t) (hs : sumT t ≤ 200) : (atF (sizesT t) = 0 ∧ sumT t ≤ 122) ∨
    ∃ m : Nat, 1 ≤ m ∧ m < (sizesT t).length ∧ atF (sizesT t) = (m : Int) ∧ 122 < sumT t ∧ sumI ((sizesT t).take m) ≤ 122 ∧ sumI ((sizesT t).drop m) ≤ 122 ∧ ∀ c : Int, 0 ≤ c → (∀ x ∈ sizesT t, x ≤ c) → sumT t - c ≤ 2 * sumI ((sizesT t).take m) ∧ sumT t - c ≤ 2 * sumI ((sizesT t).drop m) := by
  have h1 := shape_cells h
  have h2 := len_sum (fun x hx => (h1 x hx).1)
  have hs' : sumI (sizesT t) ≤ 200 := hs
  exact cut_parts (by omega) (fun x hx => by have := h1 x hx; omega) hs'
theorem sizes_len_leaf (p : Int) (l : List (List UInt8 × Tv)) : (sizesT (.leaf p l)).length = l.length := by simp [sizesT]
theorem sizes_len_node (p : Int) (l : List (List UInt8 × Tr)) : (sizesT (.node p l)).length = l.length := by simp [sizesT]

/-- Both parts may be. -/
theorem part_ok {n : Nat} {lo hi : List UInt8} {t : Tr} (h : Shape n lo hi t) (hs : sumT t ≤ 200) (hat : atF (sizesT t) ≠ 0) :
    Good n lo (partT (atF (sizesT t)).toNat t).2.2 (partT (atF (sizesT t)).toNat t).1 ∧ keyOk (partT (atF (sizesT t)).toNat t).2.2 ∧ lo < (partT (atF (sizesT t)).toNat t).2.2 ∧ ltH hi (partT (atF (sizesT t)).toNat t).2.2 ∧ Good n (partT (atF (sizesT t)).toNat t).2.2 hi (partT (atF (sizesT t)).toNat t).2.1 := by
  rcases shape_parts h hs with ⟨e, _⟩ | ⟨m, h1, h2, h3, h4, h5, h6, h7⟩
  · exact absurd e hat
  rw [h3, Int.toNat_natCast]
  cases n with
  | zero => exact h.elim
  | succ n =>
    cases t with
    | leaf p l =>
      obtain ⟨rfl, hp, hl⟩ := h
      rw [sizes_len_leaf] at h2
      obtain ⟨a, d, b, rfl, rfl⟩ := list_at h2
      have hc := leaf_cells (p := p) ⟨hp, hl⟩
      obtain ⟨g1, g2⟩ := h7 35 (by omega) (fun x hx => (hc x hx).2)
      have ek : keyAt (a ++ d :: b) a.length = d.1 := keyAt_at a b d
      have et : (a ++ d :: b).take a.length = a := List.take_left
      have ed : (a ++ d :: b).drop a.length = d :: b := List.drop_left
      have st : sumI ((sizesT (.leaf p (a ++ d :: b))).take a.length) = sumT (.leaf 0 a) := by
        simp only [sizesT, sumT, ← List.map_take, et]
      have sd : sumI ((sizesT (.leaf p (a ++ d :: b))).drop a.length) = sumT (.leaf 0 (d :: b)) := by
        simp only [sizesT, sumT, ← List.map_drop, ed]
      rw [st] at h5 g1
      rw [sd] at h6 g2
      simp only [partT, ek, et, ed]
      unfold keysOf at hp
      rw [List.map_append, List.map_cons, List.pairwise_append, List.pairwise_cons] at hp
      obtain ⟨q1, ⟨q2, q3⟩, q4⟩ := hp
      have hd := hl d (by simp)
      have hlt : ∀ c ∈ a, c.1 < d.1 := fun c hc => q4 c.1 (List.mem_map_of_mem hc) d.1 (by simp)
      obtain ⟨c0, hc0⟩ : ∃ c0, c0 ∈ a := by
        cases a with
        | nil => simp at h1
        | cons c0 r => exact ⟨c0, by simp⟩
      refine ⟨⟨⟨rfl, q1, fun c hc => ?_⟩, by omega, h5⟩, hd.1, kle_lt (hl c0 (by simp [hc0])).2.1 (hlt c0 hc0), hd.2.2.1, ⟨⟨rfl, ?_, fun c hc => ?_⟩, by omega, h6⟩⟩
      · have := hl c (by simp [hc])
        exact ⟨this.1, this.2.1, .inr (hlt c hc), this.2.2.2⟩
      · exact List.pairwise_cons.2 ⟨q2, q3⟩
      · have := hl c (List.mem_append_right _ hc)
        refine ⟨this.1, ?_, this.2.2.1, this.2.2.2⟩
        rcases List.mem_cons.1 hc with rfl | hc
        · exact klt_irrefl _
        · exact klt_asymm (q2 c.1 (List.mem_map_of_mem hc))
    | node p l =>
      obtain ⟨hk, h0⟩ := shape_kids h
      rw [sizes_len_node] at h2
      obtain ⟨a, d, b, rfl, rfl⟩ := list_at h2
      have hc := node_cells (p := p) hk h0
      obtain ⟨g1, g2⟩ := h7 20 (by omega) (fun x hx => (hc x hx).2)
      have ek : keyAt (a ++ d :: b) a.length = d.1 := keyAt_at a b d
      have et : (a ++ d :: b).take a.length = a := List.take_left
      have ed : (a ++ d :: b).drop a.length = d :: b := List.drop_left
      have st : sumI ((sizesT (.node p (a ++ d :: b))).take a.length) = sumT (.node 0 a) := by
        simp only [sizesT, sumT, ← List.map_take, et]
      have sd : sumI ((sizesT (.node p (a ++ d :: b))).drop a.length) = sumT (.node 0 (d :: b)) := by
        simp only [sizesT, sumT, ← List.map_drop, ed]
      rw [st] at h5 g1
      rw [sd, sum_node_cons 0 0] at h6 g2
      simp only [partT, ek, et, ed, firstK]
      cases a with
      | nil => simp at h1
      | cons e a =>
        obtain ⟨q1, q2, q3, q4, q5⟩ := kids_split hk
        have q6 := q2.2
        have e0 : keyAt (e :: a) 0 = [] := by simpa [keyAt] using h0
        refine ⟨⟨shape_node q1 e0, by omega, h5⟩, q2, q3, q4, ⟨shape_node (kids_first q5) (by simp [keyAt]), ?_, ?_⟩⟩
        · rw [sum_node_cons 0 0]; simp; omega
        · rw [sum_node_cons 0 0]; simp; omega
/-- Two neighbours put together. -/
theorem join_ok {n : Nat} {lo k hi : List UInt8} {s t : Tr} (hs : Shape n lo k s) (ht : Shape n k hi t) (hk : keyOk k) (hlo : lo < k) (hhi : ltH hi k) :
    Shape n lo hi (joinT k s t) ∧ sumT s + sumT t ≤ sumT (joinT k s t) ∧ sumT (joinT k s t) ≤ sumT s + sumT t + 16 := by
  cases n with
  | zero => exact hs.elim
  | succ n =>
    cases s with
    | leaf p l =>
      obtain ⟨rfl, hp, hl⟩ := hs
      cases t with
      | leaf q m =>
        obtain ⟨_, hq, hm⟩ := ht
        refine ⟨⟨rfl, ?_, fun c hc => ?_⟩, ?_, ?_⟩
        · unfold keysOf at *
          rw [List.map_append, List.pairwise_append]
          refine ⟨hp, hq, fun x hx y hy => ?_⟩
          obtain ⟨c, hc, rfl⟩ := List.mem_map.1 hx
          obtain ⟨d, hd, rfl⟩ := List.mem_map.1 hy
          exact klt_le ((hl c hc).2.2.1.resolve_left hk.1) (hm d hd).2.1
        · rcases List.mem_append.1 hc with hc | hc
          · have := hl c hc
            exact ⟨this.1, this.2.1, hhi.of (this.2.2.1.resolve_left hk.1), this.2.2.2⟩
          · have := hm c hc
            exact ⟨this.1, fun h => this.2.1 (klt_trans h hlo), this.2.2.1, this.2.2.2⟩
        · simp only [joinT]; rw [sum_leaf_append 0 p q]; omega
        · simp only [joinT]; rw [sum_leaf_append 0 p q]; omega
      | node q m => exact (kids_good0 (shape_kids ht).1).elim
    | node p l =>
      cases t with
      | leaf q m =>
        obtain ⟨rfl, _⟩ := ht
        exact (kids_good0 (shape_kids hs).1).elim
      | node q m =>
        obtain ⟨h1, h0⟩ := shape_kids hs
        obtain ⟨g1, g0⟩ := shape_kids ht
        cases l with
        | nil => exact h1.elim
        | cons c l =>
          cases m with
          | nil => exact g1.elim
          | cons d m =>
            have d0 : d.1 = [] := by simpa [keyAt] using g0
            simp only [joinT, firstK]
            refine ⟨shape_node (kids_glue (d := (k, d.2)) h1 hk hlo hhi (kids_first g1)) (by simpa [keyAt] using h0), ?_, ?_⟩
            · rw [sum_node_append 0 p 0, sum_node_cons 0 0 (k, d.2), sum_node_cons q 0 d, d0]; simp; omega
            · have := hk.2
              rw [sum_node_append 0 p 0, sum_node_cons 0 0 (k, d.2), sum_node_cons q 0 d, d0]; simp; omega

theorem splitT_at (a b : List (List UInt8 × Tr)) (k : List UInt8) (t : Tr) : splitT (a ++ (k, t) :: b) a.length =
    if atF (sizesT t) = 0 then none else some (a ++ ((k, (partT (atF (sizesT t)).toNat t).1) :: ((partT (atF (sizesT t)).toNat t).2.2, (partT (atF (sizesT t)).toNat t).2.1) :: b)) := by
  unfold splitT
  rw [kidAt_at, keyAt_at, List.take_left]
  have : (a ++ (k, t) :: b).drop (a.length + 1) = b := by
    rw [List.drop_append, List.drop_of_length_le (by omega)]; simp
  rw [this]
/-- A kid that may be but for what its cells come to, parted if it must be. -/
theorem split_ok {n : Nat} {lo hi lo' hi' k : List UInt8} {a b : List (List UInt8 × Tr)} {t : Tr} (hc : Ctx (Good n) lo hi a b k lo' hi') (hs : Shape n lo' hi' t) (hsum : sumT t ≤ 200) (h30 : 30 ≤ sumT t) (h0 : keyAt (a ++ (k, t) :: b) 0 = []) :
    ∃ m, (splitT (a ++ (k, t) :: b) a.length = some m ∨ (splitT (a ++ (k, t) :: b) a.length = none ∧ m = a ++ (k, t) :: b)) ∧ KidsP (Good n) lo hi m ∧ keyAt m 0 = [] ∧ sumT (.node 0 m) ≤ sumT (.node 0 (a ++ (k, t) :: b)) + 20 ∧ (a ++ (k, t) :: b).length ≤ m.length ∧ (splitT (a ++ (k, t) :: b) a.length = none → atF (sizesT t) = 0) := by
  rw [splitT_at]
  by_cases hat : atF (sizesT t) = 0
  · rw [if_pos hat]
    rcases shape_parts hs hsum with ⟨_, h1⟩ | ⟨m, h1, _, h3, _⟩
    · refine ⟨_, .inr ⟨rfl, rfl⟩, ?_, h0, by omega, Nat.le_refl _, fun _ => hat⟩
      have := kids_plug (m := []) hc (t := t) ⟨hs, h30, h1⟩
      simpa using this
    · omega
  · rw [if_neg hat]
    obtain ⟨p1, p2, p3, p4, p5⟩ := part_ok hs hsum hat
    refine ⟨_, .inl rfl, ?_, ?_, ?_, by simp, fun h => by cases h⟩
    · have := kids_plug (m := [((partT (atF (sizesT t)).toNat t).2.2, (partT (atF (sizesT t)).toNat t).2.1)]) hc (t := (partT (atF (sizesT t)).toNat t).1) ⟨p1, p2, p3, p4, p5⟩
      simpa using this
    · cases a <;> simpa [keyAt] using h0
    · have := p2.2
      rw [sum_node_append 0 0 0, sum_node_cons 0 0, sum_node_cons 0 0, sum_node_append 0 0 0 a, sum_node_cons 0 0]
      simp only
      omega
end Go.Proofs.YtpghlmcoajaiiaaGreatDoor

/- Trees that may be: mended; a key's value put. -/
namespace Go.Proofs.YtpghlmcoajaiiaaGreatDoor

theorem good_len {n : Nat} {lo hi : List UInt8} {p : Int} {l : List (List UInt8 × Tr)} (h : Good n lo hi (.node p l)) : 2 ≤ l.length := by
  cases n with
  | zero => exact h.1.elim
  | succ n =>
    have h0 := (shape_kids h.1).2
    have h1 := h.2.1
    match l, h0, h1, kids_ne (shape_kids h.1).1 with
    | [c], h0, h1, _ =>
      have : c.1 = [] := by simpa [keyAt] using h0
      rw [sum_node_cons p p, sum_node_nil, this] at h1
      simp at h1
    | _ :: _ :: _, _, _, _ => simp
/-- What is behind a kid's own place goes on without it. -/
theorem ctx_right {P : List UInt8 → List UInt8 → Tr → Prop} {lo hi lo' hi' k : List UInt8} {a r : List (List UInt8 × Tr)} {d : List UInt8 × Tr} (hc : Ctx P lo hi a (d :: r) k lo' hi') : ∃ hi'', Ctx P lo hi a r k lo' hi'' ∧ P d.1 hi'' d.2 ∧ hi' = d.1 ∧ keyOk d.1 ∧ lo' < d.1 ∧ ltH hi'' d.1 := by
  obtain ⟨h1, h2, h3⟩ := hc
  rcases h2 with ⟨h, _⟩ | ⟨d', r', e, rfl, g1, g2, g3⟩
  · cases h
  cases e
  obtain ⟨lo'', hi'', hq, hp⟩ := kids_focus (a := []) (c := d) (b := r) g3
  obtain ⟨q1, q2, q3⟩ := hq
  obtain rfl : lo'' = d.1 := by
    rcases q1 with ⟨_, e⟩ | ⟨e, _⟩
    · exact e
    · exact absurd rfl e
  have hlt : lo' < d.1 := (h3 (.inr (by simp))).resolve_left g1.1
  have hd : ltH hi'' d.1 := by
    rcases q2 with ⟨rfl, rfl⟩ | ⟨d2, r2, rfl, rfl, e1, e2, e3⟩
    · exact g2
    · exact q3 (.inr (by simp))
  exact ⟨hi'', ⟨h1, q2, fun _ => hd.of hlt⟩, hp, rfl, g1, hlt, hd⟩
theorem ctx_left {P : List UInt8 → List UInt8 → Tr → Prop} {lo hi lo' hi' k : List UInt8} {a : List (List UInt8 × Tr)} {e : List UInt8 × Tr} (hc : Ctx P lo hi (a ++ [e]) [] k lo' hi') : ∃ lo'', Ctx P lo hi a [] e.1 lo'' hi ∧ P lo'' k e.2 ∧ hi' = hi ∧ lo' = k ∧ keyOk k ∧ lo'' < k ∧ ltH hi k := by
  obtain ⟨h1, h2, h3⟩ := hc
  rcases h1 with ⟨h, _⟩ | ⟨_, g1, g2, g3, rfl⟩
  · simp at h
  obtain rfl : hi' = hi := by
    rcases h2 with ⟨_, e⟩ | ⟨d, r, e, _⟩
    · exact e
    · cases e
  obtain ⟨lo'', hi'', hq, hp⟩ := kids_focus g1
  obtain ⟨q1, q2, q3⟩ := hq
  obtain rfl : hi'' = lo' := by
    rcases q2 with ⟨_, e⟩ | ⟨d, r, e, _⟩
    · exact e
    · cases e
  have hhi : ltH hi' hi'' := h3 (.inl (by simp))
  have hlt : lo'' < hi'' := by
    rcases q1 with ⟨rfl, rfl⟩ | ⟨ha, _, _, _, rfl⟩
    · exact g3
    · exact (q3 (.inl ha)).resolve_left g2.1
  exact ⟨lo'', ⟨q1, .inl ⟨rfl, rfl⟩, fun _ => hhi.of hlt⟩, hp, rfl, rfl, g2, hlt, hhi⟩
theorem joined_right (a r : List (List UInt8 × Tr)) (c d : List UInt8 × Tr) : joined (a ++ c :: d :: r) a.length = a ++ (c.1, joinT d.1 c.2 d.2) :: r := by
  unfold joined
  have e1 : a ++ c :: d :: r = (a ++ [c]) ++ d :: r := by simp
  have k1 : keyAt (a ++ c :: d :: r) (a.length + 1) = d.1 := by rw [e1]; have := keyAt_at (a ++ [c]) r d; simpa using this
  have k2 : kidAt (a ++ c :: d :: r) (a.length + 1) = d.2 := by rw [e1]; have := kidAt_at (a ++ [c]) r d; simpa using this
  rw [keyAt_at, kidAt_at, k1, k2, List.take_left]
  have : (a ++ c :: d :: r).drop (a.length + 2) = r := by rw [List.drop_append, List.drop_of_length_le (by omega)]; simp
  rw [this]
/-- A branch of which one kid may be but for what its cells come to, mended. -/
theorem mend_ok {n : Nat} {lo hi lo' hi' k : List UInt8} {a b : List (List UInt8 × Tr)} {t : Tr} {p : Int} (hc : Ctx (Good n) lo hi a b k lo' hi') (hs : Shape n lo' hi' t) (hsum : sumT t ≤ 160) (h0 : keyAt (a ++ (k, t) :: b) 0 = []) (hex : 30 ≤ sumT t ∨ a ≠ [] ∨ b ≠ []) :
    ∃ q m, mendT p (a ++ (k, t) :: b) a.length = .node q m ∧ KidsP (Good n) lo hi m ∧ keyAt m 0 = [] ∧ sumT (.node 0 m) ≤ sumT (.node 0 (a ++ (k, t) :: b)) + 20 ∧ (a ++ (k, t) :: b).length ≤ m.length + 1 := by
  by_cases hlow : 30 ≤ sumT t
  · obtain ⟨m, h1, h2, h3, h4, h5, _⟩ := split_ok hc hs (by omega) hlow h0
    unfold mendT
    rcases h1 with h1 | ⟨h1, rfl⟩
    · rw [h1]; exact ⟨0, m, rfl, h2, h3, h4, by omega⟩
    · have hl : lowT (kidAt (a ++ (k, t) :: b) a.length) = false := by rw [kidAt_at]; simp [lowT]; omega
      rw [h1]; simp only; rw [if_pos (.inl hl)]; exact ⟨p, _, rfl, h2, h3, by omega, by omega⟩
  · have hl : lowT (kidAt (a ++ (k, t) :: b) a.length) = true := by rw [kidAt_at]; simp [lowT]; omega
    have hsn : splitT (a ++ (k, t) :: b) a.length = none := by
      rw [splitT_at]
      rcases shape_parts hs (by omega) with ⟨e, _⟩ | ⟨m, _, _, _, h4, _⟩
      · rw [if_pos e]
      · omega
    unfold mendT
    rw [hsn]
    simp only
    cases b with
    | cons d r =>
      rw [if_neg (by rw [hl]; simp; omega)]
      have hj : joinAt (a ++ (k, t) :: d :: r).length a.length = a.length := by unfold joinAt; simp
      rw [hj, joined_right]
      dsimp only
      obtain ⟨hi'', hc2, hg, rfl, hkd, hlo, hhi⟩ := ctx_right hc
      obtain ⟨j1, j2, j3⟩ := join_ok hs hg.1 hkd hlo hhi
      have hg2 := hg.2
      have hnn := sumT_nonneg t
      obtain ⟨m, e1, e2, e3, e4, e5, _⟩ := split_ok hc2 j1 (by omega) (by omega) (by cases a <;> simpa [keyAt] using h0)
      have hd4 : sumT (.node 0 (a ++ (k, joinT d.1 t d.2) :: r)) ≤ sumT (.node 0 (a ++ (k, t) :: d :: r)) := by
        rw [sum_node_append 0 0 0, sum_node_cons 0 0, sum_node_append 0 0 0 a, sum_node_cons 0 0, sum_node_cons 0 0 d]
        simp only
        omega
      rcases e1 with e1 | ⟨e1, rfl⟩
      · rw [e1]; exact ⟨0, m, rfl, e2, e3, by omega, by simp at e5 ⊢; omega⟩
      · rw [e1]; exact ⟨0, _, rfl, e2, e3, by omega, by simp <;> omega⟩
    | nil =>
      rcases List.eq_nil_or_concat a with rfl | ⟨a', e, rfl⟩
      · simp at hex; omega
      · rw [if_neg (by rw [hl]; simp)]
        have hj : joinAt (a'.concat e ++ [(k, t)]).length (a'.concat e).length = a'.length := by unfold joinAt; simp
        have el : a'.concat e ++ [(k, t)] = a' ++ e :: (k, t) :: [] := by simp
        rw [hj, el, joined_right]
        dsimp only
        rw [List.concat_eq_append] at hc
        obtain ⟨lo'', hc2, hg, rfl, rfl, hkd, hlo, hhi⟩ := ctx_left hc
        obtain ⟨j1, j2, j3⟩ := join_ok hg.1 hs hkd hlo hhi
        have hg2 := hg.2
        have hnn := sumT_nonneg t
        obtain ⟨m, e1, e2, e3, e4, e5, _⟩ := split_ok hc2 j1 (by omega) (by omega) (by rw [el] at h0; cases a' <;> simpa [keyAt] using h0)
        have hd4 : sumT (.node 0 (a' ++ (e.1, joinT lo' e.2 t) :: [])) ≤ sumT (.node 0 (a' ++ e :: (lo', t) :: [])) := by
          rw [sum_node_append 0 0 0, sum_node_cons 0 0, sum_node_append 0 0 0 a', sum_node_cons 0 0 e, sum_node_cons 0 0 (lo', t)]
          simp only
          omega
        rcases e1 with e1 | ⟨e1, rfl⟩
        · rw [e1]; exact ⟨0, m, rfl, e2, e3, by omega, by simp at e5 ⊢; omega⟩
        · rw [e1]; exact ⟨0, _, rfl, e2, e3, by omega, by simp <;> omega⟩

/-! a key's value in a leaf -/
theorem putL_mem {key : List UInt8} {v : Tv} : ∀ {l : List (List UInt8 × Tv)} {c : List UInt8 × Tv}, c ∈ putL key v l → c = (key, v) ∨ c ∈ l
  | [], c, h => by simp [putL] at h; exact .inl h
  | d :: r, c, h => by
    unfold putL at h
    split at h
    · rcases List.mem_cons.1 h with rfl | h
      · exact .inr (by simp)
      · exact (putL_mem h).imp id (fun h => by simp [h])
    · split at h
      · rcases List.mem_cons.1 h with rfl | h
        · exact .inl rfl
        · exact .inr (by simp [h])
      · rcases List.mem_cons.1 h with rfl | h
        · exact .inl rfl
        · exact .inr h
theorem putL_sorted {key : List UInt8} {v : Tv} : ∀ {l : List (List UInt8 × Tv)}, (keysOf l).Pairwise (fun a b => a < b) → (keysOf (putL key v l)).Pairwise (fun a b => a < b)
  | [], _ => by simp [putL, keysOf]
  | d :: r, h => by
    unfold keysOf at h
    rw [List.map_cons, List.pairwise_cons] at h
    obtain ⟨h1, h2⟩ := h
    unfold putL
    split
    · rename_i hlt
      unfold keysOf
      rw [List.map_cons, List.pairwise_cons]
      refine ⟨fun x hx => ?_, putL_sorted h2⟩
      obtain ⟨c, hc, rfl⟩ := List.mem_map.1 hx
      rcases putL_mem hc with rfl | hc
      · exact hlt
      · exact h1 c.1 (List.mem_map_of_mem hc)
    · rename_i hlt
      split
      · rename_i he
        unfold keysOf
        rw [List.map_cons, List.pairwise_cons]
        exact ⟨fun x hx => he ▸ h1 x hx, h2⟩
      · rename_i he
        have hk : key < d.1 := by
          rcases ktri d.1 key with h | h | h
          · exact absurd h hlt
          · exact absurd h he
          · exact h
        unfold keysOf
        rw [List.map_cons, List.map_cons, List.pairwise_cons, List.pairwise_cons]
        refine ⟨fun x hx => ?_, h1, h2⟩
        rcases List.mem_cons.1 hx with rfl | hx
        · exact hk
        · exact klt_trans hk (h1 x hx)
theorem putL_sum {key : List UInt8} {v : Tv} (hk : key.length ≤ 16) : ∀ (l : List (List UInt8 × Tv)), sumT (.leaf 0 (putL key v l)) ≤ sumT (.leaf 0 l) + 35 ∧ 0 < (putL key v l).length
  | [] => by
    have := vSz_le v
    unfold putL
    rw [sum_leaf_cons 0 0]
    simp [sum_leaf, sumI_nil]; omega
  | d :: r => by
    have := vSz_le v
    have ih := putL_sum hk r (v := v)
    unfold putL
    split
    · rw [sum_leaf_cons 0 0, sum_leaf_cons 0 0 d]; simp; omega
    · split
      · rw [sum_leaf_cons 0 0, sum_leaf_cons 0 0 d]; simp; omega
      · rw [sum_leaf_cons 0 0]; simp; omega
theorem putL_ok {lo hi key : List UInt8} {v : Tv} {l : List (List UInt8 × Tv)} (h : LeafOk lo hi l) (hk : keyOk key) (hlo : ¬ key < lo) (hhi : ltH hi key) (hv : valOk v) : LeafOk lo hi (putL key v l) :=
  ⟨putL_sorted h.1, fun c hc => by
    rcases putL_mem hc with rfl | hc
    · exact ⟨hk, hlo, hhi, hv⟩
    · exact h.2 c hc⟩

/-! which kid has a key -/
theorem wayD_spec (ks : List (List UInt8)) (key : List UInt8) : ∀ n, wayD ks key n ≤ n ∧ (wayD ks key n = 0 ∨ ¬ key < ks[wayD ks key n]?.getD []) ∧ ∀ i, wayD ks key n < i → i ≤ n → key < ks[i]?.getD []
  | 0 => ⟨Nat.le_refl _, .inl rfl, fun i h1 h2 => by simp [wayD] at h1; omega⟩
  | n + 1 => by
    obtain ⟨h1, h2, h3⟩ := wayD_spec ks key n
    unfold wayD
    split
    · rename_i h
      refine ⟨by omega, h2, fun i a b => ?_⟩
      by_cases e : i = n + 1
      · subst e; exact h
      · exact h3 i a (by omega)
    · rename_i h
      exact ⟨Nat.le_refl _, .inr h, fun i a b => by omega⟩
theorem wayF_spec {ks : List (List UInt8)} {key : List UInt8} (h : ks ≠ []) : wayF ks key < ks.length ∧ (wayF ks key = 0 ∨ ¬ key < ks[wayF ks key]?.getD []) ∧ ∀ i, wayF ks key < i → i < ks.length → key < ks[i]?.getD [] := by
  obtain ⟨h1, h2, h3⟩ := wayD_spec ks key (ks.length - 1)
  have := List.length_pos_iff.2 h
  exact ⟨by unfold wayF; omega, h2, fun i a b => h3 i a (by omega)⟩
/-- The kid that has a key, its surroundings, and that the key lies in its span. -/
theorem way_focus {P : List UInt8 → List UInt8 → Tr → Prop} {lo hi key : List UInt8} {l : List (List UInt8 × Tr)} (h : KidsP P lo hi l) (hlo : ¬ key < lo) (hhi : ltH hi key) :
    ∃ a c b lo' hi', l = a ++ c :: b ∧ a.length = wayF (keysOf l) key ∧ Ctx P lo hi a b c.1 lo' hi' ∧ P lo' hi' c.2 ∧ ¬ key < lo' ∧ ltH hi' key := by
  have hne := kids_ne h
  have hk : keysOf l ≠ [] := by intro e; apply hne; unfold keysOf at e; simpa using e
  obtain ⟨h1, h2, h3⟩ := wayF_spec (key := key) hk
  have hlen : (keysOf l).length = l.length := by simp [keysOf]
  obtain ⟨a, c, b, e, hal⟩ := list_at (l := l) (k := wayF (keysOf l) key) (by omega)
  rw [← hal] at h2 h3
  rw [e] at h h2 h3 hlen
  obtain ⟨lo', hi', hc, hp⟩ := kids_focus h
  refine ⟨a, c, b, lo', hi', e, hal, hc, hp, ?_, ?_⟩
  · obtain ⟨q1, _, _⟩ := hc
    rcases q1 with ⟨rfl, rfl⟩ | ⟨ha, _, _, _, rfl⟩
    · exact hlo
    · rcases h2 with h2 | h2
      · exact absurd (List.length_eq_zero_iff.1 h2) ha
      · simpa [keysOf] using h2
  · obtain ⟨_, q2, _⟩ := hc
    rcases q2 with ⟨rfl, rfl⟩ | ⟨d, r, rfl, rfl, e1, e2, e3⟩
    · exact hhi
    · right
      have := h3 (a.length + 1) (by omega) (by rw [hlen]; simp)
      simpa [keysOf, List.getElem?_append_right] using this

/-- Put into a tree: what comes of it may be, but for what its own cells come to. -/
theorem put_ok : ∀ {n : Nat} {lo hi key : List UInt8} {v : Tv} {t : Tr}, Shape n lo hi t → sumT t ≤ 122 → (∀ p l, t = .node p l → 2 ≤ l.length) → keyOk key → ¬ key < lo → ltH hi key → valOk v →
    Shape n lo hi (putT n t key v) ∧ sumT (putT n t key v) ≤ 160 ∧ (∀ p l, putT n t key v = .leaf p l → 0 < l.length)
  | 0, _, _, _, _, _, h, _, _, _, _, _, _ => h.elim
  | n + 1, lo, hi, key, v, .leaf p l, h, hs, _, hk, hlo, hhi, hv => by
    obtain ⟨rfl, hl⟩ := h
    have h1 := putL_sum hk.2 l (v := v)
    have h2 : sumT (.leaf 0 l) = sumT (.leaf p l) := rfl
    exact ⟨⟨rfl, putL_ok hl hk hlo hhi hv⟩, by unfold putT; omega, fun q m e => by cases e; exact h1.2⟩
  | n + 1, lo, hi, key, v, .node p l, h, hs, h2, hk, hlo, hhi, hv => by
    obtain ⟨h1, h0⟩ := shape_kids h
    have hl2 := h2 p l rfl
    obtain ⟨a, c, b, lo', hi', e, hal, hc, hp, g1, g2⟩ := way_focus h1 hlo hhi
    obtain ⟨i1, i2, i3⟩ := put_ok hp.1 hp.2.2 (fun q m e => good_len (p := q) (by rw [← e]; exact hp)) hk g1 g2 hv
    have hset : l.set (wayF (keysOf l) key) (keyAt l (wayF (keysOf l) key), putT n (kidAt l (wayF (keysOf l) key)) key v) = a ++ (c.1, putT n c.2 key v) :: b := by
      rw [← hal]
      conv => lhs; rw [e]
      rw [keyAt_at, kidAt_at, List.set_append_right _ _ (Nat.le_refl _), Nat.sub_self, List.set_cons_zero]
    have hput : putT (n + 1) (.node p l) key v = mendT 0 (a ++ (c.1, putT n c.2 key v) :: b) a.length := by
      show mendT 0 _ _ = _
      rw [hset, hal]
    have hab : a ≠ [] ∨ b ≠ [] := by
      rw [e] at hl2
      cases a with
      | nil => cases b with
        | nil => simp at hl2
        | cons => exact .inr (by simp)
      | cons => exact .inl (by simp)
    have hk0 : keyAt (a ++ (c.1, putT n c.2 key v) :: b) 0 = [] := by
      rw [e] at h0
      cases a <;> simpa [keyAt] using h0
    obtain ⟨q, m, e1, e2, e3, e4, e5⟩ := mend_ok (p := 0) hc i1 i2 hk0 (.inr hab)
    rw [hput, e1]
    have hsm : sumT (.node 0 (a ++ (c.1, putT n c.2 key v) :: b)) = sumT (.node p l) := by
      rw [e, sum_node_append 0 0 0, sum_node_cons 0 0, sum_node_append p 0 0, sum_node_cons 0 0 c]
    have hq : sumT (.node q m) = sumT (.node 0 m) := rfl
    exact ⟨shape_node e2 e3, by omega, fun p' l' e => by cases e⟩
end Go.Proofs.YtpghlmcoajaiiaaGreatDoor

/- Trees that may be: the top; entries. -/
namespace Go.Proofs.YtpghlmcoajaiiaaGreatDoor

/-- A whole tree that may be, the empty one too. -/
def Root (n : Nat) (t : Tr) : Prop := Shape n [] [] t ∧ sumT t ≤ 122 ∧ (∀ p l, t = .node p l → 2 ≤ l.length)
theorem root_empty : Root 1 (.leaf 0 []) := ⟨⟨rfl, by simp [keysOf], fun c hc => by cases hc⟩, by decide, fun p l e => by cases e⟩
theorem ltH_nil (k : List UInt8) : ltH [] k := .inl rfl
theorem part_two {t : Tr} (hat : atF (sizesT t) ≠ 0) : mendT 0 [([], t)] 0 = .node 0 [([], (partT (atF (sizesT t)).toNat t).1), ((partT (atF (sizesT t)).toNat t).2.2, (partT (atF (sizesT t)).toNat t).2.1)] := by
  have := splitT_at [] [] [] t
  rw [if_neg hat] at this
  unfold mendT
  simp only [List.nil_append, List.length_nil] at this
  rw [this]
theorem root_two {n : Nat} {t : Tr} (hs : Shape n [] [] t) (hsum : sumT t ≤ 200) (hat : atF (sizesT t) ≠ 0) : Root (n + 1) (mendT 0 [([], t)] 0) := by
  obtain ⟨p1, p2, p3, p4, p5⟩ := part_ok hs hsum hat
  rw [part_two hat]
  refine ⟨shape_node ⟨p1, p2, p3, p4, p5⟩ rfl, ?_, fun p l e => by cases e; simp⟩
  have := p2.2
  rw [sum_node_cons 0 0, sum_node_cons 0 0, sum_node_nil]
  simp; omega
/-- The top of a tree that may be but for its top. -/
theorem top_ok : ∀ {n N : Nat} {t : Tr}, Shape n [] [] t → sumT t ≤ 200 → n ≤ N → ∃ m, m ≤ n + 1 ∧ Root m (topT N t)
  | 0, _, _, h, _, _ => h.elim
  | n + 1, 0, _, _, _, h => by omega
  | n + 1, N + 1, .leaf p l, h, hs, hN => by
    unfold topT
    by_cases hat : atF (sizesT (.leaf p l)) = 0
    · rw [if_pos hat]
      rcases shape_parts h hs with ⟨_, h1⟩ | ⟨m, h1, _, h3, _⟩
      · exact ⟨n + 1, by omega, h, h1, fun q m e => by cases e⟩
      · omega
    · rw [if_neg hat]
      exact ⟨n + 2, by omega, root_two h hs hat⟩
  | n + 1, N + 1, .node p l, h, hs, hN => by
    unfold topT
    by_cases h1 : l.length = 1
    · rw [if_pos h1]
      obtain ⟨hk, h0⟩ := shape_kids h
      obtain ⟨c, rfl⟩ := List.length_eq_one_iff.1 h1
      have hg : Good n [] [] c.2 := hk
      obtain ⟨m, e1, e2⟩ := top_ok (N := N) hg.1 (by have := hg.2.2; omega) (by omega)
      exact ⟨m, by omega, by simpa [kidAt] using e2⟩
    · rw [if_neg h1]
      by_cases hat : atF (sizesT (.node p l)) = 0
      · rw [if_pos hat]
        rcases shape_parts h hs with ⟨_, h2⟩ | ⟨m, h2, _, h3, _⟩
        · refine ⟨n + 1, by omega, h, h2, fun q m e => ?_⟩
          cases e
          have := kids_ne (shape_kids h).1
          have := List.length_pos_iff.2 this
          omega
        · omega
      · rw [if_neg hat]
        exact ⟨n + 2, by omega, root_two h hs hat⟩
/-- A key's value put into a whole tree. -/
theorem root_put {n N : Nat} {t : Tr} {key : List UInt8} {v : Tv} (h : Root n t) (hk : keyOk key) (hv : valOk v) (hN : n ≤ N) : ∃ m, m ≤ n + 1 ∧ Root m (topT N (putT n t key v)) := by
  obtain ⟨h1, h2, _⟩ := put_ok h.1 h.2.1 h.2.2 hk (knil key) (ltH_nil _) hv
  exact top_ok h1 (by omega) hN

/-! entries -/
def entsK (n : Nat) (l : List (List UInt8 × Tr)) : List (List UInt8 × Tv) := l.flatMap fun c => entsT n c.2
theorem ents_node (n : Nat) (p : Int) (l : List (List UInt8 × Tr)) : entsT (n + 1) (.node p l) = entsK n l := rfl
theorem ents_leaf (n : Nat) (p : Int) (l : List (List UInt8 × Tv)) : entsT (n + 1) (.leaf p l) = l := rfl
theorem entsK_append (n : Nat) (a b : List (List UInt8 × Tr)) : entsK n (a ++ b) = entsK n a ++ entsK n b := by simp [entsK]
theorem entsK_cons (n : Nat) (c : List UInt8 × Tr) (b : List (List UInt8 × Tr)) : entsK n (c :: b) = entsT n c.2 ++ entsK n b := by simp [entsK]
theorem entsK_first (n : Nat) (k : List UInt8) (l : List (List UInt8 × Tr)) : entsK n (firstK k l) = entsK n l := by cases l <;> simp [firstK, entsK]
theorem ents_part (n m : Nat) (t : Tr) : entsT (n + 1) (partT m t).1 ++ entsT (n + 1) (partT m t).2.1 = entsT (n + 1) t := by
  cases t with
  | leaf p l => simp only [partT, ents_leaf, List.take_append_drop]
  | node p l => simp only [partT, ents_node, entsK_first, ← entsK_append, List.take_append_drop]
theorem ents_join {n : Nat} {k : List UInt8} {s t : Tr} (h : s.isLeaf = t.isLeaf) : entsT (n + 1) (joinT k s t) = entsT (n + 1) s ++ entsT (n + 1) t := by
  cases s <;> cases t <;> simp only [Tr.isLeaf] at h
  · simp only [joinT, ents_leaf]
  · cases h
  · cases h
  · simp only [joinT, ents_node, entsK_first, entsK_append]
theorem shape_kind {n : Nat} {lo hi : List UInt8} {t : Tr} (h : Shape n lo hi t) : t.isLeaf = decide (n = 1) := by
  cases n with
  | zero => exact h.elim
  | succ n =>
    cases t with
    | leaf p l => obtain ⟨rfl, _⟩ := h; rfl
    | node p l =>
      cases n with
      | zero => exact (kids_good0 (shape_kids h).1).elim
      | succ n => simp [Tr.isLeaf]
theorem ents_split {n : Nat} {a b : List (List UInt8 × Tr)} {k : List UInt8} {t : Tr} {m : List (List UInt8 × Tr)} (h : splitT (a ++ (k, t) :: b) a.length = some m) : entsK (n + 1) m = entsK (n + 1) (a ++ (k, t) :: b) := by
  rw [splitT_at] at h
  split at h
  · cases h
  · cases h
    have := ents_part n (atF (sizesT t)).toNat t
    rw [entsK_append, entsK_cons, entsK_cons, entsK_append, entsK_cons, ← List.append_assoc (entsT (n + 1) _), this]
/-- Mending leaves the entries. -/
theorem ents_mend {n : Nat} {p : Int} {a b : List (List UInt8 × Tr)} {k : List UInt8} {t : Tr} (h : ∀ c ∈ a ++ (k, t) :: b, c.2.isLeaf = t.isLeaf) : entsT (n + 2) (mendT p (a ++ (k, t) :: b) a.length) = entsK (n + 1) (a ++ (k, t) :: b) := by
  unfold mendT
  cases hs : splitT (a ++ (k, t) :: b) a.length with
  | some m => exact ents_split hs
  | none =>
    simp only
    split
    · rfl
    · rename_i hc
      simp only [not_or] at hc
      have two : ∀ (a b : List (List UInt8 × Tr)) (c d : List UInt8 × Tr), c.2.isLeaf = d.2.isLeaf →
          entsT (n + 2) (match splitT (joined (a ++ c :: d :: b) a.length) a.length with | some m => .node 0 m | none => .node 0 (joined (a ++ c :: d :: b) a.length)) = entsK (n + 1) (a ++ c :: d :: b) := by
        intro a b c d hcd
        rw [joined_right]
        have hj : entsK (n + 1) (a ++ (c.1, joinT d.1 c.2 d.2) :: b) = entsK (n + 1) (a ++ c :: d :: b) := by
          rw [entsK_append, entsK_cons, entsK_append, entsK_cons, entsK_cons, ents_join hcd, List.append_assoc]
        cases hs2 : splitT (a ++ (c.1, joinT d.1 c.2 d.2) :: b) a.length with
        | some m => simp only; rw [ents_node, ents_split hs2, hj]
        | none => simp only; rw [ents_node, hj]
      cases b with
      | cons d r =>
        have hj : joinAt (a ++ (k, t) :: d :: r).length a.length = a.length := by unfold joinAt; simp
        rw [hj]
        exact two a r (k, t) d (h d (by simp)).symm
      | nil =>
        rcases List.eq_nil_or_concat a with rfl | ⟨a', e, rfl⟩
        · simp at hc
        · have hj : joinAt (a'.concat e ++ [(k, t)]).length (a'.concat e).length = a'.length := by unfold joinAt; simp
          have el : a'.concat e ++ [(k, t)] = a' ++ e :: (k, t) :: [] := by simp
          rw [hj, el]
          exact two a' [] e (k, t) (h e (by simp))
/-- The kids of a branch that may be are of a kind. -/
theorem kids_kind {n : Nat} : ∀ {l : List (List UInt8 × Tr)} {lo hi : List UInt8}, KidsP (Good n) lo hi l → ∀ c ∈ l, c.2.isLeaf = decide (n = 1)
  | [d], _, _, h, c, hc => by simp at hc; subst hc; exact shape_kind h.1
  | d :: e :: r, _, _, h, c, hc => by
    rcases List.mem_cons.1 hc with rfl | hc
    · exact shape_kind h.1.1
    · exact kids_kind h.2.2.2.2 c hc

/-! where entries lie -/
theorem putL_ahead {key : List UInt8} {v : Tv} {B : List (List UInt8 × Tv)} : ∀ {A : List (List UInt8 × Tv)}, (∀ c ∈ A, c.1 < key) → putL key v (A ++ B) = A ++ putL key v B
  | [], _ => rfl
  | c :: A, h => by
    show (if c.1 < key then c :: putL key v (A ++ B) else _) = _
    rw [if_pos (h c (by simp)), putL_ahead (fun d hd => h d (by simp [hd]))]; rfl
theorem putL_behind {key : List UInt8} {v : Tv} {C : List (List UInt8 × Tv)} (hC : ∀ c ∈ C, key < c.1) : ∀ {B : List (List UInt8 × Tv)}, putL key v (B ++ C) = putL key v B ++ C
  | [] => by
    cases C with
    | nil => rfl
    | cons d C =>
      have := hC d (by simp)
      show (if d.1 < key then _ else if d.1 = key then _ else _) = _
      rw [if_neg (klt_asymm this), if_neg (fun e => klt_irrefl key (by rw [e] at this; exact this))]; rfl
  | c :: B => by
    show (if c.1 < key then c :: putL key v (B ++ C) else if c.1 = key then (key, v) :: (B ++ C) else (key, v) :: c :: (B ++ C)) = (if c.1 < key then c :: putL key v B else if c.1 = key then (key, v) :: B else (key, v) :: c :: B) ++ C
    split
    · rw [putL_behind hC]; rfl
    · split <;> rfl
/-- Entries rise, and lie in the span. -/
def Ents (lo hi : List UInt8) (l : List (List UInt8 × Tv)) : Prop := LeafOk lo hi l
theorem ents_glue {lo k hi : List UInt8} {l m : List (List UInt8 × Tv)} (h : LeafOk lo k l) (g : LeafOk k hi m) (hk : keyOk k) (hlo : lo < k) (hhi : ltH hi k) : LeafOk lo hi (l ++ m) := by
  obtain ⟨hp, hl⟩ := h
  obtain ⟨hq, hm⟩ := g
  refine ⟨?_, fun c hc => ?_⟩
  · unfold keysOf at *
    rw [List.map_append, List.pairwise_append]
    refine ⟨hp, hq, fun x hx y hy => ?_⟩
    obtain ⟨c, hc, rfl⟩ := List.mem_map.1 hx
    obtain ⟨d, hd, rfl⟩ := List.mem_map.1 hy
    exact klt_le ((hl c hc).2.2.1.resolve_left hk.1) (hm d hd).2.1
  · rcases List.mem_append.1 hc with hc | hc
    · have := hl c hc
      exact ⟨this.1, this.2.1, hhi.of (this.2.2.1.resolve_left hk.1), this.2.2.2⟩
    · have := hm c hc
      exact ⟨this.1, fun h => this.2.1 (klt_trans h hlo), this.2.2.1, this.2.2.2⟩
theorem kids_ents {n : Nat} (ih : ∀ {lo hi : List UInt8} {t : Tr}, Shape n lo hi t → LeafOk lo hi (entsT n t)) : ∀ {l : List (List UInt8 × Tr)} {lo hi : List UInt8}, KidsP (Good n) lo hi l → LeafOk lo hi (entsK n l)
  | [c], lo, hi, h => by rw [entsK_cons]; simpa [entsK] using ih h.1
  | c :: d :: r, lo, hi, h => by
    rw [entsK_cons]
    exact ents_glue (ih h.1.1) (kids_ents ih h.2.2.2.2) h.2.1 h.2.2.1 h.2.2.2.1
theorem shape_ents : ∀ {n : Nat} {lo hi : List UInt8} {t : Tr}, Shape n lo hi t → LeafOk lo hi (entsT n t)
  | 0, _, _, _, h => h.elim
  | _ + 1, _, _, .leaf _p _l, h => h.2
  | _n + 1, _lo, _hi, .node _p _l, h => kids_ents (fun h => shape_ents h) (shape_kids h).1
/-- The entries behind a put. -/
theorem ents_put : ∀ {n : Nat} {lo hi key : List UInt8} {v : Tv} {t : Tr}, Shape n lo hi t → keyOk key → ¬ key < lo → ltH hi key → valOk v → sumT t ≤ 122 → (∀ p l, t = .node p l → 2 ≤ l.length) → entsT n (putT n t key v) = putL key v (entsT n t)
  | 0, _, _, _, _, _, h, _, _, _, _, _, _ => h.elim
  | n + 1, lo, hi, key, v, .leaf p l, h, _, _, _, _, _, _ => rfl
  | n + 1, lo, hi, key, v, .node p l, h, hk, hlo, hhi, hv, hsm, h2 => by
    obtain ⟨h1, h0⟩ := shape_kids h
    obtain ⟨a, c, b, lo', hi', e, hal, hc, hp, g1, g2⟩ := way_focus h1 hlo hhi
    have hl2 := h2 p l rfl
    have ih := ents_put hp.1 hk g1 g2 hv hp.2.2 (fun q m e => good_len (p := q) (by rw [← e]; exact hp))
    obtain ⟨i1, i2, i3⟩ := put_ok hp.1 hp.2.2 (fun q m e => good_len (p := q) (by rw [← e]; exact hp)) hk g1 g2 hv
    have hset : l.set (wayF (keysOf l) key) (keyAt l (wayF (keysOf l) key), putT n (kidAt l (wayF (keysOf l) key)) key v) = a ++ (c.1, putT n c.2 key v) :: b := by
      rw [← hal]
      conv => lhs; rw [e]
      rw [keyAt_at, kidAt_at, List.set_append_right _ _ (Nat.le_refl _), Nat.sub_self, List.set_cons_zero]
    have hput : putT (n + 1) (.node p l) key v = mendT 0 (a ++ (c.1, putT n c.2 key v) :: b) a.length := by
      show mendT 0 _ _ = _
      rw [hset, hal]
    rw [hput]
    have hkind := kids_kind h1
    cases n with
    | zero => exact hp.1.elim
    | succ n =>
      rw [ents_mend (by
        intro d hd
        have ht : (putT (n + 1) c.2 key v).isLeaf = decide (n + 1 = 1) := shape_kind i1
        rw [ht]
        rcases List.mem_append.1 hd with hd | hd
        · exact hkind d (by rw [e]; simp [hd])
        · rcases List.mem_cons.1 hd with rfl | hd
          · exact ht
          · exact hkind d (by rw [e]; simp [hd]))]
      rw [ents_node, e, entsK_append, entsK_cons, entsK_append, entsK_cons, ih]
      obtain ⟨q1, q2, q3⟩ := hc
      have hA : ∀ d ∈ entsK (n + 1) a, d.1 < key := by
        rcases q1 with ⟨rfl, _⟩ | ⟨ha, e1, e2, e3, rfl⟩
        · intro d hd; simp [entsK] at hd
        · intro d hd
          have := (kids_ents (fun h => shape_ents h) e1).2 d hd
          exact klt_le (this.2.2.1.resolve_left e2.1) g1
      have hB : ∀ d ∈ entsK (n + 1) b, key < d.1 := by
        rcases q2 with ⟨rfl, _⟩ | ⟨d, r, rfl, rfl, e1, e2, e3⟩
        · intro d hd; simp [entsK] at hd
        · intro d' hd
          have := (kids_ents (fun h => shape_ents h) e3).2 d' hd
          exact klt_le (g2.resolve_left e1.1) this.2.1
      rw [putL_ahead hA, putL_behind hB]
end Go.Proofs.YtpghlmcoajaiiaaGreatDoor

/- Trees that may be: what is found; what a check tells. -/
namespace Go.Proofs.YtpghlmcoajaiiaaGreatDoor

/-! found -/
def lookT (l : List (List UInt8 × Tv)) (key : List UInt8) : Option (List UInt8) := (l.find? fun c => c.1 == key).map (·.2.data)
theorem look_none {l : List (List UInt8 × Tv)} {key : List UInt8} (h : ∀ c ∈ l, c.1 ≠ key) : l.find? (fun c => c.1 == key) = none := by
  rw [List.find?_eq_none]
  intro c hc
  simpa using h c hc
theorem look_mid {A B C : List (List UInt8 × Tv)} {key : List UInt8} (hA : ∀ c ∈ A, c.1 < key) (hC : ∀ c ∈ C, key < c.1) : lookT (A ++ (B ++ C)) key = lookT B key := by
  unfold lookT
  rw [List.find?_append, look_none (fun c hc e => klt_irrefl key (by have := hA c hc; rwa [e] at this)), Option.none_or, List.find?_append, look_none (l := C) (fun c hc e => klt_irrefl key (by have := hC c hc; rwa [e] at this)), Option.or_none]
theorem find_ok : ∀ {n : Nat} {lo hi key : List UInt8} {t : Tr}, Shape n lo hi t → ¬ key < lo → ltH hi key → findT n t key = lookT (entsT n t) key
  | 0, _, _, _, _, h, _, _ => h.elim
  | _ + 1, _, _, _, .leaf p l, _, _, _ => rfl
  | n + 1, lo, hi, key, .node p l, h, hlo, hhi => by
    obtain ⟨h1, h0⟩ := shape_kids h
    obtain ⟨a, c, b, lo', hi', e, hal, hc, hp, g1, g2⟩ := way_focus h1 hlo hhi
    have ih := find_ok hp.1 g1 g2
    obtain ⟨q1, q2, q3⟩ := hc
    have hA : ∀ d ∈ entsK n a, d.1 < key := by
      rcases q1 with ⟨rfl, _⟩ | ⟨ha, e1, e2, e3, rfl⟩
      · intro d hd; simp [entsK] at hd
      · intro d hd
        have := (kids_ents (fun h => shape_ents h) e1).2 d hd
        exact klt_le (this.2.2.1.resolve_left e2.1) g1
    have hB : ∀ d ∈ entsK n b, key < d.1 := by
      rcases q2 with ⟨rfl, _⟩ | ⟨d, r, rfl, rfl, e1, e2, e3⟩
      · intro d hd; simp [entsK] at hd
      · intro d' hd
        have := (kids_ents (fun h => shape_ents h) e3).2 d' hd
        exact klt_le (g2.resolve_left e1.1) this.2.1
    show findT n (kidAt l (wayF (keysOf l) key)) key = _
    rw [← hal]
    conv => lhs; rw [e]
    rw [kidAt_at, ih, ents_node, e, entsK_append, entsK_cons, look_mid hA hB]
/-- How many keys are below one. -/
def posK (key : List UInt8) : List (List UInt8) → Nat
  | [] => 0
  | k :: r => if k < key then posK key r + 1 else 0
theorem posK_le (key : List UInt8) : ∀ l, posK key l ≤ l.length
  | [] => Nat.le_refl _
  | k :: r => by unfold posK; split <;> simp; exact posK_le key r
theorem posK_lt {key : List UInt8} : ∀ {l : List (List UInt8)} {i : Nat}, i < posK key l → l[i]?.getD [] < key
  | [], i, h => by simp [posK] at h
  | k :: r, i, h => by
    unfold posK at h
    split at h
    · rename_i hk
      cases i with
      | zero => simpa using hk
      | succ i => simpa using posK_lt (l := r) (i := i) (by omega)
    · omega
theorem posK_at {key : List UInt8} : ∀ {l : List (List UInt8)}, posK key l < l.length → ¬ l[posK key l]?.getD [] < key
  | [], h => by simp at h
  | k :: r, h => by
    unfold posK at h ⊢
    split
    · rename_i hk
      rw [if_pos hk] at h
      simpa using posK_at (l := r) (by simpa using h)
    · rename_i hk
      simpa using hk
theorem posK_eq {key : List UInt8} {l : List (List UInt8)} {i : Nat} (hi : i ≤ l.length) (h1 : ∀ j, j < i → l[j]?.getD [] < key) (h2 : i < l.length → ¬ l[i]?.getD [] < key) : posK key l = i := by
  rcases Nat.lt_trichotomy (posK key l) i with h | h | h
  · exact absurd (h1 _ h) (posK_at (by omega))
  · exact h
  · have := posK_le key l
    exact absurd (posK_lt h) (h2 (by omega))
def hasK (key : List UInt8) (l : List (List UInt8)) : Bool := l[posK key l]? == some key
theorem putL_pos (key : List UInt8) (v : Tv) : ∀ l : List (List UInt8 × Tv), putL key v l = l.take (posK key (keysOf l)) ++ (key, v) :: l.drop (posK key (keysOf l) + (if hasK key (keysOf l) then 1 else 0))
  | [] => by simp [putL, posK, keysOf]
  | c :: r => by
    have ih := putL_pos key v r
    unfold putL
    by_cases h : c.1 < key
    · have e1 : posK key (keysOf (c :: r)) = posK key (keysOf r) + 1 := by
        show (if c.1 < key then _ else _) = _
        rw [if_pos h]; rfl
      have e2 : hasK key (keysOf (c :: r)) = hasK key (keysOf r) := by
        unfold hasK
        rw [e1]; simp [keysOf]
      rw [if_pos h, e1, e2, ih, List.take_succ_cons, show posK key (keysOf r) + 1 + (if hasK key (keysOf r) = true then 1 else 0) = (posK key (keysOf r) + (if hasK key (keysOf r) = true then 1 else 0)) + 1 by omega, List.drop_succ_cons]
      rfl
    · have e1 : posK key (keysOf (c :: r)) = 0 := by
        show (if c.1 < key then _ else _) = _
        rw [if_neg h]
      rw [if_neg h, e1]
      by_cases he : c.1 = key
      · have e2 : hasK key (keysOf (c :: r)) = true := by
          unfold hasK
          rw [e1]; simp [keysOf, he]
        rw [if_pos he, e2]; simp
      · have e2 : hasK key (keysOf (c :: r)) = false := by
          unfold hasK
          rw [e1]; simp [keysOf, he]
        rw [if_neg he, e2]; simp
theorem look_pos {key : List UInt8} : ∀ {l : List (List UInt8 × Tv)}, (keysOf l).Pairwise (fun a b => a < b) → lookT l key = if hasK key (keysOf l) then (l[posK key (keysOf l)]?).map (·.2.data) else none
  | [], _ => by simp [lookT, hasK, keysOf, posK]
  | c :: r, h => by
    have h' := h
    unfold keysOf at h
    rw [List.map_cons, List.pairwise_cons] at h
    have ih := look_pos (key := key) (l := r) h.2
    by_cases hk : c.1 < key
    · have e1 : posK key (keysOf (c :: r)) = posK key (keysOf r) + 1 := by
        show (if c.1 < key then _ else _) = _
        rw [if_pos hk]; rfl
      have e2 : hasK key (keysOf (c :: r)) = hasK key (keysOf r) := by
        unfold hasK
        rw [e1]; simp [keysOf]
      have e3 : lookT (c :: r) key = lookT r key := by
        unfold lookT
        rw [List.find?_cons_of_neg (by simp; intro e; rw [e] at hk; exact klt_irrefl key hk)]
      rw [e1, e2, e3, ih]; simp
    · have e1 : posK key (keysOf (c :: r)) = 0 := by
        show (if c.1 < key then _ else _) = _
        rw [if_neg hk]
      by_cases he : c.1 = key
      · have e2 : hasK key (keysOf (c :: r)) = true := by
          unfold hasK
          rw [e1]; simp [keysOf, he]
        rw [e1, e2, if_pos rfl]
        unfold lookT
        rw [List.find?_cons_of_pos (by simpa using he)]; rfl
      · have e2 : hasK key (keysOf (c :: r)) = false := by
          unfold hasK
          rw [e1]; simp [keysOf, he]
        rw [e2]
        unfold lookT
        rw [look_none (fun d hd e => ?_)]; rfl
        rcases List.mem_cons.1 hd with rfl | hd
        · exact he e
        · have := h.1 d.1 (List.mem_map_of_mem hd)
          rw [e] at this
          exact hk this

/-! whether a tree may be -/
def fitAt (lo hi : List UInt8) (leaf : Bool) (ks : List (List UInt8)) (i : Nat) : Bool :=
  ((i == 0 && !leaf) == (ks[i]?.getD [] == [])) && (decide ((ks[i]?.getD []).length ≤ 16) && ((i == 0 || decide (ks[i - 1]?.getD [] < ks[i]?.getD [])) && (((i == 0 && !leaf) || !decide (ks[i]?.getD [] < lo)) && (hi == [] || decide (ks[i]?.getD [] < hi)))))
def fitTo (lo hi : List UInt8) (leaf : Bool) (ks : List (List UInt8)) (n : Nat) : Bool := (List.range n).all (fitAt lo hi leaf ks)
theorem fitTo_succ (lo hi : List UInt8) (leaf : Bool) (ks : List (List UInt8)) (n : Nat) : fitTo lo hi leaf ks (n + 1) = (fitTo lo hi leaf ks n && fitAt lo hi leaf ks n) := by simp [fitTo, List.range_succ]
def valB (v : Tv) : Bool := decide (v.data.length ≤ 400) && (v.pages.length == 0 || decide (needC (v.data.length : Int) ≠ 0))
def fitT (lo hi : List UInt8) : Tr → Bool
  | .leaf _ l => fitTo lo hi true (keysOf l) l.length && l.all fun c => valB c.2
  | .node _ l => fitTo lo hi false (keysOf l) l.length
def cntT : Tr → Nat
  | .leaf _ l => l.length
  | .node _ l => l.length
def sizeB (root : Bool) (t : Tr) : Bool := decide ((if t.isLeaf then 1 else 2) ≤ cntT t) && (decide (sumT t ≤ 122) && (root || !lowT t))
def nextH (hi : List UInt8) : List (List UInt8 × Tr) → List UInt8
  | [] => hi
  | d :: _ => d.1
def depK (f : Tr → List UInt8 → List UInt8 → Option Nat) (lo hi : List UInt8) : Nat → Nat → List (List UInt8 × Tr) → Option Nat
  | _, far, [] => some far
  | i, far, c :: r => match f c.2 (if i = 0 then lo else c.1) (nextH hi r) with
    | none => none
    | some d => if i ≠ 0 ∧ d + 1 ≠ far then none else depK f lo hi (i + 1) (d + 1) r
def depthT : Nat → Tr → List UInt8 → List UInt8 → Bool → Option Nat
  | 0, _, _, _, _ => none
  | _ + 1, .leaf p l, lo, hi, root => if fitT lo hi (.leaf p l) && sizeB root (.leaf p l) then some 0 else none
  | n + 1, .node p l, lo, hi, root => if fitT lo hi (.node p l) && sizeB root (.node p l) then depK (fun t lo hi => depthT n t lo hi false) lo hi 0 0 l else none
def emptyB : Tr → Bool
  | .leaf p l => p == 0 && l.isEmpty
  | .node _ _ => false
def checkT (n : Nat) (t : Tr) : Bool := emptyB t || (depthT n t [] [] true).isSome
theorem kids_all {P : List UInt8 → List UInt8 → Tr → Prop} : ∀ {r : List (List UInt8 × Tr)} {c : List UInt8 × Tr} {lo hi : List UInt8}, KidsP P lo hi (c :: r) → (keysOf r).Pairwise (fun a b => a < b) ∧ ∀ d ∈ r, keyOk d.1 ∧ lo < d.1 ∧ ltH hi d.1
  | [], _, _, _, _ => ⟨List.Pairwise.nil, fun d hd => by cases hd⟩
  | e :: r, c, lo, hi, h => by
    obtain ⟨h1, h2⟩ := kids_all h.2.2.2.2
    refine ⟨?_, fun d hd => ?_⟩
    · unfold keysOf
      rw [List.map_cons, List.pairwise_cons]
      refine ⟨fun x hx => ?_, h1⟩
      obtain ⟨d, hd, rfl⟩ := List.mem_map.1 hx
      exact (h2 d hd).2.1
    · rcases List.mem_cons.1 hd with rfl | hd
      · exact ⟨h.2.1, h.2.2.1, h.2.2.2.1⟩
      · have := h2 d hd
        exact ⟨this.1, klt_trans h.2.2.1 this.2.1, this.2.2⟩
theorem pair_get {l : List (List UInt8)} (h : l.Pairwise (fun a b => a < b)) {i j : Nat} (hij : i < j) (hj : j < l.length) : l[i]?.getD [] < l[j]?.getD [] := by
  rw [List.getElem?_eq_getElem (by omega), List.getElem?_eq_getElem hj]
  exact List.pairwise_iff_getElem.1 h i j (by omega) hj hij
theorem leaf_fit {lo hi : List UInt8} {p : Int} {l : List (List UInt8 × Tv)} (h : LeafOk lo hi l) : fitT lo hi (.leaf p l) = true := by
  obtain ⟨hp, hl⟩ := h
  have hlen : (keysOf l).length = l.length := by simp [keysOf]
  simp only [fitT, Bool.and_eq_true]
  refine ⟨?_, ?_⟩
  · unfold fitTo
    rw [List.all_eq_true]
    intro i hi'
    rw [List.mem_range] at hi'
    have hk : (keysOf l)[i]?.getD [] = (l[i]'hi').1 := by simp [keysOf, hi']
    obtain ⟨c1, c2, c3, c4⟩ := hl (l[i]'hi') (List.getElem_mem hi')
    have hpr : i = 0 ∨ (keysOf l)[i - 1]?.getD [] < (keysOf l)[i]?.getD [] := by
      by_cases h0 : i = 0
      · exact .inl h0
      · exact .inr (pair_get hp (by omega) (by omega))
    rw [hk] at hpr
    unfold fitAt
    rw [hk]
    have n1 : ((l[i]'hi').1 == []) = false := by simpa using c1.1
    rw [n1]
    have n2 : decide ((l[i]'hi').1.length ≤ 16) = true := by simpa using c1.2
    have n3 : decide ((l[i]'hi').1 < lo) = false := by simpa using c2
    have n4 : (hi == [] || decide ((l[i]'hi').1 < hi)) = true := by
      rcases c3 with rfl | c3
      · rfl
      · simp [c3]
    have n5 : (i == 0 || decide ((keysOf l)[i - 1]?.getD [] < (l[i]'hi').1)) = true := by
      rcases hpr with h | h
      · simp [h]
      · simp [h]
    rw [n2, n3, n4, n5]
    simp
  · rw [List.all_eq_true]
    intro c hc
    obtain ⟨c1, c2, c3, c4, c5⟩ := hl c hc
    unfold valB
    by_cases h0 : c.2.pages = []
    · simp [h0, c4]
    · have h16 := c5 h0
      have : needC (c.2.data.length : Int) ≠ 0 := by
        unfold needC
        rw [if_neg (by omega)]
        omega
      simp [c4, this]
theorem node_fit {P : List UInt8 → List UInt8 → Tr → Prop} {lo hi : List UInt8} {p : Int} {l : List (List UInt8 × Tr)} (h : KidsP P lo hi l) (h0 : keyAt l 0 = []) : fitT lo hi (.node p l) = true := by
  cases l with
  | nil => exact h.elim
  | cons c r =>
    have c0 : c.1 = [] := by simpa [keyAt] using h0
    obtain ⟨q1, q2⟩ := kids_all h
    simp only [fitT]
    unfold fitTo
    rw [List.all_eq_true]
    intro i hi'
    rw [List.mem_range] at hi'
    cases i with
    | zero =>
      unfold fitAt
      have hk : (keysOf (c :: r))[0]?.getD [] = [] := by simp [keysOf, c0]
      rw [hk]
      by_cases hh : hi = []
      · simp [hh]
      · have := knil_lt hh
        simp [this]
    | succ i =>
      have hir : i < r.length := by simpa using hi'
      have hk : (keysOf (c :: r))[i + 1]?.getD [] = (r[i]'hir).1 := by simp [keysOf, hir]
      obtain ⟨c1, c2, c3⟩ := q2 (r[i]'hir) (List.getElem_mem hir)
      have hpr : (keysOf (c :: r))[i]?.getD [] < (r[i]'hir).1 := by
        cases i with
        | zero =>
          have : (keysOf (c :: r))[0]?.getD [] = [] := by simp [keysOf, c0]
          rw [this]
          exact knil_lt c1.1
        | succ j =>
          have := pair_get q1 (i := j) (j := j + 1) (by omega) (by simp [keysOf]; omega)
          have e1 : (keysOf (c :: r))[j + 1]?.getD [] = (keysOf r)[j]?.getD [] := by simp [keysOf]
          have e2 : (keysOf r)[j + 1]?.getD [] = (r[j + 1]'hir).1 := by simp [keysOf, hir]
          rw [e1, ← e2]; exact this
      unfold fitAt
      rw [hk]
      have n1 : ((r[i]'hir).1 == []) = false := by simpa using c1.1
      have n2 := c1.2
      have n3 : ¬ (r[i]'hir).1 < lo := klt_asymm c2
      rw [n1]
      rcases c3 with rfl | c3 <;> simp_all
theorem depK_ok {n : Nat} {f : Tr → List UInt8 → List UInt8 → Option Nat} (hf : ∀ lo hi t, Good n lo hi t → f t lo hi = some (n - 1)) (hn : 1 ≤ n) {lo0 : List UInt8} : ∀ {r : List (List UInt8 × Tr)} {c : List UInt8 × Tr} {lo hi : List UInt8} {i far : Nat}, KidsP (Good n) lo hi (c :: r) → (i = 0 ∧ lo = lo0 ∨ i ≠ 0 ∧ c.1 = lo ∧ far = n) → depK f lo0 hi i far (c :: r) = some n
  | [], c, lo, hi, i, far, h, hi' => by
    have e : (if i = 0 then lo0 else c.1) = lo := by
      rcases hi' with ⟨rfl, rfl⟩ | ⟨h0, h1, _⟩
      · rfl
      · rw [if_neg h0, h1]
    unfold depK
    rw [e]
    show (match f c.2 lo hi with | none => none | some d => _) = _
    rw [hf lo hi c.2 h]
    simp only
    rw [if_neg (by rcases hi' with ⟨rfl, _⟩ | ⟨_, _, h2⟩ <;> omega)]
    unfold depK
    congr 1
    omega
  | d :: r, c, lo, hi, i, far, h, hi' => by
    have e : (if i = 0 then lo0 else c.1) = lo := by
      rcases hi' with ⟨rfl, rfl⟩ | ⟨h0, h1, _⟩
      · rfl
      · rw [if_neg h0, h1]
    unfold depK
    rw [e]
    show (match f c.2 lo d.1 with | none => none | some d => _) = _
    rw [hf lo d.1 c.2 h.1]
    simp only
    rw [if_neg (by rcases hi' with ⟨rfl, _⟩ | ⟨_, _, h2⟩ <;> omega)]
    exact depK_ok hf hn h.2.2.2.2 (.inr ⟨by omega, rfl, by omega⟩)
theorem depth_ok : ∀ {n N : Nat} {lo hi : List UInt8} {t : Tr} {root : Bool}, Shape n lo hi t → n ≤ N → sizeB root t = true → depthT N t lo hi root = some (n - 1)
  | 0, _, _, _, _, _, h, _, _ => h.elim
  | n + 1, 0, _, _, _, _, _, h, _ => by omega
  | n + 1, N + 1, lo, hi, .leaf p l, root, h, hN, hs => by
    obtain ⟨rfl, hl⟩ := h
    unfold depthT
    rw [leaf_fit hl, hs]; rfl
  | n + 1, N + 1, lo, hi, .node p l, root, h, hN, hs => by
    obtain ⟨h1, h0⟩ := shape_kids h
    unfold depthT
    rw [node_fit h1 h0, hs]
    have hn1 : 1 ≤ n := by
      cases n with
      | zero => exact (kids_good0 h1).elim
      | succ n => omega
    cases l with
    | nil => exact h1.elim
    | cons c r =>
      rw [Bool.and_self, if_pos rfl, depK_ok (n := n) (fun lo hi t hg => depth_ok hg.1 (by omega) (by
        have h30 := hg.2.1
        have h122 := hg.2.2
        unfold sizeB lowT
        have hc : (if t.isLeaf = true then 1 else 2) ≤ cntT t := by
          cases t with
          | leaf p l =>
            have : l ≠ [] := by intro e; subst e; simp [sum_leaf, sumI_nil] at h30
            have := List.length_pos_iff.2 this
            simp [Tr.isLeaf, cntT]; omega
          | node p l => simpa [Tr.isLeaf, cntT] using good_len hg
        simp [hc, h122, h30])) hn1 h1 (.inl ⟨rfl, rfl⟩)]
      rfl
/-- A whole tree that may be is told so. -/
theorem check_ok {n N : Nat} {t : Tr} (h : Root n t) (hN : n ≤ N) (he : emptyB t = true ∨ 0 < cntT t) : checkT N t = true := by
  unfold checkT
  rcases he with he | he
  · rw [he]; rfl
  · rw [depth_ok h.1 hN (by
      unfold sizeB
      have h122 := h.2.1
      have hc : (if t.isLeaf = true then 1 else 2) ≤ cntT t := by
        cases t with
        | leaf p l => simp only [Tr.isLeaf, cntT, if_true] at he ⊢; omega
        | node p l => simpa [Tr.isLeaf, cntT] using h.2.2 p l rfl
      simp [hc, h122])]
    simp
end Go.Proofs.YtpghlmcoajaiiaaGreatDoor
