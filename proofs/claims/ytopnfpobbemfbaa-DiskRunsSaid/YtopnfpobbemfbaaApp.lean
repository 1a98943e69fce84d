/- 'append' in the form of a run: to a row of the call's own, of bytes, and of one fresh element. -/
import Derived.Test.YtopnfpobbemfbaaBox
import Derived.Maps.AppendAt
import Derived.Laws.OwnMore
import Derived.Deep.AppendLies
import Derived.RegionTactic
import Derived.OwnWalk
namespace Go.Proofs.Ytopnfpobbemfbaa
open Go.RowKit

/-- What an append leaves. -/
def AppOut (w : World) (base : Nat) (e : TypeId) (size : Nat) (v : Value) (n : Nat) (xs : List Value) (fresh : Nat) (v' : Value) (w' : World) : Prop :=
  w'.ownsRow base e size v' n xs ∧ w.grownBy w' v.ownBlock ∧ (v'.ownBlock = v.ownBlock ∨ v'.ownBlock = some fresh)

section
variable {P : Program}
/-- Of any row of numbers. -/
theorem run_append_row {w : World} (base : Nat) (t e : TypeId) (i : TypeInfo) (z : Value) (bytes : Nat) (ht : P.underlying t = some (.slice e)) (hi : P.info? e = some i) (hz : i.zero = some z)
    (hsize : i.size = 1) (hby : i.bytes = bytes) (hzs : z.cells.size = 1) {v : Value} {n : Nat} {xs : List Value} (hown : w.ownsRow base e 1 v n xs)
    {k : IntKind} {a : Option Addr} {m c : Nat} {l : List Int} (hrow : Row k w a m c l) (h63 : n + m ≤ maxLen) (hbytes : (n + m) * bytes ≤ 140737488355328) (hbase : base ≤ w.heap.size) :
    ∃ v' w', (Builtin.append_ #[t, t] t #[v, .slice a m c]).run P w = .ok v' w' ∧ AppOut w base e 1 v (n + m) (xs ++ l.map (Value.int k)) w.heap.size v' w' := by
  obtain ⟨h1, h2, h3, hn, h4⟩ := hrow
  cases a with
  | none =>
    have hc := hn rfl
    have hm : m = 0 := by omega
    subst hc hm
    obtain rfl : l = [] := List.eq_nil_of_length_eq_zero h1
    exact ⟨v, w, run_append_owned_none w base t t e i 1 ht hi v n xs hown, by simpa using hown, World.grownBy.refl w _, .inl rfl⟩
  | some ad =>
    obtain ⟨v', w', hr, h5, h6, _, h7⟩ := run_append_own_at (P := P) w base t t e i z 1 bytes ht hi hz hsize hby hzs (by decide) v n xs hown ad m c (l.map (Value.int k)) (by simp [h1]) (by
      intro j u hj
      simp only [List.getElem?_map, Option.map_eq_some_iff] at hj
      obtain ⟨y, hy, rfl⟩ := hj
      have hjl := (List.getElem?_eq_some_iff.1 hy).1
      rcases h4 with h4 | ⟨b, off, h5, h6, h7⟩
      · omega
      · cases h5
        have e : (⟨b, off, none⟩ : Addr).add j = ⟨b, off + j, none⟩ := by
          unfold Addr.add; split <;> simp_all
        rw [e, h7 j (by omega), hy]; rfl) (fun u hu => by obtain ⟨y, _, rfl⟩ := List.mem_map.1 hu; rfl) h63 hbytes hbase
    exact ⟨v', w', hr, h5, h6, h7⟩
/-- Of one fresh element. -/
theorem run_append_new {w : World} (base : Nat) (t e : TypeId) (i : TypeInfo) (z : Value) (size bytes : Nat) (ht : P.underlying t = some (.slice e)) (hi : P.info? e = some i) (hz : i.zero = some z)
    (hsize : i.size = size) (hby : i.bytes = bytes) (hzs : z.cells.size = size) (hsz : 0 < size) {v : Value} {n : Nat} {xs : List Value} (hown : w.ownsRow base e size v n xs)
    (cs : Array Value) (hcs : cs.size = size) (h1 : ∀ u ∈ cs.toList, u.oneCell' = true) (h63 : n + 1 ≤ maxLen) (hbytes : (n + 1) * bytes ≤ 140737488355328) (hbase : base ≤ w.heap.size) :
    ∃ v' w', (Builtin.append_ #[t, t] t #[v, .slice (some ⟨w.heap.size, 0, none⟩) 1 1]).run P (w.alloc (.cells cs e)) = .ok v' w' ∧ AppOut w base e size v (n + 1) (xs ++ cs.toList) (w.heap.size + 1) v' w' := by
  have hb : Below w.heap.size w (w.alloc (.cells cs e)) := (Below.refl _ _).alloc (Nat.le_refl _) _
  obtain ⟨v', w', hr, h5, h6, _, h7⟩ := run_append_own_at (P := P) (w.alloc (.cells cs e)) base t t e i z size bytes ht hi hz hsize hby hzs hsz v n xs (by
      refine ⟨hown.1, hown.2.imp id fun ⟨g, cap, cur, e1, hg, hh, r⟩ => ⟨g, cap, cur, e1, hg, ?_, r⟩⟩
      rw [hb.block g (Array.getElem?_eq_some_iff.1 hh).1]; exact hh) ⟨w.heap.size, 0, none⟩ 1 1 cs.toList (by simp [hcs]) (by
      intro j u hj
      have ea : (⟨w.heap.size, 0, none⟩ : Addr).add j = ⟨w.heap.size, j, none⟩ := by unfold Addr.add; split <;> simp_all
      rw [ea]
      simp only [World.cell?, World.alloc_heap_new w (.cells cs e)]
      simpa using hj) h1 h63 hbytes (by simp; omega)
  refine ⟨v', w', hr, h5, ⟨by rw [h6.os]; rfl, by rw [h6.tape]; rfl, by rw [h6.output]; rfl, Nat.le_trans (by simp) h6.size, fun k hk hne => ?_⟩, by simpa using h7⟩
  rw [h6.block k (by simp; omega) hne]
  exact hb.block k hk
/-- Of a text, to bytes. -/
theorem run_append_text {w : World} (base : Nat) (t u e : TypeId) (i : TypeInfo) (ht : P.underlying t = some (.slice e)) (hu : P.underlying u = some .string) (hi : P.info? e = some i) (hz : i.zero = some (.int .u8 0))
    (hsize : i.size = 1) (hby : i.bytes = 1) {v : Value} {n : Nat} {xs : List Value} (hown : w.ownsRow base e 1 v n xs) (d : List UInt8) (h63 : n + d.length ≤ 140737488355328) (hbase : base ≤ w.heap.size) :
    ∃ v' w', (Builtin.append_ #[t, u] t #[v, .string (strOf d)]).run P w = .ok v' w' ∧ w'.ownsRow base e 1 v' (n + d.length) (xs ++ (toI d).map (Value.int .u8)) ∧ w.grownBy w' v.ownBlock := by
  obtain ⟨v', w', h1, h2, h3, _⟩ := Lib.run_append_own_string (P := P) w base t u t e i ht hu hi hz hsize hby v n xs hown (strOf d) (by rw [strOf_size]; unfold maxLen; omega) (by rw [strOf_size]; omega) hbase
  rw [strOf_size, strCells_strOf] at h2
  exact ⟨v', w', h1, h2, h3⟩
end

/-! an append whose run is known, in a walk -/
section
variable {P : Program} {w : World}
theorem wp_append_run {o : Oper} {a : Act} {K : Act → World → Prop} {Q : Exit → Act → World → Prop} (s x : Operand) (t u : TypeId)
    (ho : o.op = .call { callee := .builtin .append, args := #[s, x], argTypes := #[t, u] }) {v y v' : Value} {w' : World} (hs : a.eval s = v) (hx : a.eval x = y)
    (hrun : (Builtin.append_ #[t, u] o.type #[v, y]).run P w = .ok v' w') (h : K (a.put o.dst v') w') : o.wp P a w K Q := by
  unfold Oper.wp execOp
  simp only [ho, resolve, invoke, builtin, Sem.run_bind, Sem.run_pure, Result.andThen_ok, List.map_toArray, List.map_cons, List.map_nil, hs, hx, hrun]
  exact h
theorem wpList_append_run {ops : Array Oper} {rest : List Oper} {o : Oper} {a : Act} {Q : Exit → Act → World → Prop} (hgd : o.guard = none) (s x : Operand) (t u : TypeId)
    (ho : o.op = .call { callee := .builtin .append, args := #[s, x], argTypes := #[t, u] }) {v y v' : Value} {w' : World} (hs : a.eval s = v) (hx : a.eval x = y)
    (hrun : (Builtin.append_ #[t, u] o.type #[v, y]).run P w = .ok v' w') (h : wpList P ops Q rest (a.put o.dst v') w') : wpList P ops Q (o :: rest) a w :=
  wpList_plain hgd fun _ hK => wp_append_run s x t u ho hs hx hrun (hK _ _ h)
theorem step_append_run {ops : Array Oper} {o : Oper} {a : Act} {K : Act → World → Prop} {Q : Exit → Act → World → Prop} {E : Prop} (hgd : o.guard = none) (s x : Operand) (t u : TypeId)
    (ho : o.op = .call { callee := .builtin .append, args := #[s, x], argTypes := #[t, u] }) {v y v' : Value} {w' : World} (hs : a.eval s = v) (hx : a.eval x = y)
    (hrun : (Builtin.append_ #[t, u] o.type #[v, y]).run P w = .ok v' w') (h : K (a.put o.dst v') w') :
    if Region.wanted o (yielded ops a.tmps) = true then Oper.wp P o a w K Q else E := by
  have hw : Region.wanted o (yielded ops a.tmps) = true := by simp [Region.wanted, hgd]
  rw [if_pos hw]
  exact wp_append_run s x t u ho hs hx hrun h
end
theorem AppOut.below {w w' : World} {base : Nat} {e : TypeId} {size : Nat} {v : Value} {n : Nat} {xs : List Value} {f : Nat} {v' : Value} (h : AppOut w base e size v n xs f v' w') {B : Nat} (hB : B ≤ w.heap.size) (hv : ∀ k, v.ownBlock = some k → B ≤ k) : Below B w w' :=
  (Below.refl B w).grown h.2.1 hB hv
end Go.Proofs.Ytopnfpobbemfbaa
