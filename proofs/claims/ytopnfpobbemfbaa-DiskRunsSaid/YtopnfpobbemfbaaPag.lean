/- Pages: rows of 128 bytes as values; a map of pages. -/
import Derived.Test.YtopnfpobbemfbaaWide
import Derived.Maps.Own
import Derived.Maps.OwnOps
import Derived.Maps.Views
namespace Go.Proofs.Ytopnfpobbemfbaa
open Go.RowKit Go.Maps

/-- The cells of bytes. -/
def pcells (l : List UInt8) : List Value := (toI l).map (Value.int .u8)
theorem pcells_length (l : List UInt8) : (pcells l).length = l.length := by simp [pcells, toI]
theorem pcells_one (l : List UInt8) : ∀ v ∈ pcells l, v.oneCell' = true := fun v hv => by
  obtain ⟨n, _, rfl⟩ := List.mem_map.1 hv; rfl
theorem pcells_inj {l m : List UInt8} (h : pcells l = pcells m) : l = m := by
  have key : ∀ l : List UInt8, (pcells l).map (fun v => match v with | .int _ n => UInt8.ofNat n.toNat | _ => 0) = l := by
    intro l
    simp only [pcells, toI, List.map_map]
    conv => rhs; rw [← List.map_id l]
    apply List.map_congr_left
    intro x _
    simp
  rw [← key l, h, key m]
def pv (l : List UInt8) : Value := .agg (pcells l).toArray
theorem pv_inj {l m : List UInt8} (h : pv l = pv m) : l = m := by
  simp only [pv, Value.agg.injEq] at h
  exact pcells_inj (by simpa using congrArg Array.toList h)
/-- A page's bytes. -/
abbrev P128 := { l : List UInt8 // l.length = 128 }
def zpage : P128 := ⟨List.replicate 128 0, by simp⟩
instance : Inhabited P128 := ⟨zpage⟩
def toP (b : List UInt8) : P128 := if h : b.length = 128 then ⟨b, h⟩ else zpage
theorem toP_val {b : List UInt8} (h : b.length = 128) : (toP b).1 = b := by rw [toP, dif_pos h]
theorem toP_self (p : P128) : toP p.1 = p := by rw [toP, dif_pos p.2]

open Classical in
/-- How a page reads. -/
noncomputable def pageR (v : Value) : Option (DataW Unit × List MemPlace) :=
  if h : ∃ l : List UInt8, l.length = 128 ∧ v = pv l then some (.lit (.string (Classical.choose h)), []) else none
theorem pageR_mk (l : List UInt8) (h : l.length = 128) : pageR (pv l) = some (.lit (.string l), []) := by
  have hx : ∃ m : List UInt8, m.length = 128 ∧ pv l = pv m := ⟨l, h, rfl⟩
  unfold pageR
  rw [dif_pos hx, ← pv_inj (Classical.choose_spec hx).2]
theorem pageR_inv {v : Value} {d : DataW Unit} {ps : List MemPlace} (h : pageR v = some (d, ps)) : ∃ l : List UInt8, l.length = 128 ∧ v = pv l ∧ d = .lit (.string l) := by
  unfold pageR at h
  split at h
  · rename_i hx
    obtain ⟨h1, h2⟩ := Classical.choose_spec hx
    simp only [Option.some.injEq, Prod.mk.injEq] at h
    exact ⟨_, h1, h2, h.1.symm⟩
  · cases h

/-- A map of pages: what stands at each number; noughts, where nothing does. -/
def PgMap (w : World) (mb n : Nat) (f : Nat → P128) : Prop :=
  ∃ D : DataW Unit, w.ownsMap Try.prog 3 pageR mb n D ∧ IsMap D ∧ ∀ p : Nat, D.atKey (.int .i64 (p : Int)) (.lit (.string zpage.1)) = .lit (.string (f p).1)
theorem int_key : Keyed Try.prog 3 := int_keyed Try.underlying3
theorem key_int (p : Nat) (h : p ≤ 9223372036854775807) : keyOf Try.prog 3 (.int .i64 (p : Int)) = some (.int .i64 (p : Int)) :=
  keyOf_int_mk Try.underlying3 (by simp [Lit.wf, IntKind.min, IntKind.max, IntKind.signed, IntKind.bits]; omega)
theorem PgMap.made (w : World) : PgMap (w.alloc (.map #[] 0)) w.heap.size 0 (fun _ => zpage) :=
  ⟨.map [], World.ownsMap_made _ _ _ _, isMap_empty, fun _ => rfl⟩
theorem PgMap.lt {w : World} {mb n : Nat} {f : Nat → P128} (h : PgMap w mb n f) : mb < w.heap.size := by
  obtain ⟨D, h1, _⟩ := h; exact h1.lt
theorem PgMap.kept {w w' : World} {mb n : Nat} {f : Nat → P128} (h : PgMap w mb n f) (hb : w'.heap[mb]? = w.heap[mb]?) : PgMap w' mb n f := by
  obtain ⟨D, ⟨es, c, h1, h2⟩, h3⟩ := h
  exact ⟨D, ⟨es, c, hb.trans h1, h2⟩, h3⟩
theorem zero_page (w : World) : (zeroValue 76).run Try.prog w = .ok (pv zpage.1) w := by kernel_rfl
theorem PgMap.lookup {w : World} {mb n : Nat} {f : Nat → P128} (h : PgMap w mb n f) (p : Nat) (hp : p ≤ 9223372036854775807) :
    (Instr.lookup 68 (.map (some mb)) (.int .i64 (p : Int)) false).run Try.prog w = .ok (pv (f p).1) w := by
  obtain ⟨D, h1, _, h3⟩ := h
  obtain ⟨v, ps, hr, hv⟩ := h1.lookup int_key Try.underlying68 (zero_page w) (pageR_mk zpage.1 zpage.2) (key_int p hp)
  rw [h3] at hv
  obtain ⟨l, _, rfl, hd⟩ := pageR_inv hv
  simp only [DataW.lit.injEq, Lit.string.injEq] at hd
  rw [hr, hd]
theorem PgMap.update {w : World} {mb n : Nat} {f : Nat → P128} (h : PgMap w mb n f) (p : Nat) (hp : p ≤ 9223372036854775807) (l : P128) (hn : n ≤ 1000000) :
    ∃ w', (Instr.mapUpdate 68 (.map (some mb)) (.int .i64 (p : Int)) (pv l.1)).run Try.prog w = .ok () w' ∧ PgMap w' mb (n + 1) (fun q => if q = p then l else f q) ∧ w.grownBy w' (some mb) := by
  obtain ⟨D, h1, h2, h3⟩ := h
  obtain ⟨w', hr, ho, hg⟩ := h1.update int_key Try.underlying68 (by unfold maxLen; omega) (key_int p hp) (pageR_mk l.1 l.2)
  refine ⟨w', hr, ⟨_, ho, h2.put _ _, fun q => ?_⟩, hg⟩
  dsimp only
  by_cases hq : q = p
  · subst hq
    rw [atKey_put_same h2 (int_key.key (key_int q hp)), if_pos rfl]
  · rw [atKey_put_other (by simp; omega), h3, if_neg hq]
end Go.Proofs.Ytopnfpobbemfbaa
