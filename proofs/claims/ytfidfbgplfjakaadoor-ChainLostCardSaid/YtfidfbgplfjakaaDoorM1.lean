/- Texts that other texts of this claim lean on, one behind the other. -/
import Derived.Test.YtfidfbgplfjakaaDoorRows
import Derived.WalkKit
import Derived.WalkSpells
import Derived.WalkLawsBesides
import Derived.Lib.Hide
import Derived.RangeFuncRecord
import Derived.Deep.QuietTactic
import Derived.BigQuiet
import Derived.Laws.AppendOwn
import Derived.Laws.AppendOwnNone
import Derived.Laws.BytesArg
import Derived.Laws.MakeOwn
import Derived.Laws.BitsAllLaws
import Derived.Lib.AppendStr
import Derived.Lib.BufferRead
import Derived.Deep.Slices
import Derived.ProofKit
import Derived.ChangeOld
import Derived.Maps.AppendAt
import Derived.Laws.OwnMore
import Derived.Deep.AppendLies
import Derived.RegionTactic
import Derived.OwnWalk
import Derived.Deep.MidRow
import Derived.Deep.WholeRow
import Derived.Great.BuildSlice
import Derived.Maps.Own
import Derived.Maps.OwnOps
import Derived.Maps.Views
import Derived.Deep.RegionHeld
/- Words shared by the walks: what a slice of numbers reads as; worlds that only grew. -/
namespace Go.Proofs.YtfidfbgplfjakaaDoor
open Go.RowKit

/-- A slice value of so many numbers of a kind: it leads to the cells that hold them. -/
def Row (k : IntKind) (w : World) (a : Option Addr) (len cap : Nat) (l : List Int) : Prop :=
  l.length = len ∧ len ≤ cap ∧ cap ≤ maxLen ∧ (a = none → cap = 0) ∧ (len = 0 ∨ ∃ b off, a = some ⟨b, off, none⟩ ∧ b < w.heap.size ∧
    ∀ i, i < len → w.cell? ⟨b, off + i, none⟩ = some (.int k (l[i]?.getD 0)))

/-- What the row's frame tells of a slice that came in gives a row of its elements. -/
theorem Row.of_frame {k : IntKind} {w : World} {a : Option Addr} {len cap : Nat} {zs : List Int}
    (h : (a = none ∧ len = 0 ∧ cap = 0 ∧ zs = []) ∨ ∃ x, a = some x ∧ len ≤ cap ∧ cap ≤ maxLen ∧ zs.length = cap ∧ (∀ i, i < zs.length → w.cell? (x.add i) = some (.int k (zs.getD i 0))) ∧ ∀ n ∈ zs, (Lit.int k n).wf = true) :
    Row k w a len cap (zs.take len) ∧ ∀ n ∈ zs.take len, (Lit.int k n).wf = true := by
  rcases h with ⟨rfl, rfl, rfl, rfl⟩ | ⟨x, rfl, hl, hm, hz, hc, hw⟩
  · exact ⟨⟨rfl, Nat.le_refl _, by unfold maxLen; omega, fun _ => rfl, .inl rfl⟩, fun n hn => by simp at hn⟩
  · refine ⟨⟨by simp; omega, hl, hm, (fun h => by cases h), ?_⟩, fun n hn => hw n (List.mem_of_mem_take hn)⟩
    by_cases h0 : len = 0
    · exact .inl h0
    · obtain ⟨b, off, spot⟩ := x
      have h1 := hc 0 (by omega)
      have hspot : spot = none := by simpa [Addr.add] using World.cell?_spot h1
      subst hspot
      refine .inr ⟨b, off, rfl, ?_, fun i hi => ?_⟩
      · simp only [Addr.add, World.cell?] at h1
        by_cases hb : b < w.heap.size
        · exact hb
        · rw [Array.getElem?_eq_none (by simp; omega)] at h1
          simp at h1
      · have := hc i (by omega)
        have e : (⟨b, off, none⟩ : Addr).add i = ⟨b, off + i, none⟩ := by simp [Addr.add]
        rw [e] at this
        rw [this, List.getElem?_take_of_lt hi, List.getD_eq_getElem?_getD]

theorem Row.below {k : IntKind} {w w' : World} {a : Option Addr} {len cap : Nat} {l : List Int} {B : Nat} (hB : w.heap.size ≤ B) (hb : Below B w w') (h : Row k w a len cap l) : Row k w' a len cap l := by
  obtain ⟨h1, h2, h3, hn, h4⟩ := h
  refine ⟨h1, h2, h3, hn, ?_⟩
  rcases h4 with h4 | ⟨b, off, h5, h6, h7⟩
  · exact .inl h4
  · exact .inr ⟨b, off, h5, by have := hb.size; omega, fun i hi => (hb.cell (p := ⟨b, off + i, none⟩) (by simp; omega)).trans (h7 i hi)⟩

theorem Row.take {k : IntKind} {w : World} {a : Option Addr} {len cap : Nat} {l : List Int} (j : Nat) (hj : j ≤ len) (h : Row k w a len cap l) : Row k w a j cap (l.take j) := by
  obtain ⟨h1, h2, h3, hn, h4⟩ := h
  refine ⟨by simp; omega, by omega, h3, hn, ?_⟩
  rcases h4 with h4 | ⟨b, off, h5, h6, h7⟩
  · exact .inl (by omega)
  · exact .inr ⟨b, off, h5, h6, fun i hi => by rw [h7 i (by omega)]; simp [hi]⟩

/-- The address at which the rest of a slice begins, under one name, and the run of the slice expression. -/
theorem slice_from {P : Program} {T : TypeId} (hT : P.underlying T = some (.slice (P.elem T))) {z : Nat} (hz : ∀ w, (sizeOf (P.elem T)).run P w = .ok z w) (a : Option Addr) (len cap j : Nat) (hj : j ≤ len) :
    ∃ a2, a2 = (if cap = j then a else a.map (·.add (j * z))) ∧ ∀ (k : IntKind) w, (Instr.slice T (.slice a len cap) (some (.int k j)) none none).run P w = .ok (.slice a2 (len - j) (cap - j)) w := by
  refine ⟨_, rfl, fun k w => ?_⟩
  rw [run_slice_l w T a len cap hT k j (by omega) (by omega), hz]
  rfl

theorem Row.drop {k : IntKind} {w : World} {a : Option Addr} {len cap : Nat} {l : List Int} (j : Nat) (hj : j ≤ len) (h : Row k w a len cap l) :
    Row k w (if cap = j then a else a.map (·.add (j * 1))) (len - j) (cap - j) (l.drop j) := by
  obtain ⟨h1, h2, h3, hn, h4⟩ := h
  refine ⟨by simp; omega, by omega, by omega, (fun h => by
    have : cap = 0 := by
      by_cases e : cap = j
      · rw [if_pos e] at h; exact hn h
      · rw [if_neg e] at h; exact hn (by simpa using h)
    omega), ?_⟩
  rcases h4 with h4 | ⟨b, off, rfl, h6, h7⟩
  · exact .inl (by omega)
  · by_cases e : cap = j
    · exact .inl (by omega)
    · exact .inr ⟨b, off + j, by simp [e, Addr.add], h6, fun i hi => by rw [Nat.add_assoc, h7 (j + i) (by omega)]; simp⟩

theorem Row.made (k : IntKind) (W : World) (t : TypeId) (l : List Int) {b : Nat} (hb : W.heap.size = b) (h : l.length ≤ maxLen) :
    Row k (W.alloc (.cells (l.map (Value.int k)).toArray t)) (some ⟨b, 0, none⟩) l.length l.length l := by
  subst hb
  refine ⟨rfl, Nat.le_refl _, h, (fun h => by cases h), .inr ⟨_, _, rfl, by simp, fun i hi => ?_⟩⟩
  have := World.alloc_heap_new W (.cells (l.map (Value.int k)).toArray t)
  simp only [World.cell?, this]
  simp [hi]

/-- A fresh block of the call's own, and what a callee did above it, leave what was there as it was. -/
theorem below_alloc {w w1 w2 : World} {o : Obj} (h0 : Below w.heap.size w w1) (h : Below (w1.alloc o).heap.size (w1.alloc o) w2) : Below w.heap.size w w2 :=
  (h0.alloc h0.size o).trans (h.mono (by have := h0.size; simp; omega))

/-- A row of the call's own reads as a row. -/
theorem Row.of_own {k : IntKind} {w : World} {base : Nat} {e : TypeId} {v : Value} {n : Nat} {l : List Int} (h : w.ownsRow base e 1 v n (l.map (Value.int k))) :
    ∃ a cap, v = .slice a n cap ∧ Row k w a n cap l := by
  obtain ⟨h1, h2⟩ := h
  simp only [List.length_map, Nat.mul_one] at h1
  rcases h2 with ⟨rfl, rfl⟩ | ⟨g, cap, cur, rfl, hb, hg, hn, hm, hc, ht⟩
  · exact ⟨none, 0, rfl, h1, Nat.le_refl _, by unfold maxLen; omega, fun _ => rfl, .inl rfl⟩
  · refine ⟨_, cap, rfl, h1, hn, hm, (fun h => by cases h), .inr ⟨g, 0, rfl, (Array.getElem?_eq_some_iff.1 hg).1, fun i hi => ?_⟩⟩
    simp only [World.cell?, hg, Nat.zero_add]
    have e : (cur.toList.take (n * 1))[i]? = cur.toList[i]? := List.getElem?_take_of_lt (by omega)
    rw [ht] at e
    rw [← Array.getElem?_toList, ← e]
    simp [show i < l.length by omega]

/-- A fresh row is the call's own. -/
theorem own_made (k : IntKind) (W : World) (t : TypeId) (l : List Int) {b : Nat} (hb : W.heap.size = b) {base : Nat} (hbase : base ≤ b) (h : l.length ≤ maxLen) :
    (W.alloc (.cells (l.map (Value.int k)).toArray t)).ownsRow base t 1 (.slice (some ⟨b, 0, none⟩) l.length l.length) l.length (l.map (Value.int k)) := by
  subst hb
  exact ⟨by simp, .inr ⟨_, _, _, rfl, hbase, World.alloc_heap_new W _, Nat.le_refl _, h, by simp, List.take_of_length_le (by simp)⟩⟩

/-- A row of the call's own lies where the call's own blocks lie. -/
theorem own_ge {w : World} {base : Nat} {e : TypeId} {size : Nat} {v : Value} {n : Nat} {xs : List Value} (h : w.ownsRow base e size v n xs) : ∀ k, v.ownBlock = some k → base ≤ k := by
  intro k hk
  rcases h.2 with ⟨rfl, rfl⟩ | ⟨g, cap, cur, rfl, hb, _⟩
  · cases hk
  · cases hk; exact hb

/-- 'append' to a row of the call's own, of what any row of numbers holds. -/
theorem wpList_append_row {P : Program} {w : World} {ops : Array Oper} {rest : List Oper} {o : Oper} {act : Act} {Q : Exit → Act → World → Prop} (hgd : o.guard = none) (s x : Operand) (t : TypeId)
    (ho : o.op = .call { callee := .builtin .append, args := #[s, x], argTypes := #[t, t] })
    (base : Nat) (e : TypeId) (i : TypeInfo) (z : Value) (bytes : Nat) (ht : P.underlying t = some (.slice e)) (hi : P.info? e = some i) (hz : i.zero = some z)
    (hsize : i.size = 1) (hby : i.bytes = bytes) (hzs : z.cells.size = 1)
    (v : Value) (n : Nat) (xs : List Value) (hs : act.eval s = v) (hown : w.ownsRow base e 1 v n xs)
    (k : IntKind) (a : Option Addr) (m c : Nat) (l : List Int) (hx : act.eval x = .slice a m c) (hrow : Row k w a m c l)
    (h63 : n + m ≤ maxLen) (hbytes : (n + m) * bytes ≤ 140737488355328) (hbase : base ≤ w.heap.size)
    (h : ∀ v' w', w'.ownsRow base e 1 v' (n + m) (xs ++ l.map (Value.int k)) → w.grownBy w' v.ownBlock → wpList P ops Q rest (act.put o.dst v') w') : wpList P ops Q (o :: rest) act w := by
  obtain ⟨h1, h2, h3, hn, h4⟩ := hrow
  cases a with
  | none =>
    have hc := hn rfl
    have hm : m = 0 := by omega
    subst hc hm
    obtain rfl : l = [] := List.eq_nil_of_length_eq_zero h1
    exact wpList_append_own_none hgd s x t ho base e i 1 ht hi v n xs hs hown hx (h v w (by simpa using hown) ⟨rfl, rfl, rfl, Nat.le_refl _, fun _ _ _ => rfl⟩)
  | some ad =>
    refine wpList_append_own w hgd s x t ho base e i z 1 bytes ht hi hz hsize hby hzs (by decide) v n xs hs hown ad m c (l.map (Value.int k)) hx (by simp [h1]) ?_ (fun u hu => by
      obtain ⟨y, _, rfl⟩ := List.mem_map.1 hu; rfl) h63 hbytes hbase fun v' w' h5 h6 _ => h v' w' h5 h6
    intro j u hj
    simp only [List.getElem?_map, Option.map_eq_some_iff] at hj
    obtain ⟨y, hy, rfl⟩ := hj
    have hjl := (List.getElem?_eq_some_iff.1 hy).1
    rcases h4 with h4 | ⟨b, off, h5, h6, h7⟩
    · omega
    · cases h5
      have e : (⟨b, off, none⟩ : Addr).add j = ⟨b, off + j, none⟩ := by
        unfold Addr.add; split <;> simp_all
      rw [e, h7 j (by omega), hy]; rfl

theorem Row.drewN {k : IntKind} {w : World} {a : Option Addr} {len cap : Nat} {l : List Int} (h : Row k w a len cap l) (n : Nat) : Row k (w.drewN n) a len cap l := h

/-- A callee that leaves the world alone, inside a region that draws its order. -/
theorem quiet_same {P : Program} {f : FuncId} {args : Array Value} {w : World} {n : Nat} {v : Value}
    (h : Calls P f args (w.drewN n) fun e w' => e = .returned v ∧ w.drewN n = w') : Calls P f args (w.drewN n) fun e w'' => e = .returned v ∧ ∃ m, w'' = w.drewN m :=
  h.mono fun _ _ ⟨he, hm⟩ => ⟨he, n, hm.symm⟩

theorem below_drewN {B : Nat} {a w : World} (h : Below B a w) (n : Nat) : Below B a (w.drewN n) := h.trans ⟨rfl, rfl, rfl, Nat.le_refl _, fun _ _ => rfl⟩
theorem below_then {w a b : World} (h : Below w.heap.size w a) (k : Below a.heap.size a b) : Below w.heap.size w b := h.trans (k.mono h.size)
theorem below_take {w a b : World} {t : Nat} (h : Below w.heap.size w a) (ht : w.heap.size ≤ t) (k : a.grownBy b (some t)) : Below w.heap.size w b := h.grown k h.size (fun j e => by cases e; exact ht)

theorem ret_int {k : IntKind} {a b : Int} (h : a = b) : Ending.returned (.int k a) = .returned (.int k b) := by rw [h]
theorem ret_bool {a b : Bool} (h : a = b) : Ending.returned (.bool a) = .returned (.bool b) := by rw [h]

end Go.Proofs.YtfidfbgplfjakaaDoor

/- Bytes: slices of bytes and strings that read as lists of bytes. -/
namespace Go.Proofs.YtfidfbgplfjakaaDoor
open Go.RowKit

/-- The numbers that bytes are. -/
def toI (l : List UInt8) : List Int := l.map fun b => (b.toNat : Int)
theorem toI_length (l : List UInt8) : (toI l).length = l.length := by simp [toI]
theorem toI_take (l : List UInt8) (k : Nat) : (toI l).take k = toI (l.take k) := by simp [toI, List.map_take]
theorem toI_drop (l : List UInt8) (k : Nat) : (toI l).drop k = toI (l.drop k) := by simp [toI, List.map_drop]
theorem toI_append (l m : List UInt8) : toI l ++ toI m = toI (l ++ m) := by simp [toI]
theorem toI_get (l : List UInt8) (k : Nat) : (toI l)[k]?.getD 0 = ((l[k]?.getD 0).toNat : Int) := by
  simp only [toI, List.getElem?_map]
  cases l[k]? <;> simp
/-- Numbers that fit into bytes are bytes. -/
def ofI (l : List Int) : List UInt8 := l.map fun n => UInt8.ofNat n.toNat
theorem toI_ofI (l : List Int) (h : ∀ n ∈ l, (Lit.int .u8 n).wf = true) : toI (ofI l) = l := by
  induction l with
  | nil => rfl
  | cons x l ih =>
    have h1 := h x (by simp)
    have h2 := ih (fun n hn => h n (by simp [hn]))
    simp [Lit.wf, IntKind.min, IntKind.max, IntKind.signed, IntKind.bits] at h1
    simp only [toI, ofI, List.map_cons] at h2 ⊢
    rw [h2]
    congr 1
    simp [UInt8.toNat_ofNat']
    omega

/-- A slice of bytes that reads as a list of bytes. -/
def Bs (w : World) (a : Option Addr) (len cap : Nat) (l : List UInt8) : Prop := Row .u8 w a len cap (toI l)

theorem Bs.below {w w' : World} {a : Option Addr} {len cap : Nat} {l : List UInt8} {B : Nat} (hB : w.heap.size ≤ B) (hb : Below B w w') (h : Bs w a len cap l) : Bs w' a len cap l := Row.below hB hb h
theorem Bs.drewN {w : World} {a : Option Addr} {len cap : Nat} {l : List UInt8} (h : Bs w a len cap l) (n : Nat) : Bs (w.drewN n) a len cap l := h
theorem Bs.take {w : World} {a : Option Addr} {len cap : Nat} {l : List UInt8} (j : Nat) (hj : j ≤ len) (h : Bs w a len cap l) : Bs w a j cap (l.take j) := by
  have := Row.take j hj h; rwa [toI_take] at this
theorem Bs.drop {w : World} {a : Option Addr} {len cap : Nat} {l : List UInt8} (j : Nat) (hj : j ≤ len) (h : Bs w a len cap l) : Bs w (if cap = j then a else a.map (·.add (j * 1))) (len - j) (cap - j) (l.drop j) := by
  have := Row.drop j hj h; rwa [toI_drop] at this
theorem Bs.len {w : World} {a : Option Addr} {len cap : Nat} {l : List UInt8} (h : Bs w a len cap l) : l.length = len := by have := h.1; rwa [toI_length] at this
theorem Bs.cap {w : World} {a : Option Addr} {len cap : Nat} {l : List UInt8} (h : Bs w a len cap l) : len ≤ cap ∧ cap ≤ maxLen := ⟨h.2.1, h.2.2.1⟩
theorem Bs.nil {w : World} {cap : Nat} (a : Option Addr) (h : cap ≤ maxLen) (hn : a = none → cap = 0) : Bs w a 0 cap [] := ⟨rfl, Nat.zero_le _, h, hn, .inl rfl⟩
theorem Bs.cell {w : World} {a : Option Addr} {len cap : Nat} {l : List UInt8} (h : Bs w a len cap l) {k : Nat} (hk : k < len) :
    ∃ b off, a = some ⟨b, off, none⟩ ∧ b < w.heap.size ∧ ∀ i, i < len → w.cell? ⟨b, off + i, none⟩ = some (.int .u8 ((l[i]?.getD 0).toNat : Int)) := by
  rcases h.2.2.2.2 with h0 | ⟨b, off, e, hb, hc⟩
  · omega
  · exact ⟨b, off, e, hb, fun i hi => by rw [hc i hi, toI_get]⟩
theorem Bs.of_own {w : World} {base : Nat} {e : TypeId} {v : Value} {n : Nat} {l : List UInt8} (h : w.ownsRow base e 1 v n ((toI l).map (Value.int .u8))) :
    ∃ a cap, v = .slice a n cap ∧ Bs w a n cap l := Row.of_own h

/-- The blocks that a change leaves alone keep the bytes. -/
theorem Row.grown {k : IntKind} {w w' : World} {a : Option Addr} {len cap : Nat} {l : List Int} {row : Option Nat} (hg : w.grownBy w' row) (hne : ∀ b off, len ≠ 0 → a = some ⟨b, off, none⟩ → row ≠ some b) (h : Row k w a len cap l) : Row k w' a len cap l := by
  obtain ⟨h1, h2, h3, hn, h4⟩ := h
  refine ⟨h1, h2, h3, hn, ?_⟩
  rcases h4 with h4 | ⟨b, off, h5, h6, h7⟩
  · exact .inl h4
  · by_cases h0 : len = 0
    · exact .inl h0
    · refine .inr ⟨b, off, h5, by have := hg.size; omega, fun i hi => ?_⟩
      rw [← h7 i hi]
      exact World.cell?_of_block (hg.block b h6 (fun e => hne b off h0 h5 e.symm))
theorem Bs.grown {w w' : World} {a : Option Addr} {len cap : Nat} {l : List UInt8} {row : Option Nat} (hg : w.grownBy w' row) (hne : ∀ b off, len ≠ 0 → a = some ⟨b, off, none⟩ → row ≠ some b) (h : Bs w a len cap l) : Bs w' a len cap l := Row.grown hg hne h

/-! strings -/
/-- The string of bytes. -/
def strOf (l : List UInt8) : ByteArray := ⟨l.toArray⟩
theorem strOf_data (s : ByteArray) : strOf s.data.toList = s := rfl
theorem strOf_list (l : List UInt8) : (strOf l).data.toList = l := by simp [strOf]
theorem strOf_size (l : List UInt8) : (strOf l).size = l.length := by simp [strOf, ByteArray.size]
theorem strOf_inj {l m : List UInt8} : strOf l = strOf m ↔ l = m := ⟨fun h => by rw [← strOf_list l, h, strOf_list], fun h => by rw [h]⟩
theorem strOf_extract (l : List UInt8) (i j : Nat) : (strOf l).extract i j = strOf ((l.drop i).take (j - i)) := by
  apply ByteArray.ext
  simp [strOf, ByteArray.data_extract, List.extract_eq_take_drop]
theorem strOf_append (l m : List UInt8) : strOf l ++ strOf m = strOf (l ++ m) := by
  apply ByteArray.ext
  simp [strOf, ByteArray.data_append]

theorem strOf_toList (l : List UInt8) : (strOf l).toList = l := by
  have h := ByteArray.toList_loop_eq (strOf l) (strOf l).size 0 [] (by omega) (by omega)
  show ByteArray.toList.loop (strOf l) 0 [] = l
  rw [h, strOf_list]; simp
theorem strOf_get (l : List UInt8) (k : Nat) (h : k < l.length) : (strOf l)[k]'(by rw [strOf_size]; exact h) = l[k]?.getD 0 := by
  simp [strOf, ByteArray.getElem_eq_getElem_data, h]

/-- 'string(b)'. -/
theorem conv_string {P : Program} {w : World} {src e dst : TypeId} (hs : P.underlying src = some (.slice e)) (he : P.underlying e = some (.int .u8)) (hd : P.underlying dst = some .string)
    {a : Option Addr} {len cap : Nat} {l : List UInt8} (h : Bs w a len cap l) : (convert src dst (.slice a len cap)).run P w = .ok (.string (strOf l)) w := by
  have hlen := h.len
  cases a with
  | none =>
    have hc := h.2.2.2.1 rfl
    have : len = 0 := by have := h.2.1; omega
    subst hc this
    obtain rfl : l = [] := List.eq_nil_of_length_eq_zero hlen
    exact Lib.run_convert_nil_bytes w src dst e 0 hs he hd
  | some x =>
    subst hlen
    refine run_convert_bytes_back w src dst e x cap l hs he hd fun j hj => ?_
    obtain ⟨b, off, h5, _, h7⟩ := h.cell hj
    cases h5
    have e : (⟨b, off, none⟩ : Addr).add j = ⟨b, off + j, none⟩ := by unfold Addr.add; split <;> simp_all
    rw [e, h7 j hj]; simp [hj]

/-- What a 'make' of one-celled elements lays. -/
theorem made_list (v : Value) (n : Nat) : (madeCells #[v] n).toList = List.replicate n v := by
  simp only [madeCells]
  apply List.ext_getElem
  · simp
  · intro i h1 h2
    simp [Nat.mod_one]

theorem strCells_strOf (l : List UInt8) : Lib.strCells (strOf l) = (toI l).map (Value.int .u8) := by
  simp [Lib.strCells, strOf, toI]

/-- The call hands back a text; nothing that was there has turned. -/
def RetStr (w : World) (l : List UInt8) (e : Ending) (w' : World) : Prop := e = .returned (.string (strOf l)) ∧ Below w.heap.size w w'

/-- 'string([]byte{b})'. -/
theorem conv_one {P : Program} {W : World} {src e dst t : TypeId} (hs : P.underlying src = some (.slice e)) (he : P.underlying e = some (.int .u8)) (hd : P.underlying dst = some .string) (b : UInt8) :
    (convert src dst (.slice (some ⟨W.heap.size, 0, none⟩) 1 1)).run P (W.alloc (.cells #[.int .u8 (b.toNat : Int)] t)) = .ok (.string (strOf [b])) (W.alloc (.cells #[.int .u8 (b.toNat : Int)] t)) :=
  conv_string hs he hd (show Bs _ _ _ _ [b] from Row.made .u8 W t [(b.toNat : Int)] rfl (by unfold maxLen; simp))

/-- The call hands back a row of bytes of its own; nothing that was there has turned. -/
def OwnBytes (t : TypeId) (w : World) (l : List UInt8) (e : Ending) (w' : World) : Prop :=
  ∃ v, e = .returned v ∧ w'.ownsRow w.heap.size t 1 v l.length ((toI l).map (Value.int .u8)) ∧ Below w.heap.size w w'

theorem grown_setCell (w : World) (a : Addr) (u : Value) : w.grownBy (w.setCell a u) (some a.block) :=
  ⟨rfl, rfl, rfl, by simp [World.setCell], fun k _ hne => Below.heap_setCell w a u k (fun e => hne (by rw [e]))⟩
theorem grown_trans {a b c : World} {row : Option Nat} (h : a.grownBy b row) (k : b.grownBy c row) : a.grownBy c row :=
  ⟨by rw [k.os, h.os], by rw [k.tape, h.tape], by rw [k.output, h.output], Nat.le_trans h.size k.size, fun i hi hne => by rw [k.block i (Nat.lt_of_lt_of_le hi h.size) hne, h.block i hi hne]⟩
/-- What happened above all that was there is a growth, whatever row is named. -/
theorem grown_below {a b : World} (h : Below a.heap.size a b) (row : Option Nat) : a.grownBy b row := ⟨h.os, h.tape, h.output, h.size, fun k hk _ => h.block k hk⟩
theorem below_grown {a b : World} {B : Nat} {r : Nat} (h : a.grownBy b (some r)) (hB : B ≤ a.heap.size) (hr : B ≤ r) : Below B a b := (Below.refl B a).grown h hB (fun k e => by cases e; exact hr)
theorem heap_setCell_at {w : World} {g : Nat} {cur : Array Value} {e : TypeId} (j : Nat) (u : Value) (hg : w.heap[g]? = some (.cells cur e (0, 0))) :
    (w.setCell ⟨g, j, none⟩ u).heap[g]? = some (.cells (cur.setIfInBounds j u) e (0, 0)) := heap_setCell_same w g j cur e u hg

/-- 'x<<8 | c'. -/
theorem or256 (x c : Nat) (hx : x < 72057594037927936) (hc : c < 256) : bits .or .u64 ((x : Int) * 256) (c : Int) = ((x * 256 + c : Nat) : Int) := by
  have h := u64_or_nat (x * 256) c (by omega) (by omega)
  have e : x * 256 ||| c = x * 256 + c := by
    have := Nat.shiftLeft_add_eq_or_of_lt (i := 8) (b := c) (by omega) x
    rw [Nat.shiftLeft_eq] at this
    exact this.symm
  rw [e] at h
  rw [← h]; congr 1

theorem own_lt {w : World} {base : Nat} {e : TypeId} {size : Nat} {v : Value} {n : Nat} {xs : List Value} (h : w.ownsRow base e size v n xs) : ∀ k, v.ownBlock = some k → k < w.heap.size := by
  intro k hk
  rcases h.2 with ⟨rfl, rfl⟩ | ⟨g, cap, cur, rfl, _, hg, _⟩
  · cases hk
  · cases hk; exact (Array.getElem?_eq_some_iff.1 hg).1
/-- Two rows of which the one was there before the other one's blocks. -/
theorem own_apart {w : World} {base e size n} {v v2 : Value} {xs : List Value} {B : Nat} (h : w.ownsRow base e size v n xs) (hB : w.heap.size ≤ B) (h2 : ∀ k, v2.ownBlock = some k → B ≤ k) : v.ownBlock = none ∨ v.ownBlock ≠ v2.ownBlock := by
  cases hv : v.ownBlock with
  | none => exact .inl rfl
  | some k =>
    right
    intro e
    have h1 := own_lt h k hv
    have h3 := h2 k e.symm
    omega
theorem own_apart' {w : World} {base e size n} {v v2 : Value} {xs : List Value} {B : Nat} (h : ∀ k, v2.ownBlock = some k → k < B) (h2 : w.ownsRow base e size v n xs) (hB : B ≤ base) : v.ownBlock = none ∨ v.ownBlock ≠ v2.ownBlock := by
  cases hv : v.ownBlock with
  | none => exact .inl rfl
  | some k =>
    right
    intro e
    have h1 := own_ge h2 k hv
    have h3 := h k e.symm
    omega
theorem apart_of {v v2 : Value} {B : Nat} (h : ∀ k, v.ownBlock = some k → k < B) (h2 : ∀ k, v2.ownBlock = some k → B ≤ k) : v.ownBlock = none ∨ v.ownBlock ≠ v2.ownBlock := by
  cases hv : v.ownBlock with
  | none => exact .inl rfl
  | some k => exact .inr (fun e => by have h1 := h k hv; have h3 := h2 k e.symm; omega)
theorem apart_of' {v v2 : Value} {B : Nat} (h : ∀ k, v.ownBlock = some k → B ≤ k) (h2 : ∀ k, v2.ownBlock = some k → k < B) : v.ownBlock = none ∨ v.ownBlock ≠ v2.ownBlock := by
  cases hv : v.ownBlock with
  | none => exact .inl rfl
  | some k => exact .inr (fun e => by have h1 := h k hv; have h3 := h2 k e.symm; omega)
theorem grown_refl (w : World) (row : Option Nat) : w.grownBy w row := ⟨rfl, rfl, rfl, Nat.le_refl _, fun _ _ _ => rfl⟩
theorem Bs.own {w : World} {base : Nat} {e : TypeId} {a : Option Addr} {n cap : Nat} {l : List UInt8} (h : w.ownsRow base e 1 (.slice a n cap) n ((toI l).map (Value.int .u8))) : Bs w a n cap l := by
  obtain ⟨a', cap', e1, e2⟩ := Bs.of_own h
  cases e1; exact e2
theorem own_slice {w : World} {base : Nat} {e : TypeId} {size : Nat} {v : Value} {n : Nat} {xs : List Value} (h : w.ownsRow base e size v n xs) : ∃ a cap, v = .slice a n cap ∧ n ≤ cap ∧ cap ≤ maxLen ∧ (0 < n → ∃ g, a = some ⟨g, 0, none⟩) := by
  rcases h.2 with ⟨rfl, rfl⟩ | ⟨g, cap, cur, rfl, _, _, h1, h2, _⟩
  · exact ⟨none, 0, rfl, Nat.le_refl _, by unfold maxLen; omega, fun h => by omega⟩
  · exact ⟨_, cap, rfl, h1, h2, fun _ => ⟨g, rfl⟩⟩

end Go.Proofs.YtfidfbgplfjakaaDoor

/- Slices of records that came in: a slice of elements of so many cells reads as a list. -/
namespace Go.Proofs.YtfidfbgplfjakaaDoor
open Go.RowKit Go.Deep Go.WideShapes

/-- A slice of elements of so many cells; R: what the cells of an element tell. -/
def TabR {α : Type} (sz : Nat) (R : List Value → α → Prop) (w : World) (a : Option Addr) (len cap : Nat) (l : List α) : Prop :=
  l.length = len ∧ len ≤ cap ∧ cap ≤ maxLen ∧ (a = none → cap = 0) ∧ (len = 0 ∨ ∃ b off, a = some ⟨b, off, none⟩ ∧ b < w.heap.size ∧
    ∀ i y, l[i]? = some y → ∃ cs, cs.length = sz ∧ R cs y ∧ ∀ j v, cs[j]? = some v → w.cell? ⟨b, off + i * sz + j, none⟩ = some v)

theorem TabR.mono {α : Type} {sz : Nat} {R R' : List Value → α → Prop} {w : World} {a : Option Addr} {len cap : Nat} {l : List α} (h : TabR sz R w a len cap l) (hR : ∀ cs y, R cs y → R' cs y) : TabR sz R' w a len cap l := by
  obtain ⟨h1, h2, h3, hn, h4⟩ := h
  refine ⟨h1, h2, h3, hn, ?_⟩
  rcases h4 with h4 | ⟨b, off, h5, h6, h7⟩
  · exact .inl h4
  · exact .inr ⟨b, off, h5, h6, fun i y hy => by obtain ⟨cs, c1, c2, c3⟩ := h7 i y hy; exact ⟨cs, c1, hR _ _ c2, c3⟩⟩

theorem TabR.below {α : Type} {sz : Nat} {R : List Value → α → Prop} {w w' : World} {a : Option Addr} {len cap : Nat} {l : List α} {B : Nat} (hB : w.heap.size ≤ B) (hb : Below B w w') (h : TabR sz R w a len cap l) : TabR sz R w' a len cap l := by
  obtain ⟨h1, h2, h3, hn, h4⟩ := h
  refine ⟨h1, h2, h3, hn, ?_⟩
  rcases h4 with h4 | ⟨b, off, h5, h6, h7⟩
  · exact .inl h4
  · exact .inr ⟨b, off, h5, by have := hb.size; omega, fun i y hy => by
      obtain ⟨cs, c1, c2, c3⟩ := h7 i y hy
      exact ⟨cs, c1, c2, fun j v hv => (hb.cell (p := ⟨b, off + i * sz + j, none⟩) (by simp; omega)).trans (c3 j v hv)⟩⟩

theorem TabR.at {α : Type} {sz : Nat} {R : List Value → α → Prop} {w : World} {a : Option Addr} {len cap : Nat} {l : List α} (h : TabR sz R w a len cap l) {k : Nat} (hk : k < len) :
    ∃ b off y cs, a = some ⟨b, off, none⟩ ∧ b < w.heap.size ∧ l[k]? = some y ∧ cs.length = sz ∧ R cs y ∧ ∀ j v, cs[j]? = some v → w.cell? ⟨b, off + k * sz + j, none⟩ = some v := by
  obtain ⟨h1, h2, h3, hn, h4⟩ := h
  rcases h4 with h4 | ⟨b, off, h5, h6, h7⟩
  · omega
  · have hy : l[k]? = some l[k] := List.getElem?_eq_getElem (by omega)
    obtain ⟨cs, c1, c2, c3⟩ := h7 k _ hy
    exact ⟨b, off, _, cs, h5, h6, hy, c1, c2, c3⟩

theorem add_none (b off j : Nat) : (⟨b, off, none⟩ : Addr).add j = ⟨b, off + j, none⟩ := by unfold Addr.add; split <;> simp_all

section
variable {H : Type} {enc : TypeId × Value → H} {P : Program} {w : World} {base : Nat}
/-- A slice that came in, opened: each element by a reader of its cells. -/
theorem open_tab {α : Type} {t e : TypeId} {sz : Nat} (ht : P.underlying t = some (.slice e)) (hsz : P.cellsOf e = sz) (hpos : 0 < sz) (R : List Value → α → Prop)
    (hR : ∀ n cs x, cs.length = sz → DataW.trod enc P w 0 (fun _ => true) true n e cs = some x → ∃ y, R cs y)
    {v : Value} {d : DataW H} {p : List MemPlace} (hv : Value.okWide P w .any base t v) (h : DataW.Trod enc P w 0 (fun _ => true) true t v d p) :
    ∃ a len cap l, v = .slice a len cap ∧ TabR sz R w a len cap l := by
  obtain ⟨a, len, cap, rfl⟩ := okWide_slice ht hv
  obtain ⟨fuel, hf⟩ := h
  rcases open_slice ht hf with ⟨hcs, _⟩ | ⟨x, len', cap', m, n, D, Pl, hcs, _, hl, hm, hmm, _, hx⟩
  · simp [Value.cells] at hcs
    obtain ⟨rfl, rfl, rfl⟩ := hcs
    exact ⟨none, 0, 0, [], rfl, rfl, Nat.le_refl _, by unfold maxLen; omega, fun _ => rfl, .inl rfl⟩
  · simp [Value.cells] at hcs
    obtain ⟨rfl, rfl, rfl⟩ := hcs
    have hlm : len ≤ m := by rw [hmm]; exact hl
    rw [hsz] at hx
    have each : ∀ i, i < len → ∃ q : α × List Value, q.2.length = sz ∧ R q.2 q.1 ∧ ∀ j, j < sz → w.cell? ((x.add (i * sz)).add j) = q.2[j]? := by
      intro i hi
      obtain ⟨cs', h1, h2⟩ := hx i (by omega)
      obtain ⟨_, hlen, hcell⟩ := World.cells?_some h1
      obtain ⟨y, hy⟩ := hR n cs' _ hlen h2
      exact ⟨(y, cs'), hlen, hy, hcell⟩
    by_cases h0 : len = 0
    · subst h0
      exact ⟨_, 0, cap, [], rfl, rfl, hl, hm, (fun h => by cases h), .inl rfl⟩
    · obtain ⟨q0, g1, _, g3⟩ := each 0 (by omega)
      haveI : Inhabited (α × List Value) := ⟨q0⟩
      obtain ⟨q, hq⟩ := choose_lt each
      have g4 := g3 0 hpos
      obtain ⟨v0, hv0⟩ : ∃ v0, q0.2[0]? = some v0 := ⟨_, List.getElem?_eq_getElem (by omega)⟩
      rw [hv0] at g4
      obtain ⟨b, off, spot⟩ := x
      have hspot : spot = none := by
        have := World.cell?_spot g4
        simp [Addr.add] at this
        exact this
      subst hspot
      simp only [add_none] at hq g4
      refine ⟨_, len, cap, (List.range len).map fun i => (q i).1, rfl, by simp, hl, hm, (fun h => by cases h), .inr ⟨b, off, rfl, ?_, fun i y hy => ?_⟩⟩
      · by_cases hb : b < w.heap.size
        · exact hb
        · simp only [World.cell?] at g4
          rw [Array.getElem?_eq_none (show w.heap.size ≤ b by omega)] at g4
          simp at g4
      · have hi : i < len := by
          have := (List.getElem?_eq_some_iff.1 hy).1
          simpa using this
        obtain ⟨c1, c2, c3⟩ := hq i hi
        have hy' : y = (q i).1 := by
          simp [hi] at hy; exact hy.symm
        subst hy'
        refine ⟨(q i).2, c1, c2, fun j v hv => ?_⟩
        have hj : j < sz := by rw [← c1]; exact (List.getElem?_eq_some_iff.1 hv).1
        rw [c3 j hj]; exact hv
end

/-- Two integers. -/
def IsPair (cs : List Value) (y : Int × Int) : Prop := cs = [.int .i64 y.1, .int .i64 y.2]
theorem read_pair {H : Type} {enc : TypeId × Value → H} {P : Program} {w : World} {e : TypeId} {f0 f1 : Field} (he : P.underlying e = some (.struct #[f0, f1])) (o0 : f0.offset = 0) (o1 : f1.offset = 1) (c0 : P.cellsOf f0.type = 1) (c1 : P.cellsOf f1.type = 1)
    (u0 : P.underlying f0.type = some (.int .i64)) (u1 : P.underlying f1.type = some (.int .i64)) :
    ∀ n cs x, cs.length = 2 → DataW.trod enc P w 0 (fun _ => true) true n e cs = some x → ∃ y, IsPair cs y := by
  intro n cs x hlen h
  obtain ⟨xs, k, _, _, _, hxl, hf⟩ := DataW.trod_struct he h
  match xs, hxl, cs, hlen with
  | [y0, y1], _, [v0, v1], _ =>
    have g0 := hf 0 f0 rfl
    have g1 := hf 1 f1 rfl
    simp [o0, o1, c0, c1] at g0 g1
    obtain ⟨n0, e0, _, _⟩ := DataW.trod_int u0 g0
    obtain ⟨n1, e1, _, _⟩ := DataW.trod_int u1 g1
    simp at e0 e1
    exact ⟨(n0, n1), by rw [e0, e1]; rfl⟩
end Go.Proofs.YtfidfbgplfjakaaDoor

/- Boxes: blocks that are known whole; carried through worlds all at once. -/
namespace Go.Proofs.YtfidfbgplfjakaaDoor
open Go.RowKit

/-- Blocks, and what they hold. -/
def Boxes (w : World) (l : List (Nat × List Value)) : Prop := ∀ p ∈ l, ∃ t, w.heap[p.1]? = some (.cells p.2.toArray t (0, 0))
theorem Boxes.nil (w : World) : Boxes w [] := fun p h => by simp at h
theorem Boxes.cons {w : World} {l : List (Nat × List Value)} {b : Nat} {vs : List Value} {t : TypeId} (h : w.heap[b]? = some (.cells vs.toArray t (0, 0))) (hl : Boxes w l) : Boxes w ((b, vs) :: l) := by
  intro p hp
  rcases List.mem_cons.1 hp with rfl | hp
  · exact ⟨t, h⟩
  · exact hl p hp
theorem Boxes.below {w w' : World} {l : List (Nat × List Value)} {B : Nat} (h : Boxes w l) (hB : w.heap.size ≤ B) (hb : Below B w w') : Boxes w' l := by
  intro p hp
  obtain ⟨t, ht⟩ := h p hp
  exact ⟨t, (hb.block p.1 (Nat.lt_of_lt_of_le (Array.getElem?_eq_some_iff.1 ht).1 hB)).trans ht⟩
theorem Boxes.step {w w' : World} {l : List (Nat × List Value)} (h : Boxes w l) (hb : Below w.heap.size w w') : Boxes w' l := h.below (Nat.le_refl _) hb
theorem Boxes.set {w : World} {l : List (Nat × List Value)} (h : Boxes w l) (a : Addr) (u : Value) (hne : ∀ p ∈ l, p.1 ≠ a.block) : Boxes (w.setCell a u) l := by
  intro p hp
  obtain ⟨t, ht⟩ := h p hp
  exact ⟨t, (Below.heap_setCell w a u p.1 (hne p hp)).trans ht⟩
/-- A cell of the first block is written. -/
theorem Boxes.put {w : World} {l : List (Nat × List Value)} {b : Nat} {vs : List Value} (h : Boxes w ((b, vs) :: l)) (i : Nat) (u : Value) (hne : ∀ p ∈ l, p.1 ≠ b) : Boxes (w.setCell ⟨b, i, none⟩ u) ((b, vs.set i u) :: l) := by
  obtain ⟨t, ht⟩ := h (b, vs) (by simp)
  refine Boxes.cons (t := t) ?_ (Boxes.set (fun p hp => h p (by simp [hp])) _ _ hne)
  rw [heap_setCell_at i u ht]
  simp
theorem Boxes.grown {w w' : World} {l : List (Nat × List Value)} {row : Option Nat} (h : Boxes w l) (hg : w.grownBy w' row) (hne : ∀ p ∈ l, row ≠ some p.1) : Boxes w' l := by
  intro p hp
  obtain ⟨t, ht⟩ := h p hp
  exact ⟨t, (hg.block p.1 (Array.getElem?_eq_some_iff.1 ht).1 (fun e => hne p hp e.symm)).trans ht⟩
/-- The i-th cell of the n-th block. -/
theorem Boxes.cell {w : World} {l : List (Nat × List Value)} (h : Boxes w l) (n i : Nat) {b : Nat} {vs : List Value} {v : Value} (hn : l[n]? = some (b, vs)) (hv : vs[i]? = some v) : w.cell? ⟨b, i, none⟩ = some v := by
  obtain ⟨t, ht⟩ := h (b, vs) (List.mem_of_getElem? hn)
  simp only [World.cell?, ht]
  simpa using hv
theorem Boxes.frozen {w : World} {l : List (Nat × List Value)} (h : Boxes w l) (n i : Nat) {b : Nat} {vs : List Value} (hn : l[n]? = some (b, vs)) : w.frozen? ⟨b, i, none⟩ = false := by
  obtain ⟨t, ht⟩ := h (b, vs) (List.mem_of_getElem? hn)
  simp [World.frozen?, ht]
theorem Boxes.lt {w : World} {l : List (Nat × List Value)} (h : Boxes w l) (n : Nat) {b : Nat} {vs : List Value} (hn : l[n]? = some (b, vs)) : b < w.heap.size := by
  obtain ⟨t, ht⟩ := h (b, vs) (List.mem_of_getElem? hn)
  exact (Array.getElem?_eq_some_iff.1 ht).1
/-- A fresh block. -/
theorem Boxes.alloc {w : World} {l : List (Nat × List Value)} (h : Boxes w l) (vs : Array Value) (t : TypeId) {b : Nat} (hb : w.heap.size = b) : Boxes (w.alloc (.cells vs t)) ((b, vs.toList) :: l) := by
  subst hb
  exact Boxes.cons (t := t) (by rw [World.alloc_heap_new w (.cells vs t)]) (h.step ((Below.refl _ _).alloc (Nat.le_refl _) _))
theorem Boxes.sub {w : World} {l m : List (Nat × List Value)} (h : Boxes w l) (hm : ∀ p ∈ m, p ∈ l) : Boxes w m := fun p hp => h p (hm p hp)
theorem Boxes.drew {w : World} {l : List (Nat × List Value)} (h : Boxes w l) : Boxes w.drew l := h

theorem own_set {w : World} {base : Nat} {e : TypeId} {size : Nat} {v : Value} {n : Nat} {xs : List Value} (h : w.ownsRow base e size v n xs) (a : Addr) (u : Value) (hne : v.ownBlock ≠ some a.block) : (w.setCell a u).ownsRow base e size v n xs := by
  refine ⟨h.1, h.2.imp id fun ⟨g, cap, cur, e1, hg, hh, r⟩ => ⟨g, cap, cur, e1, hg, ?_, r⟩⟩
  rw [Below.heap_setCell w a u g (by subst e1; intro e; exact hne (by rw [← e]; rfl))]; exact hh
end Go.Proofs.YtfidfbgplfjakaaDoor

/- 'append' in the form of a run: to a row of the call's own, of bytes, and of one fresh element. -/
namespace Go.Proofs.YtfidfbgplfjakaaDoor
open Go.RowKit

/-- What an append leaves. -/
def AppOut (w : World) (base : Nat) (e : TypeId) (size : Nat) (v : Value) (n : Nat) (xs : List Value) (fresh : Nat) (v' : Value) (w' : World) : Prop :=
  w'.ownsRow base e size v' n xs ∧ w.grownBy w' v.ownBlock ∧ (v'.ownBlock = v.ownBlock ∨ v'.ownBlock = some fresh)

section
variable {P : Program}
/-- Of any row of numbers. -/
theorem run_append_row {w : World} (base : Nat) (t e : TypeId) (i : TypeInfo) (z : Value) (bytes : Nat) (ht : P.underlying t = some (.slice e)) (hi : P.info? e = some i) (hz : i.zero = some z)
    (hsize : i.size = 1) (hby : i.bytes = bytes) (hzs : z.cells.size = 1) {v : Value} {n : Nat} {xs : List Value} (hown : w.ownsRow base e 1 v n xs)
    {k : IntKind} {a : Option Addr} {m c : Nat} {l : List Int} (hrow : Row k w a m c l) (h63 : n + m ≤ maxLen) (hbytes : (n + m) * bytes ≤ 140737488355328) (hbase : base ≤ w.heap.size) :
    ∃ v' w', (Builtin.append_ #[t, t] t #[v, .slice a m c]).run P w = .ok v' w' ∧ AppOut w base e 1 v (n + m) (xs ++ l.map (Value.int k)) w.heap.size v' w' := by
  obtain ⟨h1, h2, h3, hn, h4⟩ := hrow
  cases a with
  | none =>
    have hc := hn rfl
    have hm : m = 0 := by omega
    subst hc hm
    obtain rfl : l = [] := List.eq_nil_of_length_eq_zero h1
    exact ⟨v, w, run_append_owned_none w base t t e i 1 ht hi v n xs hown, by simpa using hown, World.grownBy.refl w _, .inl rfl⟩
  | some ad =>
    obtain ⟨v', w', hr, h5, h6, _, h7⟩ := run_append_own_at (P := P) w base t t e i z 1 bytes ht hi hz hsize hby hzs (by decide) v n xs hown ad m c (l.map (Value.int k)) (by simp [h1]) (by
      intro j u hj
      simp only [List.getElem?_map, Option.map_eq_some_iff] at hj
      obtain ⟨y, hy, rfl⟩ := hj
      have hjl := (List.getElem?_eq_some_iff.1 hy).1
      rcases h4 with h4 | ⟨b, off, h5, h6, h7⟩
      · omega
      · cases h5
        have e : (⟨b, off, none⟩ : Addr).add j = ⟨b, off + j, none⟩ := by
          unfold Addr.add; split <;> simp_all
        rw [e, h7 j (by omega), hy]; rfl) (fun u hu => by obtain ⟨y, _, rfl⟩ := List.mem_map.1 hu; rfl) h63 hbytes hbase
    exact ⟨v', w', hr, h5, h6, h7⟩
/-- Of one fresh element. -/
theorem run_append_new {w : World} (base : Nat) (t e : TypeId) (i : TypeInfo) (z : Value) (size bytes : Nat) (ht : P.underlying t = some (.slice e)) (hi : P.info? e = some i) (hz : i.zero = some z)
    (hsize : i.size = size) (hby : i.bytes = bytes) (hzs : z.cells.size = size) (hsz : 0 < size) {v : Value} {n : Nat} {xs : List Value} (hown : w.ownsRow base e size v n xs)
    (cs : Array Value) (hcs : cs.size = size) (h1 : ∀ u ∈ cs.toList, u.oneCell' = true) (h63 : n + 1 ≤ maxLen) (hbytes : (n + 1) * bytes ≤ 140737488355328) (hbase : base ≤ w.heap.size) :
    ∃ v' w', (Builtin.append_ #[t, t] t #[v, .slice (some ⟨w.heap.size, 0, none⟩) 1 1]).run P (w.alloc (.cells cs e)) = .ok v' w' ∧ AppOut w base e size v (n + 1) (xs ++ cs.toList) (w.heap.size + 1) v' w' := by
  have hb : Below w.heap.size w (w.alloc (.cells cs e)) := (Below.refl _ _).alloc (Nat.le_refl _) _
  obtain ⟨v', w', hr, h5, h6, _, h7⟩ := run_append_own_at (P := P) (w.alloc (.cells cs e)) base t t e i z size bytes ht hi hz hsize hby hzs hsz v n xs (by
      refine ⟨hown.1, hown.2.imp id fun ⟨g, cap, cur, e1, hg, hh, r⟩ => ⟨g, cap, cur, e1, hg, ?_, r⟩⟩
      rw [hb.block g (Array.getElem?_eq_some_iff.1 hh).1]; exact hh) ⟨w.heap.size, 0, none⟩ 1 1 cs.toList (by simp [hcs]) (by
      intro j u hj
      have ea : (⟨w.heap.size, 0, none⟩ : Addr).add j = ⟨w.heap.size, j, none⟩ := by unfold Addr.add; split <;> simp_all
      rw [ea]
      simp only [World.cell?, World.alloc_heap_new w (.cells cs e)]
      simpa using hj) h1 h63 hbytes (by simp; omega)
  refine ⟨v', w', hr, h5, ⟨by rw [h6.os]; rfl, by rw [h6.tape]; rfl, by rw [h6.output]; rfl, Nat.le_trans (by simp) h6.size, fun k hk hne => ?_⟩, by simpa using h7⟩
  rw [h6.block k (by simp; omega) hne]
  exact hb.block k hk
/-- Of a text, to bytes. -/
theorem run_append_text {w : World} (base : Nat) (t u e : TypeId) (i : TypeInfo) (ht : P.underlying t = some (.slice e)) (hu : P.underlying u = some .string) (hi : P.info? e = some i) (hz : i.zero = some (.int .u8 0))
    (hsize : i.size = 1) (hby : i.bytes = 1) {v : Value} {n : Nat} {xs : List Value} (hown : w.ownsRow base e 1 v n xs) (d : List UInt8) (h63 : n + d.length ≤ 140737488355328) (hbase : base ≤ w.heap.size) :
    ∃ v' w', (Builtin.append_ #[t, u] t #[v, .string (strOf d)]).run P w = .ok v' w' ∧ w'.ownsRow base e 1 v' (n + d.length) (xs ++ (toI d).map (Value.int .u8)) ∧ w.grownBy w' v.ownBlock := by
  obtain ⟨v', w', h1, h2, h3, _⟩ := Lib.run_append_own_string (P := P) w base t u t e i ht hu hi hz hsize hby v n xs hown (strOf d) (by rw [strOf_size]; unfold maxLen; omega) (by rw [strOf_size]; omega) hbase
  rw [strOf_size, strCells_strOf] at h2
  exact ⟨v', w', h1, h2, h3⟩
end

/-! an append whose run is known, in a walk -/
section
variable {P : Program} {w : World}
theorem wp_append_run {o : Oper} {a : Act} {K : Act → World → Prop} {Q : Exit → Act → World → Prop} (s x : Operand) (t u : TypeId)
    (ho : o.op = .call { callee := .builtin .append, args := #[s, x], argTypes := #[t, u] }) {v y v' : Value} {w' : World} (hs : a.eval s = v) (hx : a.eval x = y)
    (hrun : (Builtin.append_ #[t, u] o.type #[v, y]).run P w = .ok v' w') (h : K (a.put o.dst v') w') : o.wp P a w K Q := by
  unfold Oper.wp execOp
  simp only [ho, resolve, invoke, builtin, Sem.run_bind, Sem.run_pure, Result.andThen_ok, List.map_toArray, List.map_cons, List.map_nil, hs, hx, hrun]
  exact h
theorem wpList_append_run {ops : Array Oper} {rest : List Oper} {o : Oper} {a : Act} {Q : Exit → Act → World → Prop} (hgd : o.guard = none) (s x : Operand) (t u : TypeId)
    (ho : o.op = .call { callee := .builtin .append, args := #[s, x], argTypes := #[t, u] }) {v y v' : Value} {w' : World} (hs : a.eval s = v) (hx : a.eval x = y)
    (hrun : (Builtin.append_ #[t, u] o.type #[v, y]).run P w = .ok v' w') (h : wpList P ops Q rest (a.put o.dst v') w') : wpList P ops Q (o :: rest) a w :=
  wpList_plain hgd fun _ hK => wp_append_run s x t u ho hs hx hrun (hK _ _ h)
theorem step_append_run {ops : Array Oper} {o : Oper} {a : Act} {K : Act → World → Prop} {Q : Exit → Act → World → Prop} {E : Prop} (hgd : o.guard = none) (s x : Operand) (t u : TypeId)
    (ho : o.op = .call { callee := .builtin .append, args := #[s, x], argTypes := #[t, u] }) {v y v' : Value} {w' : World} (hs : a.eval s = v) (hx : a.eval x = y)
    (hrun : (Builtin.append_ #[t, u] o.type #[v, y]).run P w = .ok v' w') (h : K (a.put o.dst v') w') :
    if Region.wanted o (yielded ops a.tmps) = true then Oper.wp P o a w K Q else E := by
  have hw : Region.wanted o (yielded ops a.tmps) = true := by simp [Region.wanted, hgd]
  rw [if_pos hw]
  exact wp_append_run s x t u ho hs hx hrun h
end
theorem AppOut.below {w w' : World} {base : Nat} {e : TypeId} {size : Nat} {v : Value} {n : Nat} {xs : List Value} {f : Nat} {v' : Value} (h : AppOut w base e size v n xs f v' w') {B : Nat} (hB : B ≤ w.heap.size) (hv : ∀ k, v.ownBlock = some k → B ≤ k) : Below B w w' :=
  (Below.refl B w).grown h.2.1 hB hv
end Go.Proofs.YtfidfbgplfjakaaDoor

/- Rows of records of the call's own. -/
namespace Go.Proofs.YtfidfbgplfjakaaDoor
open Go.RowKit

theorem flat_len {α β : Type} (f : α → List β) (sz : Nat) (hf : ∀ y, (f y).length = sz) : ∀ l : List α, (l.flatMap f).length = l.length * sz
  | [] => by simp
  | y :: l => by simp [List.flatMap_cons, flat_len f sz hf l, hf y, Nat.add_mul]; omega
theorem flat_get {α β : Type} (f : α → List β) (sz : Nat) (hf : ∀ y, (f y).length = sz) : ∀ (l : List α) (i : Nat) (y : α) (j : Nat) (v : β), l[i]? = some y → (f y)[j]? = some v → (l.flatMap f)[i * sz + j]? = some v
  | [], i, y, j, v, h, _ => by simp at h
  | x :: l, 0, y, j, v, h, hv => by
    cases h
    have hj := (List.getElem?_eq_some_iff.1 hv).1
    rw [List.flatMap_cons, Nat.zero_mul, Nat.zero_add, List.getElem?_append_left hj]; exact hv
  | x :: l, i + 1, y, j, v, h, hv => by
    have h' : l[i]? = some y := by simpa using h
    rw [List.flatMap_cons, List.getElem?_append_right (by rw [hf, Nat.add_mul]; omega), hf, show (i + 1) * sz + j - sz = i * sz + j by rw [Nat.add_mul]; omega]
    exact flat_get f sz hf l i y j v h' hv
/-- A row of records of the call's own reads as one. -/
theorem TabR.of_own {α : Type} {sz : Nat} {R : List Value → α → Prop} (f : α → List Value) (hf : ∀ y, (f y).length = sz) (hR : ∀ y, R (f y) y) {w : World} {base : Nat} {e : TypeId} {v : Value} {l : List α} (h : w.ownsRow base e sz v l.length (l.flatMap f)) :
    ∃ a cap, v = .slice a l.length cap ∧ TabR sz R w a l.length cap l := by
  obtain ⟨h1, h2⟩ := h
  rcases h2 with ⟨rfl, h0⟩ | ⟨g, cap, cur, rfl, hb, hg, hn, hm, hc, ht⟩
  · have : l.length = 0 := h0
    rw [h0]
    exact ⟨none, 0, rfl, by omega, Nat.le_refl _, by unfold maxLen; omega, fun _ => rfl, .inl rfl⟩
  · refine ⟨_, cap, rfl, rfl, hn, hm, (fun h => by cases h), .inr ⟨g, 0, rfl, (Array.getElem?_eq_some_iff.1 hg).1, fun i y hy => ⟨f y, hf y, hR y, fun j v hv => ?_⟩⟩⟩
    have hi := (List.getElem?_eq_some_iff.1 hy).1
    have hj : j < sz := by rw [← hf y]; exact (List.getElem?_eq_some_iff.1 hv).1
    have hx := flat_get f sz hf l i y j v hy hv
    rw [← ht] at hx
    have hlt : i * sz + j < l.length * sz := by
      have := Nat.mul_le_mul_right sz (show i + 1 ≤ l.length by omega)
      rw [Nat.add_mul] at this; omega
    rw [List.getElem?_take_of_lt hlt] at hx
    simp only [World.cell?, hg, Nat.zero_add]
    rw [← Array.getElem?_toList]; exact hx
end Go.Proofs.YtfidfbgplfjakaaDoor

/- Rows of records of the call's own: appended to by rows, written into. -/
namespace Go.Proofs.YtfidfbgplfjakaaDoor
open Go.RowKit

section
variable {P : Program}
/-- 'append' of a row of records to one of the call's own. -/
theorem run_append_tab {α : Type} {w : World} (base : Nat) (t e : TypeId) (i : TypeInfo) (z : Value) (sz bytes : Nat) (ht : P.underlying t = some (.slice e)) (hi : P.info? e = some i) (hz : i.zero = some z)
    (hsize : i.size = sz) (hby : i.bytes = bytes) (hzs : z.cells.size = sz) (hsz : 0 < sz) {v : Value} {n : Nat} {xs : List Value} (hown : w.ownsRow base e sz v n xs)
    (R : List Value → α → Prop) (f : α → List Value) (hR : ∀ cs y, R cs y → cs = f y) (hf : ∀ y, (f y).length = sz) (h1 : ∀ y, ∀ u ∈ f y, u.oneCell' = true)
    {a : Option Addr} {m c : Nat} {l : List α} (hrow : TabR sz R w a m c l) (h63 : n + m ≤ maxLen) (hbytes : (n + m) * bytes ≤ 140737488355328) (hbase : base ≤ w.heap.size) :
    ∃ v' w', (Builtin.append_ #[t, t] t #[v, .slice a m c]).run P w = .ok v' w' ∧ AppOut w base e sz v (n + m) (xs ++ l.flatMap f) w.heap.size v' w' := by
  obtain ⟨g1, g2, g3, hn, g4⟩ := hrow
  cases a with
  | none =>
    have hc := hn rfl
    have hm : m = 0 := by omega
    subst hc hm
    obtain rfl : l = [] := List.eq_nil_of_length_eq_zero g1
    exact ⟨v, w, run_append_owned_none w base t t e i sz ht hi v n xs hown, by simpa using hown, World.grownBy.refl w _, .inl rfl⟩
  | some ad =>
    have hlen := flat_len f sz hf l
    obtain ⟨v', w', hr, h5, h6, _, h7⟩ := run_append_own_at (P := P) w base t t e i z sz bytes ht hi hz hsize hby hzs hsz v n xs hown ad m c (l.flatMap f) (by rw [hlen, g1]) (by
      intro j u hj
      have hjl := (List.getElem?_eq_some_iff.1 hj).1
      rw [hlen] at hjl
      rcases g4 with g4 | ⟨b, off, h5, h6, h7⟩
      · rw [g1, g4] at hjl; omega
      · cases h5
        have ea : (⟨b, off, none⟩ : Addr).add j = ⟨b, off + j, none⟩ := by
          unfold Addr.add; split <;> simp_all
        have hq : j / sz < l.length := Nat.div_lt_of_lt_mul (by rw [Nat.mul_comm]; exact hjl)
        obtain ⟨y, hy⟩ : ∃ y, l[j / sz]? = some y := ⟨_, List.getElem?_eq_getElem hq⟩
        obtain ⟨cs, c1, c2, c3⟩ := h7 _ y hy
        have hcs := hR _ _ c2
        subst hcs
        have hm : j % sz < sz := Nat.mod_lt _ hsz
        obtain ⟨u', hu'⟩ : ∃ u', (f y)[j % sz]? = some u' := ⟨_, List.getElem?_eq_getElem (by rw [hf]; exact hm)⟩
        have hx := flat_get f sz hf l _ y _ u' hy hu'
        have hdm : j / sz * sz + j % sz = j := by rw [Nat.mul_comm]; exact Nat.div_add_mod j sz
        rw [hdm, hj] at hx
        cases hx
        rw [ea]
        have := c3 _ u hu'
        rwa [Nat.add_assoc, hdm] at this) (fun u hu => by
          obtain ⟨y, _, hy⟩ := List.mem_flatMap.1 hu
          exact h1 y u hy) h63 hbytes hbase
    exact ⟨v', w', hr, h5, h6, h7⟩
end

/-- A cell of a row of the call's own is written. -/
theorem own_put {w : World} {base : Nat} {e : TypeId} {size : Nat} {g n cap : Nat} {xs : List Value} (h : w.ownsRow base e size (.slice (some ⟨g, 0, none⟩) n cap) n xs) (j : Nat) (u : Value) (_hj : j < n * size) :
    (w.setCell ⟨g, j, none⟩ u).ownsRow base e size (.slice (some ⟨g, 0, none⟩) n cap) n (xs.set j u) := by
  obtain ⟨h1, h2⟩ := h
  refine ⟨by rw [List.length_set]; exact h1, .inr ?_⟩
  rcases h2 with ⟨hv, _⟩ | ⟨g', cap', cur, hv, hb, hg, hn, hm, hc, ht⟩
  · cases hv
  · cases hv
    refine ⟨g, cap, cur.setIfInBounds j u, rfl, hb, heap_setCell_at j u hg, hn, hm, by simpa using hc, ?_⟩
    rw [← ht, Array.toList_setIfInBounds, List.take_set]
theorem flat_parts {α β : Type} (f : α → List β) (sz : Nat) (hf : ∀ y, (f y).length = sz) {l : List α} {k : Nat} {x : α} (h : l[k]? = some x) :
    ∃ p s, p.length = k * sz ∧ l.flatMap f = p ++ (f x ++ s) ∧ ∀ y, (l.set k y).flatMap f = p ++ (f y ++ s) := by
  have hk := (List.getElem?_eq_some_iff.1 h).1
  have hl : l = l.take k ++ x :: l.drop (k + 1) := by
    have hx := (List.getElem?_eq_some_iff.1 h).2
    rw [← hx]; simp
  refine ⟨(l.take k).flatMap f, (l.drop (k + 1)).flatMap f, by rw [flat_len f sz hf, List.length_take, Nat.min_eq_left (by omega)], ?_, fun y => ?_⟩
  · conv => lhs; rw [hl]
    rw [List.flatMap_append, List.flatMap_cons]
  · rw [List.set_eq_take_append_cons_drop, if_pos hk, List.flatMap_append, List.flatMap_cons]
theorem set_five {β : Type} {p s : List β} {n : Nat} (hp : p.length = n) (a0 a1 a2 a3 a4 b0 b1 b2 b3 b4 : β) :
    (((((p ++ ([a0, a1, a2, a3, a4] ++ s)).set n b0).set (n + 1) b1).set (n + 2) b2).set (n + 3) b3).set (n + 4) b4 = p ++ ([b0, b1, b2, b3, b4] ++ s) := by
  subst hp
  simp
end Go.Proofs.YtfidfbgplfjakaaDoor

/- Wide values: structs and rows of symbolic cells, built. -/
namespace Go.Proofs.YtfidfbgplfjakaaDoor
open Go.RowKit

theorem fold_put (off : Nat) : ∀ (vs : List Value) (j : Nat) (cs : Array Value) (p m s : List Value), cs.toList = p ++ (m ++ s) → p.length = off + j → m.length = vs.length →
    ((vs.zipIdx j).foldl (fun (cs : Array Value) (x : Value × Nat) => cs.setIfInBounds (off + x.2) x.1) cs).toList = p ++ (vs ++ s)
  | [], j, cs, p, m, s, h, _, hm => by
    obtain rfl : m = [] := List.eq_nil_of_length_eq_zero (by simpa using hm)
    simpa using h
  | v :: vs, j, cs, p, m, s, h, hp, hm => by
    match m, hm with
    | c :: m, hm =>
      simp only [List.zipIdx_cons, List.foldl_cons]
      have ih := fold_put off vs (j + 1) (cs.setIfInBounds (off + j) v) (p ++ [v]) m s (by
        rw [Array.toList_setIfInBounds, h, List.set_append_right _ _ (by omega), hp, Nat.sub_self]
        simp) (by simp; omega) (by simpa using hm)
      rw [ih]
      simp
theorem fold_put' (off : Nat) (vs : Array Value) (cs : Array Value) (p m s : List Value) (h : cs.toList = p ++ (m ++ s)) (hp : p.length = off) (hm : m.length = vs.size) :
    vs.zipIdx.foldl (fun (cs : Array Value) (x : Value × Nat) => cs.setIfInBounds (off + x.2) x.1) cs = (p ++ (vs.toList ++ s)).toArray := by
  have := fold_put off vs.toList 0 cs p m s h hp (by simpa using hm)
  rw [← this, ← Array.foldl_toList, Array.toList_zipIdx]
/-- A struct of two fields out of both. -/
theorem fill_two (s0 s1 : Nat) (zero : Array Value) (x y : Value) (hz : zero.size = s0 + s1) (hx : x.cells.size = s0) (hy : y.cells.size = s1) (place : Nat → Option (Nat × Nat)) (p0 : place 0 = some (0, s0)) (p1 : place 1 = some (s0, s1)) :
    Instr.fill place zero [(0, x), (1, y)] = some (x.cells ++ y.cells) := by
  have e0 := fold_put' 0 x.cells zero [] (zero.toList.take s0) (zero.toList.drop s0) (by simp) rfl (by simp; omega)
  have e1 := fold_put' s0 y.cells (([] : List Value) ++ (x.cells.toList ++ zero.toList.drop s0)).toArray x.cells.toList (zero.toList.drop s0) [] (by simp) (by simpa using hx) (by simp; omega)
  simp only [Nat.zero_add] at e0
  simp only [Instr.fill, p0, p1]
  rw [if_neg (by simp; omega)]
  simp only [Nat.zero_add, e0]
  rw [if_neg (by simp [List.size_toArray]; omega)]
  rw [e1]
  simp only [List.append_nil]
  congr 1
  apply Array.ext'
  simp
/-- A row of one element out of it. -/
theorem fill_one (s0 : Nat) (zero : Array Value) (x : Value) (hz : zero.size = s0) (hx : x.cells.size = s0) (place : Nat → Option (Nat × Nat)) (p0 : place 0 = some (0, s0)) :
    Instr.fill place zero [(0, x)] = some x.cells := by
  have e0 := fold_put' 0 x.cells zero [] zero.toList [] (by simp) rfl (by simp; omega)
  simp only [Nat.zero_add] at e0
  simp only [Instr.fill, p0]
  rw [if_neg (by simp; omega)]
  simp only [Nat.zero_add, e0]
  simp
section
variable {P : Program} {w : World}
theorem run_build_two {t : TypeId} {f0 f1 : Field} {it : TypeInfo} {z : Value} {i0 i1 : TypeInfo} (hu : P.underlying t = some (.struct #[f0, f1])) (hit : P.info? t = some it) (hz : it.zero = some z)
    (h0 : P.info? f0.type = some i0) (h1 : P.info? f1.type = some i1) (o0 : f0.offset = 0) (o1 : f1.offset = i0.size) (hzs : z.cells.size = i0.size + i1.size) (x y : Value) (hx : x.cells.size = i0.size) (hy : y.cells.size = i1.size) :
    (Instr.build t #[(0, x), (1, y)]).run P w = .ok (.agg (x.cells ++ y.cells)) w := by
  refine run_build w t _ _ ?_
  unfold Program.built
  simp only [hit, hu, hz, List.mapM_cons, List.mapM_nil, h0, h1, Option.map_some, o0, o1]
  exact fill_two i0.size i1.size z.cells x y hzs hx hy _ rfl rfl
theorem run_buildSlice_one {t e : TypeId} {ie : TypeInfo} {z : Value} (hu : P.underlying t = some (.slice e)) (hie : P.info? e = some ie) (hz : ie.zero = some z) (_hzs : z.cells.size = ie.size) (hpos : 0 < ie.size) (hsmall : ie.size ≤ 16777216)
    (x : Value) (hx : x.cells.size = ie.size) : (Instr.buildSlice t 1 #[(0, x)]).run P w = .ok (.slice (some ⟨w.heap.size, 0, none⟩) 1 1) (w.alloc (.cells x.cells e)) := by
  refine run_buildSlice w t e 1 _ _ ie z hu hie hz (by omega) (by omega) ?_
  exact fill_one ie.size _ x (by simp) hx _ (by simp)
end
end Go.Proofs.YtfidfbgplfjakaaDoor

/- Pages: rows of 128 bytes as values; a map of pages. -/
namespace Go.Proofs.YtfidfbgplfjakaaDoor
open Go.RowKit Go.Maps

/-- The cells of bytes. -/
def pcells (l : List UInt8) : List Value := (toI l).map (Value.int .u8)
theorem pcells_length (l : List UInt8) : (pcells l).length = l.length := by simp [pcells, toI]
theorem pcells_one (l : List UInt8) : ∀ v ∈ pcells l, v.oneCell' = true := fun v hv => by
  obtain ⟨n, _, rfl⟩ := List.mem_map.1 hv; rfl
theorem pcells_inj {l m : List UInt8} (h : pcells l = pcells m) : l = m := by
  have key : ∀ l : List UInt8, (pcells l).map (fun v => match v with | .int _ n => UInt8.ofNat n.toNat | _ => 0) = l := by
    intro l
    simp only [pcells, toI, List.map_map]
    conv => rhs; rw [← List.map_id l]
    apply List.map_congr_left
    intro x _
    simp
  rw [← key l, h, key m]
def pv (l : List UInt8) : Value := .agg (pcells l).toArray
theorem pv_inj {l m : List UInt8} (h : pv l = pv m) : l = m := by
  simp only [pv, Value.agg.injEq] at h
  exact pcells_inj (by simpa using congrArg Array.toList h)
/-- A page's bytes. -/
abbrev P128 := { l : List UInt8 // l.length = 128 }
def zpage : P128 := ⟨List.replicate 128 0, by simp⟩
instance : Inhabited P128 := ⟨zpage⟩
def toP (b : List UInt8) : P128 := if h : b.length = 128 then ⟨b, h⟩ else zpage
theorem toP_val {b : List UInt8} (h : b.length = 128) : (toP b).1 = b := by rw [toP, dif_pos h]
theorem toP_self (p : P128) : toP p.1 = p := by rw [toP, dif_pos p.2]

open Classical in
/-- How a page reads. -/
noncomputable def pageR (v : Value) : Option (DataW Unit × List MemPlace) :=
  if h : ∃ l : List UInt8, l.length = 128 ∧ v = pv l then some (.lit (.string (Classical.choose h)), []) else none
theorem pageR_mk (l : List UInt8) (h : l.length = 128) : pageR (pv l) = some (.lit (.string l), []) := by
  have hx : ∃ m : List UInt8, m.length = 128 ∧ pv l = pv m := ⟨l, h, rfl⟩
  unfold pageR
  rw [dif_pos hx, ← pv_inj (Classical.choose_spec hx).2]
theorem pageR_inv {v : Value} {d : DataW Unit} {ps : List MemPlace} (h : pageR v = some (d, ps)) : ∃ l : List UInt8, l.length = 128 ∧ v = pv l ∧ d = .lit (.string l) := by
  unfold pageR at h
  split at h
  · rename_i hx
    obtain ⟨h1, h2⟩ := Classical.choose_spec hx
    simp only [Option.some.injEq, Prod.mk.injEq] at h
    exact ⟨_, h1, h2, h.1.symm⟩
  · cases h

/-- A map of pages: what stands at each number; noughts, where nothing does. -/
def PgMap (w : World) (mb n : Nat) (f : Nat → P128) : Prop :=
  ∃ D : DataW Unit, w.ownsMap Tryd.prog 3 pageR mb n D ∧ IsMap D ∧ ∀ p : Nat, D.atKey (.int .i64 (p : Int)) (.lit (.string zpage.1)) = .lit (.string (f p).1)
theorem int_key : Keyed Tryd.prog 3 := int_keyed Tryd.underlying3
theorem key_int (p : Nat) (h : p ≤ 9223372036854775807) : keyOf Tryd.prog 3 (.int .i64 (p : Int)) = some (.int .i64 (p : Int)) :=
  keyOf_int_mk Tryd.underlying3 (by simp [Lit.wf, IntKind.min, IntKind.max, IntKind.signed, IntKind.bits]; omega)
theorem PgMap.made (w : World) : PgMap (w.alloc (.map #[] 0)) w.heap.size 0 (fun _ => zpage) :=
  ⟨.map [], World.ownsMap_made _ _ _ _, isMap_empty, fun _ => rfl⟩
theorem PgMap.lt {w : World} {mb n : Nat} {f : Nat → P128} (h : PgMap w mb n f) : mb < w.heap.size := by
  obtain ⟨D, h1, _⟩ := h; exact h1.lt
theorem PgMap.kept {w w' : World} {mb n : Nat} {f : Nat → P128} (h : PgMap w mb n f) (hb : w'.heap[mb]? = w.heap[mb]?) : PgMap w' mb n f := by
  obtain ⟨D, ⟨es, c, h1, h2⟩, h3⟩ := h
  exact ⟨D, ⟨es, c, hb.trans h1, h2⟩, h3⟩
theorem zero_page (w : World) : (zeroValue 92).run Tryd.prog w = .ok (pv zpage.1) w := by kernel_rfl
theorem PgMap.lookup {w : World} {mb n : Nat} {f : Nat → P128} (h : PgMap w mb n f) (p : Nat) (hp : p ≤ 9223372036854775807) :
    (Instr.lookup 81 (.map (some mb)) (.int .i64 (p : Int)) false).run Tryd.prog w = .ok (pv (f p).1) w := by
  obtain ⟨D, h1, _, h3⟩ := h
  obtain ⟨v, ps, hr, hv⟩ := h1.lookup int_key Tryd.underlying81 (zero_page w) (pageR_mk zpage.1 zpage.2) (key_int p hp)
  rw [h3] at hv
  obtain ⟨l, _, rfl, hd⟩ := pageR_inv hv
  simp only [DataW.lit.injEq, Lit.string.injEq] at hd
  rw [hr, hd]
theorem PgMap.update {w : World} {mb n : Nat} {f : Nat → P128} (h : PgMap w mb n f) (p : Nat) (hp : p ≤ 9223372036854775807) (l : P128) (hn : n ≤ 1000000) :
    ∃ w', (Instr.mapUpdate 81 (.map (some mb)) (.int .i64 (p : Int)) (pv l.1)).run Tryd.prog w = .ok () w' ∧ PgMap w' mb (n + 1) (fun q => if q = p then l else f q) ∧ w.grownBy w' (some mb) := by
  obtain ⟨D, h1, h2, h3⟩ := h
  obtain ⟨w', hr, ho, hg⟩ := h1.update int_key Tryd.underlying81 (by unfold maxLen; omega) (key_int p hp) (pageR_mk l.1 l.2)
  refine ⟨w', hr, ⟨_, ho, h2.put _ _, fun q => ?_⟩, hg⟩
  dsimp only
  by_cases hq : q = p
  · subst hq
    rw [atKey_put_same h2 (int_key.key (key_int q hp)), if_pos rfl]
  · rw [atKey_put_other (by simp; omega), h3, if_neg hq]
end Go.Proofs.YtfidfbgplfjakaaDoor

/- A disk that forgets: plain laws. -/
namespace Go.Proofs.YtfidfbgplfjakaaDoor

/-- A region. -/
structure Rg where
  size : Nat
  pages : Nat → P128
  loose : List (Nat × P128)
  left : Int
  down : Bool
def Rg.new (n : Nat) : Rg := ⟨n, fun _ => zpage, [], -1, false⟩
instance : Inhabited Rg := ⟨Rg.new 0⟩
/-- What may not be asked of a region. -/
def upE (d : List Rg) (r : Int) : Int :=
  if 0 ≤ r ∧ r < d.length then (if (d[r.toNat]?.getD default).down then 3 else 0) else 2
def atR (d : List Rg) (r : Int) : Rg := d[r.toNat]?.getD default
def pagedE (d : List Rg) (r p : Int) : Int :=
  if upE d r = 0 then (if 0 ≤ p ∧ p < (atR d r).size then 0 else 2) else upE d r
/-- A call that counts. -/
def cntE (x : Rg) : Int := if x.left = 0 then 3 else 0
def cntR (x : Rg) : Rg := if x.left = 0 then { x with down := true } else if 0 < x.left then { x with left := x.left - 1 } else x
/-- A page as it was written last. -/
def lastW (p : Nat) (b : P128) (l : List (Nat × P128)) : P128 := l.foldl (fun b w => if w.1 = p then w.2 else b) b
def seen (x : Rg) (p : Nat) : P128 := lastW p (x.pages p) x.loose
def readB (d : List Rg) (r p : Int) : List UInt8 := if pagedE d r p = 0 then (seen (atR d r) p.toNat).1 else []
def writeE (d : List Rg) (r p : Int) (b : List UInt8) : Int :=
  if pagedE d r p = 0 then (if b.length = 128 then cntE (atR d r) else 1) else pagedE d r p
def wroteR (x : Rg) (p : Nat) (b : P128) : Rg := if cntE x = 0 then { cntR x with loose := x.loose ++ [(p, b)] } else cntR x
def writeD (d : List Rg) (r p : Int) (b : List UInt8) : List Rg :=
  if pagedE d r p = 0 ∧ b.length = 128 then d.set r.toNat (wroteR (atR d r) p.toNat (toP b)) else d
/-- Pages behind some writes. -/
def laid (keep : Nat → Bool) : Nat → List (Nat × P128) → (Nat → P128) → Nat → P128
  | _, [], f => f
  | i, w :: l, f => laid keep (i + 1) l (if keep i then fun q => if q = w.1 then w.2 else f q else f)
def settled (x : Rg) (keep : Nat → Bool) : Rg := { x with pages := laid keep 0 x.loose x.pages, loose := [] }
def syncE (d : List Rg) (r : Int) : Int := if upE d r = 0 then cntE (atR d r) else upE d r
def syncR (x : Rg) : Rg := if cntE x = 0 then settled (cntR x) (fun _ => true) else cntR x
def syncD (d : List Rg) (r : Int) : List Rg := if upE d r = 0 then d.set r.toNat (syncR (atR d r)) else d
def looseL (d : List Rg) (r : Int) : List Nat := if 0 ≤ r ∧ r < d.length then (atR d r).loose.map (·.1) else []
def stopD (d : List Rg) (r after : Int) : List Rg := if 0 ≤ r ∧ r < d.length then d.set r.toNat { atR d r with left := max after (-1) } else d
def downB (d : List Rg) (r : Int) : Bool := if 0 ≤ r ∧ r < d.length then (atR d r).down else false
def sizeL (d : List Rg) (r : Int) : Nat := if 0 ≤ r ∧ r < d.length then (atR d r).size else 0
/-- Is a bit 1? -/
def bitB (s : List UInt8) (i : Nat) : Bool := match s[i / 8]? with | some c => c.toNat / 2 ^ (i % 8) % 2 == 1 | none => false
def keepB (keep : List (List UInt8)) (r i : Nat) : Bool := match keep[r]? with | some s => bitB s i | none => false
def crashR (x : Rg) (keep : Nat → Bool) : Rg := { settled x keep with left := -1, down := false }
def crashD (d : List Rg) (keep : List (List UInt8)) : List Rg := d.mapIdx fun r x => crashR x (keepB keep r)

theorem lastW_snoc (p : Nat) (b : P128) (l : List (Nat × P128)) (w : Nat × P128) : lastW p b (l ++ [w]) = if w.1 = p then w.2 else lastW p b l := by
  simp [lastW]
theorem laid_snoc (keep : Nat → Bool) (i : Nat) (l : List (Nat × P128)) (w : Nat × P128) (f : Nat → P128) :
    laid keep i (l ++ [w]) f = if keep (i + l.length) then (fun q => if q = w.1 then w.2 else laid keep i l f q) else laid keep i l f := by
  induction l generalizing i f with
  | nil => simp [laid]
  | cons x l ih =>
    simp only [List.cons_append, laid, ih, List.length_cons]
    rw [show i + 1 + l.length = i + (l.length + 1) by omega]
end Go.Proofs.YtfidfbgplfjakaaDoor

/- Blocks known whole, and single cells, held together through a region. -/
namespace Go.Proofs.YtfidfbgplfjakaaDoor
open Go.RowKit

def Held (l : List (Nat × List Value)) (c : List (Addr × Value)) (W : World) : Prop := Boxes W l ∧ ∀ p ∈ c, W.cell? p.1 = some p.2
theorem Held.mk {l : List (Nat × List Value)} {c : List (Addr × Value)} {W : World} (h : Boxes W l) (hc : ∀ p ∈ c, W.cell? p.1 = some p.2) : Held l c W := ⟨h, hc⟩
theorem Held.below {l : List (Nat × List Value)} {c : List (Addr × Value)} {W W' : World} (h : Held l c W) (hb : Below W.heap.size W W') : Held l c W' :=
  ⟨h.1.step hb, fun p hp => (hb.cell (World.block_lt_of_cell? W p.1 (h.2 p hp))).trans (h.2 p hp)⟩
theorem Held.alloc {l : List (Nat × List Value)} {c : List (Addr × Value)} {W : World} (h : Held l c W) (o : Obj) : Held l c (W.alloc o) := h.below ((Below.refl _ _).alloc (Nat.le_refl _) o)
theorem Held.drew {l : List (Nat × List Value)} {c : List (Addr × Value)} {W : World} (h : Held l c W) : Held l c W.drew := h
theorem Held.grown {l : List (Nat × List Value)} {c : List (Addr × Value)} {W W' : World} {row : Option Nat} (h : Held l c W) (hg : W.grownBy W' row) (hne : ∀ p ∈ l, row ≠ some p.1) (hnc : ∀ p ∈ c, row ≠ some p.1.block) : Held l c W' :=
  ⟨h.1.grown hg hne, fun p hp => (World.cell?_of_block (hg.block p.1.block (World.block_lt_of_cell? W p.1 (h.2 p hp)) (fun e => hnc p hp e.symm))).trans (h.2 p hp)⟩
theorem Held.set {l : List (Nat × List Value)} {c : List (Addr × Value)} {W : World} (h : Held l c W) (a : Addr) (u : Value) (hne : ∀ p ∈ l, p.1 ≠ a.block) (hnc : ∀ p ∈ c, p.1.block ≠ a.block) : Held l c (W.setCell a u) :=
  ⟨h.1.set a u hne, fun p hp => (World.cell?_setCell_far W a p.1 u (fun e => hnc p hp e.symm)).trans (h.2 p hp)⟩
theorem Held.box {l : List (Nat × List Value)} {c : List (Addr × Value)} {W : World} (h : Held l c W) (n i : Nat) {b : Nat} {vs : List Value} {v : Value} (hn : l[n]? = some (b, vs)) (hv : vs[i]? = some v) : W.cell? ⟨b, i, none⟩ = some v := h.1.cell n i hn hv
theorem Held.cell {l : List (Nat × List Value)} {c : List (Addr × Value)} {W : World} (h : Held l c W) (n : Nat) {a : Addr} {v : Value} (hn : c[n]? = some (a, v)) : W.cell? a = some v := h.2 (a, v) (List.mem_of_getElem? hn)
end Go.Proofs.YtfidfbgplfjakaaDoor
