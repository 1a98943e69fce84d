/- Texts that other texts of this claim lean on, one behind the other. -/
import Derived.Test.YtopnfpobbemfbaaDoorRows
import Derived.WalkKit
import Derived.WalkSpells
import Derived.WalkLawsBesides
import Derived.Lib.Hide
import Derived.RangeFuncRecord
import Derived.Deep.QuietTactic
import Derived.BigQuiet
import Derived.Laws.AppendOwn
import Derived.Laws.AppendOwnNone
import Derived.Laws.BytesArg
import Derived.Laws.MakeOwn
import Derived.Laws.BitsAllLaws
import Derived.Lib.AppendStr
import Derived.Lib.BufferRead
import Derived.Laws.CopyOwn
/- Words shared by the walks: what a slice of numbers reads as; worlds that only grew. -/
namespace Go.Proofs.YtopnfpobbemfbaaDoor
open Go.RowKit

/-- A slice value of so many numbers of a kind: it leads to the cells that hold them. -/
def Row (k : IntKind) (w : World) (a : Option Addr) (len cap : Nat) (l : List Int) : Prop :=
  l.length = len ∧ len ≤ cap ∧ cap ≤ maxLen ∧ (a = none → cap = 0) ∧ (len = 0 ∨ ∃ b off, a = some ⟨b, off, none⟩ ∧ b < w.heap.size ∧
    ∀ i, i < len → w.cell? ⟨b, off + i, none⟩ = some (.int k (l[i]?.getD 0)))

/-- What the row's frame tells of a slice that came in gives a row of its elements. -/
theorem Row.of_frame {k : IntKind} {w : World} {a : Option Addr} {len cap : Nat} {zs : List Int}
    (h : (a = none ∧ len = 0 ∧ cap = 0 ∧ zs = []) ∨ ∃ x, a = some x ∧ len ≤ cap ∧ cap ≤ maxLen ∧ zs.length = cap ∧ (∀ i, i < zs.length → w.cell? (x.add i) = some (.int k (zs.getD i 0))) ∧ ∀ n ∈ zs, (Lit.int k n).wf = true) :
    Row k w a len cap (zs.take len) ∧ ∀ n ∈ zs.take len, (Lit.int k n).wf = true := by
  rcases h with ⟨rfl, rfl, rfl, rfl⟩ | ⟨x, rfl, hl, hm, hz, hc, hw⟩
  · exact ⟨⟨rfl, Nat.le_refl _, by unfold maxLen; omega, fun _ => rfl, .inl rfl⟩, fun n hn => by simp at hn⟩
  · refine ⟨⟨by simp; omega, hl, hm, (fun h => by cases h), ?_⟩, fun n hn => hw n (List.mem_of_mem_take hn)⟩
    by_cases h0 : len = 0
    · exact .inl h0
    · obtain ⟨b, off, spot⟩ := x
      have h1 := hc 0 (by omega)
      have hspot : spot = none := by simpa [Addr.add] using World.cell?_spot h1
      subst hspot
      refine .inr ⟨b, off, rfl, ?_, fun i hi => ?_⟩
      · simp only [Addr.add, World.cell?] at h1
        by_cases hb : b < w.heap.size
        · exact hb
        · rw [Array.getElem?_eq_none (by simp; omega)] at h1
          simp at h1
      · have := hc i (by omega)
        have e : (⟨b, off, none⟩ : Addr).add i = ⟨b, off + i, none⟩ := by simp [Addr.add]
        rw [e] at this
        rw [this, List.getElem?_take_of_lt hi, List.getD_eq_getElem?_getD]

theorem Row.below {k : IntKind} {w w' : World} {a : Option Addr} {len cap : Nat} {l : List Int} {B : Nat} (hB : w.heap.size ≤ B) (hb : Below B w w') (h : Row k w a len cap l) : Row k w' a len cap l := by
  obtain ⟨h1, h2, h3, hn, h4⟩ := h
  refine ⟨h1, h2, h3, hn, ?_⟩
  rcases h4 with h4 | ⟨b, off, h5, h6, h7⟩
  · exact .inl h4
  · exact .inr ⟨b, off, h5, by have := hb.size; omega, fun i hi => (hb.cell (p := ⟨b, off + i, none⟩) (by simp; omega)).trans (h7 i hi)⟩

theorem Row.take {k : IntKind} {w : World} {a : Option Addr} {len cap : Nat} {l : List Int} (j : Nat) (hj : j ≤ len) (h : Row k w a len cap l) : Row k w a j cap (l.take j) := by
  obtain ⟨h1, h2, h3, hn, h4⟩ := h
  refine ⟨by simp; omega, by omega, h3, hn, ?_⟩
  rcases h4 with h4 | ⟨b, off, h5, h6, h7⟩
  · exact .inl (by omega)
  · exact .inr ⟨b, off, h5, h6, fun i hi => by rw [h7 i (by omega)]; simp [hi]⟩

/-- The address at which the rest of a slice begins, under one name, and the run of the slice expression. -/
theorem slice_from {P : Program} {T : TypeId} (hT : P.underlying T = some (.slice (P.elem T))) {z : Nat} (hz : ∀ w, (sizeOf (P.elem T)).run P w = .ok z w) (a : Option Addr) (len cap j : Nat) (hj : j ≤ len) :
    ∃ a2, a2 = (if cap = j then a else a.map (·.add (j * z))) ∧ ∀ (k : IntKind) w, (Instr.slice T (.slice a len cap) (some (.int k j)) none none).run P w = .ok (.slice a2 (len - j) (cap - j)) w := by
  refine ⟨_, rfl, fun k w => ?_⟩
  rw [run_slice_l w T a len cap hT k j (by omega) (by omega), hz]
  rfl

theorem Row.drop {k : IntKind} {w : World} {a : Option Addr} {len cap : Nat} {l : List Int} (j : Nat) (hj : j ≤ len) (h : Row k w a len cap l) :
    Row k w (if cap = j then a else a.map (·.add (j * 1))) (len - j) (cap - j) (l.drop j) := by
  obtain ⟨h1, h2, h3, hn, h4⟩ := h
  refine ⟨by simp; omega, by omega, by omega, (fun h => by
    have : cap = 0 := by
      by_cases e : cap = j
      · rw [if_pos e] at h; exact hn h
      · rw [if_neg e] at h; exact hn (by simpa using h)
    omega), ?_⟩
  rcases h4 with h4 | ⟨b, off, rfl, h6, h7⟩
  · exact .inl (by omega)
  · by_cases e : cap = j
    · exact .inl (by omega)
    · exact .inr ⟨b, off + j, by simp [e, Addr.add], h6, fun i hi => by rw [Nat.add_assoc, h7 (j + i) (by omega)]; simp⟩

theorem Row.made (k : IntKind) (W : World) (t : TypeId) (l : List Int) {b : Nat} (hb : W.heap.size = b) (h : l.length ≤ maxLen) :
    Row k (W.alloc (.cells (l.map (Value.int k)).toArray t)) (some ⟨b, 0, none⟩) l.length l.length l := by
  subst hb
  refine ⟨rfl, Nat.le_refl _, h, (fun h => by cases h), .inr ⟨_, _, rfl, by simp, fun i hi => ?_⟩⟩
  have := World.alloc_heap_new W (.cells (l.map (Value.int k)).toArray t)
  simp only [World.cell?, this]
  simp [hi]

/-- A fresh block of the call's own, and what a callee did above it, leave what was there as it was. -/
theorem below_alloc {w w1 w2 : World} {o : Obj} (h0 : Below w.heap.size w w1) (h : Below (w1.alloc o).heap.size (w1.alloc o) w2) : Below w.heap.size w w2 :=
  (h0.alloc h0.size o).trans (h.mono (by have := h0.size; simp; omega))

/-- A row of the call's own reads as a row. -/
theorem Row.of_own {k : IntKind} {w : World} {base : Nat} {e : TypeId} {v : Value} {n : Nat} {l : List Int} (h : w.ownsRow base e 1 v n (l.map (Value.int k))) :
    ∃ a cap, v = .slice a n cap ∧ Row k w a n cap l := by
  obtain ⟨h1, h2⟩ := h
  simp only [List.length_map, Nat.mul_one] at h1
  rcases h2 with ⟨rfl, rfl⟩ | ⟨g, cap, cur, rfl, hb, hg, hn, hm, hc, ht⟩
  · exact ⟨none, 0, rfl, h1, Nat.le_refl _, by unfold maxLen; omega, fun _ => rfl, .inl rfl⟩
  · refine ⟨_, cap, rfl, h1, hn, hm, (fun h => by cases h), .inr ⟨g, 0, rfl, (Array.getElem?_eq_some_iff.1 hg).1, fun i hi => ?_⟩⟩
    simp only [World.cell?, hg, Nat.zero_add]
    have e : (cur.toList.take (n * 1))[i]? = cur.toList[i]? := List.getElem?_take_of_lt (by omega)
    rw [ht] at e
    rw [← Array.getElem?_toList, ← e]
    simp [show i < l.length by omega]

/-- A fresh row is the call's own. -/
theorem own_made (k : IntKind) (W : World) (t : TypeId) (l : List Int) {b : Nat} (hb : W.heap.size = b) {base : Nat} (hbase : base ≤ b) (h : l.length ≤ maxLen) :
    (W.alloc (.cells (l.map (Value.int k)).toArray t)).ownsRow base t 1 (.slice (some ⟨b, 0, none⟩) l.length l.length) l.length (l.map (Value.int k)) := by
  subst hb
  exact ⟨by simp, .inr ⟨_, _, _, rfl, hbase, World.alloc_heap_new W _, Nat.le_refl _, h, by simp, List.take_of_length_le (by simp)⟩⟩

/-- A row of the call's own lies where the call's own blocks lie. -/
theorem own_ge {w : World} {base : Nat} {e : TypeId} {size : Nat} {v : Value} {n : Nat} {xs : List Value} (h : w.ownsRow base e size v n xs) : ∀ k, v.ownBlock = some k → base ≤ k := by
  intro k hk
  rcases h.2 with ⟨rfl, rfl⟩ | ⟨g, cap, cur, rfl, hb, _⟩
  · cases hk
  · cases hk; exact hb

/-- 'append' to a row of the call's own, of what any row of numbers holds. -/
theorem wpList_append_row {P : Program} {w : World} {ops : Array Oper} {rest : List Oper} {o : Oper} {act : Act} {Q : Exit → Act → World → Prop} (hgd : o.guard = none) (s x : Operand) (t : TypeId)
    (ho : o.op = .call { callee := .builtin .append, args := #[s, x], argTypes := #[t, t] })
    (base : Nat) (e : TypeId) (i : TypeInfo) (z : Value) (bytes : Nat) (ht : P.underlying t = some (.slice e)) (hi : P.info? e = some i) (hz : i.zero = some z)
    (hsize : i.size = 1) (hby : i.bytes = bytes) (hzs : z.cells.size = 1)
    (v : Value) (n : Nat) (xs : List Value) (hs : act.eval s = v) (hown : w.ownsRow base e 1 v n xs)
    (k : IntKind) (a : Option Addr) (m c : Nat) (l : List Int) (hx : act.eval x = .slice a m c) (hrow : Row k w a m c l)
    (h63 : n + m ≤ maxLen) (hbytes : (n + m) * bytes ≤ 140737488355328) (hbase : base ≤ w.heap.size)
    (h : ∀ v' w', w'.ownsRow base e 1 v' (n + m) (xs ++ l.map (Value.int k)) → w.grownBy w' v.ownBlock → wpList P ops Q rest (act.put o.dst v') w') : wpList P ops Q (o :: rest) act w := by
  obtain ⟨h1, h2, h3, hn, h4⟩ := hrow
  cases a with
  | none =>
    have hc := hn rfl
    have hm : m = 0 := by omega
    subst hc hm
    obtain rfl : l = [] := List.eq_nil_of_length_eq_zero h1
    exact wpList_append_own_none hgd s x t ho base e i 1 ht hi v n xs hs hown hx (h v w (by simpa using hown) ⟨rfl, rfl, rfl, Nat.le_refl _, fun _ _ _ => rfl⟩)
  | some ad =>
    refine wpList_append_own w hgd s x t ho base e i z 1 bytes ht hi hz hsize hby hzs (by decide) v n xs hs hown ad m c (l.map (Value.int k)) hx (by simp [h1]) ?_ (fun u hu => by
      obtain ⟨y, _, rfl⟩ := List.mem_map.1 hu; rfl) h63 hbytes hbase fun v' w' h5 h6 _ => h v' w' h5 h6
    intro j u hj
    simp only [List.getElem?_map, Option.map_eq_some_iff] at hj
    obtain ⟨y, hy, rfl⟩ := hj
    have hjl := (List.getElem?_eq_some_iff.1 hy).1
    rcases h4 with h4 | ⟨b, off, h5, h6, h7⟩
    · omega
    · cases h5
      have e : (⟨b, off, none⟩ : Addr).add j = ⟨b, off + j, none⟩ := by
        unfold Addr.add; split <;> simp_all
      rw [e, h7 j (by omega), hy]; rfl

theorem Row.drewN {k : IntKind} {w : World} {a : Option Addr} {len cap : Nat} {l : List Int} (h : Row k w a len cap l) (n : Nat) : Row k (w.drewN n) a len cap l := h

/-- A callee that leaves the world alone, inside a region that draws its order. -/
theorem quiet_same {P : Program} {f : FuncId} {args : Array Value} {w : World} {n : Nat} {v : Value}
    (h : Calls P f args (w.drewN n) fun e w' => e = .returned v ∧ w.drewN n = w') : Calls P f args (w.drewN n) fun e w'' => e = .returned v ∧ ∃ m, w'' = w.drewN m :=
  h.mono fun _ _ ⟨he, hm⟩ => ⟨he, n, hm.symm⟩

theorem below_drewN {B : Nat} {a w : World} (h : Below B a w) (n : Nat) : Below B a (w.drewN n) := h.trans ⟨rfl, rfl, rfl, Nat.le_refl _, fun _ _ => rfl⟩
theorem below_then {w a b : World} (h : Below w.heap.size w a) (k : Below a.heap.size a b) : Below w.heap.size w b := h.trans (k.mono h.size)
theorem below_take {w a b : World} {t : Nat} (h : Below w.heap.size w a) (ht : w.heap.size ≤ t) (k : a.grownBy b (some t)) : Below w.heap.size w b := h.grown k h.size (fun j e => by cases e; exact ht)

theorem ret_int {k : IntKind} {a b : Int} (h : a = b) : Ending.returned (.int k a) = .returned (.int k b) := by rw [h]
theorem ret_bool {a b : Bool} (h : a = b) : Ending.returned (.bool a) = .returned (.bool b) := by rw [h]

end Go.Proofs.YtopnfpobbemfbaaDoor

/- Bytes: slices of bytes and strings that read as lists of bytes. -/
namespace Go.Proofs.YtopnfpobbemfbaaDoor
open Go.RowKit

/-- The numbers that bytes are. -/
def toI (l : List UInt8) : List Int := l.map fun b => (b.toNat : Int)
theorem toI_length (l : List UInt8) : (toI l).length = l.length := by simp [toI]
theorem toI_take (l : List UInt8) (k : Nat) : (toI l).take k = toI (l.take k) := by simp [toI, List.map_take]
theorem toI_drop (l : List UInt8) (k : Nat) : (toI l).drop k = toI (l.drop k) := by simp [toI, List.map_drop]
theorem toI_append (l m : List UInt8) : toI l ++ toI m = toI (l ++ m) := by simp [toI]
theorem toI_get (l : List UInt8) (k : Nat) : (toI l)[k]?.getD 0 = ((l[k]?.getD 0).toNat : Int) := by
  simp only [toI, List.getElem?_map]
  cases l[k]? <;> simp
/-- Numbers that fit into bytes are bytes. -/
def ofI (l : List Int) : List UInt8 := l.map fun n => UInt8.ofNat n.toNat
theorem toI_ofI (l : List Int) (h : ∀ n ∈ l, (Lit.int .u8 n).wf = true) : toI (ofI l) = l := by
  induction l with
  | nil => rfl
  | cons x l ih =>
    have h1 := h x (by simp)
    have h2 := ih (fun n hn => h n (by simp [hn]))
    simp [Lit.wf, IntKind.min, IntKind.max, IntKind.signed, IntKind.bits] at h1
    simp only [toI, ofI, List.map_cons] at h2 ⊢
    rw [h2]
    congr 1
    simp [UInt8.toNat_ofNat']
    omega

/-- A slice of bytes that reads as a list of bytes. -/
def Bs (w : World) (a : Option Addr) (len cap : Nat) (l : List UInt8) : Prop := Row .u8 w a len cap (toI l)

theorem Bs.below {w w' : World} {a : Option Addr} {len cap : Nat} {l : List UInt8} {B : Nat} (hB : w.heap.size ≤ B) (hb : Below B w w') (h : Bs w a len cap l) : Bs w' a len cap l := Row.below hB hb h
theorem Bs.drewN {w : World} {a : Option Addr} {len cap : Nat} {l : List UInt8} (h : Bs w a len cap l) (n : Nat) : Bs (w.drewN n) a len cap l := h
theorem Bs.take {w : World} {a : Option Addr} {len cap : Nat} {l : List UInt8} (j : Nat) (hj : j ≤ len) (h : Bs w a len cap l) : Bs w a j cap (l.take j) := by
  have := Row.take j hj h; rwa [toI_take] at this
theorem Bs.drop {w : World} {a : Option Addr} {len cap : Nat} {l : List UInt8} (j : Nat) (hj : j ≤ len) (h : Bs w a len cap l) : Bs w (if cap = j then a else a.map (·.add (j * 1))) (len - j) (cap - j) (l.drop j) := by
  have := Row.drop j hj h; rwa [toI_drop] at this
theorem Bs.len {w : World} {a : Option Addr} {len cap : Nat} {l : List UInt8} (h : Bs w a len cap l) : l.length = len := by have := h.1; rwa [toI_length] at this
theorem Bs.cap {w : World} {a : Option Addr} {len cap : Nat} {l : List UInt8} (h : Bs w a len cap l) : len ≤ cap ∧ cap ≤ maxLen := ⟨h.2.1, h.2.2.1⟩
theorem Bs.nil {w : World} {cap : Nat} (a : Option Addr) (h : cap ≤ maxLen) (hn : a = none → cap = 0) : Bs w a 0 cap [] := ⟨rfl, Nat.zero_le _, h, hn, .inl rfl⟩
theorem Bs.cell {w : World} {a : Option Addr} {len cap : Nat} {l : List UInt8} (h : Bs w a len cap l) {k : Nat} (hk : k < len) :
    ∃ b off, a = some ⟨b, off, none⟩ ∧ b < w.heap.size ∧ ∀ i, i < len → w.cell? ⟨b, off + i, none⟩ = some (.int .u8 ((l[i]?.getD 0).toNat : Int)) := by
  rcases h.2.2.2.2 with h0 | ⟨b, off, e, hb, hc⟩
  · omega
  · exact ⟨b, off, e, hb, fun i hi => by rw [hc i hi, toI_get]⟩
theorem Bs.of_own {w : World} {base : Nat} {e : TypeId} {v : Value} {n : Nat} {l : List UInt8} (h : w.ownsRow base e 1 v n ((toI l).map (Value.int .u8))) :
    ∃ a cap, v = .slice a n cap ∧ Bs w a n cap l := Row.of_own h

/-- The blocks that a change leaves alone keep the bytes. -/
theorem Row.grown {k : IntKind} {w w' : World} {a : Option Addr} {len cap : Nat} {l : List Int} {row : Option Nat} (hg : w.grownBy w' row) (hne : ∀ b off, len ≠ 0 → a = some ⟨b, off, none⟩ → row ≠ some b) (h : Row k w a len cap l) : Row k w' a len cap l := by
  obtain ⟨h1, h2, h3, hn, h4⟩ := h
  refine ⟨h1, h2, h3, hn, ?_⟩
  rcases h4 with h4 | ⟨b, off, h5, h6, h7⟩
  · exact .inl h4
  · by_cases h0 : len = 0
    · exact .inl h0
    · refine .inr ⟨b, off, h5, by have := hg.size; omega, fun i hi => ?_⟩
      rw [← h7 i hi]
      exact World.cell?_of_block (hg.block b h6 (fun e => hne b off h0 h5 e.symm))
theorem Bs.grown {w w' : World} {a : Option Addr} {len cap : Nat} {l : List UInt8} {row : Option Nat} (hg : w.grownBy w' row) (hne : ∀ b off, len ≠ 0 → a = some ⟨b, off, none⟩ → row ≠ some b) (h : Bs w a len cap l) : Bs w' a len cap l := Row.grown hg hne h

/-! strings -/
/-- The string of bytes. -/
def strOf (l : List UInt8) : ByteArray := ⟨l.toArray⟩
theorem strOf_data (s : ByteArray) : strOf s.data.toList = s := rfl
theorem strOf_list (l : List UInt8) : (strOf l).data.toList = l := by simp [strOf]
theorem strOf_size (l : List UInt8) : (strOf l).size = l.length := by simp [strOf, ByteArray.size]
theorem strOf_inj {l m : List UInt8} : strOf l = strOf m ↔ l = m := ⟨fun h => by rw [← strOf_list l, h, strOf_list], fun h => by rw [h]⟩
theorem strOf_extract (l : List UInt8) (i j : Nat) : (strOf l).extract i j = strOf ((l.drop i).take (j - i)) := by
  apply ByteArray.ext
  simp [strOf, ByteArray.data_extract, List.extract_eq_take_drop]
theorem strOf_append (l m : List UInt8) : strOf l ++ strOf m = strOf (l ++ m) := by
  apply ByteArray.ext
  simp [strOf, ByteArray.data_append]

theorem strOf_toList (l : List UInt8) : (strOf l).toList = l := by
  have h := ByteArray.toList_loop_eq (strOf l) (strOf l).size 0 [] (by omega) (by omega)
  show ByteArray.toList.loop (strOf l) 0 [] = l
  rw [h, strOf_list]; simp
theorem strOf_get (l : List UInt8) (k : Nat) (h : k < l.length) : (strOf l)[k]'(by rw [strOf_size]; exact h) = l[k]?.getD 0 := by
  simp [strOf, ByteArray.getElem_eq_getElem_data, h]

/-- 'string(b)'. -/
theorem conv_string {P : Program} {w : World} {src e dst : TypeId} (hs : P.underlying src = some (.slice e)) (he : P.underlying e = some (.int .u8)) (hd : P.underlying dst = some .string)
    {a : Option Addr} {len cap : Nat} {l : List UInt8} (h : Bs w a len cap l) : (convert src dst (.slice a len cap)).run P w = .ok (.string (strOf l)) w := by
  have hlen := h.len
  cases a with
  | none =>
    have hc := h.2.2.2.1 rfl
    have : len = 0 := by have := h.2.1; omega
    subst hc this
    obtain rfl : l = [] := List.eq_nil_of_length_eq_zero hlen
    exact Lib.run_convert_nil_bytes w src dst e 0 hs he hd
  | some x =>
    subst hlen
    refine run_convert_bytes_back w src dst e x cap l hs he hd fun j hj => ?_
    obtain ⟨b, off, h5, _, h7⟩ := h.cell hj
    cases h5
    have e : (⟨b, off, none⟩ : Addr).add j = ⟨b, off + j, none⟩ := by unfold Addr.add; split <;> simp_all
    rw [e, h7 j hj]; simp [hj]

/-- What a 'make' of one-celled elements lays. -/
theorem made_list (v : Value) (n : Nat) : (madeCells #[v] n).toList = List.replicate n v := by
  simp only [madeCells]
  apply List.ext_getElem
  · simp
  · intro i h1 h2
    simp [Nat.mod_one]

theorem strCells_strOf (l : List UInt8) : Lib.strCells (strOf l) = (toI l).map (Value.int .u8) := by
  simp [Lib.strCells, strOf, toI]

/-- The call hands back a text; nothing that was there has turned. -/
def RetStr (w : World) (l : List UInt8) (e : Ending) (w' : World) : Prop := e = .returned (.string (strOf l)) ∧ Below w.heap.size w w'

/-- 'string([]byte{b})'. -/
theorem conv_one {P : Program} {W : World} {src e dst t : TypeId} (hs : P.underlying src = some (.slice e)) (he : P.underlying e = some (.int .u8)) (hd : P.underlying dst = some .string) (b : UInt8) :
    (convert src dst (.slice (some ⟨W.heap.size, 0, none⟩) 1 1)).run P (W.alloc (.cells #[.int .u8 (b.toNat : Int)] t)) = .ok (.string (strOf [b])) (W.alloc (.cells #[.int .u8 (b.toNat : Int)] t)) :=
  conv_string hs he hd (show Bs _ _ _ _ [b] from Row.made .u8 W t [(b.toNat : Int)] rfl (by unfold maxLen; simp))

/-- The call hands back a row of bytes of its own; nothing that was there has turned. -/
def OwnBytes (t : TypeId) (w : World) (l : List UInt8) (e : Ending) (w' : World) : Prop :=
  ∃ v, e = .returned v ∧ w'.ownsRow w.heap.size t 1 v l.length ((toI l).map (Value.int .u8)) ∧ Below w.heap.size w w'

theorem grown_setCell (w : World) (a : Addr) (u : Value) : w.grownBy (w.setCell a u) (some a.block) :=
  ⟨rfl, rfl, rfl, by simp [World.setCell], fun k _ hne => Below.heap_setCell w a u k (fun e => hne (by rw [e]))⟩
theorem grown_trans {a b c : World} {row : Option Nat} (h : a.grownBy b row) (k : b.grownBy c row) : a.grownBy c row :=
  ⟨by rw [k.os, h.os], by rw [k.tape, h.tape], by rw [k.output, h.output], Nat.le_trans h.size k.size, fun i hi hne => by rw [k.block i (Nat.lt_of_lt_of_le hi h.size) hne, h.block i hi hne]⟩
/-- What happened above all that was there is a growth, whatever row is named. -/
theorem grown_below {a b : World} (h : Below a.heap.size a b) (row : Option Nat) : a.grownBy b row := ⟨h.os, h.tape, h.output, h.size, fun k hk _ => h.block k hk⟩
theorem below_grown {a b : World} {B : Nat} {r : Nat} (h : a.grownBy b (some r)) (hB : B ≤ a.heap.size) (hr : B ≤ r) : Below B a b := (Below.refl B a).grown h hB (fun k e => by cases e; exact hr)
theorem heap_setCell_at {w : World} {g : Nat} {cur : Array Value} {e : TypeId} (j : Nat) (u : Value) (hg : w.heap[g]? = some (.cells cur e (0, 0))) :
    (w.setCell ⟨g, j, none⟩ u).heap[g]? = some (.cells (cur.setIfInBounds j u) e (0, 0)) := heap_setCell_same w g j cur e u hg

/-- 'x<<8 | c'. -/
theorem or256 (x c : Nat) (hx : x < 72057594037927936) (hc : c < 256) : bits .or .u64 ((x : Int) * 256) (c : Int) = ((x * 256 + c : Nat) : Int) := by
  have h := u64_or_nat (x * 256) c (by omega) (by omega)
  have e : x * 256 ||| c = x * 256 + c := by
    have := Nat.shiftLeft_add_eq_or_of_lt (i := 8) (b := c) (by omega) x
    rw [Nat.shiftLeft_eq] at this
    exact this.symm
  rw [e] at h
  rw [← h]; congr 1

theorem own_lt {w : World} {base : Nat} {e : TypeId} {size : Nat} {v : Value} {n : Nat} {xs : List Value} (h : w.ownsRow base e size v n xs) : ∀ k, v.ownBlock = some k → k < w.heap.size := by
  intro k hk
  rcases h.2 with ⟨rfl, rfl⟩ | ⟨g, cap, cur, rfl, _, hg, _⟩
  · cases hk
  · cases hk; exact (Array.getElem?_eq_some_iff.1 hg).1
/-- Two rows of which the one was there before the other one's blocks. -/
theorem own_apart {w : World} {base e size n} {v v2 : Value} {xs : List Value} {B : Nat} (h : w.ownsRow base e size v n xs) (hB : w.heap.size ≤ B) (h2 : ∀ k, v2.ownBlock = some k → B ≤ k) : v.ownBlock = none ∨ v.ownBlock ≠ v2.ownBlock := by
  cases hv : v.ownBlock with
  | none => exact .inl rfl
  | some k =>
    right
    intro e
    have h1 := own_lt h k hv
    have h3 := h2 k e.symm
    omega
theorem own_apart' {w : World} {base e size n} {v v2 : Value} {xs : List Value} {B : Nat} (h : ∀ k, v2.ownBlock = some k → k < B) (h2 : w.ownsRow base e size v n xs) (hB : B ≤ base) : v.ownBlock = none ∨ v.ownBlock ≠ v2.ownBlock := by
  cases hv : v.ownBlock with
  | none => exact .inl rfl
  | some k =>
    right
    intro e
    have h1 := own_ge h2 k hv
    have h3 := h k e.symm
    omega
theorem apart_of {v v2 : Value} {B : Nat} (h : ∀ k, v.ownBlock = some k → k < B) (h2 : ∀ k, v2.ownBlock = some k → B ≤ k) : v.ownBlock = none ∨ v.ownBlock ≠ v2.ownBlock := by
  cases hv : v.ownBlock with
  | none => exact .inl rfl
  | some k => exact .inr (fun e => by have h1 := h k hv; have h3 := h2 k e.symm; omega)
theorem apart_of' {v v2 : Value} {B : Nat} (h : ∀ k, v.ownBlock = some k → B ≤ k) (h2 : ∀ k, v2.ownBlock = some k → k < B) : v.ownBlock = none ∨ v.ownBlock ≠ v2.ownBlock := by
  cases hv : v.ownBlock with
  | none => exact .inl rfl
  | some k => exact .inr (fun e => by have h1 := h k hv; have h3 := h2 k e.symm; omega)
theorem grown_refl (w : World) (row : Option Nat) : w.grownBy w row := ⟨rfl, rfl, rfl, Nat.le_refl _, fun _ _ _ => rfl⟩
theorem Bs.own {w : World} {base : Nat} {e : TypeId} {a : Option Addr} {n cap : Nat} {l : List UInt8} (h : w.ownsRow base e 1 (.slice a n cap) n ((toI l).map (Value.int .u8))) : Bs w a n cap l := by
  obtain ⟨a', cap', e1, e2⟩ := Bs.of_own h
  cases e1; exact e2
theorem own_slice {w : World} {base : Nat} {e : TypeId} {size : Nat} {v : Value} {n : Nat} {xs : List Value} (h : w.ownsRow base e size v n xs) : ∃ a cap, v = .slice a n cap ∧ n ≤ cap ∧ cap ≤ maxLen ∧ (0 < n → ∃ g, a = some ⟨g, 0, none⟩) := by
  rcases h.2 with ⟨rfl, rfl⟩ | ⟨g, cap, cur, rfl, _, _, h1, h2, _⟩
  · exact ⟨none, 0, rfl, Nat.le_refl _, by unfold maxLen; omega, fun h => by omega⟩
  · exact ⟨_, cap, rfl, h1, h2, fun _ => ⟨g, rfl⟩⟩

end Go.Proofs.YtopnfpobbemfbaaDoor

/- Plain functions of the chapter on numbers and texts as bytes; no program in sight. -/
namespace Go.Proofs.YtopnfpobbemfbaaDoor

/-- A number's lowest bytes, the highest first. -/
def beBytes (x : Nat) : Nat → List UInt8
  | 0 => []
  | n + 1 => beBytes (x / 256) n ++ [UInt8.ofNat x]
theorem beBytes_length (x n : Nat) : (beBytes x n).length = n := by
  induction n generalizing x with
  | zero => rfl
  | succ n ih => simp [beBytes, ih]
/-- The number that bytes are, the highest first. -/
def beVal (l : List UInt8) : Nat := l.foldl (fun x b => x * 256 + b.toNat) 0
theorem beVal_nil : beVal [] = 0 := rfl
theorem beVal_snoc (l : List UInt8) (b : UInt8) : beVal (l ++ [b]) = beVal l * 256 + b.toNat := by simp [beVal]
theorem beVal_lt (l : List UInt8) : beVal l < 256 ^ l.length := by
  have key : ∀ (l : List UInt8) (a : Nat), l.foldl (fun x b => x * 256 + b.toNat) a < (a + 1) * 256 ^ l.length := by
    intro l
    induction l with
    | nil => intro a; simp
    | cons b l ih =>
      intro a
      have h := ih (a * 256 + b.toNat)
      have hb := b.toNat_lt
      simp only [List.foldl_cons, List.length_cons, Nat.pow_succ]
      calc _ < (a * 256 + b.toNat + 1) * 256 ^ l.length := h
        _ ≤ ((a + 1) * 256) * 256 ^ l.length := Nat.mul_le_mul_right _ (by omega)
        _ = (a + 1) * (256 ^ l.length * 256) := by rw [Nat.mul_assoc, Nat.mul_comm 256]
  have h := key l 0
  simp at h; exact h
theorem beBytes_cons (x n : Nat) : beBytes x (n + 1) = UInt8.ofNat (x / 256 ^ n) :: beBytes x n := by
  induction n generalizing x with
  | zero => simp [beBytes]
  | succ n ih =>
    rw [beBytes, ih (x / 256)]
    simp only [List.cons_append]
    rw [Nat.div_div_eq_div_mul, Nat.pow_succ, Nat.mul_comm 256]
    rfl

theorem be_set (x n k : Nat) (hk : k < n) : (List.replicate (n - k) 0 ++ beBytes x k).set (n - 1 - k) (UInt8.ofNat (x / 256 ^ k)) = List.replicate (n - (k + 1)) 0 ++ beBytes x (k + 1) := by
  obtain ⟨m, rfl⟩ : ∃ m, n = k + 1 + m := ⟨n - k - 1, by omega⟩
  have e1 : k + 1 + m - k = m + 1 := by omega
  have e2 : k + 1 + m - 1 - k = m := by omega
  have e3 : k + 1 + m - (k + 1) = m := by omega
  rw [e1, e2, e3, beBytes_cons, List.replicate_succ', List.append_assoc, List.set_append_right _ _ (by simp), List.length_replicate, Nat.sub_self]
  rfl
theorem be_at (x n k : Nat) (hk : k < n) : (List.replicate (n - k) (0 : UInt8) ++ beBytes x k)[n - 1 - k]? = some 0 := by
  rw [List.getElem?_append_left (by simp; omega), List.getElem?_replicate, if_pos (by omega)]

theorem be_byte (x k : Nat) : ((x : Int) / 2 ^ (8 * k) % 256) = ((UInt8.ofNat (x / 256 ^ k)).toNat : Int) := by
  have e : (256 : Nat) ^ k = 2 ^ (8 * k) := by rw [Nat.pow_mul]
  rw [UInt8.toNat_ofNat', e, Int.natCast_emod, Int.natCast_ediv, Int.natCast_pow]
  rfl

/-- 'octet.Num'. -/
def numF (x : Int) (size : Int) : List UInt8 := if size < 1 ∨ 8 < size then [] else beBytes x.toNat size.toNat
/-- 'octet.Text'. -/
def textF (l : List UInt8) : List UInt8 := UInt8.ofNat (l.take 255).length :: l.take 255

/-- What is left to take, and what went wrong first. -/
structure TSt where
  l : List UInt8
  e : Int
deriving DecidableEq

/-- So many bytes, taken. -/
def takeF (s : TSt) (n : Nat) : List UInt8 × TSt :=
  if s.e ≠ 0 then ([], s) else if s.l.length < n then ([], { s with e := 10 }) else (s.l.take n, { s with l := s.l.drop n })
def tNum (s : TSt) (size : Int) : Nat × TSt :=
  if s.e = 0 ∧ (size < 1 ∨ 8 < size) then (0, { s with e := 1 }) else (beVal (takeF s size.toNat).1, (takeF s size.toNat).2)
def tText (s : TSt) : List UInt8 × TSt := takeF (tNum s 1).2 (tNum s 1).1
def tRest (s : TSt) : List UInt8 × TSt := takeF s s.l.length
def tDone (s : TSt) : Int := if s.e ≠ 0 ∨ s.l.length = 0 then s.e else 11

/-! what went wrong first stays -/
def OkE (e : Int) : Prop := e = 0 ∨ e = 1 ∨ e = 10
theorem takeF_facts (s : TSt) (n : Nat) (h : OkE s.e) : OkE (takeF s n).2.e ∧ ((s.e ≠ 0 ∧ takeF s n = ([], s)) ∨ (s.e = 0 ∧ (takeF s n).2.e = 0) ∨ (s.e = 0 ∧ (takeF s n).2.e ≠ 0 ∧ (takeF s n).1 = [])) := by
  by_cases he : s.e = 0
  · by_cases hn : s.l.length < n
    · have : takeF s n = ([], { s with e := 10 }) := by simp [takeF, he, hn]
      rw [this]; exact ⟨.inr (.inr rfl), .inr (.inr ⟨he, by simp, rfl⟩)⟩
    · have : takeF s n = (s.l.take n, { s with l := s.l.drop n }) := by simp [takeF, he, hn]
      rw [this]; exact ⟨h, .inr (.inl ⟨he, he⟩)⟩
  · have : takeF s n = ([], s) := by simp [takeF, he]
    rw [this]; exact ⟨h, .inl ⟨he, rfl⟩⟩
theorem tNum_facts (s : TSt) (y : Int) (h : OkE s.e) : OkE (tNum s y).2.e ∧ ((s.e ≠ 0 ∧ tNum s y = (0, s)) ∨ (s.e = 0 ∧ (tNum s y).2.e = 0) ∨ (s.e = 0 ∧ (tNum s y).2.e ≠ 0 ∧ (tNum s y).1 = 0)) := by
  by_cases hc : s.e = 0 ∧ (y < 1 ∨ 8 < y)
  · have : tNum s y = (0, { s with e := 1 }) := by rw [tNum, if_pos hc]
    rw [this]; exact ⟨.inr (.inl rfl), .inr (.inr ⟨hc.1, by simp, rfl⟩)⟩
  · have e : tNum s y = (beVal (takeF s y.toNat).1, (takeF s y.toNat).2) := by rw [tNum, if_neg hc]
    rw [e]
    obtain ⟨h1, h2⟩ := takeF_facts s y.toNat h
    refine ⟨h1, ?_⟩
    rcases h2 with ⟨a, b⟩ | ⟨a, b⟩ | ⟨a, b, c⟩
    · exact .inl ⟨a, by rw [b]; rfl⟩
    · exact .inr (.inl ⟨a, b⟩)
    · exact .inr (.inr ⟨a, b, by show beVal (takeF s y.toNat).1 = 0; rw [c]; rfl⟩)
theorem tText_facts (s : TSt) (h : OkE s.e) : OkE (tText s).2.e ∧ ((s.e ≠ 0 ∧ tText s = ([], s)) ∨ (s.e = 0 ∧ (tText s).2.e = 0) ∨ (s.e = 0 ∧ (tText s).2.e ≠ 0 ∧ (tText s).1 = [])) := by
  obtain ⟨h1, h2⟩ := tNum_facts s 1 h
  obtain ⟨h3, h4⟩ := takeF_facts (tNum s 1).2 (tNum s 1).1 h1
  refine ⟨h3, ?_⟩
  rcases h2 with ⟨a, b⟩ | ⟨a, b⟩ | ⟨a, b, c⟩
  · refine .inl ⟨a, ?_⟩
    rw [tText, b]; simp [takeF, a]
  · rcases h4 with ⟨a', b'⟩ | ⟨a', b'⟩ | ⟨a', b', c'⟩
    · exact absurd b a'
    · exact .inr (.inl ⟨a, b'⟩)
    · exact .inr (.inr ⟨a, b', c'⟩)
  · rcases h4 with ⟨a', b'⟩ | ⟨a', b'⟩ | ⟨a', b', c'⟩
    · refine .inr (.inr ⟨a, ?_, ?_⟩)
      · rw [tText, b']; exact b
      · rw [tText, b']
    · exact absurd a' b
    · exact absurd a' b

end Go.Proofs.YtopnfpobbemfbaaDoor

/- The walks of the chapter on numbers and texts as bytes. -/
namespace Go.Proofs.YtopnfpobbemfbaaDoor
open Go.RowKit

theorem info_u8 : (Tryd.prog.info? 5).map (fun i => (i.zero, i.size, i.bytes)) = some (some (.int .u8 0), 1, 1) := by kernel_rfl

set_option maxRecDepth 100000 in
set_option maxHeartbeats 1000000 in
theorem num_bad (x size : Int) (w : World) (h : size < 1 ∨ 8 < size) :
    Calls Tryd.prog 25 #[.int .u64 x, .int .i64 size] w fun e w' => e = .returned (.slice none 0 0) ∧ w = w' := by
  rcases h with h | h
  · go_enter Tryd.func25, Tryd.ntmps25
    go_wp2
    go_ret
    exact ⟨rfl, rfl⟩
  · have h' : ¬ size < 1 := by omega
    go_enter Tryd.func25, Tryd.ntmps25
    go_wp2
    go_ret
    exact ⟨rfl, rfl⟩

set_option maxRecDepth 100000 in
set_option maxHeartbeats 1000000 in
theorem num_ok (x : Nat) (n : Nat) (w : World) (_hx : x < 18446744073709551616) (h1 : 1 ≤ n) (h8 : n ≤ 8) :
    Calls Tryd.prog 25 #[.int .u64 x, .int .i64 n] w (OwnBytes 5 w (beBytes x n)) := by
  obtain ⟨i0, hi, hz0, hz1, hz2⟩ := info_parts info_u8
  go_enter Tryd.func25, Tryd.ntmps25
  go_wp2_with (at_make; refine wpList_make_full _ rfl _ _ 32 rfl w.heap.size 5 i0 _ 1 Tryd.underlying32 hi hz0 hz1 .i64 .i64 _ _ n rfl rfl rfl rfl (by rw [hz2]; omega) (by unfold maxLen; omega) (Nat.le_refl _) ?_)
  intro w1 hown hg
  have hB := (Below.refl w.heap.size w).grown hg (Nat.le_refl _) (fun k e => by cases e)
  clear hg
  have hown' : w1.ownsRow w.heap.size 5 1 (.slice (some ⟨w.heap.size, 0, none⟩) n n) n ((toI (List.replicate (n - 0) 0 ++ beBytes x 0)).map (Value.int .u8)) := by
    simp only [made_list] at hown
    simpa [beBytes, toI] using hown
  clear hown
  go_wp2
  go_loopw [17] (fun i wr => ∃ k : Nat, k ≤ n ∧ i = .int .i64 k ∧ wr.ownsRow w.heap.size 5 1 (.slice (some ⟨w.heap.size, 0, none⟩) n n) n ((toI (List.replicate (n - k) 0 ++ beBytes x k)).map (Value.int .u8)) ∧ Below w.heap.size w wr) (fun i _ => n - (intOf i).toNat)
  case atStart => exact ⟨0, Nat.zero_le _, rfl, hown', hB⟩
  case round =>
    obtain ⟨k, hk, rfl, hr, hb⟩ := hrel
    by_cases hlt : k < n
    · have hc := hr.cellAt (n - 1 - k) (by omega)
      have hf := hr.frozenAt (n - 1 - k)
      have hst := hr.stored (n - 1 - k) (.int .u8 ((x : Int) / 2 ^ (8 * k) % 256))
      have hv := congrArg (Value.int .u8) (be_byte x k)
      have hlist : ((toI (List.replicate (n - k) 0 ++ beBytes x k)).map (Value.int .u8)).set (n - 1 - k) (.int .u8 ((x : Int) / 2 ^ (8 * k) % 256)) = (toI (List.replicate (n - (k + 1)) 0 ++ beBytes x (k + 1))).map (Value.int .u8) := by
        rw [hv, ← be_set x n k hlt]
        simp only [toI, List.map_set]
      rw [hlist] at hst
      have hst := hst.1
      clear hlist hv
      rw [List.getElem?_map, toI, List.getElem?_map, be_at x n k hlt] at hc
      have hc' : wr.cell? ⟨w.heap.size, n - 1 - k, none⟩ = some (.int .u8 0) := hc
      clear hc
      have HS := Lib.hid hst
      clear hst
      go_wp2
      go_roundw
      case rel => exact ⟨k + 1, by omega, by go_num, HS.out, hb.setCell (Nat.le_refl _) _⟩
      case measure => simp [intOf]; omega
    · obtain rfl : k = n := by omega
      have hl := Lib.hid (beBytes_length x k)
      have hr' : wr.ownsRow w.heap.size 5 1 (.slice (some ⟨w.heap.size, 0, none⟩) k k) (beBytes x k).length ((toI (beBytes x k)).map (Value.int .u8)) := by
        rw [hl.out]; simpa using hr
      go_wp2
      go_ret
      exact ⟨_, rfl, hr', hb⟩

theorem num_any (x size : Int) (w : World) (hx : 0 ≤ x ∧ x < 18446744073709551616) :
    Calls Tryd.prog 25 #[.int .u64 x, .int .i64 size] w (OwnBytes 5 w (numF x size)) := by
  by_cases h : size < 1 ∨ 8 < size
  · refine (num_bad x size w h).mono ?_
    rintro e w' ⟨rfl, rfl⟩
    rw [numF, if_pos h]
    exact ⟨_, rfl, ⟨rfl, .inl ⟨rfl, rfl⟩⟩, Below.refl _ _⟩
  · rw [numF, if_neg h]
    obtain ⟨y, rfl⟩ := Int.eq_ofNat_of_zero_le hx.1
    obtain ⟨n, rfl⟩ := Int.eq_ofNat_of_zero_le (show 0 ≤ size by omega)
    exact num_ok y n w (by omega) (by omega) (by omega)

set_option maxRecDepth 100000 in
set_option maxHeartbeats 1000000 in
theorem refNum_bad (x size : Int) (w : World) (h : size < 1 ∨ 8 < size) :
    Calls Tryd.prog 29 #[.int .u64 x, .int .i64 size] w fun e w' => e = .returned (.string (strOf [])) ∧ w = w' := by
  rcases h with h | h
  · go_enter Tryd.func29, Tryd.ntmps29
    go_wp2
    go_ret
    exact ⟨rfl, rfl⟩
  · have h' : ¬ size < 1 := by omega
    go_enter Tryd.func29, Tryd.ntmps29
    go_wp2
    go_ret
    exact ⟨rfl, rfl⟩

set_option maxRecDepth 100000 in
set_option maxHeartbeats 1000000 in
theorem refNum_ok (x : Nat) (n : Nat) (w : World) (hx : x < 18446744073709551616) (h1 : 1 ≤ n) (h8 : n ≤ 8) :
    Calls Tryd.prog 29 #[.int .u64 x, .int .i64 n] w (RetStr w (beBytes x n)) := by
  go_enter Tryd.func29, Tryd.ntmps29
  go_wp2
  go_loopw [0, 5, 6] (fun xx s i wr => ∃ k : Nat, k ≤ n ∧ i = .int .i64 k ∧ xx = .int .u64 ((x / 256 ^ k : Nat) : Int) ∧ s = .string (strOf (beBytes x k)) ∧ Below w.heap.size w wr) (fun _ _ i _ => n - (intOf i).toNat)
  case atStart => exact ⟨0, Nat.zero_le _, rfl, by simp, rfl, Below.refl _ _⟩
  case round =>
    obtain ⟨k, hk, rfl, rfl, rfl, hb⟩ := hrel
    by_cases hlt : k < n
    · have hdiv := Lib.hid (show x / 256 ^ (k + 1) = x / 256 ^ k / 256 by rw [Nat.pow_succ, Nat.div_div_eq_div_mul])
      have hle : x / 256 ^ k ≤ x := Nat.div_le_self _ _
      have hcons := Lib.hid (beBytes_cons x k)
      generalize x / 256 ^ k = y at *
      have hby : ((y : Int) % 256) = ((UInt8.ofNat y).toNat : Int) := by rw [UInt8.toNat_ofNat']; simp
      have hcv := conv_one (W := wr) (t := 5) Tryd.underlying32 Tryd.underlying5 Tryd.underlying9 (UInt8.ofNat y)
      rw [← hby] at hcv
      have HB := Lib.hid hby
      clear hby
      have hap := strOf_append [UInt8.ofNat y] (beBytes x k)
      have hsz : (strOf [UInt8.ofNat y]).size + (strOf (beBytes x k)).size ≤ 9223372036854775807 := by
        rw [strOf_size, strOf_size, beBytes_length]; simp; omega
      go_wp2
      go_roundw
      case rel => exact ⟨k + 1, by omega, by go_num, by rw [hdiv.out]; go_num, by rw [hcons.out], hb.alloc hb.size _⟩
      case measure => simp [intOf]; omega
    · obtain rfl : k = n := by omega
      go_wp2
      go_ret
      exact ⟨rfl, hb⟩

theorem refNum_any (x size : Int) (w : World) (hx : 0 ≤ x ∧ x < 18446744073709551616) :
    Calls Tryd.prog 29 #[.int .u64 x, .int .i64 size] w (RetStr w (numF x size)) := by
  by_cases h : size < 1 ∨ 8 < size
  · refine (refNum_bad x size w h).mono ?_
    rintro e w' ⟨rfl, rfl⟩
    rw [numF, if_pos h]
    exact ⟨rfl, Below.refl _ _⟩
  · rw [numF, if_neg h]
    obtain ⟨y, rfl⟩ := Int.eq_ofNat_of_zero_le hx.1
    obtain ⟨n, rfl⟩ := Int.eq_ofNat_of_zero_le (show 0 ≤ size by omega)
    exact refNum_ok y n w (by omega) (by omega) (by omega)

theorem textF_eq (l : List UInt8) : textF l = [UInt8.ofNat (l.take 255).length] ++ l.take 255 := rfl

theorem numF_one (n : Nat) (_hn : n ≤ 255) : numF (n : Int) 1 = [UInt8.ofNat n] := by
  rw [numF, if_neg (by omega)]
  simp [beBytes]

end Go.Proofs.YtopnfpobbemfbaaDoor

/- Sums of bytes, bit by bit; plain laws, no program in sight. -/
namespace Go.Proofs.YtopnfpobbemfbaaDoor

/-- One bit. -/
def stepB (x : Nat) : Nat := if x % 2 = 1 then (x / 2) ^^^ 3988292384 else x / 2
def steps : Nat → Nat → Nat
  | 0, x => x
  | n + 1, x => steps n (stepB x)
theorem steps_add (m n x : Nat) : steps (m + n) x = steps n (steps m x) := by
  induction m generalizing x with
  | zero => simp [steps]
  | succ m ih => rw [show m + 1 + n = (m + n) + 1 by omega]; simp only [steps]; exact ih _
theorem steps_succ (n x : Nat) : steps (n + 1) x = stepB (steps n x) := by
  rw [steps_add n 1]; rfl
/-- One byte. -/
def stepC (x : Nat) (b : UInt8) : Nat := steps 8 (x ^^^ b.toNat)
/-- The inner state behind bytes. -/
def crcX (x : Nat) (l : List UInt8) : Nat := l.foldl stepC x
def crcOn (sum : Nat) (l : List UInt8) : Nat := 4294967295 - crcX (4294967295 - sum) l
def crcOf (l : List UInt8) : Nat := crcOn 0 l

theorem xor_lt {a b : Nat} (ha : a < 4294967296) (hb : b < 4294967296) : a ^^^ b < 4294967296 := Nat.xor_lt_two_pow (n := 32) ha hb
theorem stepB_lt {x : Nat} (h : x < 4294967296) : stepB x < 4294967296 := by
  unfold stepB; split
  · exact xor_lt (by omega) (by omega)
  · omega
theorem steps_lt (n : Nat) {x : Nat} (h : x < 4294967296) : steps n x < 4294967296 := by
  induction n generalizing x with
  | zero => exact h
  | succ n ih => exact ih (stepB_lt h)
theorem stepC_lt {x : Nat} (h : x < 4294967296) (b : UInt8) : stepC x b < 4294967296 := steps_lt 8 (xor_lt h (by have := b.toNat_lt; omega))
theorem crcX_lt (l : List UInt8) {x : Nat} (h : x < 4294967296) : crcX x l < 4294967296 := by
  induction l generalizing x with
  | nil => exact h
  | cons b l ih => exact ih (stepC_lt h b)
theorem crcOn_lt (sum : Nat) (l : List UInt8) : crcOn sum l < 4294967296 := by unfold crcOn; omega
theorem crcX_snoc (x : Nat) (l : List UInt8) (b : UInt8) : crcX x (l ++ [b]) = stepC (crcX x l) b := by simp [crcX]

/-! a step can be told from what it leaves -/
theorem testBit_poly (x : Nat) (h : x < 2147483648) : (x ^^^ 3988292384).testBit 31 = true := by
  rw [Nat.testBit_xor, Nat.testBit_lt_two_pow (show x < 2 ^ 31 from h)]
  decide
theorem stepB_inj {x y : Nat} (hx : x < 4294967296) (hy : y < 4294967296) (h : stepB x = stepB y) : x = y := by
  have bit : ∀ z, z < 4294967296 → (stepB z).testBit 31 = decide (z % 2 = 1) := by
    intro z hz
    unfold stepB; split
    · rename_i h1; rw [testBit_poly _ (by omega)]; simp [h1]
    · rename_i h1; rw [Nat.testBit_lt_two_pow (show z / 2 < 2 ^ 31 by omega)]; simp [h1]
  have hb := bit x hx
  rw [h, bit y hy] at hb
  have hp : (x % 2 = 1 ↔ y % 2 = 1) := by
    constructor
    · intro e; by_cases e' : y % 2 = 1
      · exact e'
      · simp [e, e'] at hb
    · intro e; by_cases e' : x % 2 = 1
      · exact e'
      · simp [e, e'] at hb
  unfold stepB at h
  by_cases e : x % 2 = 1
  · rw [if_pos e, if_pos (hp.1 e)] at h
    have h2 : x / 2 = y / 2 := by
      have := congrArg (· ^^^ 3988292384) h
      simpa [Nat.xor_assoc] using this
    have := hp.1 e
    omega
  · rw [if_neg e, if_neg (fun e' => e (hp.2 e'))] at h
    have : ¬ y % 2 = 1 := fun e' => e (hp.2 e')
    omega
theorem steps_inj (n : Nat) {x y : Nat} (hx : x < 4294967296) (hy : y < 4294967296) (h : steps n x = steps n y) : x = y := by
  induction n generalizing x y with
  | zero => exact h
  | succ n ih => exact stepB_inj hx hy (ih (stepB_lt hx) (stepB_lt hy) h)
theorem xor_cancel {a b c : Nat} (h : a ^^^ c = b ^^^ c) : a = b := by
  have := congrArg (· ^^^ c) h
  simpa [Nat.xor_assoc] using this
theorem stepC_inj {x y : Nat} {b : UInt8} (hx : x < 4294967296) (hy : y < 4294967296) (h : stepC x b = stepC y b) : x = y :=
  xor_cancel (steps_inj 8 (xor_lt hx (by have := b.toNat_lt; omega)) (xor_lt hy (by have := b.toNat_lt; omega)) h)
theorem stepC_byte {x : Nat} {b c : UInt8} (hx : x < 4294967296) (h : stepC x b = stepC x c) : b = c := by
  have h1 := steps_inj 8 (xor_lt hx (by have := b.toNat_lt; omega)) (xor_lt hx (by have := c.toNat_lt; omega)) h
  rw [Nat.xor_comm x, Nat.xor_comm x] at h1
  exact UInt8.toNat_inj.1 (xor_cancel h1)
theorem crcX_inj (l : List UInt8) {x y : Nat} (hx : x < 4294967296) (hy : y < 4294967296) (h : crcX x l = crcX y l) : x = y := by
  induction l generalizing x y with
  | nil => exact h
  | cons b l ih => exact stepC_inj hx hy (ih (stepC_lt hx b) (stepC_lt hy b) h)
/-- A byte that is another one is told by the sum. -/
theorem crcOf_turned (a r : List UInt8) {b c : UInt8} (h : crcOf (a ++ b :: r) = crcOf (a ++ c :: r)) : b = c := by
  have hl := crcX_lt a (x := 4294967295 - 0) (by omega)
  have e : ∀ d : UInt8, crcX (4294967295 - 0) (a ++ d :: r) = crcX (stepC (crcX (4294967295 - 0) a) d) r := by intro d; simp [crcX]
  have h1 := crcX_lt r (stepC_lt hl b)
  have h2 := crcX_lt r (stepC_lt hl c)
  unfold crcOf crcOn at h
  rw [e b, e c] at h
  exact stepC_byte hl (crcX_inj r (stepC_lt hl b) (stepC_lt hl c) (by omega))

/-! half a byte by a table -/
def half : List Nat := [0, 498536548, 997073096, 651767980, 1994146192, 1802195444, 1303535960, 1342533948, 3988292384, 4027552580, 3604390888, 3412177804, 2607071920, 2262029012, 2685067896, 3183342108]
theorem half_eq (k : Nat) (h : k < 16) : half[k]? = some (steps 4 k) := by
  have : ∀ k : Fin 16, half[k.val]? = some (steps 4 k.val) := by decide
  exact this ⟨k, h⟩
theorem stepB_xor (a b : Nat) (ha : a % 2 = 0) : stepB (a ^^^ b) = a / 2 ^^^ stepB b := by
  have hp : (a ^^^ b) % 2 = b % 2 := by
    have := Nat.xor_mod_two_pow (a := a) (b := b) (n := 1)
    simp only [Nat.pow_one] at this
    rw [this, ha, Nat.zero_xor]
    try omega
  have hd : (a ^^^ b) / 2 = a / 2 ^^^ b / 2 := by
    have := Nat.shiftRight_xor_distrib (a := a) (b := b) (i := 1)
    simpa [Nat.shiftRight_eq_div_pow] using this
  unfold stepB
  rw [hp, hd]
  by_cases hb : b % 2 = 1
  · rw [if_pos hb, if_pos hb, Nat.xor_assoc]
  · rw [if_neg hb, if_neg hb]
theorem steps_xor (n a b : Nat) (ha : a % 2 ^ n = 0) : steps n (a ^^^ b) = a / 2 ^ n ^^^ steps n b := by
  induction n generalizing a b with
  | zero => simp [steps]
  | succ n ih =>
    have h2 : a % 2 = 0 := by
      have : 2 ∣ a := Nat.dvd_trans (by rw [Nat.pow_succ]; exact Nat.dvd_mul_left 2 _) (Nat.dvd_of_mod_eq_zero ha)
      omega
    have h3 : a / 2 % 2 ^ n = 0 := by
      have hd := Nat.dvd_of_mod_eq_zero ha
      rw [Nat.pow_succ] at hd
      obtain ⟨q, rfl⟩ := hd
      rw [Nat.mul_comm (2 ^ n) 2, Nat.mul_assoc, Nat.mul_div_cancel_left _ (by decide), Nat.mul_mod_right]
    simp only [steps]
    rw [stepB_xor a b h2, ih (a / 2) (stepB b) h3, Nat.div_div_eq_div_mul, Nat.pow_succ, Nat.mul_comm 2]
/-- Four bits at once. -/
theorem steps_four (x : Nat) : steps 4 x = x / 16 ^^^ (half[x % 16]?.getD 0) := by
  have e : x = 16 * (x / 16) ^^^ x % 16 := by
    have h1 : 16 * (x / 16) ^^^ x % 16 = 16 * (x / 16) + x % 16 := by
      have hb : x % 16 < 2 ^ 4 := by omega
      apply Nat.eq_of_testBit_eq
      intro j
      have e1 := Nat.testBit_two_pow_mul_add (x / 16) hb j
      have e2 : (2 ^ 4 * (x / 16)).testBit j = (decide (j ≥ 4) && (x / 16).testBit (j - 4)) := Nat.testBit_two_pow_mul ..
      rw [Nat.testBit_xor]
      show ((2 ^ 4 * (x / 16)).testBit j ^^ (x % 16).testBit j) = (2 ^ 4 * (x / 16) + x % 16).testBit j
      rw [e1, e2]
      by_cases hj : j < 4
      · have h4 : ¬ j ≥ 4 := by omega
        rw [if_pos hj]; simp [h4]
      · have h0 : (x % 16).testBit j = false := Nat.testBit_lt_two_pow (Nat.lt_of_lt_of_le hb (Nat.pow_le_pow_right (by decide) (by omega)))
        have h4 : j ≥ 4 := by omega
        rw [if_neg hj, h0]; simp [h4]
    rw [h1]; omega
  have h2 := steps_xor 4 (16 * (x / 16)) (x % 16) (by omega)
  rw [← e] at h2
  rw [h2, half_eq (x % 16) (by omega)]
  simp
theorem not32 (s : Nat) (h : s < 4294967296) : 4294967295 ^^^ s = 4294967295 - s := by
  apply Nat.eq_of_testBit_eq
  intro i
  have e := Nat.testBit_two_pow_sub_succ (n := 32) h i
  have e1 : 2 ^ 32 - (s + 1) = 4294967295 - s := by omega
  have e2 := Nat.testBit_two_pow_sub_one 32 i
  rw [e1] at e
  rw [Nat.testBit_xor, e]
  show ((2 ^ 32 - 1).testBit i ^^ s.testBit i) = _
  rw [e2]
  by_cases hi : i < 32
  · simp [hi]
  · have : s.testBit i = false := Nat.testBit_lt_two_pow (Nat.lt_of_lt_of_le h (show 2 ^ 32 ≤ 2 ^ i from Nat.pow_le_pow_right (by decide) (by omega)))
    simp [hi, this]

end Go.Proofs.YtopnfpobbemfbaaDoor

/- The walks of the chapter on sums of bytes. -/
namespace Go.Proofs.YtopnfpobbemfbaaDoor
open Go.RowKit

/-- The table lies there. -/
def Half (w : World) : Prop := 0 < w.heap.size ∧ ∀ i, i < 16 → w.cell? ⟨0, i, none⟩ = some (.int .u32 ((half[i]?.getD 0 : Nat) : Int))
theorem Half.below {w w' : World} {B : Nat} (hB : w.heap.size ≤ B) (hb : Below B w w') (h : Half w) : Half w' :=
  ⟨Nat.lt_of_lt_of_le h.1 hb.size, fun i hi => (hb.cell (p := ⟨0, i, none⟩) (Nat.lt_of_lt_of_le h.1 hB)).trans (h.2 i hi)⟩
theorem Half.grown {w w' : World} {t : Nat} (h : Half w) (hg : w.grownBy w' (some t)) (hne : t ≠ 0) : Half w' :=
  ⟨Nat.lt_of_lt_of_le h.1 hg.size, fun i hi => (World.cell?_of_block (hg.block 0 h.1 (fun e => hne (by cases e; rfl)))).trans (h.2 i hi)⟩

theorem max32 : IntKind.u32.max = ((4294967295 : Nat) : Int) := by decide
theorem not_u32 (s : Nat) (h : s < 4294967296) : bits .xor .u32 IntKind.u32.max (s : Int) = ((4294967295 - s : Nat) : Int) := by
  rw [max32, u32_xor_nat 4294967295 s (by decide) h, not32 s h]

theorem and15 (y : Nat) (h : y < 4294967296) : bits .and .u32 (y : Int) 15 = ((y % 16 : Nat) : Int) := by
  have e := u32_and_nat y 15 h (by decide)
  have e2 : y &&& 15 = y % 16 := Nat.and_two_pow_sub_one_eq_mod y 4
  rw [e2] at e
  exact e

set_option maxRecDepth 100000 in
set_option maxHeartbeats 1000000 in
theorem crcOn_any (sum : Nat) (a : Option Addr) (len cap : Nat) (l : List UInt8) (w : World) (hs : sum < 4294967296) (hbs : Bs w a len cap l) (hh : Half w) :
    Calls Tryd.prog 53 #[.int .u32 sum, .slice a len cap] w fun e w' => e = .returned (.int .u32 (crcOn sum l)) ∧ w = w' := by
  have hll := Lib.hid hbs.len
  have hm := hbs.cap
  unfold maxLen at hm
  have hn := not_u32 sum hs
  obtain ⟨x0, hx0⟩ : ∃ x0, x0 = 4294967295 - sum := ⟨_, rfl⟩
  have hres : crcOn sum l = 4294967295 - crcX x0 l := by rw [hx0]; rfl
  have hx0b : x0 < 4294967296 := by omega
  rw [← hx0] at hn
  have HR := Lib.hid hres
  clear hx0 hres
  go_enter Tryd.func53, Tryd.ntmps53
  go_wp2
  go_loop [5, 12] (fun x i => ∃ k : Nat, k ≤ len ∧ i = .int .i64 k ∧ x = .int .u32 (crcX x0 (l.take k))) (fun _ i => len - (intOf i).toNat)
  case atStart => exact ⟨0, Nat.zero_le _, rfl, rfl⟩
  case round =>
    obtain ⟨k, hk, rfl, rfl⟩ := hrel
    by_cases hlt : k < len
    · obtain ⟨b, off, rfl, hb, hcell⟩ := hbs.cell hlt
      have hck := hcell k hlt
      have hxl := crcX_lt (l.take k) hx0b
      have hst : crcX x0 (l.take (k + 1)) = stepC (crcX x0 (l.take k)) (l[k]?.getD 0) := by
        rw [List.take_add_one, List.getElem?_eq_getElem (by rw [hll.out]; exact hlt)]; exact crcX_snoc _ _ _
      have hcb : (l[k]?.getD 0).toNat < 256 := (l[k]?.getD 0).toNat_lt
      generalize l[k]?.getD 0 = c at *
      generalize crcX x0 (l.take k) = x at *
      have H := Lib.hid hst
      clear hst hcell
      have hx1 := u32_xor_nat x c.toNat (by omega) (by omega)
      have hy := xor_lt hxl (show c.toNat < 4294967296 by omega)
      have hy8 : stepC x c = steps 4 (steps 4 (x ^^^ c.toNat)) := steps_add 4 4 _
      have hz := steps_lt 4 hy
      have f1 := steps_four (x ^^^ c.toNat)
      have f2 := steps_four (steps 4 (x ^^^ c.toNat))
      generalize x ^^^ c.toNat = y at *
      generalize hzz : steps 4 y = z at *
      generalize stepC x c = q at *
      generalize hqq : steps 4 z = q' at *
      have hq4 := steps_lt 4 hz
      rw [hqq] at hq4
      have h1 : y % 16 < 16 := by omega
      have h2 : z % 16 < 16 := by omega
      have t1 := hh.2 (y % 16) h1
      have t2 := hh.2 (z % 16) h2
      have hv1 : half[y % 16]?.getD 0 < 4294967296 := by rw [half_eq _ h1]; exact steps_lt 4 (by omega)
      have hv2 : half[z % 16]?.getD 0 < 4294967296 := by rw [half_eq _ h2]; exact steps_lt 4 (by omega)
      generalize half[y % 16]?.getD 0 = v1 at *
      generalize half[z % 16]?.getD 0 = v2 at *
      have hxo1 := u32_xor_nat (y / 16) v1 (by omega) hv1
      have hxo2 := u32_xor_nat (z / 16) v2 (by omega) hv2
      rw [← f1] at hxo1
      rw [← f2] at hxo2
      have hxo1 : bits .xor .u32 ((y : Int) / 16) (v1 : Int) = (z : Int) := hxo1
      have hxo2 : bits .xor .u32 ((z : Int) / 16) (v2 : Int) = (q' : Int) := hxo2
      have HQ := Lib.hid hy8
      have a1 := and15 y hy
      have a2 := and15 z hz
      clear f1 f2 hy8 hzz hqq hh
      go_wp2
      go_round
      case rel => exact ⟨k + 1, by omega, by go_num, by rw [H.out, HQ.out]⟩
      case measure => simp [intOf]; omega
    · obtain rfl : k = len := by omega
      have hx : l.take k = l := List.take_of_length_le (by rw [hll.out]; exact Nat.le_refl _)
      rw [hx]
      have hxl := crcX_lt l hx0b
      have hn2 := not_u32 (crcX x0 l) hxl
      rw [← HR.out] at hn2
      clear hx
      go_wp2
      go_ret
      exact ⟨rfl, rfl⟩

set_option maxRecDepth 100000 in
set_option maxHeartbeats 1000000 in
theorem crcOf_any (a : Option Addr) (len cap : Nat) (l : List UInt8) (w : World) (hbs : Bs w a len cap l) (hh : Half w) :
    Calls Tryd.prog 43 #[.slice a len cap] w fun e w' => e = .returned (.int .u32 (crcOf l)) ∧ w = w' := by
  go_enter Tryd.func43, Tryd.ntmps43
  go_wp2_with fail
  refine (crcOn_any 0 a len cap l w (by omega) hbs hh).mono ?_
  rintro e w' ⟨rfl, rfl⟩
  go_wp2
  go_ret
  exact ⟨rfl, rfl⟩

set_option maxRecDepth 100000 in
set_option maxHeartbeats 2000000 in
theorem refOn_any (sum : Nat) (l : List UInt8) (w : World) (hs : sum < 4294967296) (hl : l.length ≤ 9223372036854775807) :
    Calls Tryd.prog 54 #[.int .u32 sum, .string (strOf l)] w fun e w' => e = .returned (.int .u32 (crcOn sum l)) ∧ w = w' := by
  have hsz := strOf_size l
  obtain ⟨x0, hx0⟩ : ∃ x0, x0 = 4294967295 - sum := ⟨_, rfl⟩
  have hres : crcOn sum l = 4294967295 - crcX x0 l := by rw [hx0]; rfl
  have hx0b : x0 < 4294967296 := by omega
  have hx0c : (x0 : Int) = 4294967295 - (sum : Int) := by omega
  have HR := Lib.hid hres
  have HX := Lib.hid hx0c
  clear hx0 hres hx0c
  go_enter Tryd.func54, Tryd.ntmps54
  go_wp2
  go_loop [5, 6, 7, 8] (fun x i _ _ => ∃ k : Nat, k ≤ l.length ∧ i = .int .i64 k ∧ x = .int .u32 (crcX x0 (l.take k))) (fun _ i _ _ => l.length - (intOf i).toNat)
  case atStart => exact ⟨0, Nat.zero_le _, rfl, by show _ = Value.int .u32 (x0 : Int); rw [HX.out]⟩
  case round =>
    obtain ⟨k, hk, rfl, rfl⟩ := hrel
    by_cases hlt : k < l.length
    · have hxl := crcX_lt (l.take k) hx0b
      have hst : crcX x0 (l.take (k + 1)) = stepC (crcX x0 (l.take k)) (l[k]?.getD 0) := by
        rw [List.take_add_one, List.getElem?_eq_getElem hlt]; exact crcX_snoc _ _ _
      have hget := strOf_get l k hlt
      have hcb : (l[k]?.getD 0).toNat < 256 := (l[k]?.getD 0).toNat_lt
      generalize l[k]?.getD 0 = c at *
      generalize crcX x0 (l.take k) = x at *
      have H := Lib.hid hst
      clear hst
      have hx1 := u32_xor_nat x c.toNat (by omega) (by omega)
      have hy := xor_lt hxl (show c.toNat < 4294967296 by omega)
      have hq : stepC x c = steps 8 (x ^^^ c.toNat) := rfl
      generalize x ^^^ c.toNat = y at *
      generalize stepC x c = q at *
      have HQ := Lib.hid hq
      clear hq
      go_wp2
      go_loop [5, 7, 8] (fun x kk _ => ∃ j : Nat, j ≤ 8 ∧ kk = .int .i64 j ∧ x = .int .u32 (steps j y)) (fun _ kk _ => 8 - (intOf kk).toNat)
      case atStart => exact ⟨0, by omega, rfl, rfl⟩
      case round =>
        obtain ⟨j, hj, rfl, rfl⟩ := hrel
        by_cases hj8 : j < 8
        · have hz := steps_lt j hy
          have hs1 := steps_succ j y
          generalize steps j y = z at *
          have HS := Lib.hid hs1
          clear hs1
          have hpo := u32_xor_nat (z / 2) 3988292384 (by omega) (by omega)
          have hpo : bits .xor .u32 ((z : Int) / 2) 3988292384 = ((z / 2 ^^^ 3988292384 : Nat) : Int) := hpo
          by_cases ho : z % 2 = 1
          · have hb : (((z : Int) % 2) == 1) = true := by simp; omega
            have hbz : stepB z = z / 2 ^^^ 3988292384 := by rw [stepB, if_pos ho]
            have HB := Lib.hid hbz
            clear hbz ho
            go_wp2
            go_round
            case rel => exact ⟨j + 1, by omega, by go_num, by rw [HS.out, HB.out]⟩
            case measure => simp [intOf]; omega
          · have hb : (((z : Int) % 2) == 1) = false := by simp; omega
            have hbz : stepB z = z / 2 := by rw [stepB, if_neg ho]
            have HB := Lib.hid hbz
            clear hbz ho hpo
            go_wp2
            go_round
            case rel => exact ⟨j + 1, by omega, by go_num, by rw [HS.out, HB.out]; go_num⟩
            case measure => simp [intOf]; omega
        · obtain rfl : j = 8 := by omega
          rw [← HQ.out]
          go_wp2
          go_round
          case rel => exact ⟨k + 1, by omega, by go_num, by rw [H.out]⟩
          case measure => simp [intOf]; omega
    · obtain rfl : k = l.length := by omega
      rw [List.take_length]
      have hxl := crcX_lt l hx0b
      have hn2 : (4294967295 : Int) - (crcX x0 l : Int) = (crcOn sum l : Int) := by rw [HR.out]; omega
      go_wp2
      go_ret
      exact ⟨rfl, rfl⟩

set_option maxRecDepth 100000 in
set_option maxHeartbeats 1000000 in
theorem refOf_any (l : List UInt8) (w : World) (hl : l.length ≤ 9223372036854775807) :
    Calls Tryd.prog 46 #[.string (strOf l)] w fun e w' => e = .returned (.int .u32 (crcOf l)) ∧ w = w' := by
  go_enter Tryd.func46, Tryd.ntmps46
  go_wp2_with fail
  refine (refOn_any 0 l w (by omega) hl).mono ?_
  rintro e w' ⟨rfl, rfl⟩
  go_wp2
  go_ret
  exact ⟨rfl, rfl⟩
end Go.Proofs.YtopnfpobbemfbaaDoor

/- Pages of cells, said plainly. -/
namespace Go.Proofs.YtopnfpobbemfbaaDoor

def lens (l : List (List UInt8)) : Nat := (l.map List.length).sum
theorem lens_nil : lens [] = 0 := rfl
theorem lens_append (a b : List (List UInt8)) : lens (a ++ b) = lens a + lens b := by simp [lens]
theorem lens_one (c : List UInt8) : lens [c] = c.length := by simp [lens]
theorem take_snoc {α : Type} (l : List α) (k : Nat) (d : α) (h : k < l.length) : l.take (k + 1) = l.take k ++ [l[k]?.getD d] := by
  rw [List.take_add_one, List.getElem?_eq_getElem h]; rfl
theorem lens_take_succ (l : List (List UInt8)) (k : Nat) (h : k < l.length) : lens (l.take (k + 1)) = lens (l.take k) + (l[k]?.getD []).length := by
  rw [take_snoc l k [] h, lens_append, lens_one]
theorem lens_take_le (l : List (List UInt8)) (k : Nat) : lens (l.take k) ≤ lens l := by
  have h := lens_append (l.take k) (l.drop k)
  rw [List.take_append_drop] at h
  omega

/-- The slots: where each cell begins, the first one's end being 'e'. -/
def slotsOf : Nat → List (List UInt8) → List UInt8
  | _, [] => []
  | e, c :: r => UInt8.ofNat (e - c.length) :: slotsOf (e - c.length) r
/-- The cells, the last one ahead. -/
def backOf (l : List (List UInt8)) : List UInt8 := l.reverse.flatten
theorem slotsOf_length (l : List (List UInt8)) : ∀ e, (slotsOf e l).length = l.length := by
  induction l with
  | nil => intro e; rfl
  | cons c r ih => intro e; simp [slotsOf, ih]
theorem slotsOf_append (l m : List (List UInt8)) : ∀ e, slotsOf e (l ++ m) = slotsOf e l ++ slotsOf (e - lens l) m := by
  induction l with
  | nil => intro e; simp [slotsOf, lens]
  | cons c r ih => intro e; simp [slotsOf, ih, lens, Nat.sub_sub]
theorem backOf_append (l m : List (List UInt8)) : backOf (l ++ m) = backOf m ++ backOf l := by simp [backOf]
theorem backOf_one (c : List UInt8) : backOf [c] = c := by simp [backOf]
theorem backOf_length (l : List (List UInt8)) : (backOf l).length = lens l := by
  induction l with
  | nil => rfl
  | cons c r ih =>
    have h1 : c :: r = [c] ++ r := rfl
    rw [h1, backOf_append, List.length_append, ih, backOf_one, lens_append, lens_one]; omega

/-- What is summed of a page. -/
def bodyOf (kind : UInt8) (n : Nat) (l : List (List UInt8)) : List UInt8 :=
  kind :: UInt8.ofNat n :: (slotsOf 128 l ++ (List.replicate (122 - l.length - lens l) 0 ++ backOf l))
def pageOf (kind : UInt8) (l : List (List UInt8)) : List UInt8 := beBytes (crcOf (bodyOf kind l.length l)) 4 ++ bodyOf kind l.length l
theorem bodyOf_length (kind : UInt8) (n : Nat) (l : List (List UInt8)) (h : l.length + lens l ≤ 122) : (bodyOf kind n l).length = 124 := by
  simp [bodyOf, slotsOf_length, backOf_length]; omega

/-- The page while it is laid: no sum yet. -/
def rawOf (kind : UInt8) (n : Nat) (l : List (List UInt8)) : List UInt8 := [0, 0, 0, 0] ++ bodyOf kind n l
theorem rawOf_length (kind : UInt8) (n : Nat) (l : List (List UInt8)) (h : l.length + lens l ≤ 122) : (rawOf kind n l).length = 128 := by
  rw [rawOf, List.length_append, bodyOf_length kind n l h]; rfl
theorem rawOf_nil (kind : UInt8) (n : Nat) : rawOf kind n [] = ((List.replicate 128 (0 : UInt8)).set 4 kind).set 5 (UInt8.ofNat n) := by
  simp [rawOf, bodyOf, slotsOf, backOf, lens, List.replicate, List.set]

theorem splice_mid {α : Type} (a z c b : List α) (h : c.length ≤ z.length) : splice (a ++ (z ++ b)) (a.length + (z.length - c.length)) c = a ++ (z.take (z.length - c.length) ++ (c ++ b)) := by
  unfold splice
  have e1 : (a ++ (z ++ b)).take (a.length + (z.length - c.length)) = a ++ z.take (z.length - c.length) := by
    rw [List.take_append, List.take_of_length_le (by omega)]
    congr 1
    rw [List.take_append_of_le_length (by omega)]
    congr 1; omega
  have e2 : (a ++ (z ++ b)).drop (a.length + (z.length - c.length) + c.length) = b := by
    have : a.length + (z.length - c.length) + c.length = (a ++ z).length := by simp; omega
    rw [this, ← List.append_assoc, List.drop_append, List.drop_length]; simp
  rw [e1, e2]; simp

/-- One cell more is laid. -/
theorem raw_step (kind : UInt8) (n : Nat) (l : List (List UInt8)) (c : List UInt8) (h : l.length + 1 + lens l + c.length ≤ 122) :
    (splice (rawOf kind n l) (128 - lens l - c.length) c).set (6 + l.length) (UInt8.ofNat (128 - lens l - c.length)) = rawOf kind n (l ++ [c]) := by
  have e1 : rawOf kind n l = ([0, 0, 0, 0, kind, UInt8.ofNat n] ++ slotsOf 128 l) ++ (List.replicate (122 - l.length - lens l) 0 ++ backOf l) := by simp [rawOf, bodyOf]
  have e2 := splice_mid ([0, 0, 0, 0, kind, UInt8.ofNat n] ++ slotsOf 128 l) (List.replicate (122 - l.length - lens l) 0) c (backOf l) (by simp; omega)
  have e3 : ([0, 0, 0, 0, kind, UInt8.ofNat n] ++ slotsOf 128 l).length + ((List.replicate (122 - l.length - lens l) (0 : UInt8)).length - c.length) = 128 - lens l - c.length := by
    simp [slotsOf_length]; omega
  rw [e3] at e2
  rw [e1, e2, List.set_append_right _ _ (by simp [slotsOf_length]; omega)]
  have e4 : 6 + l.length - ([0, 0, 0, 0, kind, UInt8.ofNat n] ++ slotsOf 128 l).length = 0 := by simp [slotsOf_length]; omega
  obtain ⟨m, hm⟩ : ∃ m, 122 - l.length - lens l - c.length = m + 1 := ⟨122 - l.length - lens l - c.length - 1, by omega⟩
  have e5 : (List.replicate (122 - l.length - lens l) (0 : UInt8)).take ((List.replicate (122 - l.length - lens l) (0 : UInt8)).length - c.length) = 0 :: List.replicate m 0 := by
    rw [List.length_replicate, List.take_replicate, Nat.min_eq_left (by omega), hm, List.replicate_succ]
  rw [e4, e5]
  have e6 : 122 - (l ++ [c]).length - lens (l ++ [c]) = m := by simp [lens_append, lens_one]; omega
  simp only [rawOf, bodyOf, slotsOf_append, backOf_append, backOf_one, e6, slotsOf, List.cons_append, List.nil_append, List.append_assoc, List.set_cons_zero]

/-- The sum is laid. -/
theorem raw_sum (kind : UInt8) (n : Nat) (l : List (List UInt8)) (s : List UInt8) (h : s.length = 4) : splice (rawOf kind n l) 0 s = s ++ bodyOf kind n l := by
  unfold splice rawOf
  rw [h]; rfl
end Go.Proofs.YtopnfpobbemfbaaDoor

/- The walks of the chapter on numbers and texts as bytes: what is taken. -/
namespace Go.Proofs.YtopnfpobbemfbaaDoor
open Go.RowKit

theorem size_bytes (w : World) : (sizeOf (Tryd.prog.elem 32)).run Tryd.prog w = .ok 1 w := by kernel_rfl
theorem elem_bytes : Tryd.prog.underlying 32 = some (.slice (Tryd.prog.elem 32)) := by kernel_rfl

/-- A taker stands there, in such a state. -/
def Tk (w : World) (t : Nat) (s : TSt) : Prop :=
  ∃ a cap, w.heap[t]? = some (.cells #[.slice a s.l.length cap, .int .i64 s.e] 124 (0, 0)) ∧ Bs w a s.l.length cap s.l

theorem Tk.lt {w : World} {t : Nat} {s : TSt} (h : Tk w t s) : t < w.heap.size := by
  obtain ⟨a, cap, h1, _⟩ := h; exact (Array.getElem?_eq_some_iff.1 h1).1

/-- The bytes don't stand in the taker's own block. -/
theorem bs_ne {w : World} {t : Nat} {a b : Option Addr} {n m len cap : Nat} {e : Int} {T : TypeId} {l : List UInt8} (h1 : w.heap[t]? = some (.cells #[.slice b n m, .int .i64 e] T (0, 0))) (h2 : Bs w a len cap l) :
    ∀ b off, len ≠ 0 → a = some ⟨b, off, none⟩ → some t ≠ some b := by
  intro b off hl ha hb
  cases hb
  obtain ⟨b', off', e1, _, h7⟩ := h2.cell (k := 0) (by omega)
  rw [ha] at e1
  cases e1
  have := h7 0 (by omega)
  simp only [World.cell?, h1, Nat.add_zero] at this
  match off, this with
  | 0, this => simp at this
  | 1, this => simp at this
  | n + 2, this => simp at this

theorem Tk.grown {w w' : World} {t : Nat} {s : TSt} {row : Option Nat} (h : Tk w t s) (hg : w.grownBy w' row) (hne : row ≠ some t) (hb : ∀ a n m b off, w.heap[t]? = some (.cells #[.slice a n m, .int .i64 s.e] 124 (0, 0)) → s.l.length ≠ 0 → a = some ⟨b, off, none⟩ → row ≠ some b) : Tk w' t s := by
  obtain ⟨a, cap, h1, h2⟩ := h
  exact ⟨a, cap, (hg.block t (Array.getElem?_eq_some_iff.1 h1).1 (fun e => hne e.symm)).trans h1, h2.grown hg (fun b off h3 h4 => hb a _ _ b off h1 h3 h4)⟩
theorem Tk.below {w w' : World} {t : Nat} {s : TSt} {B : Nat} (hB : w.heap.size ≤ B) (hb : Below B w w') (h : Tk w t s) : Tk w' t s := by
  obtain ⟨a, cap, h1, h2⟩ := h
  exact ⟨a, cap, (hb.block t (Nat.lt_of_lt_of_le (Array.getElem?_eq_some_iff.1 h1).1 hB)).trans h1, h2.below hB hb⟩

/-- What a call on a taker leaves: a value; the taker in a new state; all else that was there as it was. -/
def TkPost (w : World) (t : Nat) (R : World → Value → Prop) (s' : TSt) (e : Ending) (w' : World) : Prop :=
  ∃ v, e = .returned v ∧ R w' v ∧ w.grownBy w' (some t) ∧ Tk w' t s'

theorem beVal_step (l : List UInt8) (k : Nat) (h : k < l.length) : beVal (l.take (k + 1)) = beVal (l.take k) * 256 + (l[k]?.getD 0).toNat := by
  rw [List.take_add_one, List.getElem?_eq_getElem h]; exact beVal_snoc _ _

set_option maxRecDepth 100000 in
set_option maxHeartbeats 1000000 in
theorem num1_any (a : Option Addr) (len cap : Nat) (l : List UInt8) (w : World) (h : Bs w a len cap l) (h8 : len ≤ 8) :
    Calls Tryd.prog 62 #[.slice a len cap] w fun e w' => e = .returned (.int .u64 (beVal l)) ∧ w = w' := by
  have hll := Lib.hid h.len
  have hm := h.cap.2
  have hc := h.cap.1
  unfold maxLen at hm
  go_enter Tryd.func62, Tryd.ntmps62
  go_wp2
  go_loop [3, 8] (fun x i => ∃ k : Nat, k ≤ len ∧ i = .int .i64 k ∧ x = .int .u64 (beVal (l.take k))) (fun _ i => len - (intOf i).toNat)
  case atStart => exact ⟨0, Nat.zero_le _, rfl, rfl⟩
  case round =>
    obtain ⟨k, hk, rfl, rfl⟩ := hrel
    by_cases hlt : k < len
    · obtain ⟨b, off, rfl, hb, hcell⟩ := h.cell hlt
      have hck := hcell k hlt
      have hst := beVal_step l k (by rw [hll.out]; exact hlt)
      have hbd : beVal (l.take k) < 72057594037927936 := by
        have h1 := beVal_lt (l.take k)
        have h2 : (l.take k).length ≤ 7 := by simp; omega
        have h3 : 256 ^ (l.take k).length ≤ 256 ^ 7 := Nat.pow_le_pow_right (by decide) h2
        omega
      have hcb := (l[k]?.getD 0).toNat_lt
      generalize (l[k]?.getD 0).toNat = c at *
      generalize beVal (l.take k) = x at *
      have H := Lib.hid hst
      clear hst hcell
      have hor := or256 x c hbd hcb
      go_wp2
      go_round
      case rel => exact ⟨k + 1, by omega, by go_num, by rw [H.out]; go_num⟩
      case measure => simp [intOf]; omega
    · obtain rfl : k = len := by omega
      have hx : l.take k = l := List.take_of_length_le (by rw [hll.out]; exact Nat.le_refl _)
      rw [hx]
      clear hx
      go_wp2
      go_ret
      exact ⟨rfl, rfl⟩

set_option maxRecDepth 100000 in
set_option maxHeartbeats 1000000 in
theorem clone_any (a : Option Addr) (len cap : Nat) (l : List UInt8) (w : World) (h : Bs w a len cap l) (hreach : len ≤ 140737488351232) :
    Calls Tryd.prog 60 #[.slice a len cap] w (OwnBytes 5 w l) := by
  obtain ⟨i0, hi, hz0, hz1, hz2⟩ := info_parts info_u8
  have hll := Lib.hid h.len
  cases a with
  | none =>
    have hc := h.2.2.2.1 rfl
    have h0 : len = 0 := by have := h.2.1; omega
    subst hc h0
    have hl0 : l = [] := List.eq_nil_of_length_eq_zero h.len
    have HL := Lib.hid hl0
    clear hl0
    have hq : ∀ W : World, (binOp .eql 32 (.slice none 0 0) (.slice none 0 0)).run Tryd.prog W = .ok (.bool true) W := fun W => Lib.run_eql_slice_nil W _ _ none 0 0 0 0 Tryd.underlying32
    go_enter Tryd.func60, Tryd.ntmps60
    go_wp2
    go_ret
    exact ⟨_, rfl, by rw [HL.out]; exact ⟨rfl, .inl ⟨rfl, rfl⟩⟩, Below.refl _ _⟩
  | some x =>
    have hm := h.cap.2
    unfold maxLen at hm
    have hq : ∀ W : World, (binOp .eql 32 (.slice (some x) len cap) (.slice none 0 0)).run Tryd.prog W = .ok (.bool false) W := fun W => Lib.run_eql_slice_nil W _ _ (some x) len cap 0 0 Tryd.underlying32
    go_enter Tryd.func60, Tryd.ntmps60
    go_wp2_with (at_builtin; refine wpList_append_row rfl _ _ 32 rfl w.heap.size 5 i0 _ 1 Tryd.underlying32 hi hz0 hz1 hz2 rfl _ 0 [] rfl (own_made .u8 w 5 [] rfl (Nat.le_refl _) (by unfold maxLen; simp)) .u8 (some x) len cap (toI l) rfl (h.below (Nat.le_refl _) ((Below.refl _ _).alloc (Nat.le_refl _) _)) (by unfold maxLen; omega) (by omega) (by simp) ?_)
    intro v2 w2 hown hg
    have hB := ((Below.refl w.heap.size w).alloc (Nat.le_refl _) (.cells #[] 5)).grown hg (by simp) (fun k e => by cases e; exact Nat.le_refl _)
    clear hg
    have hown' : w2.ownsRow w.heap.size 5 1 v2 l.length ((toI l).map (Value.int .u8)) := by
      rw [hll.out]; simpa using hown
    clear hown
    go_wp2
    go_ret
    exact ⟨_, rfl, hown', hB⟩
end Go.Proofs.YtopnfpobbemfbaaDoor
