/- Texts that other texts of this claim lean on, one behind the other. -/
import Derived.Test.YtpghlmcoajaiiaaGreatDoorRows
import Derived.WalkKit
import Derived.WalkSpells
import Derived.WalkLawsBesides
import Derived.Lib.Hide
import Derived.RangeFuncRecord
import Derived.Deep.QuietTactic
import Derived.BigQuiet
import Derived.Laws.AppendOwn
import Derived.Laws.AppendOwnNone
import Derived.Laws.BytesArg
import Derived.Laws.MakeOwn
import Derived.Laws.BitsAllLaws
import Derived.Lib.AppendStr
import Derived.Lib.BufferRead
import Derived.Maps.AppendAt
import Derived.Laws.OwnMore
import Derived.Deep.AppendLies
import Derived.RegionTactic
import Derived.OwnWalk
import Derived.Deep.Slices
import Derived.ProofKit
import Derived.ChangeOld
import Derived.Laws.Append
/- Words shared by the walks: what a slice of numbers reads as; worlds that only grew. -/
namespace Go.Proofs.YtpghlmcoajaiiaaGreatDoor
open Go.RowKit

/-- A slice value of so many numbers of a kind: it leads to the cells that hold them. -/
def Row (k : IntKind) (w : World) (a : Option Addr) (len cap : Nat) (l : List Int) : Prop :=
  l.length = len ∧ len ≤ cap ∧ cap ≤ maxLen ∧ (a = none → cap = 0) ∧ (len = 0 ∨ ∃ b off, a = some ⟨b, off, none⟩ ∧ b < w.heap.size ∧
    ∀ i, i < len → w.cell? ⟨b, off + i, none⟩ = some (.int k (l[i]?.getD 0)))


theorem Row.below {k : IntKind} {w w' : World} {a : Option Addr} {len cap : Nat} {l : List Int} {B : Nat} (hB : w.heap.size ≤ B) (hb : Below B w w') (h : Row k w a len cap l) : Row k w' a len cap l := by
  obtain ⟨h1, h2, h3, hn, h4⟩ := h
  refine ⟨h1, h2, h3, hn, ?_⟩
  rcases h4 with h4 | ⟨b, off, h5, h6, h7⟩
  · exact .inl h4
  · exact .inr ⟨b, off, h5, by have := hb.size; omega, fun i hi => (hb.cell (p := ⟨b, off + i, none⟩) (by simp; omega)).trans (h7 i hi)⟩

theorem Row.take {k : IntKind} {w : World} {a : Option Addr} {len cap : Nat} {l : List Int} (j : Nat) (hj : j ≤ len) (h : Row k w a len cap l) : Row k w a j cap (l.take j) := by
  obtain ⟨h1, h2, h3, hn, h4⟩ := h
  refine ⟨by simp; omega, by omega, h3, hn, ?_⟩
  rcases h4 with h4 | ⟨b, off, h5, h6, h7⟩
  · exact .inl (by omega)
  · exact .inr ⟨b, off, h5, h6, fun i hi => by rw [h7 i (by omega)]; simp [hi]⟩

/-- The address at which the rest of a slice begins, under one name, and the run of the slice expression. -/
theorem slice_from {P : Program} {T : TypeId} (hT : P.underlying T = some (.slice (P.elem T))) {z : Nat} (hz : ∀ w, (sizeOf (P.elem T)).run P w = .ok z w) (a : Option Addr) (len cap j : Nat) (hj : j ≤ len) :
    ∃ a2, a2 = (if cap = j then a else a.map (·.add (j * z))) ∧ ∀ (k : IntKind) w, (Instr.slice T (.slice a len cap) (some (.int k j)) none none).run P w = .ok (.slice a2 (len - j) (cap - j)) w := by
  refine ⟨_, rfl, fun k w => ?_⟩
  rw [run_slice_l w T a len cap hT k j (by omega) (by omega), hz]
  rfl

theorem Row.drop {k : IntKind} {w : World} {a : Option Addr} {len cap : Nat} {l : List Int} (j : Nat) (hj : j ≤ len) (h : Row k w a len cap l) :
    Row k w (if cap = j then a else a.map (·.add (j * 1))) (len - j) (cap - j) (l.drop j) := by
  obtain ⟨h1, h2, h3, hn, h4⟩ := h
  refine ⟨by simp; omega, by omega, by omega, (fun h => by
    have : cap = 0 := by
      by_cases e : cap = j
      · rw [if_pos e] at h; exact hn h
      · rw [if_neg e] at h; exact hn (by simpa using h)
    omega), ?_⟩
  rcases h4 with h4 | ⟨b, off, rfl, h6, h7⟩
  · exact .inl (by omega)
  · by_cases e : cap = j
    · exact .inl (by omega)
    · exact .inr ⟨b, off + j, by simp [e, Addr.add], h6, fun i hi => by rw [Nat.add_assoc, h7 (j + i) (by omega)]; simp⟩

theorem Row.made (k : IntKind) (W : World) (t : TypeId) (l : List Int) {b : Nat} (hb : W.heap.size = b) (h : l.length ≤ maxLen) :
    Row k (W.alloc (.cells (l.map (Value.int k)).toArray t)) (some ⟨b, 0, none⟩) l.length l.length l := by
  subst hb
  refine ⟨rfl, Nat.le_refl _, h, (fun h => by cases h), .inr ⟨_, _, rfl, by simp, fun i hi => ?_⟩⟩
  have := World.alloc_heap_new W (.cells (l.map (Value.int k)).toArray t)
  simp only [World.cell?, this]
  simp [hi]


/-- A row of the call's own reads as a row. -/
theorem Row.of_own {k : IntKind} {w : World} {base : Nat} {e : TypeId} {v : Value} {n : Nat} {l : List Int} (h : w.ownsRow base e 1 v n (l.map (Value.int k))) :
    ∃ a cap, v = .slice a n cap ∧ Row k w a n cap l := by
  obtain ⟨h1, h2⟩ := h
  simp only [List.length_map, Nat.mul_one] at h1
  rcases h2 with ⟨rfl, rfl⟩ | ⟨g, cap, cur, rfl, hb, hg, hn, hm, hc, ht⟩
  · exact ⟨none, 0, rfl, h1, Nat.le_refl _, by unfold maxLen; omega, fun _ => rfl, .inl rfl⟩
  · refine ⟨_, cap, rfl, h1, hn, hm, (fun h => by cases h), .inr ⟨g, 0, rfl, (Array.getElem?_eq_some_iff.1 hg).1, fun i hi => ?_⟩⟩
    simp only [World.cell?, hg, Nat.zero_add]
    have e : (cur.toList.take (n * 1))[i]? = cur.toList[i]? := List.getElem?_take_of_lt (by omega)
    rw [ht] at e
    rw [← Array.getElem?_toList, ← e]
    simp [show i < l.length by omega]

/-- A fresh row is the call's own. -/
theorem own_made (k : IntKind) (W : World) (t : TypeId) (l : List Int) {b : Nat} (hb : W.heap.size = b) {base : Nat} (hbase : base ≤ b) (h : l.length ≤ maxLen) :
    (W.alloc (.cells (l.map (Value.int k)).toArray t)).ownsRow base t 1 (.slice (some ⟨b, 0, none⟩) l.length l.length) l.length (l.map (Value.int k)) := by
  subst hb
  exact ⟨by simp, .inr ⟨_, _, _, rfl, hbase, World.alloc_heap_new W _, Nat.le_refl _, h, by simp, List.take_of_length_le (by simp)⟩⟩

/-- A row of the call's own lies where the call's own blocks lie. -/
theorem own_ge {w : World} {base : Nat} {e : TypeId} {size : Nat} {v : Value} {n : Nat} {xs : List Value} (h : w.ownsRow base e size v n xs) : ∀ k, v.ownBlock = some k → base ≤ k := by
  intro k hk
  rcases h.2 with ⟨rfl, rfl⟩ | ⟨g, cap, cur, rfl, hb, _⟩
  · cases hk
  · cases hk; exact hb

/-- 'append' to a row of the call's own, of what any row of numbers holds. -/
theorem wpList_append_row {P : Program} {w : World} {ops : Array Oper} {rest : List Oper} {o : Oper} {act : Act} {Q : Exit → Act → World → Prop} (hgd : o.guard = none) (s x : Operand) (t : TypeId)
    (ho : o.op = .call { callee := .builtin .append, args := #[s, x], argTypes := #[t, t] })
    (base : Nat) (e : TypeId) (i : TypeInfo) (z : Value) (bytes : Nat) (ht : P.underlying t = some (.slice e)) (hi : P.info? e = some i) (hz : i.zero = some z)
    (hsize : i.size = 1) (hby : i.bytes = bytes) (hzs : z.cells.size = 1)
    (v : Value) (n : Nat) (xs : List Value) (hs : act.eval s = v) (hown : w.ownsRow base e 1 v n xs)
    (k : IntKind) (a : Option Addr) (m c : Nat) (l : List Int) (hx : act.eval x = .slice a m c) (hrow : Row k w a m c l)
    (h63 : n + m ≤ maxLen) (hbytes : (n + m) * bytes ≤ 140737488355328) (hbase : base ≤ w.heap.size)
    (h : ∀ v' w', w'.ownsRow base e 1 v' (n + m) (xs ++ l.map (Value.int k)) → w.grownBy w' v.ownBlock → wpList P ops Q rest (act.put o.dst v') w') : wpList P ops Q (o :: rest) act w := by
  obtain ⟨h1, h2, h3, hn, h4⟩ := hrow
  cases a with
  | none =>
    have hc := hn rfl
    have hm : m = 0 := by omega
    subst hc hm
    obtain rfl : l = [] := List.eq_nil_of_length_eq_zero h1
    exact wpList_append_own_none hgd s x t ho base e i 1 ht hi v n xs hs hown hx (h v w (by simpa using hown) ⟨rfl, rfl, rfl, Nat.le_refl _, fun _ _ _ => rfl⟩)
  | some ad =>
    refine wpList_append_own w hgd s x t ho base e i z 1 bytes ht hi hz hsize hby hzs (by decide) v n xs hs hown ad m c (l.map (Value.int k)) hx (by simp [h1]) ?_ (fun u hu => by
      obtain ⟨y, _, rfl⟩ := List.mem_map.1 hu; rfl) h63 hbytes hbase fun v' w' h5 h6 _ => h v' w' h5 h6
    intro j u hj
    simp only [List.getElem?_map, Option.map_eq_some_iff] at hj
    obtain ⟨y, hy, rfl⟩ := hj
    have hjl := (List.getElem?_eq_some_iff.1 hy).1
    rcases h4 with h4 | ⟨b, off, h5, h6, h7⟩
    · omega
    · cases h5
      have e : (⟨b, off, none⟩ : Addr).add j = ⟨b, off + j, none⟩ := by
        unfold Addr.add; split <;> simp_all
      rw [e, h7 j (by omega), hy]; rfl

theorem Row.drewN {k : IntKind} {w : World} {a : Option Addr} {len cap : Nat} {l : List Int} (h : Row k w a len cap l) (n : Nat) : Row k (w.drewN n) a len cap l := h


theorem below_drewN {B : Nat} {a w : World} (h : Below B a w) (n : Nat) : Below B a (w.drewN n) := h.trans ⟨rfl, rfl, rfl, Nat.le_refl _, fun _ _ => rfl⟩

theorem ret_int {k : IntKind} {a b : Int} (h : a = b) : Ending.returned (.int k a) = .returned (.int k b) := by rw [h]

end Go.Proofs.YtpghlmcoajaiiaaGreatDoor

/- Bytes: slices of bytes and strings that read as lists of bytes. -/
namespace Go.Proofs.YtpghlmcoajaiiaaGreatDoor
open Go.RowKit

/-- The numbers that bytes are. -/
def toI (l : List UInt8) : List Int := l.map fun b => (b.toNat : Int)
theorem toI_length (l : List UInt8) : (toI l).length = l.length := by simp [toI]
theorem toI_take (l : List UInt8) (k : Nat) : (toI l).take k = toI (l.take k) := by simp [toI, List.map_take]
theorem toI_drop (l : List UInt8) (k : Nat) : (toI l).drop k = toI (l.drop k) := by simp [toI, List.map_drop]
theorem toI_append (l m : List UInt8) : toI l ++ toI m = toI (l ++ m) := by simp [toI]
theorem toI_get (l : List UInt8) (k : Nat) : (toI l)[k]?.getD 0 = ((l[k]?.getD 0).toNat : Int) := by
  simp only [toI, List.getElem?_map]
  cases l[k]? <;> simp

/-- A slice of bytes that reads as a list of bytes. -/
def Bs (w : World) (a : Option Addr) (len cap : Nat) (l : List UInt8) : Prop := Row .u8 w a len cap (toI l)

theorem Bs.below {w w' : World} {a : Option Addr} {len cap : Nat} {l : List UInt8} {B : Nat} (hB : w.heap.size ≤ B) (hb : Below B w w') (h : Bs w a len cap l) : Bs w' a len cap l := Row.below hB hb h
theorem Bs.drewN {w : World} {a : Option Addr} {len cap : Nat} {l : List UInt8} (h : Bs w a len cap l) (n : Nat) : Bs (w.drewN n) a len cap l := h
theorem Bs.take {w : World} {a : Option Addr} {len cap : Nat} {l : List UInt8} (j : Nat) (hj : j ≤ len) (h : Bs w a len cap l) : Bs w a j cap (l.take j) := by
  have := Row.take j hj h; rwa [toI_take] at this
theorem Bs.drop {w : World} {a : Option Addr} {len cap : Nat} {l : List UInt8} (j : Nat) (hj : j ≤ len) (h : Bs w a len cap l) : Bs w (if cap = j then a else a.map (·.add (j * 1))) (len - j) (cap - j) (l.drop j) := by
  have := Row.drop j hj h; rwa [toI_drop] at this
theorem Bs.len {w : World} {a : Option Addr} {len cap : Nat} {l : List UInt8} (h : Bs w a len cap l) : l.length = len := by have := h.1; rwa [toI_length] at this
theorem Bs.cap {w : World} {a : Option Addr} {len cap : Nat} {l : List UInt8} (h : Bs w a len cap l) : len ≤ cap ∧ cap ≤ maxLen := ⟨h.2.1, h.2.2.1⟩
theorem Bs.nil {w : World} {cap : Nat} (a : Option Addr) (h : cap ≤ maxLen) (hn : a = none → cap = 0) : Bs w a 0 cap [] := ⟨rfl, Nat.zero_le _, h, hn, .inl rfl⟩
theorem Bs.cell {w : World} {a : Option Addr} {len cap : Nat} {l : List UInt8} (h : Bs w a len cap l) {k : Nat} (hk : k < len) :
    ∃ b off, a = some ⟨b, off, none⟩ ∧ b < w.heap.size ∧ ∀ i, i < len → w.cell? ⟨b, off + i, none⟩ = some (.int .u8 ((l[i]?.getD 0).toNat : Int)) := by
  rcases h.2.2.2.2 with h0 | ⟨b, off, e, hb, hc⟩
  · omega
  · exact ⟨b, off, e, hb, fun i hi => by rw [hc i hi, toI_get]⟩
theorem Bs.of_own {w : World} {base : Nat} {e : TypeId} {v : Value} {n : Nat} {l : List UInt8} (h : w.ownsRow base e 1 v n ((toI l).map (Value.int .u8))) :
    ∃ a cap, v = .slice a n cap ∧ Bs w a n cap l := Row.of_own h

/-- The blocks that a change leaves alone keep the bytes. -/
theorem Row.grown {k : IntKind} {w w' : World} {a : Option Addr} {len cap : Nat} {l : List Int} {row : Option Nat} (hg : w.grownBy w' row) (hne : ∀ b off, len ≠ 0 → a = some ⟨b, off, none⟩ → row ≠ some b) (h : Row k w a len cap l) : Row k w' a len cap l := by
  obtain ⟨h1, h2, h3, hn, h4⟩ := h
  refine ⟨h1, h2, h3, hn, ?_⟩
  rcases h4 with h4 | ⟨b, off, h5, h6, h7⟩
  · exact .inl h4
  · by_cases h0 : len = 0
    · exact .inl h0
    · refine .inr ⟨b, off, h5, by have := hg.size; omega, fun i hi => ?_⟩
      rw [← h7 i hi]
      exact World.cell?_of_block (hg.block b h6 (fun e => hne b off h0 h5 e.symm))
theorem Bs.grown {w w' : World} {a : Option Addr} {len cap : Nat} {l : List UInt8} {row : Option Nat} (hg : w.grownBy w' row) (hne : ∀ b off, len ≠ 0 → a = some ⟨b, off, none⟩ → row ≠ some b) (h : Bs w a len cap l) : Bs w' a len cap l := Row.grown hg hne h

/-! strings -/
/-- The string of bytes. -/
def strOf (l : List UInt8) : ByteArray := ⟨l.toArray⟩
theorem strOf_list (l : List UInt8) : (strOf l).data.toList = l := by simp [strOf]
theorem strOf_size (l : List UInt8) : (strOf l).size = l.length := by simp [strOf, ByteArray.size]
theorem strOf_extract (l : List UInt8) (i j : Nat) : (strOf l).extract i j = strOf ((l.drop i).take (j - i)) := by
  apply ByteArray.ext
  simp [strOf, ByteArray.data_extract, List.extract_eq_take_drop]
theorem strOf_append (l m : List UInt8) : strOf l ++ strOf m = strOf (l ++ m) := by
  apply ByteArray.ext
  simp [strOf, ByteArray.data_append]

theorem strOf_toList (l : List UInt8) : (strOf l).toList = l := by
  have h := ByteArray.toList_loop_eq (strOf l) (strOf l).size 0 [] (by omega) (by omega)
  show ByteArray.toList.loop (strOf l) 0 [] = l
  rw [h, strOf_list]; simp
theorem strOf_get (l : List UInt8) (k : Nat) (h : k < l.length) : (strOf l)[k]'(by rw [strOf_size]; exact h) = l[k]?.getD 0 := by
  simp [strOf, ByteArray.getElem_eq_getElem_data, h]

/-- 'string(b)'. -/
theorem conv_string {P : Program} {w : World} {src e dst : TypeId} (hs : P.underlying src = some (.slice e)) (he : P.underlying e = some (.int .u8)) (hd : P.underlying dst = some .string)
    {a : Option Addr} {len cap : Nat} {l : List UInt8} (h : Bs w a len cap l) : (convert src dst (.slice a len cap)).run P w = .ok (.string (strOf l)) w := by
  have hlen := h.len
  cases a with
  | none =>
    have hc := h.2.2.2.1 rfl
    have : len = 0 := by have := h.2.1; omega
    subst hc this
    obtain rfl : l = [] := List.eq_nil_of_length_eq_zero hlen
    exact Lib.run_convert_nil_bytes w src dst e 0 hs he hd
  | some x =>
    subst hlen
    refine run_convert_bytes_back w src dst e x cap l hs he hd fun j hj => ?_
    obtain ⟨b, off, h5, _, h7⟩ := h.cell hj
    cases h5
    have e : (⟨b, off, none⟩ : Addr).add j = ⟨b, off + j, none⟩ := by unfold Addr.add; split <;> simp_all
    rw [e, h7 j hj]; simp [hj]

/-- What a 'make' of one-celled elements lays. -/
theorem made_list (v : Value) (n : Nat) : (madeCells #[v] n).toList = List.replicate n v := by
  simp only [madeCells]
  apply List.ext_getElem
  · simp
  · intro i h1 h2
    simp [Nat.mod_one]

theorem strCells_strOf (l : List UInt8) : Lib.strCells (strOf l) = (toI l).map (Value.int .u8) := by
  simp [Lib.strCells, strOf, toI]

/-- The call hands back a text; nothing that was there has turned. -/
def RetStr (w : World) (l : List UInt8) (e : Ending) (w' : World) : Prop := e = .returned (.string (strOf l)) ∧ Below w.heap.size w w'

/-- 'string([]byte{b})'. -/
theorem conv_one {P : Program} {W : World} {src e dst t : TypeId} (hs : P.underlying src = some (.slice e)) (he : P.underlying e = some (.int .u8)) (hd : P.underlying dst = some .string) (b : UInt8) :
    (convert src dst (.slice (some ⟨W.heap.size, 0, none⟩) 1 1)).run P (W.alloc (.cells #[.int .u8 (b.toNat : Int)] t)) = .ok (.string (strOf [b])) (W.alloc (.cells #[.int .u8 (b.toNat : Int)] t)) :=
  conv_string hs he hd (show Bs _ _ _ _ [b] from Row.made .u8 W t [(b.toNat : Int)] rfl (by unfold maxLen; simp))

/-- The call hands back a row of bytes of its own; nothing that was there has turned. -/
def OwnBytes (t : TypeId) (w : World) (l : List UInt8) (e : Ending) (w' : World) : Prop :=
  ∃ v, e = .returned v ∧ w'.ownsRow w.heap.size t 1 v l.length ((toI l).map (Value.int .u8)) ∧ Below w.heap.size w w'

theorem grown_setCell (w : World) (a : Addr) (u : Value) : w.grownBy (w.setCell a u) (some a.block) :=
  ⟨rfl, rfl, rfl, by simp [World.setCell], fun k _ hne => Below.heap_setCell w a u k (fun e => hne (by rw [e]))⟩
theorem grown_trans {a b c : World} {row : Option Nat} (h : a.grownBy b row) (k : b.grownBy c row) : a.grownBy c row :=
  ⟨by rw [k.os, h.os], by rw [k.tape, h.tape], by rw [k.output, h.output], Nat.le_trans h.size k.size, fun i hi hne => by rw [k.block i (Nat.lt_of_lt_of_le hi h.size) hne, h.block i hi hne]⟩
/-- What happened above all that was there is a growth, whatever row is named. -/
theorem grown_below {a b : World} (h : Below a.heap.size a b) (row : Option Nat) : a.grownBy b row := ⟨h.os, h.tape, h.output, h.size, fun k hk _ => h.block k hk⟩
theorem heap_setCell_at {w : World} {g : Nat} {cur : Array Value} {e : TypeId} (j : Nat) (u : Value) (hg : w.heap[g]? = some (.cells cur e (0, 0))) :
    (w.setCell ⟨g, j, none⟩ u).heap[g]? = some (.cells (cur.setIfInBounds j u) e (0, 0)) := heap_setCell_same w g j cur e u hg

/-- 'x<<8 | c'. -/
theorem or256 (x c : Nat) (hx : x < 72057594037927936) (hc : c < 256) : bits .or .u64 ((x : Int) * 256) (c : Int) = ((x * 256 + c : Nat) : Int) := by
  have h := u64_or_nat (x * 256) c (by omega) (by omega)
  have e : x * 256 ||| c = x * 256 + c := by
    have := Nat.shiftLeft_add_eq_or_of_lt (i := 8) (b := c) (by omega) x
    rw [Nat.shiftLeft_eq] at this
    exact this.symm
  rw [e] at h
  rw [← h]; congr 1

theorem own_lt {w : World} {base : Nat} {e : TypeId} {size : Nat} {v : Value} {n : Nat} {xs : List Value} (h : w.ownsRow base e size v n xs) : ∀ k, v.ownBlock = some k → k < w.heap.size := by
  intro k hk
  rcases h.2 with ⟨rfl, rfl⟩ | ⟨g, cap, cur, rfl, _, hg, _⟩
  · cases hk
  · cases hk; exact (Array.getElem?_eq_some_iff.1 hg).1
theorem Bs.own {w : World} {base : Nat} {e : TypeId} {a : Option Addr} {n cap : Nat} {l : List UInt8} (h : w.ownsRow base e 1 (.slice a n cap) n ((toI l).map (Value.int .u8))) : Bs w a n cap l := by
  obtain ⟨a', cap', e1, e2⟩ := Bs.of_own h
  cases e1; exact e2
theorem own_slice {w : World} {base : Nat} {e : TypeId} {size : Nat} {v : Value} {n : Nat} {xs : List Value} (h : w.ownsRow base e size v n xs) : ∃ a cap, v = .slice a n cap ∧ n ≤ cap ∧ cap ≤ maxLen ∧ (0 < n → ∃ g, a = some ⟨g, 0, none⟩) := by
  rcases h.2 with ⟨rfl, rfl⟩ | ⟨g, cap, cur, rfl, _, _, h1, h2, _⟩
  · exact ⟨none, 0, rfl, Nat.le_refl _, by unfold maxLen; omega, fun h => by omega⟩
  · exact ⟨_, cap, rfl, h1, h2, fun _ => ⟨g, rfl⟩⟩

end Go.Proofs.YtpghlmcoajaiiaaGreatDoor

/- Plain functions of the chapter on numbers and texts as bytes; no program in sight. -/
namespace Go.Proofs.YtpghlmcoajaiiaaGreatDoor

/-- A number's lowest bytes, the highest first. -/
def beBytes (x : Nat) : Nat → List UInt8
  | 0 => []
  | n + 1 => beBytes (x / 256) n ++ [UInt8.ofNat x]
theorem beBytes_length (x n : Nat) : (beBytes x n).length = n := by
  induction n generalizing x with
  | zero => rfl
  | succ n ih => simp [beBytes, ih]
/-- The number that bytes are, the highest first. -/
def beVal (l : List UInt8) : Nat := l.foldl (fun x b => x * 256 + b.toNat) 0
theorem beVal_nil : beVal [] = 0 := rfl
theorem beVal_snoc (l : List UInt8) (b : UInt8) : beVal (l ++ [b]) = beVal l * 256 + b.toNat := by simp [beVal]
theorem beVal_lt (l : List UInt8) : beVal l < 256 ^ l.length := by
  have key : ∀ (l : List UInt8) (a : Nat), l.foldl (fun x b => x * 256 + b.toNat) a < (a + 1) * 256 ^ l.length := by
    intro l
    induction l with
    | nil => intro a; simp
    | cons b l ih =>
      intro a
      have h := ih (a * 256 + b.toNat)
      have hb := b.toNat_lt
      simp only [List.foldl_cons, List.length_cons, Nat.pow_succ]
      calc _ < (a * 256 + b.toNat + 1) * 256 ^ l.length := h
        _ ≤ ((a + 1) * 256) * 256 ^ l.length := Nat.mul_le_mul_right _ (by omega)
        _ = (a + 1) * (256 ^ l.length * 256) := by rw [Nat.mul_assoc, Nat.mul_comm 256]
  have h := key l 0
  simp at h; exact h
theorem beBytes_cons (x n : Nat) : beBytes x (n + 1) = UInt8.ofNat (x / 256 ^ n) :: beBytes x n := by
  induction n generalizing x with
  | zero => simp [beBytes]
  | succ n ih =>
    rw [beBytes, ih (x / 256)]
    simp only [List.cons_append]
    rw [Nat.div_div_eq_div_mul, Nat.pow_succ, Nat.mul_comm 256]
    rfl

theorem be_set (x n k : Nat) (hk : k < n) : (List.replicate (n - k) 0 ++ beBytes x k).set (n - 1 - k) (UInt8.ofNat (x / 256 ^ k)) = List.replicate (n - (k + 1)) 0 ++ beBytes x (k + 1) := by
  obtain ⟨m, rfl⟩ : ∃ m, n = k + 1 + m := ⟨n - k - 1, by omega⟩
  have e1 : k + 1 + m - k = m + 1 := by omega
  have e2 : k + 1 + m - 1 - k = m := by omega
  have e3 : k + 1 + m - (k + 1) = m := by omega
  rw [e1, e2, e3, beBytes_cons, List.replicate_succ', List.append_assoc, List.set_append_right _ _ (by simp), List.length_replicate, Nat.sub_self]
  rfl
theorem be_at (x n k : Nat) (hk : k < n) : (List.replicate (n - k) (0 : UInt8) ++ beBytes x k)[n - 1 - k]? = some 0 := by
  rw [List.getElem?_append_left (by simp; omega), List.getElem?_replicate, if_pos (by omega)]

theorem be_byte (x k : Nat) : ((x : Int) / 2 ^ (8 * k) % 256) = ((UInt8.ofNat (x / 256 ^ k)).toNat : Int) := by
  have e : (256 : Nat) ^ k = 2 ^ (8 * k) := by rw [Nat.pow_mul]
  rw [UInt8.toNat_ofNat', e, Int.natCast_emod, Int.natCast_ediv, Int.natCast_pow]
  rfl

/-- 'octet.Num'. -/
def numF (x : Int) (size : Int) : List UInt8 := if size < 1 ∨ 8 < size then [] else beBytes x.toNat size.toNat
/-- 'octet.Text'. -/
def textF (l : List UInt8) : List UInt8 := UInt8.ofNat (l.take 255).length :: l.take 255

/-- What is left to take, and what went wrong first. -/
structure TSt where
  l : List UInt8
  e : Int
deriving DecidableEq

/-- So many bytes, taken. -/
def takeF (s : TSt) (n : Nat) : List UInt8 × TSt :=
  if s.e ≠ 0 then ([], s) else if s.l.length < n then ([], { s with e := 10 }) else (s.l.take n, { s with l := s.l.drop n })
def tNum (s : TSt) (size : Int) : Nat × TSt :=
  if s.e = 0 ∧ (size < 1 ∨ 8 < size) then (0, { s with e := 1 }) else (beVal (takeF s size.toNat).1, (takeF s size.toNat).2)
def tText (s : TSt) : List UInt8 × TSt := takeF (tNum s 1).2 (tNum s 1).1
def tDone (s : TSt) : Int := if s.e ≠ 0 ∨ s.l.length = 0 then s.e else 11

/-! what went wrong first stays -/

end Go.Proofs.YtpghlmcoajaiiaaGreatDoor

/- The walks of the chapter on numbers and texts as bytes. -/
namespace Go.Proofs.YtpghlmcoajaiiaaGreatDoor
open Go.RowKit

theorem info_u8 : (Tryz.prog.info? 5).map (fun i => (i.zero, i.size, i.bytes)) = some (some (.int .u8 0), 1, 1) := by kernel_rfl

set_option maxRecDepth 100000 in
set_option maxHeartbeats 1000000 in
theorem num_bad (x size : Int) (w : World) (h : size < 1 ∨ 8 < size) :
    Calls Tryz.prog 64 #[.int .u64 x, .int .i64 size] w fun e w' => e = .returned (.slice none 0 0) ∧ w = w' := by
  rcases h with h | h
  · go_enter Tryz.func64, Tryz.ntmps64
    go_wp2
    go_ret
    exact ⟨rfl, rfl⟩
  · have h' : ¬ size < 1 := by omega
    go_enter Tryz.func64, Tryz.ntmps64
    go_wp2
    go_ret
    exact ⟨rfl, rfl⟩

set_option maxRecDepth 100000 in
set_option maxHeartbeats 1000000 in
theorem num_ok (x : Nat) (n : Nat) (w : World) (_hx : x < 18446744073709551616) (h1 : 1 ≤ n) (h8 : n ≤ 8) :
    Calls Tryz.prog 64 #[.int .u64 x, .int .i64 n] w (OwnBytes 5 w (beBytes x n)) := by
  obtain ⟨i0, hi, hz0, hz1, hz2⟩ := info_parts info_u8
  go_enter Tryz.func64, Tryz.ntmps64
  go_wp2_with (at_make; refine wpList_make_full _ rfl _ _ 42 rfl w.heap.size 5 i0 _ 1 Tryz.underlying42 hi hz0 hz1 .i64 .i64 _ _ n rfl rfl rfl rfl (by rw [hz2]; omega) (by unfold maxLen; omega) (Nat.le_refl _) ?_)
  intro w1 hown hg
  have hB := (Below.refl w.heap.size w).grown hg (Nat.le_refl _) (fun k e => by cases e)
  clear hg
  have hown' : w1.ownsRow w.heap.size 5 1 (.slice (some ⟨w.heap.size, 0, none⟩) n n) n ((toI (List.replicate (n - 0) 0 ++ beBytes x 0)).map (Value.int .u8)) := by
    simp only [made_list] at hown
    simpa [beBytes, toI] using hown
  clear hown
  go_wp2
  go_loopw [17] (fun i wr => ∃ k : Nat, k ≤ n ∧ i = .int .i64 k ∧ wr.ownsRow w.heap.size 5 1 (.slice (some ⟨w.heap.size, 0, none⟩) n n) n ((toI (List.replicate (n - k) 0 ++ beBytes x k)).map (Value.int .u8)) ∧ Below w.heap.size w wr) (fun i _ => n - (intOf i).toNat)
  case atStart => exact ⟨0, Nat.zero_le _, rfl, hown', hB⟩
  case round =>
    obtain ⟨k, hk, rfl, hr, hb⟩ := hrel
    by_cases hlt : k < n
    · have hc := hr.cellAt (n - 1 - k) (by omega)
      have hf := hr.frozenAt (n - 1 - k)
      have hst := hr.stored (n - 1 - k) (.int .u8 ((x : Int) / 2 ^ (8 * k) % 256))
      have hv := congrArg (Value.int .u8) (be_byte x k)
      have hlist : ((toI (List.replicate (n - k) 0 ++ beBytes x k)).map (Value.int .u8)).set (n - 1 - k) (.int .u8 ((x : Int) / 2 ^ (8 * k) % 256)) = (toI (List.replicate (n - (k + 1)) 0 ++ beBytes x (k + 1))).map (Value.int .u8) := by
        rw [hv, ← be_set x n k hlt]
        simp only [toI, List.map_set]
      rw [hlist] at hst
      have hst := hst.1
      clear hlist hv
      rw [List.getElem?_map, toI, List.getElem?_map, be_at x n k hlt] at hc
      have hc' : wr.cell? ⟨w.heap.size, n - 1 - k, none⟩ = some (.int .u8 0) := hc
      clear hc
      have HS := Lib.hid hst
      clear hst
      go_wp2
      go_roundw
      case rel => exact ⟨k + 1, by omega, by go_num, HS.out, hb.setCell (Nat.le_refl _) _⟩
      case measure => simp [intOf]; omega
    · obtain rfl : k = n := by omega
      have hl := Lib.hid (beBytes_length x k)
      have hr' : wr.ownsRow w.heap.size 5 1 (.slice (some ⟨w.heap.size, 0, none⟩) k k) (beBytes x k).length ((toI (beBytes x k)).map (Value.int .u8)) := by
        rw [hl.out]; simpa using hr
      go_wp2
      go_ret
      exact ⟨_, rfl, hr', hb⟩

theorem num_any (x size : Int) (w : World) (hx : 0 ≤ x ∧ x < 18446744073709551616) :
    Calls Tryz.prog 64 #[.int .u64 x, .int .i64 size] w (OwnBytes 5 w (numF x size)) := by
  by_cases h : size < 1 ∨ 8 < size
  · refine (num_bad x size w h).mono ?_
    rintro e w' ⟨rfl, rfl⟩
    rw [numF, if_pos h]
    exact ⟨_, rfl, ⟨rfl, .inl ⟨rfl, rfl⟩⟩, Below.refl _ _⟩
  · rw [numF, if_neg h]
    obtain ⟨y, rfl⟩ := Int.eq_ofNat_of_zero_le hx.1
    obtain ⟨n, rfl⟩ := Int.eq_ofNat_of_zero_le (show 0 ≤ size by omega)
    exact num_ok y n w (by omega) (by omega) (by omega)

set_option maxRecDepth 100000 in
set_option maxHeartbeats 1000000 in
theorem refNum_bad (x size : Int) (w : World) (h : size < 1 ∨ 8 < size) :
    Calls Tryz.prog 67 #[.int .u64 x, .int .i64 size] w fun e w' => e = .returned (.string (strOf [])) ∧ w = w' := by
  rcases h with h | h
  · go_enter Tryz.func67, Tryz.ntmps67
    go_wp2
    go_ret
    exact ⟨rfl, rfl⟩
  · have h' : ¬ size < 1 := by omega
    go_enter Tryz.func67, Tryz.ntmps67
    go_wp2
    go_ret
    exact ⟨rfl, rfl⟩

set_option maxRecDepth 100000 in
set_option maxHeartbeats 1000000 in
theorem refNum_ok (x : Nat) (n : Nat) (w : World) (hx : x < 18446744073709551616) (h1 : 1 ≤ n) (h8 : n ≤ 8) :
    Calls Tryz.prog 67 #[.int .u64 x, .int .i64 n] w (RetStr w (beBytes x n)) := by
  go_enter Tryz.func67, Tryz.ntmps67
  go_wp2
  go_loopw [0, 5, 6] (fun xx s i wr => ∃ k : Nat, k ≤ n ∧ i = .int .i64 k ∧ xx = .int .u64 ((x / 256 ^ k : Nat) : Int) ∧ s = .string (strOf (beBytes x k)) ∧ Below w.heap.size w wr) (fun _ _ i _ => n - (intOf i).toNat)
  case atStart => exact ⟨0, Nat.zero_le _, rfl, by simp, rfl, Below.refl _ _⟩
  case round =>
    obtain ⟨k, hk, rfl, rfl, rfl, hb⟩ := hrel
    by_cases hlt : k < n
    · have hdiv := Lib.hid (show x / 256 ^ (k + 1) = x / 256 ^ k / 256 by rw [Nat.pow_succ, Nat.div_div_eq_div_mul])
      have hle : x / 256 ^ k ≤ x := Nat.div_le_self _ _
      have hcons := Lib.hid (beBytes_cons x k)
      generalize x / 256 ^ k = y at *
      have hby : ((y : Int) % 256) = ((UInt8.ofNat y).toNat : Int) := by rw [UInt8.toNat_ofNat']; simp
      have hcv := conv_one (W := wr) (t := 5) Tryz.underlying42 Tryz.underlying5 Tryz.underlying9 (UInt8.ofNat y)
      rw [← hby] at hcv
      have HB := Lib.hid hby
      clear hby
      have hap := strOf_append [UInt8.ofNat y] (beBytes x k)
      have hsz : (strOf [UInt8.ofNat y]).size + (strOf (beBytes x k)).size ≤ 9223372036854775807 := by
        rw [strOf_size, strOf_size, beBytes_length]; simp; omega
      go_wp2
      go_roundw
      case rel => exact ⟨k + 1, by omega, by go_num, by rw [hdiv.out]; go_num, by rw [hcons.out], hb.alloc hb.size _⟩
      case measure => simp [intOf]; omega
    · obtain rfl : k = n := by omega
      go_wp2
      go_ret
      exact ⟨rfl, hb⟩

theorem refNum_any (x size : Int) (w : World) (hx : 0 ≤ x ∧ x < 18446744073709551616) :
    Calls Tryz.prog 67 #[.int .u64 x, .int .i64 size] w (RetStr w (numF x size)) := by
  by_cases h : size < 1 ∨ 8 < size
  · refine (refNum_bad x size w h).mono ?_
    rintro e w' ⟨rfl, rfl⟩
    rw [numF, if_pos h]
    exact ⟨rfl, Below.refl _ _⟩
  · rw [numF, if_neg h]
    obtain ⟨y, rfl⟩ := Int.eq_ofNat_of_zero_le hx.1
    obtain ⟨n, rfl⟩ := Int.eq_ofNat_of_zero_le (show 0 ≤ size by omega)
    exact refNum_ok y n w (by omega) (by omega) (by omega)

theorem textF_eq (l : List UInt8) : textF l = [UInt8.ofNat (l.take 255).length] ++ l.take 255 := rfl



set_option maxRecDepth 100000 in
set_option maxHeartbeats 1000000 in
theorem text_any (l : List UInt8) (w : World) (hl : l.length ≤ 9223372036854775807) :
    Calls Tryz.prog 65 #[.string (strOf l)] w (OwnBytes 5 w (textF l)) := by
  obtain ⟨i0, hi, hz0, hz1, hz2⟩ := info_parts info_u8
  have hsz := strOf_size l
  have hx := strOf_extract l 0 (min l.length 255)
  have htk : (l.drop 0).take (min l.length 255 - 0) = l.take 255 := by
    rw [List.drop_zero, Nat.sub_zero]
    by_cases h : l.length ≤ 255
    · rw [Nat.min_eq_left h, List.take_length, List.take_of_length_le h]
    · rw [Nat.min_eq_right (by omega)]
  rw [htk] at hx
  clear htk
  have ht : (l.take 255).length ≤ 255 := by simp; omega
  have HT := Lib.hid (textF_eq l)
  generalize l.take 255 = t at *
  have hlen := strOf_size t
  have hmin : min l.length 255 = 255 ∨ min l.length 255 = l.length := by omega
  have hcase : (255 < l.length ∧ min l.length 255 = 255) ∨ (¬ 255 < l.length ∧ min l.length 255 = l.length) := by omega
  clear hmin
  rcases hcase with ⟨h255, e⟩ | ⟨h255, e⟩
  all_goals
    rw [e] at hx
    clear e
    go_enter Tryz.func65, Tryz.ntmps65
    go_wp2_with (at_builtin; refine Lib.wpList_append_own_string _ rfl _ _ 42 9 rfl w.heap.size 5 i0 Tryz.underlying42 Tryz.underlying9 hi hz0 hz1 hz2 _ 1 [.int .u8 (t.length : Int)] rfl (own_made .u8 w 5 [(t.length : Int)] rfl (Nat.le_refl _) (by unfold maxLen; simp)) (strOf t) rfl (by rw [hlen]; unfold maxLen; omega) (by rw [hlen]; omega) (by simp) ?_)
    intro v2 w2 hown hg _
    have hB := ((Below.refl w.heap.size w).alloc (Nat.le_refl _) (.cells #[.int .u8 (t.length : Int)] 5)).grown hg (by simp) (fun k e => by cases e; exact Nat.le_refl _)
    clear hg
    have hown' : w2.ownsRow w.heap.size 5 1 v2 (textF l).length ((toI (textF l)).map (Value.int .u8)) := by
      rw [HT.out]
      have e : ((UInt8.ofNat t.length).toNat : Int) = (t.length : Int) := by rw [UInt8.toNat_ofNat']; omega
      have e2 : ([UInt8.ofNat t.length] ++ t).length = 1 + t.length := by simp; omega
      rw [strCells_strOf] at hown
      rw [e2, ← toI_append, List.map_append]
      have e3 : toI [UInt8.ofNat t.length] = [(t.length : Int)] := by simp only [toI, List.map_cons, List.map_nil, e]
      rw [e3]
      exact hown
    clear hown
    go_wp2
    go_ret
    exact ⟨_, rfl, hown', hB⟩
end Go.Proofs.YtpghlmcoajaiiaaGreatDoor

/- Boxes: blocks that are known whole; carried through worlds all at once. -/
namespace Go.Proofs.YtpghlmcoajaiiaaGreatDoor
open Go.RowKit

/-- Blocks, and what they hold. -/
def Boxes (w : World) (l : List (Nat × List Value)) : Prop := ∀ p ∈ l, ∃ t, w.heap[p.1]? = some (.cells p.2.toArray t (0, 0))
theorem Boxes.nil (w : World) : Boxes w [] := fun p h => by simp at h
theorem Boxes.cons {w : World} {l : List (Nat × List Value)} {b : Nat} {vs : List Value} {t : TypeId} (h : w.heap[b]? = some (.cells vs.toArray t (0, 0))) (hl : Boxes w l) : Boxes w ((b, vs) :: l) := by
  intro p hp
  rcases List.mem_cons.1 hp with rfl | hp
  · exact ⟨t, h⟩
  · exact hl p hp
theorem Boxes.below {w w' : World} {l : List (Nat × List Value)} {B : Nat} (h : Boxes w l) (hB : w.heap.size ≤ B) (hb : Below B w w') : Boxes w' l := by
  intro p hp
  obtain ⟨t, ht⟩ := h p hp
  exact ⟨t, (hb.block p.1 (Nat.lt_of_lt_of_le (Array.getElem?_eq_some_iff.1 ht).1 hB)).trans ht⟩
theorem Boxes.step {w w' : World} {l : List (Nat × List Value)} (h : Boxes w l) (hb : Below w.heap.size w w') : Boxes w' l := h.below (Nat.le_refl _) hb
theorem Boxes.set {w : World} {l : List (Nat × List Value)} (h : Boxes w l) (a : Addr) (u : Value) (hne : ∀ p ∈ l, p.1 ≠ a.block) : Boxes (w.setCell a u) l := by
  intro p hp
  obtain ⟨t, ht⟩ := h p hp
  exact ⟨t, (Below.heap_setCell w a u p.1 (hne p hp)).trans ht⟩
/-- A cell of the first block is written. -/
theorem Boxes.put {w : World} {l : List (Nat × List Value)} {b : Nat} {vs : List Value} (h : Boxes w ((b, vs) :: l)) (i : Nat) (u : Value) (hne : ∀ p ∈ l, p.1 ≠ b) : Boxes (w.setCell ⟨b, i, none⟩ u) ((b, vs.set i u) :: l) := by
  obtain ⟨t, ht⟩ := h (b, vs) (by simp)
  refine Boxes.cons (t := t) ?_ (Boxes.set (fun p hp => h p (by simp [hp])) _ _ hne)
  rw [heap_setCell_at i u ht]
  simp
theorem Boxes.grown {w w' : World} {l : List (Nat × List Value)} {row : Option Nat} (h : Boxes w l) (hg : w.grownBy w' row) (hne : ∀ p ∈ l, row ≠ some p.1) : Boxes w' l := by
  intro p hp
  obtain ⟨t, ht⟩ := h p hp
  exact ⟨t, (hg.block p.1 (Array.getElem?_eq_some_iff.1 ht).1 (fun e => hne p hp e.symm)).trans ht⟩
/-- The i-th cell of the n-th block. -/
theorem Boxes.cell {w : World} {l : List (Nat × List Value)} (h : Boxes w l) (n i : Nat) {b : Nat} {vs : List Value} {v : Value} (hn : l[n]? = some (b, vs)) (hv : vs[i]? = some v) : w.cell? ⟨b, i, none⟩ = some v := by
  obtain ⟨t, ht⟩ := h (b, vs) (List.mem_of_getElem? hn)
  simp only [World.cell?, ht]
  simpa using hv
theorem Boxes.frozen {w : World} {l : List (Nat × List Value)} (h : Boxes w l) (n i : Nat) {b : Nat} {vs : List Value} (hn : l[n]? = some (b, vs)) : w.frozen? ⟨b, i, none⟩ = false := by
  obtain ⟨t, ht⟩ := h (b, vs) (List.mem_of_getElem? hn)
  simp [World.frozen?, ht]
theorem Boxes.lt {w : World} {l : List (Nat × List Value)} (h : Boxes w l) (n : Nat) {b : Nat} {vs : List Value} (hn : l[n]? = some (b, vs)) : b < w.heap.size := by
  obtain ⟨t, ht⟩ := h (b, vs) (List.mem_of_getElem? hn)
  exact (Array.getElem?_eq_some_iff.1 ht).1
/-- A fresh block. -/
theorem Boxes.alloc {w : World} {l : List (Nat × List Value)} (h : Boxes w l) (vs : Array Value) (t : TypeId) {b : Nat} (hb : w.heap.size = b) : Boxes (w.alloc (.cells vs t)) ((b, vs.toList) :: l) := by
  subst hb
  exact Boxes.cons (t := t) (by rw [World.alloc_heap_new w (.cells vs t)]) (h.step ((Below.refl _ _).alloc (Nat.le_refl _) _))
theorem Boxes.sub {w : World} {l m : List (Nat × List Value)} (h : Boxes w l) (hm : ∀ p ∈ m, p ∈ l) : Boxes w m := fun p hp => h p (hm p hp)
theorem Boxes.drew {w : World} {l : List (Nat × List Value)} (h : Boxes w l) : Boxes w.drew l := h

theorem own_set {w : World} {base : Nat} {e : TypeId} {size : Nat} {v : Value} {n : Nat} {xs : List Value} (h : w.ownsRow base e size v n xs) (a : Addr) (u : Value) (hne : v.ownBlock ≠ some a.block) : (w.setCell a u).ownsRow base e size v n xs := by
  refine ⟨h.1, h.2.imp id fun ⟨g, cap, cur, e1, hg, hh, r⟩ => ⟨g, cap, cur, e1, hg, ?_, r⟩⟩
  rw [Below.heap_setCell w a u g (by subst e1; intro e; exact hne (by rw [← e]; rfl))]; exact hh
end Go.Proofs.YtpghlmcoajaiiaaGreatDoor

/- 'append' in the form of a run: to a row of the call's own, of bytes, and of one fresh element. -/
namespace Go.Proofs.YtpghlmcoajaiiaaGreatDoor
open Go.RowKit

/-- What an append leaves. -/
def AppOut (w : World) (base : Nat) (e : TypeId) (size : Nat) (v : Value) (n : Nat) (xs : List Value) (fresh : Nat) (v' : Value) (w' : World) : Prop :=
  w'.ownsRow base e size v' n xs ∧ w.grownBy w' v.ownBlock ∧ (v'.ownBlock = v.ownBlock ∨ v'.ownBlock = some fresh)

section
variable {P : Program}
/-- Of any row of numbers. -/
theorem run_append_row {w : World} (base : Nat) (t e : TypeId) (i : TypeInfo) (z : Value) (bytes : Nat) (ht : P.underlying t = some (.slice e)) (hi : P.info? e = some i) (hz : i.zero = some z)
    (hsize : i.size = 1) (hby : i.bytes = bytes) (hzs : z.cells.size = 1) {v : Value} {n : Nat} {xs : List Value} (hown : w.ownsRow base e 1 v n xs)
    {k : IntKind} {a : Option Addr} {m c : Nat} {l : List Int} (hrow : Row k w a m c l) (h63 : n + m ≤ maxLen) (hbytes : (n + m) * bytes ≤ 140737488355328) (hbase : base ≤ w.heap.size) :
    ∃ v' w', (Builtin.append_ #[t, t] t #[v, .slice a m c]).run P w = .ok v' w' ∧ AppOut w base e 1 v (n + m) (xs ++ l.map (Value.int k)) w.heap.size v' w' := by
  obtain ⟨h1, h2, h3, hn, h4⟩ := hrow
  cases a with
  | none =>
    have hc := hn rfl
    have hm : m = 0 := by omega
    subst hc hm
    obtain rfl : l = [] := List.eq_nil_of_length_eq_zero h1
    exact ⟨v, w, run_append_owned_none w base t t e i 1 ht hi v n xs hown, by simpa using hown, World.grownBy.refl w _, .inl rfl⟩
  | some ad =>
    obtain ⟨v', w', hr, h5, h6, _, h7⟩ := run_append_own_at (P := P) w base t t e i z 1 bytes ht hi hz hsize hby hzs (by decide) v n xs hown ad m c (l.map (Value.int k)) (by simp [h1]) (by
      intro j u hj
      simp only [List.getElem?_map, Option.map_eq_some_iff] at hj
      obtain ⟨y, hy, rfl⟩ := hj
      have hjl := (List.getElem?_eq_some_iff.1 hy).1
      rcases h4 with h4 | ⟨b, off, h5, h6, h7⟩
      · omega
      · cases h5
        have e : (⟨b, off, none⟩ : Addr).add j = ⟨b, off + j, none⟩ := by
          unfold Addr.add; split <;> simp_all
        rw [e, h7 j (by omega), hy]; rfl) (fun u hu => by obtain ⟨y, _, rfl⟩ := List.mem_map.1 hu; rfl) h63 hbytes hbase
    exact ⟨v', w', hr, h5, h6, h7⟩
/-- Of one fresh element. -/
theorem run_append_new {w : World} (base : Nat) (t e : TypeId) (i : TypeInfo) (z : Value) (size bytes : Nat) (ht : P.underlying t = some (.slice e)) (hi : P.info? e = some i) (hz : i.zero = some z)
    (hsize : i.size = size) (hby : i.bytes = bytes) (hzs : z.cells.size = size) (hsz : 0 < size) {v : Value} {n : Nat} {xs : List Value} (hown : w.ownsRow base e size v n xs)
    (cs : Array Value) (hcs : cs.size = size) (h1 : ∀ u ∈ cs.toList, u.oneCell' = true) (h63 : n + 1 ≤ maxLen) (hbytes : (n + 1) * bytes ≤ 140737488355328) (hbase : base ≤ w.heap.size) :
    ∃ v' w', (Builtin.append_ #[t, t] t #[v, .slice (some ⟨w.heap.size, 0, none⟩) 1 1]).run P (w.alloc (.cells cs e)) = .ok v' w' ∧ AppOut w base e size v (n + 1) (xs ++ cs.toList) (w.heap.size + 1) v' w' := by
  have hb : Below w.heap.size w (w.alloc (.cells cs e)) := (Below.refl _ _).alloc (Nat.le_refl _) _
  obtain ⟨v', w', hr, h5, h6, _, h7⟩ := run_append_own_at (P := P) (w.alloc (.cells cs e)) base t t e i z size bytes ht hi hz hsize hby hzs hsz v n xs (by
      refine ⟨hown.1, hown.2.imp id fun ⟨g, cap, cur, e1, hg, hh, r⟩ => ⟨g, cap, cur, e1, hg, ?_, r⟩⟩
      rw [hb.block g (Array.getElem?_eq_some_iff.1 hh).1]; exact hh) ⟨w.heap.size, 0, none⟩ 1 1 cs.toList (by simp [hcs]) (by
      intro j u hj
      have ea : (⟨w.heap.size, 0, none⟩ : Addr).add j = ⟨w.heap.size, j, none⟩ := by unfold Addr.add; split <;> simp_all
      rw [ea]
      simp only [World.cell?, World.alloc_heap_new w (.cells cs e)]
      simpa using hj) h1 h63 hbytes (by simp; omega)
  refine ⟨v', w', hr, h5, ⟨by rw [h6.os]; rfl, by rw [h6.tape]; rfl, by rw [h6.output]; rfl, Nat.le_trans (by simp) h6.size, fun k hk hne => ?_⟩, by simpa using h7⟩
  rw [h6.block k (by simp; omega) hne]
  exact hb.block k hk
end

/-! an append whose run is known, in a walk -/
section
variable {P : Program} {w : World}
theorem wp_append_run {o : Oper} {a : Act} {K : Act → World → Prop} {Q : Exit → Act → World → Prop} (s x : Operand) (t u : TypeId)
    (ho : o.op = .call { callee := .builtin .append, args := #[s, x], argTypes := #[t, u] }) {v y v' : Value} {w' : World} (hs : a.eval s = v) (hx : a.eval x = y)
    (hrun : (Builtin.append_ #[t, u] o.type #[v, y]).run P w = .ok v' w') (h : K (a.put o.dst v') w') : o.wp P a w K Q := by
  unfold Oper.wp execOp
  simp only [ho, resolve, invoke, builtin, Sem.run_bind, Sem.run_pure, Result.andThen_ok, List.map_toArray, List.map_cons, List.map_nil, hs, hx, hrun]
  exact h
theorem wpList_append_run {ops : Array Oper} {rest : List Oper} {o : Oper} {a : Act} {Q : Exit → Act → World → Prop} (hgd : o.guard = none) (s x : Operand) (t u : TypeId)
    (ho : o.op = .call { callee := .builtin .append, args := #[s, x], argTypes := #[t, u] }) {v y v' : Value} {w' : World} (hs : a.eval s = v) (hx : a.eval x = y)
    (hrun : (Builtin.append_ #[t, u] o.type #[v, y]).run P w = .ok v' w') (h : wpList P ops Q rest (a.put o.dst v') w') : wpList P ops Q (o :: rest) a w :=
  wpList_plain hgd fun _ hK => wp_append_run s x t u ho hs hx hrun (hK _ _ h)
theorem step_append_run {ops : Array Oper} {o : Oper} {a : Act} {K : Act → World → Prop} {Q : Exit → Act → World → Prop} {E : Prop} (hgd : o.guard = none) (s x : Operand) (t u : TypeId)
    (ho : o.op = .call { callee := .builtin .append, args := #[s, x], argTypes := #[t, u] }) {v y v' : Value} {w' : World} (hs : a.eval s = v) (hx : a.eval x = y)
    (hrun : (Builtin.append_ #[t, u] o.type #[v, y]).run P w = .ok v' w') (h : K (a.put o.dst v') w') :
    if Region.wanted o (yielded ops a.tmps) = true then Oper.wp P o a w K Q else E := by
  have hw : Region.wanted o (yielded ops a.tmps) = true := by simp [Region.wanted, hgd]
  rw [if_pos hw]
  exact wp_append_run s x t u ho hs hx hrun h
end
theorem AppOut.below {w w' : World} {base : Nat} {e : TypeId} {size : Nat} {v : Value} {n : Nat} {xs : List Value} {f : Nat} {v' : Value} (h : AppOut w base e size v n xs f v' w') {B : Nat} (hB : B ≤ w.heap.size) (hv : ∀ k, v.ownBlock = some k → B ≤ k) : Below B w w' :=
  (Below.refl B w).grown h.2.1 hB hv
end Go.Proofs.YtpghlmcoajaiiaaGreatDoor

/- Plain functions of the chapter on parting a node's cells; no program in sight. -/
namespace Go.Proofs.YtpghlmcoajaiiaaGreatDoor

def sumI (l : List Int) : Int := l.foldl (fun a b => a + b) 0
theorem foldl_add (l : List Int) (a : Int) : l.foldl (fun a b => a + b) a = a + l.foldl (fun a b => a + b) 0 := by
  induction l generalizing a with
  | nil => simp
  | cons x l ih => simp only [List.foldl_cons]; rw [ih, ih (0 + x)]; omega
theorem sumI_nil : sumI [] = 0 := rfl
theorem sumI_cons (x : Int) (l : List Int) : sumI (x :: l) = x + sumI l := by
  simp only [sumI, List.foldl_cons]; rw [foldl_add]; omega
theorem sumI_append (l m : List Int) : sumI (l ++ m) = sumI l + sumI m := by
  induction l with
  | nil => simp [sumI_nil]
  | cons x l ih => simp only [List.cons_append, sumI_cons, ih]; omega
theorem sumI_take_succ (l : List Int) (k : Nat) (h : k < l.length) : sumI (l.take (k + 1)) = sumI (l.take k) + l[k]?.getD 0 := by
  rw [List.take_add_one, sumI_append]; simp [h, sumI_cons, sumI_nil]
theorem sumI_split (l : List Int) (k : Nat) : sumI l = sumI (l.take k) + sumI (l.drop k) := by
  rw [← sumI_append, List.take_append_drop]

def neighF (m k : Int) : Int := if k + 1 < m then k + 1 else k - 1

def Small (l : List Int) : Prop := l.length ≤ 1000 ∧ ∀ x ∈ l, 0 ≤ x ∧ x ≤ 1000
theorem Small.take {l : List Int} (h : Small l) (k : Nat) : Small (l.take k) := ⟨by have := List.length_take_le k l; simp; have := h.1; omega, fun x hx => h.2 x (List.mem_of_mem_take hx)⟩
theorem Small.drop {l : List Int} (h : Small l) (k : Nat) : Small (l.drop k) := ⟨by have := h.1; simp; omega, fun x hx => h.2 x (List.mem_of_mem_drop hx)⟩
theorem sumI_bd (l : List Int) (h : ∀ x ∈ l, 0 ≤ x ∧ x ≤ 1000) : 0 ≤ sumI l ∧ sumI l ≤ 1000 * l.length := by
  induction l with
  | nil => simp [sumI_nil]
  | cons x l ih =>
    have h1 := h x (by simp)
    have h2 := ih (fun y hy => h y (by simp [hy]))
    rw [sumI_cons]; simp only [List.length_cons]; omega
theorem Small.bd {l : List Int} (h : Small l) : 0 ≤ sumI l ∧ sumI l ≤ 1000000 := by
  have h1 := sumI_bd l h.2
  have := h.1
  omega
theorem Small.get {l : List Int} (h : Small l) (k : Nat) : 0 ≤ l[k]?.getD 0 ∧ l[k]?.getD 0 ≤ 1000 := by
  cases e : l[k]? with
  | none => simp
  | some x => simpa using h.2 x (List.mem_of_getElem? e)


def worse (l : List Int) (k : Nat) : Int := max (sumI (l.take k)) (sumI (l.drop k))

def better (p x : Int × Int) : Int × Int := if x.2 < p.1 then (x.2, x.1) else p
def foldBest (l : List Int) (pre : List (Int × Int)) : Int × Int := pre.foldl better (sumI l + 1, 0)
theorem foldBest_snoc (l : List Int) (pre : List (Int × Int)) (x : Int × Int) : foldBest l (pre ++ [x]) = better (foldBest l pre) x := by simp [foldBest]
def bestTo (l : List Int) (n : Nat) : Int × Int := foldBest l ((List.range n).map fun k : Nat => ((k : Int) + 1, worse l (k + 1)))
theorem bestTo_zero (l : List Int) : bestTo l 0 = (sumI l + 1, 0) := rfl
theorem bestTo_succ (l : List Int) (n : Nat) : bestTo l (n + 1) = better (bestTo l n) ((n : Int) + 1, worse l (n + 1)) := by
  simp [bestTo, List.range_succ, foldBest_snoc]
/-- Where sizes are parted. -/
def atF (l : List Int) : Int := if sumI l ≤ 122 then 0 else (bestTo l (l.length - 1)).2

theorem worse_one_le {l : List Int} (h : Small l) : worse l 1 ≤ sumI l := by
  have e := sumI_split l 1
  have h1 := (h.take 1).bd
  have h2 := (h.drop 1).bd
  unfold worse; omega
/-- Behind the first place the best so far is a place. -/
theorem bestTo_pos {l : List Int} (h : Small l) (n : Nat) : ∃ m : Nat, 1 ≤ m ∧ m ≤ n + 1 ∧ bestTo l (n + 1) = (worse l m, (m : Int)) := by
  induction n with
  | zero =>
    refine ⟨1, by omega, by omega, ?_⟩
    have := worse_one_le h
    rw [bestTo_succ, bestTo_zero, better, if_pos (by simp; omega)]
    simp
  | succ n ih =>
    obtain ⟨m, h1, h2, e⟩ := ih
    rw [bestTo_succ (n := n + 1), e, better]
    by_cases hlt : worse l (n + 1 + 1) < worse l m
    · rw [if_pos (by simpa using hlt)]; exact ⟨n + 1 + 1, by omega, by omega, by simp⟩
    · rw [if_neg (by simpa using hlt)]; exact ⟨m, h1, by omega, rfl⟩

end Go.Proofs.YtpghlmcoajaiiaaGreatDoor

/- Plain laws of the place at which sizes are parted; no program in sight. -/
namespace Go.Proofs.YtpghlmcoajaiiaaGreatDoor

theorem worse_lo {l : List Int} (k : Nat) : sumI l - worse l k ≤ sumI (l.take k) ∧ sumI l - worse l k ≤ sumI (l.drop k) ∧ sumI (l.take k) ≤ worse l k ∧ sumI (l.drop k) ≤ worse l k ∧ (worse l k = sumI (l.take k) ∨ worse l k = sumI l - sumI (l.take k)) := by
  have e := sumI_split l k
  unfold worse; omega

/-- The best so far is the first of the least. -/
theorem bestTo_least {l : List Int} (h : Small l) (n : Nat) : ∃ m : Nat, 1 ≤ m ∧ m ≤ n + 1 ∧ bestTo l (n + 1) = (worse l m, (m : Int)) ∧
    ∀ k, 1 ≤ k → k ≤ n + 1 → worse l m ≤ worse l k ∧ (worse l k = worse l m → m ≤ k) := by
  induction n with
  | zero =>
    obtain ⟨m, h1, h2, e⟩ := bestTo_pos h 0
    exact ⟨m, h1, h2, e, fun k a b => by
      obtain rfl : k = m := by omega
      omega⟩
  | succ n ih =>
    obtain ⟨m, h1, h2, e, hl⟩ := ih
    rw [bestTo_succ (n := n + 1), e, better]
    by_cases hlt : worse l (n + 1 + 1) < worse l m
    · rw [if_pos (by simpa using hlt)]
      refine ⟨n + 1 + 1, by omega, by omega, by simp, fun k a b => ?_⟩
      by_cases e : k = n + 1 + 1
      · subst e; omega
      · have := hl k a (by omega); omega
    · rw [if_neg (by simpa using hlt)]
      refine ⟨m, h1, by omega, rfl, fun k a b => ?_⟩
      by_cases e : k = n + 1 + 1
      · subst e; omega
      · exact hl k a (by omega)

/-- The place: none, where all fits or nothing can be parted; else the first of the best ones. -/
theorem atF_cases {l : List Int} (h : Small l) : (atF l = 0 ∧ (sumI l ≤ 122 ∨ l.length < 2)) ∨
    (122 < sumI l ∧ ∃ m : Nat, 1 ≤ m ∧ m < l.length ∧ atF l = (m : Int) ∧ ∀ k, 1 ≤ k → k < l.length → worse l m ≤ worse l k ∧ (worse l k = worse l m → m ≤ k)) := by
  by_cases hle : sumI l ≤ 122
  · exact .inl ⟨by simp [atF, hle], .inl hle⟩
  · by_cases h2 : l.length < 2
    · refine .inl ⟨?_, .inr h2⟩
      have e : l.length - 1 = 0 := by omega
      simp [atF, hle, e, bestTo_zero]
    · obtain ⟨n, hn⟩ : ∃ n, l.length = n + 2 := ⟨l.length - 2, by omega⟩
      obtain ⟨m, h1, h3, e, hl⟩ := bestTo_least h n
      refine .inr ⟨by omega, m, h1, by omega, ?_, fun k a b => hl k a (by omega)⟩
      have : l.length - 1 = n + 1 := by omega
      simp [atF, hle, this, e]

theorem sumI_take_all (l : List Int) : sumI (l.take l.length) = sumI l := by rw [List.take_length]

/-- A first place at which half of all, or more, is ahead. -/
theorem first_half (l : List Int) (_h : Small l) (hpos : 0 < sumI l) : ∃ k, k < l.length ∧ 2 * sumI (l.take k) < sumI l ∧ sumI l ≤ 2 * sumI (l.take (k + 1)) := by
  have key : ∀ n, n ≤ l.length → sumI l ≤ 2 * sumI (l.take n) → ∃ k, k < n ∧ 2 * sumI (l.take k) < sumI l ∧ sumI l ≤ 2 * sumI (l.take (k + 1)) := by
    intro n
    induction n with
    | zero => intro _ h0; simp [sumI_nil] at h0; omega
    | succ n ih =>
      intro hn h0
      by_cases hc : sumI l ≤ 2 * sumI (l.take n)
      · obtain ⟨k, a, b, c⟩ := ih (by omega) hc
        exact ⟨k, by omega, b, c⟩
      · exact ⟨n, by omega, by omega, h0⟩
  exact key l.length (Nat.le_refl _) (by rw [sumI_take_all]; omega)


/-! the other way round -/
theorem sumI_reverse (l : List Int) : sumI l.reverse = sumI l := by
  induction l with
  | nil => rfl
  | cons x l ih => rw [List.reverse_cons, sumI_append, ih, sumI_cons, sumI_cons, sumI_nil]; omega
theorem Small.reverse {l : List Int} (h : Small l) : Small l.reverse := ⟨by simpa using h.1, fun x hx => h.2 x (by simpa using hx)⟩
theorem worse_reverse (l : List Int) (k : Nat) (_hk : k ≤ l.length) : worse l.reverse k = worse l (l.length - k) := by
  unfold worse
  rw [List.take_reverse, List.drop_reverse, sumI_reverse, sumI_reverse]; omega
theorem turned {l : List Int} (h : Small l) : (atF l = 0 ∧ atF l.reverse = 0) ∨
    ∃ m n : Nat, 1 ≤ m ∧ m < l.length ∧ 1 ≤ n ∧ n < l.length ∧ atF l = (m : Int) ∧ atF l.reverse = (n : Int) ∧ worse l m = worse l.reverse n := by
  rcases atF_cases h with ⟨e, hc⟩ | ⟨hs, m, h1, h2, e, hm⟩
  · rcases atF_cases h.reverse with ⟨e', _⟩ | ⟨hs', m', h1', h2', e', hm'⟩
    · exact .inl ⟨e, e'⟩
    · rw [sumI_reverse] at hs'; simp at h2'; omega
  · rcases atF_cases h.reverse with ⟨e', hc'⟩ | ⟨hs', m', h1', h2', e', hm'⟩
    · rw [sumI_reverse] at hc'; simp at hc'; omega
    · simp at h2' hm'
      refine .inr ⟨m, m', h1, h2, h1', h2', e, e', ?_⟩
      have a := (hm (l.length - m') (by omega) (by omega)).1
      have b := (hm' (l.length - m) (by omega) (by omega)).1
      rw [worse_reverse l (l.length - m) (by omega)] at b
      rw [show l.length - (l.length - m) = m by omega] at b
      have c := worse_reverse l m' (by omega)
      rw [c] at b ⊢
      omega

/-! a nought at the end -/
/-! the greatest -/

end Go.Proofs.YtpghlmcoajaiiaaGreatDoor

/- How many pages a value takes. -/
namespace Go.Proofs.YtpghlmcoajaiiaaGreatDoor

/-- How many pages a value of so many bytes takes. -/
def needC (n : Int) : Nat := if n ≤ 16 ∨ 400 < n then 0 else ((n + 118) / 119).toNat
theorem needC_le (n : Int) : needC n ≤ 4 := by unfold needC; split <;> omega
end Go.Proofs.YtpghlmcoajaiiaaGreatDoor

/- Trees: plain functions; no program in sight. -/
namespace Go.Proofs.YtpghlmcoajaiiaaGreatDoor

/-- A value, and the pages that it stands on. -/
structure Tv where
  data : List UInt8
  pages : List Int
/-- A leaf, or a branch; its page. -/
inductive Tr where
  | leaf (page : Int) (l : List (List UInt8 × Tv))
  | node (page : Int) (l : List (List UInt8 × Tr))
def Tr.page : Tr → Int
  | .leaf p _ => p
  | .node p _ => p
def Tr.isLeaf : Tr → Bool
  | .leaf _ _ => true
  | .node _ _ => false
def keysOf {α : Type} (l : List (List UInt8 × α)) : List (List UInt8) := l.map (·.1)
def Tr.keys : Tr → List (List UInt8)
  | .leaf _ l => keysOf l
  | .node _ l => keysOf l
def Tr.zero : Tr := .leaf 0 []
/-- What a value takes in its leaf. -/
def vSz (v : Tv) : Nat := if v.data.length ≤ 16 then v.data.length else 4
def sizesT : Tr → List Int
  | .leaf _ l => l.map fun c => ((3 + vSz c.2 + c.1.length : Nat) : Int)
  | .node _ l => l.map fun c => ((4 + c.1.length : Nat) : Int)
def sumT (t : Tr) : Int := sumI (sizesT t)
def lowT (t : Tr) : Bool := decide (sumT t < 30)
def keyAt {α : Type} (l : List (List UInt8 × α)) (k : Nat) : List UInt8 := (l[k]?.map (·.1)).getD []
def kidAt (l : List (List UInt8 × Tr)) (k : Nat) : Tr := (l[k]?.map (·.2)).getD Tr.zero
/-- Which kid has a key, looked for from one on downwards. -/
def wayD (ks : List (List UInt8)) (key : List UInt8) : Nat → Nat
  | 0 => 0
  | n + 1 => if key < ks[n + 1]?.getD [] then wayD ks key n else n + 1
def wayF (ks : List (List UInt8)) (key : List UInt8) : Nat := wayD ks key (ks.length - 1)
/-- Cells of which the first one has another key. -/
def firstK {α : Type} (key : List UInt8) : List (List UInt8 × α) → List (List UInt8 × α)
  | [] => []
  | c :: r => (key, c.2) :: r
/-- Both parts of a node, and the second one's key. -/
def partT (at_ : Nat) : Tr → Tr × Tr × List UInt8
  | .leaf _ l => (.leaf 0 (l.take at_), .leaf 0 (l.drop at_), keyAt l at_)
  | .node _ l => (.node 0 (l.take at_), .node 0 (firstK [] (l.drop at_)), keyAt l at_)
/-- A branch's cells whose kid is parted, if it must be. -/
def splitT (l : List (List UInt8 × Tr)) (k : Nat) : Option (List (List UInt8 × Tr)) :=
  if atF (sizesT (kidAt l k)) = 0 then none
  else some (l.take k ++ ((keyAt l k, (partT (atF (sizesT (kidAt l k))).toNat (kidAt l k)).1) :: ((partT (atF (sizesT (kidAt l k))).toNat (kidAt l k)).2.2, (partT (atF (sizesT (kidAt l k))).toNat (kidAt l k)).2.1) :: l.drop (k + 1)))
def joinT (key : List UInt8) : Tr → Tr → Tr
  | .leaf _ l, .leaf _ m => .leaf 0 (l ++ m)
  | .node _ l, .node _ m => .node 0 (l ++ firstK key m)
  | a, _ => a
/-- Which kid a low one is put together with the one behind it at. -/
def joinAt (n k : Nat) : Nat := if k + 1 < n then k else k - 1
def joined (l : List (List UInt8 × Tr)) (j : Nat) : List (List UInt8 × Tr) :=
  l.take j ++ ((keyAt l j, joinT (keyAt l (j + 1)) (kidAt l j) (kidAt l (j + 1))) :: l.drop (j + 2))
def mendT (p : Int) (l : List (List UInt8 × Tr)) (k : Nat) : Tr :=
  match splitT l k with
  | some m => .node 0 m
  | none => if lowT (kidAt l k) = false ∨ l.length < 2 then .node p l
    else match splitT (joined l (joinAt l.length k)) (joinAt l.length k) with
      | some m => .node 0 m
      | none => .node 0 (joined l (joinAt l.length k))
def topT : Nat → Tr → Tr
  | 0, t => t
  | n + 1, .node p l => if l.length = 1 then topT n (kidAt l 0) else if atF (sizesT (.node p l)) = 0 then .node p l else mendT 0 [([], .node p l)] 0
  | _ + 1, .leaf p l => if atF (sizesT (.leaf p l)) = 0 then .leaf p l else mendT 0 [([], .leaf p l)] 0
def putL (key : List UInt8) (v : Tv) : List (List UInt8 × Tv) → List (List UInt8 × Tv)
  | [] => [(key, v)]
  | c :: r => if c.1 < key then c :: putL key v r else if c.1 = key then (key, v) :: r else (key, v) :: c :: r
def putT : Nat → Tr → List UInt8 → Tv → Tr
  | 0, t, _, _ => t
  | _ + 1, .leaf _ l, key, v => .leaf 0 (putL key v l)
  | n + 1, .node _ l, key, v => mendT 0 (l.set (wayF (keysOf l) key) (keyAt l (wayF (keysOf l) key), putT n (kidAt l (wayF (keysOf l) key)) key v)) (wayF (keysOf l) key)
def entsT : Nat → Tr → List (List UInt8 × Tv)
  | 0, _ => []
  | _ + 1, .leaf _ l => l
  | n + 1, .node _ l => l.flatMap fun c => entsT n c.2

/-! the order of keys -/
theorem klt_irrefl (a : List UInt8) : ¬ a < a := List.lt_irrefl a
theorem klt_trans {a b c : List UInt8} (h : a < b) (k : b < c) : a < c := List.lt_trans h k
theorem kle_lt {a b c : List UInt8} (h : ¬ b < a) (k : b < c) : a < c := List.lt_of_le_of_lt (show a ≤ b from h) k
theorem klt_le {a b c : List UInt8} (h : a < b) (k : ¬ c < b) : a < c := by
  by_cases e : a < c
  · exact e
  · exact absurd (kle_lt (a := c) (b := a) e h) k
theorem ktri (a b : List UInt8) : a < b ∨ a = b ∨ b < a := by
  by_cases h : a < b
  · exact .inl h
  · by_cases k : b < a
    · exact .inr (.inr k)
    · exact .inr (.inl (List.le_antisymm (show a ≤ b from k) (show b ≤ a from h)))
theorem klt_asymm {a b : List UInt8} (h : a < b) : ¬ b < a := fun k => klt_irrefl a (klt_trans h k)
theorem knil (a : List UInt8) : ¬ a < [] := fun h => by cases h
end Go.Proofs.YtpghlmcoajaiiaaGreatDoor

/- Slices of records that came in: a slice of elements of so many cells reads as a list. -/
namespace Go.Proofs.YtpghlmcoajaiiaaGreatDoor
open Go.RowKit Go.Deep Go.WideShapes

/-- A slice of elements of so many cells; R: what the cells of an element tell. -/
def TabR {α : Type} (sz : Nat) (R : List Value → α → Prop) (w : World) (a : Option Addr) (len cap : Nat) (l : List α) : Prop :=
  l.length = len ∧ len ≤ cap ∧ cap ≤ maxLen ∧ (a = none → cap = 0) ∧ (len = 0 ∨ ∃ b off, a = some ⟨b, off, none⟩ ∧ b < w.heap.size ∧
    ∀ i y, l[i]? = some y → ∃ cs, cs.length = sz ∧ R cs y ∧ ∀ j v, cs[j]? = some v → w.cell? ⟨b, off + i * sz + j, none⟩ = some v)

theorem TabR.mono {α : Type} {sz : Nat} {R R' : List Value → α → Prop} {w : World} {a : Option Addr} {len cap : Nat} {l : List α} (h : TabR sz R w a len cap l) (hR : ∀ cs y, R cs y → R' cs y) : TabR sz R' w a len cap l := by
  obtain ⟨h1, h2, h3, hn, h4⟩ := h
  refine ⟨h1, h2, h3, hn, ?_⟩
  rcases h4 with h4 | ⟨b, off, h5, h6, h7⟩
  · exact .inl h4
  · exact .inr ⟨b, off, h5, h6, fun i y hy => by obtain ⟨cs, c1, c2, c3⟩ := h7 i y hy; exact ⟨cs, c1, hR _ _ c2, c3⟩⟩

theorem TabR.below {α : Type} {sz : Nat} {R : List Value → α → Prop} {w w' : World} {a : Option Addr} {len cap : Nat} {l : List α} {B : Nat} (hB : w.heap.size ≤ B) (hb : Below B w w') (h : TabR sz R w a len cap l) : TabR sz R w' a len cap l := by
  obtain ⟨h1, h2, h3, hn, h4⟩ := h
  refine ⟨h1, h2, h3, hn, ?_⟩
  rcases h4 with h4 | ⟨b, off, h5, h6, h7⟩
  · exact .inl h4
  · exact .inr ⟨b, off, h5, by have := hb.size; omega, fun i y hy => by
      obtain ⟨cs, c1, c2, c3⟩ := h7 i y hy
      exact ⟨cs, c1, c2, fun j v hv => (hb.cell (p := ⟨b, off + i * sz + j, none⟩) (by simp; omega)).trans (c3 j v hv)⟩⟩

theorem TabR.at {α : Type} {sz : Nat} {R : List Value → α → Prop} {w : World} {a : Option Addr} {len cap : Nat} {l : List α} (h : TabR sz R w a len cap l) {k : Nat} (hk : k < len) :
    ∃ b off y cs, a = some ⟨b, off, none⟩ ∧ b < w.heap.size ∧ l[k]? = some y ∧ cs.length = sz ∧ R cs y ∧ ∀ j v, cs[j]? = some v → w.cell? ⟨b, off + k * sz + j, none⟩ = some v := by
  obtain ⟨h1, h2, h3, hn, h4⟩ := h
  rcases h4 with h4 | ⟨b, off, h5, h6, h7⟩
  · omega
  · have hy : l[k]? = some l[k] := List.getElem?_eq_getElem (by omega)
    obtain ⟨cs, c1, c2, c3⟩ := h7 k _ hy
    exact ⟨b, off, _, cs, h5, h6, hy, c1, c2, c3⟩

theorem add_none (b off j : Nat) : (⟨b, off, none⟩ : Addr).add j = ⟨b, off + j, none⟩ := by unfold Addr.add; split <;> simp_all

section
variable {H : Type} {enc : TypeId × Value → H} {P : Program} {w : World} {base : Nat}
/-- A slice that came in, opened: each element by a reader of its cells. -/
theorem open_tab {α : Type} {t e : TypeId} {sz : Nat} (ht : P.underlying t = some (.slice e)) (hsz : P.cellsOf e = sz) (hpos : 0 < sz) (R : List Value → α → Prop)
    (hR : ∀ n cs x, cs.length = sz → DataW.trod enc P w 0 (fun _ => true) true n e cs = some x → ∃ y, R cs y)
    {v : Value} {d : DataW H} {p : List MemPlace} (hv : Value.okWide P w .any base t v) (h : DataW.Trod enc P w 0 (fun _ => true) true t v d p) :
    ∃ a len cap l, v = .slice a len cap ∧ TabR sz R w a len cap l := by
  obtain ⟨a, len, cap, rfl⟩ := okWide_slice ht hv
  obtain ⟨fuel, hf⟩ := h
  rcases open_slice ht hf with ⟨hcs, _⟩ | ⟨x, len', cap', m, n, D, Pl, hcs, _, hl, hm, hmm, _, hx⟩
  · simp [Value.cells] at hcs
    obtain ⟨rfl, rfl, rfl⟩ := hcs
    exact ⟨none, 0, 0, [], rfl, rfl, Nat.le_refl _, by unfold maxLen; omega, fun _ => rfl, .inl rfl⟩
  · simp [Value.cells] at hcs
    obtain ⟨rfl, rfl, rfl⟩ := hcs
    have hlm : len ≤ m := by rw [hmm]; exact hl
    rw [hsz] at hx
    have each : ∀ i, i < len → ∃ q : α × List Value, q.2.length = sz ∧ R q.2 q.1 ∧ ∀ j, j < sz → w.cell? ((x.add (i * sz)).add j) = q.2[j]? := by
      intro i hi
      obtain ⟨cs', h1, h2⟩ := hx i (by omega)
      obtain ⟨_, hlen, hcell⟩ := World.cells?_some h1
      obtain ⟨y, hy⟩ := hR n cs' _ hlen h2
      exact ⟨(y, cs'), hlen, hy, hcell⟩
    by_cases h0 : len = 0
    · subst h0
      exact ⟨_, 0, cap, [], rfl, rfl, hl, hm, (fun h => by cases h), .inl rfl⟩
    · obtain ⟨q0, g1, _, g3⟩ := each 0 (by omega)
      haveI : Inhabited (α × List Value) := ⟨q0⟩
      obtain ⟨q, hq⟩ := choose_lt each
      have g4 := g3 0 hpos
      obtain ⟨v0, hv0⟩ : ∃ v0, q0.2[0]? = some v0 := ⟨_, List.getElem?_eq_getElem (by omega)⟩
      rw [hv0] at g4
      obtain ⟨b, off, spot⟩ := x
      have hspot : spot = none := by
        have := World.cell?_spot g4
        simp [Addr.add] at this
        exact this
      subst hspot
      simp only [add_none] at hq g4
      refine ⟨_, len, cap, (List.range len).map fun i => (q i).1, rfl, by simp, hl, hm, (fun h => by cases h), .inr ⟨b, off, rfl, ?_, fun i y hy => ?_⟩⟩
      · by_cases hb : b < w.heap.size
        · exact hb
        · simp only [World.cell?] at g4
          rw [Array.getElem?_eq_none (show w.heap.size ≤ b by omega)] at g4
          simp at g4
      · have hi : i < len := by
          have := (List.getElem?_eq_some_iff.1 hy).1
          simpa using this
        obtain ⟨c1, c2, c3⟩ := hq i hi
        have hy' : y = (q i).1 := by
          simp [hi] at hy; exact hy.symm
        subst hy'
        refine ⟨(q i).2, c1, c2, fun j v hv => ?_⟩
        have hj : j < sz := by rw [← c1]; exact (List.getElem?_eq_some_iff.1 hv).1
        rw [c3 j hj]; exact hv
end

end Go.Proofs.YtpghlmcoajaiiaaGreatDoor

/- Rows of records of the call's own. -/
namespace Go.Proofs.YtpghlmcoajaiiaaGreatDoor
open Go.RowKit

theorem flat_len {α β : Type} (f : α → List β) (sz : Nat) (hf : ∀ y, (f y).length = sz) : ∀ l : List α, (l.flatMap f).length = l.length * sz
  | [] => by simp
  | y :: l => by simp [List.flatMap_cons, flat_len f sz hf l, hf y, Nat.add_mul]; omega
theorem flat_get {α β : Type} (f : α → List β) (sz : Nat) (hf : ∀ y, (f y).length = sz) : ∀ (l : List α) (i : Nat) (y : α) (j : Nat) (v : β), l[i]? = some y → (f y)[j]? = some v → (l.flatMap f)[i * sz + j]? = some v
  | [], i, y, j, v, h, _ => by simp at h
  | x :: l, 0, y, j, v, h, hv => by
    cases h
    have hj := (List.getElem?_eq_some_iff.1 hv).1
    rw [List.flatMap_cons, Nat.zero_mul, Nat.zero_add, List.getElem?_append_left hj]; exact hv
  | x :: l, i + 1, y, j, v, h, hv => by
    have h' : l[i]? = some y := by simpa using h
    rw [List.flatMap_cons, List.getElem?_append_right (by rw [hf, Nat.add_mul]; omega), hf, show (i + 1) * sz + j - sz = i * sz + j by rw [Nat.add_mul]; omega]
    exact flat_get f sz hf l i y j v h' hv
/-- A row of records of the call's own reads as one. -/
theorem TabR.of_own {α : Type} {sz : Nat} {R : List Value → α → Prop} (f : α → List Value) (hf : ∀ y, (f y).length = sz) (hR : ∀ y, R (f y) y) {w : World} {base : Nat} {e : TypeId} {v : Value} {l : List α} (h : w.ownsRow base e sz v l.length (l.flatMap f)) :
    ∃ a cap, v = .slice a l.length cap ∧ TabR sz R w a l.length cap l := by
  obtain ⟨h1, h2⟩ := h
  rcases h2 with ⟨rfl, h0⟩ | ⟨g, cap, cur, rfl, hb, hg, hn, hm, hc, ht⟩
  · have : l.length = 0 := h0
    rw [h0]
    exact ⟨none, 0, rfl, by omega, Nat.le_refl _, by unfold maxLen; omega, fun _ => rfl, .inl rfl⟩
  · refine ⟨_, cap, rfl, rfl, hn, hm, (fun h => by cases h), .inr ⟨g, 0, rfl, (Array.getElem?_eq_some_iff.1 hg).1, fun i y hy => ⟨f y, hf y, hR y, fun j v hv => ?_⟩⟩⟩
    have hi := (List.getElem?_eq_some_iff.1 hy).1
    have hj : j < sz := by rw [← hf y]; exact (List.getElem?_eq_some_iff.1 hv).1
    have hx := flat_get f sz hf l i y j v hy hv
    rw [← ht] at hx
    have hlt : i * sz + j < l.length * sz := by
      have := Nat.mul_le_mul_right sz (show i + 1 ≤ l.length by omega)
      rw [Nat.add_mul] at this; omega
    rw [List.getElem?_take_of_lt hlt] at hx
    simp only [World.cell?, hg, Nat.zero_add]
    rw [← Array.getElem?_toList]; exact hx
end Go.Proofs.YtpghlmcoajaiiaaGreatDoor

/- Rows of records of the call's own: appended to by rows, written into. -/
namespace Go.Proofs.YtpghlmcoajaiiaaGreatDoor
open Go.RowKit

section
variable {P : Program}
/-- 'append' of a row of records to one of the call's own. -/
theorem run_append_tab {α : Type} {w : World} (base : Nat) (t e : TypeId) (i : TypeInfo) (z : Value) (sz bytes : Nat) (ht : P.underlying t = some (.slice e)) (hi : P.info? e = some i) (hz : i.zero = some z)
    (hsize : i.size = sz) (hby : i.bytes = bytes) (hzs : z.cells.size = sz) (hsz : 0 < sz) {v : Value} {n : Nat} {xs : List Value} (hown : w.ownsRow base e sz v n xs)
    (R : List Value → α → Prop) (f : α → List Value) (hR : ∀ cs y, R cs y → cs = f y) (hf : ∀ y, (f y).length = sz) (h1 : ∀ y, ∀ u ∈ f y, u.oneCell' = true)
    {a : Option Addr} {m c : Nat} {l : List α} (hrow : TabR sz R w a m c l) (h63 : n + m ≤ maxLen) (hbytes : (n + m) * bytes ≤ 140737488355328) (hbase : base ≤ w.heap.size) :
    ∃ v' w', (Builtin.append_ #[t, t] t #[v, .slice a m c]).run P w = .ok v' w' ∧ AppOut w base e sz v (n + m) (xs ++ l.flatMap f) w.heap.size v' w' := by
  obtain ⟨g1, g2, g3, hn, g4⟩ := hrow
  cases a with
  | none =>
    have hc := hn rfl
    have hm : m = 0 := by omega
    subst hc hm
    obtain rfl : l = [] := List.eq_nil_of_length_eq_zero g1
    exact ⟨v, w, run_append_owned_none w base t t e i sz ht hi v n xs hown, by simpa using hown, World.grownBy.refl w _, .inl rfl⟩
  | some ad =>
    have hlen := flat_len f sz hf l
    obtain ⟨v', w', hr, h5, h6, _, h7⟩ := run_append_own_at (P := P) w base t t e i z sz bytes ht hi hz hsize hby hzs hsz v n xs hown ad m c (l.flatMap f) (by rw [hlen, g1]) (by
      intro j u hj
      have hjl := (List.getElem?_eq_some_iff.1 hj).1
      rw [hlen] at hjl
      rcases g4 with g4 | ⟨b, off, h5, h6, h7⟩
      · rw [g1, g4] at hjl; omega
      · cases h5
        have ea : (⟨b, off, none⟩ : Addr).add j = ⟨b, off + j, none⟩ := by
          unfold Addr.add; split <;> simp_all
        have hq : j / sz < l.length := Nat.div_lt_of_lt_mul (by rw [Nat.mul_comm]; exact hjl)
        obtain ⟨y, hy⟩ : ∃ y, l[j / sz]? = some y := ⟨_, List.getElem?_eq_getElem hq⟩
        obtain ⟨cs, c1, c2, c3⟩ := h7 _ y hy
        have hcs := hR _ _ c2
        subst hcs
        have hm : j % sz < sz := Nat.mod_lt _ hsz
        obtain ⟨u', hu'⟩ : ∃ u', (f y)[j % sz]? = some u' := ⟨_, List.getElem?_eq_getElem (by rw [hf]; exact hm)⟩
        have hx := flat_get f sz hf l _ y _ u' hy hu'
        have hdm : j / sz * sz + j % sz = j := by rw [Nat.mul_comm]; exact Nat.div_add_mod j sz
        rw [hdm, hj] at hx
        cases hx
        rw [ea]
        have := c3 _ u hu'
        rwa [Nat.add_assoc, hdm] at this) (fun u hu => by
          obtain ⟨y, _, hy⟩ := List.mem_flatMap.1 hu
          exact h1 y u hy) h63 hbytes hbase
    exact ⟨v', w', hr, h5, h6, h7⟩
end

/-- A cell of a row of the call's own is written. -/
theorem own_put {w : World} {base : Nat} {e : TypeId} {size : Nat} {g n cap : Nat} {xs : List Value} (h : w.ownsRow base e size (.slice (some ⟨g, 0, none⟩) n cap) n xs) (j : Nat) (u : Value) (_hj : j < n * size) :
    (w.setCell ⟨g, j, none⟩ u).ownsRow base e size (.slice (some ⟨g, 0, none⟩) n cap) n (xs.set j u) := by
  obtain ⟨h1, h2⟩ := h
  refine ⟨by rw [List.length_set]; exact h1, .inr ?_⟩
  rcases h2 with ⟨hv, _⟩ | ⟨g', cap', cur, hv, hb, hg, hn, hm, hc, ht⟩
  · cases hv
  · cases hv
    refine ⟨g, cap, cur.setIfInBounds j u, rfl, hb, heap_setCell_at j u hg, hn, hm, by simpa using hc, ?_⟩
    rw [← ht, Array.toList_setIfInBounds, List.take_set]
theorem flat_parts {α β : Type} (f : α → List β) (sz : Nat) (hf : ∀ y, (f y).length = sz) {l : List α} {k : Nat} {x : α} (h : l[k]? = some x) :
    ∃ p s, p.length = k * sz ∧ l.flatMap f = p ++ (f x ++ s) ∧ ∀ y, (l.set k y).flatMap f = p ++ (f y ++ s) := by
  have hk := (List.getElem?_eq_some_iff.1 h).1
  have hl : l = l.take k ++ x :: l.drop (k + 1) := by
    have hx := (List.getElem?_eq_some_iff.1 h).2
    rw [← hx]; simp
  refine ⟨(l.take k).flatMap f, (l.drop (k + 1)).flatMap f, by rw [flat_len f sz hf, List.length_take, Nat.min_eq_left (by omega)], ?_, fun y => ?_⟩
  · conv => lhs; rw [hl]
    rw [List.flatMap_append, List.flatMap_cons]
  · rw [List.set_eq_take_append_cons_drop, if_pos hk, List.flatMap_append, List.flatMap_cons]
end Go.Proofs.YtpghlmcoajaiiaaGreatDoor

/- How trees lie in memory: the program's, and the document's. -/
namespace Go.Proofs.YtpghlmcoajaiiaaGreatDoor
open Go.RowKit

theorem TabR.move {α : Type} {sz : Nat} {R R' : List Value → α → Prop} {w w' : World} {a : Option Addr} {len cap : Nat} {l : List α} (h : TabR sz R w a len cap l) (hb : Below w.heap.size w w') (hR : ∀ cs y, y ∈ l → R cs y → R' cs y) : TabR sz R' w' a len cap l := by
  obtain ⟨h1, h2, h3, hn, h4⟩ := TabR.below (Nat.le_refl _) hb h
  refine ⟨h1, h2, h3, hn, ?_⟩
  rcases h4 with h4 | ⟨b, off, h5, h6, h7⟩
  · exact .inl h4
  · exact .inr ⟨b, off, h5, h6, fun i y hy => by obtain ⟨cs, c1, c2, c3⟩ := h7 i y hy; exact ⟨cs, c1, hR _ _ (List.mem_of_getElem? hy) c2, c3⟩⟩
theorem TabR.lens {α : Type} {sz : Nat} {R : List Value → α → Prop} {w : World} {a : Option Addr} {len cap : Nat} {l : List α} (h : TabR sz R w a len cap l) : l.length = len ∧ len ≤ cap ∧ cap ≤ 9223372036854775807 := ⟨h.1, h.2.1, by have := h.2.2.1; unfold maxLen at this; omega⟩
theorem TabR.nil {α : Type} {sz : Nat} {R : List Value → α → Prop} (w : World) : TabR sz R w none 0 0 ([] : List α) := ⟨rfl, Nat.le_refl _, by unfold maxLen; omega, fun _ => rfl, .inl rfl⟩
def IsKey (cs : List Value) (y : List UInt8) : Prop := cs = [.string (strOf y)]
def KeysIn (w : World) (a : Option Addr) (n c : Nat) (l : List (List UInt8)) : Prop := TabR 1 IsKey w a n c l
/-- A value's cells. -/
def IsTv (w : World) (cs : List Value) (v : Tv) : Prop := ∃ a n c, cs = [.string (strOf v.data), .slice a n c] ∧ Row .i64 w a n c v.pages
theorem IsTv.below {w w' : World} {cs : List Value} {v : Tv} (h : IsTv w cs v) (hb : Below w.heap.size w w') : IsTv w' cs v := by
  obtain ⟨a, n, c, e, hr⟩ := h
  exact ⟨a, n, c, e, hr.below (Nat.le_refl _) hb⟩
def ValsIn (w : World) (a : Option Addr) (n c : Nat) (l : List Tv) : Prop := TabR 2 (IsTv w) w a n c l
/-- A node's cells, as the program has it. -/
def NodeIn : Nat → World → List Value → Tr → Prop
  | 0, _, _, _ => False
  | _ + 1, w, cs, .leaf p l => ∃ ka kn kc va vn vc ca cc, cs = [.int .i64 p, .bool true, .slice ka kn kc, .slice va vn vc, .slice ca 0 cc] ∧ KeysIn w ka kn kc (keysOf l) ∧ ValsIn w va vn vc (l.map (·.2)) ∧ TabR 5 (fun _ (_ : Unit) => True) w ca 0 cc []
  | n + 1, w, cs, .node p l => ∃ ka kn kc va vc ca cn cc, cs = [.int .i64 p, .bool false, .slice ka kn kc, .slice va 0 vc, .slice ca cn cc] ∧ KeysIn w ka kn kc (keysOf l) ∧ TabR 2 (fun _ (_ : Unit) => True) w va 0 vc [] ∧ TabR 5 (NodeIn n w) w ca cn cc (l.map (·.2))
theorem NodeIn.below : ∀ {n : Nat} {w w' : World} {cs : List Value} {t : Tr}, NodeIn n w cs t → Below w.heap.size w w' → NodeIn n w' cs t
  | 0, _, _, _, _, h, _ => h.elim
  | _ + 1, _, _, _, .leaf p l, h, hb => by
    obtain ⟨ka, kn, kc, va, vn, vc, ca, cc, e, h1, h2, h3⟩ := h
    exact ⟨ka, kn, kc, va, vn, vc, ca, cc, e, TabR.below (Nat.le_refl _) hb h1, TabR.move h2 hb (fun _ _ _ h => h.below hb), TabR.below (Nat.le_refl _) hb h3⟩
  | n + 1, _, _, _, .node p l, h, hb => by
    obtain ⟨ka, kn, kc, va, vc, ca, cn, cc, e, h1, h2, h3⟩ := h
    exact ⟨ka, kn, kc, va, vc, ca, cn, cc, e, TabR.below (Nat.le_refl _) hb h1, TabR.below (Nat.le_refl _) hb h2, TabR.move h3 hb (fun _ _ _ h => NodeIn.below h hb)⟩
theorem NodeIn.more : ∀ {n m : Nat} {w : World} {cs : List Value} {t : Tr}, NodeIn n w cs t → n ≤ m → NodeIn m w cs t
  | 0, _, _, _, _, h, _ => h.elim
  | n + 1, 0, _, _, _, _, h => by omega
  | _ + 1, _ + 1, _, _, .leaf p l, h, _ => h
  | n + 1, m + 1, _, _, .node p l, h, hm => by
    obtain ⟨ka, kn, kc, va, vc, ca, cn, cc, e, h1, h2, h3⟩ := h
    exact ⟨ka, kn, kc, va, vc, ca, cn, cc, e, h1, h2, TabR.mono h3 (fun _ _ h => NodeIn.more h (by omega))⟩
/-- A leaf's cell, as the document has it. -/
def IsLc (w : World) (cs : List Value) (y : List UInt8 × Tv) : Prop := ∃ pa pn pc ka kc, cs = [.string (strOf y.1), .string (strOf y.2.data), .slice pa pn pc, .slice ka 0 kc] ∧ Row .i64 w pa pn pc y.2.pages ∧ TabR 3 (fun _ (_ : Unit) => True) w ka 0 kc []
/-- A node's cells, as the document has it. -/
def RIn : Nat → World → List Value → Tr → Prop
  | 0, _, _, _ => False
  | _ + 1, w, cs, .leaf p l => ∃ a n c, cs = [.int .i64 p, .bool true, .slice a n c] ∧ TabR 4 (IsLc w) w a n c l
  | n + 1, w, cs, .node p l => ∃ a m c, cs = [.int .i64 p, .bool false, .slice a m c] ∧ TabR 4 (fun cs (y : List UInt8 × Tr) => ∃ pa pc ka kc, cs = [.string (strOf y.1), .string (strOf []), .slice pa 0 pc, .slice ka 1 kc] ∧ Row .i64 w pa 0 pc [] ∧ TabR 3 (RIn n w) w ka 1 kc [y.2]) w a m c l
/-- A branch's cell, as the document has it. -/
def IsNc (n : Nat) (w : World) (cs : List Value) (y : List UInt8 × Tr) : Prop := ∃ pa pc ka kc, cs = [.string (strOf y.1), .string (strOf []), .slice pa 0 pc, .slice ka 1 kc] ∧ Row .i64 w pa 0 pc [] ∧ TabR 3 (RIn n w) w ka 1 kc [y.2]
theorem IsLc.below {w w' : World} {cs : List Value} {y : List UInt8 × Tv} (h : IsLc w cs y) (hb : Below w.heap.size w w') : IsLc w' cs y := by
  obtain ⟨pa, pn, pc, ka, kc, e, h1, h2⟩ := h
  exact ⟨pa, pn, pc, ka, kc, e, h1.below (Nat.le_refl _) hb, TabR.below (Nat.le_refl _) hb h2⟩
theorem RIn.below : ∀ {n : Nat} {w w' : World} {cs : List Value} {t : Tr}, RIn n w cs t → Below w.heap.size w w' → RIn n w' cs t
  | 0, _, _, _, _, h, _ => h.elim
  | _ + 1, _, _, _, .leaf p l, h, hb => by
    obtain ⟨a, n, c, e, h1⟩ := h
    exact ⟨a, n, c, e, TabR.move h1 hb (fun _ _ _ h => h.below hb)⟩
  | n + 1, _, _, _, .node p l, h, hb => by
    obtain ⟨a, m, c, e, h1⟩ := h
    refine ⟨a, m, c, e, TabR.move h1 hb (fun _ _ _ h => ?_)⟩
    obtain ⟨pa, pc, ka, kc, e, g1, g2⟩ := h
    exact ⟨pa, pc, ka, kc, e, g1.below (Nat.le_refl _) hb, TabR.move g2 hb (fun _ _ _ h => RIn.below h hb)⟩
theorem IsNc.below {n : Nat} {w w' : World} {cs : List Value} {y : List UInt8 × Tr} (h : IsNc n w cs y) (hb : Below w.heap.size w w') : IsNc n w' cs y := by
  obtain ⟨pa, pc, ka, kc, e, g1, g2⟩ := h
  exact ⟨pa, pc, ka, kc, e, g1.below (Nat.le_refl _) hb, TabR.move g2 hb (fun _ _ _ h => RIn.below h hb)⟩
theorem RIn.more : ∀ {n m : Nat} {w : World} {cs : List Value} {t : Tr}, RIn n w cs t → n ≤ m → RIn m w cs t
  | 0, _, _, _, _, h, _ => h.elim
  | n + 1, 0, _, _, _, _, h => by omega
  | _ + 1, _ + 1, _, _, .leaf p l, h, _ => h
  | n + 1, m + 1, _, _, .node p l, h, hm => by
    obtain ⟨a, k, c, e, h1⟩ := h
    refine ⟨a, k, c, e, TabR.mono h1 (fun _ _ h => ?_)⟩
    obtain ⟨pa, pc, ka, kc, e, g1, g2⟩ := h
    exact ⟨pa, pc, ka, kc, e, g1, TabR.mono g2 (fun _ _ h => RIn.more h (by omega))⟩
theorem IsNc.more {n m : Nat} {w : World} {cs : List Value} {y : List UInt8 × Tr} (h : IsNc n w cs y) (hm : n ≤ m) : IsNc m w cs y := by
  obtain ⟨pa, pc, ka, kc, e, g1, g2⟩ := h
  exact ⟨pa, pc, ka, kc, e, g1, TabR.mono g2 (fun _ _ h => RIn.more h hm)⟩

/-! rows as rows of cells -/
/-- So many cells, each of one word. -/
def Cl (sz : Nat) : Type := { cs : List Value // cs.length = sz ∧ ∀ u ∈ cs, u.oneCell' = true }
/-- A slice as a row of raw cells. -/
def Raw (sz : Nat) (w : World) (a : Option Addr) (n c : Nat) (L : List (Cl sz)) : Prop := TabR sz (fun cs y => cs = y.1) w a n c L
/-- What the cells tell. -/
def Tells {α : Type} {sz : Nat} (R : List Value → α → Prop) (L : List (Cl sz)) (l : List α) : Prop := L.length = l.length ∧ ∀ (i : Nat) (x : Cl sz) (y : α), L[i]? = some x → l[i]? = some y → R x.1 y
theorem TabR.raw {α : Type} {sz : Nat} {R : List Value → α → Prop} {w : World} {a : Option Addr} {n c : Nat} {l : List α} (h : TabR sz R w a n c l) (h1 : ∀ cs y, R cs y → ∀ u ∈ cs, u.oneCell' = true) : ∃ L : List (Cl sz), Raw sz w a n c L ∧ Tells R L l := by
  obtain ⟨e1, e2, e3, e4, e5⟩ := h
  rcases e5 with e5 | ⟨b, off, f1, f2, f3⟩
  · subst e5
    have : l = [] := List.eq_nil_of_length_eq_zero e1
    subst this
    exact ⟨[], ⟨rfl, e2, e3, e4, .inl rfl⟩, rfl, fun i x y hx => by simp at hx⟩
  · have each : ∀ i, i < l.length → ∃ x : Cl sz, ∃ y, l[i]? = some y ∧ R x.1 y ∧ ∀ j v, x.1[j]? = some v → w.cell? ⟨b, off + i * sz + j, none⟩ = some v := by
      intro i hi
      have hy : l[i]? = some l[i] := List.getElem?_eq_getElem hi
      obtain ⟨cs, c1, c2, c3⟩ := f3 i _ hy
      exact ⟨⟨cs, c1, h1 _ _ c2⟩, _, hy, c2, c3⟩
    by_cases h0 : l.length = 0
    · have : l = [] := List.eq_nil_of_length_eq_zero h0
      subst this
      exact ⟨[], ⟨by simpa using e1, e2, e3, e4, .inl (by simpa using e1.symm)⟩, rfl, fun i x y hx => by simp at hx⟩
    · obtain ⟨x0, _⟩ := each 0 (by omega)
      haveI : Inhabited (Cl sz) := ⟨x0⟩
      obtain ⟨q, hq⟩ := Go.Deep.choose_lt each
      refine ⟨(List.range l.length).map q, ⟨by simpa using e1, e2, e3, e4, .inr ⟨b, off, f1, f2, fun i y hy => ?_⟩⟩, by simp, fun i x y hx hy => ?_⟩
      · have hi : i < l.length := by have := (List.getElem?_eq_some_iff.1 hy).1; simpa using this
        have hy' : y = q i := by simp [hi] at hy; exact hy.symm
        subst hy'
        obtain ⟨z, _, _, g3⟩ := hq i hi
        exact ⟨(q i).1, (q i).2.1, rfl, g3⟩
      · have hi : i < l.length := (List.getElem?_eq_some_iff.1 hy).1
        have hx' : x = q i := by simp [hi] at hx; exact hx.symm
        subst hx'
        obtain ⟨z, g1, g2, _⟩ := hq i hi
        rw [hy] at g1; cases g1
        exact g2
theorem Raw.tab {α : Type} {sz : Nat} {R : List Value → α → Prop} {w : World} {a : Option Addr} {n c : Nat} {L : List (Cl sz)} {l : List α} (h : Raw sz w a n c L) (hR : Tells R L l) : TabR sz R w a n c l := by
  obtain ⟨e1, e2, e3, e4, e5⟩ := h
  refine ⟨by rw [← hR.1]; exact e1, e2, e3, e4, ?_⟩
  rcases e5 with e5 | ⟨b, off, f1, f2, f3⟩
  · exact .inl e5
  · refine .inr ⟨b, off, f1, f2, fun i y hy => ?_⟩
    have hi : i < L.length := by rw [hR.1]; exact (List.getElem?_eq_some_iff.1 hy).1
    have hx : L[i]? = some L[i] := List.getElem?_eq_getElem hi
    obtain ⟨cs, c1, c2, c3⟩ := f3 i _ hx
    exact ⟨cs, c1, by rw [c2]; exact hR.2 i _ y hx hy, c3⟩
section
variable {α : Type} {sz : Nat} {R : List Value → α → Prop}
theorem Tells.mono {R' : List Value → α → Prop} {L : List (Cl sz)} {l : List α} (h : Tells R L l) (hR : ∀ cs y, y ∈ l → R cs y → R' cs y) : Tells R' L l := ⟨h.1, fun i x y hx hy => hR _ _ (List.mem_of_getElem? hy) (h.2 i x y hx hy)⟩
theorem Tells.nil : Tells R ([] : List (Cl sz)) ([] : List α) := ⟨rfl, fun i x y hx => by simp at hx⟩
theorem Tells.append {L M : List (Cl sz)} {l m : List α} (h : Tells R L l) (g : Tells R M m) : Tells R (L ++ M) (l ++ m) := by
  refine ⟨by rw [List.length_append, List.length_append, h.1, g.1], fun i x y hx hy => ?_⟩
  by_cases hi : i < L.length
  · rw [List.getElem?_append_left hi] at hx
    rw [List.getElem?_append_left (by rw [← h.1]; exact hi)] at hy
    exact h.2 i x y hx hy
  · rw [List.getElem?_append_right (by omega)] at hx
    rw [List.getElem?_append_right (by rw [← h.1]; omega), ← h.1] at hy
    exact g.2 _ x y hx hy
theorem Tells.take {L : List (Cl sz)} {l : List α} (h : Tells R L l) (k : Nat) : Tells R (L.take k) (l.take k) := by
  refine ⟨by rw [List.length_take, List.length_take, h.1], fun i x y hx hy => ?_⟩
  rw [List.getElem?_take] at hx hy
  split at hx
  · rename_i hi
    rw [if_pos hi] at hy
    exact h.2 i x y hx hy
  · cases hx
theorem Tells.drop {L : List (Cl sz)} {l : List α} (h : Tells R L l) (k : Nat) : Tells R (L.drop k) (l.drop k) := by
  refine ⟨by rw [List.length_drop, List.length_drop, h.1], fun i x y hx hy => ?_⟩
  rw [List.getElem?_drop] at hx hy
  exact h.2 _ x y hx hy
theorem Tells.one {x : Cl sz} {y : α} (h : R x.1 y) : Tells R [x] [y] := by
  refine ⟨rfl, fun i x' y' hx hy => ?_⟩
  cases i with
  | zero => simp at hx hy; subst hx hy; exact h
  | succ i => simp at hx
theorem Tells.cons {x : Cl sz} {y : α} {L : List (Cl sz)} {l : List α} (h : R x.1 y) (g : Tells R L l) : Tells R (x :: L) (y :: l) := (Tells.one h).append g
theorem Tells.set {L : List (Cl sz)} {l : List α} (h : Tells R L l) (k : Nat) {x : Cl sz} {y : α} (hx : R x.1 y) : Tells R (L.set k x) (l.set k y) := by
  refine ⟨by rw [List.length_set, List.length_set, h.1], fun i x' y' h1 h2 => ?_⟩
  rw [List.getElem?_set] at h1 h2
  split at h1
  · rename_i e
    subst e
    rw [if_pos rfl] at h2
    split at h1 <;> split at h2
    · cases h1; cases h2; exact hx
    · cases h2
    · cases h1
    · cases h1
  · rename_i e
    rw [if_neg e] at h2
    exact h.2 i x' y' h1 h2
end
/-- The cells behind one another. -/
def flatC {sz : Nat} (L : List (Cl sz)) : List Value := L.flatMap (·.1)
theorem flatC_append {sz : Nat} (L M : List (Cl sz)) : flatC (L ++ M) = flatC L ++ flatC M := by simp [flatC]
theorem flatC_one {sz : Nat} (x : Cl sz) : flatC [x] = x.1 := by simp [flatC]
/-- A row of records of the call's own, read. -/
theorem Raw.of_own {sz : Nat} {w : World} {base : Nat} {e : TypeId} {v : Value} {n : Nat} {L : List (Cl sz)} (h : w.ownsRow base e sz v n (flatC L)) (hn : L.length = n) : ∃ a cap, v = .slice a n cap ∧ Raw sz w a n cap L := by
  subst hn
  exact TabR.of_own (fun y : Cl sz => y.1) (fun y => y.2.1) (fun y => rfl) h
section
variable {P : Program}
/-- 'append' of a row of records to one of the call's own. -/
theorem run_append_raw {w : World} (base : Nat) (t e : TypeId) (i : TypeInfo) (z : Value) (sz bytes : Nat) (ht : P.underlying t = some (.slice e)) (hi : P.info? e = some i) (hz : i.zero = some z)
    (hsize : i.size = sz) (hby : i.bytes = bytes) (hzs : z.cells.size = sz) (hsz : 0 < sz) {v : Value} {n : Nat} {L : List (Cl sz)} (hown : w.ownsRow base e sz v n (flatC L))
    {a : Option Addr} {m c : Nat} {M : List (Cl sz)} (hrow : Raw sz w a m c M) (h63 : n + m ≤ maxLen) (hbytes : (n + m) * bytes ≤ 140737488355328) (hbase : base ≤ w.heap.size) :
    ∃ v' w', (Builtin.append_ #[t, t] t #[v, .slice a m c]).run P w = .ok v' w' ∧ AppOut w base e sz v (n + m) (flatC (L ++ M)) w.heap.size v' w' := by
  rw [flatC_append]
  exact run_append_tab base t e i z sz bytes ht hi hz hsize hby hzs hsz hown (fun cs (y : Cl sz) => cs = y.1) (fun y => y.1) (fun cs y h => h) (fun y => y.2.1) (fun y => y.2.2) hrow h63 hbytes hbase
end
theorem Raw.lens {sz : Nat} {w : World} {a : Option Addr} {n c : Nat} {L : List (Cl sz)} (h : Raw sz w a n c L) : L.length = n ∧ n ≤ c ∧ c ≤ 9223372036854775807 := TabR.lens h
theorem Raw.below {sz : Nat} {w w' : World} {a : Option Addr} {n c : Nat} {L : List (Cl sz)} (h : Raw sz w a n c L) (hb : Below w.heap.size w w') : Raw sz w' a n c L := TabR.below (Nat.le_refl _) hb h
end Go.Proofs.YtpghlmcoajaiiaaGreatDoor

/- Rows of raw cells: cut, cloned, put one behind the other; no program in sight. -/
namespace Go.Proofs.YtpghlmcoajaiiaaGreatDoor
open Go.RowKit

theorem TabR.tk {α : Type} {sz : Nat} {R : List Value → α → Prop} {w : World} {a : Option Addr} {len cap : Nat} {l : List α} (h : TabR sz R w a len cap l) {j : Nat} (hj : j ≤ len) : TabR sz R w a j cap (l.take j) := by
  obtain ⟨h1, h2, h3, hn, h4⟩ := h
  refine ⟨by simp; omega, by omega, h3, hn, ?_⟩
  rcases h4 with h4 | ⟨b, off, h5, h6, h7⟩
  · exact .inl (by omega)
  · refine .inr ⟨b, off, h5, h6, fun i y hy => h7 i y ?_⟩
    have hi : i < j := by have := (List.getElem?_eq_some_iff.1 hy).1; simp at this; omega
    rwa [List.getElem?_take_of_lt hi] at hy
theorem TabR.dp {α : Type} {sz : Nat} {R : List Value → α → Prop} {w : World} {a : Option Addr} {len cap : Nat} {l : List α} (h : TabR sz R w a len cap l) {j : Nat} (hj : j ≤ len) :
    TabR sz R w (if cap = j then a else a.map (·.add (j * sz))) (len - j) (cap - j) (l.drop j) := by
  obtain ⟨h1, h2, h3, hn, h4⟩ := h
  refine ⟨by simp; omega, by omega, by omega, (fun h => by
    have : cap = 0 := by
      by_cases e : cap = j
      · rw [if_pos e] at h; exact hn h
      · rw [if_neg e] at h; exact hn (by simpa using h)
    omega), ?_⟩
  rcases h4 with h4 | ⟨b, off, rfl, h6, h7⟩
  · exact .inl (by omega)
  · by_cases e : cap = j
    · exact .inl (by omega)
    · refine .inr ⟨b, off + j * sz, by rw [if_neg e]; simp [add_none], h6, fun i y hy => ?_⟩
      rw [List.getElem?_drop] at hy
      obtain ⟨cs, c1, c2, c3⟩ := h7 (j + i) y hy
      refine ⟨cs, c1, c2, fun k v hv => ?_⟩
      rw [← c3 k v hv]
      congr 2
      rw [Nat.add_mul]; omega
/-- What a type's row of the table tells. -/
def RowInfo (P : Program) (e : TypeId) (sz bytes : Nat) : Prop := ∃ i z, P.info? e = some i ∧ i.zero = some z ∧ i.size = sz ∧ i.bytes = bytes ∧ z.cells.size = sz
theorem row_info {P : Program} {e : TypeId} {sz bytes : Nat} (h : (P.info? e).map (fun i => (i.zero.map (·.cells.size), i.size, i.bytes)) = some (some sz, sz, bytes)) : RowInfo P e sz bytes := by
  cases hi : P.info? e with
  | none => rw [hi] at h; cases h
  | some i =>
    rw [hi] at h
    simp only [Option.map_some, Option.some.injEq, Prod.mk.injEq] at h
    obtain ⟨h1, h2, h3⟩ := h
    obtain ⟨z, h4, h5⟩ := Option.map_eq_some_iff.1 h1
    exact ⟨i, z, hi, h4, h2, h3, h5⟩
/-- A slice of the call's own row, as what a call answers. -/
def OwnRaw (E : TypeId) (sz : Nat) (w : World) (L : List (Cl sz)) (e : Ending) (w' : World) : Prop := ∃ v, e = .returned v ∧ w'.ownsRow w.heap.size E sz v L.length (flatC L) ∧ Below w.heap.size w w'
theorem own_base {w : World} {B B' : Nat} {e : TypeId} {size : Nat} {v : Value} {n : Nat} {xs : List Value} (h : w.ownsRow B e size v n xs) (hB : B' ≤ B) : w.ownsRow B' e size v n xs :=
  ⟨h.1, h.2.imp id fun ⟨g, cap, cur, e1, hg, r⟩ => ⟨g, cap, cur, e1, Nat.le_trans hB hg, r⟩⟩
theorem own_held {w w' : World} {base : Nat} {e : TypeId} {size : Nat} {v : Value} {n : Nat} {xs : List Value} (h : w.ownsRow base e size v n xs) (hb : Below w.heap.size w w') : w'.ownsRow base e size v n xs := by
  refine ⟨h.1, h.2.imp id fun ⟨g, cap, cur, e1, hg, hh, r⟩ => ⟨g, cap, cur, e1, hg, ?_, r⟩⟩
  rw [hb.block g (Array.getElem?_eq_some_iff.1 hh).1]; exact hh
theorem OwnRaw.after {E : TypeId} {sz : Nat} {w W : World} {L : List (Cl sz)} {e : Ending} {w' : World} (hb : Below w.heap.size w W) (h : OwnRaw E sz W L e w') : OwnRaw E sz w L e w' := by
  obtain ⟨v, h1, h2, h3⟩ := h
  exact ⟨v, h1, own_base h2 hb.size, hb.trans (h3.mono hb.size)⟩
theorem OwnRaw.sl {E : TypeId} {sz : Nat} {w : World} {L : List (Cl sz)} {e : Ending} {w' : World} (h : OwnRaw E sz w L e w') :
    ∃ a c, e = .returned (.slice a L.length c) ∧ L.length ≤ c ∧ c ≤ 9223372036854775807 ∧ w'.ownsRow w.heap.size E sz (.slice a L.length c) L.length (flatC L) ∧ Below w.heap.size w w' := by
  obtain ⟨v, rfl, h2, h3⟩ := h
  rcases h2.2 with ⟨rfl, h0⟩ | ⟨g, cap, cur, rfl, _, _, hn, hm, _⟩
  · exact ⟨none, 0, by rw [h0], by omega, by omega, by rw [h0]; rw [h0] at h2; exact h2, h3⟩
  · exact ⟨_, cap, rfl, hn, by unfold maxLen at hm; omega, h2, h3⟩
theorem own_empty (W : World) (t : TypeId) (sz : Nat) {b : Nat} (hb : W.heap.size = b) {base : Nat} (hbase : base ≤ b) : (W.alloc (.cells #[] t)).ownsRow base t sz (.slice (some ⟨b, 0, none⟩) 0 0) 0 [] := by
  subst hb
  exact ⟨by simp, .inr ⟨_, 0, _, rfl, hbase, World.alloc_heap_new W _, Nat.le_refl _, by unfold maxLen; omega, by simp, by simp⟩⟩
theorem own_nil (W : World) (t : TypeId) (sz base : Nat) : W.ownsRow base t sz (.slice none 0 0) 0 [] := ⟨by simp, .inl ⟨rfl, rfl⟩⟩
theorem run_append_nil_zerosR {P : Program} (w : World) (t u ty e : TypeId) (k : IntKind) (i : TypeInfo) (z : Value) (sz : Nat) (ht : P.underlying t = some (.slice e)) (hu : P.underlying u = some (.int k)) (hi : P.info? e = some i) (hz : i.zero = some z) (hz1 : i.size = sz) (hsz : 0 < sz)
    (n : Nat) (h0 : 0 < n) (h9 : n ≤ 100000) (hby : i.bytes ≤ 100) :
    (Builtin.append_ #[t, u] ty #[.slice none 0 0, .int .i64 (n : Int)]).run P w =
      .ok (.slice (some ⟨w.heap.size, 0, none⟩) n (grownCap w n 0 e))
        (w.drew.alloc (.cells (Builtin.zeroCells z.cells n ++ Builtin.zeroCells z.cells (grownCap w n 0 e - n)) e)) := by
  have hn : n ≠ 0 := by omega
  have hz0 : ¬ n * sz = 0 := Nat.mul_ne_zero hn (by omega)
  have hle : ¬ ((n : Int) ≤ 0) := by omega
  have hneg : ¬ ((n : Int) < 0) := by omega
  have hw : IntKind.i64.wrap (n : Int) = (n : Int) := by simp [IntKind.wrap, IntKind.signed, IntKind.bits]; omega
  have hmul : n * i.bytes ≤ 10000000 := Nat.le_trans (Nat.mul_le_mul h9 hby) (by omega)
  have h48 : ¬ ((281474976710656 : Int) < (n : Int) * (i.bytes : Int)) := by
    have : ((n * i.bytes : Nat) : Int) ≤ 10000000 := by omega
    rw [Int.natCast_mul] at this; omega
  have h63' : ¬ (9223372036854775807 < (n : Int)) := by omega
  have h48' : ¬ (281474976710656 < Builtin.nextslicecap n 0 * i.bytes) := by rw [nextslicecap_zero h0]; omega
  simp [Builtin.append_, run_underlying ht, run_underlying hu, sizeOf, typeInfo, zeroValue, hi, hz, hz1, asInt, asIntOf, hw, hneg, h48, hn, hz0, Builtin.firstCells, h63', h48', Question.forced, newRow, grownCap]
theorem run_grow {P : Program} (w : World) (t u e : TypeId) (sz bytes : Nat) (ht : P.underlying t = some (.slice e)) {k : IntKind} (hu : P.underlying u = some (.int k)) (hi : RowInfo P e sz bytes) (hsz : 0 < sz) (hby : bytes ≤ 100) (n : Nat) (h0 : 0 < n) (h9 : n ≤ 100000) :
    ∃ c w', (Builtin.append_ #[t, u] t #[.slice none 0 0, .int .i64 (n : Int)]).run P w = .ok (.slice (some ⟨w.heap.size, 0, none⟩) n c) w' ∧ n ≤ c ∧ c ≤ 9223372036854775807 ∧ w'.ownsRow w.heap.size e sz (.slice (some ⟨w.heap.size, 0, none⟩) 0 c) 0 [] ∧ Below w.heap.size w w' := by
  obtain ⟨i, z, hi, hz, hz1, hz2, hz3⟩ := hi
  have hr := run_append_nil_zerosR (P := P) w t u t e k i z sz ht hu hi hz hz1 hsz n h0 h9 (by omega)
  have hge := grownCap_ge w n 0 e
  have hle := grownCap_le_maxLen w n 0 e (by unfold maxLen; omega)
  refine ⟨_, _, hr, hge, by unfold maxLen at hle; omega, ⟨by simp, .inr ⟨_, _, _, rfl, Nat.le_refl _, World.alloc_heap_new w.drew _, Nat.zero_le _, hle, ?_, by simp⟩⟩, ((Below.refl _ _).drew).alloc (Nat.le_refl _) _⟩
  simp [Builtin.zeroCells, hz3]
  rw [← Nat.add_mul, Nat.add_sub_cancel' hge]
/-- A slice of rows. -/
def IsRaw (sz : Nat) (w : World) (cs : List Value) (L : List (Cl sz)) : Prop := ∃ a n c, cs = [.slice a n c] ∧ Raw sz w a n c L
def Raws (sz : Nat) (w : World) (a : Option Addr) (n c : Nat) (LL : List (List (Cl sz))) : Prop := TabR 1 (IsRaw sz w) w a n c LL
theorem IsRaw.below {sz : Nat} {w w' : World} {cs : List Value} {L : List (Cl sz)} (h : IsRaw sz w cs L) (hb : Below w.heap.size w w') : IsRaw sz w' cs L := by
  obtain ⟨a, n, c, e, h⟩ := h
  exact ⟨a, n, c, e, h.below hb⟩
theorem Raws.below {sz : Nat} {w w' : World} {a : Option Addr} {n c : Nat} {LL : List (List (Cl sz))} (h : Raws sz w a n c LL) (hb : Below w.heap.size w w') : Raws sz w' a n c LL := TabR.move h hb (fun _ _ _ h => h.below hb)
theorem Raws.at {sz : Nat} {w : World} {a : Option Addr} {n c : Nat} {LL : List (List (Cl sz))} (h : Raws sz w a n c LL) {k : Nat} (hk : k < n) :
    ∃ b off a' n' c' L, a = some ⟨b, off, none⟩ ∧ b < w.heap.size ∧ w.cell? ⟨b, off + k, none⟩ = some (.slice a' n' c') ∧ LL[k]? = some L ∧ Raw sz w a' n' c' L := by
  obtain ⟨b, off, y, cs, e1, e2, e3, _, ⟨a', n', c', rfl, h'⟩, e6⟩ := TabR.at h hk
  have := e6 0 _ rfl
  rw [Nat.mul_one, Nat.add_zero] at this
  exact ⟨b, off, a', n', c', y, e1, e2, this, e3, h'⟩
def lenR {α : Type} (LL : List (List α)) : Nat := (LL.map List.length).sum
theorem lenR_succ {α : Type} {LL : List (List α)} {i : Nat} {L : List α} (h : LL[i]? = some L) : lenR (LL.take (i + 1)) = lenR (LL.take i) + L.length ∧ (LL.take (i + 1)).flatten = (LL.take i).flatten ++ L := by
  obtain ⟨hi, e⟩ := List.getElem?_eq_some_iff.1 h
  have e2 : LL.take (i + 1) = LL.take i ++ [L] := by rw [List.take_succ_eq_append_getElem hi, e]
  rw [e2]
  exact ⟨by simp [lenR], by simp⟩
theorem lenR_take {α : Type} (LL : List (List α)) (i : Nat) : lenR (LL.take i) ≤ lenR LL := by
  have : lenR LL = lenR (LL.take i) + lenR (LL.drop i) := by
    conv => lhs; rw [← List.take_append_drop i LL]
    simp only [lenR, List.map_append, List.sum_append]
  omega
theorem lenR_flat {α : Type} (LL : List (List α)) : LL.flatten.length = lenR LL := by simp [lenR, List.length_flatten]
/-- A fresh row of two or three rows. -/
theorem Raws.made {sz : Nat} {W : World} {t : TypeId} (vs : List (Option Addr × Nat × Nat)) (LL : List (List (Cl sz))) (h : ∀ (i : Nat) x L, vs[i]? = some x → LL[i]? = some L → Raw sz W x.1 x.2.1 x.2.2 L) (hl : vs.length = LL.length) (h9 : LL.length ≤ 1000) {b : Nat} (hb : W.heap.size = b) :
    Raws sz (W.alloc (.cells (vs.map fun x => Value.slice x.1 x.2.1 x.2.2).toArray t)) (some ⟨b, 0, none⟩) LL.length LL.length LL := by
  subst hb
  have hB : Below W.heap.size W (W.alloc (.cells (vs.map fun x => Value.slice x.1 x.2.1 x.2.2).toArray t)) := (Below.refl _ _).alloc (Nat.le_refl _) _
  refine ⟨rfl, Nat.le_refl _, by unfold maxLen; omega, (fun h => by cases h), .inr ⟨_, _, rfl, by simp, fun i L hL => ?_⟩⟩
  have hi := (List.getElem?_eq_some_iff.1 hL).1
  have hx : vs[i]? = some vs[i] := List.getElem?_eq_getElem (by omega)
  refine ⟨[.slice vs[i].1 vs[i].2.1 vs[i].2.2], rfl, ⟨_, _, _, rfl, (h i _ L hx hL).below hB⟩, fun j v hj => ?_⟩
  cases j with
  | succ j => simp at hj
  | zero =>
    simp at hj
    subst hj
    have := World.alloc_heap_new W (.cells (vs.map fun x => Value.slice x.1 x.2.1 x.2.2).toArray t)
    simp only [World.cell?, this]
    simp [show i < vs.length by omega]
end Go.Proofs.YtpghlmcoajaiiaaGreatDoor
