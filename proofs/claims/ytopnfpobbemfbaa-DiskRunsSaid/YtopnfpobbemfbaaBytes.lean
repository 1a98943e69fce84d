/- Bytes: slices of bytes and strings that read as lists of bytes. -/
import Derived.Test.YtopnfpobbemfbaaBase
import Derived.Laws.BytesArg
import Derived.Laws.MakeOwn
import Derived.Laws.BitsAllLaws
import Derived.Lib.AppendStr
import Derived.Lib.BufferRead
namespace Go.Proofs.Ytopnfpobbemfbaa
open Go.RowKit

/-- The numbers that bytes are. -/
def toI (l : List UInt8) : List Int := l.map fun b => (b.toNat : Int)
theorem toI_length (l : List UInt8) : (toI l).length = l.length := by simp [toI]
theorem toI_take (l : List UInt8) (k : Nat) : (toI l).take k = toI (l.take k) := by simp [toI, List.map_take]
theorem toI_drop (l : List UInt8) (k : Nat) : (toI l).drop k = toI (l.drop k) := by simp [toI, List.map_drop]
theorem toI_append (l m : List UInt8) : toI l ++ toI m = toI (l ++ m) := by simp [toI]
theorem toI_get (l : List UInt8) (k : Nat) : (toI l)[k]?.getD 0 = ((l[k]?.getD 0).toNat : Int) := by
  simp only [toI, List.getElem?_map]
  cases l[k]? <;> simp
/-- Numbers that fit into bytes are bytes. -/
def ofI (l : List Int) : List UInt8 := l.map fun n => UInt8.ofNat n.toNat
theorem toI_ofI (l : List Int) (h : ∀ n ∈ l, (Lit.int .u8 n).wf = true) : toI (ofI l) = l := by
  induction l with
  | nil => rfl
  | cons x l ih =>
    have h1 := h x (by simp)
    have h2 := ih (fun n hn => h n (by simp [hn]))
    simp [Lit.wf, IntKind.min, IntKind.max, IntKind.signed, IntKind.bits] at h1
    simp only [toI, ofI, List.map_cons] at h2 ⊢
    rw [h2]
    congr 1
    simp [UInt8.toNat_ofNat']
    omega

/-- A slice of bytes that reads as a list of bytes. -/
def Bs (w : World) (a : Option Addr) (len cap : Nat) (l : List UInt8) : Prop := Row .u8 w a len cap (toI l)

theorem Bs.below {w w' : World} {a : Option Addr} {len cap : Nat} {l : List UInt8} {B : Nat} (hB : w.heap.size ≤ B) (hb : Below B w w') (h : Bs w a len cap l) : Bs w' a len cap l := Row.below hB hb h
theorem Bs.drewN {w : World} {a : Option Addr} {len cap : Nat} {l : List UInt8} (h : Bs w a len cap l) (n : Nat) : Bs (w.drewN n) a len cap l := h
theorem Bs.take {w : World} {a : Option Addr} {len cap : Nat} {l : List UInt8} (j : Nat) (hj : j ≤ len) (h : Bs w a len cap l) : Bs w a j cap (l.take j) := by
  have := Row.take j hj h; rwa [toI_take] at this
theorem Bs.drop {w : World} {a : Option Addr} {len cap : Nat} {l : List UInt8} (j : Nat) (hj : j ≤ len) (h : Bs w a len cap l) : Bs w (if cap = j then a else a.map (·.add (j * 1))) (len - j) (cap - j) (l.drop j) := by
  have := Row.drop j hj h; rwa [toI_drop] at this
theorem Bs.len {w : World} {a : Option Addr} {len cap : Nat} {l : List UInt8} (h : Bs w a len cap l) : l.length = len := by have := h.1; rwa [toI_length] at this
theorem Bs.cap {w : World} {a : Option Addr} {len cap : Nat} {l : List UInt8} (h : Bs w a len cap l) : len ≤ cap ∧ cap ≤ maxLen := ⟨h.2.1, h.2.2.1⟩
theorem Bs.nil {w : World} {cap : Nat} (a : Option Addr) (h : cap ≤ maxLen) (hn : a = none → cap = 0) : Bs w a 0 cap [] := ⟨rfl, Nat.zero_le _, h, hn, .inl rfl⟩
theorem Bs.cell {w : World} {a : Option Addr} {len cap : Nat} {l : List UInt8} (h : Bs w a len cap l) {k : Nat} (hk : k < len) :
    ∃ b off, a = some ⟨b, off, none⟩ ∧ b < w.heap.size ∧ ∀ i, i < len → w.cell? ⟨b, off + i, none⟩ = some (.int .u8 ((l[i]?.getD 0).toNat : Int)) := by
  rcases h.2.2.2.2 with h0 | ⟨b, off, e, hb, hc⟩
  · omega
  · exact ⟨b, off, e, hb, fun i hi => by rw [hc i hi, toI_get]⟩
theorem Bs.of_own {w : World} {base : Nat} {e : TypeId} {v : Value} {n : Nat} {l : List UInt8} (h : w.ownsRow base e 1 v n ((toI l).map (Value.int .u8))) :
    ∃ a cap, v = .slice a n cap ∧ Bs w a n cap l := Row.of_own h

/-- The blocks that a change leaves alone keep the bytes. -/
theorem Row.grown {k : IntKind} {w w' : World} {a : Option Addr} {len cap : Nat} {l : List Int} {row : Option Nat} (hg : w.grownBy w' row) (hne : ∀ b off, len ≠ 0 → a = some ⟨b, off, none⟩ → row ≠ some b) (h : Row k w a len cap l) : Row k w' a len cap l := by
  obtain ⟨h1, h2, h3, hn, h4⟩ := h
  refine ⟨h1, h2, h3, hn, ?_⟩
  rcases h4 with h4 | ⟨b, off, h5, h6, h7⟩
  · exact .inl h4
  · by_cases h0 : len = 0
    · exact .inl h0
    · refine .inr ⟨b, off, h5, by have := hg.size; omega, fun i hi => ?_⟩
      rw [← h7 i hi]
      exact World.cell?_of_block (hg.block b h6 (fun e => hne b off h0 h5 e.symm))
theorem Bs.grown {w w' : World} {a : Option Addr} {len cap : Nat} {l : List UInt8} {row : Option Nat} (hg : w.grownBy w' row) (hne : ∀ b off, len ≠ 0 → a = some ⟨b, off, none⟩ → row ≠ some b) (h : Bs w a len cap l) : Bs w' a len cap l := Row.grown hg hne h

/-! strings -/
/-- The string of bytes. -/
def strOf (l : List UInt8) : ByteArray := ⟨l.toArray⟩
theorem strOf_data (s : ByteArray) : strOf s.data.toList = s := rfl
theorem strOf_list (l : List UInt8) : (strOf l).data.toList = l := by simp [strOf]
theorem strOf_size (l : List UInt8) : (strOf l).size = l.length := by simp [strOf, ByteArray.size]
theorem strOf_inj {l m : List UInt8} : strOf l = strOf m ↔ l = m := ⟨fun h => by rw [← strOf_list l, h, strOf_list], fun h => by rw [h]⟩
theorem strOf_extract (l : List UInt8) (i j : Nat) : (strOf l).extract i j = strOf ((l.drop i).take (j - i)) := by
  apply ByteArray.ext
  simp [strOf, ByteArray.data_extract, List.extract_eq_take_drop]
theorem strOf_append (l m : List UInt8) : strOf l ++ strOf m = strOf (l ++ m) := by
  apply ByteArray.ext
  simp [strOf, ByteArray.data_append]

theorem strOf_toList (l : List UInt8) : (strOf l).toList = l := by
  have h := ByteArray.toList_loop_eq (strOf l) (strOf l).size 0 [] (by omega) (by omega)
  show ByteArray.toList.loop (strOf l) 0 [] = l
  rw [h, strOf_list]; simp
theorem strOf_get (l : List UInt8) (k : Nat) (h : k < l.length) : (strOf l)[k]'(by rw [strOf_size]; exact h) = l[k]?.getD 0 := by
  simp [strOf, ByteArray.getElem_eq_getElem_data, h]

/-- 'string(b)'. -/
theorem conv_string {P : Program} {w : World} {src e dst : TypeId} (hs : P.underlying src = some (.slice e)) (he : P.underlying e = some (.int .u8)) (hd : P.underlying dst = some .string)
    {a : Option Addr} {len cap : Nat} {l : List UInt8} (h : Bs w a len cap l) : (convert src dst (.slice a len cap)).run P w = .ok (.string (strOf l)) w := by
  have hlen := h.len
  cases a with
  | none =>
    have hc := h.2.2.2.1 rfl
    have : len = 0 := by have := h.2.1; omega
    subst hc this
    obtain rfl : l = [] := List.eq_nil_of_length_eq_zero hlen
    exact Lib.run_convert_nil_bytes w src dst e 0 hs he hd
  | some x =>
    subst hlen
    refine run_convert_bytes_back w src dst e x cap l hs he hd fun j hj => ?_
    obtain ⟨b, off, h5, _, h7⟩ := h.cell hj
    cases h5
    have e : (⟨b, off, none⟩ : Addr).add j = ⟨b, off + j, none⟩ := by unfold Addr.add; split <;> simp_all
    rw [e, h7 j hj]; simp [hj]

/-- What a 'make' of one-celled elements lays. -/
theorem made_list (v : Value) (n : Nat) : (madeCells #[v] n).toList = List.replicate n v := by
  simp only [madeCells]
  apply List.ext_getElem
  · simp
  · intro i h1 h2
    simp [Nat.mod_one]

theorem strCells_strOf (l : List UInt8) : Lib.strCells (strOf l) = (toI l).map (Value.int .u8) := by
  simp [Lib.strCells, strOf, toI]

/-- The call hands back a text; nothing that was there has turned. -/
def RetStr (w : World) (l : List UInt8) (e : Ending) (w' : World) : Prop := e = .returned (.string (strOf l)) ∧ Below w.heap.size w w'

/-- 'string([]byte{b})'. -/
theorem conv_one {P : Program} {W : World} {src e dst t : TypeId} (hs : P.underlying src = some (.slice e)) (he : P.underlying e = some (.int .u8)) (hd : P.underlying dst = some .string) (b : UInt8) :
    (convert src dst (.slice (some ⟨W.heap.size, 0, none⟩) 1 1)).run P (W.alloc (.cells #[.int .u8 (b.toNat : Int)] t)) = .ok (.string (strOf [b])) (W.alloc (.cells #[.int .u8 (b.toNat : Int)] t)) :=
  conv_string hs he hd (show Bs _ _ _ _ [b] from Row.made .u8 W t [(b.toNat : Int)] rfl (by unfold maxLen; simp))

/-- The call hands back a row of bytes of its own; nothing that was there has turned. -/
def OwnBytes (t : TypeId) (w : World) (l : List UInt8) (e : Ending) (w' : World) : Prop :=
  ∃ v, e = .returned v ∧ w'.ownsRow w.heap.size t 1 v l.length ((toI l).map (Value.int .u8)) ∧ Below w.heap.size w w'

theorem grown_setCell (w : World) (a : Addr) (u : Value) : w.grownBy (w.setCell a u) (some a.block) :=
  ⟨rfl, rfl, rfl, by simp [World.setCell], fun k _ hne => Below.heap_setCell w a u k (fun e => hne (by rw [e]))⟩
theorem grown_trans {a b c : World} {row : Option Nat} (h : a.grownBy b row) (k : b.grownBy c row) : a.grownBy c row :=
  ⟨by rw [k.os, h.os], by rw [k.tape, h.tape], by rw [k.output, h.output], Nat.le_trans h.size k.size, fun i hi hne => by rw [k.block i (Nat.lt_of_lt_of_le hi h.size) hne, h.block i hi hne]⟩
/-- What happened above all that was there is a growth, whatever row is named. -/
theorem grown_below {a b : World} (h : Below a.heap.size a b) (row : Option Nat) : a.grownBy b row := ⟨h.os, h.tape, h.output, h.size, fun k hk _ => h.block k hk⟩
theorem below_grown {a b : World} {B : Nat} {r : Nat} (h : a.grownBy b (some r)) (hB : B ≤ a.heap.size) (hr : B ≤ r) : Below B a b := (Below.refl B a).grown h hB (fun k e => by cases e; exact hr)
theorem heap_setCell_at {w : World} {g : Nat} {cur : Array Value} {e : TypeId} (j : Nat) (u : Value) (hg : w.heap[g]? = some (.cells cur e (0, 0))) :
    (w.setCell ⟨g, j, none⟩ u).heap[g]? = some (.cells (cur.setIfInBounds j u) e (0, 0)) := heap_setCell_same w g j cur e u hg

/-- 'x<<8 | c'. -/
theorem or256 (x c : Nat) (hx : x < 72057594037927936) (hc : c < 256) : bits .or .u64 ((x : Int) * 256) (c : Int) = ((x * 256 + c : Nat) : Int) := by
  have h := u64_or_nat (x * 256) c (by omega) (by omega)
  have e : x * 256 ||| c = x * 256 + c := by
    have := Nat.shiftLeft_add_eq_or_of_lt (i := 8) (b := c) (by omega) x
    rw [Nat.shiftLeft_eq] at this
    exact this.symm
  rw [e] at h
  rw [← h]; congr 1

theorem own_lt {w : World} {base : Nat} {e : TypeId} {size : Nat} {v : Value} {n : Nat} {xs : List Value} (h : w.ownsRow base e size v n xs) : ∀ k, v.ownBlock = some k → k < w.heap.size := by
  intro k hk
  rcases h.2 with ⟨rfl, rfl⟩ | ⟨g, cap, cur, rfl, _, hg, _⟩
  · cases hk
  · cases hk; exact (Array.getElem?_eq_some_iff.1 hg).1
/-- Two rows of which the one was there before the other one's blocks. -/
theorem own_apart {w : World} {base e size n} {v v2 : Value} {xs : List Value} {B : Nat} (h : w.ownsRow base e size v n xs) (hB : w.heap.size ≤ B) (h2 : ∀ k, v2.ownBlock = some k → B ≤ k) : v.ownBlock = none ∨ v.ownBlock ≠ v2.ownBlock := by
  cases hv : v.ownBlock with
  | none => exact .inl rfl
  | some k =>
    right
    intro e
    have h1 := own_lt h k hv
    have h3 := h2 k e.symm
    omega
theorem own_apart' {w : World} {base e size n} {v v2 : Value} {xs : List Value} {B : Nat} (h : ∀ k, v2.ownBlock = some k → k < B) (h2 : w.ownsRow base e size v n xs) (hB : B ≤ base) : v.ownBlock = none ∨ v.ownBlock ≠ v2.ownBlock := by
  cases hv : v.ownBlock with
  | none => exact .inl rfl
  | some k =>
    right
    intro e
    have h1 := own_ge h2 k hv
    have h3 := h k e.symm
    omega
theorem apart_of {v v2 : Value} {B : Nat} (h : ∀ k, v.ownBlock = some k → k < B) (h2 : ∀ k, v2.ownBlock = some k → B ≤ k) : v.ownBlock = none ∨ v.ownBlock ≠ v2.ownBlock := by
  cases hv : v.ownBlock with
  | none => exact .inl rfl
  | some k => exact .inr (fun e => by have h1 := h k hv; have h3 := h2 k e.symm; omega)
theorem apart_of' {v v2 : Value} {B : Nat} (h : ∀ k, v.ownBlock = some k → B ≤ k) (h2 : ∀ k, v2.ownBlock = some k → k < B) : v.ownBlock = none ∨ v.ownBlock ≠ v2.ownBlock := by
  cases hv : v.ownBlock with
  | none => exact .inl rfl
  | some k => exact .inr (fun e => by have h1 := h k hv; have h3 := h2 k e.symm; omega)
theorem grown_refl (w : World) (row : Option Nat) : w.grownBy w row := ⟨rfl, rfl, rfl, Nat.le_refl _, fun _ _ _ => rfl⟩
theorem Bs.own {w : World} {base : Nat} {e : TypeId} {a : Option Addr} {n cap : Nat} {l : List UInt8} (h : w.ownsRow base e 1 (.slice a n cap) n ((toI l).map (Value.int .u8))) : Bs w a n cap l := by
  obtain ⟨a', cap', e1, e2⟩ := Bs.of_own h
  cases e1; exact e2
theorem own_slice {w : World} {base : Nat} {e : TypeId} {size : Nat} {v : Value} {n : Nat} {xs : List Value} (h : w.ownsRow base e size v n xs) : ∃ a cap, v = .slice a n cap ∧ n ≤ cap ∧ cap ≤ maxLen ∧ (0 < n → ∃ g, a = some ⟨g, 0, none⟩) := by
  rcases h.2 with ⟨rfl, rfl⟩ | ⟨g, cap, cur, rfl, _, _, h1, h2, _⟩
  · exact ⟨none, 0, rfl, Nat.le_refl _, by unfold maxLen; omega, fun h => by omega⟩
  · exact ⟨_, cap, rfl, h1, h2, fun _ => ⟨g, rfl⟩⟩

end Go.Proofs.Ytopnfpobbemfbaa
