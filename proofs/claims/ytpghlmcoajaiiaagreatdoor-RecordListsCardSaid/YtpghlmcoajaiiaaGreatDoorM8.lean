/- Texts that other texts of this claim lean on, one behind the other. -/
import Derived.Test.YtpghlmcoajaiiaaGreatDoorM5
import Derived.Test.YtpghlmcoajaiiaaGreatDoorM2
import Derived.Test.YtpghlmcoajaiiaaGreatDoorM1
import Derived.Test.YtpghlmcoajaiiaaGreatDoorM3
import Derived.Deep.RegionHeld3
import Derived.Deep.DeepCutAuto
import Derived.Deep.CutBlock
import Derived.Deep.QuietTactic
import Derived.BigQuiet
import Derived.Test.YtpghlmcoajaiiaaGreatDoorM4
/- A cursor: plain. A path stands the top first; the top is at a level, each one below it one higher. -/
namespace Go.Proofs.YtpghlmcoajaiiaaGreatDoor

/-- What stands in a node from a place on. -/
def behind : Nat → Tr → Nat → List (List UInt8 × Tv)
  | 0, _, _ => []
  | _ + 1, .leaf _ l, k => l.drop k
  | n + 1, .node _ l, k => entsK n (l.drop k)
/-- What is told behind the top. -/
def belowC : Nat → List (Tr × Nat) → List (List UInt8 × Tv)
  | _, [] => []
  | g, (t, k) :: r => behind g t (k + 1) ++ belowC (g + 1) r
/-- What a cursor will tell. -/
def restC : Nat → List (Tr × Nat) → List (List UInt8 × Tv)
  | _, [] => []
  | g, (t, k) :: r => behind g t k ++ belowC (g + 1) r
theorem behind_end {g : Nat} {t : Tr} {k : Nat} (h : cntT t ≤ k) : behind g t k = [] := by
  cases g with
  | zero => rfl
  | succ g =>
    cases t with
    | leaf p l => exact List.drop_of_length_le h
    | node p l => show entsK g (l.drop k) = []; rw [List.drop_of_length_le h]; rfl
/-- The top is behind all of it: it goes. -/
theorem rest_pop {g : Nat} {t : Tr} {k : Nat} (h : cntT t ≤ k) : ∀ (r : List (Tr × Nat)), restC g ((t, k) :: r) = match r with | [] => [] | (t', k') :: r' => restC (g + 1) ((t', k' + 1) :: r')
  | [] => by simp [restC, belowC, behind_end h]
  | (t', k') :: r' => by simp [restC, belowC, behind_end h]
theorem behind_node {g : Nat} {p : Int} {l : List (List UInt8 × Tr)} {k : Nat} (h : k < l.length) : behind (g + 1) (.node p l) k = entsT g (kidAt l k) ++ behind (g + 1) (.node p l) (k + 1) := by
  show entsK g (l.drop k) = entsT g (kidAt l k) ++ entsK g (l.drop (k + 1))
  rw [List.drop_eq_getElem_cons h, entsK_cons]
  have : kidAt l k = l[k].2 := by simp [kidAt, h]
  rw [this]
theorem behind_zero (g : Nat) (t : Tr) : behind g t 0 = entsT g t := by
  cases g with
  | zero => rfl
  | succ g => cases t with
    | leaf p l => rfl
    | node p l => rfl
/-- The top is a branch: its kid goes on top. -/
theorem rest_push {g : Nat} {p : Int} {l : List (List UInt8 × Tr)} {k : Nat} (h : k < l.length) (r : List (Tr × Nat)) : restC (g + 1) ((.node p l, k) :: r) = restC g ((kidAt l k, 0) :: (.node p l, k) :: r) := by
  show behind (g + 1) (.node p l) k ++ belowC (g + 2) r = behind g (kidAt l k) 0 ++ (behind (g + 1) (.node p l) (k + 1) ++ belowC (g + 2) r)
  rw [behind_node h, behind_zero, List.append_assoc]
/-- The top is a leaf: an entry is told. -/
theorem rest_next {g : Nat} {p : Int} {l : List (List UInt8 × Tv)} {k : Nat} (r : List (Tr × Nat)) {c : List UInt8 × Tv} (h : l[k]? = some c) : restC (g + 1) ((.leaf p l, k) :: r) = c :: restC (g + 1) ((.leaf p l, k + 1) :: r) := by
  show l.drop k ++ _ = c :: (l.drop (k + 1) ++ _)
  have hk := (List.getElem?_eq_some_iff.1 h).1
  rw [List.drop_eq_getElem_cons hk, (List.getElem?_eq_some_iff.1 h).2]
  rfl
/-- How many nodes a tree has. -/
def nodesT : Nat → Tr → Nat
  | 0, _ => 1
  | _ + 1, .leaf _ _ => 1
  | n + 1, .node _ l => 1 + (l.map fun c => nodesT n c.2).sum
/-- How many nodes wait behind a place. -/
def waits : Nat → Tr → Nat → Nat
  | 0, _, _ => 0
  | _ + 1, .leaf _ _, _ => 0
  | n + 1, .node _ l, k => ((l.drop k).map fun c => nodesT n c.2).sum
def waitsB : Nat → List (Tr × Nat) → Nat
  | _, [] => 0
  | g, (t, k) :: r => waits g t (k + 1) + waitsB (g + 1) r
def waitsC : Nat → List (Tr × Nat) → Nat
  | _, [] => 0
  | g, (t, k) :: r => waits g t k + waitsB (g + 1) r
/-- How much settling has yet to do. -/
def workC (g : Nat) (r : List (Tr × Nat)) : Nat := 2 * waitsC g r + r.length
theorem waits_end {g : Nat} {t : Tr} {k : Nat} (h : cntT t ≤ k) : waits g t k = 0 := by
  cases g with
  | zero => rfl
  | succ g =>
    cases t with
    | leaf p l => rfl
    | node p l => show ((l.drop k).map _).sum = 0; rw [List.drop_of_length_le h]; rfl
theorem work_pop {g : Nat} {t : Tr} {k : Nat} (h : cntT t ≤ k) : ∀ (r : List (Tr × Nat)), (match r with | [] => 0 | (t', k') :: r' => workC (g + 1) ((t', k' + 1) :: r')) < workC g ((t, k) :: r)
  | [] => by simp [workC]
  | (t', k') :: r' => by simp [workC, waitsC, waitsB, waits_end h]
theorem nodes_kids (g : Nat) (t : Tr) : nodesT g t = 1 + waits g t 0 := by
  cases g with
  | zero => rfl
  | succ g => cases t with
    | leaf p l => rfl
    | node p l => rfl
theorem work_push {g : Nat} {p : Int} {l : List (List UInt8 × Tr)} {k : Nat} (h : k < l.length) (r : List (Tr × Nat)) : workC g ((kidAt l k, 0) :: (.node p l, k) :: r) < workC (g + 1) ((.node p l, k) :: r) := by
  have e : waits (g + 1) (.node p l) k = nodesT g (kidAt l k) + waits (g + 1) (.node p l) (k + 1) := by
    show ((l.drop k).map _).sum = nodesT g (kidAt l k) + ((l.drop (k + 1)).map _).sum
    have : kidAt l k = l[k].2 := by simp [kidAt, h]
    rw [List.drop_eq_getElem_cons h, List.map_cons, List.sum_cons, this]
  have e2 := nodes_kids g (kidAt l k)
  simp only [workC, waitsC, waitsB, e, List.length_cons]
  omega
/-- The path to a key. -/
def seekC : Nat → Tr → List UInt8 → List (Tr × Nat) → List (Tr × Nat)
  | 0, _, _, r => r
  | _ + 1, .leaf p l, key, r => (.leaf p l, posK key (keysOf l)) :: r
  | n + 1, .node p l, key, r => seekC n (kidAt l (wayF (keysOf l) key)) key ((.node p l, wayF (keysOf l) key) :: r)
theorem pos_mid {key : List UInt8} {A B C : List (List UInt8 × Tv)} (hA : ∀ d ∈ A, d.1 < key) (hC : ∀ d ∈ C, key < d.1) : posK key (keysOf (A ++ B ++ C)) = A.length + posK key (keysOf B) := by
  have hB := posK_le key (keysOf B)
  have hBl : (keysOf B).length = B.length := by simp [keysOf]
  refine posK_eq (by rw [show (keysOf (A ++ B ++ C)).length = A.length + B.length + C.length by simp [keysOf]; omega]; omega) (fun j hj => ?_) (fun h => ?_)
  · by_cases hjA : j < A.length
    · have : (keysOf (A ++ B ++ C))[j]? = some A[j].1 := by simp [keysOf, hjA, List.getElem?_append]
      rw [this]; exact hA _ (List.getElem_mem hjA)
    · have hlt := posK_lt (key := key) (l := keysOf B) (i := j - A.length) (by omega)
      have hjB : j - A.length < B.length := by omega
      have : (keysOf (A ++ B ++ C))[j]? = (keysOf B)[j - A.length]? := by
        simp only [keysOf, List.map_append]
        rw [List.append_assoc, List.getElem?_append_right (by simp; omega), List.getElem?_append_left (by simp; omega)]
        simp
      rw [this]; exact hlt
  · by_cases hb : posK key (keysOf B) < (keysOf B).length
    · have hat := posK_at hb
      have : (keysOf (A ++ B ++ C))[A.length + posK key (keysOf B)]? = (keysOf B)[posK key (keysOf B)]? := by
        simp only [keysOf, List.map_append] at hb ⊢
        rw [List.append_assoc, List.getElem?_append_right (by simp), List.getElem?_append_left (by simp at hb ⊢; omega)]
        simp
      rw [this]; exact hat
    · have hpos : posK key (keysOf B) = B.length := by omega
      rw [hpos] at h ⊢
      have hlC : 0 < C.length := by simp [keysOf] at h; omega
      have : (keysOf (A ++ B ++ C))[A.length + B.length]? = some C[0].1 := by
        simp only [keysOf, List.map_append]
        rw [List.getElem?_append_right (by simp)]
        simp [hlC]
      rw [this]
      exact klt_asymm (hC _ (List.getElem_mem hlC))
theorem drop_mid {key : List UInt8} {A B C : List (List UInt8 × Tv)} (hA : ∀ d ∈ A, d.1 < key) (hC : ∀ d ∈ C, key < d.1) : (A ++ B ++ C).drop (posK key (keysOf (A ++ B ++ C))) = B.drop (posK key (keysOf B)) ++ C := by
  have hB := posK_le key (keysOf B)
  have hBl : (keysOf B).length = B.length := by simp [keysOf]
  rw [pos_mid hA hC, List.append_assoc, ← List.drop_drop, List.drop_left, List.drop_append_of_le_length (by omega)]
/-- Sought, a cursor tells what is not below the key. -/
theorem seek_rest : ∀ {n : Nat} {lo hi key : List UInt8} {t : Tr} (r : List (Tr × Nat)), Shape n lo hi t → ¬ key < lo → ltH hi key → restC 1 (seekC n t key r) = (entsT n t).drop (posK key (keysOf (entsT n t))) ++ belowC (n + 1) r
  | 0, _, _, _, _, _, h, _, _ => h.elim
  | n + 1, lo, hi, key, .leaf p l, r, h, _, _ => by
    obtain ⟨rfl, _⟩ := h
    rfl
  | n + 1, lo, hi, key, .node p l, r, h, hlo, hhi => by
    obtain ⟨h1, h0⟩ := shape_kids h
    obtain ⟨a, c, b, lo', hi', e, hal, hc, hp, g1, g2⟩ := way_focus h1 hlo hhi
    have ih := seek_rest ((.node p l, wayF (keysOf l) key) :: r) hp.1 g1 g2
    obtain ⟨q1, q2, q3⟩ := hc
    have hA : ∀ d ∈ entsK n a, d.1 < key := by
      rcases q1 with ⟨rfl, _⟩ | ⟨ha, e1, e2, e3, rfl⟩
      · intro d hd; simp [entsK] at hd
      · intro d hd
        have := (kids_ents (fun h => shape_ents h) e1).2 d hd
        exact klt_le (this.2.2.1.resolve_left e2.1) g1
    have hB : ∀ d ∈ entsK n b, key < d.1 := by
      rcases q2 with ⟨rfl, _⟩ | ⟨d, r, rfl, rfl, e1, e2, e3⟩
      · intro d hd; simp [entsK] at hd
      · intro d' hd
        have := (kids_ents (fun h => shape_ents h) e3).2 d' hd
        exact klt_le (g2.resolve_left e1.1) this.2.1
    have hkid : kidAt l (wayF (keysOf l) key) = c.2 := by
      rw [← hal]
      conv => lhs; rw [e]
      exact kidAt_at a b c
    have hdrop : l.drop (wayF (keysOf l) key + 1) = b := by
      rw [← hal]
      conv => lhs; rw [e]
      simp [List.drop_append]
    show restC 1 (seekC n (kidAt l (wayF (keysOf l) key)) key ((.node p l, wayF (keysOf l) key) :: r)) = _
    rw [hkid, ih]
    show (entsT n c.2).drop _ ++ (entsK n (l.drop (wayF (keysOf l) key + 1)) ++ belowC (n + 2) r) = _
    rw [hdrop, ents_node, e, entsK_append, entsK_cons, ← List.append_assoc (entsK n a), drop_mid hA hB]
    simp
end Go.Proofs.YtpghlmcoajaiiaaGreatDoor

/- The document's nodes that stand on some blocks alone. -/
namespace Go.Proofs.YtpghlmcoajaiiaaGreatDoor
open Go.RowKit

/-- A cell, as the document has it. -/
structure Rc where
  key : List UInt8
  val : Tv
  kid : Option Tr
def cellsR : Tr → List Rc
  | .leaf _ l => l.map fun c => ⟨c.1, c.2, none⟩
  | .node _ l => l.map fun c => ⟨c.1, ⟨[], []⟩, some c.2⟩
theorem cellsR_len (t : Tr) : (cellsR t).length = cntT t := by cases t <;> simp [cellsR, cntT]
theorem cellsR_leaf (p : Int) (l : List (List UInt8 × Tv)) (i : Nat) : (cellsR (.leaf p l))[i]? = (l[i]?).map fun c => ⟨c.1, c.2, none⟩ := by simp [cellsR]
theorem cellsR_node (p : Int) (l : List (List UInt8 × Tr)) (i : Nat) : (cellsR (.node p l))[i]? = (l[i]?).map fun c => ⟨c.1, ⟨[], []⟩, some c.2⟩ := by simp [cellsR]
/-- A node's cells, all of it on some blocks. -/
def RNodeOn (F : Nat → Prop) : Nat → World → List Value → Tr → Prop
  | 0, _, _, _ => False
  | n + 1, w, cs, t => ∃ a c, cs = [.int .i64 t.page, .bool t.isLeaf, .slice a (cntT t) c] ∧ TabR 4 (fun cs (y : Rc) => ∃ pa pn pc ka kn kc, cs = [.string (strOf y.key), .string (strOf y.val.data), .slice pa pn pc, .slice ka kn kc] ∧ Row .i64 w pa pn pc y.val.pages ∧ Fa F pa pn ∧ TabR 3 (RNodeOn F n w) w ka kn kc y.kid.toList ∧ Fa F ka kn) w a (cntT t) c (cellsR t) ∧ Fa F a (cntT t)
/-- A cell's words. -/
def RcOn (F : Nat → Prop) (n : Nat) (w : World) (cs : List Value) (y : Rc) : Prop := ∃ pa pn pc ka kn kc, cs = [.string (strOf y.key), .string (strOf y.val.data), .slice pa pn pc, .slice ka kn kc] ∧ Row .i64 w pa pn pc y.val.pages ∧ Fa F pa pn ∧ TabR 3 (RNodeOn F n w) w ka kn kc y.kid.toList ∧ Fa F ka kn
theorem RNodeOn.at {F : Nat → Prop} {n : Nat} {w : World} {cs : List Value} {t : Tr} (h : RNodeOn F (n + 1) w cs t) : ∃ a c, cs = [.int .i64 t.page, .bool t.isLeaf, .slice a (cntT t) c] ∧ TabR 4 (RcOn F n w) w a (cntT t) c (cellsR t) ∧ Fa F a (cntT t) := h
theorem RNodeOn.mk {F : Nat → Prop} {n : Nat} {w : World} {t : Tr} {a : Option Addr} {c : Nat} (h : TabR 4 (RcOn F n w) w a (cntT t) c (cellsR t)) (hf : Fa F a (cntT t)) : RNodeOn F (n + 1) w [.int .i64 t.page, .bool t.isLeaf, .slice a (cntT t) c] t := ⟨a, c, rfl, h, hf⟩
theorem RcOn.agree' {F : Nat → Prop} {n : Nat} {w w' : World} (H : ∀ {cs : List Value} {t : Tr}, RNodeOn F n w cs t → RNodeOn F n w' cs t) (ha : AgreeF F w w') {cs : List Value} {y : Rc} (h : RcOn F n w cs y) : RcOn F n w' cs y := by
  obtain ⟨pa, pn, pc, ka, kn, kc, e, h1, f1, h2, f2⟩ := h
  exact ⟨pa, pn, pc, ka, kn, kc, e, h1.agree f1 ha, f1, TabR.agree h2 f2 ha (fun _ _ _ h => H h), f2⟩
theorem RNodeOn.agree {F : Nat → Prop} : ∀ {n : Nat} {w w' : World} {cs : List Value} {t : Tr}, RNodeOn F n w cs t → AgreeF F w w' → RNodeOn F n w' cs t
  | 0, _, _, _, _, h, _ => h.elim
  | n + 1, _, _, _, t, h, ha => by
    obtain ⟨a, c, e, h1, f1⟩ := h.at
    exact ⟨a, c, e, TabR.agree h1 f1 ha (fun _ _ _ h => RcOn.agree' (fun h => RNodeOn.agree h ha) ha h), f1⟩
theorem RcOn.agree {F : Nat → Prop} {n : Nat} {w w' : World} {cs : List Value} {y : Rc} (h : RcOn F n w cs y) (ha : AgreeF F w w') : RcOn F n w' cs y := RcOn.agree' (fun h => h.agree ha) ha h
theorem RNodeOn.below {F : Nat → Prop} {n : Nat} {w w' : World} {cs : List Value} {t : Tr} (h : RNodeOn F n w cs t) (hb : Below w.heap.size w w') : RNodeOn F n w' cs t := h.agree (.of_below hb)
theorem RcOn.below {F : Nat → Prop} {n : Nat} {w w' : World} {cs : List Value} {y : Rc} (h : RcOn F n w cs y) (hb : Below w.heap.size w w') : RcOn F n w' cs y := h.agree (.of_below hb)
theorem RcOn.mono' {F G : Nat → Prop} (hFG : ∀ b, F b → G b) {n : Nat} {w : World} (H : ∀ {cs : List Value} {t : Tr}, RNodeOn F n w cs t → RNodeOn G n w cs t) {cs : List Value} {y : Rc} (h : RcOn F n w cs y) : RcOn G n w cs y := by
  obtain ⟨pa, pn, pc, ka, kn, kc, e, h1, f1, h2, f2⟩ := h
  exact ⟨pa, pn, pc, ka, kn, kc, e, h1, f1.mono hFG, TabR.mono h2 (fun _ _ h => H h), f2.mono hFG⟩
theorem RNodeOn.mono {F G : Nat → Prop} (hFG : ∀ b, F b → G b) : ∀ {n : Nat} {w : World} {cs : List Value} {t : Tr}, RNodeOn F n w cs t → RNodeOn G n w cs t
  | 0, _, _, _, h => h.elim
  | n + 1, _, _, t, h => by
    obtain ⟨a, c, e, h1, f1⟩ := h.at
    exact ⟨a, c, e, TabR.mono h1 (fun _ _ h => RcOn.mono' hFG (fun h => RNodeOn.mono hFG h) h), f1.mono hFG⟩
theorem RcOn.mono {F G : Nat → Prop} (hFG : ∀ b, F b → G b) {n : Nat} {w : World} {cs : List Value} {y : Rc} (h : RcOn F n w cs y) : RcOn G n w cs y := RcOn.mono' hFG (fun h => h.mono hFG) h
theorem RcOn.lt' {F : Nat → Prop} {n : Nat} {w : World} (H : ∀ {cs : List Value} {t : Tr}, RNodeOn F n w cs t → RNodeOn (fun b => F b ∧ b < w.heap.size) n w cs t) {cs : List Value} {y : Rc} (h : RcOn F n w cs y) : RcOn (fun b => F b ∧ b < w.heap.size) n w cs y := by
  obtain ⟨pa, pn, pc, ka, kn, kc, e, h1, f1, h2, f2⟩ := h
  exact ⟨pa, pn, pc, ka, kn, kc, e, h1, f1.and h1.block, TabR.mono h2 (fun _ _ h => H h), f2.and h2.block⟩
theorem RNodeOn.lt {F : Nat → Prop} : ∀ {n : Nat} {w : World} {cs : List Value} {t : Tr}, RNodeOn F n w cs t → RNodeOn (fun b => F b ∧ b < w.heap.size) n w cs t
  | 0, _, _, _, h => h.elim
  | n + 1, _, _, t, h => by
    obtain ⟨a, c, e, h1, f1⟩ := h.at
    exact ⟨a, c, e, TabR.mono h1 (fun _ _ h => RcOn.lt' (fun h => RNodeOn.lt h) h), f1.and h1.block⟩
theorem RcOn.lt {F : Nat → Prop} {n : Nat} {w : World} {cs : List Value} {y : Rc} (h : RcOn F n w cs y) : RcOn (fun b => F b ∧ b < w.heap.size) n w cs y := RcOn.lt' (fun h => h.lt) h
theorem RcOn.more' {F : Nat → Prop} {n m : Nat} {w : World} (H : ∀ {cs : List Value} {t : Tr}, RNodeOn F n w cs t → RNodeOn F m w cs t) {cs : List Value} {y : Rc} (h : RcOn F n w cs y) : RcOn F m w cs y := by
  obtain ⟨pa, pn, pc, ka, kn, kc, e, h1, f1, h2, f2⟩ := h
  exact ⟨pa, pn, pc, ka, kn, kc, e, h1, f1, TabR.mono h2 (fun _ _ h => H h), f2⟩
theorem RNodeOn.more {F : Nat → Prop} : ∀ {n m : Nat} {w : World} {cs : List Value} {t : Tr}, RNodeOn F n w cs t → n ≤ m → RNodeOn F m w cs t
  | 0, _, _, _, _, h, _ => h.elim
  | n + 1, 0, _, _, _, _, h => by omega
  | n + 1, m + 1, _, _, t, h, hm => by
    obtain ⟨a, c, e, h1, f1⟩ := h.at
    exact ⟨a, c, e, TabR.mono h1 (fun _ _ h => RcOn.more' (fun h => RNodeOn.more h (by omega)) h), f1⟩
theorem RcOn.more {F : Nat → Prop} {n m : Nat} {w : World} {cs : List Value} {y : Rc} (h : RcOn F n w cs y) (hm : n ≤ m) : RcOn F m w cs y := RcOn.more' (fun h => h.more hm) h
theorem RcOn.one {F : Nat → Prop} {n : Nat} {w : World} {cs : List Value} {y : Rc} (h : RcOn F n w cs y) : ∀ u ∈ cs, u.oneCell' = true := by
  obtain ⟨pa, pn, pc, ka, kn, kc, rfl, _⟩ := h
  intro u hu
  simp at hu
  rcases hu with rfl | rfl | rfl | rfl <;> rfl
theorem RcOn.len {F : Nat → Prop} {n : Nat} {w : World} {cs : List Value} {y : Rc} (h : RcOn F n w cs y) : cs.length = 4 := by
  obtain ⟨pa, pn, pc, ka, kn, kc, rfl, _⟩ := h
  rfl
theorem RNodeOn.one {F : Nat → Prop} {n : Nat} {w : World} {cs : List Value} {t : Tr} (h : RNodeOn F n w cs t) : ∀ u ∈ cs, u.oneCell' = true := by
  cases n with
  | zero => exact h.elim
  | succ n =>
    obtain ⟨a, c, rfl, _⟩ := h.at
    intro u hu
    simp at hu
    rcases hu with rfl | rfl | rfl <;> rfl
/-- A node opened: its row, word by word. -/
theorem RNodeOn.open {F : Nat → Prop} {n : Nat} {w : World} {cs : List Value} {t : Tr} (h : RNodeOn F (n + 1) w cs t) :
    ∃ a c L, cs = [.int .i64 t.page, .bool t.isLeaf, .slice a (cntT t) c] ∧ Raw 4 w a (cntT t) c L ∧ Tells (RcOn F n w) L (cellsR t) ∧ Fa F a (cntT t) := by
  obtain ⟨a, c, e, h1, f1⟩ := h.at
  obtain ⟨L, l1, l2⟩ := TabR.raw h1 (fun _ _ h => h.one)
  exact ⟨a, c, L, e, l1, l2, f1⟩
theorem RNodeOn.shut {F : Nat → Prop} {n : Nat} {w : World} {t : Tr} {a : Option Addr} {m c : Nat} {p : Int} {lf : Bool} {L : List (Cl 4)} (hp : t.page = p) (hl : t.isLeaf = lf) (h1 : Raw 4 w a m c L) (h2 : Tells (RcOn F n w) L (cellsR t)) (f1 : Fa F a m) : RNodeOn F (n + 1) w [.int .i64 p, .bool lf, .slice a m c] t := by
  subst hp hl
  have : m = cntT t := by rw [← h1.1, h2.1, cellsR_len]
  subst this
  exact ⟨a, c, rfl, h1.tab h2, f1⟩
/-- A node that a call answers. -/
def RNodeTo (F : Nat → Prop) (n : Nat) (w : World) (t : Tr) (e : Ending) (w' : World) : Prop := ∃ cs, e = .returned (.agg cs.toArray) ∧ RNodeOn (Fr F w) n w' cs t ∧ Below w.heap.size w w'
/-- A cell of a node's row. -/
theorem RNodeOn.cell {F : Nat → Prop} {n : Nat} {w : World} {a : Option Addr} {m c : Nat} {l : List Rc} (h : TabR 4 (RcOn F n w) w a m c l) {k : Nat} (hk : k < m) :
    ∃ b off y pa pn pc ka kn kc, a = some ⟨b, off, none⟩ ∧ b < w.heap.size ∧ l[k]? = some y ∧ RcOn F n w [.string (strOf y.key), .string (strOf y.val.data), .slice pa pn pc, .slice ka kn kc] y ∧ Row .i64 w pa pn pc y.val.pages ∧ Fa F pa pn ∧ TabR 3 (RNodeOn F n w) w ka kn kc y.kid.toList ∧ Fa F ka kn ∧
      w.cell? ⟨b, off + k * 4, none⟩ = some (.string (strOf y.key)) ∧ w.cell? ⟨b, off + k * 4 + 1, none⟩ = some (.string (strOf y.val.data)) ∧ w.cell? ⟨b, off + k * 4 + 2, none⟩ = some (.slice pa pn pc) ∧ w.cell? ⟨b, off + k * 4 + 3, none⟩ = some (.slice ka kn kc) := by
  obtain ⟨b, off, y, cs, e1, e2, e3, _, hy, e6⟩ := TabR.at h hk
  obtain ⟨pa, pn, pc, ka, kn, kc, rfl, h1, f1, h2, f2⟩ := hy
  exact ⟨b, off, y, pa, pn, pc, ka, kn, kc, e1, e2, e3, ⟨pa, pn, pc, ka, kn, kc, rfl, h1, f1, h2, f2⟩, h1, f1, h2, f2, e6 0 _ rfl, e6 1 _ rfl, e6 2 _ rfl, e6 3 _ rfl⟩
end Go.Proofs.YtpghlmcoajaiiaaGreatDoor

/- A row of the document's cells, one by one. -/
namespace Go.Proofs.YtpghlmcoajaiiaaGreatDoor
open Go.RowKit

theorem AgreeF.sub {F G : Nat → Prop} {w w' : World} (h : AgreeF F w w') (hG : ∀ b, G b → F b) : AgreeF G w w' := ⟨h.1, fun b hb hlt => h.2 b (hG b hb) hlt⟩
/-- The blocks that a row's cells may stand on: those allowed, and new ones, but for the row itself. -/
def Gp (F : Nat → Prop) (B : Nat) (v : Value) (b : Nat) : Prop := (F b ∨ B ≤ b) ∧ v.ownBlock ≠ some b
/-- A row of cells of the call's own: the first so many. -/
def CellsOwn (E : TypeId) (F : Nat → Prop) (n B : Nat) (w : World) (v : Value) (l : List Rc) : Prop := ∃ L : List (Cl 4), w.ownsRow B E 4 v l.length (flatC L) ∧ Tells (RcOn (Gp F B v) n w) L l
theorem CellsOwn.nil (E : TypeId) (F : Nat → Prop) (n B : Nat) (w : World) : CellsOwn E F n B w (.slice none 0 0) [] := ⟨[], own_nil w E 4 B, Tells.nil⟩
theorem CellsOwn.below {E : TypeId} {F : Nat → Prop} {n B : Nat} {w w' : World} {v : Value} {l : List Rc} (h : CellsOwn E F n B w v l) (hb : Below w.heap.size w w') : CellsOwn E F n B w' v l := by
  obtain ⟨L, h1, h2⟩ := h
  exact ⟨L, own_held h1 hb, h2.mono (fun _ _ _ h => h.below hb)⟩
theorem CellsOwn.set {E : TypeId} {F : Nat → Prop} {n B : Nat} {w : World} {v : Value} {l : List Rc} (h : CellsOwn E F n B w v l) {p : Addr} (u : Value) (hp : p.block < B) (hF : ¬ F p.block) : CellsOwn E F n B (w.setCell p u) v l := by
  obtain ⟨L, h1, h2⟩ := h
  refine ⟨L, own_set h1 p u (fun e => ?_), h2.mono (fun _ _ _ h => h.agree (AgreeF.set ⟨Nat.le_refl _, fun _ _ _ => rfl⟩ (.inl fun hg => ?_)))⟩
  · have := own_ge h1 _ e; omega
  · rcases hg.1 with hg | hg
    · exact hF hg
    · omega
theorem CellsOwn.block {E : TypeId} {F : Nat → Prop} {n B : Nat} {w : World} {v : Value} {l : List Rc} (h : CellsOwn E F n B w v l) {b : Nat} (hb : v.ownBlock = some b) : B ≤ b ∧ b < w.heap.size := by
  obtain ⟨L, h1, _⟩ := h
  refine ⟨own_ge h1 b hb, ?_⟩
  rcases h1.2 with ⟨rfl, _⟩ | ⟨g, cap, cur, rfl, _, hg, _⟩
  · cases hb
  · cases hb; exact (Array.getElem?_eq_some_iff.1 hg).1
/-- The row as a slice of a node. -/
theorem CellsOwn.sl {E : TypeId} {F : Nat → Prop} {n B : Nat} {w : World} {v : Value} {l : List Rc} (h : CellsOwn E F n B w v l) :
    ∃ a c, v = .slice a l.length c ∧ l.length ≤ c ∧ c ≤ 9223372036854775807 ∧ TabR 4 (RcOn (Gp F B v) n w) w a l.length c l ∧ Fa (fun b => B ≤ b) a l.length := by
  obtain ⟨L, h1, h2⟩ := h
  have hlen : L.length = l.length := h2.1
  rcases h1.2 with ⟨rfl, h0⟩ | ⟨g, cap, cur, rfl, hg, hh, hn, hm, hr⟩
  · have : l = [] := List.eq_nil_of_length_eq_zero h0
    subst this
    exact ⟨none, 0, rfl, by simp, by omega, ⟨rfl, by simp, by unfold maxLen; omega, fun _ => rfl, .inl rfl⟩, .inl rfl⟩
  · refine ⟨_, cap, rfl, hn, by unfold maxLen at hm; omega, ?_, Fa.of_own h1 (fun b hb => hb)⟩
    obtain ⟨a', c', e, hr'⟩ := Raw.of_own h1 hlen
    cases e
    exact hr'.tab h2
/-- All cells: the node. -/
theorem CellsOwn.node {E : TypeId} {F : Nat → Prop} {n B : Nat} {w W : World} {v : Value} {t : Tr} (h : CellsOwn E F n B W v (cellsR t)) (hB : w.heap.size ≤ B) : RNodeOn (Fr F w) (n + 1) W [.int .i64 t.page, .bool t.isLeaf, v] t := by
  obtain ⟨a, c, rfl, _, _, h1, h2⟩ := h.sl
  rw [cellsR_len] at h1 h2 ⊢
  exact RNodeOn.mk (TabR.mono h1 (fun _ _ h => h.mono (fun b hb => hb.1.imp id (fun h => Nat.le_trans hB h)))) (h2.mono (fun b hb => .inr (Nat.le_trans hB hb)))
/-- A fresh cell appended. -/
theorem CellsOwn.append {P : Program} {E t : TypeId} (ht : P.underlying t = some (.slice E)) (hi : RowInfo P E 4 80) {F : Nat → Prop} {n B : Nat} {w : World} {v : Value} {l : List Rc} (h : CellsOwn E F n B w v l) (hB : B ≤ w.heap.size) (_hF : ∀ b, F b → b < B) (hl : l.length ≤ 100000) {cs : List Value} {y : Rc} (hy : RcOn (Gp F B v) n w cs y) :
    ∃ v' w', (Builtin.append_ #[t, t] t #[v, .slice (some ⟨w.heap.size, 0, none⟩) 1 1]).run P (w.alloc (.cells cs.toArray E)) = .ok v' w' ∧ CellsOwn E F n B w' v' (l ++ [y]) ∧ w.grownBy w' v.ownBlock := by
  obtain ⟨L, h1, h2⟩ := h
  obtain ⟨i, z, i1, i2, i3, i4, i5⟩ := hi
  obtain ⟨v', w', hr, ho, hg, hv⟩ := run_append_new (P := P) B t E i z 4 80 ht i1 i2 i3 i4 i5 (by decide) h1 cs.toArray (by simpa using hy.len) (by simpa using hy.one) (by unfold maxLen; omega) (by omega) hB
  refine ⟨v', w', hr, ⟨L ++ [⟨cs, hy.len, hy.one⟩], ?_, ?_⟩, hg⟩
  · have e : flatC (L ++ [⟨cs, hy.len, hy.one⟩]) = flatC L ++ cs := by rw [flatC_append]; exact congrArg (flatC L ++ ·) (List.append_nil cs)
    rw [e, List.length_append]; exact ho
  · have hag : AgreeF (fun b => v.ownBlock ≠ some b) w w' := ⟨hg.size, fun b hb hlt => hg.block b hlt (fun e => hb e.symm)⟩
    have step : ∀ {cs : List Value} {y : Rc}, RcOn (Gp F B v) n w cs y → RcOn (Gp F B v') n w' cs y := fun h =>
      (h.lt.agree (hag.sub (fun b hb => hb.1.2))).mono (fun b hb => ⟨hb.1.1, fun e => by
        rcases hv with hv | hv
        · rw [hv] at e; exact hb.1.2 e
        · rw [hv] at e; have := Option.some.inj e; have := hb.2; omega⟩)
    exact (h2.mono (fun _ _ _ h => step h)).append (Tells.one (step hy))
end Go.Proofs.YtpghlmcoajaiiaaGreatDoor

/- Rows of the document's cells: a row appended; 'with'. -/
namespace Go.Proofs.YtpghlmcoajaiiaaGreatDoor
open Go.RowKit

/-- A row of cells appended to one of the call's own. -/
theorem CellsOwn.row {P : Program} {E t : TypeId} (ht : P.underlying t = some (.slice E)) (hi : RowInfo P E 4 80) {F : Nat → Prop} {n B : Nat} {w : World} {v : Value} {l : List Rc} (h : CellsOwn E F n B w v l) (hB : B ≤ w.heap.size) (hl : l.length ≤ 100000) {a : Option Addr} {m c : Nat} {l2 : List Rc} (hr : TabR 4 (RcOn (Gp F B v) n w) w a m c l2) (hm : m ≤ 100000) :
    ∃ v' w', (Builtin.append_ #[t, t] t #[v, .slice a m c]).run P w = .ok v' w' ∧ CellsOwn E F n B w' v' (l ++ l2) ∧ w.grownBy w' v.ownBlock := by
  obtain ⟨L, h1, h2⟩ := h
  obtain ⟨L2, r1, r2⟩ := TabR.raw hr (fun _ _ h => h.one)
  obtain ⟨i, z, i1, i2, i3, i4, i5⟩ := hi
  have hlm : l2.length = m := by rw [← r2.1]; exact r1.1
  obtain ⟨v', w', hr, ho, hg, hv⟩ := run_append_raw (P := P) B t E i z 4 80 ht i1 i2 i3 i4 i5 (by decide) h1 r1 (by unfold maxLen; omega) (by omega) hB
  refine ⟨v', w', hr, ⟨L ++ L2, ?_, ?_⟩, hg⟩
  · rw [List.length_append, hlm]; exact ho
  · have hag : AgreeF (fun b => v.ownBlock ≠ some b) w w' := ⟨hg.size, fun b hb hlt => hg.block b hlt (fun e => hb e.symm)⟩
    have step : ∀ {cs : List Value} {y : Rc}, RcOn (Gp F B v) n w cs y → RcOn (Gp F B v') n w' cs y := fun h =>
      (h.lt.agree (hag.sub (fun b hb => hb.1.2))).mono (fun b hb => ⟨hb.1.1, fun e => by
        rcases hv with hv | hv
        · rw [hv] at e; exact hb.1.2 e
        · rw [hv] at e; have := Option.some.inj e; have := hb.2; omega⟩)
    exact (h2.mono (fun _ _ _ h => step h)).append (r2.mono (fun _ _ _ h => step h))
/-- Cells on blocks that were there ahead may be put into the row. -/
theorem RcOn.gp {E : TypeId} {F : Nat → Prop} {n B : Nat} {w : World} {v : Value} {l : List Rc} (h : CellsOwn E F n B w v l) (hF : ∀ b, F b → b < B) {cs : List Value} {y : Rc} {W : World} (hy : RcOn F n W cs y) : RcOn (Gp F B v) n W cs y :=
  hy.mono (fun b hb => ⟨.inl hb, fun e => by have := (h.block e).1; have := hF b hb; omega⟩)
/-- What answers a row of cells. -/
def CellsTo (F : Nat → Prop) (n : Nat) (w : World) (l : List Rc) (e : Ending) (w' : World) : Prop := ∃ v, e = .returned v ∧ CellsOwn 145 F n w.heap.size w' v l ∧ Below w.heap.size w w'
theorem info_Cw : RowInfo Tryz.prog 145 4 80 := row_info (by kernel_rfl)
theorem elem_Cw : Tryz.prog.underlying 25 = some (.slice (Tryz.prog.elem 25)) := by kernel_rfl
theorem size_Cw (w : World) : (sizeOf (Tryz.prog.elem 25)).run Tryz.prog w = .ok 4 w := by kernel_rfl
set_option maxRecDepth 100000 in
set_option maxHeartbeats 1000000 in
theorem with_any {F : Nat → Prop} {n : Nat} {w : World} {a : Option Addr} {m c : Nat} {l : List Rc} {a2 : Option Addr} {m2 c2 : Nat} {l2 : List Rc} (hF : ∀ b, F b → b < w.heap.size) (h : TabR 4 (RcOn F n w) w a m c l) (g : TabR 4 (RcOn F n w) w a2 m2 c2 l2) {k : Nat} (hk : k < m) (hm : m ≤ 2000) (hm2 : m2 ≤ 2000) :
    Calls Tryz.prog 129 #[.slice a m c, .int .i64 (k : Int), .slice a2 m2 c2] w (CellsTo F n w (l.take k ++ l2 ++ l.drop (k + 1))) := by
  obtain ⟨e1, e2, e3⟩ := h.lens
  obtain ⟨g1, g2, g3⟩ := g.lens
  have c0 : CellsOwn 145 F n w.heap.size w (.slice none 0 0) [] := CellsOwn.nil _ _ _ _ _
  obtain ⟨v1, w1, hr1, c1, hg1⟩ := c0.row Tryz.underlying25 info_Cw (Nat.le_refl _) (by simp) (TabR.mono (TabR.tk h (show k ≤ m by omega)) (fun _ _ h => RcOn.gp c0 hF h)) (by omega)
  have hb1 : Below w.heap.size w w1 := (Below.refl _ _).grown hg1 (Nat.le_refl _) (fun g hg => by cases hg)
  have r2 : TabR 4 (RcOn (Gp F w.heap.size v1) n w1) w1 a2 m2 c2 l2 := TabR.mono (TabR.below (Nat.le_refl _) hb1 g) (fun cs y hy => RcOn.gp c1 hF (RcOn.below hy hb1))
  have l1 : ([] ++ l.take k).length ≤ 100000 := by simp; omega
  obtain ⟨v2, w2, hr2, c2', hg2⟩ := c1.row Tryz.underlying25 info_Cw hb1.size l1 r2 (by omega)
  have hb2 : Below w.heap.size w w2 := hb1.grown hg2 hb1.size (fun g hg => (c1.block hg).1)
  obtain ⟨a3, ha3, hsl⟩ := slice_from elem_Cw size_Cw a m c (k + 1) (by omega)
  have hrow : TabR 4 (RcOn F n w) w a3 (m - (k + 1)) (c - (k + 1)) (l.drop (k + 1)) := by rw [ha3]; exact TabR.dp h (show k + 1 ≤ m by omega)
  have r3 : TabR 4 (RcOn (Gp F w.heap.size v2) n w2) w2 a3 (m - (k + 1)) (c - (k + 1)) (l.drop (k + 1)) := TabR.mono (TabR.below (Nat.le_refl _) hb2 hrow) (fun cs y hy => RcOn.gp c2' hF (RcOn.below hy hb2))
  have l3 : ([] ++ l.take k ++ l2).length ≤ 100000 := by simp; omega
  obtain ⟨v3, w3, hr3, c3, hg3⟩ := c2'.row Tryz.underlying25 info_Cw hb2.size l3 r3 (by omega)
  have hb3 : Below w.heap.size w w3 := hb2.grown hg3 hb2.size (fun g hg => (c2'.block hg).1)
  have HE : Hid (CellsTo F n w (l.take k ++ l2 ++ l.drop (k + 1)) (.returned v3) w3) := Lib.hid ⟨v3, rfl, by simpa using c3, hb3⟩
  have hkc : k ≤ c := by omega
  rw [show ((k + 1 : Nat) : Int) = (k : Int) + 1 by omega] at hsl
  clear c0 c1 c2' c3 r2 r3 l1 l3 hb1 hb2 hb3 hg1 hg2 hg3 ha3 hrow h g hF e1 g1
  go_enter Tryz.func129, Tryz.ntmps129
  go_upto_region 3 with (at_builtin; refine wpList_append_run rfl _ _ _ _ rfl rfl rfl hr1 ?_)
  go_upto_region 4 with (at_builtin; refine wpList_append_run rfl _ _ _ _ rfl rfl rfl hr2 ?_)
  go_wp2_with (at_builtin; refine wpList_append_run rfl _ _ _ _ rfl rfl rfl hr3 ?_)
  go_ret
  exact HE.out
end Go.Proofs.YtpghlmcoajaiiaaGreatDoor

/- Rows of the document's cells: the first one's key written over; a node's parts. -/
namespace Go.Proofs.YtpghlmcoajaiiaaGreatDoor
open Go.RowKit

/-- A row of cells of the call's own whose cells stand on some blocks alone. -/
def CellsF (E : TypeId) (F : Nat → Prop) (n B : Nat) (w : World) (v : Value) (l : List Rc) : Prop := ∃ L : List (Cl 4), w.ownsRow B E 4 v l.length (flatC L) ∧ Tells (RcOn F n w) L l
theorem CellsF.nil (E : TypeId) (F : Nat → Prop) (n B : Nat) (w : World) : CellsF E F n B w (.slice none 0 0) [] := ⟨[], own_nil w E 4 B, Tells.nil⟩
theorem CellsF.below {E : TypeId} {F : Nat → Prop} {n B : Nat} {w w' : World} {v : Value} {l : List Rc} (h : CellsF E F n B w v l) (hb : Below w.heap.size w w') : CellsF E F n B w' v l := by
  obtain ⟨L, h1, h2⟩ := h
  exact ⟨L, own_held h1 hb, h2.mono (fun _ _ _ h => h.below hb)⟩
theorem CellsF.set {E : TypeId} {F : Nat → Prop} {n B : Nat} {w : World} {v : Value} {l : List Rc} (h : CellsF E F n B w v l) {p : Addr} (u : Value) (hp : v.ownBlock ≠ some p.block) (hF : ¬ F p.block) : CellsF E F n B (w.setCell p u) v l := by
  obtain ⟨L, h1, h2⟩ := h
  exact ⟨L, own_set h1 p u hp, h2.mono (fun _ _ _ h => h.agree (AgreeF.set ⟨Nat.le_refl _, fun _ _ _ => rfl⟩ (.inl hF)))⟩
theorem CellsF.ge {E : TypeId} {F : Nat → Prop} {n B : Nat} {w : World} {v : Value} {l : List Rc} (h : CellsF E F n B w v l) {b : Nat} (hb : v.ownBlock = some b) : B ≤ b ∧ b < w.heap.size := by
  obtain ⟨L, h1, _⟩ := h
  refine ⟨own_ge h1 b hb, ?_⟩
  rcases h1.2 with ⟨rfl, _⟩ | ⟨g, cap, cur, rfl, _, hg, _⟩
  · cases hb
  · cases hb; exact (Array.getElem?_eq_some_iff.1 hg).1
theorem CellsF.own {E : TypeId} {F : Nat → Prop} {n B : Nat} {w : World} {v : Value} {l : List Rc} (h : CellsF E F n B w v l) (hF : ∀ b, F b → b < B) : CellsOwn E F n B w v l := by
  have hge := fun b hb => (h.ge (b := b) hb).1
  obtain ⟨L, h1, h2⟩ := h
  exact ⟨L, h1, h2.mono (fun _ _ _ h => h.mono (fun b hb => ⟨.inl hb, fun e => by have := hge b e; have := hF b hb; omega⟩))⟩
theorem CellsF.row {P : Program} {E t : TypeId} (ht : P.underlying t = some (.slice E)) (hi : RowInfo P E 4 80) {F : Nat → Prop} {n B : Nat} {w : World} {v : Value} {l : List Rc} (h : CellsF E F n B w v l) (hB : B ≤ w.heap.size) (hF : ∀ b, F b → b < B) (hl : l.length ≤ 100000) {a : Option Addr} {m c : Nat} {l2 : List Rc} (hr : TabR 4 (RcOn F n w) w a m c l2) (hm : m ≤ 100000) :
    ∃ v' w', (Builtin.append_ #[t, t] t #[v, .slice a m c]).run P w = .ok v' w' ∧ CellsF E F n B w' v' (l ++ l2) ∧ w.grownBy w' v.ownBlock := by
  have hge := fun b hb => (h.ge (b := b) hb).1
  obtain ⟨L, h1, h2⟩ := h
  obtain ⟨L2, r1, r2⟩ := TabR.raw hr (fun _ _ h => h.one)
  obtain ⟨i, z, i1, i2, i3, i4, i5⟩ := hi
  have hlm : l2.length = m := by rw [← r2.1]; exact r1.1
  obtain ⟨v', w', hr, ho, hg, hv⟩ := run_append_raw (P := P) B t E i z 4 80 ht i1 i2 i3 i4 i5 (by decide) h1 r1 (by unfold maxLen; omega) (by omega) hB
  refine ⟨v', w', hr, ⟨L ++ L2, ?_, ?_⟩, hg⟩
  · rw [List.length_append, hlm]; exact ho
  · have hag : AgreeF F w w' := ⟨hg.size, fun b hb hlt => hg.block b hlt (fun e => by have := hge b e.symm; have := hF b hb; omega)⟩
    exact (h2.mono (fun _ _ _ h => h.agree hag)).append (r2.mono (fun _ _ _ h => h.agree hag))
/-- The first cell's key written over. -/
theorem CellsF.key0 {E : TypeId} {F : Nat → Prop} {n B : Nat} {w : World} {g m c : Nat} {y : Rc} {r : List Rc} (h : CellsF E F n B w (.slice (some ⟨g, 0, none⟩) m c) (y :: r)) (hF : ¬ F g) (key : List UInt8) :
    CellsF E F n B (w.setCell ⟨g, 0, none⟩ (.string (strOf key))) (.slice (some ⟨g, 0, none⟩) m c) (⟨key, y.val, y.kid⟩ :: r) := by
  obtain ⟨L, h1, h2⟩ := h
  have hag : AgreeF F w (w.setCell ⟨g, 0, none⟩ (.string (strOf key))) := AgreeF.set ⟨Nat.le_refl _, fun _ _ _ => rfl⟩ (.inl hF)
  cases L with
  | nil => have := h2.1; simp at this
  | cons x L' =>
    have hx : RcOn F n w x.1 y := h2.2 0 x y rfl rfl
    obtain ⟨pa, pn, pc, ka, kn, kc, ex, k1, k2, k3, k4⟩ := hx
    have hx' : RcOn F n w [.string (strOf key), .string (strOf y.val.data), .slice pa pn pc, .slice ka kn kc] ⟨key, y.val, y.kid⟩ := ⟨pa, pn, pc, ka, kn, kc, rfl, k1, k2, k3, k4⟩
    have hlen : (y :: r).length = m := by
      rcases h1.2 with ⟨e, _⟩ | ⟨g', cap, cur, e, _⟩
      · cases e
      · cases e; rfl
    have g0 := own_put (by rw [hlen] at h1; exact h1) 0 (.string (strOf key)) (by rw [← hlen]; simp)
    refine ⟨⟨_, hx'.len, hx'.one⟩ :: L', ?_, Tells.cons (hx'.agree hag) ?_⟩
    · have e1 : flatC (x :: L') = x.1 ++ flatC L' := rfl
      have e2 : flatC ((⟨[.string (strOf key), .string (strOf y.val.data), .slice pa pn pc, .slice ka kn kc], hx'.len, hx'.one⟩ : Cl 4) :: L') = [.string (strOf key), .string (strOf y.val.data), .slice pa pn pc, .slice ka kn kc] ++ flatC L' := rfl
      rw [e2]
      rw [e1, ex] at g0
      rw [show (⟨key, y.val, y.kid⟩ :: r : List Rc).length = m by rw [← hlen]; rfl]
      exact g0
    · refine ⟨by have := h2.1; simpa using this, fun i a b ha hb => ?_⟩
      exact (h2.2 (i + 1) a b (by simpa using ha) (by simpa using hb)).agree hag
/-- The cells of a node's parts. -/
theorem cells_part (A : Nat) (kid : Tr) : cellsR (partT A kid).1 = (cellsR kid).take A ∧ (partT A kid).1.page = 0 ∧ (partT A kid).1.isLeaf = kid.isLeaf ∧ (partT A kid).2.1.page = 0 ∧ (partT A kid).2.1.isLeaf = kid.isLeaf := by
  cases kid <;> simp [partT, cellsR, Tr.page, Tr.isLeaf]
theorem cells_part_leaf (A : Nat) (p : Int) (l : List (List UInt8 × Tv)) : cellsR (partT A (.leaf p l)).2.1 = (cellsR (.leaf p l)).drop A := by simp [partT, cellsR]
theorem cells_part_node (A : Nat) (p : Int) (l : List (List UInt8 × Tr)) {y : Rc} {r : List Rc} (h : (cellsR (.node p l)).drop A = y :: r) : cellsR (partT A (.node p l)).2.1 = ⟨[], y.val, y.kid⟩ :: r := by
  simp only [partT, cellsR] at h ⊢
  rw [← List.map_drop] at h
  cases hd : l.drop A with
  | nil => rw [hd] at h; cases h
  | cons c q =>
    rw [hd] at h
    cases h
    rfl
theorem part_key (A : Nat) (kid : Tr) {y : Rc} {r : List Rc} (h : (cellsR kid).drop A = y :: r) : (partT A kid).2.2 = y.key := by
  have hk : (cellsR kid)[A]? = some y := by
    have := congrArg (fun l => l[0]?) h
    simpa [List.getElem?_drop] using this
  cases kid with
  | leaf p l =>
    rw [cellsR_leaf] at hk
    obtain ⟨c, h1, h2⟩ := Option.map_eq_some_iff.1 hk
    subst h2
    simp [partT, keyAt, h1]
  | node p l =>
    rw [cellsR_node] at hk
    obtain ⟨c, h1, h2⟩ := Option.map_eq_some_iff.1 hk
    subst h2
    simp [partT, keyAt, h1]
end Go.Proofs.YtpghlmcoajaiiaaGreatDoor

/- The document's cells with one kid each, made of fresh blocks. -/
namespace Go.Proofs.YtpghlmcoajaiiaaGreatDoor
open Go.RowKit

theorem agr {F : Nat → Prop} (w : World) : AgreeF F w w := ⟨Nat.le_refl _, fun _ _ _ => rfl⟩
theorem agal {F : Nat → Prop} {a w : World} {o : Obj} (h : AgreeF F a w) : AgreeF F a (w.alloc o) := h.trans (.of_below (Below.al (Below.refl _ _)))
theorem agdr {F : Nat → Prop} {a w : World} (h : AgreeF F a w) : AgreeF F a w.drew := h
theorem agst {r : Nat} {a w : World} {i : Nat} {u : Value} (h : AgreeF (fun b => b ≠ r) a w) : AgreeF (fun b => b ≠ r) a (w.setCell ⟨r, i, none⟩ u) := h.set (.inl fun h => h rfl)
/-- A row of one node. -/
theorem one_kid {G : Nat → Prop} {n : Nat} {W : World} {b : Nat} {x0 x1 x2 : Value} {t : Tr} (hx : BoxAt W b #[x0, x1, x2]) (h : RNodeOn G n W [x0, x1, x2] t) : TabR 3 (RNodeOn G n W) W (some ⟨b, 0, none⟩) 1 1 [t] := by
  have hr := raw_box (w := W) (b := b) (L := [(⟨[x0, x1, x2], rfl, h.one⟩ : Cl 3)]) hx (by show 1 ≤ 1000; omega)
  exact Raw.tab hr (Tells.one h)
/-- A cell of a kid. -/
theorem cell_kid {G : Nat → Prop} {n : Nat} {W : World} {b : Nat} {x0 x1 x2 : Value} {t : Tr} (key : List UInt8) (hx : BoxAt W b #[x0, x1, x2]) (h : RNodeOn G n W [x0, x1, x2] t) (hb : G b) :
    RcOn G n W [.string (strOf key), .string (strOf []), .slice none 0 0, .slice (some ⟨b, 0, none⟩) 1 1] ⟨key, ⟨[], []⟩, some t⟩ :=
  ⟨none, 0, 0, some ⟨b, 0, none⟩, 1, 1, rfl, ⟨rfl, Nat.le_refl _, by unfold maxLen; omega, fun _ => rfl, .inl rfl⟩, .inl rfl, one_kid hx h, .inr fun b' off e => by cases e; exact hb⟩
/-- A row of two cells. -/
theorem two_cells {G : Nat → Prop} {n : Nat} {W : World} {z : Nat} {u0 u1 u2 u3 v0 v1 v2 v3 : Value} {y y' : Rc} (hz : BoxAt W z #[u0, u1, u2, u3, v0, v1, v2, v3]) (h : RcOn G n W [u0, u1, u2, u3] y) (g : RcOn G n W [v0, v1, v2, v3] y') :
    TabR 4 (RcOn G n W) W (some ⟨z, 0, none⟩) 2 2 [y, y'] := by
  have hr := raw_box (w := W) (b := z) (L := [(⟨[u0, u1, u2, u3], rfl, h.one⟩ : Cl 4), ⟨[v0, v1, v2, v3], rfl, g.one⟩]) hz (by show 2 ≤ 1000; omega)
  exact Raw.tab hr (Tells.cons h (Tells.one g))
/-- A row of one cell. -/
theorem one_cell {G : Nat → Prop} {n : Nat} {W : World} {z : Nat} {u0 u1 u2 u3 : Value} {y : Rc} (hz : BoxAt W z #[u0, u1, u2, u3]) (h : RcOn G n W [u0, u1, u2, u3] y) :
    TabR 4 (RcOn G n W) W (some ⟨z, 0, none⟩) 1 1 [y] := by
  have hr := raw_box (w := W) (b := z) (L := [(⟨[u0, u1, u2, u3], rfl, h.one⟩ : Cl 4)]) hz (by show 1 ≤ 1000; omega)
  exact Raw.tab hr (Tells.one h)
/-- What is parted, as cells. -/
theorem split_cells {l : List (List UInt8 × Tr)} {k A : Nat} {kid : Tr} {xk : List UInt8} (hx : l[k]? = some (xk, kid)) (hA : atF (sizesT kid) = (A : Int)) (h0 : 0 < A) (p : Int) :
    ∃ m, splitT l k = some m ∧ cellsR (.node 0 m) = (cellsR (.node p l)).take k ++ [⟨xk, ⟨[], []⟩, some (partT A kid).1⟩, ⟨(partT A kid).2.2, ⟨[], []⟩, some (partT A kid).2.1⟩] ++ (cellsR (.node p l)).drop (k + 1) := by
  have hkey : keyAt l k = xk := by unfold keyAt; rw [hx]; rfl
  have hkd : kidAt l k = kid := by unfold kidAt; rw [hx]; rfl
  refine ⟨l.take k ++ ((xk, (partT A kid).1) :: ((partT A kid).2.2, (partT A kid).2.1) :: l.drop (k + 1)), ?_, ?_⟩
  · unfold splitT
    rw [hkd, hkey, hA, if_neg (by omega), Int.toNat_natCast]
  · simp [cellsR, List.map_take, List.map_drop]
/-- What a call of 'with' leaves: a row that is a node's, on some blocks. -/
def RowTo (G : Nat → Prop) (n : Nat) (wc : World) (t : Tr) (m : Nat) (e : Ending) (w' : World) : Prop :=
  ∃ a d, e = .returned (.slice a m d) ∧ RNodeOn G (n + 1) w' [.int .i64 0, .bool t.isLeaf, .slice a m d] t ∧ Below wc.heap.size wc w'
theorem row_to {G : Nat → Prop} {n : Nat} {wc W w' : World} {e : Ending} {t : Tr} {m : Nat} {cs : List Rc} (hp : t.page = 0) (hm : cntT t = m) (hl : cellsR t = cs) (hb : Below wc.heap.size wc W) (hG : ∀ b, W.heap.size ≤ b → G b)
    (h : CellsTo (fun x => G x ∧ x < W.heap.size) n W cs e w') : RowTo G n wc t m e w' := by
  subst hl hm
  obtain ⟨v, rfl, h1, h2⟩ := h
  obtain ⟨a, d, rfl, _, _, k1, k2⟩ := h1.sl
  rw [cellsR_len] at k1 k2 ⊢
  refine ⟨a, d, rfl, ?_, below_via hb h2⟩
  have := RNodeOn.mk (t := t) (F := G) (TabR.mono k1 (fun _ _ h => h.mono (fun b hb => by
    rcases hb.1 with hb | hb
    · exact hb.1
    · exact hG b hb))) (k2.mono hG)
  rw [hp] at this
  exact this
/-- 'with', for a node. -/
theorem with_to {G : Nat → Prop} {n : Nat} {wc W : World} {a : Option Addr} {m c : Nat} {L : List Rc} {a2 : Option Addr} {m2 c2 k : Nat} {l2 : List Rc} {t : Tr} {q : Nat} (hp : t.page = 0) (hq : cntT t = q) (hl : cellsR t = L.take k ++ l2 ++ L.drop (k + 1)) (hb : Below wc.heap.size wc W) (hG : ∀ b, wc.heap.size ≤ b → G b)
    (h : TabR 4 (RcOn G n W) W a m c L) (g : TabR 4 (RcOn G n W) W a2 m2 c2 l2) (hk : k < m) (hm : m ≤ 2000) (hm2 : m2 ≤ 2000) :
    Calls Tryz.prog 129 #[.slice a m c, .int .i64 (k : Int), .slice a2 m2 c2] W (RowTo G n wc t q) :=
  (with_any (fun _ h => h.2) (TabR.mono h (fun _ _ hy => RcOn.lt hy)) (TabR.mono g (fun _ _ hy => RcOn.lt hy)) hk hm hm2).mono fun _ _ h => row_to hp hq hl hb (fun b h => hG b (Nat.le_trans hb.size h)) h
/-- 'with' of two fresh cells. -/
theorem with_two {G : Nat → Prop} {n : Nat} {wc W : World} {a : Option Addr} {m c k : Nat} {L : List Rc} {t : Tr} {q : Nat} (hp : t.page = 0) (hq : cntT t = q) (hb : Below wc.heap.size wc W) (hG : ∀ b, wc.heap.size ≤ b → G b) (h : TabR 4 (RcOn G n wc) wc a m c L) (hk : k < m) (hm : m ≤ 2000) {ra rb z : Nat} {xk key : List UInt8} {TA TB : Tr} {x0 x1 x2 y0 y1 y2 : Value} {v0 : _}
    (hl : cellsR t = L.take k ++ [⟨xk, ⟨[], []⟩, some TA⟩, ⟨key, ⟨[], []⟩, some TB⟩] ++ L.drop (k + 1)) (hv : v0 = strOf []) (g1 : RNodeOn G n wc [x0, x1, x2] TA) (g2 : RNodeOn G n wc [y0, y1, y2] TB) (r1 : wc.heap.size ≤ ra) (r2 : wc.heap.size ≤ rb)
    (hA : BoxAt W ra #[x0, x1, x2]) (hB : BoxAt W rb #[y0, y1, y2]) (hz : BoxAt W z #[.string (strOf xk), .string v0, .slice none 0 0, .slice (some ⟨ra, 0, none⟩) 1 1, .string (strOf key), .string v0, .slice none 0 0, .slice (some ⟨rb, 0, none⟩) 1 1]) :
    Calls Tryz.prog 129 #[.slice a m c, .int .i64 (k : Int), .slice (some ⟨z, 0, none⟩) 2 2] W (RowTo G n wc t q) := by
  subst hv
  exact with_to hp hq hl hb hG (TabR.mono (TabR.below (Nat.le_refl _) hb h) (fun _ _ hy => RcOn.below hy hb)) (two_cells hz (cell_kid xk hA (g1.below hb) (hG _ r1)) (cell_kid key hB (g2.below hb) (hG _ r2))) hk hm (by omega)
/-- 'with' of one fresh cell. -/
theorem with_one {G : Nat → Prop} {n : Nat} {wc W : World} {a : Option Addr} {m c k : Nat} {L : List Rc} {t : Tr} {q : Nat} (hp : t.page = 0) (hq : cntT t = q) (hb : Below wc.heap.size wc W) (hG : ∀ b, wc.heap.size ≤ b → G b) (h : TabR 4 (RcOn G n wc) wc a m c L) (hk : k < m) (hm : m ≤ 2000) {ra z : Nat} {xk : List UInt8} {TA : Tr} {x0 x1 x2 : Value} {v0 : _}
    (hl : cellsR t = L.take k ++ [⟨xk, ⟨[], []⟩, some TA⟩] ++ L.drop (k + 1)) (hv : v0 = strOf []) (g1 : RNodeOn G n wc [x0, x1, x2] TA) (r1 : wc.heap.size ≤ ra)
    (hA : BoxAt W ra #[x0, x1, x2]) (hz : BoxAt W z #[.string (strOf xk), .string v0, .slice none 0 0, .slice (some ⟨ra, 0, none⟩) 1 1]) :
    Calls Tryz.prog 129 #[.slice a m c, .int .i64 (k : Int), .slice (some ⟨z, 0, none⟩) 1 1] W (RowTo G n wc t q) := by
  subst hv
  exact with_to hp hq hl hb hG (TabR.mono (TabR.below (Nat.le_refl _) hb h) (fun _ _ hy => RcOn.below hy hb)) (one_cell hz (cell_kid xk hA (g1.below hb) (hG _ r1))) hk hm (by omega)
/-- A node beside a box that is none of its blocks: the box written over. -/
theorem RNodeOn.put3 {G : Nat → Prop} {n : Nat} {W : World} {cs : List Value} {t : Tr} (h : RNodeOn G n W cs t) {r : Nat} (hr : ¬ G r) (u0 u1 u2 : Value) : RNodeOn G n (((W.setCell ⟨r, 0, none⟩ u0).setCell ⟨r, 1, none⟩ u1).setCell ⟨r, 2, none⟩ u2) cs t :=
  h.agree (((AgreeF.set (AgreeF.set (AgreeF.set ⟨Nat.le_refl _, fun _ _ _ => rfl⟩ (.inl hr)) (.inl hr)) (.inl hr))))
end Go.Proofs.YtpghlmcoajaiiaaGreatDoor

/- The document's cells put together; a fresh cell appended; a node's end. -/
namespace Go.Proofs.YtpghlmcoajaiiaaGreatDoor
open Go.RowKit

/-- The second node's cells, behind the first one's. -/
def firstRc (key : List UInt8) (lf : Bool) : List Rc → List Rc
  | [] => []
  | y :: r => if lf then y :: r else ⟨key, y.val, y.kid⟩ :: r
theorem firstRc_len (key : List UInt8) (lf : Bool) (L : List Rc) : (firstRc key lf L).length = L.length := by
  cases L with
  | nil => rfl
  | cons y r => cases lf <;> rfl
theorem firstRc_at (key : List UInt8) (lf : Bool) (L : List Rc) (i : Nat) {y : Rc} (h : L[i]? = some y) : (firstRc key lf L)[i]? = some (if i = 0 ∧ lf = false then ⟨key, y.val, y.kid⟩ else y) := by
  cases L with
  | nil => simp at h
  | cons x r =>
    cases i with
    | zero => simp at h; subst h; cases lf <;> simp [firstRc]
    | succ i => simp at h; cases lf <;> simp [firstRc, h]
theorem firstRc_succ (key : List UInt8) (lf : Bool) (L : List Rc) (i : Nat) {y : Rc} (h : L[i]? = some y) : (firstRc key lf L).take (i + 1) = (firstRc key lf L).take i ++ [if i = 0 ∧ lf = false then ⟨key, y.val, y.kid⟩ else y] := by
  rw [List.take_add_one, firstRc_at key lf L i h]; rfl
theorem join_cells {key : List UInt8} {a b : Tr} (h : a.isLeaf = b.isLeaf) : cellsR (joinT key a b) = cellsR a ++ firstRc key b.isLeaf (cellsR b) ∧ (joinT key a b).page = 0 ∧ (joinT key a b).isLeaf = a.isLeaf := by
  cases a with
  | leaf p l =>
    cases b with
    | leaf q m => exact ⟨by cases m <;> simp [joinT, cellsR, firstRc, Tr.isLeaf], rfl, rfl⟩
    | node q m => cases h
  | node p l =>
    cases b with
    | leaf q m => cases h
    | node q m => exact ⟨by cases m <;> simp [joinT, cellsR, firstRc, Tr.isLeaf, firstK], rfl, rfl⟩
theorem join_rows {l : List (List UInt8 × Tr)} {j : Nat} (hj : j + 1 < l.length) (p : Int) :
    cellsR (.node 0 (l.take (j + 1) ++ l.drop (j + 2))) = (cellsR (.node p l)).take (j + 1) ++ [] ++ (cellsR (.node p l)).drop (j + 1 + 1) ∧
    cellsR (.node 0 (joined l j)) = (cellsR (.node 0 (l.take (j + 1) ++ l.drop (j + 2)))).take j ++ [⟨keyAt l j, ⟨[], []⟩, some (joinT (keyAt l (j + 1)) (kidAt l j) (kidAt l (j + 1)))⟩] ++ (cellsR (.node 0 (l.take (j + 1) ++ l.drop (j + 2)))).drop (j + 1) ∧
    (l.take (j + 1) ++ l.drop (j + 2)).length + 1 = l.length ∧ (joined l j).length + 1 = l.length := by
  have h1 : (l.take (j + 1)).length = j + 1 := by simp; omega
  have h2 : (l.take (j + 1) ++ l.drop (j + 2)).take j = l.take j := by rw [List.take_append_of_le_length (by omega), List.take_take, Nat.min_eq_left (by omega)]
  have h3 : (l.take (j + 1) ++ l.drop (j + 2)).drop (j + 1) = l.drop (j + 2) := by rw [List.drop_append_of_le_length (by omega), List.drop_eq_nil_of_le (by omega), List.nil_append]
  refine ⟨by simp [cellsR, List.map_take, List.map_drop], ?_, by simp; omega, by unfold joined; simp; omega⟩
  simp only [cellsR]
  rw [← List.map_take, ← List.map_drop, h2, h3]
  simp [joined]
/-- A fresh cell appended. -/
theorem CellsF.append {P : Program} {E t : TypeId} (ht : P.underlying t = some (.slice E)) (hi : RowInfo P E 4 80) {F : Nat → Prop} {n B : Nat} {w : World} {v : Value} {l : List Rc} (h : CellsF E F n B w v l) (hB : B ≤ w.heap.size) (hF : ∀ b, F b → b < B) (hl : l.length ≤ 100000) {cs : List Value} {y : Rc} (hy : RcOn F n w cs y) :
    ∃ v' w', (Builtin.append_ #[t, t] t #[v, .slice (some ⟨w.heap.size, 0, none⟩) 1 1]).run P (w.alloc (.cells cs.toArray E)) = .ok v' w' ∧ CellsF E F n B w' v' (l ++ [y]) ∧ w.grownBy w' v.ownBlock := by
  have hge := fun b hb => (h.ge (b := b) hb).1
  obtain ⟨L, h1, h2⟩ := h
  obtain ⟨i, z, i1, i2, i3, i4, i5⟩ := hi
  obtain ⟨v', w', hr, ho, hg, hv⟩ := run_append_new (P := P) B t E i z 4 80 ht i1 i2 i3 i4 i5 (by decide) h1 cs.toArray (by simpa using hy.len) (by simpa using hy.one) (by unfold maxLen; omega) (by omega) hB
  refine ⟨v', w', hr, ⟨L ++ [⟨cs, hy.len, hy.one⟩], ?_, ?_⟩, hg⟩
  · have e : flatC (L ++ [⟨cs, hy.len, hy.one⟩]) = flatC L ++ cs := by rw [flatC_append]; exact congrArg (flatC L ++ ·) (List.append_nil cs)
    rw [e, List.length_append]; exact ho
  · have hag : AgreeF F w w' := ⟨hg.size, fun b hb hlt => hg.block b hlt (fun e => by have := hge b e.symm; have := hF b hb; omega)⟩
    exact (h2.mono (fun _ _ _ h => h.agree hag)).append (Tells.one (hy.agree hag))
/-- A walk's end: three cells stored into the result's box. -/
theorem rnode_end {F G : Nat → Prop} {n : Nat} {w w' : World} {T : Tr} {r : Nat} {p : Int} {lf : Bool} {a : Option Addr} {m d : Nat} (hr : w.heap.size ≤ r) (hG : ¬ G r) (hGF : ∀ b, G b → Fr F w b) (h : RNodeOn G n w' [.int .i64 p, .bool lf, .slice a m d] T) (hb : Below w.heap.size w w') :
    RNodeTo F n w T (.returned (.agg #[.int .i64 p, .bool lf, .slice a m d])) (((w'.setCell ⟨r, 0, none⟩ (.int .i64 p)).setCell ⟨r, 1, none⟩ (.bool lf)).setCell ⟨r, 2, none⟩ (.slice a m d)) :=
  ⟨[.int .i64 p, .bool lf, .slice a m d], rfl, (h.put3 hG _ _ _).mono hGF, ((hb.setCell (by simpa using hr) _).setCell (by simpa using hr) _).setCell (by simpa using hr) _⟩
/-- The same, with what the box holds then. -/
theorem rend {F G : Nat → Prop} {n : Nat} {w w' : World} {T : Tr} {r : Nat} {p : Int} {lf : Bool} {a : Option Addr} {m d : Nat} {x0 x1 x2 : Value} (hx : Boxes w' [(r, [x0, x1, x2])]) (hr : w.heap.size ≤ r) (hG : ¬ G r) (hGF : ∀ b, G b → Fr F w b) (h : RNodeOn G n w' [.int .i64 p, .bool lf, .slice a m d] T) (hb : Below w.heap.size w w') :
    (((w'.setCell ⟨r, 0, none⟩ (.int .i64 p)).setCell ⟨r, 1, none⟩ (.bool lf)).setCell ⟨r, 2, none⟩ (.slice a m d)).cell? ⟨r, 0, none⟩ = some (.int .i64 p) ∧
    (((w'.setCell ⟨r, 0, none⟩ (.int .i64 p)).setCell ⟨r, 1, none⟩ (.bool lf)).setCell ⟨r, 2, none⟩ (.slice a m d)).cell? ⟨r, 1, none⟩ = some (.bool lf) ∧
    (((w'.setCell ⟨r, 0, none⟩ (.int .i64 p)).setCell ⟨r, 1, none⟩ (.bool lf)).setCell ⟨r, 2, none⟩ (.slice a m d)).cell? ⟨r, 2, none⟩ = some (.slice a m d) ∧
    Hid (RNodeTo F n w T (.returned (.agg #[.int .i64 p, .bool lf, .slice a m d])) (((w'.setCell ⟨r, 0, none⟩ (.int .i64 p)).setCell ⟨r, 1, none⟩ (.bool lf)).setCell ⟨r, 2, none⟩ (.slice a m d))) := by
  have hxe := ((hx.put 0 (.int .i64 p) (by simp)).put 1 (.bool lf) (by simp)).put 2 (.slice a m d) (by simp)
  exact ⟨hxe.cell 0 0 rfl rfl, hxe.cell 0 1 rfl rfl, hxe.cell 0 2 rfl rfl, Lib.hid (rnode_end hr hG hGF h hb)⟩
theorem RNodeTo.split {F : Nat → Prop} {n : Nat} {w w' : World} {t : Tr} {e : Ending} (h : RNodeTo F n w t e w') : ∃ p l a m d, e = .returned (.agg #[.int .i64 p, .bool l, .slice a m d]) ∧ RNodeOn (Fr F w) n w' [.int .i64 p, .bool l, .slice a m d] t ∧ Below w.heap.size w w' := by
  obtain ⟨cs, rfl, h1, h2⟩ := h
  cases n with
  | zero => exact h1.elim
  | succ n =>
    obtain ⟨a, c, rfl, _⟩ := h1.at
    exact ⟨_, _, _, _, _, rfl, h1, h2⟩
theorem RNodeOn.row {G : Nat → Prop} {n : Nat} {w : World} {x y : Value} {a : Option Addr} {m d : Nat} {t : Tr} (h : RNodeOn G (n + 1) w [x, y, .slice a m d] t) (hm : cntT t = m) : TabR 4 (RcOn G n w) w a m d (cellsR t) := by
  obtain ⟨a', d', e, h1, _⟩ := h.at
  simp only [List.cons.injEq, Value.slice.injEq, and_true] at e
  obtain ⟨_, _, rfl, _, rfl⟩ := e
  rw [hm] at h1
  exact h1
/-- A kid in its cell. -/
theorem RNodeOn.kid {F : Nat → Prop} {n : Nat} {w : World} {a : Option Addr} {m c : Nat} {p : Int} {l : List (List UInt8 × Tr)} (h : TabR 4 (RcOn F n w) w a m c (cellsR (.node p l))) {k : Nat} (hk : k < m) :
    ∃ b off bk ok kcs pa pn pc kc, a = some ⟨b, off, none⟩ ∧ b < w.heap.size ∧ bk < w.heap.size ∧ RNodeOn F n w kcs (kidAt l k) ∧ w.cell? ⟨b, off + k * 4, none⟩ = some (.string (strOf (keyAt l k))) ∧ w.cell? ⟨b, off + k * 4 + 1, none⟩ = some (.string (strOf [])) ∧ w.cell? ⟨b, off + k * 4 + 2, none⟩ = some (.slice pa pn pc) ∧
      w.cell? ⟨b, off + k * 4 + 3, none⟩ = some (.slice (some ⟨bk, ok, none⟩) 1 kc) ∧ (∀ j v, kcs[j]? = some v → w.cell? ⟨bk, ok + j, none⟩ = some v) ∧ 1 ≤ kc ∧ kc ≤ 9223372036854775807 := by
  obtain ⟨b, off, y, pa, pn, pc, ka, kn, kc, rfl, hbb, hy, _, _, _, hkid, hfk, c0, c1, c2, c3⟩ := RNodeOn.cell h hk
  rw [cellsR_node] at hy
  obtain ⟨x, hx1, hx2⟩ := Option.map_eq_some_iff.1 hy
  subst hx2
  have s1 := hkid.lens
  obtain rfl : kn = 1 := s1.1.symm
  obtain ⟨bk, ok, kd, kcs, rfl, hbk, hyk, _, hon, hck⟩ := TabR.at hkid (show 0 < 1 by omega)
  cases hyk
  have hkey : keyAt l k = x.1 := by unfold keyAt; rw [hx1]; rfl
  have hkd : kidAt l k = x.2 := by unfold kidAt; rw [hx1]; rfl
  refine ⟨b, off, bk, ok, kcs, pa, pn, pc, kc, rfl, hbb, hbk, by rw [hkd]; exact hon, by rw [hkey]; exact c0, c1, c2, c3, fun j v hv => by simpa using hck j v hv, s1.2.1, s1.2.2⟩
end Go.Proofs.YtpghlmcoajaiiaaGreatDoor

/- The walks of trees: the document's Sizes and Way. -/
namespace Go.Proofs.YtpghlmcoajaiiaaGreatDoor
open Go.RowKit

theorem IsLcAt {w : World} {a : Option Addr} {n c : Nat} {l : List (List UInt8 × Tv)} (h : TabR 4 (IsLc w) w a n c l) {k : Nat} (hk : k < n) :
    ∃ b off y, a = some ⟨b, off, none⟩ ∧ b < w.heap.size ∧ l[k]? = some y ∧ w.cell? ⟨b, off + k * 4, none⟩ = some (.string (strOf y.1)) ∧ w.cell? ⟨b, off + k * 4 + 1, none⟩ = some (.string (strOf y.2.data)) := by
  obtain ⟨b, off, y, cs, e1, e2, e3, _, ⟨pa, pn, pc, ka, kc, rfl, _⟩, e6⟩ := TabR.at h hk
  exact ⟨b, off, y, e1, e2, e3, e6 0 _ rfl, e6 1 _ rfl⟩
theorem IsNcAt {n : Nat} {w : World} {a : Option Addr} {m c : Nat} {l : List (List UInt8 × Tr)} (h : TabR 4 (IsNc n w) w a m c l) {k : Nat} (hk : k < m) :
    ∃ b off y, a = some ⟨b, off, none⟩ ∧ b < w.heap.size ∧ l[k]? = some y ∧ w.cell? ⟨b, off + k * 4, none⟩ = some (.string (strOf y.1)) := by
  obtain ⟨b, off, y, cs, e1, e2, e3, _, ⟨pa, pc, ka, kc, rfl, _⟩, e6⟩ := TabR.at h hk
  exact ⟨b, off, y, e1, e2, e3, e6 0 _ rfl⟩
theorem RIn.node {n : Nat} {w : World} {cs : List Value} {p : Int} {l : List (List UInt8 × Tr)} (h : RIn (n + 1) w cs (.node p l)) : ∃ a m c, cs = [.int .i64 p, .bool false, .slice a m c] ∧ TabR 4 (IsNc n w) w a m c l := h
theorem RIn.leaf {n : Nat} {w : World} {cs : List Value} {p : Int} {l : List (List UInt8 × Tv)} (h : RIn (n + 1) w cs (.leaf p l)) : ∃ a m c, cs = [.int .i64 p, .bool true, .slice a m c] ∧ TabR 4 (IsLc w) w a m c l := h
/-- A node's first two cells, and its row; keys of it. -/
theorem RIn.any {n : Nat} {w : World} {cs : List Value} {t : Tr} (h : RIn (n + 1) w cs t) : ∃ a c, cs = [.int .i64 t.page, .bool t.isLeaf, .slice a (cntT t) c] ∧ cntT t ≤ c ∧ c ≤ 9223372036854775807 ∧ t.keys.length = cntT t ∧
    ∀ k, k < cntT t → ∃ b off, a = some ⟨b, off, none⟩ ∧ b < w.heap.size ∧ w.cell? ⟨b, off + k * 4, none⟩ = some (.string (strOf (t.keys[k]?.getD []))) := by
  cases t with
  | leaf p l =>
    obtain ⟨a, m, c, rfl, h1⟩ := h.leaf
    obtain ⟨e1, e2, e3⟩ := h1.lens
    subst e1
    refine ⟨a, c, rfl, e2, e3, by simp [Tr.keys, keysOf, cntT], fun k hk => ?_⟩
    obtain ⟨b, off, y, f1, f2, f3, f4, _⟩ := IsLcAt h1 hk
    exact ⟨b, off, f1, f2, by rw [f4]; simp [Tr.keys, keysOf, f3]⟩
  | node p l =>
    obtain ⟨a, m, c, rfl, h1⟩ := h.node
    obtain ⟨e1, e2, e3⟩ := h1.lens
    subst e1
    refine ⟨a, c, rfl, e2, e3, by simp [Tr.keys, keysOf, cntT], fun k hk => ?_⟩
    obtain ⟨b, off, y, f1, f2, f3, f4⟩ := IsNcAt h1 hk
    exact ⟨b, off, f1, f2, by rw [f4]; simp [Tr.keys, keysOf, f3]⟩
theorem wayD_step (ks : List (List UInt8)) (key : List UInt8) (n : Nat) : wayD ks key (n + 1) = if key < ks[n + 1]?.getD [] then wayD ks key n else n + 1 := rfl

set_option maxRecDepth 100000 in
set_option maxHeartbeats 2000000 in
theorem rway_any {n : Nat} {w : World} {cs : List Value} {t : Tr} (h : RIn n w cs t) (key : List UInt8) (hc : cntT t ≤ 1000) :
    Calls Tryz.prog 128 #[.agg cs.toArray, .string (strOf key)] w fun e w' => e = .returned (.int .i64 (wayF t.keys key : Int)) ∧ Below w.heap.size w w' := by
  cases n with
  | zero => exact h.elim
  | succ n =>
  obtain ⟨a, c, rfl, h2, h3, h4, h5⟩ := h.any
  have HC := Lib.hid h5
  have HL := Lib.hid h4
  have hA : Below w.heap.size w (w.alloc (.cells #[.int .i64 t.page, .bool t.isLeaf, .slice a (cntT t) c] 27)) := (Below.refl _ _).alloc (Nat.le_refl _) _
  have HBX := Lib.hid ((Boxes.nil w).alloc #[.int .i64 t.page, .bool t.isLeaf, .slice a (cntT t) c] 27 rfl)
  have HW : Hid (wayF t.keys key = wayD t.keys key (cntT t - 1)) := Lib.hid (by unfold wayF; rw [h4])
  generalize t.keys = K at *
  generalize cntT t = m at *
  generalize t.page = pg at *
  generalize t.isLeaf = lf at *
  obtain ⟨R, hR⟩ : ∃ R, wayF K key = R := ⟨_, rfl⟩
  rw [hR] at HW ⊢
  obtain ⟨wA, hwA⟩ : ∃ wA, w.alloc (.cells #[.int .i64 pg, .bool lf, .slice a m c] 27) = wA := ⟨_, rfl⟩
  rw [hwA] at hA HBX
  have HA := Lib.hid hA
  have f2 := HBX.out.cell 0 2 rfl rfl
  clear h h4 h5 hR hA
  go_enter Tryz.func128, Tryz.ntmps128
  go_wp2_with fail
  clear hwA
  go_loop [5] (fun s => (m = 0 ∧ s = .int .i64 (-1)) ∨ (0 < m ∧ ∃ i : Nat, i < m ∧ s = .int .i64 i ∧ R = wayD K key i)) (fun s => (intOf s).toNat)
  case atStart =>
    by_cases h0 : m = 0
    · exact .inl ⟨h0, by rw [h0]; rfl⟩
    · exact .inr ⟨by omega, m - 1, by omega, by congr 1; omega, HW.out⟩
  case round =>
    rcases hrel with ⟨rfl, rfl⟩ | ⟨hm, i, hi, rfl, hr⟩
    · go_wp2_with fail
      go_ret
      exact ⟨ret_int (by rw [HW.out]; rfl), HA.out⟩
    · cases i with
      | zero =>
        have HR := Lib.hid hr
        clear hr
        go_wp2_with fail
        go_ret
        exact ⟨ret_int (by rw [HR.out] <;> rfl), HA.out⟩
      | succ i =>
        have d0 : decide ((0 : Int) < ((i + 1 : Nat) : Int)) = true := by simp <;> omega
        obtain ⟨b, off, rfl, hb, hcell⟩ := HC.out (i + 1) hi
        have c1 := (HA.out.cell (p := ⟨b, off + (i + 1) * 4, none⟩) hb).trans hcell
        rw [wayD_step] at hr
        generalize K[i + 1]?.getD [] = k at *
        clear hcell
        rcases ktri key k with hlt | rfl | hlt
        · rw [if_pos hlt] at hr
          obtain ⟨_, e3, e1, e2⟩ := cmp_lt hlt
          clear e3
          have HR := Lib.hid hr
          clear hr hlt
          go_wp2_with fail
          go_round
          case rel => exact .inr ⟨hm, i, by omega, by first | rfl | (congr 1; omega), HR.out⟩
          case measure => simp [intOf] <;> omega
        · rw [if_neg (klt_irrefl _)] at hr
          obtain ⟨e1, e2⟩ := cmp_eq key
          have HR := Lib.hid hr
          clear hr
          go_wp2_with fail
          go_ret
          exact ⟨ret_int (by rw [HR.out]; go_num), HA.out⟩
        · rw [if_neg (klt_asymm hlt)] at hr
          obtain ⟨e1, e2, e3, e4⟩ := cmp_lt hlt
          clear e3 e4
          have HR := Lib.hid hr
          clear hr hlt
          go_wp2_with fail
          go_ret
          exact ⟨ret_int (by rw [HR.out]; go_num), HA.out⟩
end Go.Proofs.YtpghlmcoajaiiaaGreatDoor

/- The document's nodes, read in a world; a cell set. -/
namespace Go.Proofs.YtpghlmcoajaiiaaGreatDoor
open Go.RowKit

theorem TabR.unmap {α β : Type} {sz : Nat} {R : List Value → β → Prop} {f : α → β} {w : World} {a : Option Addr} {n c : Nat} {l : List α} (h : TabR sz R w a n c (l.map f)) : TabR sz (fun cs y => R cs (f y)) w a n c l := by
  obtain ⟨h1, h2, h3, hn, h4⟩ := h
  refine ⟨by simpa using h1, h2, h3, hn, ?_⟩
  rcases h4 with h4 | ⟨b, off, h5, h6, h7⟩
  · exact .inl h4
  · exact .inr ⟨b, off, h5, h6, fun i y hy => h7 i (f y) (by rw [List.getElem?_map, hy]; rfl)⟩
theorem RNodeOn.toRIn {F : Nat → Prop} : ∀ {n : Nat} {w : World} {cs : List Value} {t : Tr}, RNodeOn F n w cs t → RIn n w cs t
  | 0, _, _, _, h => h.elim
  | n + 1, w, cs, .leaf p l, h => by
    obtain ⟨a, c, e, h1, _⟩ := h.at
    refine ⟨a, _, c, e, TabR.mono (TabR.unmap h1) (fun cs y hy => ?_)⟩
    obtain ⟨pa, pn, pc, ka, kn, kc, e, k1, _, k2, _⟩ := hy
    obtain rfl : kn = 0 := k2.1.symm
    exact ⟨pa, pn, pc, ka, kc, e, k1, unit_any k2⟩
  | n + 1, w, cs, .node p l, h => by
    obtain ⟨a, c, e, h1, _⟩ := h.at
    refine ⟨a, _, c, e, TabR.mono (TabR.unmap h1) (fun cs y hy => ?_)⟩
    obtain ⟨pa, pn, pc, ka, kn, kc, e, k1, _, k2, _⟩ := hy
    obtain rfl : kn = 1 := k2.1.symm
    obtain rfl : pn = 0 := k1.1.symm
    exact ⟨pa, pc, ka, kc, e, k1, TabR.mono k2 (fun _ _ h => h.toRIn)⟩
theorem set_cells {l : List (List UInt8 × Tr)} {k : Nat} (hk : k < l.length) (p : Int) (key : List UInt8) (T : Tr) :
    cellsR (.node 0 (l.set k (key, T))) = (cellsR (.node p l)).take k ++ [⟨key, ⟨[], []⟩, some T⟩] ++ (cellsR (.node p l)).drop (k + 1) := by
  obtain ⟨a, c, b, rfl, rfl⟩ := list_at hk
  rw [List.set_append_right _ _ (Nat.le_refl _), Nat.sub_self, List.set_cons_zero]
  simp [cellsR, List.drop_append]
end Go.Proofs.YtpghlmcoajaiiaaGreatDoor

/- The document's Sizes (printed by gen_treRs.py). -/
namespace Go.Proofs.YtpghlmcoajaiiaaGreatDoor
open Go.RowKit

set_option maxRecDepth 100000 in
set_option maxHeartbeats 4000000 in
theorem rsizes_node {n : Nat} {F : Nat → Prop} {w : World} {cs : List Value} {p : Int} {l : List (List UInt8 × Tr)} (h : RNodeOn F (n + 1) w cs (.node p l)) (hb : Bnd (n + 1) (.node p l)) :
    Calls Tryz.prog 126 #[.agg cs.toArray] w (SizesPost w (sizesT (.node p l))) := by
  obtain ⟨a, c, rfl, h1, _⟩ := h.at
  obtain ⟨g1, g2⟩ := hb
  obtain ⟨e1, e2, e3⟩ := h1.lens
  obtain ⟨kn, hkn'⟩ : ∃ x, cntT (.node p l) = x := ⟨_, rfl⟩
  have hkl : l.length = kn := hkn'
  rw [hkn'] at h1 e1 e2 ⊢
  have hsl : (sizesT (.node p l)).length = kn := by rw [sizes_len_node, hkl]
  have HS : Hid (∀ (i : Nat) (x : List UInt8 × Tr), l[i]? = some x → (sizesT (.node p l))[i]?.getD 0 = 4 + (x.1.length : Int) ∧ x.1.length ≤ 200) := Lib.hid (fun i x hx => by
    have := (g2 x (List.mem_of_getElem? hx)).1
    simp [sizesT, hx, this])
  have HV := Lib.hid h1
  have HSL := Lib.hid hsl
  have hkn : kn ≤ 1000 := by omega
  obtain ⟨i0, hi0, hz0, hz1, hz2⟩ := info_parts info_intT
  show Calls _ _ #[.agg #[.int .i64 p, .bool false, .slice a kn c]] _ _
  have hA : Below w.heap.size w (w.alloc (.cells #[.int .i64 p, .bool false, .slice a kn c] 27)) := (Below.refl _ _).alloc (Nat.le_refl _) _
  have HBX := Lib.hid ((Boxes.nil w).alloc #[.int .i64 p, .bool false, .slice a kn c] 27 (b := w.heap.size) rfl)
  generalize sizesT (.node p l) = S at *
  clear h h1 g1 g2 e1 hkl hsl hkn'
  go_enter Tryz.func126, Tryz.ntmps126
  go_wp2_with fail
  go_loopw [3, 4] (fun s3 s4 wr => ∃ i : Nat, i ≤ kn ∧ s4 = .int .i64 i ∧ wr.ownsRow w.heap.size 3 1 s3 i ((S.take i).map (Value.int .i64)) ∧ Below w.heap.size w wr ∧ Boxes wr [(w.heap.size, [.int .i64 p, .bool false, .slice a kn c])] ∧ s3.ownBlock ≠ some w.heap.size) (fun _ s _ => kn - (intOf s).toNat)
  case atStart => exact ⟨0, Nat.zero_le _, rfl, World.ownsRow_nil _ _ _ _, hA, HBX.out, by simp [Value.ownBlock]⟩
  case round =>
    clear HBX hA
    obtain ⟨i, hi, rfl, hown, hb, hbx, hnb⟩ := hrel
    have f1 := hbx.cell 0 1 rfl rfl
    have f2 := hbx.cell 0 2 rfl rfl
    by_cases hlt : i < kn
    rotate_left
    · obtain rfl : i = kn := by omega
      have HE : Hid (SizesPost w S (.returned u3) wr) := Lib.hid ⟨_, rfl, by rw [HSL.out]; rw [List.take_of_length_le (by rw [HSL.out]; exact Nat.le_refl _)] at hown; exact hown, hb⟩
      clear hown hb hbx hnb
      go_wp2_with fail
      go_ret
      exact HE.out
    obtain ⟨b, off, y, pa, pn, pc, ka, kn', kc, rfl, hbb, hy, _, _, _, _, _, c0, c1, _, _⟩ := RNodeOn.cell HV.out hlt
    have hst := Lib.hid (tk_succ S i (by rw [HSL.out]; exact hlt))
    rw [cellsR_node] at hy
    obtain ⟨x, hx1, hx2⟩ := Option.map_eq_some_iff.1 hy
    subst hx2
    obtain ⟨q1, q2⟩ := HS.out i x hx1
    obtain ⟨k, kid⟩ := x
    have v0 := (hb.cell (p := ⟨b, off + i * 4, none⟩) hbb).trans c0
    have hsz := strOf_size k
    obtain ⟨m, hm⟩ : ∃ m, k.length = m := ⟨_, rfl⟩
    dsimp only at *
    rw [hm] at q1 q2 hsz
    clear hm hx1 hy c0 c1
    obtain ⟨v8, w8, hr8, ho8, hg8, hv8⟩ := run_append_new (P := Tryz.prog) (w := wr) w.heap.size 35 3 i0 _ 1 8 Tryz.underlying35 hi0 hz0 hz1 hz2 rfl (by decide) hown #[.int .i64 (4 + (m : Int))] rfl (by intro u hu; simp at hu; subst hu; rfl) (by unfold maxLen; omega) (by omega) hb.size
    have HB8 := Lib.hid (hb.grown hg8 hb.size (own_ge hown))
    have HX8 := Lib.hid (hbx.grown hg8 (by intro p hp; simp at hp; subst hp; exact hnb))
    have HN8 : Hid (v8.ownBlock ≠ some w.heap.size) := Lib.hid (by
      rcases hv8 with h | h
      · rw [h]; exact hnb
      · rw [h]; intro e; have := hb.size; have := Option.some.inj e; omega)
    have HO8 : Hid (w8.ownsRow w.heap.size 3 1 v8 (i + 1) ((S.take (i + 1)).map (Value.int .i64))) := Lib.hid (by
      rw [hst.out, q1, List.map_append]; exact ho8)
    clear ho8 hg8 hv8
    clear hown hb hbx hnb q1 hst
    go_wp2_with (at_builtin; refine wpList_append_run rfl _ _ _ _ rfl rfl rfl hr8 ?_)
    go_roundw
    case rel => exact ⟨i + 1, hlt, by go_num, HO8.out, HB8.out, HX8.out, HN8.out⟩
    case measure => simp [intOf]; omega
set_option maxRecDepth 100000 in
set_option maxHeartbeats 4000000 in
theorem rsizes_leaf {n : Nat} {F : Nat → Prop} {w : World} {cs : List Value} {p : Int} {l : List (List UInt8 × Tv)} (h : RNodeOn F (n + 1) w cs (.leaf p l)) (hb : Bnd (n + 1) (.leaf p l)) :
    Calls Tryz.prog 126 #[.agg cs.toArray] w (SizesPost w (sizesT (.leaf p l))) := by
  obtain ⟨a, c, rfl, h1, _⟩ := h.at
  obtain ⟨g1, g2⟩ := hb
  obtain ⟨e1, e2, e3⟩ := h1.lens
  obtain ⟨kn, hkn'⟩ : ∃ x, cntT (.leaf p l) = x := ⟨_, rfl⟩
  have hkl : l.length = kn := hkn'
  rw [hkn'] at h1 e1 e2 ⊢
  have hsl : (sizesT (.leaf p l)).length = kn := by rw [sizes_len_leaf, hkl]
  have HS : Hid (∀ (i : Nat) (x : List UInt8 × Tv), l[i]? = some x → (sizesT (.leaf p l))[i]?.getD 0 = 3 + (vSz x.2 : Int) + (x.1.length : Int) ∧ x.1.length ≤ 200 ∧ x.2.data.length ≤ 1000) := Lib.hid (fun i x hx => by
    have := g2 x (List.mem_of_getElem? hx)
    simp [sizesT, hx, this])
  have HV := Lib.hid h1
  have HSL := Lib.hid hsl
  have hkn : kn ≤ 1000 := by omega
  obtain ⟨i0, hi0, hz0, hz1, hz2⟩ := info_parts info_intT
  show Calls _ _ #[.agg #[.int .i64 p, .bool true, .slice a kn c]] _ _
  have hA : Below w.heap.size w (w.alloc (.cells #[.int .i64 p, .bool true, .slice a kn c] 27)) := (Below.refl _ _).alloc (Nat.le_refl _) _
  have HBX := Lib.hid ((Boxes.nil w).alloc #[.int .i64 p, .bool true, .slice a kn c] 27 (b := w.heap.size) rfl)
  generalize sizesT (.leaf p l) = S at *
  clear h h1 g1 g2 e1 hkl hsl hkn'
  go_enter Tryz.func126, Tryz.ntmps126
  go_wp2_with fail
  go_loopw [3, 4] (fun s3 s4 wr => ∃ i : Nat, i ≤ kn ∧ s4 = .int .i64 i ∧ wr.ownsRow w.heap.size 3 1 s3 i ((S.take i).map (Value.int .i64)) ∧ Below w.heap.size w wr ∧ Boxes wr [(w.heap.size, [.int .i64 p, .bool true, .slice a kn c])] ∧ s3.ownBlock ≠ some w.heap.size) (fun _ s _ => kn - (intOf s).toNat)
  case atStart => exact ⟨0, Nat.zero_le _, rfl, World.ownsRow_nil _ _ _ _, hA, HBX.out, by simp [Value.ownBlock]⟩
  case round =>
    clear HBX hA
    obtain ⟨i, hi, rfl, hown, hb, hbx, hnb⟩ := hrel
    have f1 := hbx.cell 0 1 rfl rfl
    have f2 := hbx.cell 0 2 rfl rfl
    by_cases hlt : i < kn
    rotate_left
    · obtain rfl : i = kn := by omega
      have HE : Hid (SizesPost w S (.returned u3) wr) := Lib.hid ⟨_, rfl, by rw [HSL.out]; rw [List.take_of_length_le (by rw [HSL.out]; exact Nat.le_refl _)] at hown; exact hown, hb⟩
      clear hown hb hbx hnb
      go_wp2_with fail
      go_ret
      exact HE.out
    obtain ⟨b, off, y, pa, pn, pc, ka, kn', kc, rfl, hbb, hy, _, _, _, _, _, c0, c1, _, _⟩ := RNodeOn.cell HV.out hlt
    have hst := Lib.hid (tk_succ S i (by rw [HSL.out]; exact hlt))
    rw [cellsR_leaf] at hy
    obtain ⟨x, hx1, hx2⟩ := Option.map_eq_some_iff.1 hy
    subst hx2
    obtain ⟨q1, q2, q3⟩ := HS.out i x hx1
    obtain ⟨k, tv⟩ := x
    dsimp only at *
    have v0 := (hb.cell (p := ⟨b, off + i * 4, none⟩) hbb).trans c0
    have v1 := (hb.cell (p := ⟨b, off + i * 4 + 1, none⟩) hbb).trans c1
    have hsz := strOf_size k
    have hsz2 := strOf_size tv.data
    obtain ⟨m, hm⟩ : ∃ m, k.length = m := ⟨_, rfl⟩
    obtain ⟨dl, hdl⟩ : ∃ dl, tv.data.length = dl := ⟨_, rfl⟩
    have N := fun W => crneed_any (dl : Int) W
    have hvs : vSz tv = if dl ≤ 16 then dl else 4 := by unfold vSz; rw [hdl]
    rw [hm] at q1 q2 hsz
    rw [hdl] at hsz2 q3
    clear hm hdl hx1 hy c0 c1
    have HVS := Lib.hid hvs
    have HQ1 := Lib.hid q1
    clear hvs q1
    go_upto_region 7 with (fail)
    go_cut [5] (fun s5 wq => s5 = .int .i64 (3 + (m : Int) + (dl : Int)) ∧ ∃ j, wq = wr.drewN j)
    case first =>
      go_quiet (fail)
      go_wp2
      go_meet
      exact ⟨rfl, _, rfl⟩
    case rest =>
    obtain ⟨rfl, j, rfl⟩ := hcut
    have hvs := HVS.out
    have q1 := HQ1.out
    have hbj : Below w.heap.size w (wr.drewN j) := below_drewN hb j
    have hownj := own_held hown (below_drewN (Below.refl _ _) j)
    have hbxj := hbx.step (below_drewN (Below.refl _ _) j)
    have g1 := hbxj.cell 0 1 rfl rfl
    have g2 := hbxj.cell 0 2 rfl rfl
    have y0 := (hbj.cell (p := ⟨b, off + i * 4, none⟩) hbb)
    have y1 := (hbj.cell (p := ⟨b, off + i * 4 + 1, none⟩) hbb)
    have z0 : (wr.drewN j).cell? ⟨b, off + i * 4, none⟩ = some (.string (strOf k)) := v0
    have z1 : (wr.drewN j).cell? ⟨b, off + i * 4 + 1, none⟩ = some (.string (strOf tv.data)) := v1
    clear y0 y1 HVS HQ1 hown hb hbx
    by_cases hd : dl ≤ 16
    · rw [if_pos hd] at hvs
      rw [hvs] at q1
      rw [show needC (dl : Int) = 0 by unfold needC; rw [if_pos (.inl (by omega))]] at N
      have d4 : decide ((400 : Int) < dl) = false := by simp; omega
      have d4' : decide (400 < dl) = false := by simp; omega
      obtain ⟨v8, w8, hr8, ho8, hg8, hv8⟩ := run_append_new (P := Tryz.prog) (w := wr.drewN j) w.heap.size 35 3 i0 _ 1 8 Tryz.underlying35 hi0 hz0 hz1 hz2 rfl (by decide) hownj #[.int .i64 (3 + (m : Int) + (dl : Int))] rfl (by intro u hu; simp at hu; subst hu; rfl) (by unfold maxLen; omega) (by omega) hbj.size
      have HB8 := Lib.hid (hbj.grown hg8 hbj.size (own_ge hownj))
      have HX8 := Lib.hid (hbxj.grown hg8 (by intro p hp; simp at hp; subst hp; exact hnb))
      have HN8 : Hid (v8.ownBlock ≠ some w.heap.size) := Lib.hid (by
        rcases hv8 with h | h
        · rw [h]; exact hnb
        · rw [h]; intro e; have := hbj.size; have := Option.some.inj e; omega)
      have HO8 : Hid (w8.ownsRow w.heap.size 3 1 v8 (i + 1) ((S.take (i + 1)).map (Value.int .i64))) := Lib.hid (by
        rw [hst.out, q1, List.map_append, show (3 : Int) + (dl : Int) + (m : Int) = 3 + (m : Int) + (dl : Int) by omega]; exact ho8)
      clear ho8 hg8 hv8
      clear hownj hbj hbxj hnb q1 hst hvs
      go_wp2_with fail
      refine (N _).mono ?_
      rintro e w2 ⟨rfl, rfl⟩
      go_wp2_with (at_builtin; refine wpList_append_run rfl _ _ _ _ rfl rfl rfl hr8 ?_)
      go_roundw
      case rel => exact ⟨i + 1, hlt, by go_num, HO8.out, HB8.out, HX8.out, HN8.out⟩
      case measure => simp [intOf]; omega
    · rw [if_neg hd] at hvs
      rw [hvs] at q1
      obtain ⟨v8, w8, hr8, ho8, hg8, hv8⟩ := run_append_new (P := Tryz.prog) (w := wr.drewN j) w.heap.size 35 3 i0 _ 1 8 Tryz.underlying35 hi0 hz0 hz1 hz2 rfl (by decide) hownj #[.int .i64 (7 + (m : Int))] rfl (by intro u hu; simp at hu; subst hu; rfl) (by unfold maxLen; omega) (by omega) hbj.size
      have HB8 := Lib.hid (hbj.grown hg8 hbj.size (own_ge hownj))
      have HX8 := Lib.hid (hbxj.grown hg8 (by intro p hp; simp at hp; subst hp; exact hnb))
      have HN8 : Hid (v8.ownBlock ≠ some w.heap.size) := Lib.hid (by
        rcases hv8 with h | h
        · rw [h]; exact hnb
        · rw [h]; intro e; have := hbj.size; have := Option.some.inj e; omega)
      have HO8 : Hid (w8.ownsRow w.heap.size 3 1 v8 (i + 1) ((S.take (i + 1)).map (Value.int .i64))) := Lib.hid (by
        rw [hst.out, q1, List.map_append, show (3 : Int) + ((4 : Nat) : Int) + (m : Int) = 7 + (m : Int) by omega]; exact ho8)
      clear ho8 hg8 hv8
      clear hownj hbj hbxj hnb q1 hst
      have dd : (decide ((0 : Int) < (needC (dl : Int) : Int)) = true ∧ decide (0 < needC (dl : Int)) = true) ∨ (decide ((0 : Int) < (needC (dl : Int) : Int)) = false ∧ decide (0 < needC (dl : Int)) = false ∧ decide ((400 : Int) < dl) = true ∧ decide (400 < dl) = true) := by
        by_cases h4 : 400 < dl
        · right
          have : needC (dl : Int) = 0 := by unfold needC; rw [if_pos (.inr (by omega))]
          rw [this]; exact ⟨by simp, by simp, by simp; omega, by simp; omega⟩
        · left
          have : 0 < needC (dl : Int) := by unfold needC; rw [if_neg (by omega)]; omega
          exact ⟨by simp; omega, by simp; omega⟩
      generalize needC (dl : Int) = nq at *
      clear hvs
      rcases dd with ⟨d4, d4'⟩ | ⟨d4, d4', d5, d5'⟩
      · go_wp2_with fail
        refine (N _).mono ?_
        rintro e w2 ⟨rfl, rfl⟩
        go_wp2_with (at_builtin; refine wpList_append_run rfl _ _ _ _ rfl rfl rfl hr8 ?_)
        go_roundw
        case rel => exact ⟨i + 1, hlt, by go_num, HO8.out, HB8.out, HX8.out, HN8.out⟩
        case measure => simp [intOf]; omega
      · go_wp2_with fail
        refine (N _).mono ?_
        rintro e w2 ⟨rfl, rfl⟩
        go_wp2_with (at_builtin; refine wpList_append_run rfl _ _ _ _ rfl rfl rfl hr8 ?_)
        go_roundw
        case rel => exact ⟨i + 1, hlt, by go_num, HO8.out, HB8.out, HX8.out, HN8.out⟩
        case measure => simp [intOf]; omega
theorem rsizes_any {n : Nat} {F : Nat → Prop} {w : World} {cs : List Value} {t : Tr} (h : RNodeOn F n w cs t) (hb : Bnd n t) : Calls Tryz.prog 126 #[.agg cs.toArray] w (SizesPost w (sizesT t)) := by
  cases n with
  | zero => exact h.elim
  | succ n =>
    cases t with
    | leaf p l => exact rsizes_leaf h hb
    | node p l => exact rsizes_node h hb
end Go.Proofs.YtpghlmcoajaiiaaGreatDoor

/- The reference's place: the walk. -/
namespace Go.Proofs.YtpghlmcoajaiiaaGreatDoor
open Go.RowKit

set_option maxRecDepth 100000 in
set_option maxHeartbeats 1000000 in
theorem refAt_any (a : Option Addr) (len cap : Nat) (l : List Int) (w : World) (hr : Row .i64 w a len cap l) (hs : Small l) :
    Calls Tryz.prog 125 #[.slice a len cap] w fun e w' => e = .returned (.int .i64 (atF l)) ∧ w = w' := by
  have hbd := hs.bd
  have hll := Lib.hid hr.1
  have hl1 := hs.1
  have hlc := hr.2.1
  have hm := hr.2.2.1
  unfold maxLen at hm
  have hlen : l.length ≤ len ∧ len ≤ l.length := by rw [hr.1]; omega
  by_cases hle : sumI l ≤ 122
  · have hat : Hid (atF l = 0) := Lib.hid (by simp [atF, hle])
    go_enter Tryz.func125, Tryz.ntmps125
    go_wp2_with (go_at_call 150; refine (refSum_any _ _ _ _ _ hr hs).mono ?_; rintro e w' ⟨rfl, rfl⟩)
    go_ret
    exact ⟨ret_int hat.out.symm, rfl⟩
  · by_cases hl2 : len < 2
    · have hat : Hid (atF l = 0) := Lib.hid (by
        have e : l.length - 1 = 0 := by omega
        simp [atF, hle, e, bestTo_zero])
      go_enter Tryz.func125, Tryz.ntmps125
      go_wp2_with (go_at_call 150; refine (refSum_any _ _ _ _ _ hr hs).mono ?_; rintro e w' ⟨rfl, rfl⟩)
      go_ret
      exact ⟨ret_int hat.out.symm, rfl⟩
    · have hat : Hid (atF l = (bestTo l (len - 1)).2) := Lib.hid (by rw [← hr.1]; simp [atF, hle])
      go_enter Tryz.func125, Tryz.ntmps125
      go_wp2_with (go_at_call 150; refine (refSum_any _ _ _ _ _ hr hs).mono ?_; rintro e w' ⟨rfl, rfl⟩)
      go_loop [3, 4] (fun at' kk => ∃ k m : Nat, 2 ≤ k ∧ k ≤ len ∧ kk = .int .i64 k ∧ at' = .int .i64 m ∧ 1 ≤ m ∧ m < k ∧ bestTo l (k - 1) = (worse l m, (m : Int))) (fun _ k => len - (intOf k).toNat)
      case atStart =>
        obtain ⟨m, h1, h2, e⟩ := bestTo_pos hs 0
        obtain rfl : m = 1 := by omega
        exact ⟨2, 1, by omega, by omega, rfl, rfl, h1, by omega, e⟩
      case round =>
        obtain ⟨k, m, hk2, hk, rfl, rfl, hm1, hm2, hb⟩ := hrel
        have hst : bestTo l (k + 1 - 1) = better (worse l m, (m : Int)) ((k : Int), worse l k) := by
          obtain ⟨n, rfl⟩ : ∃ n, k = n + 1 := ⟨k - 1, by omega⟩
          have := bestTo_succ l n
          simp only [Nat.add_sub_cancel] at hb ⊢
          rw [this, hb]; simp
        have HB := Lib.hid hb
        have HS := Lib.hid hst
        clear hb hst
        by_cases hlt : k < len
        · by_cases hw : worse l k < worse l m
          · go_wp2_with fail
            refine (worse_any _ _ _ k _ _ hr hs (by omega)).mono ?_
            rintro e w' ⟨rfl, rfl⟩
            go_wp2_with fail
            refine (worse_any _ _ _ m _ _ hr hs (by omega)).mono ?_
            rintro e w' ⟨rfl, rfl⟩
            go_wp2
            go_round
            case rel => exact ⟨k + 1, k, by omega, by omega, by go_num, rfl, by omega, by omega, by rw [HS.out, better, if_pos hw]⟩
            case measure => simp [intOf]; omega
          · go_wp2_with fail
            refine (worse_any _ _ _ k _ _ hr hs (by omega)).mono ?_
            rintro e w' ⟨rfl, rfl⟩
            go_wp2_with fail
            refine (worse_any _ _ _ m _ _ hr hs (by omega)).mono ?_
            rintro e w' ⟨rfl, rfl⟩
            go_wp2
            go_round
            case rel => exact ⟨k + 1, m, by omega, by omega, by go_num, rfl, by omega, by omega, by rw [HS.out, better, if_neg (by simpa using hw)]⟩
            case measure => simp [intOf]; omega
        · obtain rfl : k = len := by omega
          go_wp2
          go_ret
          exact ⟨ret_int (by rw [hat.out, HB.out]), rfl⟩
end Go.Proofs.YtpghlmcoajaiiaaGreatDoor
