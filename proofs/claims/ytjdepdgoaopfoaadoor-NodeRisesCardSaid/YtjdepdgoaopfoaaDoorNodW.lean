/- The walks of the chapter on nodes: the small functions. -/
import Derived.Test.YtjdepdgoaopfoaaDoorNodSpec
import Derived.Test.YtjdepdgoaopfoaaDoorBox
import Derived.Test.YtjdepdgoaopfoaaDoorCelT
import Derived.Laws.EntriesVeiled
import Derived.Laws.StructEq
import Derived.Deep.RegionLaw
import Derived.Deep.RegionHeld3
import Derived.Outline
namespace Go.Proofs.YtjdepdgoaopfoaaDoor
open Go.RowKit

def vcells (v : Vv) : List Value := [.string (strOf v.data), .bool v.far, .int .i64 v.size, .int .i64 v.page]
def ecells (e : En) : List Value := .string (strOf e.key) :: vcells e.v
def vv (v : Vv) : Value := .agg #[.string (strOf v.data), .bool v.far, .int .i64 v.size, .int .i64 v.page]
def ev (e : En) : Value := .agg #[.string (strOf e.key), .string (strOf e.v.data), .bool e.v.far, .int .i64 e.v.size, .int .i64 e.v.page]

theorem str_nil (k : List UInt8) : ((strOf k).toList = []) = (k = []) := by rw [strOf_toList]

theorem keyB_ne {k : List UInt8} (h : k ≠ []) : keyB k = decide ((k.length : Int) ≤ 16) := by
  have e : (k != []) = true := by simpa using h
  rw [keyB, e, Bool.true_and]
  exact decide_eq_decide.2 (by omega)
set_option maxRecDepth 100000 in
set_option maxHeartbeats 1000000 in
theorem key_any (k : List UInt8) (w : World) (hl : k.length ≤ 9223372036854775807) :
    Calls Tryd.prog 107 #[.string (strOf k)] w fun e w' => e = .returned (.bool (keyB k)) ∧ w = w' := by
  have hst := strOf_toList
  have hsz := strOf_size k
  by_cases h : k = []
  · subst h
    go_enter Tryd.func107, Tryd.ntmps107
    go_wp2
    go_ret
    exact ⟨rfl, rfl⟩
  · have hb : (k == []) = false := by simpa using h
    go_enter Tryd.func107, Tryd.ntmps107
    go_wp2
    all_goals
      go_ret
      exact ⟨ret_bool (keyB_ne h).symm, rfl⟩
set_option maxRecDepth 100000 in
set_option maxHeartbeats 1000000 in
theorem page_any (n : Int) (w : World) :
    Calls Tryd.prog 108 #[.int .i64 n] w fun e w' => e = .returned (.bool (pageB n)) ∧ w = w' := by
  go_enter Tryd.func108, Tryd.ntmps108
  go_wp2
  all_goals
    go_ret
    exact ⟨ret_bool (by simp [pageB, *]; try omega), rfl⟩
theorem wrap_u64N (n : Int) : IntKind.u64.wrap n = (u64N n : Int) := by
  simp [IntKind.wrap, IntKind.signed, IntKind.bits]; unfold u64N; omega
set_option maxRecDepth 100000 in
set_option maxHeartbeats 1000000 in
theorem two_any (n : Int) (w : World) :
    Calls Tryd.prog 109 #[.int .i64 n] w (OwnBytes 5 w (two n)) := by
  have h : Calls Tryd.prog 40 #[.int .u64 (u64N n : Int), .int .i64 2] w (OwnBytes 5 w (beBytes (u64N n) 2)) := num_ok (u64N n) 2 w (u64N_lt n) (by decide) (by decide)
  have hw := wrap_u64N n
  unfold two
  generalize u64N n = x at *
  go_enter Tryd.func109, Tryd.ntmps109
  go_wp2_with fail
  (with_reducible refine h.mono ?_)
  rintro e w' ⟨v, rfl, hown, hb⟩
  go_wp2
  go_ret
  exact ⟨v, rfl, hown, hb⟩
set_option maxRecDepth 100000 in
set_option maxHeartbeats 1000000 in
theorem kind_any (leaf : Bool) (v : Value) (w : World) :
    Calls Tryd.prog 55 #[.agg #[.bool leaf, v]] w fun e w' => e = .returned (.int .u8 ((kindN leaf).toNat : Int)) ∧ Below w.heap.size w w' := by
  cases leaf
  all_goals
    go_enter Tryd.func55, Tryd.ntmps55
    go_wp2
    go_ret
    exact ⟨rfl, (Below.refl _ _).alloc (Nat.le_refl _) _⟩

/-! the shapes -/
def shapeV (leaf : Bool) : Value := if leaf then .iface 125 (.agg #[]) else .iface 142 (.agg #[])
def shapeL : List Value := [.nilIface, .iface 125 (.agg #[]), .iface 142 (.agg #[])]
def ShapesPost (w : World) (e : Ending) (w' : World) : Prop := ∃ b, e = .returned (.slice (some ⟨b, 0, none⟩) 3 3) ∧ Boxes w' [(b, shapeL)] ∧ Below w.heap.size w w'
set_option maxRecDepth 100000 in
set_option maxHeartbeats 1000000 in
theorem shapes_any (w : World) : Calls Tryd.prog 56 #[] w (ShapesPost w) := by
  have hB := (Below.refl w.heap.size w).alloc (Nat.le_refl _) (.cells #[.nilIface, .iface 125 (.agg #[]), .iface 142 (.agg #[])] 111)
  have BX := (Boxes.nil w).alloc #[.nilIface, .iface 125 (.agg #[]), .iface 142 (.agg #[])] 111 rfl
  go_enter Tryd.func56, Tryd.ntmps56
  go_wp2
  go_ret
  exact ⟨_, rfl, BX, hB⟩
set_option maxRecDepth 100000 in
set_option maxHeartbeats 1000000 in
theorem leastL_any (w : World) :
    Calls Tryd.prog 103 #[.agg #[]] w fun e w' => e = .returned (.int .i64 1) ∧ Below w.heap.size w w' := by
  go_enter Tryd.func103, Tryd.ntmps103
  go_wp2
  go_ret
  exact ⟨rfl, (Below.refl _ _).alloc (Nat.le_refl _) _⟩
set_option maxRecDepth 100000 in
set_option maxHeartbeats 1000000 in
theorem leastB_any (w : World) :
    Calls Tryd.prog 112 #[.agg #[]] w fun e w' => e = .returned (.int .i64 2) ∧ Below w.heap.size w w' := by
  go_enter Tryd.func112, Tryd.ntmps112
  go_wp2
  go_ret
  exact ⟨rfl, (Below.refl _ _).alloc (Nat.le_refl _) _⟩

/-! which method a shape has -/
theorem m_putL (w : World) : (method 267 125 (.agg #[]) "jalousie/node.put").run Tryd.prog w = .ok (105, .agg #[]) w := by kernel_rfl
theorem m_putB (w : World) : (method 267 142 (.agg #[]) "jalousie/node.put").run Tryd.prog w = .ok (114, .agg #[]) w := by kernel_rfl
theorem m_takeL (w : World) : (method 267 125 (.agg #[]) "jalousie/node.take").run Tryd.prog w = .ok (106, .agg #[]) w := by kernel_rfl
theorem m_takeB (w : World) : (method 267 142 (.agg #[]) "jalousie/node.take").run Tryd.prog w = .ok (115, .agg #[]) w := by kernel_rfl
theorem m_mayL (w : World) : (method 267 125 (.agg #[]) "jalousie/node.may").run Tryd.prog w = .ok (104, .agg #[]) w := by kernel_rfl
theorem m_mayB (w : World) : (method 267 142 (.agg #[]) "jalousie/node.may").run Tryd.prog w = .ok (113, .agg #[]) w := by kernel_rfl
theorem m_leastL (w : World) : (method 267 125 (.agg #[]) "jalousie/node.least").run Tryd.prog w = .ok (103, .agg #[]) w := by kernel_rfl
theorem m_leastB (w : World) : (method 267 142 (.agg #[]) "jalousie/node.least").run Tryd.prog w = .ok (112, .agg #[]) w := by kernel_rfl
end Go.Proofs.YtjdepdgoaopfoaaDoor
