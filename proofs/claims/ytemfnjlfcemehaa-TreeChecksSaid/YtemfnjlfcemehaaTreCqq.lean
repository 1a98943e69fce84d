/- Keys, told the same or not, as runs. -/
import Derived.Test.YtemfnjlfcemehaaM2
namespace Go.Proofs.Ytemfnjlfcemehaa
open Go.RowKit

theorem run_eqlT {a b : List UInt8} {o : Bool} (h : decide (a = b) = o) (w : World) : (binOp .eql 9 (.string (strOf a)) (.string (strOf b))).run Try.prog w = .ok (.bool o) w := by
  subst h
  have e : (a == b) = decide (a = b) := by by_cases h : a = b <;> simp [h]
  simp [binOp, Op.stringOp, strOf_toList, e]
theorem run_neqT {a b : List UInt8} {o : Bool} (h : decide (a = b) = o) (w : World) : (binOp .neq 9 (.string (strOf a)) (.string (strOf b))).run Try.prog w = .ok (.bool (!o)) w := by
  subst h
  have e : (a == b) = decide (a = b) := by by_cases h : a = b <;> simp [h]
  simp [binOp, Op.stringOp, strOf_toList, e]
/-- What a walk asks of two keys told the same or not. -/
theorem eq_walk {a b : List UInt8} {o : Bool} (h : decide (a = b) = o) : ((strOf a).toList == (strOf b).toList) = o := by
  subst h
  rw [strOf_toList, strOf_toList]
  by_cases h : a = b <;> simp [h]
theorem ne_walk {a b : List UInt8} {o : Bool} (h : decide (a = b) = o) : ((strOf a).toList != (strOf b).toList) = !o := by
  unfold bne; rw [eq_walk h]
end Go.Proofs.Ytemfnjlfcemehaa
