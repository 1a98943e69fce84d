/- The builtin max of an unsigned number and 1. -/
import Derived.Test.YtjdepdgoaopfoaaDoorMetF
namespace Go.Proofs.YtjdepdgoaopfoaaDoor
open Go.RowKit
theorem run_max_one (txn mx : Nat) (h : mx = max txn 1) (W : World) : (Builtin.max_ #[22, 22] 22 #[.int .u64 (txn : Int), .int .u64 1]).run Tryd.prog W = .ok (.int .u64 (mx : Int)) W := by
  by_cases h1 : 1 ≤ txn
  · have e : mx = txn := by omega
    subst e
    have h2 : ((1 : Int) ≤ (mx : Int)) := by omega
    simp [Builtin.max_, Builtin.max2, go_sem, h2]
    try omega
  · have e : txn = 0 := by omega
    subst e
    have e : mx = 1 := by omega
    subst e
    simp [Builtin.max_, Builtin.max2, go_sem]
end Go.Proofs.YtjdepdgoaopfoaaDoor
