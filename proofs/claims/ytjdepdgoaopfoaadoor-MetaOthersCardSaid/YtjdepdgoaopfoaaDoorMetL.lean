/- The laws of the chapter on metas: a meta as the reference has it, equality of metas. -/
import Derived.Test.YtjdepdgoaopfoaaDoorMetA
import Derived.Laws.StructEq
namespace Go.Proofs.YtjdepdgoaopfoaaDoor
open Go.RowKit

theorem rsame (m : Mt) (w : World) :
    (binOp .eql 32 (.agg #[.int .i64 m.label, .int .u64 m.txn, .int .i64 m.root, .int .i64 m.list, .int .i64 m.high]) (.agg #[.int .i64 m.label, .int .u64 m.txn, .int .i64 m.root, .int .i64 m.list, .int .i64 m.high])).run Tryd.prog w = .ok (.bool true) w := by
  simp [go_sem]

set_option maxRecDepth 100000 in
set_option maxHeartbeats 2000000 in
theorem plain_any (m : Mt) (w : World) :
    Calls Tryd.prog 16 #[mv m] w fun e w' => e = .returned (mv m) ∧ Below w.heap.size w w' := by
  obtain ⟨g0, g1, g2, g3, g4⟩ := mbox_cells (m := m) (alloc_two_old w (.cells (mcells m) 24) (.cells (mcells Mt.zero) 32))
  obtain ⟨c0, c1, c2, c3, c4⟩ := rbox_cells (alloc_two_new w (.cells (mcells m) 24) (.cells (mcells m) 32))
  have hB := below_two w (.cells (mcells m) 24) (.cells (mcells m) 32)
  unfold mv
  unfold mcells Mt.zero at *
  go_enter Tryd.func16, Tryd.ntmps16
  go_wp2
  refine bodyPost_ret (v := mv m) (by simp [results, Tryd.results16, go_sem, mv, mcells, c0, c1, c2, c3, c4]) rfl ⟨rfl, hB⟩
end Go.Proofs.YtjdepdgoaopfoaaDoor
