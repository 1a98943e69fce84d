/- What the rows of a node are made of. -/
import Derived.Test.YtemfnjlfcemehaaTreNrq
namespace Go.Proofs.Ytemfnjlfcemehaa
open Go.RowKit

theorem info_sK : RowInfo Try.prog 9 1 16 := row_info (by kernel_rfl)
theorem info_vK : RowInfo Try.prog 100 2 40 := row_info (by kernel_rfl)
theorem info_nK : RowInfo Try.prog 33 5 88 := row_info (by kernel_rfl)
end Go.Proofs.Ytemfnjlfcemehaa
