/- Operations whose run is known, inside a region that draws. -/
import Derived.Test.YtopnfpobbemfbaaBytes
import Derived.Deep.RegionHeld3
import Derived.RegionTactic
namespace Go.Proofs.Ytopnfpobbemfbaa
open Go.RowKit

section
variable {P : Program}
theorem step_make_run {ops : Array Oper} {o : Oper} {a : Act} {w : World} {K : Act → World → Prop} {Q : Exit → Act → World → Prop} {E : Prop} (hgd : o.guard = none) (t : TypeId) (x y : Operand) (ho : o.op = .makeSlice t x y) {v u r : Value} {w' : World} (hx : a.eval x = v) (hy : a.eval y = u)
    (hr : (Instr.makeSlice t v u).run P w = .ok r w') (h : K (a.put o.dst r) w') : if Region.wanted o (yielded ops a.tmps) = true then Oper.wp P o a w K Q else E := by
  have hw : Region.wanted o (yielded ops a.tmps) = true := by simp [Region.wanted, hgd]
  rw [if_pos hw]
  unfold Oper.wp execOp
  simp only [ho, Sem.run_bind, Sem.run_pure, Result.andThen_ok, hx, hy, hr]
  exact h
theorem step_convert_run {ops : Array Oper} {o : Oper} {a : Act} {w : World} {K : Act → World → Prop} {Q : Exit → Act → World → Prop} {E : Prop} (hgd : o.guard = none) (s t : TypeId) (x : Operand) (ho : o.op = .convert s t x) {v r : Value} {w' : World} (hx : a.eval x = v)
    (hr : (convert s t v).run P w = .ok r w') (h : K (a.put o.dst r) w') : if Region.wanted o (yielded ops a.tmps) = true then Oper.wp P o a w K Q else E := by
  have hw : Region.wanted o (yielded ops a.tmps) = true := by simp [Region.wanted, hgd]
  rw [if_pos hw]
  unfold Oper.wp execOp
  simp only [ho, Sem.run_bind, Sem.run_pure, Result.andThen_ok, hx, hr]
  exact h
end
end Go.Proofs.Ytopnfpobbemfbaa
