/- What came in, opened: truths. -/
import Derived.Test.YtemfnjlfcemehaaTreTwoq
import Derived.Test.YtemfnjlfcemehaaM15
namespace Go.Proofs.Ytemfnjlfcemehaa
open Go.RowKit Go.Deep Go.WideShapes Go.ChangeShapes

section
variable {H : Type} {enc : TypeId × Value → H} {P : Program} {w : World} {base : Nat}
theorem rd_bool {e : TypeId} (he : P.underlying e = some .bool) : ∀ n cs x, cs.length = 1 → DataW.trod enc P w 0 (fun _ => true) true n e cs = some x → ∃ y : Bool, cs = [.bool y] := by
  intro n cs x _ h
  obtain ⟨b, e0, _⟩ := DataW.trod_bool he h
  exact ⟨b, e0⟩
/-- A slice of truths that came in. -/
theorem open_bls {t e : TypeId} (ht : P.underlying t = some (.slice e)) (he : P.underlying e = some .bool) (hc : P.cellsOf e = 1)
    {v : Value} {d : DataW H} {p : List MemPlace} (hv : Value.okWide P w .any base t v) (h : DataW.Trod enc P w 0 (fun _ => true) true t v d p) :
    ∃ a len cap l, v = .slice a len cap ∧ Bls w a len cap l :=
  open_tab ht hc (by decide) (fun cs (y : Bool) => cs = [.bool y]) (rd_bool he) hv h
end
end Go.Proofs.Ytemfnjlfcemehaa
