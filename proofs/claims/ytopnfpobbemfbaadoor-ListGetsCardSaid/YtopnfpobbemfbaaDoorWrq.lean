/- What came in, opened: pages to be written. -/
import Derived.Test.YtopnfpobbemfbaaDoorM2
import Derived.Test.YtopnfpobbemfbaaDoorOpenq
namespace Go.Proofs.YtopnfpobbemfbaaDoor
open Go.RowKit Go.Deep Go.WideShapes Go.ChangeShapes

/-- A page to be written. -/
structure Wrt where
  page : Int
  a : Option Addr
  n : Nat
  cap : Nat
  b : List UInt8
def IsWrt (w : World) (cs : List Value) (y : Wrt) : Prop := cs = [.int .i64 y.page, .slice y.a y.n y.cap] ∧ Bs w y.a y.n y.cap y.b
def Wrts (w : World) (a : Option Addr) (len cap : Nat) (l : List Wrt) : Prop := TabR 2 (IsWrt w) w a len cap l
section
variable {H : Type} {enc : TypeId × Value → H} {P : Program} {w : World} {base : Nat}
theorem rd_wrt {t e : TypeId} {f0 f1 : Field} (ht : P.underlying t = some (.struct #[f0, f1])) (o0 : f0.offset = 0) (o1 : f1.offset = 1) (c0 : P.cellsOf f0.type = 1) (c1 : P.cellsOf f1.type = 1)
    (u0 : P.underlying f0.type = some (.int .i64)) (u1 : P.underlying f1.type = some (.slice e)) (ue : P.underlying e = some (.int .u8)) (ce : P.cellsOf e = 1) :
    ∀ n cs x, cs.length = 2 → DataW.trod enc P w 0 (fun _ => true) true n t cs = some x → ∃ y : Wrt, IsWrt w cs y := by
  intro n cs x hlen h
  obtain ⟨xs, k, _, _, _, hxl, hf⟩ := DataW.trod_struct ht h
  match xs, hxl, cs, hlen with
  | [y0, y1], _, [v0, v1], _ =>
    have g0 := hf 0 f0 rfl
    have g1 := hf 1 f1 rfl
    simp [o0, o1, c0, c1] at g0 g1
    obtain ⟨n0, e0, _, _⟩ := DataW.trod_int u0 g0
    obtain ⟨y, a, len, cap, e1, hb⟩ := read_bs u1 ue ce _ _ _ (by simp) g1
    simp at e0 e1
    exact ⟨⟨n0, a, len, cap, y⟩, by rw [e0, e1], hb⟩
theorem open_wrts_of {t e s : TypeId} {f0 f1 : Field} (ht : P.underlying t = some (.slice e)) (he : P.underlying e = some (.struct #[f0, f1])) (hc : P.cellsOf e = 2) (o0 : f0.offset = 0) (o1 : f1.offset = 1)
    (c0 : P.cellsOf f0.type = 1) (c1 : P.cellsOf f1.type = 1) (u0 : P.underlying f0.type = some (.int .i64)) (u1 : P.underlying f1.type = some (.slice s)) (us : P.underlying s = some (.int .u8)) (cs : P.cellsOf s = 1)
    {v : Value} {d : DataW H} {p : List MemPlace} (hv : Value.okWide P w .any base t v) (h : DataW.Trod enc P w 0 (fun _ => true) true t v d p) :
    ∃ a len cap l, v = .slice a len cap ∧ Wrts w a len cap l :=
  open_tab ht hc (by decide) (IsWrt w) (rd_wrt he o0 o1 c0 c1 u0 u1 us cs) hv h
end
set_option maxRecDepth 100000 in
theorem open_wrts {H : Type} {enc : TypeId × Value → H} {w : World} {base : Nat} {v : Value} {d : DataW H} {p : List MemPlace} (hv : Value.okWide Tryd.prog w .any base 37 v) (h : DataW.Trod enc Tryd.prog w 0 (fun _ => true) true 37 v d p) :
    ∃ a len cap l, v = .slice a len cap ∧ Wrts w a len cap l :=
  open_wrts_of Tryd.underlying37 Tryd.underlying46 (by kernel_rfl) (by rfl) (by rfl) (by kernel_rfl) (by kernel_rfl) Tryd.underlying3 Tryd.underlying32 Tryd.underlying5 (by kernel_rfl) hv h
theorem Wrts.below {w w' : World} {a : Option Addr} {len cap : Nat} {l : List Wrt} {B : Nat} (h : Wrts w a len cap l) (hB : w.heap.size ≤ B) (hb : Below B w w') : Wrts w' a len cap l :=
  (TabR.below hB hb h).mono fun _ _ hy => ⟨hy.1, hy.2.below hB hb⟩
theorem Wrts.at {w : World} {a : Option Addr} {len cap : Nat} {l : List Wrt} (h : Wrts w a len cap l) {k : Nat} (hk : k < len) :
    ∃ b off y, a = some ⟨b, off, none⟩ ∧ b < w.heap.size ∧ l[k]? = some y ∧ w.cell? ⟨b, off + k * 2, none⟩ = some (.int .i64 y.page) ∧ w.cell? ⟨b, off + k * 2 + 1, none⟩ = some (.slice y.a y.n y.cap) ∧ Bs w y.a y.n y.cap y.b := by
  obtain ⟨b, off, y, cs, e1, e2, e3, _, e5, e6⟩ := TabR.at h hk
  obtain ⟨rfl, h9⟩ := e5
  exact ⟨b, off, y, e1, e2, e3, by simpa using e6 0 _ rfl, e6 1 _ rfl, h9⟩
end Go.Proofs.YtopnfpobbemfbaaDoor
