/- Records that came in, opened. -/
import Derived.Test.YtpghlmcoajaiiaaGreatDoorM7
import Derived.Test.YtpghlmcoajaiiaaGreatDoorM1
import Derived.ChangeArms
import Derived.OpenShut
namespace Go.Proofs.YtpghlmcoajaiiaaGreatDoor
open Go.RowKit Go.Deep Go.WideShapes Go.ChangeShapes

def IsRc (cs : List Value) (y : RcD) : Prop := cs = rcC y ∧ y.digest < 4294967296
section
variable {H : Type} {enc : TypeId × Value → H} {P : Program} {w : World} {base : Nat}
theorem rd_rc {t : TypeId} {f0 f1 f2 f3 f4 f5 : Field} (ht : P.underlying t = some (.struct #[f0, f1, f2, f3, f4, f5])) (o0 : f0.offset = 0) (o1 : f1.offset = 1) (o2 : f2.offset = 2) (o3 : f3.offset = 3) (o4 : f4.offset = 4) (o5 : f5.offset = 5)
    (c0 : P.cellsOf f0.type = 1) (c1 : P.cellsOf f1.type = 1) (c2 : P.cellsOf f2.type = 1) (c3 : P.cellsOf f3.type = 1) (c4 : P.cellsOf f4.type = 1) (c5 : P.cellsOf f5.type = 1)
    (u0 : P.underlying f0.type = some (.int .i64)) (u1 : P.underlying f1.type = some (.int .i64)) (u2 : P.underlying f2.type = some (.int .i64)) (u3 : P.underlying f3.type = some .string) (u4 : P.underlying f4.type = some .string) (u5 : P.underlying f5.type = some (.int .u32)) :
    ∀ n cs x, cs.length = 6 → DataW.trod enc P w 0 (fun _ => true) true n t cs = some x → ∃ y : RcD, IsRc cs y := by
  intro n cs x hlen h
  obtain ⟨xs, k, _, _, _, hxl, hf⟩ := DataW.trod_struct ht h
  match xs, hxl, cs, hlen with
  | [y0, y1, y2, y3, y4, y5], _, [v0, v1, v2, v3, v4, v5], _ =>
    have g0 := hf 0 f0 rfl
    have g1 := hf 1 f1 rfl
    have g2 := hf 2 f2 rfl
    have g3 := hf 3 f3 rfl
    have g4 := hf 4 f4 rfl
    have g5 := hf 5 f5 rfl
    simp [o0, o1, o2, o3, o4, o5, c0, c1, c2, c3, c4, c5] at g0 g1 g2 g3 g4 g5
    obtain ⟨n0, e0, _, _⟩ := DataW.trod_int u0 g0
    obtain ⟨n1, e1, _, _⟩ := DataW.trod_int u1 g1
    obtain ⟨n2, e2, _, _⟩ := DataW.trod_int u2 g2
    obtain ⟨s3, e3, _, _⟩ := DataW.trod_string u3 g3
    obtain ⟨s4, e4, _, _⟩ := DataW.trod_string u4 g4
    obtain ⟨n5, e5, _, w5⟩ := DataW.trod_int u5 g5
    simp at e0 e1 e2 e3 e4 e5
    simp [Lit.wf, IntKind.min, IntKind.max, IntKind.signed, IntKind.bits] at w5
    refine ⟨⟨n0, n1, n2, s3.data.toList, s4.data.toList, n5.toNat⟩, ?_, ?_⟩
    · have : ((n5.toNat : Nat) : Int) = n5 := by omega
      show _ = rcC _
      rw [e0, e1, e2, e3, e4, e5]
      simp only [rcC, this]
      rfl
    · show n5.toNat < _
      omega
end
set_option maxRecDepth 100000 in
theorem open_rc {H : Type} {enc : TypeId × Value → H} {w : World} {base : Nat} {v : Value} {d : DataW H} {p : List MemPlace} (hv : Value.okWide Tryz.prog w .any base 64 v) (h : DataW.Trod enc Tryz.prog w 0 (fun _ => true) true 64 v d p) :
    ∃ r : RcD, v = rcV r ∧ r.digest < 4294967296 := by
  obtain ⟨cs, rfl, hsz⟩ := okWide_struct Tryz.underlying64 hv
  obtain ⟨fuel, hf0⟩ := h
  obtain ⟨cs⟩ := cs
  have hc : Tryz.prog.cellsOf 64 = 6 := by kernel_rfl
  rw [hc] at hsz
  simp [Value.cells] at hf0 hsz
  obtain ⟨y, rfl, hy⟩ := rd_rc Tryz.underlying64 rfl rfl rfl rfl rfl rfl (by kernel_rfl) (by kernel_rfl) (by kernel_rfl) (by kernel_rfl) (by kernel_rfl) (by kernel_rfl) Tryz.underlying3 Tryz.underlying3 Tryz.underlying3 Tryz.underlying9 Tryz.underlying9 Tryz.underlying62 _ cs _ hsz hf0
  exact ⟨y, rfl, hy⟩
set_option maxRecDepth 100000 in
theorem open_rcs {H : Type} {enc : TypeId × Value → H} {w : World} {base : Nat} {v : Value} {d : DataW H} {p : List MemPlace} (hv : Value.okWide Tryz.prog w .any base 92 v) (h : DataW.Trod enc Tryz.prog w 0 (fun _ => true) true 92 v d p) :
    ∃ a len cap l, v = .slice a len cap ∧ TabR 6 IsRc w a len cap l :=
  open_tab Tryz.underlying92 (show Tryz.prog.cellsOf 64 = 6 by kernel_rfl) (by decide) IsRc (rd_rc Tryz.underlying64 rfl rfl rfl rfl rfl rfl (by kernel_rfl) (by kernel_rfl) (by kernel_rfl) (by kernel_rfl) (by kernel_rfl) (by kernel_rfl) Tryz.underlying3 Tryz.underlying3 Tryz.underlying3 Tryz.underlying9 Tryz.underlying9 Tryz.underlying62) hv h
end Go.Proofs.YtpghlmcoajaiiaaGreatDoor
