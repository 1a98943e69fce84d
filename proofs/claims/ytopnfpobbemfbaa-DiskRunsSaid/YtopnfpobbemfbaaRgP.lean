/- Which pages are loose, as the law tells it; a disk and the reference's regions, with blocks that are others'. -/
import Derived.Test.YtopnfpobbemfbaaRgE
import Derived.Test.YtopnfpobbemfbaaBth
import Derived.Test.YtopnfpobbemfbaaDskC
import Derived.Deep.DeepCutAuto
namespace Go.Proofs.Ytopnfpobbemfbaa
open Go.RowKit

theorem info_i64P : (Try.prog.info? 3).map (fun i => (i.zero, i.size, i.bytes)) = some (some (.int .i64 0), 1, 8) := by kernel_rfl
def pgV (l : List (Nat × P128)) : List Value := l.map fun y => .int .i64 (y.1 : Int)
def PagesPost (w : World) (l : List (Nat × P128)) (e : Ending) (w' : World) : Prop := ∃ v, e = .returned v ∧ w'.ownsRow w.heap.size 3 1 v l.length (pgV l) ∧ Below w.heap.size w w'
set_option maxRecDepth 100000 in
set_option maxHeartbeats 3000000 in
theorem pages_any {w : World} {la : Option Addr} {m lc : Nat} {l : List (Nat × P128)} (hl : Ls w la m lc l) (hm : m ≤ 100000) :
    Calls Try.prog 27 #[.slice la m lc] w (PagesPost w l) := by
  obtain ⟨i0, hi0, hz0, hz1, hz2⟩ := info_parts info_i64P
  have hll : l.length = m := hl.1
  have hlc := hl.2.1
  have hlm := hl.2.2.1
  unfold maxLen at hlm
  have HL := Lib.hid hl
  have HLL := Lib.hid hll
  clear hll hl
  go_enter Try.func27, Try.ntmps27
  go_wp2_with fail
  go_loopw [3, 4] (fun s3 s wr => ∃ k : Nat, k ≤ m ∧ s = .int .i64 k ∧ wr.ownsRow w.heap.size 3 1 s3 k (pgV (l.take k)) ∧ Below w.heap.size w wr) (fun _ s _ => m - (intOf s).toNat)
  case atStart => exact ⟨0, Nat.zero_le _, rfl, World.ownsRow_nil _ _ _ _, Below.refl _ _⟩
  case round =>
    obtain ⟨k, hk, rfl, hox, hbx⟩ := hrel
    by_cases hlt : k < m
    · obtain ⟨b9, o9, y, rfl, hb9, hy, d0, d1⟩ := HL.out.at hlt
      have e0 := (hbx.cell (p := ⟨b9, o9 + k * 2, none⟩) hb9).trans d0
      have hkl : k < l.length := by have := HLL.out; omega
      have hts : l.take (k + 1) = l.take k ++ [y] := by rw [List.take_succ_eq_append_getElem hkl, (List.getElem?_eq_some_iff.1 hy).2]
      obtain ⟨v', w9, hr9, ho9, hg9, _⟩ := run_append_new (P := Try.prog) (w := wr) w.heap.size 28 3 i0 _ 1 8 Try.underlying28 hi0 hz0 hz1 hz2 rfl (by decide) hox #[.int .i64 (y.1 : Int)] rfl (by intro u hu; simp at hu; subst hu; rfl) (by unfold maxLen; omega) (by omega) hbx.size
      have HO := Lib.hid (show w9.ownsRow w.heap.size 3 1 v' (k + 1) (pgV (l.take (k + 1))) by rw [hts]; simpa [pgV] using ho9)
      have HB := Lib.hid (hbx.grown hg9 hbx.size (own_ge hox))
      clear hox hbx d0 d1 hy hkl hts ho9 hg9
      go_wp2_with (at_builtin; refine wpList_append_run rfl _ _ _ _ rfl rfl rfl hr9 ?_)
      go_roundw
      case rel => exact ⟨k + 1, hlt, by go_num, HO.out, HB.out⟩
      case measure => simp [intOf]; omega
    · obtain rfl : k = m := by omega
      rw [List.take_of_length_le (by rw [HLL.out]; exact Nat.le_refl _)] at hox
      have END := Lib.hid (show PagesPost w l (.returned u3) wr from ⟨_, rfl, by rw [HLL.out]; exact hox, hbx⟩)
      clear hox hbx
      go_wp2_with fail
      go_ret
      exact END.out
end Go.Proofs.Ytopnfpobbemfbaa
