/- The reference's regions: kept. -/
import Derived.Test.YtopnfpobbemfbaaRgS
import Derived.RegionTactic
import Derived.StillTailTactics
namespace Go.Proofs.Ytopnfpobbemfbaa
open Go.RowKit

def keptL (P : List (List UInt8)) (l : List (Nat × P128)) : List (List UInt8) := l.foldl (fun P y => P.set y.1 y.2.1) P
theorem keptL_length (l : List (Nat × P128)) : ∀ P, (keptL P l).length = P.length := by
  induction l with
  | nil => intro P; rfl
  | cons y l ih => intro P; show (keptL (P.set y.1 y.2.1) l).length = _; rw [ih]; simp
theorem keptL_snoc (P : List (List UInt8)) (l : List (Nat × P128)) (y : Nat × P128) : keptL P (l ++ [y]) = (keptL P l).set y.1 y.2.1 := by simp [keptL]
def KPost (w : World) (P : List (List UInt8)) (e : Ending) (w' : World) : Prop := ∃ v, e = .returned v ∧ w'.ownsRow w.heap.size 9 1 v P.length (P.map strV) ∧ Below w.heap.size w w'
set_option maxRecDepth 100000 in
set_option maxHeartbeats 3000000 in
theorem kept_any {w : World} {pa : Option Addr} {n pc : Nat} {P : List (List UInt8)} (hp : Txs w pa n pc P) (hn : n ≤ 1000) {la : Option Addr} {m lc : Nat} {l : List (Nat × P128)} (hl : Ls w la m lc l) (hm : m ≤ 100000) (hb : ∀ y ∈ l, y.1 < n) :
    Calls Try.prog 40 #[.slice pa n pc, .slice la m lc] w (KPost w (keptL P l)) := by
  obtain ⟨i0, hi0, hz0, hz1, hz2⟩ := info_parts info_str2
  have hpl : P.length = n := hp.1
  have hll : l.length = m := hl.1
  obtain ⟨v1, w2, hr1, ho1, hg1, _⟩ := run_append_tab (P := Try.prog) (w := w) w.heap.size 31 9 i0 _ 1 16 Try.underlying31 hi0 hz0 hz1 hz2 rfl (by decide) (World.ownsRow_nil _ _ _ _) (fun cs y => cs = [strV y]) (fun y => [strV y]) (fun _ _ h => h) (fun _ => rfl) (by intro y u hu; simp at hu; subst hu; rfl) (TabR.mono hp (fun _ _ h => h)) (by unfold maxLen; omega) (by omega) (Nat.le_refl _)
  simp only [Nat.zero_add, List.nil_append] at ho1
  have hfm := fm_sing P
  rw [hfm] at ho1
  obtain ⟨a1, c1, rfl, hc1, hc2, hc3⟩ := own_slice ho1
  have hb2 : Below w.heap.size w w2 := (Below.refl _ _).grown hg1 (Nat.le_refl _) (fun k hk => by cases hk)
  have hge := own_ge ho1
  have HL := Lib.hid hl
  have HPL := Lib.hid hpl
  have HLL := Lib.hid hll
  have HB := Lib.hid hb
  have HC3 := Lib.hid hc3
  have HGE := Lib.hid hge
  have START := Lib.hid (show w2.ownsRow w.heap.size 9 1 (.slice a1 n c1) n ((keptL P (l.take 0)).map strV) ∧ Below w.heap.size w w2 from ⟨ho1, hb2⟩)
  unfold maxLen at hc2
  clear hfm ho1 hg1 hb2 hge hc3 hb hll hpl hl hp hi0 hz0 hz1 hz2
  go_enter Try.func40, Try.ntmps40
  go_wp2_with (at_builtin; refine wpList_append_run rfl _ _ _ _ rfl rfl rfl hr1 ?_)
  go_loopw [6] (fun s wr => ∃ k : Nat, k ≤ m ∧ s = .int .i64 k ∧ wr.ownsRow w.heap.size 9 1 (.slice a1 n c1) n ((keptL P (l.take k)).map strV) ∧ Below w.heap.size w wr) (fun s _ => m - (intOf s).toNat)
  case atStart => exact ⟨0, Nat.zero_le _, rfl, START.out.1, START.out.2⟩
  case round =>
    obtain ⟨k, hk, rfl, hox, hbx⟩ := hrel
    by_cases hlt : k < m
    · obtain ⟨b9, o9, y, rfl, hb9, hy, d0, d1⟩ := HL.out.at hlt
      have hyn := HB.out y (List.mem_of_getElem? hy)
      have hkl : k < l.length := by have := HLL.out; omega
      obtain ⟨g, rfl⟩ := HC3.out (by omega)
      have e0 := (hbx.cell (p := ⟨b9, o9 + k * 2, none⟩) hb9).trans d0
      have e1 := (hbx.cell (p := ⟨b9, o9 + k * 2 + 1, none⟩) hb9).trans d1
      have hf := hox.frozenAt y.1
      have hc := hox.cellAt y.1 (by omega)
      have hcl : y.1 < (keptL P (l.take k)).length := by rw [keptL_length, HPL.out]; exact hyn
      rw [List.getElem?_map, List.getElem?_eq_getElem hcl] at hc
      obtain ⟨v0, hc'⟩ : ∃ v, wr.cell? ⟨g, y.1, none⟩ = some v := ⟨_, hc⟩
      have hts : l.take (k + 1) = l.take k ++ [y] := by rw [List.take_succ_eq_append_getElem hkl, (List.getElem?_eq_some_iff.1 hy).2]
      have hst := (hox.stored y.1 (strV y.2.1)).1
      rw [← List.map_set, ← keptL_snoc, ← hts] at hst
      have hgg := HGE.out g rfl
      have q1 : decide ((y.1 : Int) < n) = true := by simp; omega
      have q2 : decide (y.1 < n) = true := by simpa using hyn
      have END := Lib.hid (show (wr.setCell ⟨g, y.1, none⟩ (.string (strOf y.2.1))).ownsRow w.heap.size 9 1 (.slice (some ⟨g, 0, none⟩) n c1) n ((keptL P (l.take (k + 1))).map strV) ∧ Below w.heap.size w (wr.setCell ⟨g, y.1, none⟩ (.string (strOf y.2.1))) from ⟨hst, hbx.setCell hgg _⟩)
      clear hst hts hc hcl hox hbx hgg d0 d1 hy hkl
      go_wp2_with fail
      go_region
      all_goals
        go_wp2_with fail
        go_roundw
        case rel => exact ⟨k + 1, hlt, by go_num, END.out.1, END.out.2.trans ⟨rfl, rfl, rfl, Nat.le_refl _, fun _ _ => rfl⟩⟩
        case measure => simp [intOf]; omega
    · obtain rfl : k = m := by omega
      rw [List.take_of_length_le (by rw [HLL.out]; exact Nat.le_refl _)] at hox
      have END := Lib.hid (show KPost w (keptL P l) (.returned (.slice a1 n c1)) wr from ⟨_, rfl, by rw [keptL_length, HPL.out]; exact hox, hbx⟩)
      clear hox hbx
      go_wp2_with fail
      go_ret
      exact END.out
end Go.Proofs.Ytopnfpobbemfbaa
