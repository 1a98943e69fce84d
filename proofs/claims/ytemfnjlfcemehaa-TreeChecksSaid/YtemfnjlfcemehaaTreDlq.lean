/- slices.Delete of one element, slices.Index of a text (printed by gen_treDl.py). -/
import Derived.Test.YtemfnjlfcemehaaM3
import Derived.Test.YtemfnjlfcemehaaTreCqq
import Derived.Test.YtemfnjlfcemehaaM2
import Derived.Test.YtemfnjlfcemehaaM1
import Derived.Test.YtemfnjlfcemehaaM6
import Derived.Deep.DeepAppendRoom
import Derived.Lib.SliceRun
import Derived.Deep.DeepCutAuto
import Derived.Deep.RegionHeld3
namespace Go.Proofs.Ytemfnjlfcemehaa
open Go.RowKit

theorem slice_lhm {P : Program} {T : TypeId} (hT : P.underlying T = some (.slice (P.elem T))) {z : Nat} (hz : ∀ w, (sizeOf (P.elem T)).run P w = .ok z w) (a : Option Addr) (len cap l r m : Nat) (h1 : l ≤ r) (h3 : r ≤ m) (h4 : m ≤ cap) :
    ∃ a2, a2 = (if m = l then a else a.map (·.add (l * z))) ∧ ∀ (k k2 k3 : IntKind) w, (Instr.slice T (.slice a len cap) (some (.int k l)) (some (.int k2 r)) (some (.int k3 m))).run P w = .ok (.slice a2 (r - l) (m - l)) w := by
  refine ⟨_, rfl, fun k k2 k3 w => ?_⟩
  rw [run_slice_lhm w T a len cap hT k k2 k3 l r m (by omega) (by omega) (by omega) (by omega), hz]
  rfl
theorem slice_lh {P : Program} {T : TypeId} (hT : P.underlying T = some (.slice (P.elem T))) {z : Nat} (hz : ∀ w, (sizeOf (P.elem T)).run P w = .ok z w) (a : Option Addr) (len cap l r : Nat) (h1 : l ≤ r) (h4 : r ≤ cap) :
    ∃ a2, a2 = (if cap = l then a else a.map (·.add (l * z))) ∧ ∀ (k k2 : IntKind) w, (Instr.slice T (.slice a len cap) (some (.int k l)) (some (.int k2 r)) none).run P w = .ok (.slice a2 (r - l) (cap - l)) w := by
  refine ⟨_, rfl, fun k k2 w => ?_⟩
  rw [run_slice_lh w T a len cap hT k k2 l r (by omega) (by omega) (by omega), hz]
  rfl
section
variable {w : World} {B : Nat} {e : TypeId} {sz g n c : Nat} {xs : List Value}
theorem own_front (h : w.ownsRow B e sz (.slice (some ⟨g, 0, none⟩) n c) n xs) {k : Nat} (hk : k ≤ n) : w.ownsRow B e sz (.slice (some ⟨g, 0, none⟩) k c) k (xs.take (k * sz)) := by
  have hl := h.1
  have hkn : k * sz ≤ n * sz := Nat.mul_le_mul_right _ hk
  refine ⟨by rw [List.length_take]; omega, ?_⟩
  rcases h.2 with ⟨h0, _⟩ | ⟨g', cap, cur, hv, hb, hg, hn, hm, hc, ht⟩
  · cases h0
  · cases hv
    refine .inr ⟨g, c, cur, rfl, hb, hg, by omega, hm, hc, ?_⟩
    rw [← ht, List.take_take, Nat.min_eq_left hkn]
theorem own_beyond (h : w.ownsRow B e sz (.slice (some ⟨g, 0, none⟩) n c) n xs) {j : Nat} (hj : n * sz ≤ j) (u : Value) : (w.setCell ⟨g, j, none⟩ u).ownsRow B e sz (.slice (some ⟨g, 0, none⟩) n c) n xs := by
  refine ⟨h.1, ?_⟩
  rcases h.2 with ⟨h0, _⟩ | ⟨g', cap, cur, hv, hb, hg, hn, hm, hc, ht⟩
  · cases h0
  · cases hv
    refine .inr ⟨g, c, cur.setIfInBounds j u, rfl, hb, heap_setCell_at j u hg, hn, hm, by simpa using hc, ?_⟩
    rw [Array.toList_setIfInBounds, List.take_set_of_le hj, ht]
theorem own_room (h : w.ownsRow B e sz (.slice (some ⟨g, 0, none⟩) n c) n xs) {j : Nat} (hj : j < c * sz) : (w.cell? ⟨g, j, none⟩).isSome = true := by
  rcases h.2 with ⟨h0, _⟩ | ⟨g', cap, cur, hv, hb, hg, hn, hm, hc, ht⟩
  · cases h0
  · cases hv
    simp only [World.cell?, hg]
    rw [Array.getElem?_eq_getElem (by omega)]; rfl
end
theorem flatC_len {sz : Nat} (L : List (Cl sz)) : (flatC L).length = L.length * sz := flat_len (fun y : Cl sz => y.1) sz (fun y => y.2.1) L
theorem take_flat {sz : Nat} (L : List (Cl sz)) (k : Nat) : (flatC L).take (k * sz) = flatC (L.take k) := by
  by_cases hk : k ≤ L.length
  · have h : flatC L = flatC (L.take k) ++ flatC (L.drop k) := by rw [← flatC_append, List.take_append_drop]
    have hl : (flatC (L.take k)).length = k * sz := by rw [flatC_len, List.length_take, Nat.min_eq_left hk]
    rw [h, ← hl, List.take_left]
  · rw [List.take_of_length_le (by rw [flatC_len]; exact Nat.mul_le_mul_right _ (by omega)), List.take_of_length_le (by omega)]
/-- The cells of a row's end. -/
theorem own_end {w : World} {B : Nat} {e : TypeId} {sz g n c : Nat} {L : List (Cl sz)} (h : w.ownsRow B e sz (.slice (some ⟨g, 0, none⟩) n c) n (flatC L)) (hn : L.length = n) (k : Nat) : ∀ j u, (flatC (L.drop k))[j]? = some u → w.cell? ((⟨g, k * sz, none⟩ : Addr).add j) = some u := by
  intro j u hj
  have hkl : k ≤ L.length := by
    by_cases hk : k ≤ L.length
    · exact hk
    · rw [List.drop_of_length_le (by omega)] at hj; simp [flatC] at hj
  have h1 : flatC L = flatC (L.take k) ++ flatC (L.drop k) := by rw [← flatC_append, List.take_append_drop]
  have hl : (flatC (L.take k)).length = k * sz := by rw [flatC_len, List.length_take, Nat.min_eq_left hkl]
  have h2 : (flatC L)[k * sz + j]? = some u := by
    rw [h1, List.getElem?_append_right (by omega), hl, Nat.add_sub_cancel_left]; exact hj
  have hlt := (List.getElem?_eq_some_iff.1 h2).1
  rw [flatC_len, hn] at hlt
  rw [add_none]
  have := h.cellAt (k * sz + j) hlt
  rw [this]; exact h2

theorem zero_ds (w : World) : (zeroValue 9).run Try.prog w = .ok (.string ⟨#[]⟩) w := by kernel_rfl
theorem elem_ds : Try.prog.underlying 29 = some (.slice (Try.prog.elem 29)) := by kernel_rfl
theorem size_ds (w : World) : (sizeOf (Try.prog.elem 29)).run Try.prog w = .ok 1 w := by kernel_rfl
theorem clear_ds {w : World} {B g m c : Nat} {xs : List Value} (h : w.ownsRow B 9 1 (.slice (some ⟨g, 0, none⟩) m c) m xs) (hc : m + 1 ≤ c) (cc : Nat) (ty : TypeId) :
    (Builtin.clear_ #[29] ty #[.slice (some ⟨g, m * 1, none⟩) 1 cc]).run Try.prog w = .ok (.tuple #[]) (w.setCells g (m * 1) [.string ⟨#[]⟩]) := by
  have hst := run_storeCells_cells (P := Try.prog) g (m * 1) [.string ⟨#[]⟩] 0 w (fun j hj => own_room h (by simp at hj; omega)) (fun j hj => h.frozenAt _) (by intro v hv; simp at hv; rcases hv with rfl | rfl <;> rfl)
  simp only [Nat.add_zero] at hst
  have hz : (Builtin.zeroCells (.string ⟨#[]⟩ : Value).cells 1).toList = [.string ⟨#[]⟩] := by simp [Builtin.zeroCells, Value.cells, List.range_succ]
  simp only [Builtin.clear_]
  simp [run_underlying Try.underlying29, hz, Nat.mul_one] at hst ⊢
  simp [hst]
set_option maxRecDepth 100000 in
set_option maxHeartbeats 2000000 in
theorem delete_s {w : World} {B g n c : Nat} {L : List (Cl 1)} (h : w.ownsRow B 9 1 (.slice (some ⟨g, 0, none⟩) n c) n (flatC L)) (hn : L.length = n) (k : Nat) (hk : k < n) (h9 : n ≤ 10000) (hB : B ≤ w.heap.size) :
    Calls Try.prog 80 #[.slice (some ⟨g, 0, none⟩) n c, .int .i64 (k : Int), .int .i64 ((k : Int) + 1)] w fun e w' => e = .returned (.slice (some ⟨g, 0, none⟩) (n - 1) c) ∧ w'.ownsRow B 9 1 (.slice (some ⟨g, 0, none⟩) (n - 1) c) (n - 1) (flatC (L.take k ++ L.drop (k + 1))) ∧ Below B w w' ∧ AgreeF (fun b => b ≠ g) w w' := by
  obtain ⟨m, rfl⟩ : ∃ m, n = m + 1 := ⟨n - 1, by omega⟩
  obtain ⟨i0, z0, hi0, _, hs0, _, _⟩ := info_s
  have hnc : m + 1 ≤ c ∧ c ≤ 9223372036854775807 := by
    rcases h.2 with ⟨h0, _⟩ | ⟨g', cap, cur, hv, hb, hg, hn, hm, hc, ht⟩
    · cases h0
    · cases hv; unfold maxLen at hm; omega
  obtain ⟨a1, _, hS1⟩ := slice_lhm elem_ds size_ds (some ⟨g, 0, none⟩) (m + 1) c k (k + 1) (m + 1) (by omega) (by omega) hnc.1
  obtain ⟨a2, ha2, hS2⟩ := slice_from elem_ds size_ds (some ⟨g, 0, none⟩) (m + 1) c (k + 1) (by omega)
  obtain ⟨ad, had⟩ : ∃ ad, a2 = some ad := by
    rw [ha2]; split
    · exact ⟨_, rfl⟩
    · exact ⟨_, rfl⟩
  have hnews : ∀ j u, (flatC (L.drop (k + 1)))[j]? = some u → w.cell? (ad.add j) = some u := by
    intro j u hj
    by_cases hc : c = k + 1
    · rw [List.drop_of_length_le (by omega)] at hj; simp [flatC] at hj
    · rw [if_neg hc] at ha2
      rw [had] at ha2
      simp only [Option.map_some, Option.some.injEq] at ha2
      subst ha2
      have := own_end h hn (k + 1) j u hj
      rw [add_none, add_none] at *
      simpa using this
  have hfr := own_front h (k := k) (by omega)
  rw [take_flat] at hfr
  obtain ⟨w8, hr8, ho8, hg8⟩ := run_append_own_spare (P := Try.prog) w.drew B 29 29 9 i0 1 Try.underlying29 hi0 hs0 g k c _ hfr ad (m - k) (c - (k + 1)) (flatC (L.drop (k + 1))) (by rw [flatC_len, List.length_drop, hn]; congr 1; omega) hnews (fun u hu => by
    obtain ⟨y, _, hy⟩ := List.mem_flatMap.1 hu
    exact y.2.2 u hy) (by omega)
  have hgB := own_ge h g rfl
  rw [show k + (m - k) = m by omega] at hr8 ho8
  rw [← flatC_append] at ho8
  subst had
  clear ha2 hnews hfr
  rw [show m + 1 - (k + 1) = m - k by omega] at hS2
  obtain ⟨a4, ha4, hS4⟩ := slice_lh elem_ds size_ds (some ⟨g, 0, none⟩) m c m (m + 1) (by omega) hnc.1
  rw [if_neg (by omega)] at ha4
  simp only [Option.map_some, add_none, Nat.zero_add] at ha4
  subst ha4
  rw [show m + 1 - m = 1 by omega] at hS4
  have hclr := fun ty => clear_ds ho8 hnc.1 (c - m) ty
  have hend : (w8.setCells g (m * 1) [.string ⟨#[]⟩]).ownsRow B 9 1 (.slice (some ⟨g, 0, none⟩) m c) m (flatC (L.take k ++ L.drop (k + 1))) := own_beyond ho8 (Nat.le_refl _) _
  have hbe : Below B w (w8.setCells g (m * 1) [.string ⟨#[]⟩]) := (((Below.refl B w).drew.grown hg8 hB (fun k e => by cases e; exact hgB)).setCell hgB _)
  simp only [Nat.mul_one] at hend hbe
  have HEND := Lib.hid hend
  have HBE := Lib.hid hbe
  have hag : AgreeF (fun b => b ≠ g) w (w8.setCells g (m * 1) [.string ⟨#[]⟩]) := by
    have h8 : AgreeF (fun b => b ≠ g) w w8 := ⟨hg8.size, fun b hb hlt => hg8.block b hlt (fun e => hb (Option.some.inj e))⟩
    exact h8.set (.inl fun h => h rfl)
  simp only [Nat.mul_one] at hag
  have HAG := Lib.hid hag
  clear hag
  have hd1 : (((k : Int)) == (k : Int) + 1) = false := by rw [beq_eq_false_iff_ne]; omega
  have hS1' : ∀ W, (Instr.slice 29 (.slice (some ⟨g, 0, none⟩) (m + 1) c) (some (.int .i64 (k : Int))) (some (.int .i64 ((k : Int) + 1))) (some (.int .i64 ((m : Int) + 1)))).run Try.prog W = .ok (.slice a1 (k + 1 - k) (m + 1 - k)) W := fun W => hS1 .i64 .i64 .i64 W
  have hS2' : ∀ W, (Instr.slice 29 (.slice (some ⟨g, 0, none⟩) (m + 1) c) (some (.int .i64 ((k : Int) + 1))) none none).run Try.prog W = .ok (.slice (some ad) (m - k) (c - (k + 1))) W := fun W => hS2 .i64 W
  have hS4' : ∀ W, (Instr.slice 29 (.slice (some ⟨g, 0, none⟩) m c) (some (.int .i64 (m : Int))) (some (.int .i64 ((m : Int) + 1))) none).run Try.prog W = .ok (.slice (some ⟨g, m * 1, none⟩) 1 (c - m)) W := fun W => hS4 .i64 .i64 W
  have hS0 : ∀ W, (Instr.slice 29 (.slice (some ⟨g, 0, none⟩) (m + 1) c) none (some (.int .i64 (k : Int))) none).run Try.prog W = .ok (.slice (some ⟨g, 0, none⟩) k c) W := fun W => by
    rw [run_slice_h W 29 (some ⟨g, 0, none⟩) (m + 1) c elem_ds .i64 k (by omega) (by omega), size_ds]; simp [Result.andThen, sliced, add_none]
  simp only [Nat.mul_one] at hclr hS4'
  have hA0 : (0 : Nat) ≤ w.drew.heap.size := Nat.zero_le _
  clear h hn hS1 hS2 hS4 ho8 hg8 hend hbe
  go_enter Try.func80, Try.ntmps80
  go_upto_region 5 with (fail)
  go_region_held3 (fun W => (0 : Nat) ≤ W.heap.size) (exact Nat.zero_le _) (refine step_append_run rfl _ _ _ _ rfl rfl rfl hr8 ?_)
  go_wp2_with fail
  go_ret
  exact ⟨rfl, HEND.out, HBE.out, HAG.out⟩

theorem zero_dv (w : World) : (zeroValue 100).run Try.prog w = .ok (.agg #[.string ⟨#[]⟩, .slice none 0 0]) w := by kernel_rfl
theorem elem_dv : Try.prog.underlying 30 = some (.slice (Try.prog.elem 30)) := by kernel_rfl
theorem size_dv (w : World) : (sizeOf (Try.prog.elem 30)).run Try.prog w = .ok 2 w := by kernel_rfl
theorem clear_dv {w : World} {B g m c : Nat} {xs : List Value} (h : w.ownsRow B 100 2 (.slice (some ⟨g, 0, none⟩) m c) m xs) (hc : m + 1 ≤ c) (cc : Nat) (ty : TypeId) :
    (Builtin.clear_ #[30] ty #[.slice (some ⟨g, m * 2, none⟩) 1 cc]).run Try.prog w = .ok (.tuple #[]) (w.setCells g (m * 2) [.string ⟨#[]⟩, .slice none 0 0]) := by
  have hst := run_storeCells_cells (P := Try.prog) g (m * 2) [.string ⟨#[]⟩, .slice none 0 0] 0 w (fun j hj => own_room h (by simp at hj; omega)) (fun j hj => h.frozenAt _) (by intro v hv; simp at hv; rcases hv with rfl | rfl <;> rfl)
  simp only [Nat.add_zero] at hst
  have hz : (Builtin.zeroCells (.agg #[.string ⟨#[]⟩, .slice none 0 0] : Value).cells 1).toList = [.string ⟨#[]⟩, .slice none 0 0] := by simp [Builtin.zeroCells, Value.cells, List.range_succ]
  simp only [Builtin.clear_]
  simp [run_underlying Try.underlying30, hz] at hst ⊢
  simp [hst]
set_option maxRecDepth 100000 in
set_option maxHeartbeats 2000000 in
theorem delete_v {w : World} {B g n c : Nat} {L : List (Cl 2)} (h : w.ownsRow B 100 2 (.slice (some ⟨g, 0, none⟩) n c) n (flatC L)) (hn : L.length = n) (k : Nat) (hk : k < n) (h9 : n ≤ 10000) (hB : B ≤ w.heap.size) :
    Calls Try.prog 81 #[.slice (some ⟨g, 0, none⟩) n c, .int .i64 (k : Int), .int .i64 ((k : Int) + 1)] w fun e w' => e = .returned (.slice (some ⟨g, 0, none⟩) (n - 1) c) ∧ w'.ownsRow B 100 2 (.slice (some ⟨g, 0, none⟩) (n - 1) c) (n - 1) (flatC (L.take k ++ L.drop (k + 1))) ∧ Below B w w' ∧ AgreeF (fun b => b ≠ g) w w' := by
  obtain ⟨m, rfl⟩ : ∃ m, n = m + 1 := ⟨n - 1, by omega⟩
  obtain ⟨i0, z0, hi0, _, hs0, _, _⟩ := info_v
  have hnc : m + 1 ≤ c ∧ c ≤ 9223372036854775807 := by
    rcases h.2 with ⟨h0, _⟩ | ⟨g', cap, cur, hv, hb, hg, hn, hm, hc, ht⟩
    · cases h0
    · cases hv; unfold maxLen at hm; omega
  obtain ⟨a1, _, hS1⟩ := slice_lhm elem_dv size_dv (some ⟨g, 0, none⟩) (m + 1) c k (k + 1) (m + 1) (by omega) (by omega) hnc.1
  obtain ⟨a2, ha2, hS2⟩ := slice_from elem_dv size_dv (some ⟨g, 0, none⟩) (m + 1) c (k + 1) (by omega)
  obtain ⟨ad, had⟩ : ∃ ad, a2 = some ad := by
    rw [ha2]; split
    · exact ⟨_, rfl⟩
    · exact ⟨_, rfl⟩
  have hnews : ∀ j u, (flatC (L.drop (k + 1)))[j]? = some u → w.cell? (ad.add j) = some u := by
    intro j u hj
    by_cases hc : c = k + 1
    · rw [List.drop_of_length_le (by omega)] at hj; simp [flatC] at hj
    · rw [if_neg hc] at ha2
      rw [had] at ha2
      simp only [Option.map_some, Option.some.injEq] at ha2
      subst ha2
      have := own_end h hn (k + 1) j u hj
      rw [add_none, add_none] at *
      simpa using this
  have hfr := own_front h (k := k) (by omega)
  rw [take_flat] at hfr
  obtain ⟨w8, hr8, ho8, hg8⟩ := run_append_own_spare (P := Try.prog) w.drew B 30 30 100 i0 2 Try.underlying30 hi0 hs0 g k c _ hfr ad (m - k) (c - (k + 1)) (flatC (L.drop (k + 1))) (by rw [flatC_len, List.length_drop, hn]; congr 1; omega) hnews (fun u hu => by
    obtain ⟨y, _, hy⟩ := List.mem_flatMap.1 hu
    exact y.2.2 u hy) (by omega)
  have hgB := own_ge h g rfl
  rw [show k + (m - k) = m by omega] at hr8 ho8
  rw [← flatC_append] at ho8
  subst had
  clear ha2 hnews hfr
  rw [show m + 1 - (k + 1) = m - k by omega] at hS2
  obtain ⟨a4, ha4, hS4⟩ := slice_lh elem_dv size_dv (some ⟨g, 0, none⟩) m c m (m + 1) (by omega) hnc.1
  rw [if_neg (by omega)] at ha4
  simp only [Option.map_some, add_none, Nat.zero_add] at ha4
  subst ha4
  rw [show m + 1 - m = 1 by omega] at hS4
  have hclr := fun ty => clear_dv ho8 hnc.1 (c - m) ty
  have hend : (w8.setCells g (m * 2) [.string ⟨#[]⟩, .slice none 0 0]).ownsRow B 100 2 (.slice (some ⟨g, 0, none⟩) m c) m (flatC (L.take k ++ L.drop (k + 1))) := own_beyond (own_beyond ho8 (Nat.le_refl _) _) (by omega) _
  have hbe : Below B w (w8.setCells g (m * 2) [.string ⟨#[]⟩, .slice none 0 0]) := (((Below.refl B w).drew.grown hg8 hB (fun k e => by cases e; exact hgB)).setCell hgB _).setCell hgB _
  skip
  have HEND := Lib.hid hend
  have HBE := Lib.hid hbe
  have hag : AgreeF (fun b => b ≠ g) w (w8.setCells g (m * 2) [.string ⟨#[]⟩, .slice none 0 0]) := by
    have h8 : AgreeF (fun b => b ≠ g) w w8 := ⟨hg8.size, fun b hb hlt => hg8.block b hlt (fun e => hb (Option.some.inj e))⟩
    exact (h8.set (.inl fun h => h rfl)).set (.inl fun h => h rfl)
  skip
  have HAG := Lib.hid hag
  clear hag
  have hd1 : (((k : Int)) == (k : Int) + 1) = false := by rw [beq_eq_false_iff_ne]; omega
  have hS1' : ∀ W, (Instr.slice 30 (.slice (some ⟨g, 0, none⟩) (m + 1) c) (some (.int .i64 (k : Int))) (some (.int .i64 ((k : Int) + 1))) (some (.int .i64 ((m : Int) + 1)))).run Try.prog W = .ok (.slice a1 (k + 1 - k) (m + 1 - k)) W := fun W => hS1 .i64 .i64 .i64 W
  have hS2' : ∀ W, (Instr.slice 30 (.slice (some ⟨g, 0, none⟩) (m + 1) c) (some (.int .i64 ((k : Int) + 1))) none none).run Try.prog W = .ok (.slice (some ad) (m - k) (c - (k + 1))) W := fun W => hS2 .i64 W
  have hS4' : ∀ W, (Instr.slice 30 (.slice (some ⟨g, 0, none⟩) m c) (some (.int .i64 (m : Int))) (some (.int .i64 ((m : Int) + 1))) none).run Try.prog W = .ok (.slice (some ⟨g, m * 2, none⟩) 1 (c - m)) W := fun W => hS4 .i64 .i64 W
  have hS0 : ∀ W, (Instr.slice 30 (.slice (some ⟨g, 0, none⟩) (m + 1) c) none (some (.int .i64 (k : Int))) none).run Try.prog W = .ok (.slice (some ⟨g, 0, none⟩) k c) W := fun W => by
    rw [run_slice_h W 30 (some ⟨g, 0, none⟩) (m + 1) c elem_dv .i64 k (by omega) (by omega), size_dv]; simp [Result.andThen, sliced, add_none]
  skip
  have hA0 : (0 : Nat) ≤ w.drew.heap.size := Nat.zero_le _
  clear h hn hS1 hS2 hS4 ho8 hg8 hend hbe
  go_enter Try.func81, Try.ntmps81
  go_upto_region 5 with (fail)
  go_region_held3 (fun W => (0 : Nat) ≤ W.heap.size) (exact Nat.zero_le _) (refine step_append_run rfl _ _ _ _ rfl rfl rfl hr8 ?_)
  go_wp2_with fail
  go_ret
  exact ⟨rfl, HEND.out, HBE.out, HAG.out⟩
end Go.Proofs.Ytemfnjlfcemehaa
