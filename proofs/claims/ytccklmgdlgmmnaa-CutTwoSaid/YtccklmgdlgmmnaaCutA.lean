/- Where sizes are parted: the walk. -/
import Derived.Test.YtccklmgdlgmmnaaCutP
import Derived.Deep.RegionHeld
namespace Go.Proofs.Ytccklmgdlgmmnaa
open Go.RowKit Go.Shelf
attribute [local go_sem] Oper.semAt_some

theorem parts_stops (n : Nat) (hn : 1 ≤ n) (Bs n₀ : Nat) (a : Option Addr) (len cap : Nat) (l : List Int) (hs : Small l) (w : World) (hBs : Bs < w.heap.size) (hn₀ : n₀ ≤ w.heap.size)
    (hc : w.cell? ⟨Bs, 0, none⟩ = some (.slice a len cap)) (hr : Row .i64 w a len cap l) (hB : ∀ b off, len ≠ 0 → a = some ⟨b, off, none⟩ → b < n₀) :
    SeqStopsK Fence.wide n Try.prog 19 #[.pointer (some ⟨Bs, 0, none⟩)] (fun x : Int × Int => #[Value.int .i64 x.1, Value.int .i64 x.2]) (Below n₀)
      (fun ys => ys = upto (place l) (l.length - 1)) (fun _ => True) l.length w := fun l' J Jx W hW _ _ hY h0 => by
  have hc' := (hW.cell (p := ⟨Bs, 0, none⟩) hBs).trans hc
  have hr' : Row .i64 W a len cap l := hr.below (Nat.le_refl _) hW
  exact parts1_in n hn l' Bs n₀ a len cap l hs J Jx (fun pre x W1 h1 h2 => hY pre x W1 h1 h2) W hc' hr' hB h0

set_option maxRecDepth 100000 in
set_option maxHeartbeats 1000000 in
theorem at_any (a : Option Addr) (len cap : Nat) (l : List Int) (w : World) (hr : Row .i64 w a len cap l) (hs : Small l) :
    Calls Try.prog 11 #[.slice a len cap] w fun e w' => e = .returned (.int .i64 (atF l)) ∧ Below w.heap.size w w' := by
  refine (callsIn_wide (n := 8)).1 ?_
  have hbd := hs.bd
  by_cases hle : sumI l ≤ 122
  · have hat : Hid (atF l = 0) := Lib.hid (by simp [atF, hle])
    refine callsIn_of_wp Try.func11 rfl trivial ?_ rfl
    simp only [Try.ntmps11, List.size_toArray, List.length_cons, List.length_nil, Nat.reduceAdd, Nat.reduceSub, Array.replicate_succ, Array.replicate_zero, List.push_toArray, List.append_toArray, List.nil_append, List.cons_append]
    gi_wp2_with (refine ⟨trivial, ?_⟩; gi_at_call 9; refine (callsIn_wide.2 (sum_any _ _ _ _ _ hr hs)).mono ?_; rintro e w' ⟨rfl, rfl⟩)
    go_ret
    exact ⟨ret_int hat.out.symm, ((Below.refl _ w).alloc (Nat.le_refl _) _).alloc (by simp) _⟩
  · have hat : Hid (atF l = (foldBest l (upto (place l) (l.length - 1))).2) := Lib.hid (by simp only [atF, if_neg hle]; rfl)
    have hlen := Lib.hid hr.1
    have hlc := hr.2.1
    refine callsIn_of_wp_marks Try.func11 rfl trivial ?_ rfl
    simp only [Try.ntmps11, List.size_toArray, List.length_cons, List.length_nil, Nat.reduceAdd, Nat.reduceSub, Array.replicate_succ, Array.replicate_zero, List.push_toArray, List.append_toArray, List.nil_append, List.cons_append]
    gi_wp2_with (first | (refine ⟨trivial, ?_⟩; gi_at_call 9; refine (callsIn_wide.2 (sum_any _ _ _ _ _ hr hs)).mono ?_; rintro e w' ⟨rfl, rfl⟩) | (refine ⟨trivial, ?_⟩; gi_at_call 17; refine (callsIn_wide.2 (parts_any _ _ _ _)).mono ?_; rintro e w' ⟨rfl, rfl⟩))
    have b0 := Boxed.new w 3 (.int .i64 (sumI l + 1))
    have b1 := Boxed.new (w.alloc (.cells #[.int .i64 (sumI l + 1)] 3)) 3 (.int .i64 0)
    have b2 := Boxed.new ((w.alloc (.cells #[.int .i64 (sumI l + 1)] 3)).alloc (.cells #[.int .i64 0] 3)) 22 (.slice a len cap)
    rw [World.size_alloc] at b1 b2
    rw [World.size_alloc] at b2
    have hB0 : Below w.heap.size w (((w.alloc (.cells #[.int .i64 (sumI l + 1)] 3)).alloc (.cells #[.int .i64 0] 3)).alloc (.cells #[.slice a len cap] 22)) := (((Below.refl _ w).alloc (Nat.le_refl _) _).alloc (by simp) _).alloc (by simp; omega) _
    refine wpIn_rangeFunc_ownG rfl (by omega) (gf := 19) (lb := #[.pointer (some ⟨w.heap.size + 1 + 1, 0, none⟩)]) rfl trivial (enters_of Try.func19 (by kernel_rfl) rfl)
      (parts_stops 7 (by omega) (w.heap.size + 1 + 1) w.heap.size a len cap l hs _ (by simp) (by simp; omega) b2.cell (hr.below (Nat.le_refl _) hB0) (fun b off h0 e => by
        rcases hr.2.2.2.2 with h | ⟨b', off', h, h6, _⟩
        · omega
        · rw [h] at e; cases e; exact h6)) belowK_t (belowK_b (by simp; omega)) (Below.refl _ _) (fun _ => rfl)
      (fun pre W => (W.cell? ⟨w.heap.size, 0, none⟩ = some (.int .i64 (foldBest l pre).1) ∧ W.frozen? ⟨w.heap.size, 0, none⟩ = false ∧ W.cell? ⟨w.heap.size + 1, 0, none⟩ = some (.int .i64 (foldBest l pre).2) ∧ W.frozen? ⟨w.heap.size + 1, 0, none⟩ = false) ∧ Below w.heap.size w W)
      (fun _ _ _ => False)
      (OwnFrom.and (Own.from (fun s A B row hs hg hr => ⟨cell_kept hs.1 hg hr, (frozen_kept hs.1 hg hr).trans hs.2.1, cell_kept hs.2.2.1 hg hr, (frozen_kept hs.2.2.1 hg hr).trans hs.2.2.2⟩) _) (ownFrom_below (Nat.le_refl _) (by simp; omega)))
      (fun _ _ _ _ _ hs _ _ => hs)
      ⟨⟨((b0.alloc _).alloc _).cell, ((b0.alloc _).alloc _).frozen, (b1.alloc _).cell, (b1.alloc _).frozen⟩, hB0⟩
      (fun x => { tmps := #[.slice a len cap, undef, .int .i64 0, .pointer (some ⟨w.heap.size, 0, none⟩), .pointer (some ⟨w.heap.size + 1, 0, none⟩), .int .i64 x.1, .int .i64 x.2, .slice a len cap, .int .i64 (sumI l), .int .i64 (sumI l + 1), .int .i64 (sumI l + 1), .bool (decide (sumI l + 1 ≤ 123)), .slice a len cap, .func (.func 19) #[] #[.pointer (some ⟨w.heap.size + 1 + 1, 0, none⟩)], .int .i64 x.1, .int .i64 x.2, undef, undef, undef, undef, undef, undef], defers := [] }) ?assign ?body ?done ?stop
    case assign =>
      intro l x W K hK
      gi_wp2
      exact hK
    case body =>
      rintro l' pre x W ⟨⟨hc0, hf0, hc1, hf1⟩, hB⟩ _
      have hsn := Lib.hid (foldBest_snoc l pre x)
      have hbt : better (foldBest l pre) x = if x.2 < (foldBest l pre).1 then (x.2, x.1) else foldBest l pre := rfl
      generalize hP : foldBest l pre = p at *
      have hbt' := Lib.hid hbt
      clear hbt hP
      by_cases hlt : x.2 < p.1
      · gi_wp2
        refine ⟨((KeepsOthers.setCell _ _ _).trans (KeepsOthers.setCell _ _ _)).from _, ((Below.refl w.heap.size W).setCell (p := ⟨w.heap.size, 0, none⟩) (Nat.le_refl _) _).setCell (p := ⟨w.heap.size + 1, 0, none⟩) (by simp) _, ?_, (hB.setCell (p := ⟨w.heap.size, 0, none⟩) (Nat.le_refl _) _).setCell (p := ⟨w.heap.size + 1, 0, none⟩) (by simp) _⟩
        rw [hsn.out, hbt'.out, if_pos hlt]
        refine ⟨?_, by simpa using hf0, ?_, by simpa using hf1⟩
        · rw [World.cell?_setCell_far _ _ _ _ (by simp)]
          exact World.cell?_setCell_same' _ _ _ (by rw [hc0]; rfl)
        · exact World.cell?_setCell_same' _ _ _ (by rw [World.cell?_setCell_far _ _ _ _ (by simp), hc1]; rfl)
      · gi_wp2
        refine ⟨KeepsFrom.refl _ _, Below.refl _ _, ?_, hB⟩
        rw [hsn.out, hbt'.out, if_neg (by omega)]
        exact ⟨hc0, hf0, hc1, hf1⟩
    case done =>
      rintro D ys W hD rfl ⟨⟨_, _, hc1, hf1⟩, hB⟩ hK
      gi_wp2
      refine ⟨by simp, .inl ⟨_, _, rfl, run_takeDeferred hK, ?_⟩⟩
      refine ⟨.int .i64 (foldBest l (upto (place l) (l.length - 1))).2, ?_, by rw [hat.out], hB.trans (belowK_b (w := w) (Nat.le_refl _) W D _ _ (by simp at hD; omega) hK rfl rfl)⟩
      exact (results_tmp rfl _ _ _).trans rfl
    case stop =>
      rintro D c pre W _ _ h _
      exact h.elim
end Go.Proofs.Ytccklmgdlgmmnaa
