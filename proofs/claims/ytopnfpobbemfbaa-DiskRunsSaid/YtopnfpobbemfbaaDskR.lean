/- The walks of Stop; what no disk answers. -/
import Derived.Test.YtopnfpobbemfbaaDskQ
namespace Go.Proofs.Ytopnfpobbemfbaa
open Go.RowKit

set_option maxRecDepth 100000 in
set_option maxHeartbeats 1000000 in
theorem dlen_nil (r : Int) (w : World) : Calls Try.prog 28 #[.pointer none, .int .i64 r] w fun e w' => e = .returned (.int .i64 0) ∧ w = w' := by
  have O := of_nil r w
  go_enter Try.func28, Try.ntmps28
  go_wp2_with fail
  refine O.mono ?_
  rintro e w' ⟨rfl, rfl⟩
  go_wp2
  go_ret
  exact ⟨rfl, rfl⟩
set_option maxRecDepth 100000 in
set_option maxHeartbeats 1000000 in
theorem ddown_nil (r : Int) (w : World) : Calls Try.prog 25 #[.pointer none, .int .i64 r] w fun e w' => e = .returned (.bool false) ∧ w = w' := by
  have O := of_nil r w
  go_enter Try.func25, Try.ntmps25
  go_wp2_with fail
  refine O.mono ?_
  rintro e w' ⟨rfl, rfl⟩
  go_wp2
  go_ret
  exact ⟨rfl, rfl⟩
set_option maxRecDepth 100000 in
set_option maxHeartbeats 1000000 in
theorem dloose_nil (r : Int) (w : World) : Calls Try.prog 16 #[.pointer none, .int .i64 r] w fun e w' => e = .returned (.slice none 0 0) ∧ w = w' := by
  have O := of_nil r w
  go_enter Try.func16, Try.ntmps16
  go_wp2_with fail
  refine O.mono ?_
  rintro e w' ⟨rfl, rfl⟩
  go_wp2
  go_ret
  exact ⟨rfl, rfl⟩
set_option maxRecDepth 100000 in
set_option maxHeartbeats 1000000 in
theorem dstop_nil (r a : Int) (w : World) : Calls Try.prog 18 #[.pointer none, .int .i64 r, .int .i64 a] w fun e w' => e = .returned (.tuple #[]) ∧ w = w' := by
  have O := of_nil r w
  go_enter Try.func18, Try.ntmps18
  go_wp2_with fail
  refine O.mono ?_
  rintro e w' ⟨rfl, rfl⟩
  go_wp2
  (first | go_end0 | refine bodyPost_end (results_none rfl _ _ _) rfl ?_)
  exact ⟨rfl, rfl⟩
set_option maxRecDepth 100000 in
set_option maxHeartbeats 1000000 in
theorem up_nil (r : Int) (w : World) : Calls Try.prog 32 #[.pointer none, .int .i64 r] w fun e w' => e = .returned (.tuple #[.pointer none, .int .i64 1]) ∧ w = w' := by
  have O := of_nil r w
  go_enter Try.func32, Try.ntmps32
  go_wp2_with fail
  refine O.mono ?_
  rintro e w' ⟨rfl, rfl⟩
  go_wp2
  go_ret2
  exact ⟨rfl, rfl⟩
set_option maxRecDepth 100000 in
set_option maxHeartbeats 1000000 in
theorem paged_nil (r p : Int) (w : World) : Calls Try.prog 30 #[.pointer none, .int .i64 r, .int .i64 p] w fun e w' => e = .returned (.tuple #[.pointer none, .int .i64 1]) ∧ w = w' := by
  have O := up_nil r w
  go_enter Try.func30, Try.ntmps30
  go_wp2_with fail
  refine O.mono ?_
  rintro e w' ⟨rfl, rfl⟩
  go_wp2
  go_ret2
  exact ⟨rfl, rfl⟩
set_option maxRecDepth 100000 in
set_option maxHeartbeats 1000000 in
theorem write_nil (r p : Int) (v : Value) (w : World) : Calls Try.prog 10 #[.pointer none, .int .i64 r, .int .i64 p, v] w fun e w' => e = .returned (.int .i64 1) ∧ w = w' := by
  have O := paged_nil r p w
  go_enter Try.func10, Try.ntmps10
  go_wp2_with fail
  refine O.mono ?_
  rintro e w' ⟨rfl, rfl⟩
  go_wp2
  go_ret
  exact ⟨rfl, rfl⟩
set_option maxRecDepth 100000 in
set_option maxHeartbeats 1000000 in
theorem dsync_nil (r : Int) (w : World) : Calls Try.prog 12 #[.pointer none, .int .i64 r] w fun e w' => e = .returned (.int .i64 1) ∧ w = w' := by
  have O := up_nil r w
  go_enter Try.func12, Try.ntmps12
  go_wp2_with fail
  refine O.mono ?_
  rintro e w' ⟨rfl, rfl⟩
  go_wp2
  go_ret
  exact ⟨rfl, rfl⟩
set_option maxRecDepth 100000 in
set_option maxHeartbeats 1000000 in
theorem dread_nil (r p : Int) (w : World) : Calls Try.prog 14 #[.pointer none, .int .i64 r, .int .i64 p] w fun e w' => e = .returned (.tuple #[.slice none 0 0, .int .i64 1]) ∧ w = w' := by
  have O := paged_nil r p w
  go_enter Try.func14, Try.ntmps14
  go_wp2_with fail
  refine O.mono ?_
  rintro e w' ⟨rfl, rfl⟩
  go_wp2
  go_ret2
  exact ⟨rfl, rfl⟩

def StopPost (w : World) (F : List Nat) (db M : Nat) (d : List Rg) (e : Ending) (w' : World) : Prop :=
  e = .returned (.tuple #[]) ∧ Only F w w' ∧ ∃ F' bs', DskIn w' F' db M bs' d ∧ ∀ k ∈ F', k ∈ F ∨ w.heap.size ≤ k
set_option maxRecDepth 100000 in
set_option maxHeartbeats 1000000 in
theorem dstop_any {w : World} {F : List Nat} {db M : Nat} {bs : List (Nat × List Nat)} {d : List Rg} (h : DskIn w F db M bs d) (r a : Int) (ha : a ≤ 9223372036854775807) :
    Calls Try.prog 18 #[.pointer (some ⟨db, 0, none⟩), .int .i64 r, .int .i64 a] w (StopPost w F db M (stopD d r a)) := by
  by_cases hr : 0 ≤ r ∧ r < d.length
  · obtain ⟨i, rfl⟩ := Int.eq_ofNat_of_zero_le hr.1
    have hi : i < d.length := by omega
    obtain ⟨q, hq⟩ : ∃ q, bs[i]? = some q := ⟨_, List.getElem?_eq_getElem (by rw [h.len]; exact hi)⟩
    obtain ⟨x, hx⟩ : ∃ x, d[i]? = some x := ⟨_, List.getElem?_eq_getElem hi⟩
    have hs : stopD d (i : Int) a = d.set i { x with left := max a (-1) } := by rw [stopD, if_pos hr, atR_of hx, Int.toNat_natCast]
    have R := h.reg i q x hq hx
    obtain ⟨mb, a', cap, c0, c1, c2, c3, c4, hf⟩ := R.cells
    have f3 := hf 3
    have O := of_in h i q hq
    have END : StopPost w F db M (stopD d (i : Int) a) (.returned (.tuple #[])) (w.setCell ⟨q.1, 3, none⟩ (.int .i64 (max a (-1)))) := by
      obtain ⟨g1, g2⟩ := R.setLeft (max a (-1)) (by omega)
      refine ⟨rfl, g2.mono (fun k hk => h.sub q (List.mem_of_getElem? hq) k hk), ?_⟩
      rw [hs]
      refine ⟨_, _, h.turn hq g2 g1 (fun k hk => .inl hk) (Nat.le_refl M), fun k hk => ?_⟩
      rcases List.mem_append.1 hk with hk | hk
      · exact .inl hk
      · exact .inl (h.sub q (List.mem_of_getElem? hq) k hk)
    have END := Lib.hid END
    clear hs hq hx h hr R hf
    go_enter Try.func18, Try.ntmps18
    go_wp2_with fail
    refine O.mono ?_
    rintro e w' ⟨rfl, rfl⟩
    go_wp2
    all_goals (first | go_end0 | refine bodyPost_end (results_none rfl _ _ _) rfl ?_)
    all_goals first
      | exact END.out
      | (have e : max a (-1) = -1 := by omega
         rw [e] at END
         exact END.out)
      | (have e : max a (-1) = a := by omega
         rw [e] at END
         exact END.out)
  · have O := of_out h r hr
    have END := Lib.hid (show StopPost w F db M (stopD d r a) (.returned (.tuple #[])) w from ⟨rfl, Only.refl _ _, F, bs, by rw [stopD, if_neg hr]; exact h, fun k hk => .inl hk⟩)
    clear h hr
    go_enter Try.func18, Try.ntmps18
    go_wp2_with fail
    refine O.mono ?_
    rintro e w' ⟨rfl, rfl⟩
    go_wp2
    (first | go_end0 | refine bodyPost_end (results_none rfl _ _ _) rfl ?_)
    exact END.out
end Go.Proofs.Ytopnfpobbemfbaa
