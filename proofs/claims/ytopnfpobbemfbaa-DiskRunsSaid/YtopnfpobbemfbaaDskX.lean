/- The walks of Sync and of what a crash asks of a text's bits. -/
import Derived.Test.YtopnfpobbemfbaaDskV
import Derived.Test.YtopnfpobbemfbaaTxs
namespace Go.Proofs.Ytopnfpobbemfbaa
open Go.RowKit

theorem call_sync1 (args : Array Value) (W : World) : (callFunc 34 args).run Try.prog W = .ok (.enter 34 args) W := by kernel_rfl
theorem call_crash1 (args : Array Value) (W : World) : (callFunc 35 args).run Try.prog W = .ok (.enter 35 args) W := by kernel_rfl
theorem sync1_any (i : Int) (W : World) : Calls Try.prog 34 #[.int .i64 i] W fun e w' => e = .returned (.bool true) ∧ W = w' := by
  go_enter Try.func34, Try.ntmps34
  go_wp2
  go_ret
  exact ⟨rfl, rfl⟩
/-- A disk turned. -/
def TurnPost (w : World) (F : List Nat) (db M : Nat) (d : List Rg) (er : Int) (e : Ending) (w' : World) : Prop :=
  e = .returned (.int .i64 er) ∧ Only F w w' ∧ ∃ F' bs', DskIn w' F' db M bs' d ∧ ∀ k ∈ F', k ∈ F ∨ w.heap.size ≤ k
set_option maxRecDepth 100000 in
set_option maxHeartbeats 2000000 in
theorem dsync_any {w : World} {F : List Nat} {db M : Nat} {bs : List (Nat × List Nat)} {d : List Rg} (h : DskIn w F db M bs d) (hM : M ≤ 1000000) (r : Int) :
    Calls Try.prog 12 #[.pointer (some ⟨db, 0, none⟩), .int .i64 r] w (TurnPost w F db M (syncD d r) (syncE d r)) := by
  have U := up_any h r
  by_cases hu : upE d r = 0
  · have hr : 0 ≤ r ∧ r < d.length := by
      unfold upE at hu; split at hu
      · assumption
      · simp at hu
    obtain ⟨i, rfl⟩ := Int.eq_ofNat_of_zero_le hr.1
    have hi : i < d.length := by omega
    obtain ⟨q, hq⟩ : ∃ q, bs[i]? = some q := ⟨_, List.getElem?_eq_getElem (by rw [h.len]; exact hi)⟩
    obtain ⟨x, hx⟩ : ∃ x, d[i]? = some x := ⟨_, List.getElem?_eq_getElem hi⟩
    have hE : syncE d (i : Int) = cntE x := by rw [syncE, if_pos hu, atR_of hx]
    have hD : syncD d (i : Int) = d.set i (syncR x) := by rw [syncD, if_pos hu, atR_of hx, Int.toNat_natCast]
    rw [hu] at U
    have U : Calls Try.prog 32 #[.pointer (some ⟨db, 0, none⟩), .int .i64 (i : Int)] w fun e w' => e = .returned (.tuple #[.pointer (some ⟨q.1, 0, none⟩), .int .i64 0]) ∧ w = w' := U.mono fun e w' ⟨h1, h2⟩ => by
      refine ⟨?_, h2⟩
      rcases h1 with ⟨_, q', hq', he⟩ | ⟨h0, _⟩
      · rw [Int.toNat_natCast, hq] at hq'; cases hq'; exact he
      · exact absurd rfl h0
    have C := count_any (h.reg i q x hq hx)
    have TURN : ∀ w1 er y, er = cntE x → y = syncR x → Only q.2 w w1 → RegIn w1 q.2 q.1 M y → TurnPost w F db M (syncD d i) (syncE d i) (.returned (.int .i64 er)) w1 := by
      rintro w1 er y rfl rfl o1 r1
      refine ⟨by rw [hE], o1.mono (fun k hk => h.sub q (List.mem_of_getElem? hq) k hk), ?_⟩
      rw [hD]
      refine ⟨_, _, h.turn hq o1 r1 (fun k hk => .inl hk) (Nat.le_refl M), fun k hk => ?_⟩
      rcases List.mem_append.1 hk with hk | hk
      · exact .inl hk
      · exact .inl (h.sub q (List.mem_of_getElem? hq) k hk)
    rcases cntE_or x with hc | hc
    · have C : Calls Try.prog 31 #[.pointer (some ⟨q.1, 0, none⟩)] w fun e w1 => e = .returned (.int .i64 0) ∧ CountPost w q.2 q.1 M x (.returned (.int .i64 0)) w1 := C.mono fun e w1 ⟨h1, h2, h3⟩ => ⟨by rw [h1, hc], by rw [hc], h2, h3⟩
      have hs : syncR x = settled (cntR x) (fun _ => true) := by rw [syncR, if_pos hc]
      have T2 : ∀ w1, CountPost w q.2 q.1 M x (.returned (.int .i64 0)) w1 → Calls Try.prog 33 #[.pointer (some ⟨q.1, 0, none⟩), .func (.func 34) #[] #[]] w1 (fun e w2 => e = .returned (.tuple #[]) ∧ TurnPost w F db M (syncD d i) (syncE d i) (.returned (.int .i64 0)) w2) := by
        rintro w1 ⟨_, o1, r1⟩
        refine (settle_any r1 hM _ #[] (fun _ => true) call_sync1 (fun k W _ _ => sync1_any k W)).mono ?_
        rintro e w2 ⟨rfl, o2, r2⟩
        exact ⟨rfl, TURN w2 0 _ hc.symm hs.symm (o1.trans o2) r2⟩
      clear h hu hx hq hE hD hc hi hr hs TURN
      go_enter Try.func12, Try.ntmps12
      go_wp2_with fail
      refine U.mono ?_
      rintro e w0 ⟨rfl, rfl⟩
      go_wp2_with fail
      refine C.mono ?_
      rintro e w1 ⟨rfl, hC⟩
      have T3 := T2 w1 hC
      clear T2 hC C U
      go_wp2_with fail
      refine T3.mono ?_
      rintro e w2 ⟨rfl, hT⟩
      have END := Lib.hid hT
      clear hT T3
      go_wp2_with fail
      go_ret
      exact END.out
    · have C : Calls Try.prog 31 #[.pointer (some ⟨q.1, 0, none⟩)] w fun e w1 => e = .returned (.int .i64 3) ∧ CountPost w q.2 q.1 M x (.returned (.int .i64 3)) w1 := C.mono fun e w1 ⟨h1, h2, h3⟩ => ⟨by rw [h1, hc], by rw [hc], h2, h3⟩
      have hs : syncR x = cntR x := by rw [syncR, if_neg (by rw [hc]; decide)]
      have T2 : ∀ w1, CountPost w q.2 q.1 M x (.returned (.int .i64 3)) w1 → TurnPost w F db M (syncD d i) (syncE d i) (.returned (.int .i64 3)) w1 := by
        rintro w1 ⟨_, o1, r1⟩
        exact TURN w1 3 _ hc.symm hs.symm o1 r1
      clear h hu hx hq hE hD hc hi hr hs TURN
      go_enter Try.func12, Try.ntmps12
      go_wp2_with fail
      refine U.mono ?_
      rintro e w0 ⟨rfl, rfl⟩
      go_wp2_with fail
      refine C.mono ?_
      rintro e w1 ⟨rfl, hC⟩
      have END := Lib.hid (T2 w1 hC)
      clear T2 hC C U
      go_wp2_with fail
      go_ret
      exact END.out
  · have hE : syncE d r = upE d r := by rw [syncE, if_neg hu]
    have hD : syncD d r = d := by rw [syncD, if_neg hu]
    have END := Lib.hid (show TurnPost w F db M (syncD d r) (syncE d r) (.returned (.int .i64 (upE d r))) w from ⟨by rw [hE], Only.refl _ _, F, bs, by rw [hD]; exact h, fun k hk => .inl hk⟩)
    have q0 : (upE d r == 0) = false := by simpa using hu
    clear hE hD
    generalize upE d r = er at *
    have U : Calls Try.prog 32 #[.pointer (some ⟨db, 0, none⟩), .int .i64 r] w fun e w' => e = .returned (.tuple #[.pointer none, .int .i64 er]) ∧ w = w' := U.mono fun e w' ⟨h1, h2⟩ => by
      refine ⟨?_, h2⟩
      rcases h1 with ⟨h0, _⟩ | ⟨_, he⟩
      · exact absurd h0 hu
      · exact he
    clear hu h
    go_enter Try.func12, Try.ntmps12
    go_wp2_with fail
    refine U.mono ?_
    rintro e w0 ⟨rfl, rfl⟩
    go_wp2_with fail
    go_ret
    exact END.out
end Go.Proofs.Ytopnfpobbemfbaa
