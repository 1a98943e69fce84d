/- The walks of the chapter on nodes: what is behind a key. -/
import Derived.Test.YtjdepdgoaopfoaaDoorNodM
import Derived.Test.YtjdepdgoaopfoaaDoorApp
namespace Go.Proofs.YtjdepdgoaopfoaaDoor
open Go.RowKit

set_option maxRecDepth 100000 in
set_option maxHeartbeats 2000000 in
theorem putB_any (v : Vv) (w : World) :
    Calls Tryd.prog 114 #[.agg #[], vv v] w (OwnBytes 5 w (encV false v)) := by
  have hB := below_two' w (.cells #[] 142) (.cells #[.string (strOf v.data), .bool v.far, .int .i64 v.size, .int .i64 v.page] 74)
  have T := fun W => two_any v.page W
  show Calls _ _ _ _ (OwnBytes 5 w (two v.page))
  unfold vv
  go_enter Tryd.func114, Tryd.ntmps114
  go_wp2_with fail
  refine (T _).mono ?_
  rintro e w' ⟨v', rfl, hown, hb⟩
  have hown := own_base hown hB.size
  have hb := below_then hB hb
  go_wp2
  go_ret
  exact ⟨v', rfl, hown, hb⟩

set_option maxRecDepth 100000 in
set_option maxHeartbeats 2000000 in
theorem putL_near (d : List UInt8) (s p : Int) (w : World) (hd : d.length ≤ 140737488351232) :
    Calls Tryd.prog 105 #[.agg #[], vv ⟨d, false, s, p⟩] w (OwnBytes 5 w ([0] ++ d)) := by
  obtain ⟨i0, hi, hz0, hz1, hz2⟩ := info_parts info_u8
  have hB := below_three w (.cells #[] 125) (.cells #[.string (strOf d), .bool false, .int .i64 s, .int .i64 p] 74) (.cells #[.int .u8 0] 5)
  obtain ⟨v', w', hr, ho, hg⟩ := run_append_text (P := Tryd.prog) w.heap.size 26 9 5 i0 Tryd.underlying26 Tryd.underlying9 hi hz0 hz1 hz2 (own_made .u8 ((w.alloc (.cells #[] 125)).alloc (.cells #[.string (strOf d), .bool false, .int .i64 s, .int .i64 p] 74)) 5 [0] (b := w.heap.size + 1 + 1) (by simp) (by omega) (by unfold maxLen; simp)) d (by simp; omega) (by simp; omega)
  have hb : Below w.heap.size w w' := hB.grown hg (by simp; omega) (fun k hk => by cases hk; show w.heap.size ≤ w.heap.size + 1 + 1; omega)
  have HO := Lib.hid ho
  have HB := Lib.hid hb
  have hr : (Builtin.append_ #[26, 9] 26 #[.slice (some ⟨w.heap.size + 1 + 1, 0, none⟩) 1 1, .string (strOf d)]).run Tryd.prog (((w.alloc (.cells #[] 125)).alloc (.cells #[.string (strOf d), .bool false, .int .i64 s, .int .i64 p] 74)).alloc (.cells #[.int .u8 0] 5)) = .ok v' w' := hr
  clear ho hb hg hB hz0 hz1 hz2 hi
  unfold vv
  go_enter Tryd.func105, Tryd.ntmps105
  go_wp2_with (at_builtin; refine wpList_append_run rfl _ _ _ _ rfl rfl rfl hr ?_)
  go_ret
  exact ⟨v', rfl, by have := HO.out; simpa [toI, Nat.add_comm] using this, HB.out⟩

theorem own_drew {w : World} {base : Nat} {e : TypeId} {size : Nat} {v : Value} {n : Nat} {xs : List Value} (h : w.ownsRow base e size v n xs) : w.drew.ownsRow base e size v n xs := h
theorem own_bytes {w : World} {base : Nat} (h : base ≤ w.heap.size) (x : UInt8) : (w.alloc (.cells #[.int .u8 (x.toNat : Int)] 5)).ownsRow base 5 1 (.slice (some ⟨w.heap.size, 0, none⟩) 1 1) 1 ((toI [x]).map (Value.int .u8)) :=
  World.ownsRow_lit w #[.int .u8 (x.toNat : Int)] 1 h (by unfold maxLen; omega) rfl
/-- Bytes appended to bytes of the call's own. -/
theorem append_bytes {w : World} {base : Nat} {v : Value} {n : Nat} {p : List UInt8} (hown : w.ownsRow base 5 1 v n ((toI p).map (Value.int .u8))) {a : Option Addr} {m c : Nat} {l : List UInt8} (h : Bs w a m c l) (hn : n + m ≤ 140737488355328) (hbase : base ≤ w.heap.size) :
    ∃ v' w', (Builtin.append_ #[26, 26] 26 #[v, .slice a m c]).run Tryd.prog w = .ok v' w' ∧ AppOut w base 5 1 v (n + m) ((toI (p ++ l)).map (Value.int .u8)) w.heap.size v' w' := by
  obtain ⟨i0, hi, hz0, hz1, hz2⟩ := info_parts info_u8
  obtain ⟨v', w', h1, h2⟩ := run_append_row (P := Tryd.prog) base 26 5 i0 _ 1 Tryd.underlying26 hi hz0 hz1 hz2 rfl hown h (by unfold maxLen; omega) (by omega) hbase
  exact ⟨v', w', h1, by rw [← toI_append, List.map_append]; exact h2⟩
set_option maxRecDepth 100000 in
set_option maxHeartbeats 4000000 in
theorem putL_far (d : List UInt8) (s p : Int) (w : World) :
    Calls Tryd.prog 105 #[.agg #[], vv ⟨d, true, s, p⟩] w (OwnBytes 5 w ([1] ++ two s ++ two p)) := by
  have hB := below_two' w (.cells #[] 125) (.cells #[.string (strOf d), .bool true, .int .i64 s, .int .i64 p] 74)
  have BX := ((Boxes.nil w).alloc #[] 125 rfl).alloc #[.string (strOf d), .bool true, .int .i64 s, .int .i64 p] 74 (by simp : _ = w.heap.size + 1)
  have T1 := fun W => two_any s W
  have T2 := fun W => two_any p W
  have l1 := two_length s
  have l2 := two_length p
  unfold vv
  generalize two s = ts at *
  generalize two p = tp at *
  have L1 := Lib.hid l1
  have L2 := Lib.hid l2
  clear l1 l2
  go_enter Tryd.func105, Tryd.ntmps105
  go_wp2_with fail
  generalize (w.alloc _).alloc _ = W2 at *
  have c2 : ∀ W, Below W2.heap.size W2 W → W.cell? ⟨w.heap.size + 1, 2, none⟩ = some (.int .i64 s) := fun W hW => (BX.step hW).cell 0 2 rfl rfl
  have c3 : ∀ W, Below W2.heap.size W2 W → W.cell? ⟨w.heap.size + 1, 3, none⟩ = some (.int .i64 p) := fun W hW => (BX.step hW).cell 0 3 rfl rfl
  have hC : Below W2.heap.size W2 W2.drew := (Below.refl _ _).drew
  have hCA : ∀ o, Below W2.heap.size W2 (W2.alloc o).drew := fun o => ((Below.refl _ _).alloc (Nat.le_refl _) o).drew
  go_region_held3 (fun W => Below W2.heap.size W2 W) (first | with_reducible assumption | (with_reducible exact hCA _) | (with_reducible exact hC3.alloc hC3.size _)) (first | (go_at_call 109; (with_reducible refine (T1 _).mono ?_); rintro e w3 ⟨v3, rfl, ho3, hb3⟩; rw [L1.out] at ho3; obtain ⟨a3, k3, rfl, hs3⟩ := Bs.of_own ho3; (first | (have hC3 := hC.trans (hb3.mono hC.size); have hx3 : Below W2.heap.size W2 (w3.alloc (.cells #[.int .u8 1] 5)) := hC3.alloc hC3.size _; obtain ⟨v4, w4, hr4, ho4, hg4, ha4⟩ := append_bytes (own_bytes (base := W2.heap.size) hC3.size 1) (hs3.below (Nat.le_refl _) (below_one w3 (.cells #[.int .u8 1] 5))) (by omega) hx3.size; have hC4 : Below W2.heap.size W2 w4 := hx3.grown hg4 hx3.size (fun k hk => by cases hk; exact hC3.size)) | (have hC3 := (hCA (.cells #[.int .u8 1] 5)).trans (hb3.mono (by simp)); obtain ⟨v4, w4, hr4, ho4, hg4, ha4⟩ := append_bytes (own_below (own_drew (own_bytes (base := W2.heap.size) (Nat.le_refl _) 1)) (Nat.le_refl _) hb3) hs3 (by omega) hC3.size; have hC4 : Below W2.heap.size W2 w4 := hC3.grown hg4 hC3.size (fun k hk => by cases hk; exact Nat.le_refl _)))) | (refine step_append_run rfl _ _ _ _ rfl rfl rfl hr4 ?_) | (go_at_call 109; (with_reducible refine (T2 _).mono ?_); rintro e w5 ⟨v5, rfl, ho5, hb5⟩; rw [L2.out] at ho5; obtain ⟨a5, k5, rfl, hs5⟩ := Bs.of_own ho5; have hC5 := hC4.trans (hb5.mono hC4.size); obtain ⟨v6, w6, hr6, ho6, hg6, ha6⟩ := append_bytes (own_below ho4 (Nat.le_refl _) hb5) hs5 (by omega) hC5.size; have hC6 : Below W2.heap.size W2 w6 := hC5.grown hg6 hC5.size (own_ge ho4)) | (refine step_append_run rfl _ _ _ _ rfl rfl rfl hr6 ?_))
  all_goals
    have hb := hB.trans (hC6.mono hB.size)
    go_wp2_with fail
    go_ret
    refine ⟨_, rfl, ?_, hb⟩
    have := own_base ho6 hB.size
    have e : (1 :: (ts ++ tp) : List UInt8).length = 1 + 2 + 2 := by simp [L1.out, L2.out]
    rw [e]
    exact this
theorem put_any (leaf : Bool) (v : Vv) (w : World) (hd : v.data.length ≤ 140737488351232) :
    Calls Tryd.prog (if leaf then 105 else 114) #[.agg #[], vv v] w (OwnBytes 5 w (encV leaf v)) := by
  cases leaf
  · exact putB_any v w
  · obtain ⟨d, f, s, p⟩ := v
    cases f
    · exact putL_near d s p w hd
    · exact putL_far d s p w
end Go.Proofs.YtjdepdgoaopfoaaDoor
