/- The laws of the chapter on metas: two versions on end, every meta; a meta counts in its slot alone, and for its label alone. -/
import Derived.Test.YtjdepdgoaopfoaaDoorMetL3
import Derived.Test.YtjdepdgoaopfoaaDoorMetM
namespace Go.Proofs.YtjdepdgoaopfoaaDoor
open Go.RowKit

set_option maxRecDepth 100000 in
set_option maxHeartbeats 2000000 in
theorem lFalls_not (m : Mt) (at_ : Nat) (w : World) (ho : metaOk m = false) (hh : Half w) :
    Calls Tryd.prog 5 #[mv m, .int .u8 (at_ : Int)] w fun e w' => e = .returned (.bool true) ∧ Below w.heap.size w w' := by
  have hB := below_box w (.cells (mcells m) 24)
  have BX := (Boxes.nil w).alloc (mcells m) 24 rfl
  have haw := mawake_any _ (hh.below (Nat.le_refl _) hB)
  have K1 : ∀ W, Calls Tryd.prog 17 #[mv m] W fun e w' => e = .returned (.bool false) ∧ Below W.heap.size W w' := fun W => by have := mcheck_any m W; rwa [ho] at this
  unfold mv mcells at *
  clear ho hh
  go_enter Tryd.func5, Tryd.ntmps5
  go_wp2_with fail
  refine haw.mono ?_
  rintro e w1 ⟨rfl, hb1⟩
  have BX := BX.step hb1
  have hb := below_then hB hb1
  have g0 := BX.cell 0 0 rfl rfl
  have g1 := BX.cell 0 1 rfl rfl
  have g2 := BX.cell 0 2 rfl rfl
  have g3 := BX.cell 0 3 rfl rfl
  have g4 := BX.cell 0 4 rfl rfl
  go_wp2_with fail
  refine (K1 _).mono ?_
  rintro e w2 ⟨rfl, hb2⟩
  have hb := below_then hb hb2
  go_wp2_with fail
  go_ret
  exact ⟨rfl, hb⟩
set_option maxRecDepth 100000 in
set_option maxHeartbeats 2000000 in
theorem lFalls_great (m : Mt) (at_ : Nat) (w : World) (ho : metaOk m = true) (ht : 4611686018427387904 < m.txn) (hm : m.txn < 18446744073709551616) (hh : Half w) :
    Calls Tryd.prog 5 #[mv m, .int .u8 (at_ : Int)] w fun e w' => e = .returned (.bool true) ∧ Below w.heap.size w w' := by
  have hB := below_box w (.cells (mcells m) 24)
  have BX := (Boxes.nil w).alloc (mcells m) 24 rfl
  have haw := mawake_any _ (hh.below (Nat.le_refl _) hB)
  have K1 : ∀ W, Calls Tryd.prog 17 #[mv m] W fun e w' => e = .returned (.bool true) ∧ Below W.heap.size W w' := fun W => by have := mcheck_any m W; rwa [ho] at this
  have ht8 : (4611686018427387904 : Int) < ((m.txn : Nat) : Int) := by omega
  unfold mv mcells at *
  clear ho hh ht hm
  go_enter Tryd.func5, Tryd.ntmps5
  go_wp2_with fail
  refine haw.mono ?_
  rintro e w1 ⟨rfl, hb1⟩
  have BX := BX.step hb1
  have hb := below_then hB hb1
  have g0 := BX.cell 0 0 rfl rfl
  have g1 := BX.cell 0 1 rfl rfl
  have g2 := BX.cell 0 2 rfl rfl
  have g3 := BX.cell 0 3 rfl rfl
  have g4 := BX.cell 0 4 rfl rfl
  go_wp2_with fail
  clear g0 g1 g2 g3 g4
  refine (K1 _).mono ?_
  rintro e w2 ⟨rfl, hb2⟩
  have BX := BX.step hb2
  have hb := below_then hb hb2
  have g1 := BX.cell 0 1 rfl rfl
  go_wp2_with fail
  go_ret
  exact ⟨rfl, hb⟩
theorem lFalls (m : Mt) (at_ : Nat) (w : World) (hm : MtIn m) (hat : at_ < 256) (hh : Half w) :
    Calls Tryd.prog 5 #[mv m, .int .u8 (at_ : Int)] w fun e w' => e = .returned (.bool true) ∧ Below w.heap.size w w' := by
  cases ho : metaOk m with
  | false => exact lFalls_not m at_ w ho hh
  | true =>
    by_cases ht : m.txn ≤ 4611686018427387904
    · rcases Nat.mod_two_eq_zero_or_one m.txn with he | he
      · exact lFalls_even m at_ w hat ho ht he hh
      · exact lFalls_odd m at_ w hat ho ht he hh
    · exact lFalls_great m at_ w ho (by omega) hm hh

set_option maxRecDepth 100000 in
set_option maxHeartbeats 2000000 in
theorem lOthers_not (m : Mt) (lab : Nat) (txn : Nat) (w : World) (ho : metaOk m = false) (hh : Half w) :
    Calls Tryd.prog 6 #[mv m, .int .u8 (lab : Int), .int .u64 (txn : Int)] w fun e w' => e = .returned (.bool true) ∧ Below w.heap.size w w' := by
  have hB := below_box w (.cells (mcells m) 24)
  have BX := (Boxes.nil w).alloc (mcells m) 24 rfl
  have haw := mawake_any _ (hh.below (Nat.le_refl _) hB)
  have K1 : ∀ W, Calls Tryd.prog 17 #[mv m] W fun e w' => e = .returned (.bool false) ∧ Below W.heap.size W w' := fun W => by have := mcheck_any m W; rwa [ho] at this
  unfold mv mcells at *
  clear ho hh
  go_enter Tryd.func6, Tryd.ntmps6
  go_wp2_with fail
  refine haw.mono ?_
  rintro e w1 ⟨rfl, hb1⟩
  have BX := BX.step hb1
  have hb := below_then hB hb1
  have g0 := BX.cell 0 0 rfl rfl
  have g1 := BX.cell 0 1 rfl rfl
  have g2 := BX.cell 0 2 rfl rfl
  have g3 := BX.cell 0 3 rfl rfl
  have g4 := BX.cell 0 4 rfl rfl
  go_wp2_with fail
  refine (K1 _).mono ?_
  rintro e w2 ⟨rfl, hb2⟩
  have hb := below_then hb hb2
  go_wp2_with fail
  go_ret
  exact ⟨rfl, hb⟩

set_option maxRecDepth 100000 in
set_option maxHeartbeats 8000000 in
theorem lOthers_even (m : Mt) (lab : Nat) (txn : Nat) (w : World) (hlab : lab < 256) (hx : txn < 18446744073709551616) (hm : MtIn m) (ho : metaOk m = true) (he : m.txn % 2 = 0) (hh : Half w) :
    Calls Tryd.prog 6 #[mv m, .int .u8 (lab : Int), .int .u64 (txn : Int)] w fun e w' => e = .returned (.bool true) ∧ Below w.heap.size w w' := by
  obtain ⟨o, hoo, ho64⟩ : ∃ o, o = lab % 64 ∧ o < 64 := ⟨_, rfl, by omega⟩
  have hrem : (lab : Int) % 64 = (o : Int) := by omega
  have hB := below_box w (.cells (mcells m) 24)
  have BX := (Boxes.nil w).alloc (mcells m) 24 rfl
  have haw := mawake_any _ (hh.below (Nat.le_refl _) hB)
  have K1 : ∀ W, Calls Tryd.prog 17 #[mv m] W fun e w' => e = .returned (.bool true) ∧ Below W.heap.size W w' := fun W => by have := mcheck_any m W; rwa [ho] at this
  have S1 : ∀ W, Calls Tryd.prog 19 #[.int .u64 (m.txn : Int)] W fun e w' => e = .returned (.int .i64 0) ∧ W = w' := fun W => by have := slot_any m.txn W hm; rwa [he] at this
  have hmx : max txn 1 < 18446744073709551616 := by omega
  have P1 : ∀ W, Below w.heap.size w W → Calls Tryd.prog 14 #[mv m] W (PackAny W (putV m) 0) := fun W hW => by have := mput_any m W (hh.below (Nat.le_refl _) hW) hm; rwa [(putV_ok ho).2] at this
  have P2 : ∀ W, Below w.heap.size w W → Calls Tryd.prog 14 #[mv (otherM o txn)] W (PackAny W (putV (otherM o txn)) 0) := fun W hW => by have := mput_any (otherM o txn) W (hh.below (Nat.le_refl _) hW) hmx; rwa [(putV_ok (otherM_ok o ho64 txn)).2] at this
  have n1 : ∀ a1 c1 a2 c2 k1 k2 p q W, Bs W a1 k1 c1 p → Bs W a2 k2 c2 q → Below w.heap.size w W → Calls Tryd.prog 23 #[.slice a1 k1 c1, .slice a2 k2 c2, .int .i64 m.label] W (NewPost W (newM p q m.label) (newB p q m.label)) := fun a1 c1 a2 c2 k1 k2 p q W h1 h2 hW => newest_any a1 a2 k1 k2 c1 c2 p q m.label W h1 h2 (hh.below (Nat.le_refl _) hW)
  obtain ⟨t1, t2, t3⟩ := others_even m ho hm o ho64 txn hx he
  have hmxc : ∃ mx : Nat, mx = max txn 1 := ⟨_, rfl⟩
  obtain ⟨mx, hmx2⟩ := hmxc
  rw [show mv (otherM o txn) = .agg #[.int .i64 (o : Int), .int .u64 (mx : Int), .int .i64 0, .int .i64 0, .int .i64 2] from by rw [hmx2]; rfl] at P2
  have hmax := fun W => run_max_one txn mx hmx2 W
  generalize putV m = p1 at *
  generalize putV (otherM o txn) = p2 at *
  have E1 := @msame
  have na := fun a1 c1 a2 c2 k1 k2 W => n1 a1 c1 a2 c2 k1 k2 p1 p2 W
  have nx := fun a1 c1 a2 c2 k1 k2 W => n1 a1 c1 a2 c2 k1 k2 p2 p1 W
  clear n1
  generalize newM p1 p2 m.label = r1 at *
  generalize newM p2 p1 m.label = r2 at *
  generalize newB p2 p1 m.label = nb at *
  have T1 := Lib.hid t1
  have T2 := Lib.hid t2
  have T3 := Lib.hid t3
  have HE := Lib.hid E1
  clear t1 t2 t3 hmx2 hmx ho he hoo E1
  have hol : (0 : Int) ≤ (o : Int) ∧ (o : Int) < 64 := by omega
  unfold mv mcells at *
  go_enter Tryd.func6, Tryd.ntmps6
  go_wp2_with fail
  refine haw.mono ?_
  rintro e w1 ⟨rfl, hb1⟩
  have BX := BX.step hb1
  have hb := below_then hB hb1
  clear hb1 hB
  have g0 := BX.cell 0 0 rfl rfl
  have g1 := BX.cell 0 1 rfl rfl
  have g2 := BX.cell 0 2 rfl rfl
  have g3 := BX.cell 0 3 rfl rfl
  have g4 := BX.cell 0 4 rfl rfl
  go_wp2_with fail
  clear g0 g1 g2 g3 g4
  refine (K1 _).mono ?_
  rintro e w2 ⟨rfl, hb2⟩
  have BX := BX.step hb2
  have hb := below_then hb hb2
  have g0 := BX.cell 0 0 rfl rfl
  have g1 := BX.cell 0 1 rfl rfl
  have g2 := BX.cell 0 2 rfl rfl
  have g3 := BX.cell 0 3 rfl rfl
  have g4 := BX.cell 0 4 rfl rfl
  clear hb2
  go_wp2_with fail
  clear g0 g1 g2 g3 g4
  refine (P1 _ hb).mono ?_
  rintro e w3 ⟨v3, rfl, hown3, hb3⟩
  obtain ⟨a1, c1, rfl, hbs1⟩ := Bs.of_own hown3
  have BX := BX.step hb3
  have hb := below_then hb hb3
  clear hown3 hb3
  go_wp2_with fail
  refine (P2 _ hb).mono ?_
  rintro e w4 ⟨v4, rfl, hown4, hb4⟩
  obtain ⟨a2, c2, rfl, hbs2⟩ := Bs.of_own hown4
  have BX := BX.step hb4
  have hb := below_then hb hb4
  have hbs1 := hbs1.below (Nat.le_refl _) hb4
  clear hown4 hb4
  have g1 := BX.cell 0 1 rfl rfl
  have g0 := BX.cell 0 0 rfl rfl
  go_wp2_with fail
  refine (S1 _).mono ?_
  rintro e w5 ⟨rfl, rfl⟩
  go_wp2_with fail
  refine (na a1 _ a2 _ _ _ _ hbs1 hbs2 hb).mono ?_
  rintro e w6 ⟨rfl, hb6⟩
  rw [T1.out]
  unfold mv mcells
  have hx6 := below_then hb6 (below_box w6 (.cells #[.int .i64 r1.label, .int .u64 r1.txn, .int .i64 r1.root, .int .i64 r1.list, .int .i64 r1.high] 24))
  have B6 := BX.step hb6
  have BX := (BX.step hb6).alloc #[.int .i64 r1.label, .int .u64 r1.txn, .int .i64 r1.root, .int .i64 r1.list, .int .i64 r1.high] 24 rfl
  have hbs1 := hbs1.below (Nat.le_refl _) hx6
  have hbs2 := hbs2.below (Nat.le_refl _) hx6
  have hb := below_then hb hx6
  clear g0 g1 hx6 hb6
  have g0 := B6.cell 0 0 rfl rfl
  have g1 := B6.lt 0 rfl
  go_wp2_with fail
  clear g0 g1 B6
  generalize w6.alloc _ = W6 at *
  generalize w6.heap.size = b6 at *
  refine (nx a2 _ a1 _ _ _ _ hbs2 hbs1 hb).mono ?_
  rintro e w7 ⟨rfl, hb7⟩
  unfold mv mcells
  have hx7 := below_then hb7 (below_box w7 (.cells #[.int .i64 r2.label, .int .u64 r2.txn, .int .i64 r2.root, .int .i64 r2.list, .int .i64 r2.high] 24))
  have B7 := BX.step hb7
  have B7l := B7.lt 0 rfl
  have B7m := B7.lt 1 rfl
  have BX := (BX.step hb7).alloc #[.int .i64 r2.label, .int .u64 r2.txn, .int .i64 r2.root, .int .i64 r2.list, .int .i64 r2.high] 24 rfl
  have hb := below_then hb hx7
  clear hx7 hb7 hbs1 hbs2
  have g0 := B7.cell 1 0 rfl rfl
  have g1 := B7.cell 1 1 rfl rfl
  have g2 := B7.cell 1 2 rfl rfl
  have g3 := B7.cell 1 3 rfl rfl
  have g4 := B7.cell 1 4 rfl rfl
  have f0 := B7.cell 0 0 rfl rfl
  have f1 := B7.cell 0 1 rfl rfl
  have f2 := B7.cell 0 2 rfl rfl
  have f3 := B7.cell 0 3 rfl rfl
  have f4 := B7.cell 0 4 rfl rfl
  have k1 := BX.cell 0 1 rfl rfl
  by_cases hol2 : (o : Int) = m.label
  · have hd : ((o : Int) != m.label) = false := by simpa using hol2
    have ht : (m.txn : Int) ≤ (r1.txn : Int) := by have := T2.out; omega
    go_wp2_with fail
    go_ret
    exact ⟨rfl, hb⟩
  · obtain ⟨rfl, u2, u3⟩ := T3.out hol2
    have hd : ((o : Int) != r1.label) = true := by simpa using hol2
    have hms := fun W => HE.out r1 r1 W
    simp only [decide_true] at hms
    have u4 : (((r2.txn : Nat) : Int) == 0) = true := by rw [u3]; rfl
    subst u2
    clear u3
    go_wp2_with fail
    go_ret
    exact ⟨rfl, hb⟩

set_option maxRecDepth 100000 in
set_option maxHeartbeats 8000000 in
theorem lOthers_odd (m : Mt) (lab : Nat) (txn : Nat) (w : World) (hlab : lab < 256) (hx : txn < 18446744073709551616) (hm : MtIn m) (ho : metaOk m = true) (he : m.txn % 2 = 1) (hh : Half w) :
    Calls Tryd.prog 6 #[mv m, .int .u8 (lab : Int), .int .u64 (txn : Int)] w fun e w' => e = .returned (.bool true) ∧ Below w.heap.size w w' := by
  obtain ⟨o, hoo, ho64⟩ : ∃ o, o = lab % 64 ∧ o < 64 := ⟨_, rfl, by omega⟩
  have hrem : (lab : Int) % 64 = (o : Int) := by omega
  have hB := below_box w (.cells (mcells m) 24)
  have BX := (Boxes.nil w).alloc (mcells m) 24 rfl
  have haw := mawake_any _ (hh.below (Nat.le_refl _) hB)
  have K1 : ∀ W, Calls Tryd.prog 17 #[mv m] W fun e w' => e = .returned (.bool true) ∧ Below W.heap.size W w' := fun W => by have := mcheck_any m W; rwa [ho] at this
  have S1 : ∀ W, Calls Tryd.prog 19 #[.int .u64 (m.txn : Int)] W fun e w' => e = .returned (.int .i64 1) ∧ W = w' := fun W => by have := slot_any m.txn W hm; rwa [he] at this
  have hmx : max txn 1 < 18446744073709551616 := by omega
  have P1 : ∀ W, Below w.heap.size w W → Calls Tryd.prog 14 #[mv m] W (PackAny W (putV m) 0) := fun W hW => by have := mput_any m W (hh.below (Nat.le_refl _) hW) hm; rwa [(putV_ok ho).2] at this
  have P2 : ∀ W, Below w.heap.size w W → Calls Tryd.prog 14 #[mv (otherM o txn)] W (PackAny W (putV (otherM o txn)) 0) := fun W hW => by have := mput_any (otherM o txn) W (hh.below (Nat.le_refl _) hW) hmx; rwa [(putV_ok (otherM_ok o ho64 txn)).2] at this
  have n1 : ∀ a1 c1 a2 c2 k1 k2 p q W, Bs W a1 k1 c1 p → Bs W a2 k2 c2 q → Below w.heap.size w W → Calls Tryd.prog 23 #[.slice a1 k1 c1, .slice a2 k2 c2, .int .i64 m.label] W (NewPost W (newM p q m.label) (newB p q m.label)) := fun a1 c1 a2 c2 k1 k2 p q W h1 h2 hW => newest_any a1 a2 k1 k2 c1 c2 p q m.label W h1 h2 (hh.below (Nat.le_refl _) hW)
  obtain ⟨t1, t2, t3⟩ := others_odd m ho hm o ho64 txn hx he
  have hmxc : ∃ mx : Nat, mx = max txn 1 := ⟨_, rfl⟩
  obtain ⟨mx, hmx2⟩ := hmxc
  rw [show mv (otherM o txn) = .agg #[.int .i64 (o : Int), .int .u64 (mx : Int), .int .i64 0, .int .i64 0, .int .i64 2] from by rw [hmx2]; rfl] at P2
  have hmax := fun W => run_max_one txn mx hmx2 W
  generalize putV m = p1 at *
  generalize putV (otherM o txn) = p2 at *
  have E1 := @msame
  have na := fun a1 c1 a2 c2 k1 k2 W => n1 a1 c1 a2 c2 k1 k2 p2 p1 W
  have nx := fun a1 c1 a2 c2 k1 k2 W => n1 a1 c1 a2 c2 k1 k2 p1 p2 W
  clear n1
  generalize newM p2 p1 m.label = r1 at *
  generalize newM p1 p2 m.label = r2 at *
  generalize newB p1 p2 m.label = nb at *
  have T1 := Lib.hid t1
  have T2 := Lib.hid t2
  have T3 := Lib.hid t3
  have HE := Lib.hid E1
  clear t1 t2 t3 hmx2 hmx ho he hoo E1
  have hol : (0 : Int) ≤ (o : Int) ∧ (o : Int) < 64 := by omega
  unfold mv mcells at *
  go_enter Tryd.func6, Tryd.ntmps6
  go_wp2_with fail
  refine haw.mono ?_
  rintro e w1 ⟨rfl, hb1⟩
  have BX := BX.step hb1
  have hb := below_then hB hb1
  clear hb1 hB
  have g0 := BX.cell 0 0 rfl rfl
  have g1 := BX.cell 0 1 rfl rfl
  have g2 := BX.cell 0 2 rfl rfl
  have g3 := BX.cell 0 3 rfl rfl
  have g4 := BX.cell 0 4 rfl rfl
  go_wp2_with fail
  clear g0 g1 g2 g3 g4
  refine (K1 _).mono ?_
  rintro e w2 ⟨rfl, hb2⟩
  have BX := BX.step hb2
  have hb := below_then hb hb2
  have g0 := BX.cell 0 0 rfl rfl
  have g1 := BX.cell 0 1 rfl rfl
  have g2 := BX.cell 0 2 rfl rfl
  have g3 := BX.cell 0 3 rfl rfl
  have g4 := BX.cell 0 4 rfl rfl
  clear hb2
  go_wp2_with fail
  clear g0 g1 g2 g3 g4
  refine (P1 _ hb).mono ?_
  rintro e w3 ⟨v3, rfl, hown3, hb3⟩
  obtain ⟨a1, c1, rfl, hbs1⟩ := Bs.of_own hown3
  have BX := BX.step hb3
  have hb := below_then hb hb3
  clear hown3 hb3
  go_wp2_with fail
  refine (P2 _ hb).mono ?_
  rintro e w4 ⟨v4, rfl, hown4, hb4⟩
  obtain ⟨a2, c2, rfl, hbs2⟩ := Bs.of_own hown4
  have BX := BX.step hb4
  have hb := below_then hb hb4
  have hbs1 := hbs1.below (Nat.le_refl _) hb4
  clear hown4 hb4
  have g1 := BX.cell 0 1 rfl rfl
  have g0 := BX.cell 0 0 rfl rfl
  go_wp2_with fail
  refine (S1 _).mono ?_
  rintro e w5 ⟨rfl, rfl⟩
  go_wp2_with fail
  refine (na a2 _ a1 _ _ _ _ hbs2 hbs1 hb).mono ?_
  rintro e w6 ⟨rfl, hb6⟩
  rw [T1.out]
  unfold mv mcells
  have hx6 := below_then hb6 (below_box w6 (.cells #[.int .i64 r1.label, .int .u64 r1.txn, .int .i64 r1.root, .int .i64 r1.list, .int .i64 r1.high] 24))
  have B6 := BX.step hb6
  have BX := (BX.step hb6).alloc #[.int .i64 r1.label, .int .u64 r1.txn, .int .i64 r1.root, .int .i64 r1.list, .int .i64 r1.high] 24 rfl
  have hbs1 := hbs1.below (Nat.le_refl _) hx6
  have hbs2 := hbs2.below (Nat.le_refl _) hx6
  have hb := below_then hb hx6
  clear g0 g1 hx6 hb6
  have g0 := B6.cell 0 0 rfl rfl
  have g1 := B6.lt 0 rfl
  go_wp2_with fail
  clear g0 g1 B6
  generalize w6.alloc _ = W6 at *
  generalize w6.heap.size = b6 at *
  refine (nx a1 _ a2 _ _ _ _ hbs1 hbs2 hb).mono ?_
  rintro e w7 ⟨rfl, hb7⟩
  unfold mv mcells
  have hx7 := below_then hb7 (below_box w7 (.cells #[.int .i64 r2.label, .int .u64 r2.txn, .int .i64 r2.root, .int .i64 r2.list, .int .i64 r2.high] 24))
  have B7 := BX.step hb7
  have B7l := B7.lt 0 rfl
  have B7m := B7.lt 1 rfl
  have BX := (BX.step hb7).alloc #[.int .i64 r2.label, .int .u64 r2.txn, .int .i64 r2.root, .int .i64 r2.list, .int .i64 r2.high] 24 rfl
  have hb := below_then hb hx7
  clear hx7 hb7 hbs1 hbs2
  have g0 := B7.cell 1 0 rfl rfl
  have g1 := B7.cell 1 1 rfl rfl
  have g2 := B7.cell 1 2 rfl rfl
  have g3 := B7.cell 1 3 rfl rfl
  have g4 := B7.cell 1 4 rfl rfl
  have f0 := B7.cell 0 0 rfl rfl
  have f1 := B7.cell 0 1 rfl rfl
  have f2 := B7.cell 0 2 rfl rfl
  have f3 := B7.cell 0 3 rfl rfl
  have f4 := B7.cell 0 4 rfl rfl
  have k1 := BX.cell 0 1 rfl rfl
  by_cases hol2 : (o : Int) = m.label
  · have hd : ((o : Int) != m.label) = false := by simpa using hol2
    have ht : (m.txn : Int) ≤ (r1.txn : Int) := by have := T2.out; omega
    go_wp2_with fail
    go_ret
    exact ⟨rfl, hb⟩
  · obtain ⟨rfl, u2, u3⟩ := T3.out hol2
    have hd : ((o : Int) != r1.label) = true := by simpa using hol2
    have hms := fun W => HE.out r1 r1 W
    simp only [decide_true] at hms
    have u4 : (((r2.txn : Nat) : Int) == 0) = true := by rw [u3]; rfl
    subst u2
    clear u3
    go_wp2_with fail
    go_ret
    exact ⟨rfl, hb⟩

theorem lOthers (m : Mt) (lab : Nat) (txn : Nat) (w : World) (hm : MtIn m) (hlab : lab < 256) (hx : txn < 18446744073709551616) (hh : Half w) :
    Calls Tryd.prog 6 #[mv m, .int .u8 (lab : Int), .int .u64 (txn : Int)] w fun e w' => e = .returned (.bool true) ∧ Below w.heap.size w w' := by
  cases ho : metaOk m with
  | false => exact lOthers_not m lab txn w ho hh
  | true =>
    rcases Nat.mod_two_eq_zero_or_one m.txn with he | he
    · exact lOthers_even m lab txn w hlab hx hm ho he hh
    · exact lOthers_odd m lab txn w hlab hx hm ho he hh
end Go.Proofs.YtjdepdgoaopfoaaDoor
