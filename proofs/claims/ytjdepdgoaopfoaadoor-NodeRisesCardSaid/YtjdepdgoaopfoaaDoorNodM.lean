/- The walks of the chapter on nodes: may an entry stand there? -/
import Derived.Test.YtjdepdgoaopfoaaDoorNodW
namespace Go.Proofs.YtjdepdgoaopfoaaDoor
open Go.RowKit

theorem ret_b {a b : Bool} {w w' : World} {B : Nat} (h : a = b) (hb : Below B w w') : Ending.returned (.bool a) = .returned (.bool b) ∧ Below B w w' := ⟨by rw [h], hb⟩
theorem below_one (w : World) (o : Obj) : Below w.heap.size w (w.alloc o) := (Below.refl _ _).alloc (Nat.le_refl _) o
theorem below_two' (w : World) (o p : Obj) : Below w.heap.size w ((w.alloc o).alloc p) := (below_one w o).alloc (by simp) p
theorem below_three (w : World) (o p q : Obj) : Below w.heap.size w (((w.alloc o).alloc p).alloc q) := (below_two' w o p).alloc (by simp; omega) q

set_option maxRecDepth 100000 in
set_option maxHeartbeats 4000000 in
theorem mayL_any (e : En) (i : Int) (w : World) (hl : e.key.length ≤ 9223372036854775807) :
    Calls Tryd.prog 104 #[.agg #[], .int .i64 i, ev e] w fun en w' => en = .returned (.bool (mayL e)) ∧ Below w.heap.size w w' := by
  obtain ⟨k, d, f, s, p⟩ := e
  have K := fun W => key_any k W hl
  have P := fun W => page_any p W
  have hst := strOf_toList
  have hsz := strOf_size d
  unfold ev
  cases hk : keyB k <;> cases hp : pageB p <;> cases f
  all_goals
    rw [hk] at K
    rw [hp] at P
    go_enter Tryd.func104, Tryd.ntmps104
    go_wp2_with (first | (go_at_call 107; (with_reducible refine (K _).mono ?_); rintro e w' ⟨rfl, rfl⟩) | (go_at_call 108; (with_reducible refine (P _).mono ?_); rintro e w' ⟨rfl, rfl⟩))
    all_goals
      go_ret
      exact ret_b (by simp [mayL, hk, hp, *] <;> omega) (below_three w _ _ _)

theorem veq_any (v u : Vv) (w : World) :
    (binOp .eql 74 (vv v) (vv u)).run Tryd.prog w = .ok (.bool (v == u)) w := by
  obtain ⟨a, b, c, d⟩ := v
  obtain ⟨a', b', c', d'⟩ := u
  by_cases h1 : a = a' <;> by_cases h2 : b = b' <;> by_cases h3 : c = c' <;> by_cases h4 : d = d' <;> simp [vv, go_sem, strOf_toList, h1, h2, h3, h4]
theorem veq_page (v : Vv) (w : World) :
    (binOp .eql 74 (.agg #[.string (strOf v.data), .bool v.far, .int .i64 v.size, .int .i64 v.page]) (.agg #[.string ⟨#[]⟩, .bool false, .int .i64 0, .int .i64 v.page])).run Tryd.prog w = .ok (.bool (v == ⟨[], false, 0, v.page⟩)) w :=
  veq_any v ⟨[], false, 0, v.page⟩ w

set_option maxRecDepth 100000 in
set_option maxHeartbeats 4000000 in
theorem mayB_any (e : En) (i : Nat) (w : World) (hl : e.key.length ≤ 9223372036854775807) :
    Calls Tryd.prog 113 #[.agg #[], .int .i64 (i : Int), ev e] w fun en w' => en = .returned (.bool (mayB i e)) ∧ Below w.heap.size w w' := by
  obtain ⟨k, v⟩ := e
  have K := fun W => key_any k W hl
  have P := fun W => page_any v.page W
  have hst := strOf_toList
  have hv := fun W => veq_page v W
  have hB := below_two' w (.cells #[] 142) (.cells #[.string (strOf k), .string (strOf v.data), .bool v.far, .int .i64 v.size, .int .i64 v.page] 76)
  have hM : mayB i ⟨k, v⟩ = (firstB i k && (pageB v.page && v == ⟨[], false, 0, v.page⟩)) := rfl
  have HM := Lib.hid hM
  have HB := Lib.hid hB
  clear hM hB
  unfold ev
  generalize (v == ⟨[], false, 0, v.page⟩) = vb at *
  by_cases hi : i = 0
  · subst hi
    have hf : firstB 0 k = (k == []) := rfl
    cases hk : (k == []) <;> cases hp : pageB v.page
    all_goals
      have HF := Lib.hid (hf.trans hk)
      rw [hp] at P HM
      clear hf
      go_enter Tryd.func113, Tryd.ntmps113
      go_wp2_with (first | (go_at_call 107; (with_reducible refine (K _).mono ?_); rintro e w' ⟨rfl, rfl⟩) | (go_at_call 108; (with_reducible refine (P _).mono ?_); rintro e w' ⟨rfl, rfl⟩))
      all_goals
        go_ret
        exact ret_b (by simp [HM.out, HF.out]) HB.out
  · have hi0 : ((i : Int) == 0) = false := by simpa using hi
    have hi1 : decide ((0 : Int) < (i : Int)) = true := by simp; omega
    have hf : firstB i k = keyB k := by rw [firstB, if_neg hi]
    cases hk : keyB k <;> cases hp : pageB v.page
    all_goals
      have HF := Lib.hid (hf.trans hk)
      rw [hp] at P HM
      rw [hk] at K
      clear hf hk
      go_enter Tryd.func113, Tryd.ntmps113
      go_wp2_with (first | (go_at_call 107; (with_reducible refine (K _).mono ?_); rintro e w' ⟨rfl, rfl⟩) | (go_at_call 108; (with_reducible refine (P _).mono ?_); rintro e w' ⟨rfl, rfl⟩))
      all_goals
        go_ret
        exact ret_b (by simp [HM.out, HF.out]) HB.out
end Go.Proofs.YtjdepdgoaopfoaaDoor
