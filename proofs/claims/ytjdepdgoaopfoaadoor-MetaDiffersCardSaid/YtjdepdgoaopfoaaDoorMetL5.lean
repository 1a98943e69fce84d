/- The laws of the chapter on metas: two metas that may be have the same page, just if they are the same. -/
import Derived.Test.YtjdepdgoaopfoaaDoorMetD
namespace Go.Proofs.YtjdepdgoaopfoaaDoor
open Go.RowKit

set_option maxRecDepth 100000 in
set_option maxHeartbeats 8000000 in
theorem lDiffers (m n : Mt) (w : World) (hm : MtIn m) (hn : MtIn n) (hh : Half w) :
    Calls Tryd.prog 7 #[mv m, mv n] w fun e w' => e = .returned (.bool true) ∧ Below w.heap.size w w' := by
  have hB := below_two w (.cells (mcells m) 24) (.cells (mcells n) 24)
  have B1 : MBox ((w.alloc (.cells (mcells m) 24)).alloc (.cells (mcells n) 24)) w.heap.size m := ⟨by simp; omega, mbox_cells (alloc_two_old w _ _)⟩
  have B2 : MBox ((w.alloc (.cells (mcells m) 24)).alloc (.cells (mcells n) 24)) (w.heap.size + 1) n := ⟨by simp, mbox_cells (alloc_two_new w _ _)⟩
  have haw := mawake_any _ (hh.below (Nat.le_refl _) hB)
  have K1 : ∀ W, Calls Tryd.prog 17 #[mv m] W fun e w' => e = .returned (.bool (metaOk m)) ∧ Below W.heap.size W w' := fun W => mcheck_any m W
  have K2 : ∀ W, Calls Tryd.prog 17 #[mv n] W fun e w' => e = .returned (.bool (metaOk n)) ∧ Below W.heap.size W w' := fun W => mcheck_any n W
  have hs := put_same m n
  have pm1 : ∀ W, Below w.heap.size w W → Calls Tryd.prog 14 #[mv m] W (PackAny W (putV m) (putE m)) := fun W hW => mput_any m W (hh.below (Nat.le_refl _) hW) hm
  have pm2 : ∀ W, Below w.heap.size w W → Calls Tryd.prog 14 #[mv n] W (PackAny W (putV n) (putE n)) := fun W hW => mput_any n W (hh.below (Nat.le_refl _) hW) hn
  have e1 := @putV_ok m
  have e2 := @putV_ok n
  have S0 := Lib.hid (fun W => msame m n W)
  unfold mv mcells at *
  cases o1 : metaOk m with
  | false =>
    rw [o1] at K1
    clear K2 hs pm1 pm2 e1 e2 o1
    obtain ⟨_, g0, g1, g2, g3, g4⟩ := B1
    go_enter Tryd.func7, Tryd.ntmps7
    go_wp2_with fail
    refine haw.mono ?_
    rintro e w1 ⟨rfl, hb1⟩
    have B1 : MBox _ w.heap.size m := ⟨by simp; omega, g0, g1, g2, g3, g4⟩
    obtain ⟨_, g0, g1, g2, g3, g4⟩ := B1.below (Nat.le_refl _) hb1
    have hb := below_then hB hb1
    go_wp2_with fail
    refine (K1 _).mono ?_
    rintro e w2 ⟨rfl, hb2⟩
    have hb := below_then hb hb2
    go_wp2_with fail
    go_ret
    exact ⟨rfl, hb⟩
  | true =>
    rw [o1] at K1
    cases o2 : metaOk n with
    | false =>
      rw [o2] at K2
      clear hs pm1 pm2 e1 e2 o1 o2
      go_enter Tryd.func7, Tryd.ntmps7
      go_wp2_with fail
      refine haw.mono ?_
      rintro e w1 ⟨rfl, hb1⟩
      obtain ⟨_, g0, g1, g2, g3, g4⟩ := B1.below (Nat.le_refl _) hb1
      have B2 := B2.below (Nat.le_refl _) hb1
      have hb := below_then hB hb1
      go_wp2_with fail
      refine (K1 _).mono ?_
      rintro e w2 ⟨rfl, hb2⟩
      obtain ⟨_, f0, f1, f2, f3, f4⟩ := B2.below (Nat.le_refl _) hb2
      have hb := below_then hb hb2
      go_wp2_with fail
      refine (K2 _).mono ?_
      rintro e w3 ⟨rfl, hb3⟩
      have hb := below_then hb hb3
      go_wp2_with fail
      go_ret
      exact ⟨rfl, hb⟩
    | true =>
      rw [o2] at K2
      have hs := hs o1 o2 hm hn
      rw [(e1 o1).2] at pm1
      rw [(e2 o2).2] at pm2
      clear e1 e2 o1 o2
      generalize putV m = pm at *
      generalize putV n = pn at *
      go_enter Tryd.func7, Tryd.ntmps7
      go_wp2_with fail
      refine haw.mono ?_
      rintro e w1 ⟨rfl, hb1⟩
      have B1 := B1.below (Nat.le_refl _) hb1
      have hb := below_then hB hb1
      have B2 := B2.below (Nat.le_refl _) hb1
      obtain ⟨_, g0, g1, g2, g3, g4⟩ := id B1
      go_wp2_with fail
      clear g0 g1 g2 g3 g4
      refine (K1 _).mono ?_
      rintro e w2 ⟨rfl, hb2⟩
      have B1 := B1.below (Nat.le_refl _) hb2
      have B2 := B2.below (Nat.le_refl _) hb2
      obtain ⟨_, f0, f1, f2, f3, f4⟩ := id B2
      have hb := below_then hb hb2
      go_wp2_with fail
      clear f0 f1 f2 f3 f4
      refine (K2 _).mono ?_
      rintro e w3 ⟨rfl, hb3⟩
      have hb := below_then hb hb3
      have B1 := B1.below (Nat.le_refl _) hb3
      have B2 := B2.below (Nat.le_refl _) hb3
      obtain ⟨_, g0, g1, g2, g3, g4⟩ := id B1
      go_wp2_with fail
      clear g0 g1 g2 g3 g4
      refine (pm1 _ hb).mono ?_
      rintro e w4 ⟨v4, rfl, hown4, hb4⟩
      obtain ⟨a4, c4, rfl, hbs4⟩ := Bs.of_own hown4
      have hb := below_then hb hb4
      have B1 := B1.below (Nat.le_refl _) hb4
      have B2 := B2.below (Nat.le_refl _) hb4
      obtain ⟨_, f0, f1, f2, f3, f4⟩ := id B2
      clear hown4 hb4
      go_wp2_with fail
      clear f0 f1 f2 f3 f4
      refine (pm2 _ hb).mono ?_
      rintro e w5 ⟨v5, rfl, hown5, hb5⟩
      obtain ⟨a5, c5, rfl, hbs5⟩ := Bs.of_own hown5
      have hb := below_then hb hb5
      have B1 := B1.below (Nat.le_refl _) hb5
      have B2 := B2.below (Nat.le_refl _) hb5
      have hbs4 := hbs4.below (Nat.le_refl _) hb5
      clear hown5 hb5
      go_wp2_with fail
      have hv1 : ∀ W, Below w5.heap.size w5 W → (convert 26 9 (.slice a4 pm.length c4)).run Tryd.prog W = .ok (.string (strOf pm)) W := fun W hW => conv_string Tryd.underlying26 Tryd.underlying5 Tryd.underlying9 (hbs4.below (Nat.le_refl _) hW)
      have hv2 : ∀ W, Below w5.heap.size w5 W → (convert 26 9 (.slice a5 pn.length c5)).run Tryd.prog W = .ok (.string (strOf pn)) W := fun W hW => conv_string Tryd.underlying26 Tryd.underlying5 Tryd.underlying9 (hbs5.below (Nat.le_refl _) hW)
      have k10 := fun W hW => (MBox.below (w' := W) B1 (Nat.le_refl _) hW).2.1
      have k11 := fun W hW => (MBox.below (w' := W) B1 (Nat.le_refl _) hW).2.2.1
      have k12 := fun W hW => (MBox.below (w' := W) B1 (Nat.le_refl _) hW).2.2.2.1
      have k13 := fun W hW => (MBox.below (w' := W) B1 (Nat.le_refl _) hW).2.2.2.2.1
      have k14 := fun W hW => (MBox.below (w' := W) B1 (Nat.le_refl _) hW).2.2.2.2.2
      have k20 := fun W hW => (MBox.below (w' := W) B2 (Nat.le_refl _) hW).2.1
      have k21 := fun W hW => (MBox.below (w' := W) B2 (Nat.le_refl _) hW).2.2.1
      have k22 := fun W hW => (MBox.below (w' := W) B2 (Nat.le_refl _) hW).2.2.2.1
      have k23 := fun W hW => (MBox.below (w' := W) B2 (Nat.le_refl _) hW).2.2.2.2.1
      have k24 := fun W hW => (MBox.below (w' := W) B2 (Nat.le_refl _) hW).2.2.2.2.2
      have hC : Below w5.heap.size w5 w5.drew := (Below.refl _ _).drew
      have hst := strOf_toList
      have hms := S0.out
      have hbb : ((pm == pn) == decide (m = n)) = true := by rw [hs]; simp
      clear B1 B2 hbs4 hbs5 K1 K2 pm1 pm2 hs S0
      go_region_held3 (fun W => Below w5.heap.size w5 W) (assumption) (first | fail)
      have hb9 := below_then hb hC
      go_wp2_with fail
      go_ret
      exact ⟨rfl, hb9⟩
end Go.Proofs.YtjdepdgoaopfoaaDoor
