/- The laws of the chapter on metas: what is put is the document's, and is got again. -/
import Derived.Test.YtjdepdgoaopfoaaDoorMetD
namespace Go.Proofs.YtjdepdgoaopfoaaDoor
open Go.RowKit

set_option maxRecDepth 100000 in
set_option maxHeartbeats 8000000 in
theorem lPuts (m : Mt) (w : World) (hm : MtIn m) (hh : Half w) :
    Calls Tryd.prog 3 #[mv m] w fun e w' => e = .returned (.bool true) ∧ Below w.heap.size w w' := by
  have hB := below_box w (.cells (mcells m) 24)
  have B1 : MBox (w.alloc (.cells (mcells m) 24)) w.heap.size m := MBox.new w m 24
  have haw := mawake_any _ (hh.below (Nat.le_refl _) hB)
  have K1 : ∀ W, Calls Tryd.prog 17 #[mv m] W fun e w' => e = .returned (.bool (metaOk m)) ∧ Below W.heap.size W w' := fun W => mcheck_any m W
  have K2 : ∀ W, Calls Tryd.prog 18 #[mv m] W fun e w' => e = .returned (.bool (metaOk m)) ∧ Below W.heap.size W w' := fun W => rcheck_any m W
  have K3 : ∀ W, Calls Tryd.prog 16 #[mv m] W fun e w' => e = .returned (mv m) ∧ Below W.heap.size W w' := fun W => plain_any m W
  have K4 : ∀ W, Calls Tryd.prog 19 #[.int .u64 m.txn] W fun e w' => e = .returned (.int .i64 ((m.txn % 2 : Nat) : Int)) ∧ W = w' := fun W => slot_any m.txn W hm
  have K5 : ∀ W, Calls Tryd.prog 20 #[.int .u64 m.txn] W fun e w' => e = .returned (.int .i64 ((m.txn % 2 : Nat) : Int)) ∧ W = w' := fun W => rslot_any m.txn W hm
  have P1 : ∀ W, Below w.heap.size w W → Calls Tryd.prog 14 #[mv m] W (PackAny W (putV m) (putE m)) := fun W hW => mput_any m W (hh.below (Nat.le_refl _) hW) hm
  have P2 : ∀ W, Calls Tryd.prog 15 #[mv m] W (StrPost W (putV m) (putE m)) := fun W => rput_any m W hm
  have G1 : ∀ a n c W, Bs W a n c (putV m) → Below w.heap.size w W → Calls Tryd.prog 21 #[.slice a n c] W (GetPost W (getM (putV m)) (getE (putV m))) := fun a n c W h1 hW => mget_any a n c (putV m) W h1 (hh.below (Nat.le_refl _) hW)
  have e1 := @putV_ok m
  have e2 := @putV_bad m
  have e3 := fun o => get_put m o hm
  have S0 := Lib.hid (fun W => msame m m W)
  generalize ((m.txn % 2 : Nat) : Int) = sl at *
  have hsl : (sl != sl) = false := by simp
  unfold mv mcells at *
  cases o1 : metaOk m with
  | true =>
    rw [o1] at K1 K2
    obtain ⟨g1, g2⟩ := e3 o1
    rw [← (e1 o1).1] at g1 g2
    simp only [g1, g2] at G1
    rw [(e1 o1).2] at P1
    simp only [(e1 o1).2] at P2
    clear e1 e2 e3 g1 g2 o1
    have HP0 := Lib.hid (trivial : True)
    generalize putV m = pm at *
    go_enter Tryd.func3, Tryd.ntmps3
    go_wp2_with fail
    refine haw.mono ?_
    rintro e w1 ⟨rfl, hb1⟩
    have B1 := B1.below (Nat.le_refl _) hb1
    have hb := below_then hB hb1
    clear hb1 hB
    obtain ⟨_, g0, g1, g2, g3, g4⟩ := id B1
    go_wp2_with fail
    clear g0 g1 g2 g3 g4
    refine (P1 _ hb).mono ?_
    rintro e w2 ⟨v2, rfl, hown2, hb2⟩
    obtain ⟨a2, c2, rfl, hbs2⟩ := Bs.of_own hown2
    have hb := below_then hb hb2
    have B1 := B1.below (Nat.le_refl _) hb2
    obtain ⟨_, g0, g1, g2, g3, g4⟩ := id B1
    clear hown2 hb2
    go_wp2_with fail
    clear g0 g1 g2 g3 g4
    refine (K3 _).mono ?_
    rintro e w3 ⟨rfl, hb3⟩
    have hb := below_then hb hb3
    have B1 := B1.below (Nat.le_refl _) hb3
    have hbs2 := hbs2.below (Nat.le_refl _) hb3
    clear hb3
    go_wp2_with fail
    refine (P2 _).mono ?_
    rintro e w4 ⟨rfl, hb4⟩
    have hb := below_then hb hb4
    have B1 := B1.below (Nat.le_refl _) hb4
    have hbs2 := hbs2.below (Nat.le_refl _) hb4
    clear hb4
    go_wp2_with fail
    have hv1 : ∀ W, Below w4.heap.size w4 W → (convert 26 9 (.slice a2 pm.length c2)).run Tryd.prog W = .ok (.string (strOf pm)) W := fun W hW => conv_string Tryd.underlying26 Tryd.underlying5 Tryd.underlying9 (hbs2.below (Nat.le_refl _) hW)
    have k10 := fun W hW => (MBox.below (w' := W) B1 (Nat.le_refl _) hW).2.1
    have k11 := fun W hW => (MBox.below (w' := W) B1 (Nat.le_refl _) hW).2.2.1
    have k12 := fun W hW => (MBox.below (w' := W) B1 (Nat.le_refl _) hW).2.2.2.1
    have k13 := fun W hW => (MBox.below (w' := W) B1 (Nat.le_refl _) hW).2.2.2.2.1
    have k14 := fun W hW => (MBox.below (w' := W) B1 (Nat.le_refl _) hW).2.2.2.2.2
    have hC : Below w4.heap.size w4 w4.drew := (Below.refl _ _).drew
    have hq : ∀ W, (binOp .neq 9 (.string (strOf pm)) (.string (strOf pm))).run Tryd.prog W = .ok (.bool false) W := fun W => by
      simp [binOp, Op.stringOp]
    go_region_held3 (fun W => Below w4.heap.size w4 W) (assumption) (first | (go_at_call 17; (with_reducible refine (K1 _).mono ?_); rintro e wa ⟨rfl, hba⟩; have hC1 := hC.trans (hba.mono hC.size)) | (go_at_call 16; (with_reducible refine (K3 _).mono ?_); rintro e wb ⟨rfl, hbb⟩; have hC2 := hC1.trans (hbb.mono hC1.size)) | (go_at_call 18; (with_reducible refine (K2 _).mono ?_); rintro e wc ⟨rfl, hbc⟩; have hC3 := hC2.trans (hbc.mono hC2.size)) | (go_at_call 19; (with_reducible refine (K4 _).mono ?_); rintro e wd ⟨rfl, rfl⟩) | (go_at_call 20; (with_reducible refine (K5 _).mono ?_); rintro e we ⟨rfl, rfl⟩))
    have hb9 := below_then hb hC3
    have B1 := B1.below (Nat.le_refl _) hC3
    have hbs2 := hbs2.below (Nat.le_refl _) hC3
    clear hv1 k10 k11 k12 k13 k14 hq hC hC1 hC2 hC3
    go_wp2_with fail
    refine (G1 _ _ _ _ hbs2 hb9).mono ?_
    rintro e w8 ⟨rfl, hb8⟩
    unfold mv mcells
    have hx := below_then hb8 (below_box w8 (.cells #[.int .i64 m.label, .int .u64 m.txn, .int .i64 m.root, .int .i64 m.list, .int .i64 m.high] 24))
    have B2 := MBox.new w8 m 24
    have B1 := B1.below (Nat.le_refl _) hx
    have hb := below_then hb9 hx
    obtain ⟨_, g0, g1, g2, g3, g4⟩ := B1
    obtain ⟨_, f0, f1, f2, f3, f4⟩ := B2
    have hms := S0.out
    have hp0 := HP0.out
    clear hx hb8 hb9
    go_wp2_with fail
    go_ret
    exact ⟨rfl, hb⟩
  | false =>
    rw [o1] at K1 K2
    have hp0 : (putV m).length = 0 := by rw [(e2 o1).1]; rfl
    simp only [(e2 o1).2] at P1 P2
    generalize getM (putV m) = x at *
    generalize getE (putV m) = ge at *
    have HP0 := Lib.hid hp0
    clear e1 e2 e3 o1 hp0
    generalize putV m = pm at *
    go_enter Tryd.func3, Tryd.ntmps3
    go_wp2_with fail
    refine haw.mono ?_
    rintro e w1 ⟨rfl, hb1⟩
    have B1 := B1.below (Nat.le_refl _) hb1
    have hb := below_then hB hb1
    clear hb1 hB
    obtain ⟨_, g0, g1, g2, g3, g4⟩ := id B1
    go_wp2_with fail
    clear g0 g1 g2 g3 g4
    refine (P1 _ hb).mono ?_
    rintro e w2 ⟨v2, rfl, hown2, hb2⟩
    obtain ⟨a2, c2, rfl, hbs2⟩ := Bs.of_own hown2
    have hb := below_then hb hb2
    have B1 := B1.below (Nat.le_refl _) hb2
    obtain ⟨_, g0, g1, g2, g3, g4⟩ := id B1
    clear hown2 hb2
    go_wp2_with fail
    clear g0 g1 g2 g3 g4
    refine (K3 _).mono ?_
    rintro e w3 ⟨rfl, hb3⟩
    have hb := below_then hb hb3
    have B1 := B1.below (Nat.le_refl _) hb3
    have hbs2 := hbs2.below (Nat.le_refl _) hb3
    clear hb3
    go_wp2_with fail
    refine (P2 _).mono ?_
    rintro e w4 ⟨rfl, hb4⟩
    have hb := below_then hb hb4
    have B1 := B1.below (Nat.le_refl _) hb4
    have hbs2 := hbs2.below (Nat.le_refl _) hb4
    clear hb4
    go_wp2_with fail
    have hv1 : ∀ W, Below w4.heap.size w4 W → (convert 26 9 (.slice a2 pm.length c2)).run Tryd.prog W = .ok (.string (strOf pm)) W := fun W hW => conv_string Tryd.underlying26 Tryd.underlying5 Tryd.underlying9 (hbs2.below (Nat.le_refl _) hW)
    have k10 := fun W hW => (MBox.below (w' := W) B1 (Nat.le_refl _) hW).2.1
    have k11 := fun W hW => (MBox.below (w' := W) B1 (Nat.le_refl _) hW).2.2.1
    have k12 := fun W hW => (MBox.below (w' := W) B1 (Nat.le_refl _) hW).2.2.2.1
    have k13 := fun W hW => (MBox.below (w' := W) B1 (Nat.le_refl _) hW).2.2.2.2.1
    have k14 := fun W hW => (MBox.below (w' := W) B1 (Nat.le_refl _) hW).2.2.2.2.2
    have hC : Below w4.heap.size w4 w4.drew := (Below.refl _ _).drew
    have hq : ∀ W, (binOp .neq 9 (.string (strOf pm)) (.string (strOf pm))).run Tryd.prog W = .ok (.bool false) W := fun W => by
      simp [binOp, Op.stringOp]
    go_region_held3 (fun W => Below w4.heap.size w4 W) (assumption) (first | (go_at_call 17; (with_reducible refine (K1 _).mono ?_); rintro e wa ⟨rfl, hba⟩; have hC1 := hC.trans (hba.mono hC.size)) | (go_at_call 16; (with_reducible refine (K3 _).mono ?_); rintro e wb ⟨rfl, hbb⟩; have hC2 := hC1.trans (hbb.mono hC1.size)) | (go_at_call 18; (with_reducible refine (K2 _).mono ?_); rintro e wc ⟨rfl, hbc⟩; have hC3 := hC2.trans (hbc.mono hC2.size)) | (go_at_call 19; (with_reducible refine (K4 _).mono ?_); rintro e wd ⟨rfl, rfl⟩) | (go_at_call 20; (with_reducible refine (K5 _).mono ?_); rintro e we ⟨rfl, rfl⟩))
    have hb9 := below_then hb hC3
    have B1 := B1.below (Nat.le_refl _) hC3
    have hbs2 := hbs2.below (Nat.le_refl _) hC3
    clear hv1 k10 k11 k12 k13 k14 hq hC hC1 hC2 hC3
    go_wp2_with fail
    refine (G1 _ _ _ _ hbs2 hb9).mono ?_
    rintro e w8 ⟨rfl, hb8⟩
    unfold mv mcells
    have hx := below_then hb8 (below_box w8 (.cells #[.int .i64 x.label, .int .u64 x.txn, .int .i64 x.root, .int .i64 x.list, .int .i64 x.high] 24))
    have B2 := MBox.new w8 x 24
    have B1 := B1.below (Nat.le_refl _) hx
    have hb := below_then hb9 hx
    obtain ⟨_, g0, g1, g2, g3, g4⟩ := B1
    obtain ⟨_, f0, f1, f2, f3, f4⟩ := B2
    have hms := S0.out
    have hp0 := HP0.out
    clear hx hb8 hb9
    go_wp2_with fail
    go_ret
    exact ⟨rfl, hb⟩
end Go.Proofs.YtjdepdgoaopfoaaDoor
