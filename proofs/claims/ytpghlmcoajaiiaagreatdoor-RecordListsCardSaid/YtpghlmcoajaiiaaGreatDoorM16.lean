/- Texts that other texts of this claim lean on, one behind the other. -/
import Derived.Test.YtpghlmcoajaiiaaGreatDoorM15
import Derived.Test.YtpghlmcoajaiiaaGreatDoorM14
import Derived.Test.YtpghlmcoajaiiaaGreatDoorM8
import Derived.Test.YtpghlmcoajaiiaaGreatDoorM2
import Derived.Test.YtpghlmcoajaiiaaGreatDoorM3
import Derived.Test.YtpghlmcoajaiiaaGreatDoorM5
import Derived.Deep.RegionHeld3
import Derived.Test.YtpghlmcoajaiiaaGreatDoorM7
import Derived.Test.YtpghlmcoajaiiaaGreatDoorM6
/- jalousieref21: Put. -/
namespace Go.Proofs.YtpghlmcoajaiiaaGreatDoor
open Go.RowKit

set_option maxRecDepth 100000 in
set_option maxHeartbeats 4000000 in
set_option maxRecDepth 100000 in
theorem rput21 {F : Nat → Prop} {w : World} {cs : List Value} {v : Vw} (hF : ∀ b, F b → b < w.heap.size) (h : RViewOn F w cs v) (hw : Whole v.lv v.dir) (hn : v.l.length ≤ 1000) (name : List UInt8) {p : Nat} {bk : Bkt} (hfind : findR name v.l 0 = (p : Int)) (hbk : v.l[p]? = some bk) (hk : keyOk bk.name) (hwb : Whole bk.lv bk.tree) {key d : List UInt8} (hkey : keyOk key) (hd9 : d.length ≤ 400) :
    Calls Tryz.prog 35 #[.agg cs.toArray, .string (strOf name), .string (strOf key), .string (strOf d)] w fun e w' => ∃ cs', e = .returned (.tuple #[.agg cs'.toArray, .int .i64 0]) ∧ RViewOn (Fr F w) w' cs' ⟨v.lv + 1, putW v.lv v.dir bk.name ⟨[0, 0], []⟩, v.l.set p ⟨bk.name, bk.lv + 1, putW bk.lv bk.tree key ⟨d, []⟩⟩⟩ ∧ Below w.heap.size w w' := by
  obtain ⟨a1, c1, a, c, rfl, hd, hl, hfa⟩ := h.raw
  obtain ⟨pg, hpg⟩ : ∃ z, v.dir.page = z := ⟨_, rfl⟩
  obtain ⟨lf, hlf⟩ : ∃ z, v.dir.isLeaf = z := ⟨_, rfl⟩
  obtain ⟨cn, hcn⟩ : ∃ z, cntT v.dir = z := ⟨_, rfl⟩
  have hpm : p < v.l.length := (List.getElem?_eq_some_iff.1 hbk).1
  obtain ⟨W1, hW1⟩ : ∃ x, w.alloc (.cells #[.int .i64 pg, .bool lf, .slice a1 cn c1, .slice a v.l.length c] 79) = x := ⟨_, rfl⟩
  obtain ⟨W2, hW2⟩ : ∃ x, W1.alloc (.cells #[.int .i64 0, .bool false, .slice none 0 0, .slice none 0 0] 79) = x := ⟨_, rfl⟩
  have hs1 : W1.heap.size = w.heap.size + 1 := by rw [← hW1, World.size_alloc]
  have hs2 : W2.heap.size = w.heap.size + 2 := by rw [← hW2, World.size_alloc, hs1]
  have hb2 : Below w.heap.size w W2 := by rw [← hW2, ← hW1]; exact Below.al (Below.al (Below.refl _ _))
  have hx2 : Boxes W2 [(w.heap.size + 1, [.int .i64 0, .bool false, .slice none 0 0, .slice none 0 0]), (w.heap.size, [.int .i64 pg, .bool lf, .slice a1 cn c1, .slice a v.l.length c])] := by
    rw [← hW2, ← hs1]
    refine Boxes.alloc ?_ #[.int .i64 0, .bool false, .slice none 0 0, .slice none 0 0] 79 rfl
    rw [← hW1]
    exact (Boxes.nil w).alloc #[.int .i64 pg, .bool lf, .slice a1 cn c1, .slice a v.l.length c] 79 (b := w.heap.size) rfl
  have CK := rkey21 key W2
  rw [keyB1_ok hkey] at CK
  have CF := rfind21 (d0 := .int .i64 pg) (d1 := .bool lf) (d2 := .slice a1 cn c1) (TabR.move hl hb2 (fun cs y _ h => h.agree (.of_below hb2))) hn name
  rw [hfind] at CF
  rw [hpg, hlf, hcn] at h hd ⊢
  have hds := strOf_size d
  obtain ⟨dn, hdn⟩ : ∃ z, d.length = z := ⟨_, rfl⟩
  rw [hdn] at hds
  have HDN := Lib.hid hdn
  have e0 : decide ((400 : Int) < (dn : Int)) = false := by simp; omega
  have HX2 := Lib.hid hx2
  have HB2 := Lib.hid hb2
  have HH := Lib.hid h
  have HHL := Lib.hid hl
  have HN := Lib.hid hn
  have HBK := Lib.hid hbk
  have HPM := Lib.hid hpm
  have g0 := hx2.cell 1 0 rfl rfl
  have g1 := hx2.cell 1 1 rfl rfl
  have g2 := hx2.cell 1 2 rfl rfl
  have g3 := hx2.cell 1 3 rfl rfl
  obtain ⟨m, hm⟩ : ∃ z, v.l.length = z := ⟨_, rfl⟩
  have HM := Lib.hid hm
  rw [hm] at hpm CF g3 HX2 HH HHL ⊢
  have d0 : decide ((p : Int) < (m : Int)) = true := by simp; omega
  have d1 : decide ((0 : Int) ≤ (p : Int)) = true := by simp
  have d2 : decide ((p : Int) < 0) = false := by simp
  have d3 : ¬ ((p : Int) < 0) := by omega
  clear hx2 hb2 h hd hl hfa hn hbk hm hdn hpg hlf hcn hfind
  rw [HM.out] at hW1
  go_enter Tryz.func35, Tryz.ntmps35
  go_wp2_with fail
  refine CK.mono ?_
  rintro e W3 ⟨rfl, rfl⟩
  go_wp2_with fail
  refine CF.mono ?_
  rintro e w6 ⟨rfl, hb6⟩
  have hx6 := HX2.out.step hb6
  have HX6 := Lib.hid hx6
  have HB6 := Lib.hid (below_via HB2.out hb6)
  have h26 : w.heap.size + 2 ≤ w6.heap.size := by have := hb6.size; omega
  clear CK CF g0 g1 g2 g3 hb6 hx6
  go_upto_region 7 with (fail)
  have hl6 := TabR.move HHL.out HB6.out (fun cs y _ h => h.agree (.of_below HB6.out))
  obtain ⟨qb, off, y, ycs, rfl, hqb, hy, _, ⟨ts, rfl, hn6⟩, hcell⟩ := TabR.at hl6 hpm
  rw [HBK.out] at hy
  cases hy
  obtain ⟨x1, k1, ets⟩ := hn6.three
  subst ets
  obtain ⟨tp, htp⟩ : ∃ z, bk.tree.page = z := ⟨_, rfl⟩
  obtain ⟨tf, htf⟩ : ∃ z, bk.tree.isLeaf = z := ⟨_, rfl⟩
  obtain ⟨tc, htc⟩ : ∃ z, cntT bk.tree = z := ⟨_, rfl⟩
  have f1 := hcell 1 _ rfl
  have f2 := hcell 2 _ rfl
  have f3 := hcell 3 _ rfl
  rw [htp] at f1
  rw [htf] at f2
  rw [htc] at f3
  rw [htp, htf, htc] at hn6
  have hqw : qb < w.heap.size := by
    obtain ⟨b9, off9, y9, cs9, e9, h9, _⟩ := TabR.at HHL.out hpm
    cases e9
    exact h9
  have hq1 : qb ≠ w.heap.size + 1 := by omega
  have hq6 : qb < w6.heap.size := by omega
  have h06 : w.heap.size < w6.heap.size := by omega
  have HCP : ∀ W, Below w6.heap.size w6 W → Calls Tryz.prog 42 #[.agg #[.int .i64 tp, .bool tf, .slice x1 tc k1], .string (strOf key), .string (strOf d)] W (RNodeTo F (bk.lv + 1) W (putW bk.lv bk.tree key ⟨d, []⟩)) := fun W hW => rPut_whole (fun b hb => Nat.lt_of_lt_of_le (hF b hb) (below_via HB6.out hW).size) (hn6.below hW) hwb key d hkey hd9
  have t0 : ∀ W, AgreeF (fun x => x ≠ w.heap.size + 1) w6 W → W.cell? ⟨w.heap.size, 0, none⟩ = some (.int .i64 pg) := fun W hW => (hW.cell (b := w.heap.size) (by show w.heap.size ≠ w.heap.size + 1; omega) h06).trans (HX6.out.cell 1 0 rfl rfl)
  have t1 : ∀ W, AgreeF (fun x => x ≠ w.heap.size + 1) w6 W → W.cell? ⟨w.heap.size, 1, none⟩ = some (.bool lf) := fun W hW => (hW.cell (b := w.heap.size) (by show w.heap.size ≠ w.heap.size + 1; omega) h06).trans (HX6.out.cell 1 1 rfl rfl)
  have t2 : ∀ W, AgreeF (fun x => x ≠ w.heap.size + 1) w6 W → W.cell? ⟨w.heap.size, 2, none⟩ = some (.slice a1 cn c1) := fun W hW => (hW.cell (b := w.heap.size) (by show w.heap.size ≠ w.heap.size + 1; omega) h06).trans (HX6.out.cell 1 2 rfl rfl)
  have t3 : ∀ W, AgreeF (fun x => x ≠ w.heap.size + 1) w6 W → W.cell? ⟨w.heap.size, 3, none⟩ = some (.slice (some ⟨qb, off, none⟩) m c) := fun W hW => (hW.cell (b := w.heap.size) (by show w.heap.size ≠ w.heap.size + 1; omega) h06).trans (HX6.out.cell 1 3 rfl rfl)
  have t4 : ∀ W, AgreeF (fun x => x ≠ w.heap.size + 1) w6 W → W.cell? ⟨qb, off + p * 4 + 1, none⟩ = some (.int .i64 tp) := fun W hW => (hW.cell (b := qb) hq1 hq6).trans f1
  have t5 : ∀ W, AgreeF (fun x => x ≠ w.heap.size + 1) w6 W → W.cell? ⟨qb, off + p * 4 + 2, none⟩ = some (.bool tf) := fun W hW => (hW.cell (b := qb) hq1 hq6).trans f2
  have t6 : ∀ W, AgreeF (fun x => x ≠ w.heap.size + 1) w6 W → W.cell? ⟨qb, off + p * 4 + 3, none⟩ = some (.slice x1 tc k1) := fun W hW => (hW.cell (b := qb) hq1 hq6).trans f3
  have HCW : ∀ (W8 : World) (cs8 : List Value), Below w6.heap.size w6 W8 → RNodeOn (fun b => F b ∨ w6.heap.size ≤ b) (bk.lv + 1) W8 cs8 (putW bk.lv bk.tree key ⟨d, []⟩) → Calls Tryz.prog 81 #[.agg #[.int .i64 pg, .bool lf, .slice a1 cn c1, .slice (some ⟨qb, off, none⟩) m c], .int .i64 (p : Int), .agg cs8.toArray] W8 fun e w' => ∃ cs', e = .returned (.agg cs'.toArray) ∧ RViewOn (fun b => F b ∨ w6.heap.size ≤ b) w' cs' ⟨v.lv + 1, putW v.lv v.dir bk.name ⟨[0, 0], []⟩, v.l.set p ⟨bk.name, bk.lv + 1, putW bk.lv bk.tree key ⟨d, []⟩⟩⟩ ∧ Below W8.heap.size W8 w' := fun W8 cs8 hW8 h8 => by
    have hv8 := (HH.out.below (below_via HB6.out hW8)).mono (G := fun b => (F b ∨ w6.heap.size ≤ b) ∧ b < W8.heap.size) (fun b hb => ⟨.inl hb, Nat.lt_of_lt_of_le (hF b hb) (below_via HB6.out hW8).size⟩)
    refine (rwith21 (fun b hb => hb.2) hv8 hw HN.out HBK.out hk h8.lt).mono ?_
    rintro e w' ⟨cs', rfl, hv', hb'⟩
    exact ⟨cs', rfl, hv'.mono (fun b hb => by rcases hb with hb | hb; exact hb.1; exact .inr (Nat.le_trans hW8.size hb)), hb'⟩
  have hA0 : AgreeF (fun x => x ≠ w.heap.size + 1) w6 w6.drew := AgreeF.dr (AgreeF.refl _)
  clear hl6 hcell f1 f2 f3 hqw hq1 hq6 h06
  refine wp_region_noPanic ?_
  refine wp_region_held_drew (S := (fun W => AgreeF (fun x => x ≠ w.heap.size + 1) w6 W)) (by kernel_rfl) (by (repeat (with_reducible first | assumption | exact AgreeF.refl _ | apply AgreeF.al | apply AgreeF.dr | apply AgreeF.st))) (fun hHeld => ?_)
  refine wpAnyH_take (i := 0) (oi := { dst := some 28, op := Op.load 79 (Operand.tmp 4), type := 79, pos := "ref.go:93", after := #[], guard := none }) (v := ?_) rfl (by kernel_rfl) (by kernel_rfl) (by kernel_rfl) (fun _ _ _ h => h) (Or.inl ⟨by rfl, ?_⟩) (by assumption) ?_
  rotate_left
  · (intro W hW; (try dsimp only at hW); go_simp <;> (with_reducible rfl))
  try simp only [Act.put, List.setIfInBounds_toArray, List.set_cons_zero, List.set_cons_succ]
  refine wpAnyH_take (i := 1) (oi := { dst := some 29, op := Op.move (Operand.tmp 11), type := 3, pos := "ref.go:93", after := #[], guard := none }) (v := ?_) rfl (by kernel_rfl) (by kernel_rfl) (by kernel_rfl) (fun _ _ _ h => h) (Or.inl ⟨by rfl, ?_⟩) (by assumption) ?_
  rotate_left
  · (intro W hW; (try dsimp only at hW); go_simp <;> (with_reducible rfl))
  try simp only [Act.put, List.setIfInBounds_toArray, List.set_cons_zero, List.set_cons_succ]
  refine wpAnyH_take (i := 2) (oi := { dst := some 30, op := Op.fieldAddr 79 (Operand.tmp 4) 1, type := 0, pos := "ref.go:93", after := #[], guard := none }) (v := ?_) rfl (by kernel_rfl) (by kernel_rfl) (by kernel_rfl) (fun _ _ _ h => h) (Or.inl ⟨by rfl, ?_⟩) (by assumption) ?_
  rotate_left
  · (intro W hW; (try dsimp only at hW); go_simp <;> (with_reducible rfl))
  try simp only [Act.put, List.setIfInBounds_toArray, List.set_cons_zero, List.set_cons_succ]
  refine wpAnyH_take (i := 3) (oi := { dst := some 31, op := Op.load 77 (Operand.tmp 30), type := 77, pos := "ref.go:93", after := #[{ on := 2, ground := Ground.data }], guard := none }) (v := ?_) rfl (by kernel_rfl) (by kernel_rfl) (by kernel_rfl) (fun _ _ _ h => h) (Or.inl ⟨by rfl, ?_⟩) (by assumption) ?_
  rotate_left
  · (intro W hW; (try dsimp only at hW); go_simp <;> (with_reducible rfl))
  try simp only [Act.put, List.setIfInBounds_toArray, List.set_cons_zero, List.set_cons_succ]
  refine wpAnyH_take (i := 4) (oi := { dst := some 32, op := Op.move (Operand.tmp 11), type := 3, pos := "ref.go:93", after := #[], guard := none }) (v := ?_) rfl (by kernel_rfl) (by kernel_rfl) (by kernel_rfl) (fun _ _ _ h => h) (Or.inl ⟨by rfl, ?_⟩) (by assumption) ?_
  rotate_left
  · (intro W hW; (try dsimp only at hW); go_simp <;> (with_reducible rfl))
  try simp only [Act.put, List.setIfInBounds_toArray, List.set_cons_zero, List.set_cons_succ]
  refine wpAnyH_take (i := 5) (oi := { dst := some 33, op := Op.indexAddr 77 (Operand.tmp 31) (Operand.tmp 32), type := 0, pos := "ref.go:93", after := #[{ on := 3, ground := Ground.data }, { on := 4, ground := Ground.data }], guard := none }) (v := ?_) rfl (by kernel_rfl) (by kernel_rfl) (by kernel_rfl) (fun _ _ _ h => h) (Or.inl ⟨by rfl, ?_⟩) (by assumption) ?_
  rotate_left
  · (intro W hW; (try dsimp only at hW); go_simp <;> (with_reducible rfl))
  try simp only [Act.put, List.setIfInBounds_toArray, List.set_cons_zero, List.set_cons_succ]
  refine wpAnyH_take (i := 6) (oi := { dst := some 34, op := Op.fieldAddr 178 (Operand.tmp 33) 1, type := 0, pos := "ref.go:93", after := #[{ on := 5, ground := Ground.data }], guard := none }) (v := ?_) rfl (by kernel_rfl) (by kernel_rfl) (by kernel_rfl) (fun _ _ _ h => h) (Or.inl ⟨by rfl, ?_⟩) (by assumption) ?_
  rotate_left
  · (intro W hW; (try dsimp only at hW); go_simp <;> (with_reducible rfl))
  try simp only [Act.put, List.setIfInBounds_toArray, List.set_cons_zero, List.set_cons_succ]
  refine wpAnyH_take (i := 7) (oi := { dst := some 35, op := Op.load 27 (Operand.tmp 34), type := 27, pos := "ref.go:93", after := #[{ on := 6, ground := Ground.data }], guard := none }) (v := ?_) rfl (by kernel_rfl) (by kernel_rfl) (by kernel_rfl) (fun _ _ _ h => h) (Or.inl ⟨by rfl, ?_⟩) (by assumption) ?_
  rotate_left
  · (intro W hW; (try dsimp only at hW); go_simp <;> (with_reducible rfl))
  try simp only [Act.put, List.setIfInBounds_toArray, List.set_cons_zero, List.set_cons_succ]
  refine wpAnyH_take (i := 8) (oi := { dst := some 36, op := Op.move (Operand.tmp 2), type := 9, pos := "ref.go:93", after := #[], guard := none }) (v := ?_) rfl (by kernel_rfl) (by kernel_rfl) (by kernel_rfl) (fun _ _ _ h => h) (Or.inl ⟨by rfl, ?_⟩) (by assumption) ?_
  rotate_left
  · (intro W hW; (try dsimp only at hW); go_simp <;> (with_reducible rfl))
  try simp only [Act.put, List.setIfInBounds_toArray, List.set_cons_zero, List.set_cons_succ]
  refine wpAnyH_take (i := 9) (oi := { dst := some 37, op := Op.move (Operand.tmp 3), type := 9, pos := "ref.go:93", after := #[], guard := none }) (v := ?_) rfl (by kernel_rfl) (by kernel_rfl) (by kernel_rfl) (fun _ _ _ h => h) (Or.inl ⟨by rfl, ?_⟩) (by assumption) ?_
  rotate_left
  · (intro W hW; (try dsimp only at hW); go_simp <;> (with_reducible rfl))
  try simp only [Act.put, List.setIfInBounds_toArray, List.set_cons_zero, List.set_cons_succ]
  refine wpAnyH_ready (rs := [10]) (by kernel_rfl) (by simp) (AllReadyH.cons (o := { dst := some 38, op := Op.call { callee := Callee.value (Operand.func 42), args := #[Operand.tmp 35, Operand.tmp 36, Operand.tmp 37], argTypes := #[27, 9, 9] }, type := 27, pos := "ref.go:93", after := #[{ on := 7, ground := Ground.data }, { on := 8, ground := Ground.data }, { on := 9, ground := Ground.data }], guard := none }) rfl (fun K hK => ?_) AllReadyH.nil)
  (rw [if_pos (by rfl)]; go_wp2_with (go_at_call 42; (with_reducible refine (HCP _ ?_).mono ?_); (focus (repeat (with_reducible first | assumption | exact Below.refl _ _ | apply Below.al | apply Below.dr))); rintro e w8 ⟨cs8, rfl, hn8, hb8⟩; obtain ⟨y1, y2, ecs8⟩ := hn8.three; subst ecs8; have hB8 : Below w6.heap.size w6 w8 := below_via (by (repeat (with_reducible first | assumption | exact Below.refl _ _ | apply Below.al | apply Below.dr))) hb8; have hA8 : AgreeF (fun x => x ≠ w.heap.size + 1) w6 w8 := AgreeF.of_below hB8; have CW := HCW w8 _ hB8 (hn8.mono (fun b hb => by rcases hb with hb | hb; exact .inl hb; exact .inr hb))))
  refine hK.out _ _ (by (repeat (with_reducible first | assumption | exact AgreeF.refl _ | apply AgreeF.al | apply AgreeF.dr | apply AgreeF.st))) (fun hHeld => ?_)
  clear hK K
  try simp only [Act.put, List.setIfInBounds_toArray, List.set_cons_zero, List.set_cons_succ]
  refine wpAnyH_ready (rs := [11]) (by kernel_rfl) (by simp) (AllReadyH.cons (o := { dst := some 39, op := Op.call { callee := Callee.value (Operand.func 81), args := #[Operand.tmp 28, Operand.tmp 29, Operand.tmp 38], argTypes := #[79, 3, 27] }, type := 79, pos := "ref.go:93", after := #[{ on := 0, ground := Ground.data }, { on := 1, ground := Ground.data }, { on := 10, ground := Ground.data }, { on := 10, ground := Ground.chain }], guard := none }) rfl (fun K hK => ?_) AllReadyH.nil)
  (rw [if_pos (by rfl)]; go_wp2_with (go_at_call 81; (with_reducible refine CW.mono ?_); rintro e w9 ⟨cs9, rfl, hv9, hb9⟩; obtain ⟨g1, g2, g3, g4, ecs9, -, -, -⟩ := hv9.raw; rw [List.length_set, HM.out] at ecs9; subst ecs9; have hB9 : Below w6.heap.size w6 w9 := below_via hB8 hb9; have hA9 : AgreeF (fun x => x ≠ w.heap.size + 1) w6 w9 := AgreeF.of_below hB9; have hx9 := HX6.out.step hB9; have z0 := hx9.cell 0 0 rfl rfl; have u0 := hx9.frozen 0 0 rfl; have z1 := hx9.cell 0 1 rfl rfl; have u1 := hx9.frozen 0 1 rfl; have z2 := hx9.cell 0 2 rfl rfl; have u2 := hx9.frozen 0 2 rfl; have z3 := hx9.cell 0 3 rfl rfl; have u3 := hx9.frozen 0 3 rfl))
  refine hK.out _ _ (by (repeat (with_reducible first | assumption | exact AgreeF.refl _ | apply AgreeF.al | apply AgreeF.dr | apply AgreeF.st))) (fun hHeld => ?_)
  clear hK K
  try simp only [Act.put, List.setIfInBounds_toArray, List.set_cons_zero, List.set_cons_succ]
  refine wpAnyH_ready (rs := [12]) (by kernel_rfl) (by simp) (AllReadyH.cons (o := { dst := none, op := Op.store 79 (Operand.tmp 8) (Operand.tmp 39), type := 0, pos := "ref.go:93", after := #[{ on := 11, ground := Ground.data }, { on := 11, ground := Ground.chain }, { on := 0, ground := Ground.phase }, { on := 1, ground := Ground.phase }, { on := 2, ground := Ground.phase }, { on := 3, ground := Ground.phase }, { on := 4, ground := Ground.phase }, { on := 5, ground := Ground.phase }, { on := 6, ground := Ground.phase }, { on := 7, ground := Ground.phase }, { on := 8, ground := Ground.phase }, { on := 9, ground := Ground.phase }, { on := 10, ground := Ground.phase }, { on := 11, ground := Ground.phase }], guard := none }) rfl (fun K hK => ?_) AllReadyH.nil)
  (rw [if_pos (by rfl)]; go_wp2_with (fail))
  refine hK.out _ _ (by (repeat (with_reducible first | assumption | exact AgreeF.refl _ | apply AgreeF.al | apply AgreeF.dr | apply AgreeF.st))) (fun hHeld => ?_)
  clear hK K
  try simp only [Act.put, List.setIfInBounds_toArray, List.set_cons_zero, List.set_cons_succ]
  refine wpAnyH_take (i := 13) (oi := { dst := some 9, op := Op.assign (Operand.const (Value.int IntKind.i64 0)), type := 32, pos := "ref.go:93", after := #[{ on := 12, ground := Ground.chain }, { on := 0, ground := Ground.phase }, { on := 1, ground := Ground.phase }, { on := 2, ground := Ground.phase }, { on := 3, ground := Ground.phase }, { on := 4, ground := Ground.phase }, { on := 5, ground := Ground.phase }, { on := 6, ground := Ground.phase }, { on := 7, ground := Ground.phase }, { on := 8, ground := Ground.phase }, { on := 9, ground := Ground.phase }, { on := 10, ground := Ground.phase }, { on := 11, ground := Ground.phase }, { on := 12, ground := Ground.phase }], guard := none }) (v := ?_) rfl (by kernel_rfl) (by kernel_rfl) (by kernel_rfl) (fun _ _ _ h => h) (Or.inl ⟨by rfl, ?_⟩) (by assumption) ?_
  rotate_left
  · (intro W hW; (try dsimp only at hW); go_simp <;> (with_reducible rfl))
  try simp only [Act.put, List.setIfInBounds_toArray, List.set_cons_zero, List.set_cons_succ]
  refine wpAnyH_done (by kernel_rfl) ?_ _
  refine NoPanic.normal ?_
  have HB9 := Lib.hid (below_via HB6.out hB9)
  have HV9 := Lib.hid hv9
  have hnf : ¬ (fun b => F b ∨ w6.heap.size ≤ b) (w.heap.size + 1) := by
    intro hb
    rcases hb with hb | hb
    · have := hF _ hb
      omega
    · omega
  have HNF := Lib.hid hnf
  have H6 := Lib.hid HB6.out.size
  have HLEN : Hid ((v.l.set p (⟨bk.name, bk.lv + 1, putW bk.lv bk.tree key ⟨d, []⟩⟩ : Bkt)).length = m) := Lib.hid (by rw [List.length_set]; exact HM.out)
  clear hv9 hn8 hHeld hA8 hA9 hB9 hB8 hx9 t0 t1 t2 t3 t4 t5 t6 HCP HCW CW hnf
  go_wp2_with fail
  generalize putW v.lv v.dir bk.name ⟨[0, 0], []⟩ = PT at *
  generalize (v.l.set p (⟨bk.name, bk.lv + 1, putW bk.lv bk.tree key ⟨d, []⟩⟩ : Bkt)) = PL at *
  have hnf : ¬ (fun b => F b ∨ w6.heap.size ≤ b) (w.heap.size + 1) := HNF.out
  have hle : w.heap.size ≤ w.heap.size + 1 := by omega
  have h6 := H6.out
  refine bodyPost_ret (v := .tuple #[.agg #[.int .i64 PT.page, .bool PT.isLeaf, .slice g1 (cntT PT) g2, .slice g3 m g4], .int .i64 0]) (by simp [results, Tryz.results35, go_sem, z0, z1, z2, z3]) rfl ?_
  refine ⟨_, rfl, (HV9.out.agree ((((AgreeF.refl w9).set (.inl hnf)).set (.inl hnf)).set (.inl hnf) |>.set (.inl hnf))).mono ?_, ((((HB9.out.setCell hle _).setCell hle _).setCell hle _).setCell hle _)⟩
  intro b hb
  rcases hb with hb | hb
  · exact .inl hb
  · exact .inr (Nat.le_trans h6 hb)
set_option maxRecDepth 100000 in
set_option maxHeartbeats 4000000 in
set_option maxRecDepth 100000 in
theorem rput21_bad {F : Nat → Prop} {w : World} {cs : List Value} {v : Vw} (hF : ∀ b, F b → b < w.heap.size) (h : RViewOn F w cs v) (name : List UInt8) {key d : List UInt8} (hbad : keyB1 key = false ∨ 400 < d.length) :
    Calls Tryz.prog 35 #[.agg cs.toArray, .string (strOf name), .string (strOf key), .string (strOf d)] w fun e w' => e = .returned (.tuple #[.agg cs.toArray, .int .i64 34]) ∧ RViewOn F w' cs v ∧ Below w.heap.size w w' := by
  obtain ⟨a1, c1, a, c, rfl, hd, hl, hfa⟩ := h.raw
  obtain ⟨pg, hpg⟩ : ∃ z, v.dir.page = z := ⟨_, rfl⟩
  obtain ⟨lf, hlf⟩ : ∃ z, v.dir.isLeaf = z := ⟨_, rfl⟩
  obtain ⟨cn, hcn⟩ : ∃ z, cntT v.dir = z := ⟨_, rfl⟩
  obtain ⟨m, hm⟩ : ∃ z, v.l.length = z := ⟨_, rfl⟩
  rw [hpg, hlf, hcn, hm] at h ⊢
  obtain ⟨W1, hW1⟩ : ∃ x, w.alloc (.cells #[.int .i64 pg, .bool lf, .slice a1 cn c1, .slice a m c] 79) = x := ⟨_, rfl⟩
  obtain ⟨W2, hW2⟩ : ∃ x, W1.alloc (.cells #[.int .i64 0, .bool false, .slice none 0 0, .slice none 0 0] 79) = x := ⟨_, rfl⟩
  have hs1 : W1.heap.size = w.heap.size + 1 := by rw [← hW1, World.size_alloc]
  have hb2 : Below w.heap.size w W2 := by rw [← hW2, ← hW1]; exact Below.al (Below.al (Below.refl _ _))
  have hx2 : Boxes W2 [(w.heap.size + 1, [.int .i64 0, .bool false, .slice none 0 0, .slice none 0 0]), (w.heap.size, [.int .i64 pg, .bool lf, .slice a1 cn c1, .slice a m c])] := by
    rw [← hW2, ← hs1]
    refine Boxes.alloc ?_ #[.int .i64 0, .bool false, .slice none 0 0, .slice none 0 0] 79 rfl
    rw [← hW1]
    exact (Boxes.nil w).alloc #[.int .i64 pg, .bool lf, .slice a1 cn c1, .slice a m c] 79 (b := w.heap.size) rfl
  have CK := rkey21 key W2
  have hds := strOf_size d
  obtain ⟨dn, hdn⟩ : ∃ z, d.length = z := ⟨_, rfl⟩
  obtain ⟨kB, hkB⟩ : ∃ z, keyB1 key = z := ⟨_, rfl⟩
  rw [hkB] at CK hbad
  rw [hdn] at hds hbad
  have g0 := hx2.cell 1 0 rfl rfl
  have g1 := hx2.cell 1 1 rfl rfl
  have g2 := hx2.cell 1 2 rfl rfl
  have g3 := hx2.cell 1 3 rfl rfl
  have z0 := hx2.cell 0 0 rfl rfl
  have u0 := hx2.frozen 0 0 rfl
  have z1 := hx2.cell 0 1 rfl rfl
  have u1 := hx2.frozen 0 1 rfl
  have z2 := hx2.cell 0 2 rfl rfl
  have u2 := hx2.frozen 0 2 rfl
  have z3 := hx2.cell 0 3 rfl rfl
  have u3 := hx2.frozen 0 3 rfl
  have hnf : ¬ F (w.heap.size + 1) := fun hb => by
    have := hF _ hb
    omega
  have hle : w.heap.size ≤ w.heap.size + 1 := by omega
  have HEND := Lib.hid (And.intro ((h.below hb2).agree ((((AgreeF.refl W2).set (p := ⟨w.heap.size + 1, 0, none⟩) (u := .int .i64 pg) (.inl hnf)).set (p := ⟨w.heap.size + 1, 1, none⟩) (u := .bool lf) (.inl hnf)).set (p := ⟨w.heap.size + 1, 2, none⟩) (u := .slice a1 cn c1) (.inl hnf) |>.set (p := ⟨w.heap.size + 1, 3, none⟩) (u := .slice a m c) (.inl hnf))) ((((hb2.setCell (p := ⟨w.heap.size + 1, 0, none⟩) hle (.int .i64 pg)).setCell (p := ⟨w.heap.size + 1, 1, none⟩) hle (.bool lf)).setCell (p := ⟨w.heap.size + 1, 2, none⟩) hle (.slice a1 cn c1)).setCell (p := ⟨w.heap.size + 1, 3, none⟩) hle (.slice a m c)))
  clear hx2 hb2 h hd hl hfa hpg hlf hcn hm hdn hkB hnf hle
  cases kB with
  | false =>
    go_enter Tryz.func35, Tryz.ntmps35
    go_wp2_with fail
    refine CK.mono ?_
    rintro e W5 ⟨rfl, rfl⟩
    go_wp2_with fail
    refine bodyPost_ret (v := .tuple #[.agg #[.int .i64 pg, .bool lf, .slice a1 cn c1, .slice a m c], .int .i64 34]) (by simp [results, Tryz.results35, go_sem, z0, z1, z2, z3]) rfl ?_
    exact ⟨rfl, HEND.out.1, HEND.out.2⟩
  | true =>
    have e0 : decide ((400 : Int) < (dn : Int)) = true := by
      rcases hbad with h | h
      · cases h
      · simp; omega
    clear hbad
    go_enter Tryz.func35, Tryz.ntmps35
    go_wp2_with fail
    refine CK.mono ?_
    rintro e W5 ⟨rfl, rfl⟩
    go_wp2_with fail
    refine bodyPost_ret (v := .tuple #[.agg #[.int .i64 pg, .bool lf, .slice a1 cn c1, .slice a m c], .int .i64 34]) (by simp [results, Tryz.results35, go_sem, z0, z1, z2, z3]) rfl ?_
    exact ⟨rfl, HEND.out.1, HEND.out.2⟩
end Go.Proofs.YtpghlmcoajaiiaaGreatDoor

/- jalousieref21: Make on a view that has none. -/
namespace Go.Proofs.YtpghlmcoajaiiaaGreatDoor
open Go.RowKit

set_option maxRecDepth 100000 in
set_option maxHeartbeats 4000000 in
set_option maxRecDepth 100000 in
theorem rmake21 {F : Nat → Prop} {w : World} {a1 : Option Addr} {c1 : Nat} (hF : ∀ b, F b → b < w.heap.size) (h : RViewOn F w [.int .i64 0, .bool true, .slice a1 0 c1, .slice none 0 0] ⟨1, .leaf 0 [], []⟩) (hw : Whole 1 (.leaf 0 [])) (name : List UInt8) (hk : keyOk name) :
    Calls Tryz.prog 33 #[.agg #[.int .i64 0, .bool true, .slice a1 0 c1, .slice none 0 0], .string (strOf name)] w fun e w' => ∃ cs', e = .returned (.tuple #[.agg cs'.toArray, .int .i64 0]) ∧ RViewOn (Fr F w) w' cs' ⟨2, putW 1 (.leaf 0 []) name ⟨[0, 0], []⟩, [⟨name, 1, .leaf 0 []⟩]⟩ ∧ Below w.heap.size w w' := by
  obtain ⟨x1, k1, x2, k2, ecs, hd, hl, hfa⟩ := h.raw
  cases ecs
  obtain ⟨W1, hW1⟩ : ∃ x, w.alloc (.cells #[.int .i64 0, .bool true, .slice a1 0 c1, .slice none 0 0] 79) = x := ⟨_, rfl⟩
  obtain ⟨W2, hW2⟩ : ∃ x, W1.alloc (.cells #[.int .i64 0, .bool false, .slice none 0 0, .slice none 0 0] 79) = x := ⟨_, rfl⟩
  have hs1 : W1.heap.size = w.heap.size + 1 := by rw [← hW1, World.size_alloc]
  have hs2 : W2.heap.size = w.heap.size + 2 := by rw [← hW2, World.size_alloc, hs1]
  have hb2 : Below w.heap.size w W2 := by rw [← hW2, ← hW1]; exact Below.al (Below.al (Below.refl _ _))
  have hx2 : Boxes W2 [(w.heap.size + 1, [.int .i64 0, .bool false, .slice none 0 0, .slice none 0 0]), (w.heap.size, [.int .i64 0, .bool true, .slice a1 0 c1, .slice none 0 0])] := by
    rw [← hW2, ← hs1]
    refine Boxes.alloc ?_ #[.int .i64 0, .bool false, .slice none 0 0, .slice none 0 0] 79 rfl
    rw [← hW1]
    exact (Boxes.nil w).alloc #[.int .i64 0, .bool true, .slice a1 0 c1, .slice none 0 0] 79 (b := w.heap.size) rfl
  have CK := rkey21 name W2
  rw [keyB1_ok hk] at CK
  have CF := rfind21 (v := ⟨1, .leaf 0 [], []⟩) (d0 := .int .i64 0) (d1 := .bool true) (d2 := .slice a1 0 c1) (TabR.move hl hb2 (fun cs y _ h => h.agree (.of_below hb2))) (by simp) name
  have efd : findR name ([] : List Bkt) 0 = -1 := rfl
  rw [efd] at CF
  have HX2 := Lib.hid hx2
  have HB2 := Lib.hid hb2
  have HD := Lib.hid hd
  have HW := Lib.hid hw
  have HS2 := Lib.hid hs2
  have g0 := hx2.cell 1 0 rfl rfl
  have g1 := hx2.cell 1 1 rfl rfl
  have g2 := hx2.cell 1 2 rfl rfl
  have g3 := hx2.cell 1 3 rfl rfl
  clear hx2 hb2 h hd hl hfa hw
  go_enter Tryz.func33, Tryz.ntmps33
  go_wp2_with fail
  refine CK.mono ?_
  rintro e W3 ⟨rfl, rfl⟩
  go_wp2_with fail
  refine CF.mono ?_
  rintro e w3 ⟨rfl, hb3⟩
  have hx3 := HX2.out.step hb3
  have HX3 := Lib.hid hx3
  have HB3 := Lib.hid (below_via HB2.out hb3)
  have hs3 : w.heap.size + 2 ≤ w3.heap.size := by have := hb3.size; omega
  have HS3 := Lib.hid hs3
  clear CK CF g0 g1 g2 g3 hb3
  have g0 := hx3.cell 1 0 rfl rfl
  have g1 := hx3.cell 1 1 rfl rfl
  have g2 := hx3.cell 1 2 rfl rfl
  have g3 := hx3.cell 1 3 rfl rfl
  clear hx3 hs3
  go_wp2_with fail
  go_loopw [7] (fun s wr => s = .int .i64 0 ∧ wr = w3) (fun s _ => (intOf s).toNat)
  case atStart => exact ⟨rfl, rfl⟩
  case round =>
    obtain ⟨rfl, rfl⟩ := hrel
    obtain ⟨i0, z0, hi, hz0, hz1, hz2, hz3⟩ := info_rbk
    obtain ⟨v4, w4, hr4, ho4, hg4, _⟩ := run_append_raw (P := Tryz.prog) wr.heap.size 77 178 i0 z0 4 56 Tryz.underlying77 hi hz0 hz1 hz2 hz3 (by decide) (L := []) (M := []) (World.ownsRow_nil wr wr.heap.size 178 4) (TabR.nil _) (by unfold maxLen; omega) (by omega) (Nat.le_refl _)
    have hb34 : Below wr.heap.size wr w4 := (Below.refl _ _).grown hg4 (Nat.le_refl _) (fun k e => by cases e)
    have HI := Lib.hid (And.intro hi (And.intro hz0 (And.intro hz1 (And.intro hz2 hz3))))
    have HO4 := Lib.hid ho4
    have HB34 := Lib.hid hb34
    have HX4 := Lib.hid (HX3.out.step hb34)
    have CE := rempty_any w4 (fun _ => False)
    clear hi hz0 hz1 hz2 hz3 hg4
    go_wp2_with (at_builtin; refine wpList_append_run rfl _ _ _ _ rfl rfl rfl hr4 ?_)
    clear hr4
    have HV4 := Lib.hid (own_ge ho4)
    clear ho4 hb34
    refine CE.mono ?_
    rintro e w5 ⟨cs5, rfl, hn5, hb5⟩
    obtain ⟨a5, c5, e5⟩ := hn5.three
    have e5' : cs5 = [.int .i64 0, .bool true, .slice a5 0 c5] := e5
    subst e5'
    obtain ⟨hi, hz0, hz1, hz2, hz3⟩ := HI.out
    have ho5 : w5.ownsRow wr.heap.size 178 4 v4 0 (flatC []) := own_held HO4.out hb5
    obtain ⟨nC, hnC⟩ : ∃ y : Cl 4, y.1 = [.string (strOf name), .int .i64 0, .bool true, .slice a5 0 c5] := ⟨⟨[.string (strOf name), .int .i64 0, .bool true, .slice a5 0 c5], rfl, by intro u hu; simp at hu; rcases hu with rfl | rfl | rfl | rfl <;> rfl⟩, rfl⟩
    obtain ⟨v6, w6, hr6, ho6, hg6, _⟩ := run_append_new (P := Tryz.prog) (w := w5) wr.heap.size 77 178 i0 z0 4 56 Tryz.underlying77 hi hz0 hz1 hz2 hz3 (by decide) ho5 #[.string (strOf name), .int .i64 0, .bool true, .slice a5 0 c5] rfl (by intro u hu; simp at hu; rcases hu with rfl | rfl | rfl | rfl <;> rfl) (by unfold maxLen; omega) (by omega) (Nat.le_trans HB34.out.size hb5.size)
    have ho6' : w6.ownsRow wr.heap.size 178 4 v6 1 (flatC [nC]) := by rw [flatC_one, hnC]; exact ho6
    have hb35 : Below wr.heap.size wr w5 := below_via HB34.out hb5
    have hb36 : Below wr.heap.size wr w6 := hb35.grown hg6 hb35.size (own_ge ho5)
    obtain ⟨v7, w7, hr7, ho7, hg7, _⟩ := run_append_raw (P := Tryz.prog) (w := w6) wr.heap.size 77 178 i0 z0 4 56 Tryz.underlying77 hi hz0 hz1 hz2 hz3 (by decide) (L := [nC]) (M := []) ho6' (TabR.nil _) (by unfold maxLen; omega) (by omega) hb36.size
    have ho7' : w7.ownsRow wr.heap.size 178 4 v7 1 (flatC [nC]) := by simpa using ho7
    have hb37 : Below wr.heap.size wr w7 := hb36.grown hg7 hb36.size (own_ge ho6')
    have hb57 : Below wr.heap.size w5 w7 := by
      refine (Below.grown ?_ hg6 hb35.size (own_ge ho5)).grown hg7 hb36.size (own_ge ho6')
      exact Below.refl _ _
    have HX6 := Lib.hid (HX3.out.step hb36)
    have g0 := HX6.out.cell 1 0 rfl rfl
    have g1 := HX6.out.cell 1 1 rfl rfl
    have g2 := HX6.out.cell 1 2 rfl rfl
    have g3 := HX6.out.cell 1 3 rfl rfl
    obtain ⟨a7, c7, rfl, hmc7, hc7, hga7⟩ := own_slice ho7'
    obtain ⟨g7, rfl⟩ := hga7 (by omega)
    unfold maxLen at hc7
    have hg7r : wr.heap.size ≤ g7 := own_ge ho7' g7 rfl
    have HG7 := Lib.hid hg7r
    have HX7 := Lib.hid (HX3.out.step hb37)
    have HO7 := Lib.hid ho7'
    have HB37 := Lib.hid hb37
    have HNC := Lib.hid hnC
    have HN5 := Lib.hid hn5
    clear hn5 hi hz0 hz1 hz2 hz3 ho5 ho6 ho6' ho7 ho7' hg6 hg7 hb35 hb36 hb37 hb5 e5 CE hnC
    have hw7 : Below wr.heap.size wr w7 := HB37.out
    have hd7 := HD.out.below (below_via HB3.out hw7)
    have CP : Calls Tryz.prog 42 #[.agg #[.int .i64 0, .bool true, .slice a1 0 c1], .string (strOf name), .string ⟨#[0, 0]⟩] w7 (RNodeTo F 2 w7 (putW 1 (.leaf 0 []) name ⟨[0, 0], []⟩)) := rPut_whole (fun b hb => Nat.lt_of_lt_of_le (hF b hb) (below_via HB3.out hw7).size) hd7 HW.out name [0, 0] hk (by simp)
    clear hd7 hw7
    go_upto_region 12 with (at_builtin; refine wpList_append_run rfl _ _ _ _ rfl rfl rfl hr6 ?_)
    clear hr6
    go_upto_region 13 with (at_builtin; refine wpList_append_run rfl _ _ _ _ rfl rfl rfl hr7 ?_)
    clear hr7 g0 g1 g2 g3
    have g0 := HX7.out.cell 1 0 rfl rfl
    have g1 := HX7.out.cell 1 1 rfl rfl
    have g2 := HX7.out.cell 1 2 rfl rfl
    have g3 := HX7.out.cell 1 3 rfl rfl
    go_wp2_with fail
    refine CP.mono ?_
    rintro e w9 ⟨cs9, rfl, hn9, hb9⟩
    obtain ⟨q1, q2, ecs9⟩ := hn9.three
    subst ecs9
    have hx9 := HX7.out.step hb9
    have z0 := hx9.cell 0 0 rfl rfl
    have u0 := hx9.frozen 0 0 rfl
    have z1 := hx9.cell 0 1 rfl rfl
    have u1 := hx9.frozen 0 1 rfl
    have z2 := hx9.cell 0 2 rfl rfl
    have u2 := hx9.frozen 0 2 rfl
    have z3 := hx9.cell 0 3 rfl rfl
    have u3 := hx9.frozen 0 3 rfl
    have hnf : ¬ Fr F w7 (w.heap.size + 1) := by
      intro hb
      have := HX7.out.lt 0 rfl
      rcases hb with hb | hb
      · have := hF _ hb
        omega
      · omega
    have HNF := Lib.hid hnf
    have HN9 := Lib.hid hn9
    have hB9 : Below w.heap.size w w9 := below_via HB3.out (below_via HB37.out hb9)
    have HB9 := Lib.hid hB9
    have H79 := Lib.hid hb9
    clear hx9 hnf hn9 hB9 hb9 CP g0 g1 g2 g3
    go_wp2_with fail
    generalize putW 1 (.leaf 0 []) name ⟨[0, 0], []⟩ = PT at *
    have hnf : ¬ Fr F w7 (w.heap.size + 1) := HNF.out
    have hle : w.heap.size ≤ w.heap.size + 1 := by omega
    have hsz : w.heap.size + 1 < g7 := by have := HG7.out; have := HS3.out; omega
    have h37 : w.heap.size ≤ w7.heap.size := (below_via HB3.out HB37.out).size
    have hAG : AgreeF (fun x => x ≠ w.heap.size + 1) w9 ((((w9.setCell ⟨w.heap.size + 1, 0, none⟩ (.int .i64 PT.page)).setCell ⟨w.heap.size + 1, 1, none⟩ (.bool PT.isLeaf)).setCell ⟨w.heap.size + 1, 2, none⟩ (.slice q1 (cntT PT) q2)).setCell ⟨w.heap.size + 1, 3, none⟩ (.slice (some ⟨g7, 0, none⟩) 1 c7)) := ((((AgreeF.refl w9).set (.inl (by simp))).set (.inl (by simp))).set (.inl (by simp))).set (.inl (by simp))
    refine bodyPost_ret (v := .tuple #[.agg #[.int .i64 PT.page, .bool PT.isLeaf, .slice q1 (cntT PT) q2, .slice (some ⟨g7, 0, none⟩) 1 c7], .int .i64 0]) (by simp [results, Tryz.results33, go_sem, z0, z1, z2, z3]) rfl ?_
    refine ⟨[.int .i64 PT.page, .bool PT.isLeaf, .slice q1 (cntT PT) q2, .slice (some ⟨g7, 0, none⟩) 1 c7], rfl, ⟨[.int .i64 PT.page, .bool PT.isLeaf, .slice q1 (cntT PT) q2], some ⟨g7, 0, none⟩, c7, rfl, ?nd, ?tb, ?fa⟩, ?be⟩
    case nd => exact RNodeOn.mono (fun b hb => by rcases hb with hb | hb; exact .inl hb; exact .inr (Nat.le_trans h37 hb)) (HN9.out.agree ((((AgreeF.refl w9).set (.inl hnf)).set (.inl hnf)).set (.inl hnf) |>.set (.inl hnf)))
    case tb =>
      obtain ⟨a8, c8, e8, hr8⟩ := Raw.of_own HO7.out rfl
      cases e8
      have hr9 : Raw 4 w9 (some ⟨g7, 0, none⟩) 1 c7 [nC] := Raw.below hr8 H79.out
      have htab : TabR 4 (RBkOn (Fr F w) ((((w9.setCell ⟨w.heap.size + 1, 0, none⟩ (.int .i64 PT.page)).setCell ⟨w.heap.size + 1, 1, none⟩ (.bool PT.isLeaf)).setCell ⟨w.heap.size + 1, 2, none⟩ (.slice q1 (cntT PT) q2)).setCell ⟨w.heap.size + 1, 3, none⟩ (.slice (some ⟨g7, 0, none⟩) 1 c7))) w9 (some ⟨g7, 0, none⟩) 1 c7 [⟨name, 1, .leaf 0 []⟩] := Raw.tab hr9 ⟨rfl, fun i x y hx hy => by
        cases i with
        | succ i => simp at hx
        | zero =>
          simp only [List.getElem?_cons_zero, Option.some.injEq] at hx hy
          subst hx hy
          rw [HNC.out]
          refine ⟨_, rfl, RNodeOn.mk (t := .leaf 0 []) ?_ (Fa.zero _ _)⟩
          obtain ⟨a', c', e', g1', _⟩ := HN5.out.at
          cases e'
          exact unit_any g1'⟩
      exact TabR.agree htab (F := fun x => x ≠ w.heap.size + 1) (.inr (fun b off e => by cases e; omega)) hAG (fun cs y _ h => h)
    case fa => exact .inr (fun b off e => by cases e; exact .inr (by omega))
    case be => exact ((((HB9.out.setCell hle _).setCell hle _).setCell hle _).setCell hle _)
end Go.Proofs.YtpghlmcoajaiiaaGreatDoor

/- The walks of trees: the document's Entries. -/
namespace Go.Proofs.YtpghlmcoajaiiaaGreatDoor
open Go.RowKit

/-- An entry's words. -/
def entC (y : List UInt8 × Tv) : Cl 4 := ⟨[.string (strOf y.1), .string (strOf y.2.data), .slice none 0 0, .slice none 0 0], rfl, by intro u hu; simp at hu; rcases hu with rfl | rfl | rfl <;> rfl⟩
theorem info_Ce : RowInfo Tryz.prog 145 4 80 := row_info (by kernel_rfl)
theorem flat_entC (a : List (Cl 4)) (y : List UInt8 × Tv) : flatC (a ++ [entC y]) = flatC a ++ [.string (strOf y.1), .string (strOf y.2.data), .slice none 0 0, .slice none 0 0] := by
  rw [flatC_append]; exact congrArg (flatC a ++ ·) (List.append_nil _)
/-- What a round reads. -/
def EsS (B : Nat) (sl : Value) (b o : Nat) (k d : Value) (W : World) : Prop := (B < W.heap.size ∧ b < W.heap.size) ∧ W.cell? ⟨B, 2, none⟩ = some sl ∧ W.cell? ⟨b, o, none⟩ = some k ∧ W.cell? ⟨b, o + 1, none⟩ = some d
theorem EsS.below {B : Nat} {sl : Value} {b o : Nat} {k d : Value} {W W' : World} (h : EsS B sl b o k d W) (hb : Below W.heap.size W W') : EsS B sl b o k d W' :=
  ⟨⟨Nat.lt_of_lt_of_le h.1.1 hb.size, Nat.lt_of_lt_of_le h.1.2 hb.size⟩, (hb.cell (p := ⟨B, 2, none⟩) h.1.1).trans h.2.1, (hb.cell (p := ⟨b, o, none⟩) h.1.2).trans h.2.2.1, (hb.cell (p := ⟨b, o + 1, none⟩) h.1.2).trans h.2.2.2⟩
theorem EsS.dr {B : Nat} {sl : Value} {b o : Nat} {k d : Value} {W : World} (h : EsS B sl b o k d W) : EsS B sl b o k d W.drew := h
theorem EsS.al {B : Nat} {sl : Value} {b o : Nat} {k d : Value} {W : World} {ob : Obj} (h : EsS B sl b o k d W) : EsS B sl b o k d (W.alloc ob) := h.below (Below.al (Below.refl _ _))
theorem EsS.grown {B : Nat} {sl : Value} {b o : Nat} {k d : Value} {W W' : World} {row : Option Nat} (h : EsS B sl b o k d W) (hg : W.grownBy W' row) (h1 : row ≠ some B) (h2 : row ≠ some b) : EsS B sl b o k d W' := by
  have g : ∀ j off, j < W.heap.size → row ≠ some j → W'.cell? ⟨j, off, none⟩ = W.cell? ⟨j, off, none⟩ := fun j off hj hne => World.cell?_of_block (hg.block j hj (fun e => hne e.symm))
  exact ⟨⟨Nat.lt_of_lt_of_le h.1.1 hg.size, Nat.lt_of_lt_of_le h.1.2 hg.size⟩, (g B 2 h.1.1 h1).trans h.2.1, (g b o h.1.2 h2).trans h.2.2.1, (g b (o + 1) h.1.2 h2).trans h.2.2.2⟩
set_option maxRecDepth 100000 in
set_option maxHeartbeats 3000000 in
theorem entries_leaf {n : Nat} {F : Nat → Prop} {w : World} {cs : List Value} {p : Int} {l : List (List UInt8 × Tv)} (h : RNodeOn F (n + 1) w cs (.leaf p l)) (hm : l.length ≤ 1000) :
    Calls Tryz.prog 83 #[.agg cs.toArray] w (OwnRaw 145 4 w (l.map entC)) := by
  obtain ⟨a, c, rfl, h1, _⟩ := h.at
  obtain ⟨e1, e2, e3⟩ := h1.lens
  obtain ⟨m, hml⟩ : ∃ m, cntT (.leaf p l) = m := ⟨_, rfl⟩
  rw [hml] at h1 e1 e2 ⊢
  have hml : l.length = m := hml
  show Calls _ _ #[.agg #[.int .i64 p, .bool true, .slice a m c]] _ _
  have H1 := Lib.hid h1
  have hB0 : Below w.heap.size w (w.alloc (.cells #[.int .i64 p, .bool true, .slice a m c] 27)) := Below.al (Below.refl _ _)
  have HX0 := Lib.hid ((Boxes.nil w).alloc #[.int .i64 p, .bool true, .slice a m c] 27 (b := w.heap.size) rfl)
  have HB0 := Lib.hid hB0
  have HML := Lib.hid hml
  obtain ⟨ti, tz, i1, i2, i3, i4, i5⟩ := info_Ce
  clear h1 hB0 e1 h hml
  have hm : m ≤ 1000 := by rw [← HML.out]; exact hm
  go_enter Tryz.func83, Tryz.ntmps83
  go_wp2_with fail
  go_loopw [3, 4] (fun s3 s4 wr => ∃ (i : Nat), i ≤ m ∧ s4 = .int .i64 i ∧ Boxes wr [(w.heap.size, [.int .i64 p, .bool true, .slice a m c])] ∧ wr.ownsRow (w.heap.size + 1) 145 4 s3 i (flatC ((l.take i).map entC)) ∧ Below w.heap.size w wr) (fun _ s _ => m - (intOf s).toNat)
  case atStart => exact ⟨0, Nat.zero_le _, rfl, HX0.out, own_nil _ _ _ _, HB0.out⟩
  case round =>
    obtain ⟨i, hi, rfl, hx, hown, hb⟩ := hrel
    clear HX0 HB0
    have hx0 := hx.lt 0 rfl
    have n0 := hx.cell 0 0 rfl rfl
    have n1 := hx.cell 0 1 rfl rfl
    have n2 := hx.cell 0 2 rfl rfl
    by_cases hlt : i < m
    · obtain ⟨b, off, y, pa, pn, pc, ka, kn, kc, rfl, hbb, hy, _, _, _, _, _, c0, c1, c2, c3⟩ := RNodeOn.cell H1.out hlt
      rw [cellsR_leaf] at hy
      obtain ⟨x, hx1, hx2⟩ := Option.map_eq_some_iff.1 hy
      subst hx2
      have v0 := (hb.cell (p := ⟨b, off + i * 4, none⟩) hbb).trans c0
      have v1 := (hb.cell (p := ⟨b, off + i * 4 + 1, none⟩) hbb).trans c1
      have hts : (l.take (i + 1)).map entC = (l.take i).map entC ++ [entC x] := by rw [List.take_add_one, hx1]; simp
      obtain ⟨v8, w8, hr8, ho8, hg8, hv8⟩ := run_append_new (P := Tryz.prog) (w := wr.drew) (w.heap.size + 1) 25 145 ti tz 4 80 Tryz.underlying25 i1 i2 i3 i4 i5 (by decide) hown #[.string (strOf x.1), .string (strOf x.2.data), .slice none 0 0, .slice none 0 0] rfl (by intro u hu; simp at hu; rcases hu with rfl | rfl | rfl <;> rfl) (by unfold maxLen; omega) (by omega) (by show w.heap.size + 1 ≤ wr.heap.size; omega)
      have HO8 : Hid (w8.ownsRow (w.heap.size + 1) 145 4 v8 (i + 1) (flatC ((l.take (i + 1)).map entC))) := Lib.hid (by rw [hts, flat_entC]; exact ho8)
      have hge := own_ge hown
      have HX8 := Lib.hid ((hx.drew).grown hg8 (by intro p hp e; simp at hp; subst hp; have := hge _ e; simp at this; omega))
      have HB8 := Lib.hid (hb.drew.grown hg8 (by show w.heap.size ≤ wr.heap.size; omega) (fun k hk => by have := hge k hk; omega))
      have hS : EsS w.heap.size (.slice (some ⟨b, off, none⟩) m c) b (off + i * 4) (.string (strOf x.1)) (.string (strOf x.2.data)) wr.drew := ⟨⟨hx0, Nat.lt_of_lt_of_le hbb hb.size⟩, n2, v0, v1⟩
      have hSw : EsS w.heap.size (.slice (some ⟨b, off, none⟩) m c) b (off + i * 4) (.string (strOf x.1)) (.string (strOf x.2.data)) wr := hS
      have hS8 := hS.grown hg8 (fun e => by have := hge _ e; omega) (fun e => by have := hge _ e; omega)
      have t0 : ∀ W, EsS w.heap.size (.slice (some ⟨b, off, none⟩) m c) b (off + i * 4) (.string (strOf x.1)) (.string (strOf x.2.data)) W → W.cell? ⟨w.heap.size, 2, none⟩ = some (.slice (some ⟨b, off, none⟩) m c) := fun W h => h.2.1
      have t1 : ∀ W, EsS w.heap.size (.slice (some ⟨b, off, none⟩) m c) b (off + i * 4) (.string (strOf x.1)) (.string (strOf x.2.data)) W → W.cell? ⟨b, off + i * 4, none⟩ = some (.string (strOf x.1)) := fun W h => h.2.2.1
      have t2 : ∀ W, EsS w.heap.size (.slice (some ⟨b, off, none⟩) m c) b (off + i * 4) (.string (strOf x.1)) (.string (strOf x.2.data)) W → W.cell? ⟨b, off + i * 4 + 1, none⟩ = some (.string (strOf x.2.data)) := fun W h => h.2.2.2
      clear hx hown hb hts ho8 hg8 hv8 hge c0 c1 c2 c3 hx1 hy
      go_wp2_with fail
      go_region_held3 (fun W => EsS w.heap.size (.slice (some ⟨b, off, none⟩) m c) b (off + i * 4) (.string (strOf x.1)) (.string (strOf x.2.data)) W) (first | with_reducible assumption | (repeat (with_reducible first | assumption | apply EsS.dr | apply EsS.al))) (refine step_append_run rfl _ _ _ _ rfl rfl rfl hr8 ?_)
      go_wp2_with fail
      go_roundw
      case rel => exact ⟨i + 1, hlt, by go_num, HX8.out, HO8.out, HB8.out⟩
      case measure => simp [intOf]; omega
    · obtain rfl : i = m := by omega
      have HE : Hid (OwnRaw 145 4 w (l.map entC) (.returned u3) wr) := Lib.hid (by
        rw [List.take_of_length_le (by rw [HML.out]; exact Nat.le_refl _)] at hown
        exact ⟨u3, rfl, by rw [List.length_map, HML.out]; exact own_base hown (by omega), hb⟩)
      clear hx hown hb
      go_wp2_with fail
      go_ret
      exact HE.out
theorem entsK_take {n : Nat} {l : List (List UInt8 × Tr)} {i : Nat} {c : List UInt8 × Tr} (h : l[i]? = some c) : entsK n (l.take (i + 1)) = entsK n (l.take i) ++ entsT n c.2 := by
  rw [List.take_add_one, h, entsK_append]
  simp [entsK]
theorem entsK_part (n : Nat) (l : List (List UInt8 × Tr)) (i : Nat) : (entsK n (l.take i)).length ≤ (entsK n l).length := by
  conv => rhs; rw [← List.take_append_drop i l, entsK_append, List.length_append]
  omega
set_option maxRecDepth 100000 in
set_option maxHeartbeats 3000000 in
theorem entries_node {n : Nat} {F : Nat → Prop} (IH : ∀ {w : World} {cs : List Value} {t : Tr}, RNodeOn F n w cs t → Bnd n t → (entsT n t).length ≤ 100000 → Calls Tryz.prog 83 #[.agg cs.toArray] w (OwnRaw 145 4 w ((entsT n t).map entC)))
    {w : World} {cs : List Value} {p : Int} {l : List (List UInt8 × Tr)} (h : RNodeOn F (n + 1) w cs (.node p l)) (hbd : Bnd (n + 1) (.node p l)) (hen : (entsK n l).length ≤ 100000) :
    Calls Tryz.prog 83 #[.agg cs.toArray] w (OwnRaw 145 4 w ((entsK n l).map entC)) := by
  obtain ⟨a, c, rfl, h1, _⟩ := h.at
  obtain ⟨e1, e2, e3⟩ := h1.lens
  obtain ⟨m, hml⟩ : ∃ m, cntT (.node p l) = m := ⟨_, rfl⟩
  rw [hml] at h1 e1 e2 ⊢
  have hml : l.length = m := hml
  show Calls _ _ #[.agg #[.int .i64 p, .bool false, .slice a m c]] _ _
  have H1 := Lib.hid h1
  have hB0 : Below w.heap.size w (w.alloc (.cells #[.int .i64 p, .bool false, .slice a m c] 27)) := Below.al (Below.refl _ _)
  have HX0 := Lib.hid ((Boxes.nil w).alloc #[.int .i64 p, .bool false, .slice a m c] 27 (b := w.heap.size) rfl)
  have HB0 := Lib.hid hB0
  have HML := Lib.hid hml
  obtain ⟨ti, tz, i1, i2, i3, i4, i5⟩ := info_Ce
  have hm : m ≤ 1000 := by rw [← hml]; exact hbd.1
  have HBD := Lib.hid hbd.2
  clear h1 hB0 e1 h hml hbd
  go_enter Tryz.func83, Tryz.ntmps83
  go_wp2_with fail
  go_loopw [3, 4] (fun s3 s4 wr => ∃ (i : Nat), i ≤ m ∧ s4 = .int .i64 i ∧ Boxes wr [(w.heap.size, [.int .i64 p, .bool false, .slice a m c])] ∧ wr.ownsRow (w.heap.size + 1) 145 4 s3 (entsK n (l.take i)).length (flatC ((entsK n (l.take i)).map entC)) ∧ Below w.heap.size w wr) (fun _ s _ => m - (intOf s).toNat)
  case atStart => exact ⟨0, Nat.zero_le _, rfl, HX0.out, own_nil _ _ _ _, HB0.out⟩
  case round =>
    obtain ⟨i, hi, rfl, hx, hown, hb⟩ := hrel
    clear HX0 HB0
    have hx0 := hx.lt 0 rfl
    have n0 := hx.cell 0 0 rfl rfl
    have n1 := hx.cell 0 1 rfl rfl
    have n2 := hx.cell 0 2 rfl rfl
    by_cases hlt : i < m
    · obtain ⟨b, off, y, pa, pn, pc, ka, kn, kc, rfl, hbb, hy, _, _, _, hk, _, c0, c1, c2, c3⟩ := RNodeOn.cell H1.out hlt
      rw [cellsR_node] at hy
      obtain ⟨x, hx1, hx2⟩ := Option.map_eq_some_iff.1 hy
      subst hx2
      have v3 := (hb.cell (p := ⟨b, off + i * 4 + 3, none⟩) hbb).trans c3
      have hkn : kn = 1 := hk.1.symm
      subst hkn
      obtain ⟨kb, ko, ky, kcs, rfl, hkb, hky, hkl, hkid, hkc⟩ := TabR.at hk (Nat.lt_add_one 0)
      have hky : ky = x.2 := by simpa using hky.symm
      subst hky
      cases n with
      | zero => exact hkid.elim
      | succ n =>
      obtain ⟨xa, xc, ek, _, _⟩ := hkid.at
      subst ek
      have g0 := (hb.cell (p := ⟨kb, ko + 0 * 3, none⟩) hkb).trans (hkc 0 _ rfl)
      have g1 := (hb.cell (p := ⟨kb, ko + 0 * 3 + 1, none⟩) hkb).trans (hkc 1 _ rfl)
      have g2 := (hb.cell (p := ⟨kb, ko + 0 * 3 + 2, none⟩) hkb).trans (hkc 2 _ rfl)
      rw [Nat.zero_mul, Nat.add_zero] at g0 g1 g2
      have hts := entsK_take (n := n + 1) hx1
      have hp1 := entsK_part (n + 1) l (i + 1)
      have hp2 := congrArg List.length hts
      rw [List.length_append] at hp2
      have CE := IH (hkid.below hb) (HBD.out x (List.mem_of_getElem? hx1)).2 (by omega)
      obtain ⟨ct, hct⟩ : ∃ q, cntT x.2 = q := ⟨_, rfl⟩
      obtain ⟨pt, hpt⟩ : ∃ q, x.2.page = q := ⟨_, rfl⟩
      obtain ⟨lt, hlt2⟩ : ∃ q, x.2.isLeaf = q := ⟨_, rfl⟩
      rw [hct, hpt, hlt2] at CE
      rw [hct] at g2
      rw [hpt] at g0
      rw [hlt2] at g1
      have HX := Lib.hid hx
      have HB := Lib.hid hb
      have HO := Lib.hid hown
      have HTS := Lib.hid hts
      have hbb9 := Nat.lt_of_lt_of_le hbb hb.size
      have hkb9 := Nat.lt_of_lt_of_le hkb hb.size
      have hkc1 := hk.2.1
      have hkc2 := hk.lens.2.2
      clear hx hown hb hts c0 c1 c2 c3 hy hkid hkc hct hpt hlt2 hk
      obtain ⟨el, hel⟩ : ∃ q, (entsK (n + 1) (l.take i)).length = q := ⟨_, rfl⟩
      have HEL := Lib.hid hel
      rw [hel] at hp2
      clear hel
      go_wp2_with fail
      refine CE.mono ?_
      rintro e w2 ho2
      obtain ⟨L2, hL2⟩ : ∃ q, (entsT (n + 1) x.2).map entC = q := ⟨_, rfl⟩
      have hl9 : L2.length = (entsT (n + 1) x.2).length := by rw [← hL2]; exact List.length_map _
      rw [hL2] at ho2
      obtain ⟨a2, k2, he2, hl2, hm2, ho2, hb2⟩ := ho2.sl
      have hraw := Raw.of_sl ho2 rfl
      obtain ⟨ll, hll⟩ : ∃ q, L2.length = q := ⟨_, rfl⟩
      rw [hll] at hl9 hl2 hraw he2
      subst he2
      have HLL := Lib.hid hll
      have HL2 := Lib.hid hL2
      have HL9 := Lib.hid hl9
      obtain ⟨v8, w8, hr8, ho8, hg8, hv8⟩ := run_append_tab (α := Cl 4) (P := Tryz.prog) (w := w2) (w.heap.size + 1) 25 145 ti tz 4 80 Tryz.underlying25 i1 i2 i3 i4 i5 (by decide) (own_held HO.out hb2) (fun cs y => cs = y.1) (fun y => y.1) (fun _ _ h => h) (fun y => y.2.1) (fun y => y.2.2) hraw (by rw [hl9, HEL.out]; unfold maxLen; omega) (by rw [hl9, HEL.out]; omega) (by have := HB.out.size; have := hb2.size; omega)
      have hge := own_ge HO.out
      have HO8 : Hid (w8.ownsRow (w.heap.size + 1) 145 4 v8 (entsK (n + 1) (l.take (i + 1))).length (flatC ((entsK (n + 1) (l.take (i + 1))).map entC))) := Lib.hid (by
        rw [HTS.out, List.length_append, List.map_append, flatC_append, ← HL9.out, HL2.out]
        exact ho8)
      have HX8 := Lib.hid ((HX.out.step hb2).grown hg8 (by intro p hp e; simp at hp; subst hp; have := hge _ e; simp at this; omega))
      have HB8 := Lib.hid ((HB.out.trans (hb2.mono HB.out.size)).grown hg8 (Nat.le_trans HB.out.size hb2.size) (fun k hk => by have := hge k hk; omega))
      clear ho8 hg8 hv8 hge hraw ho2 hb2 CE hl9 hll hL2
      go_wp2_with (at_builtin; refine wpList_append_run rfl _ _ _ _ rfl rfl rfl hr8 ?_)
      go_roundw
      case rel => exact ⟨i + 1, hlt, by go_num, HX8.out, HO8.out, HB8.out⟩
      case measure => simp [intOf]; omega
    · obtain rfl : i = m := by omega
      have HE : Hid (OwnRaw 145 4 w ((entsK n l).map entC) (.returned u3) wr) := Lib.hid (by
        rw [List.take_of_length_le (by rw [HML.out]; exact Nat.le_refl _)] at hown
        exact ⟨u3, rfl, by rw [List.length_map]; exact own_base hown (by omega), hb⟩)
      clear hx hown hb
      go_wp2_with fail
      go_ret
      exact HE.out
theorem entries_any : ∀ {n : Nat} {F : Nat → Prop} {w : World} {cs : List Value} {t : Tr}, RNodeOn F n w cs t → Bnd n t → (entsT n t).length ≤ 100000 → Calls Tryz.prog 83 #[.agg cs.toArray] w (OwnRaw 145 4 w ((entsT n t).map entC))
  | 0, _, _, _, _, h, _, _ => h.elim
  | _n + 1, _, _, _, .leaf _p _l, h, hb, _ => entries_leaf h hb.1
  | _n + 1, _, _, _, .node _p _l, h, hb, he => entries_node (fun h hb he => entries_any h hb he) h hb he
end Go.Proofs.YtpghlmcoajaiiaaGreatDoor

/- Entries in a row; a node's words. -/
namespace Go.Proofs.YtpghlmcoajaiiaaGreatDoor
open Go.RowKit

/-- A node's words. -/
theorem NodeOn.words {F : Nat → Prop} {n : Nat} {w : World} {cs : List Value} {t : Tr} (h : NodeOn F n w cs t) :
    ∃ a1 c1 a2 n2 c2 a3 n3 c3, cs = [.int .i64 t.page, .bool t.isLeaf, .slice a1 (cntT t) c1, .slice a2 n2 c2, .slice a3 n3 c3] ∧ cntT t ≤ c1 ∧ c1 ≤ 9223372036854775807 := by
  obtain ⟨ka, kc, va, vn, vc, ca, cn, cc, V, C, e, h1, _⟩ := h.open_pos
  exact ⟨ka, kc, va, vn, vc, ca, cn, cc, e, h1.lens.2.1, h1.lens.2.2⟩
theorem Whole.low {n : Nat} {t : Tr} (h : Whole n t) : 0 < n := by
  cases n with
  | zero => exact h.1.1.elim
  | succ n => omega
/-- A row of entries. -/
def EntIn (w : World) (a : Option Addr) (m c : Nat) (E : List (List UInt8 × Tv)) : Prop := Raw 4 w a m c (E.map entC)
theorem EntIn.below {w w' : World} {a : Option Addr} {m c : Nat} {E : List (List UInt8 × Tv)} (h : EntIn w a m c E) (hb : Below w.heap.size w w') : EntIn w' a m c E := TabR.below (Nat.le_refl _) hb h
theorem EntIn.at {w : World} {a : Option Addr} {m c : Nat} {E : List (List UInt8 × Tv)} (h : EntIn w a m c E) {k : Nat} (hk : k < m) :
    ∃ b off y, a = some ⟨b, off, none⟩ ∧ b < w.heap.size ∧ E[k]? = some y ∧ w.cell? ⟨b, off + k * 4, none⟩ = some (.string (strOf y.1)) ∧ w.cell? ⟨b, off + k * 4 + 1, none⟩ = some (.string (strOf y.2.data)) := by
  obtain ⟨b, off, y, cs, e1, e2, e3, _, e5, e6⟩ := TabR.at h hk
  rw [List.getElem?_map] at e3
  obtain ⟨x, hx, rfl⟩ := Option.map_eq_some_iff.1 e3
  subst e5
  exact ⟨b, off, x, e1, e2, hx, e6 0 _ rfl, e6 1 _ rfl⟩
theorem EntIn.len {w : World} {a : Option Addr} {m c : Nat} {E : List (List UInt8 × Tv)} (h : EntIn w a m c E) : E.length = m ∧ m ≤ c ∧ c ≤ 9223372036854775807 := by
  have := TabR.lens h
  simpa using this
end Go.Proofs.YtpghlmcoajaiiaaGreatDoor

/- jalousieref17: From and Far. -/
namespace Go.Proofs.YtpghlmcoajaiiaaGreatDoor
open Go.RowKit

theorem key_drop {key : List UInt8} {E : List (List UInt8 × Tv)} {i : Nat} (hi : i ≤ E.length) (h1 : ∀ j, j < i → (keysOf E)[j]?.getD [] < key) (h2 : i < E.length → ¬ (keysOf E)[i]?.getD [] < key) : posK key (keysOf E) = i :=
  posK_eq (by simpa [keysOf] using hi) h1 (fun h => h2 (by simpa [keysOf] using h))
/-- Entries in a row of the call's own. -/
def FromTo (W : World) (E : List (List UInt8 × Tv)) (e : Ending) (w' : World) : Prop :=
  ∃ a m c, e = .returned (.slice a m c) ∧ EntIn w' a m c E ∧ Fa (fun x => W.heap.size ≤ x) a m ∧ Below W.heap.size W w'
theorem ents_from {n : Nat} {F : Nat → Prop} {w : World} {cs : List Value} {t : Tr} (h : RNodeOn F n w cs t) (hb : Bnd n t) (he : (entsT n t).length ≤ 100000) : Calls Tryz.prog 83 #[.agg cs.toArray] w (FromTo w (entsT n t)) := by
  refine (entries_any h hb he).mono fun e w'' h => ?_
  obtain ⟨a, c, rfl, _, _, ho, hb⟩ := h.sl
  exact ⟨a, _, c, rfl, Raw.of_sl ho rfl, Fa.of_own ho (fun b hb => hb), hb⟩
set_option maxRecDepth 100000 in
set_option maxHeartbeats 2000000 in
theorem from_any {n : Nat} {F : Nat → Prop} {w : World} {cs : List Value} {t : Tr} (key : List UInt8) (h : RNodeOn F n w cs t) (hb : Bnd n t) (he : (entsT n t).length ≤ 100000) :
    Calls Tryz.prog 124 #[.agg cs.toArray, .string (strOf key)] w (FromTo w ((entsT n t).drop (posK key (keysOf (entsT n t))))) := by
  cases n with
  | zero => exact h.elim
  | succ n =>
  obtain ⟨a, c, rfl, _, _⟩ := h.at
  obtain ⟨lf, hlf⟩ : ∃ x, t.isLeaf = x := ⟨_, rfl⟩
  obtain ⟨p, hp⟩ : ∃ x, t.page = x := ⟨_, rfl⟩
  obtain ⟨m, hm⟩ : ∃ x, cntT t = x := ⟨_, rfl⟩
  rw [hlf, hp, hm] at h ⊢
  obtain ⟨W2, hW2⟩ : ∃ x, w.alloc (.cells #[.int .i64 p, .bool lf, .slice a m c] 27) = x := ⟨_, rfl⟩
  have hb2 : Below w.heap.size w W2 := by rw [← hW2]; exact Below.al (Below.refl _ _)
  have hx2 : Boxes W2 [(w.heap.size, [.int .i64 p, .bool lf, .slice a m c])] := by
    rw [← hW2]
    exact (Boxes.nil w).alloc #[.int .i64 p, .bool lf, .slice a m c] 27 (b := w.heap.size) rfl
  have CE : Calls Tryz.prog 83 #[.agg #[.int .i64 p, .bool lf, .slice a m c]] W2 (FromTo W2 (entsT (n + 1) t)) := ents_from (h.below hb2) hb he
  obtain ⟨E, hE⟩ : ∃ E, entsT (n + 1) t = E := ⟨_, rfl⟩
  rw [hE] at CE he ⊢
  have n0 := hx2.cell 0 0 rfl rfl
  have n1 := hx2.cell 0 1 rfl rfl
  have n2 := hx2.cell 0 2 rfl rfl
  have HB2 := Lib.hid hb2
  have HE9 := Lib.hid he
  clear h hb hx2 hb2 hE hlf hp hm he
  show Calls _ _ #[.agg #[.int .i64 p, .bool lf, .slice a m c], .string (strOf key)] _ _
  go_enter Tryz.func124, Tryz.ntmps124
  go_wp2_with fail
  refine CE.mono ?_
  rintro e w3 ⟨a3, m3, c3, rfl, hE3, hf3, hb3⟩
  have HF3 : Hid (Fa (fun x => w.heap.size ≤ x) a3 m3) := Lib.hid (hf3.mono fun b hb => Nat.le_trans HB2.out.size hb)
  obtain ⟨l1, l2, l3⟩ := hE3.len
  have hm9 : m3 ≤ 100000 := by rw [← l1]; exact HE9.out
  have HEN := Lib.hid hE3
  have HL := Lib.hid l1
  have HB3 := Lib.hid (below_via HB2.out hb3)
  clear CE hE3 hb3 hf3 l1 hW2
  go_wp2_with fail
  go_loop [6] (fun s => ∃ i : Nat, i ≤ m3 ∧ s = .int .i64 i ∧ Hid (∀ j, j < i → (keysOf E)[j]?.getD [] < key)) (fun s => m3 - (intOf s).toNat)
  case atStart => exact ⟨0, Nat.zero_le _, rfl, Lib.hid (fun j hj => by omega)⟩
  case round =>
    obtain ⟨i, hi, rfl, hpre⟩ := hrel
    by_cases him : i < m3
    · obtain ⟨b, off, x, rfl, hbb, hx1, e0, _⟩ := HEN.out.at him
      have him' : (i : Int) < (m3 : Int) := by omega
      have hic : i ≤ c3 := by omega
      have hkx : (keysOf E)[i]?.getD [] = x.1 := by simp [keysOf, hx1]
      by_cases hk : x.1 < key
      · obtain ⟨c1, c2, c4, c5⟩ := cmp_lt hk
        have hpre' : Hid (∀ j, j < i + 1 → (keysOf E)[j]?.getD [] < key) := Lib.hid (fun j hj => by
          by_cases h : j < i
          · exact hpre.out j h
          · obtain rfl : j = i := by omega
            rw [hkx]; exact hk)
        clear hx1 hk hkx
        go_wp2_with fail
        go_round
        case rel => exact ⟨i + 1, by omega, by go_num, hpre'⟩
        case measure => simp [intOf]; omega
      · have hpos : posK key (keysOf E) = i := key_drop (by have := HL.out; omega) hpre.out (fun _ => by rw [hkx]; exact hk)
        have HP := Lib.hid hpos
        have HE : Hid (FromTo w (E.drop (posK key (keysOf E))) (.returned (.slice (some ⟨b, off + i * 4, none⟩) (m3 - i) (c3 - i))) w3) := Lib.hid ⟨some ⟨b, off + i * 4, none⟩, m3 - i, c3 - i, rfl, by
          rw [HP.out]
          unfold EntIn
          rw [List.map_drop]
          have := TabR.dp HEN.out hi
          rw [if_neg (by omega), show (some (⟨b, off, none⟩ : Addr)).map (·.add (i * 4)) = some ⟨b, off + i * 4, none⟩ by simp [Addr.add]] at this
          exact this, by
            rcases HF3.out with hf | hf
            · omega
            · exact .inr fun b' off' e => by cases e; exact hf b off rfl, HB3.out⟩
        have h3 : Op.bytesLess (strOf x.1).toList (strOf key).toList = false := by
          rw [strOf_toList, strOf_toList, bytes_lessT]; simpa using hk
        clear hx1 hk hkx hpos
        go_wp2_with fail
        go_ret
        exact HE.out
    · have hpos : posK key (keysOf E) = i := key_drop (by have := HL.out; omega) hpre.out (fun h => by have := HL.out; omega)
      have HE : Hid (FromTo w (E.drop (posK key (keysOf E))) (.returned (.slice none 0 0)) w3) := Lib.hid ⟨none, 0, 0, rfl, by
        rw [hpos, List.drop_of_length_le (by have := HL.out; omega)]
        exact TabR.nil _, Fa.zero _ _, HB3.out⟩
      have him' : decide ((i : Int) < (m3 : Int)) = false := by simp; omega
      clear hpos
      go_wp2_with fail
      go_ret
      exact HE.out
end Go.Proofs.YtpghlmcoajaiiaaGreatDoor

/- jalousieref21: Scan. -/
namespace Go.Proofs.YtpghlmcoajaiiaaGreatDoor
open Go.RowKit

/-- Entries that a scan answers. -/
def EntTo (W : World) (R : List (List UInt8 × Tv)) (er : Int) (e : Ending) (w' : World) : Prop :=
  ∃ a m c, e = .returned (.tuple #[.slice a m c, .int .i64 er]) ∧ EntIn w' a m c R ∧ Below W.heap.size W w'
theorem EntIn.tk {w : World} {a : Option Addr} {m c : Nat} {E : List (List UInt8 × Tv)} (h : EntIn w a m c E) {j : Nat} (hj : j ≤ m) : EntIn w a j c (E.take j) := by
  unfold EntIn
  rw [List.map_take]
  exact TabR.tk h hj
set_option maxRecDepth 100000 in
set_option maxHeartbeats 4000000 in
set_option maxRecDepth 100000 in
theorem rscan21 {F : Nat → Prop} {w : World} {v : Vw} {d0 d1 d2 : Value} {a : Option Addr} {c : Nat} (hl : TabR 4 (RBkOn F w) w a v.l.length c v.l) (hn : v.l.length ≤ 1000) (name : List UInt8) {p : Nat} {bk : Bkt} (hfind : findR name v.l 0 = (p : Int)) (hbk : v.l[p]? = some bk) (hbd : Bnd bk.lv bk.tree) (he : (entsT bk.lv bk.tree).length ≤ 100000) (key : List UInt8) {most : Int} (hmost : most ≤ 1000) {R : List (List UInt8 × Tv)} (hR : (entsT bk.lv bk.tree).drop (posK key (keysOf (entsT bk.lv bk.tree))) = R) :
    Calls Tryz.prog 86 #[.agg #[d0, d1, d2, .slice a v.l.length c], .string (strOf name), .string (strOf key), .int .i64 most] w (EntTo w (R.take most.toNat) 0) := by
  obtain ⟨m, hm⟩ : ∃ z, v.l.length = z := ⟨_, rfl⟩
  obtain ⟨W1, hW1⟩ : ∃ x, w.alloc (.cells #[d0, d1, d2, .slice a m c] 79) = x := ⟨_, rfl⟩
  have hx1 : Boxes W1 [(w.heap.size, [d0, d1, d2, .slice a m c])] := by
    rw [← hW1]
    exact (Boxes.nil w).alloc #[d0, d1, d2, .slice a m c] 79 (b := w.heap.size) rfl
  have hb1 : Below w.heap.size w W1 := by rw [← hW1]; exact Below.al (Below.refl _ _)
  have CF := rfind21 (d0 := d0) (d1 := d1) (d2 := d2) (TabR.move hl hb1 (fun cs y _ h => h.agree (.of_below hb1))) hn name
  have hpm : p < m := by rw [← hm]; exact (List.getElem?_eq_some_iff.1 hbk).1
  rw [hfind, hm] at CF
  rw [hm] at hl ⊢
  have d0' : decide ((p : Int) < (m : Int)) = true := by simp; omega
  have d1' : decide ((0 : Int) ≤ (p : Int)) = true := by simp
  have d2' : decide ((p : Int) < 0) = false := by simp
  have g0 := hx1.cell 0 0 rfl rfl
  have g1 := hx1.cell 0 1 rfl rfl
  have g2 := hx1.cell 0 2 rfl rfl
  have g3 := hx1.cell 0 3 rfl rfl
  have HL := Lib.hid hl
  have HB1 := Lib.hid hb1
  have HX1 := Lib.hid hx1
  have HBK := Lib.hid hbk
  have HBD := Lib.hid hbd
  have HE := Lib.hid he
  have HPM := Lib.hid hpm
  have HR := Lib.hid hR
  clear hl hb1 hx1 hfind hm hbk hbd he hn
  go_enter Tryz.func86, Tryz.ntmps86
  go_wp2_with fail
  refine CF.mono ?_
  rintro e w3 ⟨rfl, hb3⟩
  have HB3 := Lib.hid (below_via HB1.out hb3)
  have hl3 := TabR.move HL.out HB3.out (fun cs y _ h => h.agree (.of_below HB3.out))
  obtain ⟨qb, off, y, ycs, rfl, hqb, hy, _, ⟨ts, rfl, hn3⟩, hcell⟩ := TabR.at hl3 hpm
  rw [HBK.out] at hy
  cases hy
  obtain ⟨x1, k1, ets⟩ := hn3.three
  subst ets
  obtain ⟨tp, htp⟩ : ∃ z, bk.tree.page = z := ⟨_, rfl⟩
  obtain ⟨tf, htf⟩ : ∃ z, bk.tree.isLeaf = z := ⟨_, rfl⟩
  obtain ⟨tc, htc⟩ : ∃ z, cntT bk.tree = z := ⟨_, rfl⟩
  have f1 := hcell 1 _ rfl
  have f2 := hcell 2 _ rfl
  have f3 := hcell 3 _ rfl
  rw [htp] at f1
  rw [htf] at f2
  rw [htc] at f3
  rw [htp, htf, htc] at hn3
  have CE := from_any key hn3 HBD.out HE.out
  rw [HR.out] at CE
  have g0 := (HX1.out.step hb3).cell 0 0 rfl rfl
  have g1 := (HX1.out.step hb3).cell 0 1 rfl rfl
  have g2 := (HX1.out.step hb3).cell 0 2 rfl rfl
  have g3 := (HX1.out.step hb3).cell 0 3 rfl rfl
  clear hl3 hcell hqb hn3 hb3 htp htf htc hpm CF
  go_wp2_with fail
  refine CE.mono ?_
  rintro e w5 ⟨a5, m5, c5, rfl, hE5, -, hb5⟩
  have HB5 := Lib.hid (below_via HB3.out hb5)
  obtain ⟨l1, l2, l3⟩ := hE5.len
  have HEN := Lib.hid hE5
  have HLN := Lib.hid l1
  have hm5 : m5 ≤ 100000 := by
    have := HE.out
    rw [← l1, ← HR.out, List.length_drop]
    omega
  clear hE5 hb5 l1 CE hR
  by_cases hneg : most < 0
  · have e0 : decide (most < 0) = true := decide_eq_true hneg
    have hz : most.toNat = 0 := by omega
    have HEND : Hid (EntIn w5 a5 0 c5 (R.take most.toNat)) := Lib.hid (by rw [hz]; exact HEN.out.tk (Nat.zero_le _))
    by_cases h5 : 0 < m5
    · have e1 : decide ((0 : Int) < (m5 : Int)) = true := by simp; omega
      clear hneg hz
      go_wp2_with fail
      refine bodyPost_ret (v := .tuple #[.slice a5 0 c5, .int .i64 0]) (by simp [results, Tryz.results86, go_sem]) rfl ?_
      exact ⟨_, _, _, rfl, HEND.out, HB5.out⟩
    · obtain rfl : m5 = 0 := by omega
      clear hneg hz
      go_wp2_with fail
      refine bodyPost_ret (v := .tuple #[.slice a5 0 c5, .int .i64 0]) (by simp [results, Tryz.results86, go_sem]) rfl ?_
      exact ⟨_, _, _, rfl, HEND.out, HB5.out⟩
  · have e0 : decide (most < 0) = false := decide_eq_false hneg
    obtain ⟨k, rfl⟩ : ∃ k : Nat, most = (k : Int) := ⟨most.toNat, by omega⟩
    have hz : ((k : Int)).toNat = k := by omega
    rw [hz]
    by_cases h5 : k < m5
    · have e1 : decide ((k : Int) < (m5 : Int)) = true := by simp; omega
      have HEND : Hid (EntIn w5 a5 k c5 (R.take k)) := Lib.hid (HEN.out.tk (by omega))
      have e2 : (k : Int) ≤ (c5 : Int) := by omega
      have e3 : k ≤ c5 := by omega
      clear hneg
      go_wp2_with fail
      refine bodyPost_ret (v := .tuple #[.slice a5 k c5, .int .i64 0]) (by simp [results, Tryz.results86, go_sem]) rfl ?_
      exact ⟨_, _, _, rfl, HEND.out, HB5.out⟩
    · have e1 : decide ((k : Int) < (m5 : Int)) = false := by simp; omega
      have HEND : Hid (EntIn w5 a5 m5 c5 (R.take k)) := Lib.hid (by rw [List.take_of_length_le (by have := HLN.out; omega)]; exact HEN.out)
      clear hneg
      go_wp2_with fail
      refine bodyPost_ret (v := .tuple #[.slice a5 m5 c5, .int .i64 0]) (by simp [results, Tryz.results86, go_sem]) rfl ?_
      exact ⟨_, _, _, rfl, HEND.out, HB5.out⟩
set_option maxRecDepth 100000 in
theorem rscan21_none {F : Nat → Prop} {w : World} {v : Vw} {d0 d1 d2 : Value} {a : Option Addr} {c : Nat} (hl : TabR 4 (RBkOn F w) w a v.l.length c v.l) (hn : v.l.length ≤ 1000) (name : List UInt8) (hfind : findR name v.l 0 = -1) (key : List UInt8) (most : Int) :
    Calls Tryz.prog 86 #[.agg #[d0, d1, d2, .slice a v.l.length c], .string (strOf name), .string (strOf key), .int .i64 most] w (EntTo w [] 32) := by
  obtain ⟨m, hm⟩ : ∃ z, v.l.length = z := ⟨_, rfl⟩
  obtain ⟨W1, hW1⟩ : ∃ x, w.alloc (.cells #[d0, d1, d2, .slice a m c] 79) = x := ⟨_, rfl⟩
  have hx1 : Boxes W1 [(w.heap.size, [d0, d1, d2, .slice a m c])] := by
    rw [← hW1]
    exact (Boxes.nil w).alloc #[d0, d1, d2, .slice a m c] 79 (b := w.heap.size) rfl
  have hb1 : Below w.heap.size w W1 := by rw [← hW1]; exact Below.al (Below.refl _ _)
  have CF := rfind21 (d0 := d0) (d1 := d1) (d2 := d2) (TabR.move hl hb1 (fun cs y _ h => h.agree (.of_below hb1))) hn name
  rw [hfind, hm] at CF
  rw [hm]
  have g0 := hx1.cell 0 0 rfl rfl
  have g1 := hx1.cell 0 1 rfl rfl
  have g2 := hx1.cell 0 2 rfl rfl
  have g3 := hx1.cell 0 3 rfl rfl
  have HB1 := Lib.hid hb1
  clear hl hx1 hfind hn hm hb1
  go_enter Tryz.func86, Tryz.ntmps86
  go_wp2_with fail
  refine CF.mono ?_
  rintro e w3 ⟨rfl, hb3⟩
  have HB3 := Lib.hid (below_via HB1.out hb3)
  clear CF hb3
  go_wp2_with fail
  refine bodyPost_ret (v := .tuple #[.slice none 0 0, .int .i64 32]) (by simp [results, Tryz.results86, go_sem]) rfl ?_
  exact ⟨none, 0, 0, rfl, TabR.nil _, HB3.out⟩
end Go.Proofs.YtpghlmcoajaiiaaGreatDoor

/- The walks of the chapter on numbers and texts as bytes: the reference's taker. -/
namespace Go.Proofs.YtpghlmcoajaiiaaGreatDoor
open Go.RowKit

/-- The reference's taker stands there, in such a state. -/
def Rt (w : World) (t : Nat) (s : TSt) : Prop := w.heap[t]? = some (.cells #[.string (strOf s.l), .int .i64 s.e] 157 (0, 0))
theorem Rt.lt {w : World} {t : Nat} {s : TSt} (h : Rt w t s) : t < w.heap.size := (Array.getElem?_eq_some_iff.1 h).1
theorem Rt.grown {w w' : World} {t : Nat} {s : TSt} {row : Option Nat} (h : Rt w t s) (hg : w.grownBy w' row) (hne : row ≠ some t) : Rt w' t s := (hg.block t h.lt (fun e => hne e.symm)).trans h
theorem Rt.below {w w' : World} {t : Nat} {s : TSt} {B : Nat} (hB : w.heap.size ≤ B) (hb : Below B w w') (h : Rt w t s) : Rt w' t s := (hb.block t (Nat.lt_of_lt_of_le h.lt hB)).trans h
theorem Rt.drewN {w : World} {t : Nat} {s : TSt} (h : Rt w t s) (n : Nat) : Rt (w.drewN n) t s := h
theorem Rt.drew {w : World} {t : Nat} {s : TSt} (h : Rt w t s) : Rt w.drew t s := h
theorem Tk.drewN {w : World} {t : Nat} {s : TSt} (h : Tk w t s) (n : Nat) : Tk (w.drewN n) t s := h
theorem Tk.drew {w : World} {t : Nat} {s : TSt} (h : Tk w t s) : Tk w.drew t s := h
/-- What turns the one taker leaves the other one. -/
theorem Tk.other {w w' : World} {t r : Nat} {s s' : TSt} (h : Tk w t s) (hr : Rt w r s') (hg : w.grownBy w' (some r)) (hne : r ≠ t) : Tk w' t s :=
  h.grown hg (fun e => hne (by cases e; rfl)) (fun a n m b off h1 h0 ha e => by
    cases e
    obtain ⟨a', cap', g1, g2⟩ := h
    rw [g1] at h1
    cases h1
    obtain ⟨b', off', e1, _, h7⟩ := g2.cell (k := 0) (by omega)
    rw [ha] at e1
    cases e1
    have h8 := h7 0 (by omega)
    have hr' : w.heap[r]? = _ := hr
    simp only [World.cell?, hr', Nat.add_zero] at h8
    match off, h8 with
    | 0, h8 => simp at h8
    | 1, h8 => simp at h8
    | n + 2, h8 => simp at h8)
def RtPost (w : World) (t : Nat) (v : Value) (s' : TSt) (e : Ending) (w' : World) : Prop :=
  e = .returned v ∧ w.grownBy w' (some t) ∧ Rt w' t s'

set_option maxRecDepth 100000 in
set_option maxHeartbeats 1000000 in
theorem rSome_any (t : Nat) (s : TSt) (n : Nat) (w : World) (h : Rt w t s) (hreach : s.l.length ≤ 140737488351232) :
    Calls Tryz.prog 110 #[.pointer (some ⟨t, 0, none⟩), .int .i64 n] w (RtPost w t (.string (strOf (takeF s n).1)) (takeF s n).2) := by
  obtain ⟨l, er⟩ := s
  have hblk : w.heap[t]? = some (.cells #[.string (strOf l), .int .i64 er] 157 (0, 0)) := h
  have hc0 : w.cell? ⟨t, 0, none⟩ = some (.string (strOf l)) := by simp [World.cell?, hblk]
  have hc1 : w.cell? ⟨t, 1, none⟩ = some (.int .i64 er) := by simp [World.cell?, hblk]
  have hf0 : w.frozen? ⟨t, 0, none⟩ = false := by simp [World.frozen?, hblk]
  have hf1 : w.frozen? ⟨t, 1, none⟩ = false := by simp [World.frozen?, hblk]
  have hsz := strOf_size l
  dsimp only at hreach
  by_cases he : er = 0
  · subst he
    by_cases hlt : l.length < n
    · have hts : takeF ⟨l, 0⟩ n = ([], ⟨l, 10⟩) := by simp [takeF, hlt]
      rw [hts]
      have hnew : Rt (w.setCell ⟨t, 1, none⟩ (.int .i64 10)) t ⟨l, 10⟩ := heap_setCell_at 1 (.int .i64 10) hblk
      have hgr := grown_setCell w ⟨t, 1, none⟩ (.int .i64 10)
      clear hts hblk h
      go_enter Tryz.func110, Tryz.ntmps110
      go_wp2
      go_ret
      exact ⟨rfl, hgr, hnew⟩
    · have hts : takeF ⟨l, 0⟩ n = (l.take n, ⟨l.drop n, 0⟩) := by simp [takeF, hlt]
      rw [hts]
      have hx0 : (strOf l).extract 0 n = strOf (l.take n) := by rw [strOf_extract]; simp
      have hx1 : (strOf l).extract n l.length = strOf (l.drop n) := by rw [strOf_extract, List.take_of_length_le (by simp)]
      have hgr := grown_setCell w ⟨t, 0, none⟩ (.string (strOf (l.drop n)))
      have hnew : Rt (w.setCell ⟨t, 0, none⟩ (.string (strOf (l.drop n)))) t ⟨l.drop n, 0⟩ := heap_setCell_at 0 (.string (strOf (l.drop n))) hblk
      clear hts hblk h
      go_enter Tryz.func110, Tryz.ntmps110
      go_wp2
      go_ret
      exact ⟨rfl, hgr, hnew⟩
  · have hts : takeF ⟨l, er⟩ n = ([], ⟨l, er⟩) := by simp [takeF, he]
    rw [hts]
    have hne : (er == 0) = false := by simpa using he
    have hne' : (er != 0) = true := by simpa using he
    clear he hts hblk
    go_enter Tryz.func110, Tryz.ntmps110
    go_wp2
    go_ret
    exact ⟨rfl, grown_below (Below.refl _ _) _, h⟩

set_option maxRecDepth 100000 in
set_option maxHeartbeats 1000000 in
theorem rNum_any (t : Nat) (s : TSt) (size : Int) (w : World) (h : Rt w t s) (hreach : s.l.length ≤ 140737488351232) :
    Calls Tryz.prog 60 #[.pointer (some ⟨t, 0, none⟩), .int .i64 size] w (RtPost w t (.int .u64 ((tNum s size).1 : Int)) (tNum s size).2) := by
  obtain ⟨l, er⟩ := s
  have hblk : w.heap[t]? = some (.cells #[.string (strOf l), .int .i64 er] 157 (0, 0)) := h
  have hc1 : w.cell? ⟨t, 1, none⟩ = some (.int .i64 er) := by simp [World.cell?, hblk]
  have hf1 : w.frozen? ⟨t, 1, none⟩ = false := by simp [World.frozen?, hblk]
  dsimp only at hreach
  by_cases he : er = 0
  · subst he
    by_cases hsz : size < 1 ∨ 8 < size
    · have hr : tNum ⟨l, 0⟩ size = (0, ⟨l, 1⟩) := by simp [tNum, hsz]
      rw [hr]
      have hnew : Rt (w.setCell ⟨t, 1, none⟩ (.int .i64 1)) t ⟨l, 1⟩ := heap_setCell_at 1 (.int .i64 1) hblk
      have hgr := grown_setCell w ⟨t, 1, none⟩ (.int .i64 1)
      clear hr hblk h
      rcases hsz with hsz | hsz
      · go_enter Tryz.func60, Tryz.ntmps60
        go_wp2
        go_ret
        exact ⟨rfl, hgr, hnew⟩
      · have hsz' : ¬ size < 1 := by omega
        go_enter Tryz.func60, Tryz.ntmps60
        go_wp2
        go_ret
        exact ⟨rfl, hgr, hnew⟩
    · obtain ⟨n, rfl⟩ := Int.eq_ofNat_of_zero_le (show 0 ≤ size by omega)
      have hr : tNum ⟨l, 0⟩ (n : Int) = (beVal (takeF ⟨l, 0⟩ n).1, (takeF ⟨l, 0⟩ n).2) := by simp only [tNum]; rw [if_neg (fun h => hsz h.2)]; rfl
      rw [hr]
      have hs1 : ¬ (n : Int) < 1 := by omega
      have hs2 : ¬ (8 : Int) < (n : Int) := by omega
      have hcall := rSome_any t ⟨l, 0⟩ n w h hreach
      have hle := takeF_le ⟨l, 0⟩ n
      obtain ⟨b, s1, hs⟩ : ∃ b s1, takeF ⟨l, 0⟩ n = (b, s1) := ⟨_, _, rfl⟩
      rw [hs] at hcall hle ⊢
      dsimp only at hcall hle ⊢
      clear hr hblk h hsz hs
      have hbs := strOf_size b
      go_enter Tryz.func60, Tryz.ntmps60
      go_wp2_with fail
      refine hcall.mono ?_
      rintro e w1 ⟨rfl, hgr, hnew⟩
      go_wp2
      go_loop [6, 7] (fun x i => ∃ k : Nat, k ≤ b.length ∧ i = .int .i64 k ∧ x = .int .u64 (beVal (b.take k))) (fun _ i => b.length - (intOf i).toNat)
      case atStart => exact ⟨0, Nat.zero_le _, rfl, rfl⟩
      case round =>
        obtain ⟨k, hk, rfl, rfl⟩ := hrel
        by_cases hlt : k < b.length
        · have hst := beVal_step b k hlt
          have hbd : beVal (b.take k) < 72057594037927936 := by
            have h1 := beVal_lt (b.take k)
            have h2 : (b.take k).length ≤ 7 := by simp; omega
            have h3 : 256 ^ (b.take k).length ≤ 256 ^ 7 := Nat.pow_le_pow_right (by decide) h2
            omega
          have hcb : (b[k]?.getD 0).toNat < 256 := (b[k]?.getD 0).toNat_lt
          have hget := strOf_get b k hlt
          generalize b[k]?.getD 0 = x at *
          generalize beVal (b.take k) = y at *
          have H := Lib.hid hst
          clear hst
          go_wp2
          go_round
          case rel => exact ⟨k + 1, by omega, by go_num, by rw [H.out]; go_num⟩
          case measure => simp [intOf]; omega
        · obtain rfl : k = b.length := by omega
          rw [List.take_length]
          go_wp2
          go_ret
          exact ⟨rfl, hgr, hnew⟩
  · have hr : tNum ⟨l, er⟩ size = (0, ⟨l, er⟩) := by simp [tNum, takeF, he, beVal_nil]
    rw [hr]
    have hne : (er == 0) = false := by simpa using he
    have hne' : (er != 0) = true := by simpa using he
    clear he hr hblk
    go_enter Tryz.func60, Tryz.ntmps60
    go_wp2
    go_ret
    exact ⟨rfl, grown_below (Below.refl _ _) _, h⟩

set_option maxRecDepth 100000 in
set_option maxHeartbeats 1000000 in
theorem rText_any (t : Nat) (s : TSt) (w : World) (h : Rt w t s) (hreach : s.l.length ≤ 140737488351232) :
    Calls Tryz.prog 61 #[.pointer (some ⟨t, 0, none⟩)] w (RtPost w t (.string (strOf (tText s).1)) (tText s).2) := by
  have hlt := tNum_lt s 1
  have hlen := tNum_len s 1
  have hcall := rNum_any t s 1 w h hreach
  obtain ⟨n, s1, hs⟩ : ∃ n s1, tNum s 1 = (n, s1) := ⟨_, _, rfl⟩
  have hr : tText s = takeF s1 n := by simp [tText, hs]
  have hs' : tNum s ((1 : Nat) : Int) = (n, s1) := hs
  rw [hs] at hcall hlen
  rw [hs'] at hlt
  rw [hr]
  dsimp only at hlt hlen hcall
  clear hr hs hs'
  go_enter Tryz.func61, Tryz.ntmps61
  go_wp2_with fail
  refine hcall.mono ?_
  rintro e w1 ⟨rfl, hgr, hnew⟩
  go_wp2_with fail
  refine (rSome_any t s1 n w1 hnew (by omega)).mono ?_
  rintro e w2 ⟨rfl, hgr2, hnew2⟩
  go_wp2
  go_ret
  exact ⟨rfl, grown_trans hgr hgr2, hnew2⟩


set_option maxRecDepth 100000 in
set_option maxHeartbeats 1000000 in
theorem rDone_any (t : Nat) (s : TSt) (w : World) (h : Rt w t s) :
    Calls Tryz.prog 62 #[.pointer (some ⟨t, 0, none⟩)] w fun e w' => e = .returned (.int .i64 (tDone s)) ∧ w = w' := by
  obtain ⟨l, er⟩ := s
  have hblk : w.heap[t]? = some (.cells #[.string (strOf l), .int .i64 er] 157 (0, 0)) := h
  have hc0 : w.cell? ⟨t, 0, none⟩ = some (.string (strOf l)) := by simp [World.cell?, hblk]
  have hc1 : w.cell? ⟨t, 1, none⟩ = some (.int .i64 er) := by simp [World.cell?, hblk]
  clear hblk h
  by_cases he : er = 0
  · subst he
    by_cases h0 : l = []
    · subst h0
      have hem : (!(strOf []).toList.isEmpty) = false := by rw [strOf_toList]; rfl
      go_enter Tryz.func62, Tryz.ntmps62
      go_wp2
      go_ret
      exact ⟨rfl, rfl⟩
    · have HD := Lib.hid (show tDone ⟨l, 0⟩ = 11 by simp [tDone, h0])
      have hem : (!(strOf l).toList.isEmpty) = true := by rw [strOf_toList]; simp [h0]
      clear h0
      go_enter Tryz.func62, Tryz.ntmps62
      go_wp2
      go_ret
      exact ⟨ret_int HD.out.symm, rfl⟩
  · have HD := Lib.hid (show tDone ⟨l, er⟩ = er by simp [tDone, he])
    have hne : (er == 0) = false := by simpa using he
    clear he
    go_enter Tryz.func62, Tryz.ntmps62
    go_wp2
    go_ret
    exact ⟨ret_int HD.out.symm, rfl⟩
end Go.Proofs.YtpghlmcoajaiiaaGreatDoor

/- jalousieref25: users, keys, digests, a record's bytes, the record of bytes. -/
namespace Go.Proofs.YtpghlmcoajaiiaaGreatDoor
open Go.RowKit

theorem rkey_any (n : Int) (w : World) : Calls Tryz.prog 25 #[.int .i64 n] w (RetStr w (keyB n)) := by
  have C := refNum_any (u64w n) 8 w (u64w_ok n)
  have hwr : IntKind.u64.wrap n = u64w n := rfl
  have hkb : keyB n = numF (u64w n) 8 := rfl
  have HKB := Lib.hid hkb
  clear hkb
  generalize u64w n = u at *
  go_enter Tryz.func25, Tryz.ntmps25
  go_wp2_with fail
  refine C.mono ?_
  rintro e w' ⟨rfl, hb⟩
  clear C
  go_wp2_with fail
  go_ret
  exact ⟨by rw [HKB.out]; rfl, hb⟩
theorem Rt.put {w : World} {t : Nat} {s : TSt} (h : Rt w t s) {b i : Nat} {u : Value} (hne : t ≠ b) : Rt (w.setCell ⟨b, i, none⟩ u) t s := (Below.heap_setCell w ⟨b, i, none⟩ u t hne).trans h
set_option maxRecDepth 100000 in
set_option maxHeartbeats 4000000 in
set_option maxRecDepth 100000 in
theorem rrecget_any (l : List UInt8) (w : World) (hl : l.length ≤ 100000) :
    Calls Tryz.prog 21 #[.string (strOf l)] w fun e w' => e = .returned (.tuple #[rcV (getR l), .int .i64 (getRE l)]) ∧ Below w.heap.size w w' := by
  obtain ⟨W1, hW1⟩ : ∃ x, x = w.alloc (.cells #[.int .i64 0, .int .i64 0, .int .i64 0, .string ByteArray.empty, .string ByteArray.empty, .int .u32 0] 64) := ⟨_, rfl⟩
  obtain ⟨W2, hW2⟩ : ∃ x, x = W1.alloc (.cells #[.string (strOf l), .int .i64 0] 157) := ⟨_, rfl⟩
  obtain ⟨W3, hW3⟩ : ∃ x, x = W2.alloc (.cells #[.int .i64 0, .int .i64 0, .int .i64 0, .string ByteArray.empty, .string ByteArray.empty, .int .u32 0] 64) := ⟨_, rfl⟩
  have hs1 : W1.heap.size = w.heap.size + 1 := by rw [hW1, World.size_alloc]
  have hs2 : W2.heap.size = w.heap.size + 2 := by rw [hW2, World.size_alloc, hs1]
  have hx3 : Boxes W3 [(w.heap.size + 2, [.int .i64 0, .int .i64 0, .int .i64 0, .string ByteArray.empty, .string ByteArray.empty, .int .u32 0]), (w.heap.size, [.int .i64 0, .int .i64 0, .int .i64 0, .string ByteArray.empty, .string ByteArray.empty, .int .u32 0])] := by
    rw [hW3, ← hs2]
    refine Boxes.alloc ?_ #[.int .i64 0, .int .i64 0, .int .i64 0, .string ByteArray.empty, .string ByteArray.empty, .int .u32 0] 64 rfl
    rw [hW2]
    refine Boxes.al ?_
    rw [hW1]
    exact (Boxes.nil w).alloc #[.int .i64 0, .int .i64 0, .int .i64 0, .string ByteArray.empty, .string ByteArray.empty, .int .u32 0] 64 (b := w.heap.size) rfl
  have hrt3 : Rt W3 (w.heap.size + 1) ⟨l, 0⟩ := by
    unfold Rt
    rw [hW3, Below.heap_alloc _ _ _ (by omega), hW2, ← hs1]
    exact World.alloc_heap_new W1 _
  have hb3 : Below w.heap.size w W3 := by rw [hW3, hW2, hW1]; exact Below.al (Below.al (Below.al (Below.refl _ _)))
  have hzr : ∀ W, (zeroValue 64).run Tryz.prog W = .ok (.agg #[.int .i64 0, .int .i64 0, .int .i64 0, .string ByteArray.empty, .string ByteArray.empty, .int .u32 0]) W := fun W => by kernel_rfl
  have HX := Lib.hid hx3
  have HB := Lib.hid hb3
  have HRT := Lib.hid hrt3
  have hv0 := gV_lt l 0
  have hv1 := gV_lt l 1
  have hv2 := gV_lt l 2
  have hvd := gD_lt l
  have w0 : IntKind.i64.wrap (gV l 0 : Int) = (gV l 0 : Int) := by simp [IntKind.wrap, IntKind.signed, IntKind.bits]; omega
  have w1 : IntKind.i64.wrap (gV l 1 : Int) = (gV l 1 : Int) := by simp [IntKind.wrap, IntKind.signed, IntKind.bits]; omega
  have w2 : IntKind.i64.wrap (gV l 2 : Int) = (gV l 2 : Int) := by simp [IntKind.wrap, IntKind.signed, IntKind.bits]; omega
  have w3 : IntKind.u32.wrap (gD l : Int) = (gD l : Int) := by simp [IntKind.wrap, IntKind.signed, IntKind.bits]; omega
  have w4 : (gD l : Int) % 4294967296 = (gD l : Int) := by omega
  have C0 : ∀ W, Rt W (w.heap.size + 1) ⟨l, 0⟩ → Calls Tryz.prog 60 #[.pointer (some ⟨w.heap.size + 1, 0, none⟩), .int .i64 1] W (RtPost W (w.heap.size + 1) (.int .u64 (gV l 0 : Int)) (gN l 1)) := fun W h => rNum_any _ ⟨l, 0⟩ 1 W h (by simp only; omega)
  have C1 : ∀ W, Rt W (w.heap.size + 1) (gN l 1) → Calls Tryz.prog 60 #[.pointer (some ⟨w.heap.size + 1, 0, none⟩), .int .i64 1] W (RtPost W (w.heap.size + 1) (.int .u64 (gV l 1 : Int)) (gN l 2)) := fun W h => rNum_any _ (gN l 1) 1 W h (by have := gN_len l 1; omega)
  have C2 : ∀ W, Rt W (w.heap.size + 1) (gN l 2) → Calls Tryz.prog 60 #[.pointer (some ⟨w.heap.size + 1, 0, none⟩), .int .i64 1] W (RtPost W (w.heap.size + 1) (.int .u64 (gV l 2 : Int)) (gT l 0)) := fun W h => rNum_any _ (gN l 2) 1 W h (by have := gN_len l 2; omega)
  have C3 : ∀ W, Rt W (w.heap.size + 1) (gT l 0) → Calls Tryz.prog 61 #[.pointer (some ⟨w.heap.size + 1, 0, none⟩)] W (RtPost W (w.heap.size + 1) (.string (strOf (gS l 0))) (gT l 1)) := fun W h => rText_any _ (gT l 0) W h (by have := gT_len l 0; omega)
  have C4 : ∀ W, Rt W (w.heap.size + 1) (gT l 1) → Calls Tryz.prog 61 #[.pointer (some ⟨w.heap.size + 1, 0, none⟩)] W (RtPost W (w.heap.size + 1) (.string (strOf (gS l 1))) (gT l 2)) := fun W h => rText_any _ (gT l 1) W h (by have := gT_len l 1; omega)
  have C5 : ∀ W, Rt W (w.heap.size + 1) (gT l 2) → Calls Tryz.prog 60 #[.pointer (some ⟨w.heap.size + 1, 0, none⟩), .int .i64 4] W (RtPost W (w.heap.size + 1) (.int .u64 (gD l : Int)) (gE l)) := fun W h => rNum_any _ (gT l 2) 4 W h (by have := gT_len l 2; omega)
  have CD : ∀ W, Rt W (w.heap.size + 1) (gE l) → Calls Tryz.prog 62 #[.pointer (some ⟨w.heap.size + 1, 0, none⟩)] W fun e w' => e = .returned (.int .i64 (tDone (gE l))) ∧ W = w' := fun W h => rDone_any _ (gE l) W h
  have HGR : Hid (getR l = if tDone (gE l) = 0 then ⟨(gV l 0 : Int), (gV l 1 : Int), (gV l 2 : Int), gS l 0, gS l 1, gD l⟩ else zeroRc) := Lib.hid rfl
  have HGE : Hid (getRE l = tDone (gE l)) := Lib.hid rfl
  generalize getR l = GR at *
  generalize getRE l = GE at *
  generalize tDone (gE l) = DE at *
  generalize gE l = sE at *
  generalize gT l 0 = s3 at *
  generalize gT l 1 = s4 at *
  generalize gT l 2 = s5 at *
  generalize gN l 1 = s1 at *
  generalize gN l 2 = s2 at *
  generalize gV l 0 = v0 at *
  generalize gV l 1 = v1 at *
  generalize gV l 2 = v2 at *
  generalize gS l 0 = v3 at *
  generalize gS l 1 = v4 at *
  generalize gD l = v5 at *
  clear hx3 hb3 hrt3 hs1 hs2
  go_enter Tryz.func21, Tryz.ntmps21
  go_upto_region 3 with (fail)
  rw [← hW1, ← hW2, ← hW3]
  clear hW1 hW2 hW3
  go_wp2_with fail
  refine (C0 _ HRT.out).mono ?_
  rintro e y0 ⟨rfl, hg, hrt⟩
  have hx := HX.out.grown hg (by intro p hp e; have e := Option.some.inj e; simp at hp; rcases hp with rfl | rfl <;> simp at e <;> omega)
  have z := hx.cell 0 0 rfl rfl
  have u := hx.frozen 0 0 rfl
  have HRT := Lib.hid (hrt.put (b := w.heap.size + 2) (i := 0) (u := (.int .i64 (v0 : Int))) (by omega))
  have HB := Lib.hid ((HB.out.grown hg HB.out.size (fun k e => by cases e; omega)).setCell (p := ⟨w.heap.size + 2, 0, none⟩) (show w.heap.size ≤ w.heap.size + 2 by omega) (.int .i64 (v0 : Int)))
  have HX := Lib.hid (hx.put 0 (.int .i64 (v0 : Int)) (by simp))
  clear hg hrt hx
  go_wp2_with fail
  clear z u
  refine (C1 _ HRT.out).mono ?_
  rintro e y1 ⟨rfl, hg, hrt⟩
  have hx := HX.out.grown hg (by intro p hp e; have e := Option.some.inj e; simp at hp; rcases hp with rfl | rfl <;> simp at e <;> omega)
  have z := hx.cell 0 1 rfl rfl
  have u := hx.frozen 0 1 rfl
  have HRT := Lib.hid (hrt.put (b := w.heap.size + 2) (i := 1) (u := (.int .i64 (v1 : Int))) (by omega))
  have HB := Lib.hid ((HB.out.grown hg HB.out.size (fun k e => by cases e; omega)).setCell (p := ⟨w.heap.size + 2, 1, none⟩) (show w.heap.size ≤ w.heap.size + 2 by omega) (.int .i64 (v1 : Int)))
  have HX := Lib.hid (hx.put 1 (.int .i64 (v1 : Int)) (by simp))
  clear hg hrt hx
  go_wp2_with fail
  clear z u
  refine (C2 _ HRT.out).mono ?_
  rintro e y2 ⟨rfl, hg, hrt⟩
  have hx := HX.out.grown hg (by intro p hp e; have e := Option.some.inj e; simp at hp; rcases hp with rfl | rfl <;> simp at e <;> omega)
  have z := hx.cell 0 2 rfl rfl
  have u := hx.frozen 0 2 rfl
  have HRT := Lib.hid (hrt.put (b := w.heap.size + 2) (i := 2) (u := (.int .i64 (v2 : Int))) (by omega))
  have HB := Lib.hid ((HB.out.grown hg HB.out.size (fun k e => by cases e; omega)).setCell (p := ⟨w.heap.size + 2, 2, none⟩) (show w.heap.size ≤ w.heap.size + 2 by omega) (.int .i64 (v2 : Int)))
  have HX := Lib.hid (hx.put 2 (.int .i64 (v2 : Int)) (by simp))
  clear hg hrt hx
  go_wp2_with fail
  clear z u
  refine (C3 _ HRT.out).mono ?_
  rintro e y3 ⟨rfl, hg, hrt⟩
  have hx := HX.out.grown hg (by intro p hp e; have e := Option.some.inj e; simp at hp; rcases hp with rfl | rfl <;> simp at e <;> omega)
  have z := hx.cell 0 3 rfl rfl
  have u := hx.frozen 0 3 rfl
  have HRT := Lib.hid (hrt.put (b := w.heap.size + 2) (i := 3) (u := (.string (strOf v3))) (by omega))
  have HB := Lib.hid ((HB.out.grown hg HB.out.size (fun k e => by cases e; omega)).setCell (p := ⟨w.heap.size + 2, 3, none⟩) (show w.heap.size ≤ w.heap.size + 2 by omega) (.string (strOf v3)))
  have HX := Lib.hid (hx.put 3 (.string (strOf v3)) (by simp))
  clear hg hrt hx
  go_wp2_with fail
  clear z u
  refine (C4 _ HRT.out).mono ?_
  rintro e y4 ⟨rfl, hg, hrt⟩
  have hx := HX.out.grown hg (by intro p hp e; have e := Option.some.inj e; simp at hp; rcases hp with rfl | rfl <;> simp at e <;> omega)
  have z := hx.cell 0 4 rfl rfl
  have u := hx.frozen 0 4 rfl
  have HRT := Lib.hid (hrt.put (b := w.heap.size + 2) (i := 4) (u := (.string (strOf v4))) (by omega))
  have HB := Lib.hid ((HB.out.grown hg HB.out.size (fun k e => by cases e; omega)).setCell (p := ⟨w.heap.size + 2, 4, none⟩) (show w.heap.size ≤ w.heap.size + 2 by omega) (.string (strOf v4)))
  have HX := Lib.hid (hx.put 4 (.string (strOf v4)) (by simp))
  clear hg hrt hx
  go_wp2_with fail
  clear z u
  refine (C5 _ HRT.out).mono ?_
  rintro e y5 ⟨rfl, hg, hrt⟩
  have hx := HX.out.grown hg (by intro p hp e; have e := Option.some.inj e; simp at hp; rcases hp with rfl | rfl <;> simp at e <;> omega)
  have z := hx.cell 0 5 rfl rfl
  have u := hx.frozen 0 5 rfl
  have HRT := Lib.hid (hrt.put (b := w.heap.size + 2) (i := 5) (u := (.int .u32 (v5 : Int))) (by omega))
  have HB := Lib.hid ((HB.out.grown hg HB.out.size (fun k e => by cases e; omega)).setCell (p := ⟨w.heap.size + 2, 5, none⟩) (show w.heap.size ≤ w.heap.size + 2 by omega) (.int .u32 (v5 : Int)))
  have HX := Lib.hid (hx.put 5 (.int .u32 (v5 : Int)) (by simp))
  clear hg hrt hx
  go_wp2_with fail
  clear z u
  refine (CD _ HRT.out).mono ?_
  rintro e wz ⟨rfl, rfl⟩
  have z0 := HX.out.cell 1 0 rfl rfl
  have u0 := HX.out.frozen 1 0 rfl
  have c0 := HX.out.cell 0 0 rfl rfl
  have z1 := HX.out.cell 1 1 rfl rfl
  have u1 := HX.out.frozen 1 1 rfl
  have c1 := HX.out.cell 0 1 rfl rfl
  have z2 := HX.out.cell 1 2 rfl rfl
  have u2 := HX.out.frozen 1 2 rfl
  have c2 := HX.out.cell 0 2 rfl rfl
  have z3 := HX.out.cell 1 3 rfl rfl
  have u3 := HX.out.frozen 1 3 rfl
  have c3 := HX.out.cell 0 3 rfl rfl
  have z4 := HX.out.cell 1 4 rfl rfl
  have u4 := HX.out.frozen 1 4 rfl
  have c4 := HX.out.cell 0 4 rfl rfl
  have z5 := HX.out.cell 1 5 rfl rfl
  have u5 := HX.out.frozen 1 5 rfl
  have c5 := HX.out.cell 0 5 rfl rfl
  clear C0 C1 C2 C3 C4 C5 CD
  by_cases hd : DE = 0
  · subst hd
    have hG := HGR.out
    rw [if_pos rfl] at hG
    have HG := Lib.hid hG
    clear hG
    go_wp2_with fail
    refine bodyPost_ret (v := .tuple #[.agg #[.int .i64 (v0 : Int), .int .i64 (v1 : Int), .int .i64 (v2 : Int), .string (strOf v3), .string (strOf v4), .int .u32 (v5 : Int)], .int .i64 0]) (by simp [results, Tryz.results21, go_sem, z0, z1, z2, z3, z4, z5]) rfl ?_
    exact ⟨by rw [HG.out, HGE.out]; rfl, ((((((HB.out.setCell (Nat.le_refl _) _).setCell (Nat.le_refl _) _).setCell (Nat.le_refl _) _).setCell (Nat.le_refl _) _).setCell (Nat.le_refl _) _).setCell (Nat.le_refl _) _)⟩
  · have n0 : (DE != 0) = true := by simpa using hd
    have n1 : (DE == 0) = false := by simpa using hd
    have hG := HGR.out
    rw [if_neg hd] at hG
    have HG := Lib.hid hG
    clear hG hd
    go_wp2_with fail
    refine bodyPost_ret (v := .tuple #[.agg #[.int .i64 0, .int .i64 0, .int .i64 0, .string ByteArray.empty, .string ByteArray.empty, .int .u32 0], .int .i64 DE]) (by simp [results, Tryz.results21, go_sem, z0, z1, z2, z3, z4, z5]) rfl ?_
    exact ⟨by rw [HG.out, HGE.out]; rfl, ((((((HB.out.setCell (Nat.le_refl _) _).setCell (Nat.le_refl _) _).setCell (Nat.le_refl _) _).setCell (Nat.le_refl _) _).setCell (Nat.le_refl _) _).setCell (Nat.le_refl _) _)⟩
end Go.Proofs.YtpghlmcoajaiiaaGreatDoor

/- jalousieref25: Next, List, Same. -/
namespace Go.Proofs.YtpghlmcoajaiiaaGreatDoor
open Go.RowKit

set_option maxRecDepth 100000 in
set_option maxHeartbeats 4000000 in
set_option maxRecDepth 100000 in
theorem rnext25 {F : Nat → Prop} {w : World} {v : Vw} {d0 d1 d2 : Value} {a : Option Addr} {c : Nat} (hl : TabR 4 (RBkOn F w) w a v.l.length c v.l) (hn : v.l.length ≤ 1000) (hbd : ∀ b ∈ v.l, Bnd b.lv b.tree) (he : ∀ b ∈ v.l, (entsT b.lv b.tree).length ≤ 100000) :
    Calls Tryz.prog 37 #[.agg #[d0, d1, d2, .slice a v.l.length c]] w fun e w' => e = .returned (.tuple #[.int .i64 ((nextF v.l).getD 0 : Nat), .bool (nextF v.l).isSome]) ∧ Below w.heap.size w w' := by
  obtain ⟨m, hm⟩ : ∃ z, v.l.length = z := ⟨_, rfl⟩
  rw [hm] at hl hn ⊢
  obtain ⟨W1, hW1⟩ : ∃ x, w.alloc (.cells #[d0, d1, d2, .slice a m c] 79) = x := ⟨_, rfl⟩
  have hx1 : Boxes W1 [(w.heap.size, [d0, d1, d2, .slice a m c])] := by
    rw [← hW1]
    exact (Boxes.nil w).alloc #[d0, d1, d2, .slice a m c] 79 (b := w.heap.size) rfl
  have hb1 : Below w.heap.size w W1 := by rw [← hW1]; exact Below.al (Below.refl _ _)
  have g3 := hx1.cell 0 3 rfl rfl
  obtain ⟨R, hR⟩ : ∃ z, nextF v.l = z := ⟨_, rfl⟩
  rw [hR]
  have HL := Lib.hid hl
  have HE := Lib.hid he
  have HBD := Lib.hid hbd
  have HM := Lib.hid hm
  have HR : Hid (nextF (v.l.drop 0) = R) := Lib.hid hR
  have HB1 := Lib.hid hb1
  obtain ⟨_, e2, e3⟩ := hl.lens
  clear hl he hbd hx1 hR hb1 hm
  go_enter Tryz.func37, Tryz.ntmps37
  go_wp2_with fail
  go_loopw [4] (fun s wr => ∃ i : Nat, i ≤ m ∧ s = .int .i64 i ∧ Hid (nextF (v.l.drop i) = R) ∧ wr = W1) (fun s _ => m - (intOf s).toNat)
  case atStart => exact ⟨0, Nat.zero_le _, rfl, HR, rfl⟩
  case round =>
    obtain ⟨i, hi, rfl, hr, rfl⟩ := hrel
    by_cases hlt : i < m
    · obtain ⟨b, off, y, cs, rfl, hbb, hy, _, ⟨ts, rfl, hn9⟩, hcell⟩ := TabR.at HL.out hlt
      obtain ⟨x1, k1, e1⟩ := hn9.three
      subst e1
      have d0' : decide ((i : Int) < (m : Int)) = true := by simp; omega
      have c0 := (HB1.out.cell (p := ⟨b, off + i * 4, none⟩) hbb).trans (by simpa using hcell 0 _ rfl)
      have c1 := (HB1.out.cell (p := ⟨b, off + i * 4 + 1, none⟩) hbb).trans (hcell 1 _ rfl)
      have c2 := (HB1.out.cell (p := ⟨b, off + i * 4 + 2, none⟩) hbb).trans (hcell 2 _ rfl)
      have c3 := (HB1.out.cell (p := ⟨b, off + i * 4 + 3, none⟩) hbb).trans (hcell 3 _ rfl)
      have hd := nextF_drop hy
      rw [hr.out] at hd
      have hey := HE.out y (List.mem_of_getElem? hy)
      obtain ⟨nm, hnm⟩ : ∃ z, y.name = z := ⟨_, rfl⟩
      rw [hnm] at c0 hd
      have CC := ents_from (hn9.below HB1.out) (HBD.out y (List.mem_of_getElem? hy)) hey
      obtain ⟨E, hE⟩ : ∃ z, entsT y.lv y.tree = z := ⟨_, rfl⟩
      rw [hE] at CC hd hey
      by_cases hq : nm = [97]
      · have dq : ((strOf nm).toList == [97]) = true := by rw [strOf_toList]; simpa using hq
        rw [if_pos hq] at hd
        have HEY := Lib.hid hey
        clear hr hcell hq hy hnm hey hE
        go_wp2_with fail
        refine CC.mono ?_
        rintro e w3 ⟨a3, m3, c3', rfl, hE3, -, hb3⟩
        have hl3 := hE3.len.1
        rw [hl3] at hd
        subst hd
        have HB3 := Lib.hid (below_via HB1.out hb3)
        clear CC hb3 hE3 hl3
        go_wp2_with fail
        refine bodyPost_ret (v := .tuple #[.int .i64 (m3 : Int), .bool true]) (by simp [results, Tryz.results37, go_sem]) rfl ?_
        exact ⟨rfl, HB3.out⟩
      · have dq : ((strOf nm).toList == [97]) = false := by rw [strOf_toList]; simpa using hq
        rw [if_neg hq] at hd
        have HD := Lib.hid hd.symm
        clear hr hcell hq hy hnm hey hd CC hE
        go_wp2_with fail
        go_roundw
        case rel => exact ⟨i + 1, by omega, by go_num, HD, trivial⟩
        case measure => simp [intOf]; omega
    · obtain rfl : i = m := by omega
      have d0' : decide ((i : Int) < (i : Int)) = false := by simp
      have hR : R = none := by rw [← hr.out, List.drop_of_length_le (by rw [HM.out]; exact Nat.le_refl _)]; rfl
      subst hR
      clear hr
      go_wp2_with fail
      refine bodyPost_ret (v := .tuple #[.int .i64 0, .bool false]) (by simp [results, Tryz.results37, go_sem]) rfl ?_
      exact ⟨rfl, HB1.out⟩
theorem rcne25 (r : RcD) (w : World) : (binOp .neq 64 (rcV r) (rcV r)).run Tryz.prog w = .ok (.bool false) w := by
  obtain ⟨a1, a2, a3, a4, a5, a6⟩ := r
  unfold rcV
  simp [go_sem]
/-- Two rows of the same records are the same. -/
theorem rsame25 {w : World} {a b : Option Addr} {n c d : Nat} {l : List RcD} (ha : Raw 6 w a n c (l.map rCell)) (hb : Raw 6 w b n d (l.map rCell)) (hn9 : n ≤ 100000) :
    Calls Tryz.prog 40 #[.slice a n c, .slice b n d] w fun e w' => e = .returned (.bool true) ∧ Below w.heap.size w w' := by
  have HA := Lib.hid ha
  have HB := Lib.hid hb
  obtain ⟨ea, ea2, ea3⟩ := ha.lens
  obtain ⟨eb, eb2, eb3⟩ := hb.lens
  clear ha hb ea eb
  go_enter Tryz.func40, Tryz.ntmps40
  go_wp2_with fail
  go_loopw [5] (fun s wr => ∃ i : Nat, i ≤ n ∧ s = .int .i64 i ∧ Below w.heap.size w wr) (fun s _ => n - (intOf s).toNat)
  case atStart => exact ⟨0, Nat.zero_le _, rfl, Below.refl _ _⟩
  case round =>
    obtain ⟨i, hi, rfl, hbr⟩ := hrel
    by_cases hlt : i < n
    · obtain ⟨ba, oa, ya, ca, rfl, hba, hya, _, hca, hcella⟩ := TabR.at HA.out hlt
      obtain ⟨bb, ob, yb, cb, rfl, hbb, hyb, _, hcb, hcellb⟩ := TabR.at HB.out hlt
      rw [hya] at hyb
      cases hyb
      rw [List.getElem?_map] at hya
      obtain ⟨r, -, hr⟩ := Option.map_eq_some_iff.1 hya
      have hca' : ca = [.int .i64 r.actor, .int .i64 r.from_, .int .i64 r.to_, .string (strOf r.bucket), .string (strOf r.key), .int .u32 (r.digest : Int)] := by rw [hca, ← hr]; rfl
      have hcb' : cb = [.int .i64 r.actor, .int .i64 r.from_, .int .i64 r.to_, .string (strOf r.bucket), .string (strOf r.key), .int .u32 (r.digest : Int)] := by rw [hcb, ← hr]; rfl
      subst hca' hcb'
      have d0' : decide ((i : Int) < (n : Int)) = true := by simp; omega
      have d1' : decide ((0 : Int) ≤ (i : Int)) = true := by simp
      have hEq : ∀ W, (binOp .neq 64 (.agg #[.int .i64 r.actor, .int .i64 r.from_, .int .i64 r.to_, .string (strOf r.bucket), .string (strOf r.key), .int .u32 (r.digest : Int)]) (.agg #[.int .i64 r.actor, .int .i64 r.from_, .int .i64 r.to_, .string (strOf r.bucket), .string (strOf r.key), .int .u32 (r.digest : Int)])).run Tryz.prog W = .ok (.bool false) W := fun W => rcne25 r W
      have v0 : ∀ W, Below wr.heap.size wr W → W.cell? ⟨ba, oa + i * 6, none⟩ = some (.int .i64 r.actor) := fun W hW => ((hbr.trans (hW.mono hbr.size)).cell (p := ⟨ba, oa + i * 6, none⟩) hba).trans (by simpa using hcella 0 _ rfl)
      have x0 : ∀ W, Below wr.heap.size wr W → W.cell? ⟨bb, ob + i * 6, none⟩ = some (.int .i64 r.actor) := fun W hW => ((hbr.trans (hW.mono hbr.size)).cell (p := ⟨bb, ob + i * 6, none⟩) hbb).trans (by simpa using hcellb 0 _ rfl)
      have v1 : ∀ W, Below wr.heap.size wr W → W.cell? ⟨ba, oa + i * 6 + 1, none⟩ = some (.int .i64 r.from_) := fun W hW => ((hbr.trans (hW.mono hbr.size)).cell (p := ⟨ba, oa + i * 6 + 1, none⟩) hba).trans (hcella 1 _ rfl)
      have x1 : ∀ W, Below wr.heap.size wr W → W.cell? ⟨bb, ob + i * 6 + 1, none⟩ = some (.int .i64 r.from_) := fun W hW => ((hbr.trans (hW.mono hbr.size)).cell (p := ⟨bb, ob + i * 6 + 1, none⟩) hbb).trans (hcellb 1 _ rfl)
      have v2 : ∀ W, Below wr.heap.size wr W → W.cell? ⟨ba, oa + i * 6 + 2, none⟩ = some (.int .i64 r.to_) := fun W hW => ((hbr.trans (hW.mono hbr.size)).cell (p := ⟨ba, oa + i * 6 + 2, none⟩) hba).trans (hcella 2 _ rfl)
      have x2 : ∀ W, Below wr.heap.size wr W → W.cell? ⟨bb, ob + i * 6 + 2, none⟩ = some (.int .i64 r.to_) := fun W hW => ((hbr.trans (hW.mono hbr.size)).cell (p := ⟨bb, ob + i * 6 + 2, none⟩) hbb).trans (hcellb 2 _ rfl)
      have v3 : ∀ W, Below wr.heap.size wr W → W.cell? ⟨ba, oa + i * 6 + 3, none⟩ = some (.string (strOf r.bucket)) := fun W hW => ((hbr.trans (hW.mono hbr.size)).cell (p := ⟨ba, oa + i * 6 + 3, none⟩) hba).trans (hcella 3 _ rfl)
      have x3 : ∀ W, Below wr.heap.size wr W → W.cell? ⟨bb, ob + i * 6 + 3, none⟩ = some (.string (strOf r.bucket)) := fun W hW => ((hbr.trans (hW.mono hbr.size)).cell (p := ⟨bb, ob + i * 6 + 3, none⟩) hbb).trans (hcellb 3 _ rfl)
      have v4 : ∀ W, Below wr.heap.size wr W → W.cell? ⟨ba, oa + i * 6 + 4, none⟩ = some (.string (strOf r.key)) := fun W hW => ((hbr.trans (hW.mono hbr.size)).cell (p := ⟨ba, oa + i * 6 + 4, none⟩) hba).trans (hcella 4 _ rfl)
      have x4 : ∀ W, Below wr.heap.size wr W → W.cell? ⟨bb, ob + i * 6 + 4, none⟩ = some (.string (strOf r.key)) := fun W hW => ((hbr.trans (hW.mono hbr.size)).cell (p := ⟨bb, ob + i * 6 + 4, none⟩) hbb).trans (hcellb 4 _ rfl)
      have v5 : ∀ W, Below wr.heap.size wr W → W.cell? ⟨ba, oa + i * 6 + 5, none⟩ = some (.int .u32 (r.digest : Int)) := fun W hW => ((hbr.trans (hW.mono hbr.size)).cell (p := ⟨ba, oa + i * 6 + 5, none⟩) hba).trans (hcella 5 _ rfl)
      have x5 : ∀ W, Below wr.heap.size wr W → W.cell? ⟨bb, ob + i * 6 + 5, none⟩ = some (.int .u32 (r.digest : Int)) := fun W hW => ((hbr.trans (hW.mono hbr.size)).cell (p := ⟨bb, ob + i * 6 + 5, none⟩) hbb).trans (hcellb 5 _ rfl)
      have hB0 : Below wr.heap.size wr wr.drew := Below.dr (Below.refl _ _)
      have HBR := Lib.hid hbr
      clear hcella hcellb hca hcb hya hr hbr
      go_upto_region 6 with (fail)
      go_region_held3 (fun W => Below wr.heap.size wr W) (first | with_reducible assumption | (repeat (with_reducible first | assumption | exact Below.refl _ _ | apply Below.al | apply Below.dr))) (fail)
      go_wp2_with fail
      go_roundw
      case rel => exact ⟨i + 1, by omega, by go_num, HBR.out.drew⟩
      case measure => simp [intOf]; omega
    · obtain rfl : i = n := by omega
      have d0' : decide ((i : Int) < (i : Int)) = false := by simp
      have HBR := Lib.hid hbr
      clear hbr
      go_wp2_with fail
      go_ret
      exact ⟨rfl, HBR.out⟩
end Go.Proofs.YtpghlmcoajaiiaaGreatDoor
