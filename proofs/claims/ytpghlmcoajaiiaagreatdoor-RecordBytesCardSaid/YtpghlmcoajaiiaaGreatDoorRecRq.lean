/- jalousieref25: users, keys, digests, a record's bytes, the record of bytes. -/
import Derived.Test.YtpghlmcoajaiiaaGreatDoorM15
import Derived.Test.YtpghlmcoajaiiaaGreatDoorOctRq
import Derived.Deep.RegionHeld3
namespace Go.Proofs.YtpghlmcoajaiiaaGreatDoor
open Go.RowKit

theorem str_add2 {P : Program} (a b : List UInt8) (h : a.length + b.length ≤ 9223372036854775807) (W : World) : (Op.stringOp .add (strOf a) (strOf b)).run P W = .ok (.string (strOf (a ++ b))) W := by
  have hs := strOf_append a b
  simp [Op.stringOp, strOf_size, hs]
  omega
theorem ruser_any (l : List UInt8) (w : World) (hl : l.length ≤ 1000000) : Calls Tryz.prog 29 #[.string (strOf l)] w fun e w' => e = .returned (.string (strOf (98 :: l))) ∧ w = w' := by
  have hadd : (⟨#[98]⟩ : ByteArray) ++ strOf l = strOf (98 :: l) := strOf_append [98] l
  have hs := strOf_size l
  obtain ⟨z, hz⟩ : ∃ z, strOf (98 :: l) = z := ⟨_, rfl⟩
  rw [hz] at hadd ⊢
  go_enter Tryz.func29, Tryz.ntmps29
  go_wp2_with fail
  go_ret
  exact ⟨rfl, rfl⟩
theorem rkey_any (n : Int) (w : World) : Calls Tryz.prog 25 #[.int .i64 n] w (RetStr w (keyB n)) := by
  have C := refNum_any (u64w n) 8 w (u64w_ok n)
  have hwr : IntKind.u64.wrap n = u64w n := rfl
  have hkb : keyB n = numF (u64w n) 8 := rfl
  have HKB := Lib.hid hkb
  clear hkb
  generalize u64w n = u at *
  go_enter Tryz.func25, Tryz.ntmps25
  go_wp2_with fail
  refine C.mono ?_
  rintro e w' ⟨rfl, hb⟩
  clear C
  go_wp2_with fail
  go_ret
  exact ⟨by rw [HKB.out]; rfl, hb⟩
theorem rdigest_any (l : List UInt8) (w : World) (hl : l.length ≤ 100000) : Calls Tryz.prog 27 #[.string (strOf l)] w fun e w' => e = .returned (.int .u32 (crcOf l : Int)) ∧ w = w' := by
  have C := refOf_any l w (by omega)
  go_enter Tryz.func27, Tryz.ntmps27
  go_wp2_with fail
  refine C.mono ?_
  rintro e w' ⟨rfl, rfl⟩
  go_wp2_with fail
  go_ret
  exact ⟨rfl, rfl⟩
set_option maxRecDepth 100000 in
set_option maxHeartbeats 4000000 in
set_option maxRecDepth 100000 in
theorem rrecput_any (r : RcD) (w : World) (hk : r.key.length ≤ 1000) (hbk : r.bucket.length ≤ 1000) (hd : r.digest < 4294967296) :
    Calls Tryz.prog 23 #[rcV r] w (RetStr w (rcB r)) := by
  obtain ⟨W1, hW1⟩ : ∃ x, x = w.alloc (.cells #[.int .i64 r.actor, .int .i64 r.from_, .int .i64 r.to_, .string (strOf r.bucket), .string (strOf r.key), .int .u32 (r.digest : Int)] 64) := ⟨_, rfl⟩
  have hx1 : Boxes W1 [(w.heap.size, [.int .i64 r.actor, .int .i64 r.from_, .int .i64 r.to_, .string (strOf r.bucket), .string (strOf r.key), .int .u32 (r.digest : Int)])] := by
    rw [hW1]
    exact (Boxes.nil w).alloc #[.int .i64 r.actor, .int .i64 r.from_, .int .i64 r.to_, .string (strOf r.bucket), .string (strOf r.key), .int .u32 (r.digest : Int)] 64 (b := w.heap.size) rfl
  have hb1 : Below w.heap.size w W1 := by rw [hW1]; exact Below.al (Below.refl _ _)
  have t0 : ∀ W, Below W1.heap.size W1 W → W.cell? ⟨w.heap.size, 0, none⟩ = some (.int .i64 r.actor) := fun W hW => (hx1.step hW).cell 0 0 rfl rfl
  have t1 : ∀ W, Below W1.heap.size W1 W → W.cell? ⟨w.heap.size, 1, none⟩ = some (.int .i64 r.from_) := fun W hW => (hx1.step hW).cell 0 1 rfl rfl
  have t2 : ∀ W, Below W1.heap.size W1 W → W.cell? ⟨w.heap.size, 2, none⟩ = some (.int .i64 r.to_) := fun W hW => (hx1.step hW).cell 0 2 rfl rfl
  have HX1 := Lib.hid hx1
  have HB1 := Lib.hid hb1
  have n0 := fun W => refNum_any (u64w r.actor) 1 W (u64w_ok _)
  have n1 := fun W => refNum_any (u64w r.from_) 1 W (u64w_ok _)
  have n2 := fun W => refNum_any (u64w r.to_) 1 W (u64w_ok _)
  have n3 : ∀ W, Calls Tryz.prog 67 #[.int .u64 (r.digest : Int), .int .i64 4] W (RetStr W (numF (r.digest : Int) 4)) := fun W => refNum_any (r.digest : Int) 4 W (by omega)
  have x1 := fun W => refText_any r.bucket W (by omega)
  have x2 := fun W => refText_any r.key W (by omega)
  have hv : rcV r = .agg #[.int .i64 r.actor, .int .i64 r.from_, .int .i64 r.to_, .string (strOf r.bucket), .string (strOf r.key), .int .u32 (r.digest : Int)] := rfl
  have v0 : IntKind.u64.wrap r.actor = u64w r.actor := rfl
  have v1 : IntKind.u64.wrap r.from_ = u64w r.from_ := rfl
  have v2 : IntKind.u64.wrap r.to_ = u64w r.to_ := rfl
  have v3 : IntKind.u64.wrap (r.digest : Int) = (r.digest : Int) := by simp [IntKind.wrap, IntKind.signed, IntKind.bits]; omega
  have v4 : (r.digest : Int) % 18446744073709551616 = (r.digest : Int) := by omega
  have g0 := numF_le (u64w r.actor) 1
  have g1 := numF_le (u64w r.from_) 1
  have g2 := numF_le (u64w r.to_) 1
  have g3 := numF_le (r.digest : Int) 4
  have g4 := textF_le r.bucket
  have g5 := textF_le r.key
  have HR : Hid (rcB r = numF (u64w r.actor) 1 ++ numF (u64w r.from_) 1 ++ numF (u64w r.to_) 1 ++ textF r.bucket ++ textF r.key ++ numF (r.digest : Int) 4) := Lib.hid rfl
  rw [hv]
  generalize rcB r = RB at *
  generalize numF (u64w r.actor) 1 = b0 at *
  generalize numF (u64w r.from_) 1 = b1 at *
  generalize numF (u64w r.to_) 1 = b2 at *
  generalize numF (r.digest : Int) 4 = b5 at *
  generalize textF r.bucket = b3 at *
  generalize textF r.key = b4 at *
  have s0 : ∀ W, (Op.stringOp .add (strOf b0) (strOf b1)).run Tryz.prog W = .ok (.string (strOf (b0 ++ b1))) W := fun W => str_add2 _ _ (by omega) W
  have s1 : ∀ W, (Op.stringOp .add (strOf (b0 ++ b1)) (strOf b2)).run Tryz.prog W = .ok (.string (strOf (b0 ++ b1 ++ b2))) W := fun W => str_add2 _ _ (by simp only [List.length_append]; omega) W
  have s2 : ∀ W, (Op.stringOp .add (strOf (b0 ++ b1 ++ b2)) (strOf b3)).run Tryz.prog W = .ok (.string (strOf (b0 ++ b1 ++ b2 ++ b3))) W := fun W => str_add2 _ _ (by simp only [List.length_append]; omega) W
  have s3 : ∀ W, (Op.stringOp .add (strOf (b0 ++ b1 ++ b2 ++ b3)) (strOf b4)).run Tryz.prog W = .ok (.string (strOf (b0 ++ b1 ++ b2 ++ b3 ++ b4))) W := fun W => str_add2 _ _ (by simp only [List.length_append]; omega) W
  have s4 : ∀ W, (Op.stringOp .add (strOf (b0 ++ b1 ++ b2 ++ b3 ++ b4)) (strOf b5)).run Tryz.prog W = .ok (.string (strOf RB)) W := fun W => by
    rw [HR.out]
    exact str_add2 _ _ (by simp only [List.length_append]; omega) W
  clear hv g0 g1 g2 g3 g4 g5 hx1 hb1 hk hbk
  generalize b0 ++ b1 ++ b2 ++ b3 ++ b4 = c3 at *
  generalize b0 ++ b1 ++ b2 ++ b3 = c2 at *
  generalize b0 ++ b1 ++ b2 = c1 at *
  generalize b0 ++ b1 = c0 at *
  generalize u64w r.actor = a0 at *
  generalize u64w r.from_ = a1 at *
  generalize u64w r.to_ = a2 at *
  have hB0 : Below W1.heap.size W1 W1.drew := Below.dr (Below.refl _ _)
  go_enter Tryz.func23, Tryz.ntmps23
  go_upto_region 1 with (fail)
  rw [← hW1]
  clear hW1
  go_region_held3 (fun W => Below W1.heap.size W1 W) (first | with_reducible assumption | (repeat (with_reducible first | assumption | exact Below.refl _ _ | apply Below.al | apply Below.dr))) (first | (go_at_call 67; first | ((with_reducible refine (n0 _).mono ?_); rintro e wa ⟨rfl, hba⟩; have hBa : Below W1.heap.size W1 wa := below_via (by (repeat (with_reducible first | assumption | exact Below.refl _ _ | apply Below.al | apply Below.dr))) hba) | ((with_reducible refine (n1 _).mono ?_); rintro e wb ⟨rfl, hbb⟩; have hBb : Below W1.heap.size W1 wb := below_via (by (repeat (with_reducible first | assumption | exact Below.refl _ _ | apply Below.al | apply Below.dr))) hbb) | ((with_reducible refine (n2 _).mono ?_); rintro e wc ⟨rfl, hbc⟩; have hBc : Below W1.heap.size W1 wc := below_via (by (repeat (with_reducible first | assumption | exact Below.refl _ _ | apply Below.al | apply Below.dr))) hbc)))
  have HBC := Lib.hid (below_via HB1.out hBc)
  have hx2 := HX1.out.step hBc
  have t3 : ∀ W, Below wc.heap.size wc W → W.cell? ⟨w.heap.size, 3, none⟩ = some (.string (strOf r.bucket)) := fun W hW => (hx2.step hW).cell 0 3 rfl rfl
  have t4 : ∀ W, Below wc.heap.size wc W → W.cell? ⟨w.heap.size, 4, none⟩ = some (.string (strOf r.key)) := fun W hW => (hx2.step hW).cell 0 4 rfl rfl
  have t5 : ∀ W, Below wc.heap.size wc W → W.cell? ⟨w.heap.size, 5, none⟩ = some (.int .u32 (r.digest : Int)) := fun W hW => (hx2.step hW).cell 0 5 rfl rfl
  clear n0 n1 n2 t0 t1 t2 hba hBa hbb hBb hbc hBc hB0 hx2 s0 s1
  have hB0 : Below wc.heap.size wc wc.drew := Below.dr (Below.refl _ _)
  go_upto_region 2 with (fail)
  go_region_held3 (fun W => Below wc.heap.size wc W) (first | with_reducible assumption | (repeat (with_reducible first | assumption | exact Below.refl _ _ | apply Below.al | apply Below.dr))) (first | (go_at_call 67; (with_reducible refine (n3 _).mono ?_); rintro e wf ⟨rfl, hbf⟩; have hBf : Below wc.heap.size wc wf := below_via (by (repeat (with_reducible first | assumption | exact Below.refl _ _ | apply Below.al | apply Below.dr))) hbf) | (go_at_call 68; first | ((with_reducible refine (x1 _).mono ?_); rintro e wd ⟨rfl, hbd⟩; have hBd : Below wc.heap.size wc wd := below_via (by (repeat (with_reducible first | assumption | exact Below.refl _ _ | apply Below.al | apply Below.dr))) hbd) | ((with_reducible refine (x2 _).mono ?_); rintro e we ⟨rfl, hbe⟩; have hBe : Below wc.heap.size wc we := below_via (by (repeat (with_reducible first | assumption | exact Below.refl _ _ | apply Below.al | apply Below.dr))) hbe)))
  go_wp2_with fail
  go_ret
  exact ⟨rfl, below_via HBC.out hBf⟩
theorem Rt.put {w : World} {t : Nat} {s : TSt} (h : Rt w t s) {b i : Nat} {u : Value} (hne : t ≠ b) : Rt (w.setCell ⟨b, i, none⟩ u) t s := (Below.heap_setCell w ⟨b, i, none⟩ u t hne).trans h
set_option maxRecDepth 100000 in
set_option maxHeartbeats 4000000 in
set_option maxRecDepth 100000 in
theorem rrecget_any (l : List UInt8) (w : World) (hl : l.length ≤ 100000) :
    Calls Tryz.prog 21 #[.string (strOf l)] w fun e w' => e = .returned (.tuple #[rcV (getR l), .int .i64 (getRE l)]) ∧ Below w.heap.size w w' := by
  obtain ⟨W1, hW1⟩ : ∃ x, x = w.alloc (.cells #[.int .i64 0, .int .i64 0, .int .i64 0, .string ByteArray.empty, .string ByteArray.empty, .int .u32 0] 64) := ⟨_, rfl⟩
  obtain ⟨W2, hW2⟩ : ∃ x, x = W1.alloc (.cells #[.string (strOf l), .int .i64 0] 157) := ⟨_, rfl⟩
  obtain ⟨W3, hW3⟩ : ∃ x, x = W2.alloc (.cells #[.int .i64 0, .int .i64 0, .int .i64 0, .string ByteArray.empty, .string ByteArray.empty, .int .u32 0] 64) := ⟨_, rfl⟩
  have hs1 : W1.heap.size = w.heap.size + 1 := by rw [hW1, World.size_alloc]
  have hs2 : W2.heap.size = w.heap.size + 2 := by rw [hW2, World.size_alloc, hs1]
  have hx3 : Boxes W3 [(w.heap.size + 2, [.int .i64 0, .int .i64 0, .int .i64 0, .string ByteArray.empty, .string ByteArray.empty, .int .u32 0]), (w.heap.size, [.int .i64 0, .int .i64 0, .int .i64 0, .string ByteArray.empty, .string ByteArray.empty, .int .u32 0])] := by
    rw [hW3, ← hs2]
    refine Boxes.alloc ?_ #[.int .i64 0, .int .i64 0, .int .i64 0, .string ByteArray.empty, .string ByteArray.empty, .int .u32 0] 64 rfl
    rw [hW2]
    refine Boxes.al ?_
    rw [hW1]
    exact (Boxes.nil w).alloc #[.int .i64 0, .int .i64 0, .int .i64 0, .string ByteArray.empty, .string ByteArray.empty, .int .u32 0] 64 (b := w.heap.size) rfl
  have hrt3 : Rt W3 (w.heap.size + 1) ⟨l, 0⟩ := by
    unfold Rt
    rw [hW3, Below.heap_alloc _ _ _ (by omega), hW2, ← hs1]
    exact World.alloc_heap_new W1 _
  have hb3 : Below w.heap.size w W3 := by rw [hW3, hW2, hW1]; exact Below.al (Below.al (Below.al (Below.refl _ _)))
  have hzr : ∀ W, (zeroValue 64).run Tryz.prog W = .ok (.agg #[.int .i64 0, .int .i64 0, .int .i64 0, .string ByteArray.empty, .string ByteArray.empty, .int .u32 0]) W := fun W => by kernel_rfl
  have HX := Lib.hid hx3
  have HB := Lib.hid hb3
  have HRT := Lib.hid hrt3
  have hv0 := gV_lt l 0
  have hv1 := gV_lt l 1
  have hv2 := gV_lt l 2
  have hvd := gD_lt l
  have w0 : IntKind.i64.wrap (gV l 0 : Int) = (gV l 0 : Int) := by simp [IntKind.wrap, IntKind.signed, IntKind.bits]; omega
  have w1 : IntKind.i64.wrap (gV l 1 : Int) = (gV l 1 : Int) := by simp [IntKind.wrap, IntKind.signed, IntKind.bits]; omega
  have w2 : IntKind.i64.wrap (gV l 2 : Int) = (gV l 2 : Int) := by simp [IntKind.wrap, IntKind.signed, IntKind.bits]; omega
  have w3 : IntKind.u32.wrap (gD l : Int) = (gD l : Int) := by simp [IntKind.wrap, IntKind.signed, IntKind.bits]; omega
  have w4 : (gD l : Int) % 4294967296 = (gD l : Int) := by omega
  have C0 : ∀ W, Rt W (w.heap.size + 1) ⟨l, 0⟩ → Calls Tryz.prog 60 #[.pointer (some ⟨w.heap.size + 1, 0, none⟩), .int .i64 1] W (RtPost W (w.heap.size + 1) (.int .u64 (gV l 0 : Int)) (gN l 1)) := fun W h => rNum_any _ ⟨l, 0⟩ 1 W h (by simp only; omega)
  have C1 : ∀ W, Rt W (w.heap.size + 1) (gN l 1) → Calls Tryz.prog 60 #[.pointer (some ⟨w.heap.size + 1, 0, none⟩), .int .i64 1] W (RtPost W (w.heap.size + 1) (.int .u64 (gV l 1 : Int)) (gN l 2)) := fun W h => rNum_any _ (gN l 1) 1 W h (by have := gN_len l 1; omega)
  have C2 : ∀ W, Rt W (w.heap.size + 1) (gN l 2) → Calls Tryz.prog 60 #[.pointer (some ⟨w.heap.size + 1, 0, none⟩), .int .i64 1] W (RtPost W (w.heap.size + 1) (.int .u64 (gV l 2 : Int)) (gT l 0)) := fun W h => rNum_any _ (gN l 2) 1 W h (by have := gN_len l 2; omega)
  have C3 : ∀ W, Rt W (w.heap.size + 1) (gT l 0) → Calls Tryz.prog 61 #[.pointer (some ⟨w.heap.size + 1, 0, none⟩)] W (RtPost W (w.heap.size + 1) (.string (strOf (gS l 0))) (gT l 1)) := fun W h => rText_any _ (gT l 0) W h (by have := gT_len l 0; omega)
  have C4 : ∀ W, Rt W (w.heap.size + 1) (gT l 1) → Calls Tryz.prog 61 #[.pointer (some ⟨w.heap.size + 1, 0, none⟩)] W (RtPost W (w.heap.size + 1) (.string (strOf (gS l 1))) (gT l 2)) := fun W h => rText_any _ (gT l 1) W h (by have := gT_len l 1; omega)
  have C5 : ∀ W, Rt W (w.heap.size + 1) (gT l 2) → Calls Tryz.prog 60 #[.pointer (some ⟨w.heap.size + 1, 0, none⟩), .int .i64 4] W (RtPost W (w.heap.size + 1) (.int .u64 (gD l : Int)) (gE l)) := fun W h => rNum_any _ (gT l 2) 4 W h (by have := gT_len l 2; omega)
  have CD : ∀ W, Rt W (w.heap.size + 1) (gE l) → Calls Tryz.prog 62 #[.pointer (some ⟨w.heap.size + 1, 0, none⟩)] W fun e w' => e = .returned (.int .i64 (tDone (gE l))) ∧ W = w' := fun W h => rDone_any _ (gE l) W h
  have HGR : Hid (getR l = if tDone (gE l) = 0 then ⟨(gV l 0 : Int), (gV l 1 : Int), (gV l 2 : Int), gS l 0, gS l 1, gD l⟩ else zeroRc) := Lib.hid rfl
  have HGE : Hid (getRE l = tDone (gE l)) := Lib.hid rfl
  generalize getR l = GR at *
  generalize getRE l = GE at *
  generalize tDone (gE l) = DE at *
  generalize gE l = sE at *
  generalize gT l 0 = s3 at *
  generalize gT l 1 = s4 at *
  generalize gT l 2 = s5 at *
  generalize gN l 1 = s1 at *
  generalize gN l 2 = s2 at *
  generalize gV l 0 = v0 at *
  generalize gV l 1 = v1 at *
  generalize gV l 2 = v2 at *
  generalize gS l 0 = v3 at *
  generalize gS l 1 = v4 at *
  generalize gD l = v5 at *
  clear hx3 hb3 hrt3 hs1 hs2
  go_enter Tryz.func21, Tryz.ntmps21
  go_upto_region 3 with (fail)
  rw [← hW1, ← hW2, ← hW3]
  clear hW1 hW2 hW3
  go_wp2_with fail
  refine (C0 _ HRT.out).mono ?_
  rintro e y0 ⟨rfl, hg, hrt⟩
  have hx := HX.out.grown hg (by intro p hp e; have e := Option.some.inj e; simp at hp; rcases hp with rfl | rfl <;> simp at e <;> omega)
  have z := hx.cell 0 0 rfl rfl
  have u := hx.frozen 0 0 rfl
  have HRT := Lib.hid (hrt.put (b := w.heap.size + 2) (i := 0) (u := (.int .i64 (v0 : Int))) (by omega))
  have HB := Lib.hid ((HB.out.grown hg HB.out.size (fun k e => by cases e; omega)).setCell (p := ⟨w.heap.size + 2, 0, none⟩) (show w.heap.size ≤ w.heap.size + 2 by omega) (.int .i64 (v0 : Int)))
  have HX := Lib.hid (hx.put 0 (.int .i64 (v0 : Int)) (by simp))
  clear hg hrt hx
  go_wp2_with fail
  clear z u
  refine (C1 _ HRT.out).mono ?_
  rintro e y1 ⟨rfl, hg, hrt⟩
  have hx := HX.out.grown hg (by intro p hp e; have e := Option.some.inj e; simp at hp; rcases hp with rfl | rfl <;> simp at e <;> omega)
  have z := hx.cell 0 1 rfl rfl
  have u := hx.frozen 0 1 rfl
  have HRT := Lib.hid (hrt.put (b := w.heap.size + 2) (i := 1) (u := (.int .i64 (v1 : Int))) (by omega))
  have HB := Lib.hid ((HB.out.grown hg HB.out.size (fun k e => by cases e; omega)).setCell (p := ⟨w.heap.size + 2, 1, none⟩) (show w.heap.size ≤ w.heap.size + 2 by omega) (.int .i64 (v1 : Int)))
  have HX := Lib.hid (hx.put 1 (.int .i64 (v1 : Int)) (by simp))
  clear hg hrt hx
  go_wp2_with fail
  clear z u
  refine (C2 _ HRT.out).mono ?_
  rintro e y2 ⟨rfl, hg, hrt⟩
  have hx := HX.out.grown hg (by intro p hp e; have e := Option.some.inj e; simp at hp; rcases hp with rfl | rfl <;> simp at e <;> omega)
  have z := hx.cell 0 2 rfl rfl
  have u := hx.frozen 0 2 rfl
  have HRT := Lib.hid (hrt.put (b := w.heap.size + 2) (i := 2) (u := (.int .i64 (v2 : Int))) (by omega))
  have HB := Lib.hid ((HB.out.grown hg HB.out.size (fun k e => by cases e; omega)).setCell (p := ⟨w.heap.size + 2, 2, none⟩) (show w.heap.size ≤ w.heap.size + 2 by omega) (.int .i64 (v2 : Int)))
  have HX := Lib.hid (hx.put 2 (.int .i64 (v2 : Int)) (by simp))
  clear hg hrt hx
  go_wp2_with fail
  clear z u
  refine (C3 _ HRT.out).mono ?_
  rintro e y3 ⟨rfl, hg, hrt⟩
  have hx := HX.out.grown hg (by intro p hp e; have e := Option.some.inj e; simp at hp; rcases hp with rfl | rfl <;> simp at e <;> omega)
  have z := hx.cell 0 3 rfl rfl
  have u := hx.frozen 0 3 rfl
  have HRT := Lib.hid (hrt.put (b := w.heap.size + 2) (i := 3) (u := (.string (strOf v3))) (by omega))
  have HB := Lib.hid ((HB.out.grown hg HB.out.size (fun k e => by cases e; omega)).setCell (p := ⟨w.heap.size + 2, 3, none⟩) (show w.heap.size ≤ w.heap.size + 2 by omega) (.string (strOf v3)))
  have HX := Lib.hid (hx.put 3 (.string (strOf v3)) (by simp))
  clear hg hrt hx
  go_wp2_with fail
  clear z u
  refine (C4 _ HRT.out).mono ?_
  rintro e y4 ⟨rfl, hg, hrt⟩
  have hx := HX.out.grown hg (by intro p hp e; have e := Option.some.inj e; simp at hp; rcases hp with rfl | rfl <;> simp at e <;> omega)
  have z := hx.cell 0 4 rfl rfl
  have u := hx.frozen 0 4 rfl
  have HRT := Lib.hid (hrt.put (b := w.heap.size + 2) (i := 4) (u := (.string (strOf v4))) (by omega))
  have HB := Lib.hid ((HB.out.grown hg HB.out.size (fun k e => by cases e; omega)).setCell (p := ⟨w.heap.size + 2, 4, none⟩) (show w.heap.size ≤ w.heap.size + 2 by omega) (.string (strOf v4)))
  have HX := Lib.hid (hx.put 4 (.string (strOf v4)) (by simp))
  clear hg hrt hx
  go_wp2_with fail
  clear z u
  refine (C5 _ HRT.out).mono ?_
  rintro e y5 ⟨rfl, hg, hrt⟩
  have hx := HX.out.grown hg (by intro p hp e; have e := Option.some.inj e; simp at hp; rcases hp with rfl | rfl <;> simp at e <;> omega)
  have z := hx.cell 0 5 rfl rfl
  have u := hx.frozen 0 5 rfl
  have HRT := Lib.hid (hrt.put (b := w.heap.size + 2) (i := 5) (u := (.int .u32 (v5 : Int))) (by omega))
  have HB := Lib.hid ((HB.out.grown hg HB.out.size (fun k e => by cases e; omega)).setCell (p := ⟨w.heap.size + 2, 5, none⟩) (show w.heap.size ≤ w.heap.size + 2 by omega) (.int .u32 (v5 : Int)))
  have HX := Lib.hid (hx.put 5 (.int .u32 (v5 : Int)) (by simp))
  clear hg hrt hx
  go_wp2_with fail
  clear z u
  refine (CD _ HRT.out).mono ?_
  rintro e wz ⟨rfl, rfl⟩
  have z0 := HX.out.cell 1 0 rfl rfl
  have u0 := HX.out.frozen 1 0 rfl
  have c0 := HX.out.cell 0 0 rfl rfl
  have z1 := HX.out.cell 1 1 rfl rfl
  have u1 := HX.out.frozen 1 1 rfl
  have c1 := HX.out.cell 0 1 rfl rfl
  have z2 := HX.out.cell 1 2 rfl rfl
  have u2 := HX.out.frozen 1 2 rfl
  have c2 := HX.out.cell 0 2 rfl rfl
  have z3 := HX.out.cell 1 3 rfl rfl
  have u3 := HX.out.frozen 1 3 rfl
  have c3 := HX.out.cell 0 3 rfl rfl
  have z4 := HX.out.cell 1 4 rfl rfl
  have u4 := HX.out.frozen 1 4 rfl
  have c4 := HX.out.cell 0 4 rfl rfl
  have z5 := HX.out.cell 1 5 rfl rfl
  have u5 := HX.out.frozen 1 5 rfl
  have c5 := HX.out.cell 0 5 rfl rfl
  clear C0 C1 C2 C3 C4 C5 CD
  by_cases hd : DE = 0
  · subst hd
    have hG := HGR.out
    rw [if_pos rfl] at hG
    have HG := Lib.hid hG
    clear hG
    go_wp2_with fail
    refine bodyPost_ret (v := .tuple #[.agg #[.int .i64 (v0 : Int), .int .i64 (v1 : Int), .int .i64 (v2 : Int), .string (strOf v3), .string (strOf v4), .int .u32 (v5 : Int)], .int .i64 0]) (by simp [results, Tryz.results21, go_sem, z0, z1, z2, z3, z4, z5]) rfl ?_
    exact ⟨by rw [HG.out, HGE.out]; rfl, ((((((HB.out.setCell (Nat.le_refl _) _).setCell (Nat.le_refl _) _).setCell (Nat.le_refl _) _).setCell (Nat.le_refl _) _).setCell (Nat.le_refl _) _).setCell (Nat.le_refl _) _)⟩
  · have n0 : (DE != 0) = true := by simpa using hd
    have n1 : (DE == 0) = false := by simpa using hd
    have hG := HGR.out
    rw [if_neg hd] at hG
    have HG := Lib.hid hG
    clear hG hd
    go_wp2_with fail
    refine bodyPost_ret (v := .tuple #[.agg #[.int .i64 0, .int .i64 0, .int .i64 0, .string ByteArray.empty, .string ByteArray.empty, .int .u32 0], .int .i64 DE]) (by simp [results, Tryz.results21, go_sem, z0, z1, z2, z3, z4, z5]) rfl ?_
    exact ⟨by rw [HG.out, HGE.out]; rfl, ((((((HB.out.setCell (Nat.le_refl _) _).setCell (Nat.le_refl _) _).setCell (Nat.le_refl _) _).setCell (Nat.le_refl _) _).setCell (Nat.le_refl _) _).setCell (Nat.le_refl _) _)⟩
end Go.Proofs.YtpghlmcoajaiiaaGreatDoor
