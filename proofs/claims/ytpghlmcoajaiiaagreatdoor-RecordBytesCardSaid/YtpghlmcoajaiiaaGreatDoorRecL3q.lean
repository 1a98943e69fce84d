/- The law RecordBytes: the walk. -/
import Derived.Test.YtpghlmcoajaiiaaGreatDoorM16
import Derived.Test.YtpghlmcoajaiiaaGreatDoorRecRq
import Derived.Test.YtpghlmcoajaiiaaGreatDoorRecOq
import Derived.Test.YtpghlmcoajaiiaaGreatDoorM15
import Derived.Deep.DeepCutAuto
namespace Go.Proofs.YtpghlmcoajaiiaaGreatDoor
open Go.RowKit

/-- Does a record fit? -/
def fitB (r : RcD) : Bool := decide (0 ≤ r.actor ∧ r.actor < 256 ∧ 0 ≤ r.from_ ∧ r.from_ < 256 ∧ 0 ≤ r.to_ ∧ r.to_ < 256 ∧ r.bucket.length < 256 ∧ r.key.length < 256)
theorem u64w_fit2 {x : Int} (h0 : 0 ≤ x) (h1 : x < 256) : ((((u64w x).toNat % 256 : Nat)) : Int) = x := by
  obtain ⟨k, rfl⟩ : ∃ k : Nat, x = (k : Int) := ⟨x.toNat, by omega⟩
  rw [u64w_nat k (by omega), Int.toNat_natCast]
  omega
theorem fitB_back {r : RcD} (h : fitB r = true) (hd : r.digest < 4294967296) : getR (rcB r) = r := by
  obtain ⟨h3, h4, h5, h6, h7, h8, h1, h2⟩ := of_decide_eq_true h
  refine (get_put r hd).2.trans ?_
  rw [u64w_fit2 h3 h4, u64w_fit2 h5 h6, u64w_fit2 h7 h8, List.take_of_length_le (by omega), List.take_of_length_le (by omega)]
theorem rcB_len2 (r : RcD) : (rcB r).length ≤ 600 := by
  rw [rcB_shape]
  simp only [List.length_append, beBytes_length, textF, List.length_cons, List.length_take, List.length_nil]
  omega
theorem rcne3 (r : RcD) (w : World) : (binOp .neq 64 (rcV r) (rcV r)).run Tryz.prog w = .ok (.bool false) w := by
  obtain ⟨a1, a2, a3, a4, a5, a6⟩ := r
  unfold rcV
  simp [go_sem]
set_option maxRecDepth 100000 in
set_option maxHeartbeats 4000000 in
set_option maxRecDepth 100000 in
theorem lBytes (r : RcD) (s0 : ByteArray) (a2 : Int) (w : World) (hrd : r.digest < 4294967296) (hs0 : s0.size ≤ maxLen) (hT : Half w) :
    Calls Tryz.prog 7 #[rcV r, .string s0, .int .i64 a2] w fun e w' => e = .returned (.bool true) ∧ Below w.heap.size w w' := by
  obtain ⟨s, rfl⟩ : ∃ s, s0 = strOf s := ⟨s0.data.toList, rfl⟩
  have hsz := strOf_size s
  rw [hsz] at hs0
  obtain ⟨m, hm⟩ : ∃ z, s.length = z := ⟨_, rfl⟩
  rw [hm] at hs0 hsz
  have hrv : rcV r = .agg #[.int .i64 r.actor, .int .i64 r.from_, .int .i64 r.to_, .string (strOf r.bucket), .string (strOf r.key), .int .u32 (r.digest : Int)] := rfl
  obtain ⟨W1, hW1⟩ : ∃ x, x = w.alloc (.cells #[.int .i64 r.actor, .int .i64 r.from_, .int .i64 r.to_, .string (strOf r.bucket), .string (strOf r.key), .int .u32 (r.digest : Int)] 64) := ⟨_, rfl⟩
  have hx1 : Boxes W1 [(w.heap.size, [.int .i64 r.actor, .int .i64 r.from_, .int .i64 r.to_, .string (strOf r.bucket), .string (strOf r.key), .int .u32 (r.digest : Int)])] := by
    rw [hW1]
    exact (Boxes.nil w).alloc #[.int .i64 r.actor, .int .i64 r.from_, .int .i64 r.to_, .string (strOf r.bucket), .string (strOf r.key), .int .u32 (r.digest : Int)] 64 (b := w.heap.size) rfl
  have hb1 : Below w.heap.size w W1 := by rw [hW1]; exact Below.al (Below.refl _ _)
  have hT1 := hT.below (Nat.le_refl _) hb1
  have AW := awake25 hT1
  have HX1 := Lib.hid hx1
  have HB1 := Lib.hid hb1
  have HS := Lib.hid hm
  have HT1 := Lib.hid hT1
  rw [hrv]
  clear hm hx1 hb1 hrv hT hT1
  rw [hW1] at AW
  go_enter Tryz.func7, Tryz.ntmps7
  go_wp2_with fail
  refine AW.mono ?_
  rintro e w2 ⟨rfl, hb2⟩
  rw [← hW1] at hb2
  clear AW hW1
  have HX2 := Lib.hid (HX1.out.step hb2)
  have HB2 := Lib.hid (below_via HB1.out hb2)
  have HT2 := Lib.hid (HT1.out.below (Nat.le_refl _) hb2)
  clear hb2
  have sz1 := strOf_size r.bucket
  have sz2 := strOf_size r.key
  obtain ⟨z1, hz1⟩ : ∃ z, r.bucket.length = z := ⟨_, rfl⟩
  obtain ⟨z2, hz2⟩ : ∃ z, r.key.length = z := ⟨_, rfl⟩
  rw [hz1] at sz1
  rw [hz2] at sz2
  have HZ := Lib.hid (And.intro hz1 hz2)
  clear hz1 hz2
  have p3 := HX2.out.cell 0 3 rfl rfl
  have p4 := HX2.out.cell 0 4 rfl rfl
  go_upto_region 4 with (fail)
  by_cases y1 : 300 < z1
  · have e1 : decide ((300 : Int) < (z1 : Int)) = true := by simp; omega
    go_wp2_with fail
    go_ret
    exact ⟨rfl, HB2.out⟩
  have e1 : decide ((300 : Int) < (z1 : Int)) = false := by simp; omega
  by_cases y2 : 300 < z2
  · have e2 : decide ((300 : Int) < (z2 : Int)) = true := by simp; omega
    go_wp2_with fail
    go_ret
    exact ⟨rfl, HB2.out⟩
  have e2 : decide ((300 : Int) < (z2 : Int)) = false := by simp; omega
  by_cases y3 : 700 < m
  · have e3 : decide ((700 : Int) < (m : Int)) = true := by simp; omega
    go_wp2_with fail
    go_ret
    exact ⟨rfl, HB2.out⟩
  have e3 : decide ((700 : Int) < (m : Int)) = false := by simp; omega
  obtain ⟨g, hg⟩ : ∃ z, getR s = z := ⟨_, rfl⟩
  obtain ⟨ge, hge⟩ : ∃ z, getRE s = z := ⟨_, rfl⟩
  have va : rcV g = .agg #[.int .i64 g.actor, .int .i64 g.from_, .int .i64 g.to_, .string (strOf g.bucket), .string (strOf g.key), .int .u32 (g.digest : Int)] := rfl
  have CG := recget_any s w2 (by rw [HS.out]; omega)
  have CG2 := fun W => rrecget_any s W (by rw [HS.out]; omega)
  rw [hg, hge, va] at CG
  rw [hg, hge, va] at CG2
  clear hg hge va
  go_wp2_with fail
  refine CG.mono ?_
  rintro e w3 ⟨rfl, hb3⟩
  have hx4 := (HX2.out.step hb3).alloc #[.int .i64 g.actor, .int .i64 g.from_, .int .i64 g.to_, .string (strOf g.bucket), .string (strOf g.key), .int .u32 (g.digest : Int)] 64 (b := w3.heap.size) rfl
  have HB4 := Lib.hid (Below.al (o := .cells #[.int .i64 g.actor, .int .i64 g.from_, .int .i64 g.to_, .string (strOf g.bucket), .string (strOf g.key), .int .u32 (g.digest : Int)] 64) (below_via HB2.out hb3))
  have HT4 := Lib.hid (HT2.out.below (Nat.le_refl _) (Below.al (o := .cells #[.int .i64 g.actor, .int .i64 g.from_, .int .i64 g.to_, .string (strOf g.bucket), .string (strOf g.key), .int .u32 (g.digest : Int)] 64) hb3))
  have HX4 := Lib.hid hx4
  clear CG hx4 hb3 p3 p4 e1 e2 e3
  go_wp2_with fail
  refine (CG2 _).mono ?_
  rintro e w5 ⟨rfl, hb5⟩
  obtain ⟨W, hW⟩ : ∃ x, x = w5.alloc (.cells #[.int .i64 g.actor, .int .i64 g.from_, .int .i64 g.to_, .string (strOf g.bucket), .string (strOf g.key), .int .u32 (g.digest : Int)] 64) := ⟨_, rfl⟩
  have hx6 := (HX4.out.step hb5).alloc #[.int .i64 g.actor, .int .i64 g.from_, .int .i64 g.to_, .string (strOf g.bucket), .string (strOf g.key), .int .u32 (g.digest : Int)] 64 (b := w5.heap.size) rfl
  rw [← hW] at hx6
  have HX6 := Lib.hid hx6
  have HB6 : Hid (Below w.heap.size w W) := Lib.hid (by rw [hW]; exact Below.al (below_via HB4.out hb5))
  have HT6 : Hid (Half W) := Lib.hid (by rw [hW]; exact HT4.out.below (Nat.le_refl _) (Below.al hb5))
  clear hx6 hb5 CG2 HX4 HT4
  go_upto_region 8 with (fail)
  rw [← hW]
  clear hW
  have t0 : ∀ X, Below W.heap.size W X → X.cell? ⟨w.heap.size, 0, none⟩ = some (.int .i64 r.actor) := fun X hX => (HX6.out.step hX).cell 2 0 rfl rfl
  have s0 : ∀ X, Below W.heap.size W X → X.cell? ⟨w3.heap.size, 0, none⟩ = some (.int .i64 g.actor) := fun X hX => (HX6.out.step hX).cell 1 0 rfl rfl
  have v0 : ∀ X, Below W.heap.size W X → X.cell? ⟨w5.heap.size, 0, none⟩ = some (.int .i64 g.actor) := fun X hX => (HX6.out.step hX).cell 0 0 rfl rfl
  have t1 : ∀ X, Below W.heap.size W X → X.cell? ⟨w.heap.size, 1, none⟩ = some (.int .i64 r.from_) := fun X hX => (HX6.out.step hX).cell 2 1 rfl rfl
  have s1 : ∀ X, Below W.heap.size W X → X.cell? ⟨w3.heap.size, 1, none⟩ = some (.int .i64 g.from_) := fun X hX => (HX6.out.step hX).cell 1 1 rfl rfl
  have v1 : ∀ X, Below W.heap.size W X → X.cell? ⟨w5.heap.size, 1, none⟩ = some (.int .i64 g.from_) := fun X hX => (HX6.out.step hX).cell 0 1 rfl rfl
  have t2 : ∀ X, Below W.heap.size W X → X.cell? ⟨w.heap.size, 2, none⟩ = some (.int .i64 r.to_) := fun X hX => (HX6.out.step hX).cell 2 2 rfl rfl
  have s2 : ∀ X, Below W.heap.size W X → X.cell? ⟨w3.heap.size, 2, none⟩ = some (.int .i64 g.to_) := fun X hX => (HX6.out.step hX).cell 1 2 rfl rfl
  have v2 : ∀ X, Below W.heap.size W X → X.cell? ⟨w5.heap.size, 2, none⟩ = some (.int .i64 g.to_) := fun X hX => (HX6.out.step hX).cell 0 2 rfl rfl
  have t3 : ∀ X, Below W.heap.size W X → X.cell? ⟨w.heap.size, 3, none⟩ = some (.string (strOf r.bucket)) := fun X hX => (HX6.out.step hX).cell 2 3 rfl rfl
  have s3 : ∀ X, Below W.heap.size W X → X.cell? ⟨w3.heap.size, 3, none⟩ = some (.string (strOf g.bucket)) := fun X hX => (HX6.out.step hX).cell 1 3 rfl rfl
  have v3 : ∀ X, Below W.heap.size W X → X.cell? ⟨w5.heap.size, 3, none⟩ = some (.string (strOf g.bucket)) := fun X hX => (HX6.out.step hX).cell 0 3 rfl rfl
  have t4 : ∀ X, Below W.heap.size W X → X.cell? ⟨w.heap.size, 4, none⟩ = some (.string (strOf r.key)) := fun X hX => (HX6.out.step hX).cell 2 4 rfl rfl
  have s4 : ∀ X, Below W.heap.size W X → X.cell? ⟨w3.heap.size, 4, none⟩ = some (.string (strOf g.key)) := fun X hX => (HX6.out.step hX).cell 1 4 rfl rfl
  have v4 : ∀ X, Below W.heap.size W X → X.cell? ⟨w5.heap.size, 4, none⟩ = some (.string (strOf g.key)) := fun X hX => (HX6.out.step hX).cell 0 4 rfl rfl
  have t5 : ∀ X, Below W.heap.size W X → X.cell? ⟨w.heap.size, 5, none⟩ = some (.int .u32 (r.digest : Int)) := fun X hX => (HX6.out.step hX).cell 2 5 rfl rfl
  have s5 : ∀ X, Below W.heap.size W X → X.cell? ⟨w3.heap.size, 5, none⟩ = some (.int .u32 (g.digest : Int)) := fun X hX => (HX6.out.step hX).cell 1 5 rfl rfl
  have v5 : ∀ X, Below W.heap.size W X → X.cell? ⟨w5.heap.size, 5, none⟩ = some (.int .u32 (g.digest : Int)) := fun X hX => (HX6.out.step hX).cell 0 5 rfl rfl
  obtain ⟨zz1, zz2⟩ := HZ.out
  have CP : ∀ X, Calls Tryz.prog 22 #[.agg #[.int .i64 r.actor, .int .i64 r.from_, .int .i64 r.to_, .string (strOf r.bucket), .string (strOf r.key), .int .u32 (r.digest : Int)]] X (RetStr X (rcB r)) := fun X => recput_any r X (by omega) (by omega) hrd
  have CP2 : ∀ X, Calls Tryz.prog 23 #[.agg #[.int .i64 r.actor, .int .i64 r.from_, .int .i64 r.to_, .string (strOf r.bucket), .string (strOf r.key), .int .u32 (r.digest : Int)]] X (RetStr X (rcB r)) := fun X => rrecput_any r X (by omega) (by omega) hrd
  have CK : ∀ X, Calls Tryz.prog 24 #[.int .i64 a2] X (RetStr X (keyB a2)) := fun X => key_any a2 X
  have CK2 : ∀ X, Calls Tryz.prog 25 #[.int .i64 a2] X (RetStr X (keyB a2)) := fun X => rkey_any a2 X
  have CD : ∀ X, Below W.heap.size W X → Calls Tryz.prog 26 #[.string (strOf s)] X fun e w' => e = .returned (.int .u32 (crcOf s : Int)) ∧ Below X.heap.size X w' := fun X hX => digest_any s X (by rw [HS.out]; omega) (HT6.out.below (Nat.le_refl _) hX)
  have CD2 : ∀ X, Calls Tryz.prog 27 #[.string (strOf s)] X fun e w' => e = .returned (.int .u32 (crcOf s : Int)) ∧ X = w' := fun X => rdigest_any s X (by rw [HS.out]; omega)
  have CU : ∀ X, Calls Tryz.prog 28 #[.string (strOf s)] X fun e w' => e = .returned (.string (strOf (98 :: s))) ∧ X = w' := fun X => user_any s X (by rw [HS.out]; omega)
  have CU2 : ∀ X, Calls Tryz.prog 29 #[.string (strOf s)] X fun e w' => e = .returned (.string (strOf (98 :: s))) ∧ X = w' := fun X => ruser_any s X (by rw [HS.out]; omega)
  have hNe : ∀ X, (binOp .neq 64 (.agg #[.int .i64 g.actor, .int .i64 g.from_, .int .i64 g.to_, .string (strOf g.bucket), .string (strOf g.key), .int .u32 (g.digest : Int)]) (.agg #[.int .i64 g.actor, .int .i64 g.from_, .int .i64 g.to_, .string (strOf g.bucket), .string (strOf g.key), .int .u32 (g.digest : Int)])).run Tryz.prog X = .ok (.bool false) X := fun X => rcne3 g X
  have hbk := fitB_back (r := r) 
  have hgp := (get_put r hrd).1
  have hlen := rcB_len2 r
  have HFB := Lib.hid (show fitB r = true → getR (rcB r) = r from fun h => fitB_back h hrd)
  obtain ⟨RB, hRB⟩ : ∃ z, rcB r = z := ⟨_, rfl⟩
  rw [hRB] at CP CP2 hgp hlen HFB
  have CG3 := fun X => recget_any RB X (by omega)
  obtain ⟨g2, hg2⟩ : ∃ z, getR RB = z := ⟨_, rfl⟩
  have vb : rcV g2 = .agg #[.int .i64 g2.actor, .int .i64 g2.from_, .int .i64 g2.to_, .string (strOf g2.bucket), .string (strOf g2.key), .int .u32 (g2.digest : Int)] := rfl
  rw [hgp, hg2, vb] at CG3
  rw [hg2] at HFB
  obtain ⟨KB, hKB⟩ : ∃ z, keyB a2 = z := ⟨_, rfl⟩
  rw [hKB] at CK CK2
  obtain ⟨SB, hSB⟩ : ∃ z, (98 : UInt8) :: s = z := ⟨_, rfl⟩
  rw [hSB] at CU CU2
  obtain ⟨dg, hdg⟩ : ∃ z, crcOf s = z := ⟨_, rfl⟩
  rw [hdg] at CD CD2
  clear hbk hgp hlen hRB hg2 vb hKB hSB hdg zz1 zz2
  have hB0 : Below W.heap.size W W.drew := Below.dr (Below.refl _ _)
  go_region_held3 (fun X => Below W.heap.size W X) (first | with_reducible assumption | (repeat (with_reducible first | assumption | exact Below.refl _ _ | apply Below.al | apply Below.dr))) (first
    | (go_at_call 22; (with_reducible refine (CP _).mono ?_); rintro e wa ⟨rfl, hba⟩; have hBa : Below W.heap.size W wa := below_via (by (repeat (with_reducible first | assumption | exact Below.refl _ _ | apply Below.al | apply Below.dr))) hba)
    | (go_at_call 23; (with_reducible refine (CP2 _).mono ?_); rintro e wb ⟨rfl, hbb⟩; have hBb : Below W.heap.size W wb := below_via (by (repeat (with_reducible first | assumption | exact Below.refl _ _ | apply Below.al | apply Below.dr))) hbb)
    | (go_at_call 24; (with_reducible refine (CK _).mono ?_); rintro e wc ⟨rfl, hbc⟩; have hBc : Below W.heap.size W wc := below_via (by (repeat (with_reducible first | assumption | exact Below.refl _ _ | apply Below.al | apply Below.dr))) hbc)
    | (go_at_call 25; (with_reducible refine (CK2 _).mono ?_); rintro e wd ⟨rfl, hbd⟩; have hBd : Below W.heap.size W wd := below_via (by (repeat (with_reducible first | assumption | exact Below.refl _ _ | apply Below.al | apply Below.dr))) hbd)
    | (go_at_call 26; (with_reducible refine (CD _ ?_).mono ?_); (focus (with_reducible assumption)); rintro e we ⟨rfl, hbe⟩; have hBe : Below W.heap.size W we := below_via (by (repeat (with_reducible first | assumption | exact Below.refl _ _ | apply Below.al | apply Below.dr))) hbe)
    | (go_at_call 27; (with_reducible refine (CD2 _).mono ?_); rintro e wf ⟨rfl, rfl⟩)
    | (go_at_call 28; (with_reducible refine (CU _).mono ?_); rintro e wg ⟨rfl, rfl⟩)
    | (go_at_call 29; (with_reducible refine (CU2 _).mono ?_); rintro e wh ⟨rfl, rfl⟩))
  have HXE := Lib.hid (HX6.out.step hBe)
  have HBE := Lib.hid (below_via HB6.out hBe)
  clear CP2 CK CK2 CD CD2 CU CU2 hNe t0 s0 v0 t1 s1 v1 t2 s2 v2 t3 s3 v3 t4 s4 v4 t5 s5 v5 hB0 hba hBa hbb hBb hbc hBc hbd hBd hbe hBe
  have p0 := HXE.out.cell 2 0 rfl rfl
  have p1 := HXE.out.cell 2 1 rfl rfl
  have p2 := HXE.out.cell 2 2 rfl rfl
  have p3 := HXE.out.cell 2 3 rfl rfl
  have p4 := HXE.out.cell 2 4 rfl rfl
  obtain ⟨B, hB⟩ : ∃ z, fitB r = z := ⟨_, rfl⟩
  have HFD : Hid (B = decide (0 ≤ r.actor ∧ r.actor < 256 ∧ 0 ≤ r.from_ ∧ r.from_ < 256 ∧ 0 ≤ r.to_ ∧ r.to_ < 256 ∧ z1 < 256 ∧ z2 < 256)) := Lib.hid (by rw [← hB, ← HZ.out.1, ← HZ.out.2]; rfl)
  rw [hB] at HFB
  clear hB
  go_upto_region 10 with (fail)
  go_cut [12] (fun s12 wx => s12 = .bool B ∧ we = wx)
  case first =>
    by_cases h0 : 0 ≤ r.actor
    rotate_left
    · have f0 : decide ((0 : Int) ≤ r.actor) = false := by simpa using h0
      have hB0 : B = false := by rw [HFD.out]; exact decide_eq_false (fun h => h0 (by omega))
      go_wp2_with fail
      go_meet
      exact ⟨by rw [hB0], rfl⟩
    have f0 : decide ((0 : Int) ≤ r.actor) = true := by simpa using h0
    by_cases h1 : r.actor < 256
    rotate_left
    · have f1 : decide (r.actor < (256 : Int)) = false := by simpa using h1
      have hB0 : B = false := by rw [HFD.out]; exact decide_eq_false (fun h => h1 (by omega))
      go_wp2_with fail
      go_meet
      exact ⟨by rw [hB0], rfl⟩
    have f1 : decide (r.actor < (256 : Int)) = true := by simpa using h1
    by_cases h2 : 0 ≤ r.from_
    rotate_left
    · have f2 : decide ((0 : Int) ≤ r.from_) = false := by simpa using h2
      have hB0 : B = false := by rw [HFD.out]; exact decide_eq_false (fun h => h2 (by omega))
      go_wp2_with fail
      go_meet
      exact ⟨by rw [hB0], rfl⟩
    have f2 : decide ((0 : Int) ≤ r.from_) = true := by simpa using h2
    by_cases h3 : r.from_ < 256
    rotate_left
    · have f3 : decide (r.from_ < (256 : Int)) = false := by simpa using h3
      have hB0 : B = false := by rw [HFD.out]; exact decide_eq_false (fun h => h3 (by omega))
      go_wp2_with fail
      go_meet
      exact ⟨by rw [hB0], rfl⟩
    have f3 : decide (r.from_ < (256 : Int)) = true := by simpa using h3
    by_cases h4 : 0 ≤ r.to_
    rotate_left
    · have f4 : decide ((0 : Int) ≤ r.to_) = false := by simpa using h4
      have hB0 : B = false := by rw [HFD.out]; exact decide_eq_false (fun h => h4 (by omega))
      go_wp2_with fail
      go_meet
      exact ⟨by rw [hB0], rfl⟩
    have f4 : decide ((0 : Int) ≤ r.to_) = true := by simpa using h4
    by_cases h5 : r.to_ < 256
    rotate_left
    · have f5 : decide (r.to_ < (256 : Int)) = false := by simpa using h5
      have hB0 : B = false := by rw [HFD.out]; exact decide_eq_false (fun h => h5 (by omega))
      go_wp2_with fail
      go_meet
      exact ⟨by rw [hB0], rfl⟩
    have f5 : decide (r.to_ < (256 : Int)) = true := by simpa using h5
    by_cases h6 : z1 < 256
    rotate_left
    · have f6 : decide ((z1 : Int) < 256) = false := by simp; omega
      have hB0 : B = false := by rw [HFD.out]; exact decide_eq_false (fun h => h6 (by omega))
      go_wp2_with fail
      go_meet
      exact ⟨by rw [hB0], rfl⟩
    have f6 : decide ((z1 : Int) < 256) = true := by simp; omega
    by_cases h7 : z2 < 256
    rotate_left
    · have f7 : decide ((z2 : Int) < 256) = false := by simp; omega
      have hB0 : B = false := by rw [HFD.out]; exact decide_eq_false (fun h => h7 (by omega))
      go_wp2_with fail
      go_meet
      exact ⟨by rw [hB0], rfl⟩
    have f7 : decide ((z2 : Int) < 256) = true := by simp; omega
    have hB1 : B = true := by rw [HFD.out]; exact decide_eq_true ⟨by omega, by omega, by omega, by omega, by omega, by omega, by omega, by omega⟩
    go_wp2_with fail
    go_meet
    exact ⟨by rw [hB1], rfl⟩
  case rest =>
    obtain ⟨rfl, rfl⟩ := hcut
    have p5 := HXE.out.cell 2 5 rfl rfl
    clear sz1 sz2
    go_wp2_with fail
    refine (CP _).mono ?_
    rintro e wi ⟨rfl, hbi⟩
    clear p0 p1 p2 p3 p4 p5
    go_wp2_with fail
    refine (CG3 _).mono ?_
    rintro e wj ⟨rfl, hbj⟩
    have hbij := below_via hbi hbj
    have hxj := (HXE.out.step hbij).alloc #[.int .i64 g2.actor, .int .i64 g2.from_, .int .i64 g2.to_, .string (strOf g2.bucket), .string (strOf g2.key), .int .u32 (g2.digest : Int)] 64 (b := wj.heap.size) rfl
    have HBJ := Lib.hid (Below.al (o := .cells #[.int .i64 g2.actor, .int .i64 g2.from_, .int .i64 g2.to_, .string (strOf g2.bucket), .string (strOf g2.key), .int .u32 (g2.digest : Int)] 64) (below_via HBE.out hbij))
    have c0 := hxj.cell 0 0 rfl rfl
    have d0 := hxj.cell 3 0 rfl rfl
    have c1 := hxj.cell 0 1 rfl rfl
    have d1 := hxj.cell 3 1 rfl rfl
    have c2 := hxj.cell 0 2 rfl rfl
    have d2 := hxj.cell 3 2 rfl rfl
    have c3 := hxj.cell 0 3 rfl rfl
    have d3 := hxj.cell 3 3 rfl rfl
    have c4 := hxj.cell 0 4 rfl rfl
    have d4 := hxj.cell 3 4 rfl rfl
    have c5 := hxj.cell 0 5 rfl rfl
    have d5 := hxj.cell 3 5 rfl rfl
    clear CP CG3 hxj hbi hbj hbij
    cases B with
    | false =>
      go_wp2_with fail
      go_ret
      exact ⟨rfl, HBJ.out⟩
    | true =>
      have hEq : ∀ X, (binOp .eql 64 (.agg #[.int .i64 g2.actor, .int .i64 g2.from_, .int .i64 g2.to_, .string (strOf g2.bucket), .string (strOf g2.key), .int .u32 (g2.digest : Int)]) (.agg #[.int .i64 r.actor, .int .i64 r.from_, .int .i64 r.to_, .string (strOf r.bucket), .string (strOf r.key), .int .u32 (r.digest : Int)])).run Tryz.prog X = .ok (.bool true) X := fun X => by
        have := rcsame g2 r X
        rw [(rcEq_iff g2 r).2 (HFB.out rfl)] at this
        exact this
      go_wp2_with fail
      go_ret
      exact ⟨rfl, HBJ.out⟩
end Go.Proofs.YtpghlmcoajaiiaaGreatDoor
