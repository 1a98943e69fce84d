/- Texts that other texts of this claim lean on, one behind the other. -/
import Derived.Test.YtpghlmcoajaiiaaGreatDoorM14
import Derived.Deep.DeepCutAuto
import Derived.Test.YtpghlmcoajaiiaaGreatDoorM11
/- jalousielaw25: awake. -/
namespace Go.Proofs.YtpghlmcoajaiiaaGreatDoor
open Go.RowKit

/-- The document's example. -/
def exRc : RcD := ⟨2, 1, 0, [98], [107], crcOf [118]⟩
theorem exRc_get (hd : crcOf [118] < 4294967296) : getRE (rcB exRc) = 0 ∧ getR (rcB exRc) = exRc := by
  have h := get_put exRc hd
  refine ⟨h.1, h.2.trans ?_⟩
  have e2 : (u64w exRc.actor).toNat % 256 = 2 := by decide
  have e1 : (u64w exRc.from_).toNat % 256 = 1 := by decide
  have e0 : (u64w exRc.to_).toNat % 256 = 0 := by decide
  rw [e2, e1, e0]
  rfl
theorem rcB_len (r : RcD) (h1 : r.bucket.length ≤ 255) (h2 : r.key.length ≤ 255) : (rcB r).length ≤ 9 + r.bucket.length + r.key.length := by
  rw [rcB_shape]
  simp only [List.length_append, beBytes_length, textF, List.length_cons, List.length_take, List.length_nil]
  omega
theorem key0 : keyB 0 = [0, 0, 0, 0, 0, 0, 0, 0] := by decide
theorem key1 : keyB 1 = [0, 0, 0, 0, 0, 0, 0, 1] := by decide
theorem view0_on {F : Nat → Prop} {w : World} {a1 : Option Addr} {c1 : Nat} {a2 : Option Addr} {c2 : Nat} {a3 : Option Addr} {c3 : Nat} (h : NodeOn F 1 w [.int .i64 0, .bool true, .slice a1 0 c1, .slice a2 0 c2, .slice a3 0 c3] (.leaf 0 [])) :
    ViewOn F w [.int .i64 0, .bool true, .slice a1 0 c1, .slice a2 0 c2, .slice a3 0 c3, .slice none 0 0] ⟨1, .leaf 0 [], []⟩ :=
  ⟨[.int .i64 0, .bool true, .slice a1 0 c1, .slice a2 0 c2, .slice a3 0 c3], none, 0, rfl, h, ⟨rfl, Nat.le_refl _, by unfold maxLen; omega, fun _ => rfl, .inl rfl⟩, Fa.zero _ _⟩
/-- A scan that listing may use. -/
theorem ScanTo.some {E : TypeId} {W w' : World} {R : List (List UInt8 × Tv)} {er : Int} {e : Ending} (h : ScanTo E W R er e w') : ScanSome E W R e w' := by
  obtain ⟨a, c, rfl, _, _, h3, h4⟩ := h
  exact ⟨er, a, c, rfl, h3, h4⟩
/-- A view made of nothing, with one bucket. -/
theorem make_first {w : World} {a1 : Option Addr} {c1 : Nat} {a2 : Option Addr} {c2 : Nat} {a3 : Option Addr} {c3 : Nat} (h : NodeOn (fun _ => False) 1 w [.int .i64 0, .bool true, .slice a1 0 c1, .slice a2 0 c2, .slice a3 0 c3] (.leaf 0 [])) (name : List UInt8) (hk : keyOk name) :
    Calls Tryz.prog 32 #[.agg #[.int .i64 0, .bool true, .slice a1 0 c1, .slice a2 0 c2, .slice a3 0 c3, .slice none 0 0], .string (strOf name)] w fun e w' => ∃ cs' v', e = .returned (.tuple #[.agg cs'.toArray, .int .i64 0]) ∧ ViewOn (fun x => x < w'.heap.size) w' cs' v' ∧ v'.lv ≤ 2 ∧ Whole v'.lv v'.dir ∧ v'.l = [⟨name, 1, .leaf 0 []⟩] ∧ Below w.heap.size w w' := by
  refine (vmake_any (F := fun _ => False) (fun _ h => h.elim) (view0_on h) whole_empty (by simp) (by simp) name hk rfl).mono ?_
  rintro e w' ⟨cs, v, rfl, h1, h2, _, h3, h4, h5⟩
  exact ⟨cs, v, rfl, h1.now, h2, h3, h4, h5⟩
/-- Its first record. -/
theorem put_first {F : Nat → Prop} {w : World} {cs : List Value} {v : Vw} (hF : ∀ x, F x → x < w.heap.size) (h : ViewOn F w cs v) (hlv : v.lv ≤ 2) (hw : Whole v.lv v.dir) {name : List UInt8} (hl : v.l = [⟨name, 1, .leaf 0 []⟩]) (hk : keyOk name) {key d : List UInt8} (hkey : keyOk key) (hd : d.length ≤ 400) :
    Calls Tryz.prog 34 #[.agg cs.toArray, .string (strOf name), .string (strOf key), .string (strOf d)] w fun e w' => ∃ cs' v' M T, e = .returned (.tuple #[.agg cs'.toArray, .int .i64 0]) ∧ ViewOn (Fr F w) w' cs' v' ∧ v'.lv ≤ 3 ∧ Whole v'.lv v'.dir ∧ M ≤ 2 ∧ Whole M T ∧ entsT M T = [(key, ⟨d, []⟩)] ∧ v'.l = [⟨name, M, T⟩] ∧ Below w.heap.size w w' := by
  have hpos : posK name (v.l.map (·.name)) = 0 := by
    rw [hl]
    exact posK_eq (by simp) (fun j hj => by omega) (fun _ => by simp [klt_irrefl])
  refine (vput_any hF h hw (by rw [hl]; simp) (by rw [hl]; simp) name hk hpos (bk := ⟨name, 1, .leaf 0 []⟩) (by rw [hl]; rfl) rfl whole_empty hkey hd).mono ?_
  rintro e w' ⟨cs', v', M, rfl, h1, h2, _, h3, h4, h5, h6, h7, h8⟩
  refine ⟨cs', v', M, _, rfl, h1, by omega, h3, h4, h5, ?_, by rw [h7, hl]; rfl, h8⟩
  rw [h6]; rfl
set_option maxRecDepth 100000 in
set_option maxHeartbeats 4000000 in
set_option maxRecDepth 100000 in
theorem awake25 {w : World} (hT : Half w) : Calls Tryz.prog 19 #[] w fun e w' => e = .returned (.bool true) ∧ Below w.heap.size w w' := by
  have CD := digest_any [118] w (by simp) hT
  have hd9 : crcOf [118] < 4294967296 := by decide
  obtain ⟨hE0, hR0⟩ := exRc_get hd9
  obtain ⟨dg, hdg⟩ : ∃ z, crcOf [118] = z := ⟨_, rfl⟩
  have hrv : rcV exRc = .agg #[.int .i64 2, .int .i64 1, .int .i64 0, .string ⟨#[98]⟩, .string ⟨#[107]⟩, .int .u32 (dg : Int)] := by rw [← hdg]; rfl
  have CP := fun W => recput_any exRc W (by decide) (by decide) hd9
  rw [hrv] at CP
  rw [hdg] at CD
  have hBl : (rcB exRc).length ≤ 100 := Nat.le_trans (rcB_len exRc (by decide) (by decide)) (by decide)
  obtain ⟨RB, hRB⟩ : ∃ z, rcB exRc = z := ⟨_, rfl⟩
  rw [hRB] at hE0 hR0 CP hBl
  have CG := fun W => recget_any RB W (by omega)
  rw [hE0, hR0, hrv] at CG
  have HRV := Lib.hid hrv
  have HE0 := Lib.hid hE0
  have HR0 := Lib.hid hR0
  clear hrv hE0 hR0 hRB hdg hd9
  go_enter Tryz.func19, Tryz.ntmps19
  go_wp2_with fail
  refine CD.mono ?_
  rintro e w1 ⟨rfl, hb1⟩
  obtain ⟨W2, hW2⟩ : ∃ x, w1.alloc (.cells #[.int .i64 2, .int .i64 1, .int .i64 0, .string ⟨#[98]⟩, .string ⟨#[107]⟩, .int .u32 (dg : Int)] 64) = x := ⟨_, rfl⟩
  have hb12 : Below w1.heap.size w1 W2 := by rw [← hW2]; exact Below.al (Below.refl _ _)
  have hx2 : Boxes W2 [(w1.heap.size, [.int .i64 2, .int .i64 1, .int .i64 0, .string ⟨#[98]⟩, .string ⟨#[107]⟩, .int .u32 (dg : Int)])] := by
    rw [← hW2]
    exact (Boxes.nil w1).alloc #[.int .i64 2, .int .i64 1, .int .i64 0, .string ⟨#[98]⟩, .string ⟨#[107]⟩, .int .u32 (dg : Int)] 64 (b := w1.heap.size) rfl
  have k0 := hx2.cell 0 0 rfl rfl
  have k1 := hx2.cell 0 1 rfl rfl
  have k2 := hx2.cell 0 2 rfl rfl
  have k3 := hx2.cell 0 3 rfl rfl
  have k4 := hx2.cell 0 4 rfl rfl
  have k5 := hx2.cell 0 5 rfl rfl
  clear CD
  go_wp2_with fail
  refine (CP _).mono ?_
  rintro e w3 ⟨rfl, hb3⟩
  have hx3 := hx2.step hb3
  have hb13 := below_via hb12 hb3
  clear k0 k1 k2 k3 k4 k5 hx2 hb12 hb3 hW2
  go_wp2_with fail
  refine (CG _).mono ?_
  rintro e w4 ⟨rfl, hb4⟩
  have hx4 := hx3.step hb4
  have hb14 := below_via hb13 hb4
  clear hx3 hb13 hb4 CG
  obtain ⟨W5, hW5⟩ : ∃ x, w4.alloc (.cells #[.int .i64 2, .int .i64 1, .int .i64 0, .string ⟨#[98]⟩, .string ⟨#[107]⟩, .int .u32 (dg : Int)] 64) = x := ⟨_, rfl⟩
  have hb15 : Below w1.heap.size w1 W5 := by rw [← hW5]; exact hb14.alloc hb14.size _
  have hx5 : Boxes W5 [(w4.heap.size, [.int .i64 2, .int .i64 1, .int .i64 0, .string ⟨#[98]⟩, .string ⟨#[107]⟩, .int .u32 (dg : Int)]), (w1.heap.size, [.int .i64 2, .int .i64 1, .int .i64 0, .string ⟨#[98]⟩, .string ⟨#[107]⟩, .int .u32 (dg : Int)])] := by
    rw [← hW5]
    exact hx4.alloc #[.int .i64 2, .int .i64 1, .int .i64 0, .string ⟨#[98]⟩, .string ⟨#[107]⟩, .int .u32 (dg : Int)] 64 (b := w4.heap.size) rfl
  clear hx4 hb14
  go_wp2_with fail
  refine (vempty_any W5 (fun _ => False)).mono ?_
  rintro e w6 ⟨a1, c1, a2, c2, a3, c3, rfl, hn6, hb6⟩
  have hx6 := hx5.step hb6
  have hb16 := below_via hb15 hb6
  have CM := make_first hn6 [97] ⟨by simp, by simp⟩
  clear hx5 hb15 hb6 hW5 hn6
  go_wp2_with fail
  refine CM.mono ?_
  rintro e w7 ⟨cs7, v7, rfl, hv7, hlv7, hwh7, hl7, hb7⟩
  obtain ⟨p1, q1, p2, l2, q2, p3, l3, q3, p4, q4, ecs, -, -, -⟩ := hv7.raw
  subst ecs
  obtain ⟨m7, hm7⟩ : ∃ z, v7.l.length = z := ⟨_, rfl⟩
  obtain ⟨pg, hpg⟩ : ∃ z, v7.dir.page = z := ⟨_, rfl⟩
  obtain ⟨lf, hlf⟩ : ∃ z, v7.dir.isLeaf = z := ⟨_, rfl⟩
  obtain ⟨cn, hcn⟩ : ∃ z, cntT v7.dir = z := ⟨_, rfl⟩
  rw [hm7, hpg, hlf, hcn] at hv7 ⊢
  have hx7 := hx6.step hb7
  have hb17 := below_via hb16 hb7
  clear hx6 hb16 hb7 CM hm7 hpg hlf hcn
  obtain ⟨W8, hW8⟩ : ∃ x, x = w7.alloc (.cells #[.int .i64 pg, .bool lf, .slice p1 cn q1, .slice p2 l2 q2, .slice p3 l3 q3, .slice p4 m7 q4] 75) := ⟨_, rfl⟩
  have hb78 : Below w7.heap.size w7 W8 := by rw [hW8]; exact Below.al (Below.refl _ _)
  have hx8 : Boxes W8 [(w7.heap.size, [.int .i64 pg, .bool lf, .slice p1 cn q1, .slice p2 l2 q2, .slice p3 l3 q3, .slice p4 m7 q4]), (w4.heap.size, [.int .i64 2, .int .i64 1, .int .i64 0, .string ⟨#[98]⟩, .string ⟨#[107]⟩, .int .u32 (dg : Int)]), (w1.heap.size, [.int .i64 2, .int .i64 1, .int .i64 0, .string ⟨#[98]⟩, .string ⟨#[107]⟩, .int .u32 (dg : Int)])] := by
    rw [hW8]
    exact hx7.alloc #[.int .i64 pg, .bool lf, .slice p1 cn q1, .slice p2 l2 q2, .slice p3 l3 q3, .slice p4 m7 q4] 75 (b := w7.heap.size) rfl
  have hv8 := (hv7.below hb78).now
  have HB8 := Lib.hid (below_via hb1 (below_via hb17 hb78))
  have HX8 := Lib.hid hx8
  clear hx7 hv7 hb17 hb78 hx8
  go_upto_region 4 with (fail)
  rw [← hW8]
  clear hW8
  have t0 : ∀ W, Below W8.heap.size W8 W → W.cell? ⟨w7.heap.size, 0, none⟩ = some (.int .i64 pg) := fun W hW => (HX8.out.step hW).cell 0 0 rfl rfl
  have t1 : ∀ W, Below W8.heap.size W8 W → W.cell? ⟨w7.heap.size, 1, none⟩ = some (.bool lf) := fun W hW => (HX8.out.step hW).cell 0 1 rfl rfl
  have t2 : ∀ W, Below W8.heap.size W8 W → W.cell? ⟨w7.heap.size, 2, none⟩ = some (.slice p1 cn q1) := fun W hW => (HX8.out.step hW).cell 0 2 rfl rfl
  have t3 : ∀ W, Below W8.heap.size W8 W → W.cell? ⟨w7.heap.size, 3, none⟩ = some (.slice p2 l2 q2) := fun W hW => (HX8.out.step hW).cell 0 3 rfl rfl
  have t4 : ∀ W, Below W8.heap.size W8 W → W.cell? ⟨w7.heap.size, 4, none⟩ = some (.slice p3 l3 q3) := fun W hW => (HX8.out.step hW).cell 0 4 rfl rfl
  have t5 : ∀ W, Below W8.heap.size W8 W → W.cell? ⟨w7.heap.size, 5, none⟩ = some (.slice p4 m7 q4) := fun W hW => (HX8.out.step hW).cell 0 5 rfl rfl
  have r0 : ∀ W, Below W8.heap.size W8 W → W.cell? ⟨w1.heap.size, 0, none⟩ = some (.int .i64 2) := fun W hW => (HX8.out.step hW).cell 2 0 rfl rfl
  have r1 : ∀ W, Below W8.heap.size W8 W → W.cell? ⟨w1.heap.size, 1, none⟩ = some (.int .i64 1) := fun W hW => (HX8.out.step hW).cell 2 1 rfl rfl
  have r2 : ∀ W, Below W8.heap.size W8 W → W.cell? ⟨w1.heap.size, 2, none⟩ = some (.int .i64 0) := fun W hW => (HX8.out.step hW).cell 2 2 rfl rfl
  have r3 : ∀ W, Below W8.heap.size W8 W → W.cell? ⟨w1.heap.size, 3, none⟩ = some (.string ⟨#[98]⟩) := fun W hW => (HX8.out.step hW).cell 2 3 rfl rfl
  have r4 : ∀ W, Below W8.heap.size W8 W → W.cell? ⟨w1.heap.size, 4, none⟩ = some (.string ⟨#[107]⟩) := fun W hW => (HX8.out.step hW).cell 2 4 rfl rfl
  have r5 : ∀ W, Below W8.heap.size W8 W → W.cell? ⟨w1.heap.size, 5, none⟩ = some (.int .u32 (dg : Int)) := fun W hW => (HX8.out.step hW).cell 2 5 rfl rfl
  have CK : ∀ W, Calls Tryz.prog 24 #[.int .i64 0] W (RetStr W (keyB 0)) := fun W => key_any 0 W
  have CV : ∀ W, Below W8.heap.size W8 W → Calls Tryz.prog 34 #[.agg #[.int .i64 pg, .bool lf, .slice p1 cn q1, .slice p2 l2 q2, .slice p3 l3 q3, .slice p4 m7 q4], .string ⟨#[97]⟩, .string (strOf (keyB 0)), .string (strOf RB)] W fun e w' => ∃ cs' v' M T, e = .returned (.tuple #[.agg cs'.toArray, .int .i64 0]) ∧ ViewOn (Fr (fun x => x < W8.heap.size) W) w' cs' v' ∧ v'.lv ≤ 3 ∧ Whole v'.lv v'.dir ∧ M ≤ 2 ∧ Whole M T ∧ entsT M T = [(keyB 0, ⟨RB, []⟩)] ∧ v'.l = [⟨[97], M, T⟩] ∧ Below W.heap.size W w' := fun W hW =>
    put_first (fun x hx => Nat.lt_of_lt_of_le hx hW.size) (hv8.below hW) hlv7 hwh7 hl7 ⟨by simp, by simp⟩ ⟨by rw [key0]; simp, by rw [key0]; simp⟩ (by omega)
  have hB0 : Below W8.heap.size W8 W8.drew := Below.dr (Below.refl _ _)
  go_cut [6, 7] (fun s6 s7 wx => ∃ b cs v M T, s6 = .pointer (some ⟨b, 0, none⟩) ∧ s7 = .int .i64 0 ∧ ViewBox wx b cs v ∧ v.lv ≤ 3 ∧ M ≤ 2 ∧ Whole M T ∧ entsT M T = [(keyB 0, (⟨RB, []⟩ : Tv))] ∧ v.l = [⟨[97], M, T⟩] ∧ Below W8.heap.size W8 wx)
  case first =>
    refine wp_region_noPanic ?_
    refine wp_region_held_drew (S := (fun W => Below W8.heap.size W8 W)) (by kernel_rfl) (by (repeat (with_reducible first | assumption | exact Below.refl _ _ | exact Nat.le_refl _ | apply Below.al | apply Below.dr | apply Below.st))) (fun hHeld => ?_)
    refine wpAnyH_take (i := 0) (oi := { dst := some 28, op := Op.load 75 (Operand.tmp 4), type := 75, pos := "law.go:17", after := #[], guard := none }) (v := ?_) rfl (by kernel_rfl) (by kernel_rfl) (by kernel_rfl) (fun _ _ _ h => h) (Or.inl ⟨by rfl, ?_⟩) (by assumption) ?_
    rotate_left
    · (intro W hW; (try dsimp only at hW); go_simp <;> (with_reducible rfl))
    try simp only [Act.put, List.setIfInBounds_toArray, List.set_cons_zero, List.set_cons_succ]
    refine wpAnyH_take (i := 2) (oi := { dst := some 30, op := Op.load 64 (Operand.tmp 1), type := 64, pos := "law.go:17", after := #[], guard := none }) (v := ?_) rfl (by kernel_rfl) (by kernel_rfl) (by kernel_rfl) (fun _ _ _ h => h) (Or.inl ⟨by rfl, ?_⟩) (by assumption) ?_
    rotate_left
    · (intro W hW; (try dsimp only at hW); go_simp <;> (with_reducible rfl))
    try simp only [Act.put, List.setIfInBounds_toArray, List.set_cons_zero, List.set_cons_succ]
    refine wpAnyH_ready (rs := [1, 8]) (by kernel_rfl) (by simp) (AllReadyH.cons (o := { dst := some 29, op := Op.call { callee := Callee.value (Operand.func 24), args := #[Operand.const (Value.int IntKind.i64 0)], argTypes := #[3] }, type := 9, pos := "law.go:17", after := #[], guard := none }) rfl (fun K hK => ?_) (AllReadyH.cons (o := { dst := some 6, op := Op.alloc 75, type := 0, pos := "law.go:17", after := #[], guard := none }) rfl (fun K hK => ?_) AllReadyH.nil))
    · skip
      (rw [if_pos (by rfl)]; go_wp2_with (go_at_call 24; (with_reducible refine (CK _).mono ?_); rintro e w2 ⟨rfl, hb2⟩))
      have hH9 := below_via hHeld hb2
      refine hK.out _ _ (by (repeat (with_reducible first | assumption | exact Below.refl _ _ | exact Nat.le_refl _ | apply Below.al | apply Below.dr | apply Below.st))) (fun hHeld => ?_)
      clear hK K
      try simp only [Act.put, List.setIfInBounds_toArray, List.set_cons_zero, List.set_cons_succ]
      refine wpAnyH_ready (rs := [3, 8]) (by kernel_rfl) (by simp) (AllReadyH.cons (o := { dst := some 31, op := Op.call { callee := Callee.value (Operand.func 22), args := #[Operand.tmp 30], argTypes := #[64] }, type := 9, pos := "law.go:17", after := #[{ on := 2, ground := Ground.data }, { on := 1, ground := Ground.chain }], guard := none }) rfl (fun K hK => ?_) (AllReadyH.cons (o := { dst := some 6, op := Op.alloc 75, type := 0, pos := "law.go:17", after := #[], guard := none }) rfl (fun K hK => ?_) AllReadyH.nil))
      · skip
        (rw [if_pos (by rfl)]; go_wp2_with (go_at_call 22; (with_reducible refine (CP _).mono ?_); rintro e w3 ⟨rfl, hb3⟩))
        have hH9 := below_via hHeld hb3
        refine hK.out _ _ (by (repeat (with_reducible first | assumption | exact Below.refl _ _ | exact Nat.le_refl _ | apply Below.al | apply Below.dr | apply Below.st))) (fun hHeld => ?_)
        clear hK K
        try simp only [Act.put, List.setIfInBounds_toArray, List.set_cons_zero, List.set_cons_succ]
        refine wpAnyH_ready (rs := [4, 8]) (by kernel_rfl) (by simp) (AllReadyH.cons (o := { dst := some 32, op := Op.call { callee := Callee.value (Operand.func 34), args := #[Operand.tmp 28, Operand.const (Value.string { data := #[97] }), Operand.tmp 29, Operand.tmp 31], argTypes := #[75, 9, 9, 9] }, type := 81, pos := "law.go:17", after := #[{ on := 0, ground := Ground.data }, { on := 1, ground := Ground.data }, { on := 3, ground := Ground.data }, { on := 3, ground := Ground.chain }], guard := none }) rfl (fun K hK => ?_) (AllReadyH.cons (o := { dst := some 6, op := Op.alloc 75, type := 0, pos := "law.go:17", after := #[], guard := none }) rfl (fun K hK => ?_) AllReadyH.nil))
        · skip
          (rw [if_pos (by rfl)]; go_wp2_with (go_at_call 34; (with_reducible refine (CV _ ?_).mono ?_); (focus (with_reducible assumption)); rintro e w10 ⟨cs10, v10, M, T, rfl, hv10, i1, i2, i3, i4, i5, i6, hb10⟩; obtain ⟨g1, g2, g3, g4, g5, g6, g7, g8, g9, g10, ecs, -, -, -⟩ := hv10.raw; subst ecs; have hv10 := hv10.lt; have I6 := Lib.hid i6; clear i6; generalize v10.l.length = n10 at *))
          have hH9 := below_via hHeld hb10
          refine hK.out _ _ (by (repeat (with_reducible first | assumption | exact Below.refl _ _ | exact Nat.le_refl _ | apply Below.al | apply Below.dr | apply Below.st))) (fun hHeld => ?_)
          clear hK K
          try simp only [Act.put, List.setIfInBounds_toArray, List.set_cons_zero, List.set_cons_succ]
          refine wpAnyH_take (i := 5) (oi := { dst := some 27, op := Op.move (Operand.tmp 32), type := 81, pos := "law.go:17", after := #[{ on := 4, ground := Ground.data }], guard := none }) (v := ?_) rfl (by kernel_rfl) (by kernel_rfl) (by kernel_rfl) (fun _ _ _ h => h) (Or.inl ⟨by rfl, ?_⟩) (by assumption) ?_
          rotate_left
          · (intro W hW; (try dsimp only at hW); go_simp <;> (with_reducible rfl))
          try simp only [Act.put, List.setIfInBounds_toArray, List.set_cons_zero, List.set_cons_succ]
          refine wpAnyH_take (i := 6) (oi := { dst := some 33, op := Op.extract (Operand.tmp 27) 0, type := 75, pos := "law.go:17", after := #[{ on := 5, ground := Ground.data }], guard := none }) (v := ?_) rfl (by kernel_rfl) (by kernel_rfl) (by kernel_rfl) (fun _ _ _ h => h) (Or.inl ⟨by rfl, ?_⟩) (by assumption) ?_
          rotate_left
          · (intro W hW; (try dsimp only at hW); go_simp <;> (with_reducible rfl))
          try simp only [Act.put, List.setIfInBounds_toArray, List.set_cons_zero, List.set_cons_succ]
          refine wpAnyH_take (i := 7) (oi := { dst := some 34, op := Op.extract (Operand.tmp 27) 1, type := 32, pos := "law.go:17", after := #[{ on := 5, ground := Ground.data }, { on := 9, ground := Ground.gcOnly Departure.lateStores }], guard := none }) (v := ?_) rfl (by kernel_rfl) (by kernel_rfl) (by kernel_rfl) (fun _ _ _ h => h) (Or.inl ⟨by rfl, ?_⟩) (by assumption) ?_
          rotate_left
          · (intro W hW; (try dsimp only at hW); go_simp <;> (with_reducible rfl))
          try simp only [Act.put, List.setIfInBounds_toArray, List.set_cons_zero, List.set_cons_succ]
          refine wpAnyH_ready (rs := [8]) (by kernel_rfl) (by simp) (AllReadyH.cons (o := { dst := some 6, op := Op.alloc 75, type := 0, pos := "law.go:17", after := #[], guard := none }) rfl (fun K hK => ?_) AllReadyH.nil)
          have BG := hHeld.size
          (rw [if_pos (by rfl)]; go_wp2_with (fail))
          refine hK.out _ _ (by (repeat (with_reducible first | assumption | exact Below.refl _ _ | exact Nat.le_refl _ | apply Below.al | apply Below.dr | apply Below.st))) (fun hHeld => ?_)
          have BX := (by with_reducible first | exact vbox_of hHeld | exact vbox_drew hHeld)
          clear hK K
          try simp only [Act.put, List.setIfInBounds_toArray, List.set_cons_zero, List.set_cons_succ]
          refine wpAnyH_ready (rs := [9]) (by kernel_rfl) (by simp) (AllReadyH.cons (o := { dst := none, op := Op.store 75 (Operand.tmp 6) (Operand.tmp 33), type := 0, pos := "law.go:17", after := #[{ on := 8, ground := Ground.data }, { on := 6, ground := Ground.data }, { on := 4, ground := Ground.chain }, { on := 0, ground := Ground.phase }, { on := 1, ground := Ground.phase }, { on := 2, ground := Ground.phase }, { on := 3, ground := Ground.phase }, { on := 4, ground := Ground.phase }, { on := 5, ground := Ground.phase }, { on := 6, ground := Ground.phase }, { on := 7, ground := Ground.textOnly Departure.lateStores }, { on := 8, ground := Ground.phase }], guard := none }) rfl (fun K hK => ?_) AllReadyH.nil)
          have z0 := BX.cell 0 0 rfl rfl
          have u0 := BX.frozen 0 0 rfl
          have z1 := BX.cell 0 1 rfl rfl
          have u1 := BX.frozen 0 1 rfl
          have z2 := BX.cell 0 2 rfl rfl
          have u2 := BX.frozen 0 2 rfl
          have z3 := BX.cell 0 3 rfl rfl
          have u3 := BX.frozen 0 3 rfl
          have z4 := BX.cell 0 4 rfl rfl
          have u4 := BX.frozen 0 4 rfl
          have z5 := BX.cell 0 5 rfl rfl
          have u5 := BX.frozen 0 5 rfl
          (rw [if_pos (by rfl)]; go_wp2_with (fail))
          refine hK.out _ _ (by (repeat (with_reducible first | assumption | exact Below.refl _ _ | exact Nat.le_refl _ | apply Below.al | apply Below.dr | apply Below.st))) (fun hHeld => ?_)
          clear z0 u0 z1 u1 z2 u2 z3 u3 z4 u4 z5 u5
          clear hK K
          try simp only [Act.put, List.setIfInBounds_toArray, List.set_cons_zero, List.set_cons_succ]
          refine wpAnyH_take (i := 10) (oi := { dst := some 7, op := Op.assign (Operand.tmp 34), type := 32, pos := "law.go:17", after := #[{ on := 7, ground := Ground.data }, { on := 9, ground := Ground.chain }, { on := 0, ground := Ground.phase }, { on := 1, ground := Ground.phase }, { on := 2, ground := Ground.phase }, { on := 3, ground := Ground.phase }, { on := 4, ground := Ground.phase }, { on := 5, ground := Ground.phase }, { on := 6, ground := Ground.phase }, { on := 7, ground := Ground.phase }, { on := 8, ground := Ground.phase }, { on := 9, ground := Ground.phase }], guard := none }) (v := ?_) rfl (by kernel_rfl) (by kernel_rfl) (by kernel_rfl) (fun _ _ _ h => h) (Or.inl ⟨by rfl, ?_⟩) (by assumption) ?_
          rotate_left
          · (intro W hW; (try dsimp only at hW); go_simp <;> (with_reducible rfl))
          try simp only [Act.put, List.setIfInBounds_toArray, List.set_cons_zero, List.set_cons_succ]
          refine wpAnyH_done (by kernel_rfl) ?_ _
          refine NoPanic.normal ?_
          go_wp2_with fail
          go_meet
          have hend := viewbox_new 75 hv10
          exact ⟨_, _, v10, M, T, rfl, rfl, hend, i1, i3, i4, i5, I6.out, hHeld⟩
        · skip
          have BG := hHeld.size
          (rw [if_pos (by rfl)]; go_wp2_with (fail))
          refine hK.out _ _ (by (repeat (with_reducible first | assumption | exact Below.refl _ _ | exact Nat.le_refl _ | apply Below.al | apply Below.dr | apply Below.st))) (fun hHeld => ?_)
          have BX := (by with_reducible first | exact vbox_of hHeld | exact vbox_drew hHeld)
          clear hK K
          try simp only [Act.put, List.setIfInBounds_toArray, List.set_cons_zero, List.set_cons_succ]
          refine wpAnyH_ready (rs := [4]) (by kernel_rfl) (by simp) (AllReadyH.cons (o := { dst := some 32, op := Op.call { callee := Callee.value (Operand.func 34), args := #[Operand.tmp 28, Operand.const (Value.string { data := #[97] }), Operand.tmp 29, Operand.tmp 31], argTypes := #[75, 9, 9, 9] }, type := 81, pos := "law.go:17", after := #[{ on := 0, ground := Ground.data }, { on := 1, ground := Ground.data }, { on := 3, ground := Ground.data }, { on := 3, ground := Ground.chain }], guard := none }) rfl (fun K hK => ?_) AllReadyH.nil)
          have BL := BX.lt 0 rfl
          (rw [if_pos (by rfl)]; go_wp2_with (go_at_call 34; (with_reducible refine (CV _ ?_).mono ?_); (focus (with_reducible assumption)); rintro e w10 ⟨cs10, v10, M, T, rfl, hv10, i1, i2, i3, i4, i5, i6, hb10⟩; obtain ⟨g1, g2, g3, g4, g5, g6, g7, g8, g9, g10, ecs, -, -, -⟩ := hv10.raw; subst ecs; have hv10 := hv10.lt; have I6 := Lib.hid i6; clear i6; generalize v10.l.length = n10 at *))
          have hH9 := below_via hHeld hb10
          have BX := BX.step hb10
          refine hK.out _ _ (by (repeat (with_reducible first | assumption | exact Below.refl _ _ | exact Nat.le_refl _ | apply Below.al | apply Below.dr | apply Below.st))) (fun hHeld => ?_)
          clear hK K
          try simp only [Act.put, List.setIfInBounds_toArray, List.set_cons_zero, List.set_cons_succ]
          refine wpAnyH_take (i := 5) (oi := { dst := some 27, op := Op.move (Operand.tmp 32), type := 81, pos := "law.go:17", after := #[{ on := 4, ground := Ground.data }], guard := none }) (v := ?_) rfl (by kernel_rfl) (by kernel_rfl) (by kernel_rfl) (fun _ _ _ h => h) (Or.inl ⟨by rfl, ?_⟩) (by assumption) ?_
          rotate_left
          · (intro W hW; (try dsimp only at hW); go_simp <;> (with_reducible rfl))
          try simp only [Act.put, List.setIfInBounds_toArray, List.set_cons_zero, List.set_cons_succ]
          refine wpAnyH_take (i := 6) (oi := { dst := some 33, op := Op.extract (Operand.tmp 27) 0, type := 75, pos := "law.go:17", after := #[{ on := 5, ground := Ground.data }], guard := none }) (v := ?_) rfl (by kernel_rfl) (by kernel_rfl) (by kernel_rfl) (fun _ _ _ h => h) (Or.inl ⟨by rfl, ?_⟩) (by assumption) ?_
          rotate_left
          · (intro W hW; (try dsimp only at hW); go_simp <;> (with_reducible rfl))
          try simp only [Act.put, List.setIfInBounds_toArray, List.set_cons_zero, List.set_cons_succ]
          refine wpAnyH_take (i := 7) (oi := { dst := some 34, op := Op.extract (Operand.tmp 27) 1, type := 32, pos := "law.go:17", after := #[{ on := 5, ground := Ground.data }, { on := 9, ground := Ground.gcOnly Departure.lateStores }], guard := none }) (v := ?_) rfl (by kernel_rfl) (by kernel_rfl) (by kernel_rfl) (fun _ _ _ h => h) (Or.inl ⟨by rfl, ?_⟩) (by assumption) ?_
          rotate_left
          · (intro W hW; (try dsimp only at hW); go_simp <;> (with_reducible rfl))
          try simp only [Act.put, List.setIfInBounds_toArray, List.set_cons_zero, List.set_cons_succ]
          refine wpAnyH_ready (rs := [9]) (by kernel_rfl) (by simp) (AllReadyH.cons (o := { dst := none, op := Op.store 75 (Operand.tmp 6) (Operand.tmp 33), type := 0, pos := "law.go:17", after := #[{ on := 8, ground := Ground.data }, { on := 6, ground := Ground.data }, { on := 4, ground := Ground.chain }, { on := 0, ground := Ground.phase }, { on := 1, ground := Ground.phase }, { on := 2, ground := Ground.phase }, { on := 3, ground := Ground.phase }, { on := 4, ground := Ground.phase }, { on := 5, ground := Ground.phase }, { on := 6, ground := Ground.phase }, { on := 7, ground := Ground.textOnly Departure.lateStores }, { on := 8, ground := Ground.phase }], guard := none }) rfl (fun K hK => ?_) AllReadyH.nil)
          have z0 := BX.cell 0 0 rfl rfl
          have u0 := BX.frozen 0 0 rfl
          have z1 := BX.cell 0 1 rfl rfl
          have u1 := BX.frozen 0 1 rfl
          have z2 := BX.cell 0 2 rfl rfl
          have u2 := BX.frozen 0 2 rfl
          have z3 := BX.cell 0 3 rfl rfl
          have u3 := BX.frozen 0 3 rfl
          have z4 := BX.cell 0 4 rfl rfl
          have u4 := BX.frozen 0 4 rfl
          have z5 := BX.cell 0 5 rfl rfl
          have u5 := BX.frozen 0 5 rfl
          (rw [if_pos (by rfl)]; go_wp2_with (fail))
          refine hK.out _ _ (by (repeat (with_reducible first | assumption | exact Below.refl _ _ | exact Nat.le_refl _ | apply Below.al | apply Below.dr | apply Below.st))) (fun hHeld => ?_)
          clear z0 u0 z1 u1 z2 u2 z3 u3 z4 u4 z5 u5
          clear hK K
          try simp only [Act.put, List.setIfInBounds_toArray, List.set_cons_zero, List.set_cons_succ]
          refine wpAnyH_take (i := 10) (oi := { dst := some 7, op := Op.assign (Operand.tmp 34), type := 32, pos := "law.go:17", after := #[{ on := 7, ground := Ground.data }, { on := 9, ground := Ground.chain }, { on := 0, ground := Ground.phase }, { on := 1, ground := Ground.phase }, { on := 2, ground := Ground.phase }, { on := 3, ground := Ground.phase }, { on := 4, ground := Ground.phase }, { on := 5, ground := Ground.phase }, { on := 6, ground := Ground.phase }, { on := 7, ground := Ground.phase }, { on := 8, ground := Ground.phase }, { on := 9, ground := Ground.phase }], guard := none }) (v := ?_) rfl (by kernel_rfl) (by kernel_rfl) (by kernel_rfl) (fun _ _ _ h => h) (Or.inl ⟨by rfl, ?_⟩) (by assumption) ?_
          rotate_left
          · (intro W hW; (try dsimp only at hW); go_simp <;> (with_reducible rfl))
          try simp only [Act.put, List.setIfInBounds_toArray, List.set_cons_zero, List.set_cons_succ]
          refine wpAnyH_done (by kernel_rfl) ?_ _
          refine NoPanic.normal ?_
          go_wp2_with fail
          go_meet
          have hend := viewbox_end BX hv10 (fun x hx hl e => by (subst e; obtain ⟨hx | hx, hx2⟩ := hx <;> omega))
          unfold set6 at hend
          exact ⟨_, _, v10, M, T, rfl, rfl, hend, i1, i3, i4, i5, I6.out, hHeld⟩
      · skip
        have BG := hHeld.size
        (rw [if_pos (by rfl)]; go_wp2_with (fail))
        refine hK.out _ _ (by (repeat (with_reducible first | assumption | exact Below.refl _ _ | exact Nat.le_refl _ | apply Below.al | apply Below.dr | apply Below.st))) (fun hHeld => ?_)
        have BX := (by with_reducible first | exact vbox_of hHeld | exact vbox_drew hHeld)
        clear hK K
        try simp only [Act.put, List.setIfInBounds_toArray, List.set_cons_zero, List.set_cons_succ]
        refine wpAnyH_ready (rs := [3]) (by kernel_rfl) (by simp) (AllReadyH.cons (o := { dst := some 31, op := Op.call { callee := Callee.value (Operand.func 22), args := #[Operand.tmp 30], argTypes := #[64] }, type := 9, pos := "law.go:17", after := #[{ on := 2, ground := Ground.data }, { on := 1, ground := Ground.chain }], guard := none }) rfl (fun K hK => ?_) AllReadyH.nil)
        have BL := BX.lt 0 rfl
        (rw [if_pos (by rfl)]; go_wp2_with (go_at_call 22; (with_reducible refine (CP _).mono ?_); rintro e w3 ⟨rfl, hb3⟩))
        have hH9 := below_via hHeld hb3
        have BX := BX.step hb3
        refine hK.out _ _ (by (repeat (with_reducible first | assumption | exact Below.refl _ _ | exact Nat.le_refl _ | apply Below.al | apply Below.dr | apply Below.st))) (fun hHeld => ?_)
        clear hK K
        try simp only [Act.put, List.setIfInBounds_toArray, List.set_cons_zero, List.set_cons_succ]
        refine wpAnyH_ready (rs := [4]) (by kernel_rfl) (by simp) (AllReadyH.cons (o := { dst := some 32, op := Op.call { callee := Callee.value (Operand.func 34), args := #[Operand.tmp 28, Operand.const (Value.string { data := #[97] }), Operand.tmp 29, Operand.tmp 31], argTypes := #[75, 9, 9, 9] }, type := 81, pos := "law.go:17", after := #[{ on := 0, ground := Ground.data }, { on := 1, ground := Ground.data }, { on := 3, ground := Ground.data }, { on := 3, ground := Ground.chain }], guard := none }) rfl (fun K hK => ?_) AllReadyH.nil)
        have BL := BX.lt 0 rfl
        (rw [if_pos (by rfl)]; go_wp2_with (go_at_call 34; (with_reducible refine (CV _ ?_).mono ?_); (focus (with_reducible assumption)); rintro e w10 ⟨cs10, v10, M, T, rfl, hv10, i1, i2, i3, i4, i5, i6, hb10⟩; obtain ⟨g1, g2, g3, g4, g5, g6, g7, g8, g9, g10, ecs, -, -, -⟩ := hv10.raw; subst ecs; have hv10 := hv10.lt; have I6 := Lib.hid i6; clear i6; generalize v10.l.length = n10 at *))
        have hH9 := below_via hHeld hb10
        have BX := BX.step hb10
        refine hK.out _ _ (by (repeat (with_reducible first | assumption | exact Below.refl _ _ | exact Nat.le_refl _ | apply Below.al | apply Below.dr | apply Below.st))) (fun hHeld => ?_)
        clear hK K
        try simp only [Act.put, List.setIfInBounds_toArray, List.set_cons_zero, List.set_cons_succ]
        refine wpAnyH_take (i := 5) (oi := { dst := some 27, op := Op.move (Operand.tmp 32), type := 81, pos := "law.go:17", after := #[{ on := 4, ground := Ground.data }], guard := none }) (v := ?_) rfl (by kernel_rfl) (by kernel_rfl) (by kernel_rfl) (fun _ _ _ h => h) (Or.inl ⟨by rfl, ?_⟩) (by assumption) ?_
        rotate_left
        · (intro W hW; (try dsimp only at hW); go_simp <;> (with_reducible rfl))
        try simp only [Act.put, List.setIfInBounds_toArray, List.set_cons_zero, List.set_cons_succ]
        refine wpAnyH_take (i := 6) (oi := { dst := some 33, op := Op.extract (Operand.tmp 27) 0, type := 75, pos := "law.go:17", after := #[{ on := 5, ground := Ground.data }], guard := none }) (v := ?_) rfl (by kernel_rfl) (by kernel_rfl) (by kernel_rfl) (fun _ _ _ h => h) (Or.inl ⟨by rfl, ?_⟩) (by assumption) ?_
        rotate_left
        · (intro W hW; (try dsimp only at hW); go_simp <;> (with_reducible rfl))
        try simp only [Act.put, List.setIfInBounds_toArray, List.set_cons_zero, List.set_cons_succ]
        refine wpAnyH_take (i := 7) (oi := { dst := some 34, op := Op.extract (Operand.tmp 27) 1, type := 32, pos := "law.go:17", after := #[{ on := 5, ground := Ground.data }, { on := 9, ground := Ground.gcOnly Departure.lateStores }], guard := none }) (v := ?_) rfl (by kernel_rfl) (by kernel_rfl) (by kernel_rfl) (fun _ _ _ h => h) (Or.inl ⟨by rfl, ?_⟩) (by assumption) ?_
        rotate_left
        · (intro W hW; (try dsimp only at hW); go_simp <;> (with_reducible rfl))
        try simp only [Act.put, List.setIfInBounds_toArray, List.set_cons_zero, List.set_cons_succ]
        refine wpAnyH_ready (rs := [9]) (by kernel_rfl) (by simp) (AllReadyH.cons (o := { dst := none, op := Op.store 75 (Operand.tmp 6) (Operand.tmp 33), type := 0, pos := "law.go:17", after := #[{ on := 8, ground := Ground.data }, { on := 6, ground := Ground.data }, { on := 4, ground := Ground.chain }, { on := 0, ground := Ground.phase }, { on := 1, ground := Ground.phase }, { on := 2, ground := Ground.phase }, { on := 3, ground := Ground.phase }, { on := 4, ground := Ground.phase }, { on := 5, ground := Ground.phase }, { on := 6, ground := Ground.phase }, { on := 7, ground := Ground.textOnly Departure.lateStores }, { on := 8, ground := Ground.phase }], guard := none }) rfl (fun K hK => ?_) AllReadyH.nil)
        have z0 := BX.cell 0 0 rfl rfl
        have u0 := BX.frozen 0 0 rfl
        have z1 := BX.cell 0 1 rfl rfl
        have u1 := BX.frozen 0 1 rfl
        have z2 := BX.cell 0 2 rfl rfl
        have u2 := BX.frozen 0 2 rfl
        have z3 := BX.cell 0 3 rfl rfl
        have u3 := BX.frozen 0 3 rfl
        have z4 := BX.cell 0 4 rfl rfl
        have u4 := BX.frozen 0 4 rfl
        have z5 := BX.cell 0 5 rfl rfl
        have u5 := BX.frozen 0 5 rfl
        (rw [if_pos (by rfl)]; go_wp2_with (fail))
        refine hK.out _ _ (by (repeat (with_reducible first | assumption | exact Below.refl _ _ | exact Nat.le_refl _ | apply Below.al | apply Below.dr | apply Below.st))) (fun hHeld => ?_)
        clear z0 u0 z1 u1 z2 u2 z3 u3 z4 u4 z5 u5
        clear hK K
        try simp only [Act.put, List.setIfInBounds_toArray, List.set_cons_zero, List.set_cons_succ]
        refine wpAnyH_take (i := 10) (oi := { dst := some 7, op := Op.assign (Operand.tmp 34), type := 32, pos := "law.go:17", after := #[{ on := 7, ground := Ground.data }, { on := 9, ground := Ground.chain }, { on := 0, ground := Ground.phase }, { on := 1, ground := Ground.phase }, { on := 2, ground := Ground.phase }, { on := 3, ground := Ground.phase }, { on := 4, ground := Ground.phase }, { on := 5, ground := Ground.phase }, { on := 6, ground := Ground.phase }, { on := 7, ground := Ground.phase }, { on := 8, ground := Ground.phase }, { on := 9, ground := Ground.phase }], guard := none }) (v := ?_) rfl (by kernel_rfl) (by kernel_rfl) (by kernel_rfl) (fun _ _ _ h => h) (Or.inl ⟨by rfl, ?_⟩) (by assumption) ?_
        rotate_left
        · (intro W hW; (try dsimp only at hW); go_simp <;> (with_reducible rfl))
        try simp only [Act.put, List.setIfInBounds_toArray, List.set_cons_zero, List.set_cons_succ]
        refine wpAnyH_done (by kernel_rfl) ?_ _
        refine NoPanic.normal ?_
        go_wp2_with fail
        go_meet
        have hend := viewbox_end BX hv10 (fun x hx hl e => by (subst e; obtain ⟨hx | hx, hx2⟩ := hx <;> omega))
        unfold set6 at hend
        exact ⟨_, _, v10, M, T, rfl, rfl, hend, i1, i3, i4, i5, I6.out, hHeld⟩
    · skip
      have BG := hHeld.size
      (rw [if_pos (by rfl)]; go_wp2_with (fail))
      refine hK.out _ _ (by (repeat (with_reducible first | assumption | exact Below.refl _ _ | exact Nat.le_refl _ | apply Below.al | apply Below.dr | apply Below.st))) (fun hHeld => ?_)
      have BX := (by with_reducible first | exact vbox_of hHeld | exact vbox_drew hHeld)
      clear hK K
      try simp only [Act.put, List.setIfInBounds_toArray, List.set_cons_zero, List.set_cons_succ]
      refine wpAnyH_ready (rs := [1]) (by kernel_rfl) (by simp) (AllReadyH.cons (o := { dst := some 29, op := Op.call { callee := Callee.value (Operand.func 24), args := #[Operand.const (Value.int IntKind.i64 0)], argTypes := #[3] }, type := 9, pos := "law.go:17", after := #[], guard := none }) rfl (fun K hK => ?_) AllReadyH.nil)
      have BL := BX.lt 0 rfl
      (rw [if_pos (by rfl)]; go_wp2_with (go_at_call 24; (with_reducible refine (CK _).mono ?_); rintro e w2 ⟨rfl, hb2⟩))
      have hH9 := below_via hHeld hb2
      have BX := BX.step hb2
      refine hK.out _ _ (by (repeat (with_reducible first | assumption | exact Below.refl _ _ | exact Nat.le_refl _ | apply Below.al | apply Below.dr | apply Below.st))) (fun hHeld => ?_)
      clear hK K
      try simp only [Act.put, List.setIfInBounds_toArray, List.set_cons_zero, List.set_cons_succ]
      refine wpAnyH_ready (rs := [3]) (by kernel_rfl) (by simp) (AllReadyH.cons (o := { dst := some 31, op := Op.call { callee := Callee.value (Operand.func 22), args := #[Operand.tmp 30], argTypes := #[64] }, type := 9, pos := "law.go:17", after := #[{ on := 2, ground := Ground.data }, { on := 1, ground := Ground.chain }], guard := none }) rfl (fun K hK => ?_) AllReadyH.nil)
      have BL := BX.lt 0 rfl
      (rw [if_pos (by rfl)]; go_wp2_with (go_at_call 22; (with_reducible refine (CP _).mono ?_); rintro e w3 ⟨rfl, hb3⟩))
      have hH9 := below_via hHeld hb3
      have BX := BX.step hb3
      refine hK.out _ _ (by (repeat (with_reducible first | assumption | exact Below.refl _ _ | exact Nat.le_refl _ | apply Below.al | apply Below.dr | apply Below.st))) (fun hHeld => ?_)
      clear hK K
      try simp only [Act.put, List.setIfInBounds_toArray, List.set_cons_zero, List.set_cons_succ]
      refine wpAnyH_ready (rs := [4]) (by kernel_rfl) (by simp) (AllReadyH.cons (o := { dst := some 32, op := Op.call { callee := Callee.value (Operand.func 34), args := #[Operand.tmp 28, Operand.const (Value.string { data := #[97] }), Operand.tmp 29, Operand.tmp 31], argTypes := #[75, 9, 9, 9] }, type := 81, pos := "law.go:17", after := #[{ on := 0, ground := Ground.data }, { on := 1, ground := Ground.data }, { on := 3, ground := Ground.data }, { on := 3, ground := Ground.chain }], guard := none }) rfl (fun K hK => ?_) AllReadyH.nil)
      have BL := BX.lt 0 rfl
      (rw [if_pos (by rfl)]; go_wp2_with (go_at_call 34; (with_reducible refine (CV _ ?_).mono ?_); (focus (with_reducible assumption)); rintro e w10 ⟨cs10, v10, M, T, rfl, hv10, i1, i2, i3, i4, i5, i6, hb10⟩; obtain ⟨g1, g2, g3, g4, g5, g6, g7, g8, g9, g10, ecs, -, -, -⟩ := hv10.raw; subst ecs; have hv10 := hv10.lt; have I6 := Lib.hid i6; clear i6; generalize v10.l.length = n10 at *))
      have hH9 := below_via hHeld hb10
      have BX := BX.step hb10
      refine hK.out _ _ (by (repeat (with_reducible first | assumption | exact Below.refl _ _ | exact Nat.le_refl _ | apply Below.al | apply Below.dr | apply Below.st))) (fun hHeld => ?_)
      clear hK K
      try simp only [Act.put, List.setIfInBounds_toArray, List.set_cons_zero, List.set_cons_succ]
      refine wpAnyH_take (i := 5) (oi := { dst := some 27, op := Op.move (Operand.tmp 32), type := 81, pos := "law.go:17", after := #[{ on := 4, ground := Ground.data }], guard := none }) (v := ?_) rfl (by kernel_rfl) (by kernel_rfl) (by kernel_rfl) (fun _ _ _ h => h) (Or.inl ⟨by rfl, ?_⟩) (by assumption) ?_
      rotate_left
      · (intro W hW; (try dsimp only at hW); go_simp <;> (with_reducible rfl))
      try simp only [Act.put, List.setIfInBounds_toArray, List.set_cons_zero, List.set_cons_succ]
      refine wpAnyH_take (i := 6) (oi := { dst := some 33, op := Op.extract (Operand.tmp 27) 0, type := 75, pos := "law.go:17", after := #[{ on := 5, ground := Ground.data }], guard := none }) (v := ?_) rfl (by kernel_rfl) (by kernel_rfl) (by kernel_rfl) (fun _ _ _ h => h) (Or.inl ⟨by rfl, ?_⟩) (by assumption) ?_
      rotate_left
      · (intro W hW; (try dsimp only at hW); go_simp <;> (with_reducible rfl))
      try simp only [Act.put, List.setIfInBounds_toArray, List.set_cons_zero, List.set_cons_succ]
      refine wpAnyH_take (i := 7) (oi := { dst := some 34, op := Op.extract (Operand.tmp 27) 1, type := 32, pos := "law.go:17", after := #[{ on := 5, ground := Ground.data }, { on := 9, ground := Ground.gcOnly Departure.lateStores }], guard := none }) (v := ?_) rfl (by kernel_rfl) (by kernel_rfl) (by kernel_rfl) (fun _ _ _ h => h) (Or.inl ⟨by rfl, ?_⟩) (by assumption) ?_
      rotate_left
      · (intro W hW; (try dsimp only at hW); go_simp <;> (with_reducible rfl))
      try simp only [Act.put, List.setIfInBounds_toArray, List.set_cons_zero, List.set_cons_succ]
      refine wpAnyH_ready (rs := [9]) (by kernel_rfl) (by simp) (AllReadyH.cons (o := { dst := none, op := Op.store 75 (Operand.tmp 6) (Operand.tmp 33), type := 0, pos := "law.go:17", after := #[{ on := 8, ground := Ground.data }, { on := 6, ground := Ground.data }, { on := 4, ground := Ground.chain }, { on := 0, ground := Ground.phase }, { on := 1, ground := Ground.phase }, { on := 2, ground := Ground.phase }, { on := 3, ground := Ground.phase }, { on := 4, ground := Ground.phase }, { on := 5, ground := Ground.phase }, { on := 6, ground := Ground.phase }, { on := 7, ground := Ground.textOnly Departure.lateStores }, { on := 8, ground := Ground.phase }], guard := none }) rfl (fun K hK => ?_) AllReadyH.nil)
      have z0 := BX.cell 0 0 rfl rfl
      have u0 := BX.frozen 0 0 rfl
      have z1 := BX.cell 0 1 rfl rfl
      have u1 := BX.frozen 0 1 rfl
      have z2 := BX.cell 0 2 rfl rfl
      have u2 := BX.frozen 0 2 rfl
      have z3 := BX.cell 0 3 rfl rfl
      have u3 := BX.frozen 0 3 rfl
      have z4 := BX.cell 0 4 rfl rfl
      have u4 := BX.frozen 0 4 rfl
      have z5 := BX.cell 0 5 rfl rfl
      have u5 := BX.frozen 0 5 rfl
      (rw [if_pos (by rfl)]; go_wp2_with (fail))
      refine hK.out _ _ (by (repeat (with_reducible first | assumption | exact Below.refl _ _ | exact Nat.le_refl _ | apply Below.al | apply Below.dr | apply Below.st))) (fun hHeld => ?_)
      clear z0 u0 z1 u1 z2 u2 z3 u3 z4 u4 z5 u5
      clear hK K
      try simp only [Act.put, List.setIfInBounds_toArray, List.set_cons_zero, List.set_cons_succ]
      refine wpAnyH_take (i := 10) (oi := { dst := some 7, op := Op.assign (Operand.tmp 34), type := 32, pos := "law.go:17", after := #[{ on := 7, ground := Ground.data }, { on := 9, ground := Ground.chain }, { on := 0, ground := Ground.phase }, { on := 1, ground := Ground.phase }, { on := 2, ground := Ground.phase }, { on := 3, ground := Ground.phase }, { on := 4, ground := Ground.phase }, { on := 5, ground := Ground.phase }, { on := 6, ground := Ground.phase }, { on := 7, ground := Ground.phase }, { on := 8, ground := Ground.phase }, { on := 9, ground := Ground.phase }], guard := none }) (v := ?_) rfl (by kernel_rfl) (by kernel_rfl) (by kernel_rfl) (fun _ _ _ h => h) (Or.inl ⟨by rfl, ?_⟩) (by assumption) ?_
      rotate_left
      · (intro W hW; (try dsimp only at hW); go_simp <;> (with_reducible rfl))
      try simp only [Act.put, List.setIfInBounds_toArray, List.set_cons_zero, List.set_cons_succ]
      refine wpAnyH_done (by kernel_rfl) ?_ _
      refine NoPanic.normal ?_
      go_wp2_with fail
      go_meet
      have hend := viewbox_end BX hv10 (fun x hx hl e => by (subst e; obtain ⟨hx | hx, hx2⟩ := hx <;> omega))
      unfold set6 at hend
      exact ⟨_, _, v10, M, T, rfl, rfl, hend, i1, i3, i4, i5, I6.out, hHeld⟩
  case rest =>
    obtain ⟨b9, cs9, v9, M, T, rfl, rfl, hvb, hlv9, hM9, hwT, hE9, hl9, hb9⟩ := hcut
    have hvo := hvb.on
    obtain ⟨p1, q1, p2, l2, q2, p3, l3, q3, p4, q4, ecs, -, htab, -⟩ := hvo.raw
    subst ecs
    have hnx : nextF v9.l = some 1 := by rw [hl9]; unfold nextF; simp [hE9]
    have CN := rnext_any (v := v9) (d0 := .int .i64 v9.dir.page) (d1 := .bool v9.dir.isLeaf) (d2 := .slice p1 (cntT v9.dir) q1) (d3 := .slice p2 l2 q2) (d4 := .slice p3 l3 q3) htab (by rw [hl9]; simp) (by rw [hl9]; intro b hb; simp at hb; subst hb; simp [hE9])
    rw [hnx] at CN
    have hpos : posK [97] (v9.l.map (·.name)) = 0 := by
      rw [hl9]
      exact posK_eq (by simp) (fun j hj => by omega) (fun _ => by simp [klt_irrefl])
    have hlen1 : v9.l.length ≤ 1000 := by rw [hl9]; simp
    have hsort : (v9.l.map (·.name)).Pairwise (fun a b => a < b) := by rw [hl9]; simp
    have hb0 : v9.l[0]? = some ⟨[97], M, T⟩ := by rw [hl9]; rfl
    have hposR : (entsT M T).drop (posK (keyB 0) (keysOf (entsT M T))) = [(keyB 0, (⟨RB, []⟩ : Tv))] := by
      rw [hE9]
      rw [show posK (keyB 0) (keysOf [(keyB 0, (⟨RB, []⟩ : Tv))]) = 0 from posK_eq (by simp) (fun j hj => by omega) (fun _ => by simp [keysOf, klt_irrefl])]
      rfl
    have CL := fun (Wk : World) (hk : Below wc.heap.size wc Wk) => rlist_of (w := Wk) (d0 := .int .i64 v9.dir.page) (d1 := .bool v9.dir.isLeaf) (d2 := .slice p1 (cntT v9.dir) q1) (d3 := .slice p2 l2 q2) (d4 := .slice p3 l3 q3) (a := p4) (n := v9.l.length) (c := q4) (R := [(keyB 0, (⟨RB, []⟩ : Tv))]) 0 9 (by decide) (fun W hW => (scan_any (F := fun x => x < wc.heap.size) (fun x hx => Nat.lt_of_lt_of_le hx (below_via hk hW).size) (hvo.below (below_via hk hW)) hlen1 hsort [97] hpos hb0 rfl hwT (show M ≤ 200 by omega) (keyB 0) 9 hposR (by simp)).mono fun e w' h => ScanTo.some h) (by simp) (by intro x hx; simp at hx; subst hx; simp; omega)
    have hdat : datas [(keyB 0, (⟨RB, []⟩ : Tv))] = [RB] := rfl
    have herr : errL [RB] = 0 := errL_all (by intro d hd; simp at hd; subst hd; exact HE0.out)
    have hrec : recL [RB] = [exRc] := by unfold recL; rw [if_pos herr]; simp [HR0.out]
    rw [hdat] at CL
    have HERR := Lib.hid herr
    have HREC := Lib.hid hrec
    have HX9 := Lib.hid (HX8.out.step hb9)
    have HB9 := Lib.hid (below_via HB8.out hb9)
    have c0 := hvb.2.1.cell 0 0 rfl rfl
    have c1 := hvb.2.1.cell 0 1 rfl rfl
    have c2 := hvb.2.1.cell 0 2 rfl rfl
    have c3 := hvb.2.1.cell 0 3 rfl rfl
    have c4 := hvb.2.1.cell 0 4 rfl rfl
    have c5 := hvb.2.1.cell 0 5 rfl rfl
    have HVB := Lib.hid hvb.2.1
    generalize v9.l.length = n9 at *
    generalize v9.dir.page = pg9 at *
    generalize v9.dir.isLeaf = lf9 at *
    generalize cntT v9.dir = cn9 at *
    clear hvb hvo htab hnx hpos hlen1 hsort hb0 hposR hdat herr hrec hl9 hE9 hwT hlv9 hM9 hb9 CV CP t0 t1 t2 t3 t4 t5 r0 r1 r2 r3 r4 r5 hB0 hv8 hlv7 hwh7 hl7 CK
    go_wp2_with fail
    refine CN.mono ?_
    rintro e w10 ⟨rfl, hb10⟩
    clear CN c0 c1 c2 c3 c4 c5
    have hS1 : (Option.some 1).getD 0 = 1 := rfl
    dsimp only [Option.getD_some, Option.isSome_some]
    go_wp2_with fail
    refine (vempty_any w10 (fun _ => False)).mono ?_
    rintro e w11 ⟨e1, f1, e2, f2, e3, f3, rfl, hn11, hb11⟩
    have CN2 := rnext_any (F := fun _ => False) (w := w11) (v := ⟨1, .leaf 0 [], []⟩) (d0 := .int .i64 0) (d1 := .bool true) (d2 := .slice e1 0 f1) (d3 := .slice e2 0 f2) (d4 := .slice e3 0 f3) (a := none) (c := 0) ⟨rfl, Nat.le_refl _, by unfold maxLen; omega, fun _ => rfl, .inl rfl⟩ (by simp) (by simp)
    clear hn11
    go_wp2_with fail
    refine CN2.mono ?_
    rintro e w12 ⟨rfl, hb12⟩
    have hb12' := below_via hb10 (below_via hb11 hb12)
    have hv12 := HVB.out.step hb12'
    have c0 := hv12.cell 0 0 rfl rfl
    have c1 := hv12.cell 0 1 rfl rfl
    have c2 := hv12.cell 0 2 rfl rfl
    have c3 := hv12.cell 0 3 rfl rfl
    have c4 := hv12.cell 0 4 rfl rfl
    have c5 := hv12.cell 0 5 rfl rfl
    have CL := CL w12 hb12'
    clear CN2 hb10 hb11 hb12 hv12
    dsimp only [nextF, Option.getD_none, Option.isSome_none]
    go_wp2_with fail
    refine CL.mono ?_
    rintro e w13 ⟨a13, c13, he13, ho13, hb13⟩
    rw [HREC.out] at he13 ho13
    rw [HERR.out] at he13
    subst he13
    have hrcC : rcC exRc = [.int .i64 2, .int .i64 1, .int .i64 0, .string ⟨#[98]⟩, .string ⟨#[107]⟩, .int .u32 (dg : Int)] := congrArg (fun v => match v with | .agg a => a.toList | _ => []) HRV.out
    obtain ⟨a', c', e13, hraw⟩ := Raw.of_own (L := [rCell exRc]) ho13 rfl
    cases e13
    obtain ⟨gb, off, y, cs9, rfl, hgb, hy, _, hcs, hcell⟩ := TabR.at hraw (k := 0) (by decide)
    have hy' : rCell exRc = y := by simpa using hy
    subst hy'
    have hcs' : cs9 = [.int .i64 2, .int .i64 1, .int .i64 0, .string ⟨#[98]⟩, .string ⟨#[107]⟩, .int .u32 (dg : Int)] := by rw [← hrcC]; exact hcs.symm ▸ rfl
    subst hcs'
    simp only [Nat.zero_mul, Nat.add_zero] at hcell
    have hx13 := HX9.out.step (below_via hb12' hb13)
    have l0 : ∀ W, Below w13.heap.size w13 W → W.cell? ⟨gb, off, none⟩ = some (.int .i64 2) := fun W hW => (hW.cell (p := ⟨gb, off, none⟩) hgb).trans (hcell 0 _ rfl)
    have l1 : ∀ W, Below w13.heap.size w13 W → W.cell? ⟨gb, off + 1, none⟩ = some (.int .i64 1) := fun W hW => (hW.cell (p := ⟨gb, off + 1, none⟩) hgb).trans (hcell 1 _ rfl)
    have l2' : ∀ W, Below w13.heap.size w13 W → W.cell? ⟨gb, off + 2, none⟩ = some (.int .i64 0) := fun W hW => (hW.cell (p := ⟨gb, off + 2, none⟩) hgb).trans (hcell 2 _ rfl)
    have l3' : ∀ W, Below w13.heap.size w13 W → W.cell? ⟨gb, off + 3, none⟩ = some (.string ⟨#[98]⟩) := fun W hW => (hW.cell (p := ⟨gb, off + 3, none⟩) hgb).trans (hcell 3 _ rfl)
    have l4 : ∀ W, Below w13.heap.size w13 W → W.cell? ⟨gb, off + 4, none⟩ = some (.string ⟨#[107]⟩) := fun W hW => (hW.cell (p := ⟨gb, off + 4, none⟩) hgb).trans (hcell 4 _ rfl)
    have l5 : ∀ W, Below w13.heap.size w13 W → W.cell? ⟨gb, off + 5, none⟩ = some (.int .u32 (dg : Int)) := fun W hW => (hW.cell (p := ⟨gb, off + 5, none⟩) hgb).trans (hcell 5 _ rfl)
    have r0 : ∀ W, Below w13.heap.size w13 W → W.cell? ⟨w1.heap.size, 0, none⟩ = some (.int .i64 2) := fun W hW => (hx13.step hW).cell 2 0 rfl rfl
    have r1 : ∀ W, Below w13.heap.size w13 W → W.cell? ⟨w1.heap.size, 1, none⟩ = some (.int .i64 1) := fun W hW => (hx13.step hW).cell 2 1 rfl rfl
    have r2 : ∀ W, Below w13.heap.size w13 W → W.cell? ⟨w1.heap.size, 2, none⟩ = some (.int .i64 0) := fun W hW => (hx13.step hW).cell 2 2 rfl rfl
    have r3 : ∀ W, Below w13.heap.size w13 W → W.cell? ⟨w1.heap.size, 3, none⟩ = some (.string ⟨#[98]⟩) := fun W hW => (hx13.step hW).cell 2 3 rfl rfl
    have r4 : ∀ W, Below w13.heap.size w13 W → W.cell? ⟨w1.heap.size, 4, none⟩ = some (.string ⟨#[107]⟩) := fun W hW => (hx13.step hW).cell 2 4 rfl rfl
    have r5 : ∀ W, Below w13.heap.size w13 W → W.cell? ⟨w1.heap.size, 5, none⟩ = some (.int .u32 (dg : Int)) := fun W hW => (hx13.step hW).cell 2 5 rfl rfl
    have s0 : ∀ W, Below w13.heap.size w13 W → W.cell? ⟨w4.heap.size, 0, none⟩ = some (.int .i64 2) := fun W hW => (hx13.step hW).cell 1 0 rfl rfl
    have s1 : ∀ W, Below w13.heap.size w13 W → W.cell? ⟨w4.heap.size, 1, none⟩ = some (.int .i64 1) := fun W hW => (hx13.step hW).cell 1 1 rfl rfl
    have s2 : ∀ W, Below w13.heap.size w13 W → W.cell? ⟨w4.heap.size, 2, none⟩ = some (.int .i64 0) := fun W hW => (hx13.step hW).cell 1 2 rfl rfl
    have s3 : ∀ W, Below w13.heap.size w13 W → W.cell? ⟨w4.heap.size, 3, none⟩ = some (.string ⟨#[98]⟩) := fun W hW => (hx13.step hW).cell 1 3 rfl rfl
    have s4 : ∀ W, Below w13.heap.size w13 W → W.cell? ⟨w4.heap.size, 4, none⟩ = some (.string ⟨#[107]⟩) := fun W hW => (hx13.step hW).cell 1 4 rfl rfl
    have s5 : ∀ W, Below w13.heap.size w13 W → W.cell? ⟨w4.heap.size, 5, none⟩ = some (.int .u32 (dg : Int)) := fun W hW => (hx13.step hW).cell 1 5 rfl rfl
    have HBW := Lib.hid (below_via HB9.out (below_via hb12' hb13))
    have CK : ∀ W, Calls Tryz.prog 24 #[.int .i64 1] W (RetStr W [0, 0, 0, 0, 0, 0, 0, 1]) := fun W => by
      have := key_any 1 W
      rwa [key1] at this
    have CU : ∀ W, Calls Tryz.prog 28 #[.string ⟨#[120]⟩] W fun e w' => e = .returned (.string (strOf [98, 120])) ∧ W = w' := fun W => user_any [120] W (by simp)
    have hEq : ∀ W, (binOp .eql 64 (.agg #[.int .i64 2, .int .i64 1, .int .i64 0, .string ⟨#[98]⟩, .string ⟨#[107]⟩, .int .u32 (dg : Int)]) (.agg #[.int .i64 2, .int .i64 1, .int .i64 0, .string ⟨#[98]⟩, .string ⟨#[107]⟩, .int .u32 (dg : Int)])).run Tryz.prog W = .ok (.bool true) W := fun W => by
      have := rcsame exRc exRc W
      rw [HRV.out, (rcEq_iff _ _).2 rfl] at this
      exact this
    have hB0 : Below w13.heap.size w13 w13.drew := Below.dr (Below.refl _ _)
    have hst := strOf_toList
    clear hraw hcell hcs hy ho13 hx13 hb13 hb12' hrcC c0 c1 c2 c3 c4 c5 CL
    go_upto_region 8 with (fail)
    go_region_held3 (fun W => Below w13.heap.size w13 W) (first | with_reducible assumption | (repeat (with_reducible first | assumption | exact Below.refl _ _ | apply Below.al | apply Below.dr))) (first | (go_at_call 24; (with_reducible refine (CK _).mono ?_); rintro e w14 ⟨rfl, hb14⟩; have hB14 : Below w13.heap.size w13 w14 := below_via (by (repeat (with_reducible first | assumption | exact Below.refl _ _ | apply Below.al | apply Below.dr))) hb14) | (go_at_call 28; (with_reducible refine (CU _).mono ?_); rintro e w15 ⟨rfl, rfl⟩))
    go_wp2_with fail
    go_ret
    exact ⟨rfl, below_via HBW.out hB14⟩
end Go.Proofs.YtpghlmcoajaiiaaGreatDoor

/- jalousieref21: views as the reference has them; keys, find, Empty. -/
namespace Go.Proofs.YtpghlmcoajaiiaaGreatDoor
open Go.RowKit

/-- A bucket's words, as the reference has it. -/
def RBkOn (F : Nat → Prop) (w : World) (cs : List Value) (b : Bkt) : Prop := ∃ ts, cs = .string (strOf b.name) :: ts ∧ RNodeOn F b.lv w ts b.tree
theorem RNodeOn.three {F : Nat → Prop} {n : Nat} {w : World} {cs : List Value} {t : Tr} (h : RNodeOn F n w cs t) : ∃ a c, cs = [.int .i64 t.page, .bool t.isLeaf, .slice a (cntT t) c] := by
  cases n with
  | zero => exact h.elim
  | succ n => obtain ⟨a, c, e, _⟩ := h.at; exact ⟨a, c, e⟩
theorem RBkOn.agree {F : Nat → Prop} {w w' : World} {cs : List Value} {b : Bkt} (h : RBkOn F w cs b) (ha : AgreeF F w w') : RBkOn F w' cs b := by
  obtain ⟨ts, e, h⟩ := h
  exact ⟨ts, e, h.agree ha⟩
theorem RBkOn.mono {F G : Nat → Prop} {w : World} {cs : List Value} {b : Bkt} (h : RBkOn F w cs b) (hg : ∀ x, F x → G x) : RBkOn G w cs b := by
  obtain ⟨ts, e, h⟩ := h
  exact ⟨ts, e, RNodeOn.mono hg h⟩
theorem RBkOn.one {F : Nat → Prop} {w : World} : ∀ cs (y : Bkt), RBkOn F w cs y → ∀ u ∈ cs, u.oneCell' = true := by
  rintro cs y ⟨ts, rfl, h⟩ u hu
  obtain ⟨a, c, rfl⟩ := h.three
  simp at hu
  rcases hu with rfl | rfl | rfl | rfl <;> rfl
theorem RBkOn.lt {F : Nat → Prop} {w : World} {cs : List Value} {b : Bkt} (h : RBkOn F w cs b) : RBkOn (fun x => F x ∧ x < w.heap.size) w cs b := by
  obtain ⟨ts, e, h⟩ := h
  exact ⟨ts, e, h.lt⟩
/-- A view's words, as the reference has it. -/
def RViewOn (F : Nat → Prop) (w : World) (cs : List Value) (v : Vw) : Prop :=
  ∃ ds a c, cs = ds ++ [.slice a v.l.length c] ∧ RNodeOn F v.lv w ds v.dir ∧ TabR 4 (RBkOn F w) w a v.l.length c v.l ∧ Fa F a v.l.length
theorem RViewOn.agree {F : Nat → Prop} {w w' : World} {cs : List Value} {v : Vw} (h : RViewOn F w cs v) (ha : AgreeF F w w') : RViewOn F w' cs v := by
  obtain ⟨ds, a, c, e, h1, h2, h3⟩ := h
  exact ⟨ds, a, c, e, h1.agree ha, TabR.agree h2 h3 ha (fun cs y _ h => h.agree ha), h3⟩
theorem RViewOn.below {F : Nat → Prop} {w w' : World} {cs : List Value} {v : Vw} (h : RViewOn F w cs v) (hb : Below w.heap.size w w') : RViewOn F w' cs v := h.agree (.of_below hb)
theorem RViewOn.mono {F G : Nat → Prop} {w : World} {cs : List Value} {v : Vw} (h : RViewOn F w cs v) (hg : ∀ x, F x → G x) : RViewOn G w cs v := by
  obtain ⟨ds, a, c, e, h1, h2, h3⟩ := h
  exact ⟨ds, a, c, e, RNodeOn.mono hg h1, TabR.mono h2 (fun cs y h => h.mono hg), h3.mono hg⟩
theorem RViewOn.lt {F : Nat → Prop} {w : World} {cs : List Value} {v : Vw} (h : RViewOn F w cs v) : RViewOn (fun x => F x ∧ x < w.heap.size) w cs v := by
  obtain ⟨ds, a, c, e, h1, h2, h3⟩ := h
  exact ⟨ds, a, c, e, h1.lt, TabR.mono h2 (fun cs y h => h.lt), h3.and (TabR.block h2)⟩
theorem RViewOn.raw {F : Nat → Prop} {w : World} {cs : List Value} {v : Vw} (h : RViewOn F w cs v) :
    ∃ a1 c1 a c, cs = [.int .i64 v.dir.page, .bool v.dir.isLeaf, .slice a1 (cntT v.dir) c1, .slice a v.l.length c] ∧ RNodeOn F v.lv w [.int .i64 v.dir.page, .bool v.dir.isLeaf, .slice a1 (cntT v.dir) c1] v.dir ∧ TabR 4 (RBkOn F w) w a v.l.length c v.l ∧ Fa F a v.l.length := by
  obtain ⟨ds, a, c, e, h1, h2, h3⟩ := h
  obtain ⟨a1, c1, e1⟩ := h1.three
  subst e1
  exact ⟨_, _, a, c, e, h1, h2, h3⟩
/-- The same, with levels that fit. -/
theorem RViewOn.less {F : Nat → Prop} {w : World} {cs : List Value} {v v' : Vw} (h : RViewOn F w cs v) (hd : v'.dir = v.dir) (hw : Whole v'.lv v'.dir) (hl : v'.l.length = v.l.length) (hb : ∀ (i : Nat) (x y : Bkt), v.l[i]? = some x → v'.l[i]? = some y → y.name = x.name ∧ y.tree = x.tree ∧ Whole y.lv y.tree) : RViewOn F w cs v' := by
  obtain ⟨ds, a, c, e, h1, ⟨g1, g2, g3, g4, g5⟩, h3⟩ := h
  refine ⟨ds, a, c, by rw [hl]; exact e, by rw [hd] at hw ⊢; exact h1.less hw.1.1, ⟨rfl, by rw [hl]; exact g2, g3, g4, ?_⟩, by rw [hl]; exact h3⟩
  rw [hl]
  refine g5.imp id ?_
  rintro ⟨b, off, e1, e2, e3⟩
  refine ⟨b, off, e1, e2, fun i y hy => ?_⟩
  have hi := (List.getElem?_eq_some_iff.1 hy).1
  have hx : v.l[i]? = some (v.l[i]'(by omega)) := List.getElem?_eq_getElem (by omega)
  obtain ⟨b1, b2, b3⟩ := hb i _ y hx hy
  obtain ⟨cs9, k1, ⟨ts, k2, k3⟩, k4⟩ := e3 i _ hx
  refine ⟨cs9, k1, ⟨ts, by rw [b1]; exact k2, ?_⟩, k4⟩
  rw [b2] at b3 ⊢
  exact k3.less b3.1.1
set_option maxRecDepth 100000 in
theorem rkey21 (l : List UInt8) (w : World) : Calls Tryz.prog 77 #[.string (strOf l)] w fun e w' => e = .returned (.bool (keyB1 l)) ∧ w = w' := by
  have hs := strOf_size l
  by_cases h0 : l = []
  · obtain ⟨e1, e2⟩ := str_empty h0
    have HK : Hid (keyB1 l = false) := Lib.hid (by unfold keyB1; simp [h0])
    clear h0
    go_enter Tryz.func77, Tryz.ntmps77
    go_wp2_with fail
    go_ret
    exact ⟨by rw [HK.out]; rfl, rfl⟩
  · obtain ⟨e1, e2⟩ := str_some h0
    obtain ⟨n, hn⟩ : ∃ n, l.length = n := ⟨_, rfl⟩
    have HK : Hid (keyB1 l = decide ((n : Int) ≤ 16)) := Lib.hid (by
      unfold keyB1
      rw [hn, decide_eq_true h0, Bool.true_and]
      by_cases h : n ≤ 16
      · rw [decide_eq_true h, decide_eq_true (by omega)]
      · rw [decide_eq_false h, decide_eq_false (by omega)])
    rw [hn] at hs
    clear h0 hn
    go_enter Tryz.func77, Tryz.ntmps77
    go_wp2_with fail
    go_ret
    exact ⟨by rw [HK.out]; rfl, rfl⟩
/-- Where the first of a name is, from a place on. -/
def findR (name : List UInt8) : List Bkt → Nat → Int
  | [], _ => -1
  | b :: r, i => if b.name = name then (i : Int) else findR name r (i + 1)
theorem findR_drop {name : List UInt8} {l : List Bkt} {i : Nat} {b : Bkt} (h : l[i]? = some b) : findR name (l.drop i) i = if b.name = name then (i : Int) else findR name (l.drop (i + 1)) (i + 1) := by
  obtain ⟨h1, h2⟩ := List.getElem?_eq_some_iff.1 h
  rw [List.drop_eq_getElem_cons h1, h2]
  rfl
set_option maxRecDepth 100000 in
set_option maxHeartbeats 4000000 in
set_option maxRecDepth 100000 in
theorem rfind21 {F : Nat → Prop} {w : World} {v : Vw} {d0 d1 d2 : Value} {a : Option Addr} {c : Nat} (hl : TabR 4 (RBkOn F w) w a v.l.length c v.l) (hn : v.l.length ≤ 1000) (name : List UInt8) :
    Calls Tryz.prog 78 #[.agg #[d0, d1, d2, .slice a v.l.length c], .string (strOf name)] w fun e w' => e = .returned (.int .i64 (findR name v.l 0)) ∧ Below w.heap.size w w' := by
  obtain ⟨m, hm⟩ : ∃ z, v.l.length = z := ⟨_, rfl⟩
  rw [hm] at hl hn ⊢
  obtain ⟨W1, hW1⟩ : ∃ x, w.alloc (.cells #[d0, d1, d2, .slice a m c] 79) = x := ⟨_, rfl⟩
  have hx1 : Boxes W1 [(w.heap.size, [d0, d1, d2, .slice a m c])] := by
    rw [← hW1]
    exact (Boxes.nil w).alloc #[d0, d1, d2, .slice a m c] 79 (b := w.heap.size) rfl
  have hb1 : Below w.heap.size w W1 := by rw [← hW1]; exact Below.al (Below.refl _ _)
  have g3 := hx1.cell 0 3 rfl rfl
  obtain ⟨R, hR⟩ : ∃ z, findR name v.l 0 = z := ⟨_, rfl⟩
  rw [hR]
  have HL := Lib.hid hl
  have HM := Lib.hid hm
  have HR : Hid (findR name (v.l.drop 0) 0 = R) := Lib.hid hR
  have HB1 := Lib.hid hb1
  obtain ⟨_, e2, e3⟩ := hl.lens
  clear hl hx1 hR hb1 hm
  go_enter Tryz.func78, Tryz.ntmps78
  go_wp2_with fail
  go_loopw [5] (fun s wr => ∃ i : Nat, i ≤ m ∧ s = .int .i64 i ∧ Hid (findR name (v.l.drop i) i = R) ∧ wr = W1) (fun s _ => m - (intOf s).toNat)
  case atStart => exact ⟨0, Nat.zero_le _, rfl, HR, rfl⟩
  case round =>
    obtain ⟨i, hi, rfl, hr, rfl⟩ := hrel
    by_cases hlt : i < m
    · obtain ⟨b, off, y, cs, rfl, hbb, hy, _, ⟨ts, rfl, hn9⟩, hcell⟩ := TabR.at HL.out hlt
      have d0' : decide ((i : Int) < (m : Int)) = true := by simp; omega
      have c0 := (HB1.out.cell (p := ⟨b, off + i * 4, none⟩) hbb).trans (by simpa using hcell 0 _ rfl)
      have hd := findR_drop (name := name) hy
      rw [hr.out] at hd
      by_cases hq : y.name = name
      · have dq := eq_walk (decide_eq_true hq)
        rw [if_pos hq] at hd
        subst hd
        clear hr hcell hq hy
        go_wp2_with fail
        go_ret
        exact ⟨rfl, HB1.out⟩
      · have dq := eq_walk (decide_eq_false hq)
        rw [if_neg hq] at hd
        have HD := Lib.hid hd.symm
        clear hr hcell hq hy hd
        go_wp2_with fail
        go_roundw
        case rel => exact ⟨i + 1, by omega, by go_num, HD, trivial⟩
        case measure => simp [intOf]; omega
    · obtain rfl : i = m := by omega
      have d0' : decide ((i : Int) < (i : Int)) = false := by simp
      have hR : R = -1 := by rw [← hr.out, List.drop_of_length_le (by rw [HM.out]; exact Nat.le_refl _)]; rfl
      subst hR
      clear hr
      go_wp2_with fail
      go_ret
      exact ⟨rfl, HB1.out⟩
set_option maxRecDepth 100000 in
set_option maxHeartbeats 1000000 in
set_option maxRecDepth 100000 in
theorem rempty21 (w : World) : Calls Tryz.prog 31 #[] w fun e w' => ∃ a1 c1, e = .returned (.agg #[.int .i64 0, .bool true, .slice a1 0 c1, .slice none 0 0]) ∧ RViewOn (fun _ => False) w' [.int .i64 0, .bool true, .slice a1 0 c1, .slice none 0 0] ⟨1, .leaf 0 [], []⟩ ∧ Below w.heap.size w w' := by
  obtain ⟨W1, hW1⟩ : ∃ x, w.alloc (.cells #[.int .i64 0, .bool false, .slice none 0 0, .slice none 0 0] 79) = x := ⟨_, rfl⟩
  have hx1 : Boxes W1 [(w.heap.size, [.int .i64 0, .bool false, .slice none 0 0, .slice none 0 0])] := by
    rw [← hW1]
    exact (Boxes.nil w).alloc #[.int .i64 0, .bool false, .slice none 0 0, .slice none 0 0] 79 (b := w.heap.size) rfl
  have hb1 : Below w.heap.size w W1 := by rw [← hW1]; exact Below.al (Below.refl _ _)
  have C := rempty_any W1 (fun _ => False)
  go_enter Tryz.func31, Tryz.ntmps31
  go_wp2_with fail
  refine C.mono ?_
  rintro e w2 ⟨cs, rfl, hn, hb2⟩
  obtain ⟨a1, c1, ecs⟩ := hn.three
  subst ecs
  have hn0 : RNodeOn (fun _ => False) 1 w2 [.int .i64 0, .bool true, .slice a1 0 c1] (.leaf 0 []) := by
    obtain ⟨a', c', e', g1, _⟩ := hn.at
    cases e'
    exact RNodeOn.mk (t := .leaf 0 []) (unit_any g1) (Fa.zero _ _)
  have hx2 := hx1.step hb2
  have g0 := hx2.cell 0 0 rfl rfl
  have y0 := hx2.frozen 0 0 rfl
  have g1 := hx2.cell 0 1 rfl rfl
  have y1 := hx2.frozen 0 1 rfl
  have g2 := hx2.cell 0 2 rfl rfl
  have y2 := hx2.frozen 0 2 rfl
  have g3 := hx2.cell 0 3 rfl rfl
  have y3 := hx2.frozen 0 3 rfl
  have HB := Lib.hid (below_via hb1 hb2)
  have HN := Lib.hid hn0
  have hcn : cntT (.leaf 0 []) = 0 := rfl
  have hpg : (Tr.leaf 0 []).page = 0 := rfl
  have hlf : (Tr.leaf 0 []).isLeaf = true := rfl
  rw [hcn, hpg, hlf]
  clear hx1 hx2 hb1 hb2 hn hn0 C hW1 hcn hpg hlf
  go_wp2_with fail
  refine bodyPost_ret (v := .agg #[.int .i64 0, .bool true, .slice a1 0 c1, .slice none 0 0]) (by simp [results, Tryz.results31, go_sem, g0, g1, g2, g3]) rfl ⟨a1, c1, rfl, ?_, ?_⟩
  · exact ⟨[.int .i64 0, .bool true, .slice a1 0 c1], none, 0, rfl, HN.out.agree ⟨by simp [World.setCell], fun _ h => h.elim⟩, ⟨rfl, Nat.le_refl _, by unfold maxLen; omega, fun _ => rfl, .inl rfl⟩, Fa.zero _ _⟩
  · exact ((((HB.out.setCell (Nat.le_refl _) _).setCell (Nat.le_refl _) _).setCell (Nat.le_refl _) _).setCell (Nat.le_refl _) _)
end Go.Proofs.YtpghlmcoajaiiaaGreatDoor

/- jalousieref21: with. -/
namespace Go.Proofs.YtpghlmcoajaiiaaGreatDoor
open Go.RowKit

theorem set_last3 {β : Type} {p s : List β} {n : Nat} (hp : p.length = n) (x0 a0 a1 a2 b0 b1 b2 : β) :
    (((p ++ ([x0, a0, a1, a2] ++ s)).set (n + 1) b0).set (n + 2) b1).set (n + 3) b2 = p ++ ([x0, b0, b1, b2] ++ s) := by
  subst hp
  simp
/-- The last three cells of a record of four written over. -/
theorem own_set4 {w : World} {B g n c : Nat} {e : TypeId} {C : List (Cl 4)} (h : w.ownsRow B e 4 (.slice (some ⟨g, 0, none⟩) n c) n (flatC C)) (hn : C.length = n) {k : Nat} (hk : k < n) {x : Cl 4} (hx : C[k]? = some x) {x0 : Value} {xs : List Value} (hxe : x.1 = x0 :: xs) (y : Cl 4) {y0 y1 y2 : Value} (hy : y.1 = [x0, y0, y1, y2]) :
    (((w.setCell ⟨g, k * 4 + 1, none⟩ y0).setCell ⟨g, k * 4 + 2, none⟩ y1).setCell ⟨g, k * 4 + 3, none⟩ y2).ownsRow B e 4 (.slice (some ⟨g, 0, none⟩) n c) n (flatC (C.set k y)) := by
  obtain ⟨p, s, hp, h1, h2⟩ := flat_parts (fun y : Cl 4 => y.1) 4 (fun y => y.2.1) hx
  have hk3 : k * 4 + 3 < n * 4 := by omega
  obtain ⟨z0, z1, z2, hze⟩ : ∃ z0 z1 z2, x.1 = [x0, z0, z1, z2] := by
    have := x.2.1
    rw [hxe] at this ⊢
    match xs, this with
    | [x1, x2, x3], _ => exact ⟨x1, x2, x3, rfl⟩
  have g0 := own_put h (k * 4 + 1) y0 (by omega)
  have g1 := own_put g0 (k * 4 + 2) y1 (by omega)
  have g2 := own_put g1 (k * 4 + 3) y2 (by omega)
  unfold flatC at g2 ⊢
  rw [h2 y, hy]
  rw [h1, hze, set_last3 hp] at g2
  exact g2
theorem own_four {w : World} {B g n c : Nat} {e : TypeId} {xs : List Value} (h : w.ownsRow B e 4 (.slice (some ⟨g, 0, none⟩) n c) n xs) (hc : n ≤ c) {k : Nat} (hk : k < n) :
    ∃ y0 y1 y2, w.cell? ⟨g, k * 4 + 1, none⟩ = some y0 ∧ w.cell? ⟨g, k * 4 + 2, none⟩ = some y1 ∧ w.cell? ⟨g, k * 4 + 3, none⟩ = some y2 := by
  have := Nat.mul_le_mul_right 4 (show k + 1 ≤ c by omega)
  obtain ⟨y0, h0⟩ := Option.isSome_iff_exists.1 (own_room6 h (j := k * 4 + 1) (by omega))
  obtain ⟨y1, h1⟩ := Option.isSome_iff_exists.1 (own_room6 h (j := k * 4 + 2) (by omega))
  obtain ⟨y2, h2⟩ := Option.isSome_iff_exists.1 (own_room6 h (j := k * 4 + 3) (by omega))
  exact ⟨y0, y1, y2, h0, h1, h2⟩
theorem info_rbk : RowInfo Tryz.prog 178 4 56 := row_info (by kernel_rfl)
set_option maxRecDepth 100000 in
set_option maxHeartbeats 4000000 in
set_option maxRecDepth 100000 in
theorem rwith21 {F : Nat → Prop} {w : World} {cs : List Value} {v : Vw} (hF : ∀ b, F b → b < w.heap.size) (h : RViewOn F w cs v) (hw : Whole v.lv v.dir) (hn : v.l.length ≤ 1000) {p : Nat} {bk : Bkt} (hbk : v.l[p]? = some bk) (hk : keyOk bk.name) {N : Nat} {ns : List Value} {T : Tr} (ht : RNodeOn F N w ns T) :
    Calls Tryz.prog 81 #[.agg cs.toArray, .int .i64 (p : Int), .agg ns.toArray] w fun e w' => ∃ cs', e = .returned (.agg cs'.toArray) ∧ RViewOn (Fr F w) w' cs' ⟨v.lv + 1, putW v.lv v.dir bk.name ⟨[0, 0], []⟩, v.l.set p ⟨bk.name, N, T⟩⟩ ∧ Below w.heap.size w w' := by
  obtain ⟨a1, c1, a, c, rfl, hd, hl, hfa⟩ := h.raw
  obtain ⟨a2, c2, ens⟩ := ht.three
  subst ens
  obtain ⟨pg, hpg⟩ : ∃ z, v.dir.page = z := ⟨_, rfl⟩
  obtain ⟨lf, hlf⟩ : ∃ z, v.dir.isLeaf = z := ⟨_, rfl⟩
  obtain ⟨cn, hcn⟩ : ∃ z, cntT v.dir = z := ⟨_, rfl⟩
  obtain ⟨m, hm⟩ : ∃ z, v.l.length = z := ⟨_, rfl⟩
  obtain ⟨tp, htp⟩ : ∃ z, T.page = z := ⟨_, rfl⟩
  obtain ⟨tf, htf⟩ : ∃ z, T.isLeaf = z := ⟨_, rfl⟩
  obtain ⟨tc, htc⟩ : ∃ z, cntT T = z := ⟨_, rfl⟩
  rw [hm] at hn hl hfa
  rw [hpg, hlf, hcn] at hd
  rw [htp, htf, htc] at ht ⊢
  rw [hpg, hlf, hcn, hm]
  have hpm : p < m := by rw [← hm]; exact (List.getElem?_eq_some_iff.1 hbk).1
  obtain ⟨W1, hW1⟩ : ∃ x, w.alloc (.cells #[.int .i64 pg, .bool lf, .slice a1 cn c1, .slice a m c] 79) = x := ⟨_, rfl⟩
  obtain ⟨W2, hW2⟩ : ∃ x, W1.alloc (.cells #[.int .i64 tp, .bool tf, .slice a2 tc c2] 27) = x := ⟨_, rfl⟩
  obtain ⟨W3, hW3⟩ : ∃ x, W2.alloc (.cells #[.int .i64 0, .bool false, .slice none 0 0, .slice none 0 0] 79) = x := ⟨_, rfl⟩
  have hs1 : W1.heap.size = w.heap.size + 1 := by rw [← hW1, World.size_alloc]
  have hs2 : W2.heap.size = w.heap.size + 2 := by rw [← hW2, World.size_alloc, hs1]
  have hs3 : W3.heap.size = w.heap.size + 3 := by rw [← hW3, World.size_alloc, hs2]
  have hb3 : Below w.heap.size w W3 := by rw [← hW3, ← hW2, ← hW1]; exact Below.al (Below.al (Below.al (Below.refl _ _)))
  have hx3 : Boxes W3 [(w.heap.size + 2, [.int .i64 0, .bool false, .slice none 0 0, .slice none 0 0]), (w.heap.size + 1, [.int .i64 tp, .bool tf, .slice a2 tc c2]), (w.heap.size, [.int .i64 pg, .bool lf, .slice a1 cn c1, .slice a m c])] := by
    rw [← hW3, ← hs2]
    refine Boxes.alloc ?_ #[.int .i64 0, .bool false, .slice none 0 0, .slice none 0 0] 79 rfl
    rw [← hW2, ← hs1]
    refine Boxes.alloc ?_ #[.int .i64 tp, .bool tf, .slice a2 tc c2] 27 rfl
    rw [← hW1]
    exact (Boxes.nil w).alloc #[.int .i64 pg, .bool lf, .slice a1 cn c1, .slice a m c] 79 (b := w.heap.size) rfl
  have hl3 := TabR.move hl hb3 (fun cs y _ h => h.agree (.of_below hb3))
  obtain ⟨L, hraw, htl⟩ := TabR.raw hl3 RBkOn.one
  have hLm : L.length = m := hraw.1
  obtain ⟨i0, z0, hi, hz0, hz1, hz2, hz3⟩ := info_rbk
  obtain ⟨v', w4, hr4, ho4, hg4, _⟩ := run_append_raw (P := Tryz.prog) W3.heap.size 77 178 i0 z0 4 56 Tryz.underlying77 hi hz0 hz1 hz2 hz3 (by decide) (L := []) (World.ownsRow_nil W3 W3.heap.size 178 4) hraw (by unfold maxLen; omega) (by omega) (Nat.le_refl _)
  have hb34 : Below W3.heap.size W3 w4 := (Below.refl _ _).grown hg4 (Nat.le_refl _) (fun k e => by cases e)
  have ho4' : w4.ownsRow W3.heap.size 178 4 v' m (flatC L) := by simpa using ho4
  obtain ⟨a6, c6, rfl, hmc, hc9, hga⟩ := own_slice ho4'
  obtain ⟨g, rfl⟩ := hga (by omega)
  unfold maxLen at hc9
  obtain ⟨j0, j1, j2, y0, y1, y2⟩ := own_four ho4' hmc hpm
  have r0 := ho4'.frozenAt (p * 4 + 1)
  have r1 := ho4'.frozenAt (p * 4 + 2)
  have r2 := ho4'.frozenAt (p * 4 + 3)
  have hx4 := hx3.step hb34
  have n0 := hx4.cell 1 0 rfl rfl
  have n1 := hx4.cell 1 1 rfl rfl
  have n2 := hx4.cell 1 2 rfl rfl
  have q3 := hx3.cell 2 3 rfl rfl
  have hg3 : W3.heap.size ≤ g := own_ge ho4' g rfl
  obtain ⟨xL, hxL⟩ : ∃ x, L[p]? = some x := ⟨_, List.getElem?_eq_getElem (by omega)⟩
  obtain ⟨ts9, hts9, _⟩ := htl.2 p xL bk hxL hbk
  obtain ⟨nC, hnC⟩ : ∃ y : Cl 4, y.1 = [.string (strOf bk.name), .int .i64 tp, .bool tf, .slice a2 tc c2] := ⟨⟨[.string (strOf bk.name), .int .i64 tp, .bool tf, .slice a2 tc c2], rfl, by intro u hu; simp at hu; rcases hu with rfl | rfl | rfl | rfl <;> rfl⟩, rfl⟩
  have ho7 := own_set4 ho4' hLm hpm hxL hts9 nC hnC
  obtain ⟨w7, hw7⟩ : ∃ x, x = ((w4.setCell ⟨g, p * 4 + 1, none⟩ (.int .i64 tp)).setCell ⟨g, p * 4 + 2, none⟩ (.bool tf)).setCell ⟨g, p * 4 + 3, none⟩ (.slice a2 tc c2) := ⟨_, rfl⟩
  rw [← hw7] at ho7
  have hb37 : Below W3.heap.size W3 w7 := by
    rw [hw7]
    exact ((hb34.setCell (p := ⟨g, p * 4 + 1, none⟩) hg3 _).setCell (p := ⟨g, p * 4 + 2, none⟩) hg3 _).setCell (p := ⟨g, p * 4 + 3, none⟩) hg3 _
  have HX7 := Lib.hid (hx3.step hb37)
  have HO7 := Lib.hid ho7
  have HB37 := Lib.hid hb37
  have HTL := Lib.hid htl
  have HNC := Lib.hid hnC
  have HXL := Lib.hid hxL
  have HG := Lib.hid hg3
  have HD := Lib.hid hd
  have HT := Lib.hid ht
  have HB3 := Lib.hid hb3
  have HBK := Lib.hid hbk
  have HTP := Lib.hid (And.intro htp (And.intro htf htc))
  have HM := Lib.hid hm
  have d0 : decide ((p : Int) < (m : Int)) = true := by simp; omega
  have d1 : decide ((0 : Int) ≤ (p : Int)) = true := by simp
  have hcp : w7.cell? ⟨g, p * 4, none⟩ = some (.string (strOf bk.name)) := by
    obtain ⟨a9, c9, e9, hr7⟩ := Raw.of_own ho7 (by rw [List.length_set]; exact hLm)
    cases e9
    obtain ⟨gb, off, y, cs9, e8, _, hy, _, hcs, hcell⟩ := TabR.at hr7 hpm
    cases e8
    rw [List.getElem?_set_self (by omega)] at hy
    cases hy
    have := hcell 0 (.string (strOf bk.name)) (by rw [hcs, hnC]; rfl)
    simpa using this
  have HCP := Lib.hid hcp
  clear ho4 ho4' hg4 hb34 hx3 hx4 hts9 ho7 hb37 hxL hnC hg3 hl hl3 hraw htl h hd ht hi hz0 hz1 hz2 hz3 hbk hm hpg hlf hcn htp htf htc hcp
  go_enter Tryz.func81, Tryz.ntmps81
  go_wp2_with (at_builtin; refine wpList_append_run rfl _ _ _ _ rfl rfl rfl hr4 ?_)
  rw [← hw7]
  clear hw7 y0 y1 y2 r0 r1 r2 n0 n1 n2 q3 hr4
  have hbw7 : Below w.heap.size w w7 := below_via HB3.out HB37.out
  have hd7 := HD.out.below hbw7
  have CP : ∀ W, Below w7.heap.size w7 W → Calls Tryz.prog 42 #[.agg #[.int .i64 pg, .bool lf, .slice a1 cn c1], .string (strOf bk.name), .string ⟨#[0, 0]⟩] W (RNodeTo F (v.lv + 1) W (putW v.lv v.dir bk.name ⟨[0, 0], []⟩)) := fun W hW => rPut_whole (fun b hb => Nat.lt_of_lt_of_le (hF b hb) (below_via hbw7 hW).size) (hd7.below hW) hw bk.name [0, 0] hk (by simp)
  have hgr : g ≠ w.heap.size + 2 := by have := HG.out; omega
  have hlt7 := HX7.out.lt 2 rfl
  have hgl : g < w7.heap.size := (World.ownsRow.lt HO7.out g rfl).2
  have t0 : ∀ W, AgreeF (fun x => x ≠ w.heap.size + 2) w7 W → W.cell? ⟨w.heap.size, 0, none⟩ = some (.int .i64 pg) := fun W hW => (hW.cell (by omega) hlt7).trans (HX7.out.cell 2 0 rfl rfl)
  have t1 : ∀ W, AgreeF (fun x => x ≠ w.heap.size + 2) w7 W → W.cell? ⟨w.heap.size, 1, none⟩ = some (.bool lf) := fun W hW => (hW.cell (by omega) hlt7).trans (HX7.out.cell 2 1 rfl rfl)
  have t2 : ∀ W, AgreeF (fun x => x ≠ w.heap.size + 2) w7 W → W.cell? ⟨w.heap.size, 2, none⟩ = some (.slice a1 cn c1) := fun W hW => (hW.cell (by omega) hlt7).trans (HX7.out.cell 2 2 rfl rfl)
  have t3 : ∀ W, AgreeF (fun x => x ≠ w.heap.size + 2) w7 W → W.cell? ⟨g, p * 4, none⟩ = some (.string (strOf bk.name)) := fun W hW => (hW.cell hgr hgl).trans HCP.out
  have HTAB : Hid (∀ wz, AgreeF (fun x => x ≠ w.heap.size + 2) w7 wz → TabR 4 (RBkOn (Fr F w) wz) wz (some ⟨g, 0, none⟩) m c6 (v.l.set p ⟨bk.name, N, T⟩) ∧ Fa (Fr F w) (some ⟨g, 0, none⟩) m) := Lib.hid (fun wz hz => by
    have hgg := HG.out
    have h37 : AgreeF F W3 wz := (AgreeF.of_below HB37.out (F := F)).trans ⟨hz.1, fun b hb hlt => hz.2 b (by have := hF b hb; omega) hlt⟩
    have h07 : AgreeF F w wz := (AgreeF.of_below hbw7 (F := F)).trans ⟨hz.1, fun b hb hlt => hz.2 b (by have := hF b hb; omega) hlt⟩
    obtain ⟨a9, c9, e9, hr7⟩ := Raw.of_own HO7.out (by rw [List.length_set]; exact hLm)
    cases e9
    have htab : TabR 4 (RBkOn (Fr F w) wz) w7 (some ⟨g, 0, none⟩) m c6 (v.l.set p ⟨bk.name, N, T⟩) := Raw.tab hr7 (tells_set (R := RBkOn (Fr F w) wz) (by
      refine ⟨HTL.out.1, fun i x y hx hy => ?_⟩
      exact ((HTL.out.2 i x y hx hy).agree h37).mono (fun b hb => .inl hb)) ⟨_, HNC.out, RNodeOn.mono (fun b hb => .inl hb) (HT.out.agree h07)⟩)
    refine ⟨TabR.agree htab (F := fun x => x ≠ w.heap.size + 2) (.inr (fun b off e => by cases e; omega)) hz (fun cs y _ h => h), .inr (fun b off e => by cases e; exact .inr (by omega))⟩)
  have hA0 : AgreeF (fun x => x ≠ w.heap.size + 2) w7 w7.drew := AgreeF.dr (AgreeF.refl _)
  refine wp_region_noPanic ?_
  refine wp_region_held_drew (S := (fun W => AgreeF (fun x => x ≠ w.heap.size + 2) w7 W)) (by kernel_rfl) (by (repeat (with_reducible first | assumption | exact AgreeF.refl _ | apply AgreeF.al | apply AgreeF.dr | apply AgreeF.st))) (fun hHeld => ?_)
  refine wpAnyH_take (i := 0) (oi := { dst := some 17, op := Op.fieldAddr 79 (Operand.tmp 3) 0, type := 0, pos := "ref.go:47", after := #[], guard := none }) (v := ?_) rfl (by kernel_rfl) (by kernel_rfl) (by kernel_rfl) (fun _ _ _ h => h) (Or.inl ⟨by rfl, ?_⟩) (by assumption) ?_
  rotate_left
  · (intro W hW; (try dsimp only at hW); go_simp <;> (with_reducible rfl))
  try simp only [Act.put, List.setIfInBounds_toArray, List.set_cons_zero, List.set_cons_succ]
  refine wpAnyH_take (i := 1) (oi := { dst := some 18, op := Op.load 27 (Operand.tmp 17), type := 27, pos := "ref.go:47", after := #[{ on := 0, ground := Ground.data }], guard := none }) (v := ?_) rfl (by kernel_rfl) (by kernel_rfl) (by kernel_rfl) (fun _ _ _ h => h) (Or.inl ⟨by rfl, ?_⟩) (by assumption) ?_
  rotate_left
  · (intro W hW; (try dsimp only at hW); go_simp <;> (with_reducible rfl))
  try simp only [Act.put, List.setIfInBounds_toArray, List.set_cons_zero, List.set_cons_succ]
  refine wpAnyH_take (i := 2) (oi := { dst := some 19, op := Op.move (Operand.tmp 7), type := 77, pos := "ref.go:47", after := #[], guard := none }) (v := ?_) rfl (by kernel_rfl) (by kernel_rfl) (by kernel_rfl) (fun _ _ _ h => h) (Or.inl ⟨by rfl, ?_⟩) (by assumption) ?_
  rotate_left
  · (intro W hW; (try dsimp only at hW); go_simp <;> (with_reducible rfl))
  try simp only [Act.put, List.setIfInBounds_toArray, List.set_cons_zero, List.set_cons_succ]
  refine wpAnyH_take (i := 3) (oi := { dst := some 20, op := Op.move (Operand.tmp 1), type := 3, pos := "ref.go:47", after := #[], guard := none }) (v := ?_) rfl (by kernel_rfl) (by kernel_rfl) (by kernel_rfl) (fun _ _ _ h => h) (Or.inl ⟨by rfl, ?_⟩) (by assumption) ?_
  rotate_left
  · (intro W hW; (try dsimp only at hW); go_simp <;> (with_reducible rfl))
  try simp only [Act.put, List.setIfInBounds_toArray, List.set_cons_zero, List.set_cons_succ]
  refine wpAnyH_take (i := 4) (oi := { dst := some 21, op := Op.indexAddr 77 (Operand.tmp 19) (Operand.tmp 20), type := 0, pos := "ref.go:47", after := #[{ on := 2, ground := Ground.data }, { on := 3, ground := Ground.data }], guard := none }) (v := ?_) rfl (by kernel_rfl) (by kernel_rfl) (by kernel_rfl) (fun _ _ _ h => h) (Or.inl ⟨by rfl, ?_⟩) (by assumption) ?_
  rotate_left
  · (intro W hW; (try dsimp only at hW); go_simp <;> (with_reducible rfl))
  try simp only [Act.put, List.setIfInBounds_toArray, List.set_cons_zero, List.set_cons_succ]
  refine wpAnyH_take (i := 5) (oi := { dst := some 22, op := Op.fieldAddr 178 (Operand.tmp 21) 0, type := 0, pos := "ref.go:47", after := #[{ on := 4, ground := Ground.data }], guard := none }) (v := ?_) rfl (by kernel_rfl) (by kernel_rfl) (by kernel_rfl) (fun _ _ _ h => h) (Or.inl ⟨by rfl, ?_⟩) (by assumption) ?_
  rotate_left
  · (intro W hW; (try dsimp only at hW); go_simp <;> (with_reducible rfl))
  try simp only [Act.put, List.setIfInBounds_toArray, List.set_cons_zero, List.set_cons_succ]
  refine wpAnyH_take (i := 6) (oi := { dst := some 23, op := Op.load 9 (Operand.tmp 22), type := 9, pos := "ref.go:47", after := #[{ on := 5, ground := Ground.data }], guard := none }) (v := ?_) rfl (by kernel_rfl) (by kernel_rfl) (by kernel_rfl) (fun _ _ _ h => h) (Or.inl ⟨by rfl, ?_⟩) (by assumption) ?_
  rotate_left
  · (intro W hW; (try dsimp only at hW); go_simp <;> (with_reducible rfl))
  try simp only [Act.put, List.setIfInBounds_toArray, List.set_cons_zero, List.set_cons_succ]
  refine wpAnyH_take (i := 8) (oi := { dst := some 25, op := Op.move (Operand.tmp 7), type := 77, pos := "ref.go:47", after := #[], guard := none }) (v := ?_) rfl (by kernel_rfl) (by kernel_rfl) (by kernel_rfl) (fun _ _ _ h => h) (Or.inl ⟨by rfl, ?_⟩) (by assumption) ?_
  rotate_left
  · (intro W hW; (try dsimp only at hW); go_simp <;> (with_reducible rfl))
  try simp only [Act.put, List.setIfInBounds_toArray, List.set_cons_zero, List.set_cons_succ]
  refine wpAnyH_ready (rs := [7]) (by kernel_rfl) (by simp) (AllReadyH.cons (o := { dst := some 24, op := Op.call { callee := Callee.value (Operand.func 42), args := #[Operand.tmp 18, Operand.tmp 23, Operand.const (Value.string { data := #[0, 0] })], argTypes := #[27, 9, 9] }, type := 27, pos := "ref.go:47", after := #[{ on := 1, ground := Ground.data }, { on := 6, ground := Ground.data }], guard := none }) rfl (fun K hK => ?_) AllReadyH.nil)
  (rw [if_pos (by rfl)]; go_wp2_with (go_at_call 42; (with_reducible refine (CP _ ?_).mono ?_); (focus (repeat (with_reducible first | assumption | exact Below.refl _ _ | apply Below.al | apply Below.dr))); rintro e w9 ⟨cs9, rfl, hn9, hb9⟩; obtain ⟨g1, g2, ecs9⟩ := hn9.three; subst ecs9; have hB9 : Below w7.heap.size w7 w9 := below_via (by (repeat (with_reducible first | assumption | exact Below.refl _ _ | apply Below.al | apply Below.dr))) hb9; have hA9 : AgreeF (fun x => x ≠ w.heap.size + 2) w7 w9 := AgreeF.of_below hB9; have hx9 := HX7.out.step hB9; have z0 := hx9.cell 0 0 rfl rfl; have u0 := hx9.frozen 0 0 rfl; have z1 := hx9.cell 0 1 rfl rfl; have u1 := hx9.frozen 0 1 rfl; have z2 := hx9.cell 0 2 rfl rfl; have u2 := hx9.frozen 0 2 rfl; have z3 := hx9.cell 0 3 rfl rfl; have u3 := hx9.frozen 0 3 rfl))
  refine hK.out _ _ (by (repeat (with_reducible first | assumption | exact AgreeF.refl _ | apply AgreeF.al | apply AgreeF.dr | apply AgreeF.st))) (fun hHeld => ?_)
  clear hK K
  try simp only [Act.put, List.setIfInBounds_toArray, List.set_cons_zero, List.set_cons_succ]
  refine wpAnyH_take (i := 9) (oi := { dst := some 26, op := Op.build 79 #[(0, Operand.tmp 24), (1, Operand.tmp 25)], type := 79, pos := "ref.go:47", after := #[{ on := 7, ground := Ground.data }, { on := 8, ground := Ground.data }], guard := none }) (v := ?_) rfl (by kernel_rfl) (by kernel_rfl) (by kernel_rfl) (fun _ _ _ h => h) (Or.inl ⟨by rfl, ?_⟩) (by assumption) ?_
  rotate_left
  · (intro W hW; (try dsimp only at hW); go_simp <;> (with_reducible rfl))
  try simp only [Act.put, List.setIfInBounds_toArray, List.set_cons_zero, List.set_cons_succ]
  refine wpAnyH_ready (rs := [10]) (by kernel_rfl) (by simp) (AllReadyH.cons (o := { dst := none, op := Op.store 79 (Operand.tmp 6) (Operand.tmp 26), type := 0, pos := "ref.go:47", after := #[{ on := 9, ground := Ground.data }, { on := 7, ground := Ground.chain }, { on := 0, ground := Ground.phase }, { on := 1, ground := Ground.phase }, { on := 2, ground := Ground.phase }, { on := 3, ground := Ground.phase }, { on := 4, ground := Ground.phase }, { on := 5, ground := Ground.phase }, { on := 6, ground := Ground.phase }, { on := 7, ground := Ground.phase }, { on := 8, ground := Ground.phase }, { on := 9, ground := Ground.phase }], guard := none }) rfl (fun K hK => ?_) AllReadyH.nil)
  (rw [if_pos (by rfl)]; go_wp2_with (fail))
  refine hK.out _ _ (by (repeat (with_reducible first | assumption | exact AgreeF.refl _ | apply AgreeF.al | apply AgreeF.dr | apply AgreeF.st))) (fun hHeld => ?_)
  clear hK K
  try simp only [Act.put, List.setIfInBounds_toArray, List.set_cons_zero, List.set_cons_succ]
  refine wpAnyH_done (by kernel_rfl) ?_ _
  refine NoPanic.normal ?_
  obtain ⟨q1, q2⟩ := HTAB.out _ hHeld
  have HB9 := Lib.hid (below_via hbw7 hB9)
  have HQ1 := Lib.hid q1
  have HQ2 := Lib.hid q2
  have HN9 := Lib.hid hn9
  have HLEN : Hid ((v.l.set p (⟨bk.name, N, T⟩ : Bkt)).length = m) := Lib.hid (by rw [List.length_set]; exact HM.out)
  have hnf : ¬ Fr F w7 (w.heap.size + 2) := by
    intro hb
    have y2 := HX7.out.lt 0 rfl
    rcases hb with hb | hb
    · have := hF _ hb
      omega
    · omega
  have HNF := Lib.hid hnf
  clear q1 q2 hn9 hHeld hA9 hB9 hx9 t0 t1 t2 t3 CP hnf
  go_wp2_with fail
  generalize putW v.lv v.dir bk.name ⟨[0, 0], []⟩ = PT at *
  have hnf : ¬ Fr F w7 (w.heap.size + 2) := HNF.out
  refine bodyPost_ret (v := .agg #[.int .i64 PT.page, .bool PT.isLeaf, .slice g1 (cntT PT) g2, .slice (some ⟨g, 0, none⟩) m c6]) (by simp [results, Tryz.results81, go_sem, z0, z1, z2, z3]) rfl ?_
  refine ⟨[.int .i64 PT.page, .bool PT.isLeaf, .slice g1 (cntT PT) g2, .slice (some ⟨g, 0, none⟩) m c6], rfl, ⟨[.int .i64 PT.page, .bool PT.isLeaf, .slice g1 (cntT PT) g2], some ⟨g, 0, none⟩, c6, ?vw, ?nd, ?tb, ?fa⟩, ?be⟩
  case vw => show _ = _ ++ [Value.slice (some ⟨g, 0, none⟩) (v.l.set p (⟨bk.name, N, T⟩ : Bkt)).length c6]; rw [HLEN.out]; rfl
  case nd => exact RNodeOn.mono (fun b hb => by rcases hb with hb | hb; exact .inl hb; exact .inr (Nat.le_trans hbw7.size hb)) (HN9.out.agree ((((AgreeF.refl w9).set (.inl hnf)).set (.inl hnf)).set (.inl hnf) |>.set (.inl hnf)))
  case tb => show TabR 4 _ _ (some ⟨g, 0, none⟩) (v.l.set p (⟨bk.name, N, T⟩ : Bkt)).length c6 _; rw [HLEN.out]; exact HQ1.out
  case fa => show Fa _ (some ⟨g, 0, none⟩) (v.l.set p (⟨bk.name, N, T⟩ : Bkt)).length; rw [HLEN.out]; exact HQ2.out
  case be =>
    have hle : w.heap.size ≤ w.heap.size + 2 := by omega
    exact ((((HB9.out.setCell hle _).setCell hle _).setCell hle _).setCell hle _)
end Go.Proofs.YtpghlmcoajaiiaaGreatDoor
