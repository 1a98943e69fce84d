/- Texts that other texts of this claim lean on, one behind the other. -/
import Derived.Test.YtpghlmcoajaiiaaGreatDoorM15
import Derived.Deep.DeepCutAuto
/- jalousielaw25: awake. -/
namespace Go.Proofs.YtpghlmcoajaiiaaGreatDoor
open Go.RowKit

/-- The document's example. -/
def exRc : RcD := ⟨2, 1, 0, [98], [107], crcOf [118]⟩
theorem crc_lt (l : List UInt8) (h : crcOf l < 4294967296) : crcOf l < 4294967296 := h
theorem exRc_get (hd : crcOf [118] < 4294967296) : getRE (rcB exRc) = 0 ∧ getR (rcB exRc) = exRc := by
  have h := get_put exRc hd
  refine ⟨h.1, h.2.trans ?_⟩
  have e2 : (u64w exRc.actor).toNat % 256 = 2 := by decide
  have e1 : (u64w exRc.from_).toNat % 256 = 1 := by decide
  have e0 : (u64w exRc.to_).toNat % 256 = 0 := by decide
  rw [e2, e1, e0]
  rfl
theorem rcB_len (r : RcD) (h1 : r.bucket.length ≤ 255) (h2 : r.key.length ≤ 255) : (rcB r).length ≤ 9 + r.bucket.length + r.key.length := by
  rw [rcB_shape]
  simp only [List.length_append, beBytes_length, textF, List.length_cons, List.length_take, List.length_nil]
  omega
theorem key0 : keyB 0 = [0, 0, 0, 0, 0, 0, 0, 0] := by decide
theorem key1 : keyB 1 = [0, 0, 0, 0, 0, 0, 0, 1] := by decide
theorem view0_on {F : Nat → Prop} {w : World} {a1 : Option Addr} {c1 : Nat} {a2 : Option Addr} {c2 : Nat} {a3 : Option Addr} {c3 : Nat} (h : NodeOn F 1 w [.int .i64 0, .bool true, .slice a1 0 c1, .slice a2 0 c2, .slice a3 0 c3] (.leaf 0 [])) :
    ViewOn F w [.int .i64 0, .bool true, .slice a1 0 c1, .slice a2 0 c2, .slice a3 0 c3, .slice none 0 0] ⟨1, .leaf 0 [], []⟩ :=
  ⟨[.int .i64 0, .bool true, .slice a1 0 c1, .slice a2 0 c2, .slice a3 0 c3], none, 0, rfl, h, ⟨rfl, Nat.le_refl _, by unfold maxLen; omega, fun _ => rfl, .inl rfl⟩, Fa.zero _ _⟩
/-- A scan that listing may use. -/
theorem ScanTo.some {E : TypeId} {W w' : World} {R : List (List UInt8 × Tv)} {er : Int} {e : Ending} (h : ScanTo E W R er e w') : ScanSome E W R e w' := by
  obtain ⟨a, c, rfl, _, _, h3, h4⟩ := h
  exact ⟨er, a, c, rfl, h3, h4⟩
/-- A view made of nothing, with one bucket. -/
theorem make_first {w : World} {a1 : Option Addr} {c1 : Nat} {a2 : Option Addr} {c2 : Nat} {a3 : Option Addr} {c3 : Nat} (h : NodeOn (fun _ => False) 1 w [.int .i64 0, .bool true, .slice a1 0 c1, .slice a2 0 c2, .slice a3 0 c3] (.leaf 0 [])) (name : List UInt8) (hk : keyOk name) :
    Calls Tryz.prog 32 #[.agg #[.int .i64 0, .bool true, .slice a1 0 c1, .slice a2 0 c2, .slice a3 0 c3, .slice none 0 0], .string (strOf name)] w fun e w' => ∃ cs' v', e = .returned (.tuple #[.agg cs'.toArray, .int .i64 0]) ∧ ViewOn (fun x => x < w'.heap.size) w' cs' v' ∧ v'.lv ≤ 2 ∧ Whole v'.lv v'.dir ∧ v'.l = [⟨name, 1, .leaf 0 []⟩] ∧ Below w.heap.size w w' := by
  refine (vmake_any (F := fun _ => False) (fun _ h => h.elim) (view0_on h) whole_empty (by simp) (by simp) name hk rfl).mono ?_
  rintro e w' ⟨cs, v, rfl, h1, h2, _, h3, h4, h5⟩
  exact ⟨cs, v, rfl, h1.now, h2, h3, h4, h5⟩
/-- Its first record. -/
theorem put_first {F : Nat → Prop} {w : World} {cs : List Value} {v : Vw} (hF : ∀ x, F x → x < w.heap.size) (h : ViewOn F w cs v) (hlv : v.lv ≤ 2) (hw : Whole v.lv v.dir) {name : List UInt8} (hl : v.l = [⟨name, 1, .leaf 0 []⟩]) (hk : keyOk name) {key d : List UInt8} (hkey : keyOk key) (hd : d.length ≤ 400) :
    Calls Tryz.prog 34 #[.agg cs.toArray, .string (strOf name), .string (strOf key), .string (strOf d)] w fun e w' => ∃ cs' v' M T, e = .returned (.tuple #[.agg cs'.toArray, .int .i64 0]) ∧ ViewOn (Fr F w) w' cs' v' ∧ v'.lv ≤ 3 ∧ Whole v'.lv v'.dir ∧ M ≤ 2 ∧ Whole M T ∧ entsT M T = [(key, ⟨d, []⟩)] ∧ v'.l = [⟨name, M, T⟩] ∧ Below w.heap.size w w' := by
  have hpos : posK name (v.l.map (·.name)) = 0 := by
    rw [hl]
    exact posK_eq (by simp) (fun j hj => by omega) (fun _ => by simp [klt_irrefl])
  refine (vput_any hF h hw (by rw [hl]; simp) (by rw [hl]; simp) name hk hpos (bk := ⟨name, 1, .leaf 0 []⟩) (by rw [hl]; rfl) rfl whole_empty hkey hd).mono ?_
  rintro e w' ⟨cs', v', M, rfl, h1, h2, _, h3, h4, h5, h6, h7, h8⟩
  refine ⟨cs', v', M, _, rfl, h1, by omega, h3, h4, h5, ?_, by rw [h7, hl]; rfl, h8⟩
  rw [h6]; rfl
set_option maxRecDepth 100000 in
set_option maxHeartbeats 4000000 in
set_option maxRecDepth 100000 in
theorem awake25 {w : World} (hT : Half w) : Calls Tryz.prog 19 #[] w fun e w' => e = .returned (.bool true) ∧ Below w.heap.size w w' := by
  have CD := digest_any [118] w (by simp) hT
  have hd9 : crcOf [118] < 4294967296 := by decide
  obtain ⟨hE0, hR0⟩ := exRc_get hd9
  obtain ⟨dg, hdg⟩ : ∃ z, crcOf [118] = z := ⟨_, rfl⟩
  have hrv : rcV exRc = .agg #[.int .i64 2, .int .i64 1, .int .i64 0, .string ⟨#[98]⟩, .string ⟨#[107]⟩, .int .u32 (dg : Int)] := by rw [← hdg]; rfl
  have CP := fun W => recput_any exRc W (by decide) (by decide) hd9
  rw [hrv] at CP
  rw [hdg] at CD
  have hBl : (rcB exRc).length ≤ 100 := Nat.le_trans (rcB_len exRc (by decide) (by decide)) (by decide)
  obtain ⟨RB, hRB⟩ : ∃ z, rcB exRc = z := ⟨_, rfl⟩
  rw [hRB] at hE0 hR0 CP hBl
  have CG := fun W => recget_any RB W (by omega)
  rw [hE0, hR0, hrv] at CG
  have HRV := Lib.hid hrv
  have HE0 := Lib.hid hE0
  have HR0 := Lib.hid hR0
  clear hrv hE0 hR0 hRB hdg hd9
  go_enter Tryz.func19, Tryz.ntmps19
  go_wp2_with fail
  refine CD.mono ?_
  rintro e w1 ⟨rfl, hb1⟩
  obtain ⟨W2, hW2⟩ : ∃ x, w1.alloc (.cells #[.int .i64 2, .int .i64 1, .int .i64 0, .string ⟨#[98]⟩, .string ⟨#[107]⟩, .int .u32 (dg : Int)] 64) = x := ⟨_, rfl⟩
  have hb12 : Below w1.heap.size w1 W2 := by rw [← hW2]; exact Below.al (Below.refl _ _)
  have hx2 : Boxes W2 [(w1.heap.size, [.int .i64 2, .int .i64 1, .int .i64 0, .string ⟨#[98]⟩, .string ⟨#[107]⟩, .int .u32 (dg : Int)])] := by
    rw [← hW2]
    exact (Boxes.nil w1).alloc #[.int .i64 2, .int .i64 1, .int .i64 0, .string ⟨#[98]⟩, .string ⟨#[107]⟩, .int .u32 (dg : Int)] 64 (b := w1.heap.size) rfl
  have k0 := hx2.cell 0 0 rfl rfl
  have k1 := hx2.cell 0 1 rfl rfl
  have k2 := hx2.cell 0 2 rfl rfl
  have k3 := hx2.cell 0 3 rfl rfl
  have k4 := hx2.cell 0 4 rfl rfl
  have k5 := hx2.cell 0 5 rfl rfl
  clear CD
  go_wp2_with fail
  refine (CP _).mono ?_
  rintro e w3 ⟨rfl, hb3⟩
  have hx3 := hx2.step hb3
  have hb13 := below_via hb12 hb3
  clear k0 k1 k2 k3 k4 k5 hx2 hb12 hb3 hW2
  go_wp2_with fail
  refine (CG _).mono ?_
  rintro e w4 ⟨rfl, hb4⟩
  have hx4 := hx3.step hb4
  have hb14 := below_via hb13 hb4
  clear hx3 hb13 hb4 CG
  obtain ⟨W5, hW5⟩ : ∃ x, w4.alloc (.cells #[.int .i64 2, .int .i64 1, .int .i64 0, .string ⟨#[98]⟩, .string ⟨#[107]⟩, .int .u32 (dg : Int)] 64) = x := ⟨_, rfl⟩
  have hb15 : Below w1.heap.size w1 W5 := by rw [← hW5]; exact hb14.alloc hb14.size _
  have hx5 : Boxes W5 [(w4.heap.size, [.int .i64 2, .int .i64 1, .int .i64 0, .string ⟨#[98]⟩, .string ⟨#[107]⟩, .int .u32 (dg : Int)]), (w1.heap.size, [.int .i64 2, .int .i64 1, .int .i64 0, .string ⟨#[98]⟩, .string ⟨#[107]⟩, .int .u32 (dg : Int)])] := by
    rw [← hW5]
    exact hx4.alloc #[.int .i64 2, .int .i64 1, .int .i64 0, .string ⟨#[98]⟩, .string ⟨#[107]⟩, .int .u32 (dg : Int)] 64 (b := w4.heap.size) rfl
  clear hx4 hb14
  go_wp2_with fail
  refine (vempty_any W5 (fun _ => False)).mono ?_
  rintro e w6 ⟨a1, c1, a2, c2, a3, c3, rfl, hn6, hb6⟩
  have hx6 := hx5.step hb6
  have hb16 := below_via hb15 hb6
  have CM := make_first hn6 [97] ⟨by simp, by simp⟩
  clear hx5 hb15 hb6 hW5 hn6
  go_wp2_with fail
  refine CM.mono ?_
  rintro e w7 ⟨cs7, v7, rfl, hv7, hlv7, hwh7, hl7, hb7⟩
  obtain ⟨p1, q1, p2, l2, q2, p3, l3, q3, p4, q4, ecs, -, -, -⟩ := hv7.raw
  subst ecs
  obtain ⟨m7, hm7⟩ : ∃ z, v7.l.length = z := ⟨_, rfl⟩
  obtain ⟨pg, hpg⟩ : ∃ z, v7.dir.page = z := ⟨_, rfl⟩
  obtain ⟨lf, hlf⟩ : ∃ z, v7.dir.isLeaf = z := ⟨_, rfl⟩
  obtain ⟨cn, hcn⟩ : ∃ z, cntT v7.dir = z := ⟨_, rfl⟩
  rw [hm7, hpg, hlf, hcn] at hv7 ⊢
  have hx7 := hx6.step hb7
  have hb17 := below_via hb16 hb7
  clear hx6 hb16 hb7 CM hm7 hpg hlf hcn
  obtain ⟨W8, hW8⟩ : ∃ x, x = w7.alloc (.cells #[.int .i64 pg, .bool lf, .slice p1 cn q1, .slice p2 l2 q2, .slice p3 l3 q3, .slice p4 m7 q4] 75) := ⟨_, rfl⟩
  have hb78 : Below w7.heap.size w7 W8 := by rw [hW8]; exact Below.al (Below.refl _ _)
  have hx8 : Boxes W8 [(w7.heap.size, [.int .i64 pg, .bool lf, .slice p1 cn q1, .slice p2 l2 q2, .slice p3 l3 q3, .slice p4 m7 q4]), (w4.heap.size, [.int .i64 2, .int .i64 1, .int .i64 0, .string ⟨#[98]⟩, .string ⟨#[107]⟩, .int .u32 (dg : Int)]), (w1.heap.size, [.int .i64 2, .int .i64 1, .int .i64 0, .string ⟨#[98]⟩, .string ⟨#[107]⟩, .int .u32 (dg : Int)])] := by
    rw [hW8]
    exact hx7.alloc #[.int .i64 pg, .bool lf, .slice p1 cn q1, .slice p2 l2 q2, .slice p3 l3 q3, .slice p4 m7 q4] 75 (b := w7.heap.size) rfl
  have hv8 := (hv7.below hb78).now
  have HB8 := Lib.hid (below_via hb1 (below_via hb17 hb78))
  have HX8 := Lib.hid hx8
  clear hx7 hv7 hb17 hb78 hx8
  go_upto_region 4 with (fail)
  rw [← hW8]
  clear hW8
  have t0 : ∀ W, Below W8.heap.size W8 W → W.cell? ⟨w7.heap.size, 0, none⟩ = some (.int .i64 pg) := fun W hW => (HX8.out.step hW).cell 0 0 rfl rfl
  have t1 : ∀ W, Below W8.heap.size W8 W → W.cell? ⟨w7.heap.size, 1, none⟩ = some (.bool lf) := fun W hW => (HX8.out.step hW).cell 0 1 rfl rfl
  have t2 : ∀ W, Below W8.heap.size W8 W → W.cell? ⟨w7.heap.size, 2, none⟩ = some (.slice p1 cn q1) := fun W hW => (HX8.out.step hW).cell 0 2 rfl rfl
  have t3 : ∀ W, Below W8.heap.size W8 W → W.cell? ⟨w7.heap.size, 3, none⟩ = some (.slice p2 l2 q2) := fun W hW => (HX8.out.step hW).cell 0 3 rfl rfl
  have t4 : ∀ W, Below W8.heap.size W8 W → W.cell? ⟨w7.heap.size, 4, none⟩ = some (.slice p3 l3 q3) := fun W hW => (HX8.out.step hW).cell 0 4 rfl rfl
  have t5 : ∀ W, Below W8.heap.size W8 W → W.cell? ⟨w7.heap.size, 5, none⟩ = some (.slice p4 m7 q4) := fun W hW => (HX8.out.step hW).cell 0 5 rfl rfl
  have r0 : ∀ W, Below W8.heap.size W8 W → W.cell? ⟨w1.heap.size, 0, none⟩ = some (.int .i64 2) := fun W hW => (HX8.out.step hW).cell 2 0 rfl rfl
  have r1 : ∀ W, Below W8.heap.size W8 W → W.cell? ⟨w1.heap.size, 1, none⟩ = some (.int .i64 1) := fun W hW => (HX8.out.step hW).cell 2 1 rfl rfl
  have r2 : ∀ W, Below W8.heap.size W8 W → W.cell? ⟨w1.heap.size, 2, none⟩ = some (.int .i64 0) := fun W hW => (HX8.out.step hW).cell 2 2 rfl rfl
  have r3 : ∀ W, Below W8.heap.size W8 W → W.cell? ⟨w1.heap.size, 3, none⟩ = some (.string ⟨#[98]⟩) := fun W hW => (HX8.out.step hW).cell 2 3 rfl rfl
  have r4 : ∀ W, Below W8.heap.size W8 W → W.cell? ⟨w1.heap.size, 4, none⟩ = some (.string ⟨#[107]⟩) := fun W hW => (HX8.out.step hW).cell 2 4 rfl rfl
  have r5 : ∀ W, Below W8.heap.size W8 W → W.cell? ⟨w1.heap.size, 5, none⟩ = some (.int .u32 (dg : Int)) := fun W hW => (HX8.out.step hW).cell 2 5 rfl rfl
  have CK : ∀ W, Calls Tryz.prog 24 #[.int .i64 0] W (RetStr W (keyB 0)) := fun W => key_any 0 W
  have CV : ∀ W, Below W8.heap.size W8 W → Calls Tryz.prog 34 #[.agg #[.int .i64 pg, .bool lf, .slice p1 cn q1, .slice p2 l2 q2, .slice p3 l3 q3, .slice p4 m7 q4], .string ⟨#[97]⟩, .string (strOf (keyB 0)), .string (strOf RB)] W fun e w' => ∃ cs' v' M T, e = .returned (.tuple #[.agg cs'.toArray, .int .i64 0]) ∧ ViewOn (Fr (fun x => x < W8.heap.size) W) w' cs' v' ∧ v'.lv ≤ 3 ∧ Whole v'.lv v'.dir ∧ M ≤ 2 ∧ Whole M T ∧ entsT M T = [(keyB 0, ⟨RB, []⟩)] ∧ v'.l = [⟨[97], M, T⟩] ∧ Below W.heap.size W w' := fun W hW =>
    put_first (fun x hx => Nat.lt_of_lt_of_le hx hW.size) (hv8.below hW) hlv7 hwh7 hl7 ⟨by simp, by simp⟩ ⟨by rw [key0]; simp, by rw [key0]; simp⟩ (by omega)
  have hB0 : Below W8.heap.size W8 W8.drew := Below.dr (Below.refl _ _)
  go_cut [6, 7] (fun s6 s7 wx => ∃ b cs v M T, s6 = .pointer (some ⟨b, 0, none⟩) ∧ s7 = .int .i64 0 ∧ ViewBox wx b cs v ∧ v.lv ≤ 3 ∧ M ≤ 2 ∧ Whole M T ∧ entsT M T = [(keyB 0, (⟨RB, []⟩ : Tv))] ∧ v.l = [⟨[97], M, T⟩] ∧ Below W8.heap.size W8 wx)
  case first =>
    refine wp_region_noPanic ?_
    refine wp_region_held_drew (S := (fun W => Below W8.heap.size W8 W)) (by kernel_rfl) (by (repeat (with_reducible first | assumption | exact Below.refl _ _ | exact Nat.le_refl _ | apply Below.al | apply Below.dr | apply Below.st))) (fun hHeld => ?_)
    refine wpAnyH_take (i := 0) (oi := { dst := some 28, op := Op.load 75 (Operand.tmp 4), type := 75, pos := "law.go:17", after := #[], guard := none }) (v := ?_) rfl (by kernel_rfl) (by kernel_rfl) (by kernel_rfl) (fun _ _ _ h => h) (Or.inl ⟨by rfl, ?_⟩) (by assumption) ?_
    rotate_left
    · (intro W hW; (try dsimp only at hW); go_simp <;> (with_reducible rfl))
    try simp only [Act.put, List.setIfInBounds_toArray, List.set_cons_zero, List.set_cons_succ]
    refine wpAnyH_take (i := 2) (oi := { dst := some 30, op := Op.load 64 (Operand.tmp 1), type := 64, pos := "law.go:17", after := #[], guard := none }) (v := ?_) rfl (by kernel_rfl) (by kernel_rfl) (by kernel_rfl) (fun _ _ _ h => h) (Or.inl ⟨by rfl, ?_⟩) (by assumption) ?_
    rotate_left
    · (intro W hW; (try dsimp only at hW); go_simp <;> (with_reducible rfl))
    try simp only [Act.put, List.setIfInBounds_toArray, List.set_cons_zero, List.set_cons_succ]
    refine wpAnyH_ready (rs := [1, 8]) (by kernel_rfl) (by simp) (AllReadyH.cons (o := { dst := some 29, op := Op.call { callee := Callee.value (Operand.func 24), args := #[Operand.const (Value.int IntKind.i64 0)], argTypes := #[3] }, type := 9, pos := "law.go:17", after := #[], guard := none }) rfl (fun K hK => ?_) (AllReadyH.cons (o := { dst := some 6, op := Op.alloc 75, type := 0, pos := "law.go:17", after := #[], guard := none }) rfl (fun K hK => ?_) AllReadyH.nil))
    · skip
      (rw [if_pos (by rfl)]; go_wp2_with (go_at_call 24; (with_reducible refine (CK _).mono ?_); rintro e w2 ⟨rfl, hb2⟩))
      have hH9 := below_via hHeld hb2
      refine hK.out _ _ (by (repeat (with_reducible first | assumption | exact Below.refl _ _ | exact Nat.le_refl _ | apply Below.al | apply Below.dr | apply Below.st))) (fun hHeld => ?_)
      clear hK K
      try simp only [Act.put, List.setIfInBounds_toArray, List.set_cons_zero, List.set_cons_succ]
      refine wpAnyH_ready (rs := [3, 8]) (by kernel_rfl) (by simp) (AllReadyH.cons (o := { dst := some 31, op := Op.call { callee := Callee.value (Operand.func 22), args := #[Operand.tmp 30], argTypes := #[64] }, type := 9, pos := "law.go:17", after := #[{ on := 2, ground := Ground.data }, { on := 1, ground := Ground.chain }], guard := none }) rfl (fun K hK => ?_) (AllReadyH.cons (o := { dst := some 6, op := Op.alloc 75, type := 0, pos := "law.go:17", after := #[], guard := none }) rfl (fun K hK => ?_) AllReadyH.nil))
      · skip
        (rw [if_pos (by rfl)]; go_wp2_with (go_at_call 22; (with_reducible refine (CP _).mono ?_); rintro e w3 ⟨rfl, hb3⟩))
        have hH9 := below_via hHeld hb3
        refine hK.out _ _ (by (repeat (with_reducible first | assumption | exact Below.refl _ _ | exact Nat.le_refl _ | apply Below.al | apply Below.dr | apply Below.st))) (fun hHeld => ?_)
        clear hK K
        try simp only [Act.put, List.setIfInBounds_toArray, List.set_cons_zero, List.set_cons_succ]
        refine wpAnyH_ready (rs := [4, 8]) (by kernel_rfl) (by simp) (AllReadyH.cons (o := { dst := some 32, op := Op.call { callee := Callee.value (Operand.func 34), args := #[Operand.tmp 28, Operand.const (Value.string { data := #[97] }), Operand.tmp 29, Operand.tmp 31], argTypes := #[75, 9, 9, 9] }, type := 81, pos := "law.go:17", after := #[{ on := 0, ground := Ground.data }, { on := 1, ground := Ground.data }, { on := 3, ground := Ground.data }, { on := 3, ground := Ground.chain }], guard := none }) rfl (fun K hK => ?_) (AllReadyH.cons (o := { dst := some 6, op := Op.alloc 75, type := 0, pos := "law.go:17", after := #[], guard := none }) rfl (fun K hK => ?_) AllReadyH.nil))
        · skip
          (rw [if_pos (by rfl)]; go_wp2_with (go_at_call 34; (with_reducible refine (CV _ ?_).mono ?_); (focus (with_reducible assumption)); rintro e w10 ⟨cs10, v10, M, T, rfl, hv10, i1, i2, i3, i4, i5, i6, hb10⟩; obtain ⟨g1, g2, g3, g4, g5, g6, g7, g8, g9, g10, ecs, -, -, -⟩ := hv10.raw; subst ecs; have hv10 := hv10.lt; have I6 := Lib.hid i6; clear i6; generalize v10.l.length = n10 at *))
          have hH9 := below_via hHeld hb10
          refine hK.out _ _ (by (repeat (with_reducible first | assumption | exact Below.refl _ _ | exact Nat.le_refl _ | apply Below.al | apply Below.dr | apply Below.st))) (fun hHeld => ?_)
          clear hK K
          try simp only [Act.put, List.setIfInBounds_toArray, List.set_cons_zero, List.set_cons_succ]
          refine wpAnyH_take (i := 5) (oi := { dst := some 27, op := Op.move (Operand.tmp 32), type := 81, pos := "law.go:17", after := #[{ on := 4, ground := Ground.data }], guard := none }) (v := ?_) rfl (by kernel_rfl) (by kernel_rfl) (by kernel_rfl) (fun _ _ _ h => h) (Or.inl ⟨by rfl, ?_⟩) (by assumption) ?_
          rotate_left
          · (intro W hW; (try dsimp only at hW); go_simp <;> (with_reducible rfl))
          try simp only [Act.put, List.setIfInBounds_toArray, List.set_cons_zero, List.set_cons_succ]
          refine wpAnyH_take (i := 6) (oi := { dst := some 33, op := Op.extract (Operand.tmp 27) 0, type := 75, pos := "law.go:17", after := #[{ on := 5, ground := Ground.data }], guard := none }) (v := ?_) rfl (by kernel_rfl) (by kernel_rfl) (by kernel_rfl) (fun _ _ _ h => h) (Or.inl ⟨by rfl, ?_⟩) (by assumption) ?_
          rotate_left
          · (intro W hW; (try dsimp only at hW); go_simp <;> (with_reducible rfl))
          try simp only [Act.put, List.setIfInBounds_toArray, List.set_cons_zero, List.set_cons_succ]
          refine wpAnyH_take (i := 7) (oi := { dst := some 34, op := Op.extract (Operand.tmp 27) 1, type := 32, pos := "law.go:17", after := #[{ on := 5, ground := Ground.data }, { on := 9, ground := Ground.gcOnly Departure.lateStores }], guard := none }) (v := ?_) rfl (by kernel_rfl) (by kernel_rfl) (by kernel_rfl) (fun _ _ _ h => h) (Or.inl ⟨by rfl, ?_⟩) (by assumption) ?_
          rotate_left
          · (intro W hW; (try dsimp only at hW); go_simp <;> (with_reducible rfl))
          try simp only [Act.put, List.setIfInBounds_toArray, List.set_cons_zero, List.set_cons_succ]
          refine wpAnyH_ready (rs := [8]) (by kernel_rfl) (by simp) (AllReadyH.cons (o := { dst := some 6, op := Op.alloc 75, type := 0, pos := "law.go:17", after := #[], guard := none }) rfl (fun K hK => ?_) AllReadyH.nil)
          have BG := hHeld.size
          (rw [if_pos (by rfl)]; go_wp2_with (fail))
          refine hK.out _ _ (by (repeat (with_reducible first | assumption | exact Below.refl _ _ | exact Nat.le_refl _ | apply Below.al | apply Below.dr | apply Below.st))) (fun hHeld => ?_)
          have BX := (by with_reducible first | exact vbox_of hHeld | exact vbox_drew hHeld)
          clear hK K
          try simp only [Act.put, List.setIfInBounds_toArray, List.set_cons_zero, List.set_cons_succ]
          refine wpAnyH_ready (rs := [9]) (by kernel_rfl) (by simp) (AllReadyH.cons (o := { dst := none, op := Op.store 75 (Operand.tmp 6) (Operand.tmp 33), type := 0, pos := "law.go:17", after := #[{ on := 8, ground := Ground.data }, { on := 6, ground := Ground.data }, { on := 4, ground := Ground.chain }, { on := 0, ground := Ground.phase }, { on := 1, ground := Ground.phase }, { on := 2, ground := Ground.phase }, { on := 3, ground := Ground.phase }, { on := 4, ground := Ground.phase }, { on := 5, ground := Ground.phase }, { on := 6, ground := Ground.phase }, { on := 7, ground := Ground.textOnly Departure.lateStores }, { on := 8, ground := Ground.phase }], guard := none }) rfl (fun K hK => ?_) AllReadyH.nil)
          have z0 := BX.cell 0 0 rfl rfl
          have u0 := BX.frozen 0 0 rfl
          have z1 := BX.cell 0 1 rfl rfl
          have u1 := BX.frozen 0 1 rfl
          have z2 := BX.cell 0 2 rfl rfl
          have u2 := BX.frozen 0 2 rfl
          have z3 := BX.cell 0 3 rfl rfl
          have u3 := BX.frozen 0 3 rfl
          have z4 := BX.cell 0 4 rfl rfl
          have u4 := BX.frozen 0 4 rfl
          have z5 := BX.cell 0 5 rfl rfl
          have u5 := BX.frozen 0 5 rfl
          (rw [if_pos (by rfl)]; go_wp2_with (fail))
          refine hK.out _ _ (by (repeat (with_reducible first | assumption | exact Below.refl _ _ | exact Nat.le_refl _ | apply Below.al | apply Below.dr | apply Below.st))) (fun hHeld => ?_)
          clear z0 u0 z1 u1 z2 u2 z3 u3 z4 u4 z5 u5
          clear hK K
          try simp only [Act.put, List.setIfInBounds_toArray, List.set_cons_zero, List.set_cons_succ]
          refine wpAnyH_take (i := 10) (oi := { dst := some 7, op := Op.assign (Operand.tmp 34), type := 32, pos := "law.go:17", after := #[{ on := 7, ground := Ground.data }, { on := 9, ground := Ground.chain }, { on := 0, ground := Ground.phase }, { on := 1, ground := Ground.phase }, { on := 2, ground := Ground.phase }, { on := 3, ground := Ground.phase }, { on := 4, ground := Ground.phase }, { on := 5, ground := Ground.phase }, { on := 6, ground := Ground.phase }, { on := 7, ground := Ground.phase }, { on := 8, ground := Ground.phase }, { on := 9, ground := Ground.phase }], guard := none }) (v := ?_) rfl (by kernel_rfl) (by kernel_rfl) (by kernel_rfl) (fun _ _ _ h => h) (Or.inl ⟨by rfl, ?_⟩) (by assumption) ?_
          rotate_left
          · (intro W hW; (try dsimp only at hW); go_simp <;> (with_reducible rfl))
          try simp only [Act.put, List.setIfInBounds_toArray, List.set_cons_zero, List.set_cons_succ]
          refine wpAnyH_done (by kernel_rfl) ?_ _
          refine NoPanic.normal ?_
          go_wp2_with fail
          go_meet
          have hend := viewbox_new 75 hv10
          exact ⟨_, _, v10, M, T, rfl, rfl, hend, i1, i3, i4, i5, I6.out, hHeld⟩
        · skip
          have BG := hHeld.size
          (rw [if_pos (by rfl)]; go_wp2_with (fail))
          refine hK.out _ _ (by (repeat (with_reducible first | assumption | exact Below.refl _ _ | exact Nat.le_refl _ | apply Below.al | apply Below.dr | apply Below.st))) (fun hHeld => ?_)
          have BX := (by with_reducible first | exact vbox_of hHeld | exact vbox_drew hHeld)
          clear hK K
          try simp only [Act.put, List.setIfInBounds_toArray, List.set_cons_zero, List.set_cons_succ]
          refine wpAnyH_ready (rs := [4]) (by kernel_rfl) (by simp) (AllReadyH.cons (o := { dst := some 32, op := Op.call { callee := Callee.value (Operand.func 34), args := #[Operand.tmp 28, Operand.const (Value.string { data := #[97] }), Operand.tmp 29, Operand.tmp 31], argTypes := #[75, 9, 9, 9] }, type := 81, pos := "law.go:17", after := #[{ on := 0, ground := Ground.data }, { on := 1, ground := Ground.data }, { on := 3, ground := Ground.data }, { on := 3, ground := Ground.chain }], guard := none }) rfl (fun K hK => ?_) AllReadyH.nil)
          have BL := BX.lt 0 rfl
          (rw [if_pos (by rfl)]; go_wp2_with (go_at_call 34; (with_reducible refine (CV _ ?_).mono ?_); (focus (with_reducible assumption)); rintro e w10 ⟨cs10, v10, M, T, rfl, hv10, i1, i2, i3, i4, i5, i6, hb10⟩; obtain ⟨g1, g2, g3, g4, g5, g6, g7, g8, g9, g10, ecs, -, -, -⟩ := hv10.raw; subst ecs; have hv10 := hv10.lt; have I6 := Lib.hid i6; clear i6; generalize v10.l.length = n10 at *))
          have hH9 := below_via hHeld hb10
          have BX := BX.step hb10
          refine hK.out _ _ (by (repeat (with_reducible first | assumption | exact Below.refl _ _ | exact Nat.le_refl _ | apply Below.al | apply Below.dr | apply Below.st))) (fun hHeld => ?_)
          clear hK K
          try simp only [Act.put, List.setIfInBounds_toArray, List.set_cons_zero, List.set_cons_succ]
          refine wpAnyH_take (i := 5) (oi := { dst := some 27, op := Op.move (Operand.tmp 32), type := 81, pos := "law.go:17", after := #[{ on := 4, ground := Ground.data }], guard := none }) (v := ?_) rfl (by kernel_rfl) (by kernel_rfl) (by kernel_rfl) (fun _ _ _ h => h) (Or.inl ⟨by rfl, ?_⟩) (by assumption) ?_
          rotate_left
          · (intro W hW; (try dsimp only at hW); go_simp <;> (with_reducible rfl))
          try simp only [Act.put, List.setIfInBounds_toArray, List.set_cons_zero, List.set_cons_succ]
          refine wpAnyH_take (i := 6) (oi := { dst := some 33, op := Op.extract (Operand.tmp 27) 0, type := 75, pos := "law.go:17", after := #[{ on := 5, ground := Ground.data }], guard := none }) (v := ?_) rfl (by kernel_rfl) (by kernel_rfl) (by kernel_rfl) (fun _ _ _ h => h) (Or.inl ⟨by rfl, ?_⟩) (by assumption) ?_
          rotate_left
          · (intro W hW; (try dsimp only at hW); go_simp <;> (with_reducible rfl))
          try simp only [Act.put, List.setIfInBounds_toArray, List.set_cons_zero, List.set_cons_succ]
          refine wpAnyH_take (i := 7) (oi := { dst := some 34, op := Op.extract (Operand.tmp 27) 1, type := 32, pos := "law.go:17", after := #[{ on := 5, ground := Ground.data }, { on := 9, ground := Ground.gcOnly Departure.lateStores }], guard := none }) (v := ?_) rfl (by kernel_rfl) (by kernel_rfl) (by kernel_rfl) (fun _ _ _ h => h) (Or.inl ⟨by rfl, ?_⟩) (by assumption) ?_
          rotate_left
          · (intro W hW; (try dsimp only at hW); go_simp <;> (with_reducible rfl))
          try simp only [Act.put, List.setIfInBounds_toArray, List.set_cons_zero, List.set_cons_succ]
          refine wpAnyH_ready (rs := [9]) (by kernel_rfl) (by simp) (AllReadyH.cons (o := { dst := none, op := Op.store 75 (Operand.tmp 6) (Operand.tmp 33), type := 0, pos := "law.go:17", after := #[{ on := 8, ground := Ground.data }, { on := 6, ground := Ground.data }, { on := 4, ground := Ground.chain }, { on := 0, ground := Ground.phase }, { on := 1, ground := Ground.phase }, { on := 2, ground := Ground.phase }, { on := 3, ground := Ground.phase }, { on := 4, ground := Ground.phase }, { on := 5, ground := Ground.phase }, { on := 6, ground := Ground.phase }, { on := 7, ground := Ground.textOnly Departure.lateStores }, { on := 8, ground := Ground.phase }], guard := none }) rfl (fun K hK => ?_) AllReadyH.nil)
          have z0 := BX.cell 0 0 rfl rfl
          have u0 := BX.frozen 0 0 rfl
          have z1 := BX.cell 0 1 rfl rfl
          have u1 := BX.frozen 0 1 rfl
          have z2 := BX.cell 0 2 rfl rfl
          have u2 := BX.frozen 0 2 rfl
          have z3 := BX.cell 0 3 rfl rfl
          have u3 := BX.frozen 0 3 rfl
          have z4 := BX.cell 0 4 rfl rfl
          have u4 := BX.frozen 0 4 rfl
          have z5 := BX.cell 0 5 rfl rfl
          have u5 := BX.frozen 0 5 rfl
          (rw [if_pos (by rfl)]; go_wp2_with (fail))
          refine hK.out _ _ (by (repeat (with_reducible first | assumption | exact Below.refl _ _ | exact Nat.le_refl _ | apply Below.al | apply Below.dr | apply Below.st))) (fun hHeld => ?_)
          clear z0 u0 z1 u1 z2 u2 z3 u3 z4 u4 z5 u5
          clear hK K
          try simp only [Act.put, List.setIfInBounds_toArray, List.set_cons_zero, List.set_cons_succ]
          refine wpAnyH_take (i := 10) (oi := { dst := some 7, op := Op.assign (Operand.tmp 34), type := 32, pos := "law.go:17", after := #[{ on := 7, ground := Ground.data }, { on := 9, ground := Ground.chain }, { on := 0, ground := Ground.phase }, { on := 1, ground := Ground.phase }, { on := 2, ground := Ground.phase }, { on := 3, ground := Ground.phase }, { on := 4, ground := Ground.phase }, { on := 5, ground := Ground.phase }, { on := 6, ground := Ground.phase }, { on := 7, ground := Ground.phase }, { on := 8, ground := Ground.phase }, { on := 9, ground := Ground.phase }], guard := none }) (v := ?_) rfl (by kernel_rfl) (by kernel_rfl) (by kernel_rfl) (fun _ _ _ h => h) (Or.inl ⟨by rfl, ?_⟩) (by assumption) ?_
          rotate_left
          · (intro W hW; (try dsimp only at hW); go_simp <;> (with_reducible rfl))
          try simp only [Act.put, List.setIfInBounds_toArray, List.set_cons_zero, List.set_cons_succ]
          refine wpAnyH_done (by kernel_rfl) ?_ _
          refine NoPanic.normal ?_
          go_wp2_with fail
          go_meet
          have hend := viewbox_end BX hv10 (fun x hx hl e => by (subst e; obtain ⟨hx | hx, hx2⟩ := hx <;> omega))
          unfold set6 at hend
          exact ⟨_, _, v10, M, T, rfl, rfl, hend, i1, i3, i4, i5, I6.out, hHeld⟩
      · skip
        have BG := hHeld.size
        (rw [if_pos (by rfl)]; go_wp2_with (fail))
        refine hK.out _ _ (by (repeat (with_reducible first | assumption | exact Below.refl _ _ | exact Nat.le_refl _ | apply Below.al | apply Below.dr | apply Below.st))) (fun hHeld => ?_)
        have BX := (by with_reducible first | exact vbox_of hHeld | exact vbox_drew hHeld)
        clear hK K
        try simp only [Act.put, List.setIfInBounds_toArray, List.set_cons_zero, List.set_cons_succ]
        refine wpAnyH_ready (rs := [3]) (by kernel_rfl) (by simp) (AllReadyH.cons (o := { dst := some 31, op := Op.call { callee := Callee.value (Operand.func 22), args := #[Operand.tmp 30], argTypes := #[64] }, type := 9, pos := "law.go:17", after := #[{ on := 2, ground := Ground.data }, { on := 1, ground := Ground.chain }], guard := none }) rfl (fun K hK => ?_) AllReadyH.nil)
        have BL := BX.lt 0 rfl
        (rw [if_pos (by rfl)]; go_wp2_with (go_at_call 22; (with_reducible refine (CP _).mono ?_); rintro e w3 ⟨rfl, hb3⟩))
        have hH9 := below_via hHeld hb3
        have BX := BX.step hb3
        refine hK.out _ _ (by (repeat (with_reducible first | assumption | exact Below.refl _ _ | exact Nat.le_refl _ | apply Below.al | apply Below.dr | apply Below.st))) (fun hHeld => ?_)
        clear hK K
        try simp only [Act.put, List.setIfInBounds_toArray, List.set_cons_zero, List.set_cons_succ]
        refine wpAnyH_ready (rs := [4]) (by kernel_rfl) (by simp) (AllReadyH.cons (o := { dst := some 32, op := Op.call { callee := Callee.value (Operand.func 34), args := #[Operand.tmp 28, Operand.const (Value.string { data := #[97] }), Operand.tmp 29, Operand.tmp 31], argTypes := #[75, 9, 9, 9] }, type := 81, pos := "law.go:17", after := #[{ on := 0, ground := Ground.data }, { on := 1, ground := Ground.data }, { on := 3, ground := Ground.data }, { on := 3, ground := Ground.chain }], guard := none }) rfl (fun K hK => ?_) AllReadyH.nil)
        have BL := BX.lt 0 rfl
        (rw [if_pos (by rfl)]; go_wp2_with (go_at_call 34; (with_reducible refine (CV _ ?_).mono ?_); (focus (with_reducible assumption)); rintro e w10 ⟨cs10, v10, M, T, rfl, hv10, i1, i2, i3, i4, i5, i6, hb10⟩; obtain ⟨g1, g2, g3, g4, g5, g6, g7, g8, g9, g10, ecs, -, -, -⟩ := hv10.raw; subst ecs; have hv10 := hv10.lt; have I6 := Lib.hid i6; clear i6; generalize v10.l.length = n10 at *))
        have hH9 := below_via hHeld hb10
        have BX := BX.step hb10
        refine hK.out _ _ (by (repeat (with_reducible first | assumption | exact Below.refl _ _ | exact Nat.le_refl _ | apply Below.al | apply Below.dr | apply Below.st))) (fun hHeld => ?_)
        clear hK K
        try simp only [Act.put, List.setIfInBounds_toArray, List.set_cons_zero, List.set_cons_succ]
        refine wpAnyH_take (i := 5) (oi := { dst := some 27, op := Op.move (Operand.tmp 32), type := 81, pos := "law.go:17", after := #[{ on := 4, ground := Ground.data }], guard := none }) (v := ?_) rfl (by kernel_rfl) (by kernel_rfl) (by kernel_rfl) (fun _ _ _ h => h) (Or.inl ⟨by rfl, ?_⟩) (by assumption) ?_
        rotate_left
        · (intro W hW; (try dsimp only at hW); go_simp <;> (with_reducible rfl))
        try simp only [Act.put, List.setIfInBounds_toArray, List.set_cons_zero, List.set_cons_succ]
        refine wpAnyH_take (i := 6) (oi := { dst := some 33, op := Op.extract (Operand.tmp 27) 0, type := 75, pos := "law.go:17", after := #[{ on := 5, ground := Ground.data }], guard := none }) (v := ?_) rfl (by kernel_rfl) (by kernel_rfl) (by kernel_rfl) (fun _ _ _ h => h) (Or.inl ⟨by rfl, ?_⟩) (by assumption) ?_
        rotate_left
        · (intro W hW; (try dsimp only at hW); go_simp <;> (with_reducible rfl))
        try simp only [Act.put, List.setIfInBounds_toArray, List.set_cons_zero, List.set_cons_succ]
        refine wpAnyH_take (i := 7) (oi := { dst := some 34, op := Op.extract (Operand.tmp 27) 1, type := 32, pos := "law.go:17", after := #[{ on := 5, ground := Ground.data }, { on := 9, ground := Ground.gcOnly Departure.lateStores }], guard := none }) (v := ?_) rfl (by kernel_rfl) (by kernel_rfl) (by kernel_rfl) (fun _ _ _ h => h) (Or.inl ⟨by rfl, ?_⟩) (by assumption) ?_
        rotate_left
        · (intro W hW; (try dsimp only at hW); go_simp <;> (with_reducible rfl))
        try simp only [Act.put, List.setIfInBounds_toArray, List.set_cons_zero, List.set_cons_succ]
        refine wpAnyH_ready (rs := [9]) (by kernel_rfl) (by simp) (AllReadyH.cons (o := { dst := none, op := Op.store 75 (Operand.tmp 6) (Operand.tmp 33), type := 0, pos := "law.go:17", after := #[{ on := 8, ground := Ground.data }, { on := 6, ground := Ground.data }, { on := 4, ground := Ground.chain }, { on := 0, ground := Ground.phase }, { on := 1, ground := Ground.phase }, { on := 2, ground := Ground.phase }, { on := 3, ground := Ground.phase }, { on := 4, ground := Ground.phase }, { on := 5, ground := Ground.phase }, { on := 6, ground := Ground.phase }, { on := 7, ground := Ground.textOnly Departure.lateStores }, { on := 8, ground := Ground.phase }], guard := none }) rfl (fun K hK => ?_) AllReadyH.nil)
        have z0 := BX.cell 0 0 rfl rfl
        have u0 := BX.frozen 0 0 rfl
        have z1 := BX.cell 0 1 rfl rfl
        have u1 := BX.frozen 0 1 rfl
        have z2 := BX.cell 0 2 rfl rfl
        have u2 := BX.frozen 0 2 rfl
        have z3 := BX.cell 0 3 rfl rfl
        have u3 := BX.frozen 0 3 rfl
        have z4 := BX.cell 0 4 rfl rfl
        have u4 := BX.frozen 0 4 rfl
        have z5 := BX.cell 0 5 rfl rfl
        have u5 := BX.frozen 0 5 rfl
        (rw [if_pos (by rfl)]; go_wp2_with (fail))
        refine hK.out _ _ (by (repeat (with_reducible first | assumption | exact Below.refl _ _ | exact Nat.le_refl _ | apply Below.al | apply Below.dr | apply Below.st))) (fun hHeld => ?_)
        clear z0 u0 z1 u1 z2 u2 z3 u3 z4 u4 z5 u5
        clear hK K
        try simp only [Act.put, List.setIfInBounds_toArray, List.set_cons_zero, List.set_cons_succ]
        refine wpAnyH_take (i := 10) (oi := { dst := some 7, op := Op.assign (Operand.tmp 34), type := 32, pos := "law.go:17", after := #[{ on := 7, ground := Ground.data }, { on := 9, ground := Ground.chain }, { on := 0, ground := Ground.phase }, { on := 1, ground := Ground.phase }, { on := 2, ground := Ground.phase }, { on := 3, ground := Ground.phase }, { on := 4, ground := Ground.phase }, { on := 5, ground := Ground.phase }, { on := 6, ground := Ground.phase }, { on := 7, ground := Ground.phase }, { on := 8, ground := Ground.phase }, { on := 9, ground := Ground.phase }], guard := none }) (v := ?_) rfl (by kernel_rfl) (by kernel_rfl) (by kernel_rfl) (fun _ _ _ h => h) (Or.inl ⟨by rfl, ?_⟩) (by assumption) ?_
        rotate_left
        · (intro W hW; (try dsimp only at hW); go_simp <;> (with_reducible rfl))
        try simp only [Act.put, List.setIfInBounds_toArray, List.set_cons_zero, List.set_cons_succ]
        refine wpAnyH_done (by kernel_rfl) ?_ _
        refine NoPanic.normal ?_
        go_wp2_with fail
        go_meet
        have hend := viewbox_end BX hv10 (fun x hx hl e => by (subst e; obtain ⟨hx | hx, hx2⟩ := hx <;> omega))
        unfold set6 at hend
        exact ⟨_, _, v10, M, T, rfl, rfl, hend, i1, i3, i4, i5, I6.out, hHeld⟩
    · skip
      have BG := hHeld.size
      (rw [if_pos (by rfl)]; go_wp2_with (fail))
      refine hK.out _ _ (by (repeat (with_reducible first | assumption | exact Below.refl _ _ | exact Nat.le_refl _ | apply Below.al | apply Below.dr | apply Below.st))) (fun hHeld => ?_)
      have BX := (by with_reducible first | exact vbox_of hHeld | exact vbox_drew hHeld)
      clear hK K
      try simp only [Act.put, List.setIfInBounds_toArray, List.set_cons_zero, List.set_cons_succ]
      refine wpAnyH_ready (rs := [1]) (by kernel_rfl) (by simp) (AllReadyH.cons (o := { dst := some 29, op := Op.call { callee := Callee.value (Operand.func 24), args := #[Operand.const (Value.int IntKind.i64 0)], argTypes := #[3] }, type := 9, pos := "law.go:17", after := #[], guard := none }) rfl (fun K hK => ?_) AllReadyH.nil)
      have BL := BX.lt 0 rfl
      (rw [if_pos (by rfl)]; go_wp2_with (go_at_call 24; (with_reducible refine (CK _).mono ?_); rintro e w2 ⟨rfl, hb2⟩))
      have hH9 := below_via hHeld hb2
      have BX := BX.step hb2
      refine hK.out _ _ (by (repeat (with_reducible first | assumption | exact Below.refl _ _ | exact Nat.le_refl _ | apply Below.al | apply Below.dr | apply Below.st))) (fun hHeld => ?_)
      clear hK K
      try simp only [Act.put, List.setIfInBounds_toArray, List.set_cons_zero, List.set_cons_succ]
      refine wpAnyH_ready (rs := [3]) (by kernel_rfl) (by simp) (AllReadyH.cons (o := { dst := some 31, op := Op.call { callee := Callee.value (Operand.func 22), args := #[Operand.tmp 30], argTypes := #[64] }, type := 9, pos := "law.go:17", after := #[{ on := 2, ground := Ground.data }, { on := 1, ground := Ground.chain }], guard := none }) rfl (fun K hK => ?_) AllReadyH.nil)
      have BL := BX.lt 0 rfl
      (rw [if_pos (by rfl)]; go_wp2_with (go_at_call 22; (with_reducible refine (CP _).mono ?_); rintro e w3 ⟨rfl, hb3⟩))
      have hH9 := below_via hHeld hb3
      have BX := BX.step hb3
      refine hK.out _ _ (by (repeat (with_reducible first | assumption | exact Below.refl _ _ | exact Nat.le_refl _ | apply Below.al | apply Below.dr | apply Below.st))) (fun hHeld => ?_)
      clear hK K
      try simp only [Act.put, List.setIfInBounds_toArray, List.set_cons_zero, List.set_cons_succ]
      refine wpAnyH_ready (rs := [4]) (by kernel_rfl) (by simp) (AllReadyH.cons (o := { dst := some 32, op := Op.call { callee := Callee.value (Operand.func 34), args := #[Operand.tmp 28, Operand.const (Value.string { data := #[97] }), Operand.tmp 29, Operand.tmp 31], argTypes := #[75, 9, 9, 9] }, type := 81, pos := "law.go:17", after := #[{ on := 0, ground := Ground.data }, { on := 1, ground := Ground.data }, { on := 3, ground := Ground.data }, { on := 3, ground := Ground.chain }], guard := none }) rfl (fun K hK => ?_) AllReadyH.nil)
      have BL := BX.lt 0 rfl
      (rw [if_pos (by rfl)]; go_wp2_with (go_at_call 34; (with_reducible refine (CV _ ?_).mono ?_); (focus (with_reducible assumption)); rintro e w10 ⟨cs10, v10, M, T, rfl, hv10, i1, i2, i3, i4, i5, i6, hb10⟩; obtain ⟨g1, g2, g3, g4, g5, g6, g7, g8, g9, g10, ecs, -, -, -⟩ := hv10.raw; subst ecs; have hv10 := hv10.lt; have I6 := Lib.hid i6; clear i6; generalize v10.l.length = n10 at *))
      have hH9 := below_via hHeld hb10
      have BX := BX.step hb10
      refine hK.out _ _ (by (repeat (with_reducible first | assumption | exact Below.refl _ _ | exact Nat.le_refl _ | apply Below.al | apply Below.dr | apply Below.st))) (fun hHeld => ?_)
      clear hK K
      try simp only [Act.put, List.setIfInBounds_toArray, List.set_cons_zero, List.set_cons_succ]
      refine wpAnyH_take (i := 5) (oi := { dst := some 27, op := Op.move (Operand.tmp 32), type := 81, pos := "law.go:17", after := #[{ on := 4, ground := Ground.data }], guard := none }) (v := ?_) rfl (by kernel_rfl) (by kernel_rfl) (by kernel_rfl) (fun _ _ _ h => h) (Or.inl ⟨by rfl, ?_⟩) (by assumption) ?_
      rotate_left
      · (intro W hW; (try dsimp only at hW); go_simp <;> (with_reducible rfl))
      try simp only [Act.put, List.setIfInBounds_toArray, List.set_cons_zero, List.set_cons_succ]
      refine wpAnyH_take (i := 6) (oi := { dst := some 33, op := Op.extract (Operand.tmp 27) 0, type := 75, pos := "law.go:17", after := #[{ on := 5, ground := Ground.data }], guard := none }) (v := ?_) rfl (by kernel_rfl) (by kernel_rfl) (by kernel_rfl) (fun _ _ _ h => h) (Or.inl ⟨by rfl, ?_⟩) (by assumption) ?_
      rotate_left
      · (intro W hW; (try dsimp only at hW); go_simp <;> (with_reducible rfl))
      try simp only [Act.put, List.setIfInBounds_toArray, List.set_cons_zero, List.set_cons_succ]
      refine wpAnyH_take (i := 7) (oi := { dst := some 34, op := Op.extract (Operand.tmp 27) 1, type := 32, pos := "law.go:17", after := #[{ on := 5, ground := Ground.data }, { on := 9, ground := Ground.gcOnly Departure.lateStores }], guard := none }) (v := ?_) rfl (by kernel_rfl) (by kernel_rfl) (by kernel_rfl) (fun _ _ _ h => h) (Or.inl ⟨by rfl, ?_⟩) (by assumption) ?_
      rotate_left
      · (intro W hW; (try dsimp only at hW); go_simp <;> (with_reducible rfl))
      try simp only [Act.put, List.setIfInBounds_toArray, List.set_cons_zero, List.set_cons_succ]
      refine wpAnyH_ready (rs := [9]) (by kernel_rfl) (by simp) (AllReadyH.cons (o := { dst := none, op := Op.store 75 (Operand.tmp 6) (Operand.tmp 33), type := 0, pos := "law.go:17", after := #[{ on := 8, ground := Ground.data }, { on := 6, ground := Ground.data }, { on := 4, ground := Ground.chain }, { on := 0, ground := Ground.phase }, { on := 1, ground := Ground.phase }, { on := 2, ground := Ground.phase }, { on := 3, ground := Ground.phase }, { on := 4, ground := Ground.phase }, { on := 5, ground := Ground.phase }, { on := 6, ground := Ground.phase }, { on := 7, ground := Ground.textOnly Departure.lateStores }, { on := 8, ground := Ground.phase }], guard := none }) rfl (fun K hK => ?_) AllReadyH.nil)
      have z0 := BX.cell 0 0 rfl rfl
      have u0 := BX.frozen 0 0 rfl
      have z1 := BX.cell 0 1 rfl rfl
      have u1 := BX.frozen 0 1 rfl
      have z2 := BX.cell 0 2 rfl rfl
      have u2 := BX.frozen 0 2 rfl
      have z3 := BX.cell 0 3 rfl rfl
      have u3 := BX.frozen 0 3 rfl
      have z4 := BX.cell 0 4 rfl rfl
      have u4 := BX.frozen 0 4 rfl
      have z5 := BX.cell 0 5 rfl rfl
      have u5 := BX.frozen 0 5 rfl
      (rw [if_pos (by rfl)]; go_wp2_with (fail))
      refine hK.out _ _ (by (repeat (with_reducible first | assumption | exact Below.refl _ _ | exact Nat.le_refl _ | apply Below.al | apply Below.dr | apply Below.st))) (fun hHeld => ?_)
      clear z0 u0 z1 u1 z2 u2 z3 u3 z4 u4 z5 u5
      clear hK K
      try simp only [Act.put, List.setIfInBounds_toArray, List.set_cons_zero, List.set_cons_succ]
      refine wpAnyH_take (i := 10) (oi := { dst := some 7, op := Op.assign (Operand.tmp 34), type := 32, pos := "law.go:17", after := #[{ on := 7, ground := Ground.data }, { on := 9, ground := Ground.chain }, { on := 0, ground := Ground.phase }, { on := 1, ground := Ground.phase }, { on := 2, ground := Ground.phase }, { on := 3, ground := Ground.phase }, { on := 4, ground := Ground.phase }, { on := 5, ground := Ground.phase }, { on := 6, ground := Ground.phase }, { on := 7, ground := Ground.phase }, { on := 8, ground := Ground.phase }, { on := 9, ground := Ground.phase }], guard := none }) (v := ?_) rfl (by kernel_rfl) (by kernel_rfl) (by kernel_rfl) (fun _ _ _ h => h) (Or.inl ⟨by rfl, ?_⟩) (by assumption) ?_
      rotate_left
      · (intro W hW; (try dsimp only at hW); go_simp <;> (with_reducible rfl))
      try simp only [Act.put, List.setIfInBounds_toArray, List.set_cons_zero, List.set_cons_succ]
      refine wpAnyH_done (by kernel_rfl) ?_ _
      refine NoPanic.normal ?_
      go_wp2_with fail
      go_meet
      have hend := viewbox_end BX hv10 (fun x hx hl e => by (subst e; obtain ⟨hx | hx, hx2⟩ := hx <;> omega))
      unfold set6 at hend
      exact ⟨_, _, v10, M, T, rfl, rfl, hend, i1, i3, i4, i5, I6.out, hHeld⟩
  case rest =>
    obtain ⟨b9, cs9, v9, M, T, rfl, rfl, hvb, hlv9, hM9, hwT, hE9, hl9, hb9⟩ := hcut
    have hvo := hvb.on
    obtain ⟨p1, q1, p2, l2, q2, p3, l3, q3, p4, q4, ecs, -, htab, -⟩ := hvo.raw
    subst ecs
    have hnx : nextF v9.l = some 1 := by rw [hl9]; unfold nextF; simp [hE9]
    have CN := rnext_any (v := v9) (d0 := .int .i64 v9.dir.page) (d1 := .bool v9.dir.isLeaf) (d2 := .slice p1 (cntT v9.dir) q1) (d3 := .slice p2 l2 q2) (d4 := .slice p3 l3 q3) htab (by rw [hl9]; simp) (by rw [hl9]; intro b hb; simp at hb; subst hb; simp [hE9])
    rw [hnx] at CN
    have hpos : posK [97] (v9.l.map (·.name)) = 0 := by
      rw [hl9]
      exact posK_eq (by simp) (fun j hj => by omega) (fun _ => by simp [klt_irrefl])
    have hlen1 : v9.l.length ≤ 1000 := by rw [hl9]; simp
    have hsort : (v9.l.map (·.name)).Pairwise (fun a b => a < b) := by rw [hl9]; simp
    have hb0 : v9.l[0]? = some ⟨[97], M, T⟩ := by rw [hl9]; rfl
    have hposR : (entsT M T).drop (posK (keyB 0) (keysOf (entsT M T))) = [(keyB 0, (⟨RB, []⟩ : Tv))] := by
      rw [hE9]
      rw [show posK (keyB 0) (keysOf [(keyB 0, (⟨RB, []⟩ : Tv))]) = 0 from posK_eq (by simp) (fun j hj => by omega) (fun _ => by simp [keysOf, klt_irrefl])]
      rfl
    have CL := fun (Wk : World) (hk : Below wc.heap.size wc Wk) => rlist_of (w := Wk) (d0 := .int .i64 v9.dir.page) (d1 := .bool v9.dir.isLeaf) (d2 := .slice p1 (cntT v9.dir) q1) (d3 := .slice p2 l2 q2) (d4 := .slice p3 l3 q3) (a := p4) (n := v9.l.length) (c := q4) (R := [(keyB 0, (⟨RB, []⟩ : Tv))]) 0 9 (by decide) (fun W hW => (scan_any (F := fun x => x < wc.heap.size) (fun x hx => Nat.lt_of_lt_of_le hx (below_via hk hW).size) (hvo.below (below_via hk hW)) hlen1 hsort [97] hpos hb0 rfl hwT (show M ≤ 200 by omega) (keyB 0) 9 hposR (by simp)).mono fun e w' h => ScanTo.some h) (by simp) (by intro x hx; simp at hx; subst hx; simp; omega)
    have hdat : datas [(keyB 0, (⟨RB, []⟩ : Tv))] = [RB] := rfl
    have herr : errL [RB] = 0 := errL_all (by intro d hd; simp at hd; subst hd; exact HE0.out)
    have hrec : recL [RB] = [exRc] := by unfold recL; rw [if_pos herr]; simp [HR0.out]
    rw [hdat] at CL
    have HERR := Lib.hid herr
    have HREC := Lib.hid hrec
    have HX9 := Lib.hid (HX8.out.step hb9)
    have HB9 := Lib.hid (below_via HB8.out hb9)
    have c0 := hvb.2.1.cell 0 0 rfl rfl
    have c1 := hvb.2.1.cell 0 1 rfl rfl
    have c2 := hvb.2.1.cell 0 2 rfl rfl
    have c3 := hvb.2.1.cell 0 3 rfl rfl
    have c4 := hvb.2.1.cell 0 4 rfl rfl
    have c5 := hvb.2.1.cell 0 5 rfl rfl
    have HVB := Lib.hid hvb.2.1
    generalize v9.l.length = n9 at *
    generalize v9.dir.page = pg9 at *
    generalize v9.dir.isLeaf = lf9 at *
    generalize cntT v9.dir = cn9 at *
    clear hvb hvo htab hnx hpos hlen1 hsort hb0 hposR hdat herr hrec hl9 hE9 hwT hlv9 hM9 hb9 CV CP t0 t1 t2 t3 t4 t5 r0 r1 r2 r3 r4 r5 hB0 hv8 hlv7 hwh7 hl7 CK
    go_wp2_with fail
    refine CN.mono ?_
    rintro e w10 ⟨rfl, hb10⟩
    clear CN c0 c1 c2 c3 c4 c5
    have hS1 : (Option.some 1).getD 0 = 1 := rfl
    dsimp only [Option.getD_some, Option.isSome_some]
    go_wp2_with fail
    refine (vempty_any w10 (fun _ => False)).mono ?_
    rintro e w11 ⟨e1, f1, e2, f2, e3, f3, rfl, hn11, hb11⟩
    have CN2 := rnext_any (F := fun _ => False) (w := w11) (v := ⟨1, .leaf 0 [], []⟩) (d0 := .int .i64 0) (d1 := .bool true) (d2 := .slice e1 0 f1) (d3 := .slice e2 0 f2) (d4 := .slice e3 0 f3) (a := none) (c := 0) ⟨rfl, Nat.le_refl _, by unfold maxLen; omega, fun _ => rfl, .inl rfl⟩ (by simp) (by simp)
    clear hn11
    go_wp2_with fail
    refine CN2.mono ?_
    rintro e w12 ⟨rfl, hb12⟩
    have hb12' := below_via hb10 (below_via hb11 hb12)
    have hv12 := HVB.out.step hb12'
    have c0 := hv12.cell 0 0 rfl rfl
    have c1 := hv12.cell 0 1 rfl rfl
    have c2 := hv12.cell 0 2 rfl rfl
    have c3 := hv12.cell 0 3 rfl rfl
    have c4 := hv12.cell 0 4 rfl rfl
    have c5 := hv12.cell 0 5 rfl rfl
    have CL := CL w12 hb12'
    clear CN2 hb10 hb11 hb12 hv12
    dsimp only [nextF, Option.getD_none, Option.isSome_none]
    go_wp2_with fail
    refine CL.mono ?_
    rintro e w13 ⟨a13, c13, he13, ho13, hb13⟩
    rw [HREC.out] at he13 ho13
    rw [HERR.out] at he13
    subst he13
    have hrcC : rcC exRc = [.int .i64 2, .int .i64 1, .int .i64 0, .string ⟨#[98]⟩, .string ⟨#[107]⟩, .int .u32 (dg : Int)] := congrArg (fun v => match v with | .agg a => a.toList | _ => []) HRV.out
    obtain ⟨a', c', e13, hraw⟩ := Raw.of_own (L := [rCell exRc]) ho13 rfl
    cases e13
    obtain ⟨gb, off, y, cs9, rfl, hgb, hy, _, hcs, hcell⟩ := TabR.at hraw (k := 0) (by decide)
    have hy' : rCell exRc = y := by simpa using hy
    subst hy'
    have hcs' : cs9 = [.int .i64 2, .int .i64 1, .int .i64 0, .string ⟨#[98]⟩, .string ⟨#[107]⟩, .int .u32 (dg : Int)] := by rw [← hrcC]; exact hcs.symm ▸ rfl
    subst hcs'
    simp only [Nat.zero_mul, Nat.add_zero] at hcell
    have hx13 := HX9.out.step (below_via hb12' hb13)
    have l0 : ∀ W, Below w13.heap.size w13 W → W.cell? ⟨gb, off, none⟩ = some (.int .i64 2) := fun W hW => (hW.cell (p := ⟨gb, off, none⟩) hgb).trans (hcell 0 _ rfl)
    have l1 : ∀ W, Below w13.heap.size w13 W → W.cell? ⟨gb, off + 1, none⟩ = some (.int .i64 1) := fun W hW => (hW.cell (p := ⟨gb, off + 1, none⟩) hgb).trans (hcell 1 _ rfl)
    have l2' : ∀ W, Below w13.heap.size w13 W → W.cell? ⟨gb, off + 2, none⟩ = some (.int .i64 0) := fun W hW => (hW.cell (p := ⟨gb, off + 2, none⟩) hgb).trans (hcell 2 _ rfl)
    have l3' : ∀ W, Below w13.heap.size w13 W → W.cell? ⟨gb, off + 3, none⟩ = some (.string ⟨#[98]⟩) := fun W hW => (hW.cell (p := ⟨gb, off + 3, none⟩) hgb).trans (hcell 3 _ rfl)
    have l4 : ∀ W, Below w13.heap.size w13 W → W.cell? ⟨gb, off + 4, none⟩ = some (.string ⟨#[107]⟩) := fun W hW => (hW.cell (p := ⟨gb, off + 4, none⟩) hgb).trans (hcell 4 _ rfl)
    have l5 : ∀ W, Below w13.heap.size w13 W → W.cell? ⟨gb, off + 5, none⟩ = some (.int .u32 (dg : Int)) := fun W hW => (hW.cell (p := ⟨gb, off + 5, none⟩) hgb).trans (hcell 5 _ rfl)
    have r0 : ∀ W, Below w13.heap.size w13 W → W.cell? ⟨w1.heap.size, 0, none⟩ = some (.int .i64 2) := fun W hW => (hx13.step hW).cell 2 0 rfl rfl
    have r1 : ∀ W, Below w13.heap.size w13 W → W.cell? ⟨w1.heap.size, 1, none⟩ = some (.int .i64 1) := fun W hW => (hx13.step hW).cell 2 1 rfl rfl
    have r2 : ∀ W, Below w13.heap.size w13 W → W.cell? ⟨w1.heap.size, 2, none⟩ = some (.int .i64 0) := fun W hW => (hx13.step hW).cell 2 2 rfl rfl
    have r3 : ∀ W, Below w13.heap.size w13 W → W.cell? ⟨w1.heap.size, 3, none⟩ = some (.string ⟨#[98]⟩) := fun W hW => (hx13.step hW).cell 2 3 rfl rfl
    have r4 : ∀ W, Below w13.heap.size w13 W → W.cell? ⟨w1.heap.size, 4, none⟩ = some (.string ⟨#[107]⟩) := fun W hW => (hx13.step hW).cell 2 4 rfl rfl
    have r5 : ∀ W, Below w13.heap.size w13 W → W.cell? ⟨w1.heap.size, 5, none⟩ = some (.int .u32 (dg : Int)) := fun W hW => (hx13.step hW).cell 2 5 rfl rfl
    have s0 : ∀ W, Below w13.heap.size w13 W → W.cell? ⟨w4.heap.size, 0, none⟩ = some (.int .i64 2) := fun W hW => (hx13.step hW).cell 1 0 rfl rfl
    have s1 : ∀ W, Below w13.heap.size w13 W → W.cell? ⟨w4.heap.size, 1, none⟩ = some (.int .i64 1) := fun W hW => (hx13.step hW).cell 1 1 rfl rfl
    have s2 : ∀ W, Below w13.heap.size w13 W → W.cell? ⟨w4.heap.size, 2, none⟩ = some (.int .i64 0) := fun W hW => (hx13.step hW).cell 1 2 rfl rfl
    have s3 : ∀ W, Below w13.heap.size w13 W → W.cell? ⟨w4.heap.size, 3, none⟩ = some (.string ⟨#[98]⟩) := fun W hW => (hx13.step hW).cell 1 3 rfl rfl
    have s4 : ∀ W, Below w13.heap.size w13 W → W.cell? ⟨w4.heap.size, 4, none⟩ = some (.string ⟨#[107]⟩) := fun W hW => (hx13.step hW).cell 1 4 rfl rfl
    have s5 : ∀ W, Below w13.heap.size w13 W → W.cell? ⟨w4.heap.size, 5, none⟩ = some (.int .u32 (dg : Int)) := fun W hW => (hx13.step hW).cell 1 5 rfl rfl
    have HBW := Lib.hid (below_via HB9.out (below_via hb12' hb13))
    have CK : ∀ W, Calls Tryz.prog 24 #[.int .i64 1] W (RetStr W [0, 0, 0, 0, 0, 0, 0, 1]) := fun W => by
      have := key_any 1 W
      rwa [key1] at this
    have CU : ∀ W, Calls Tryz.prog 28 #[.string ⟨#[120]⟩] W fun e w' => e = .returned (.string (strOf [98, 120])) ∧ W = w' := fun W => user_any [120] W (by simp)
    have hEq : ∀ W, (binOp .eql 64 (.agg #[.int .i64 2, .int .i64 1, .int .i64 0, .string ⟨#[98]⟩, .string ⟨#[107]⟩, .int .u32 (dg : Int)]) (.agg #[.int .i64 2, .int .i64 1, .int .i64 0, .string ⟨#[98]⟩, .string ⟨#[107]⟩, .int .u32 (dg : Int)])).run Tryz.prog W = .ok (.bool true) W := fun W => by
      have := rcsame exRc exRc W
      rw [HRV.out, (rcEq_iff _ _).2 rfl] at this
      exact this
    have hB0 : Below w13.heap.size w13 w13.drew := Below.dr (Below.refl _ _)
    have hst := strOf_toList
    clear hraw hcell hcs hy ho13 hx13 hb13 hb12' hrcC c0 c1 c2 c3 c4 c5 CL
    go_upto_region 8 with (fail)
    go_region_held3 (fun W => Below w13.heap.size w13 W) (first | with_reducible assumption | (repeat (with_reducible first | assumption | exact Below.refl _ _ | apply Below.al | apply Below.dr))) (first | (go_at_call 24; (with_reducible refine (CK _).mono ?_); rintro e w14 ⟨rfl, hb14⟩; have hB14 : Below w13.heap.size w13 w14 := below_via (by (repeat (with_reducible first | assumption | exact Below.refl _ _ | apply Below.al | apply Below.dr))) hb14) | (go_at_call 28; (with_reducible refine (CU _).mono ?_); rintro e w15 ⟨rfl, rfl⟩))
    go_wp2_with fail
    go_ret
    exact ⟨rfl, below_via HBW.out hB14⟩
end Go.Proofs.YtpghlmcoajaiiaaGreatDoor
