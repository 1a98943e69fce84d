/- The law RecordGrows: the walk. -/
import Derived.Test.YtpghlmcoajaiiaaDoorM13
import Derived.Test.YtpghlmcoajaiiaaDoorRecVq
import Derived.Test.YtpghlmcoajaiiaaDoorRecOq
import Derived.Test.YtpghlmcoajaiiaaDoorRecL1q
namespace Go.Proofs.YtpghlmcoajaiiaaDoor
open Go.RowKit

/-- A view with the list's bucket and one of a session's. -/
def Grow (E : List (List UInt8 × Tv)) (A B C : Nat) (v : Vw) : Prop := v.lv ≤ A ∧ Whole v.lv v.dir ∧ ∃ M T N U, v.l = [⟨[97], M, T⟩, ⟨[98, 97], N, U⟩] ∧ M ≤ B ∧ N ≤ C ∧ Whole M T ∧ Whole N U ∧ (entsT N U).length ≤ C ∧ entsT M T = E
theorem put_few (key : List UInt8) (v : Tv) : ∀ (A : List (List UInt8 × Tv)) {k : Nat}, A.length ≤ k → (putL key v A).length ≤ k + 1
  | [], k, _ => by unfold putL; simp
  | c :: r, k, h => by
    have hr : r.length + 1 ≤ k := by simpa using h
    unfold putL
    split
    · have := put_few key v r (k := k - 1) (by omega)
      simp; omega
    · split <;> simp <;> omega
theorem Grow.facts {E : List (List UInt8 × Tv)} {A B C : Nat} {v : Vw} (h : Grow E A B C v) : v.l.length = 2 ∧ (v.l.map (·.name)).Pairwise (fun a b => a < b) ∧ posK [97] (v.l.map (·.name)) = 0 ∧ posK [98, 97] (v.l.map (·.name)) = 1 ∧ nextF v.l = some E.length := by
  obtain ⟨_, _, M, T, N, U, e, _, _, _, _, _, hE⟩ := h
  rw [e]
  refine ⟨rfl, by simp; decide, ?_, ?_, ?_⟩
  · exact posK_eq (by simp) (fun j hj => by omega) (fun _ => by simp [klt_irrefl])
  · exact posK_eq (by simp) (fun j hj => by obtain rfl : j = 0 := by omega
                                            show ([97] : List UInt8) < [98, 97]; decide) (fun _ => by simp [klt_irrefl])
  · unfold nextF; simp [hE]
theorem grow_put_a {F : Nat → Prop} {w : World} {cs : List Value} {v : Vw} {E : List (List UInt8 × Tv)} {A B C : Nat} (hF : ∀ x, F x → x < w.heap.size) (h : ViewOn F w cs v) (hg : Grow E A B C v) {key d : List UInt8} (hkey : keyOk key) (hd : d.length ≤ 400) :
    Calls Tryd.prog 10 #[.agg cs.toArray, .string ⟨#[97]⟩, .string (strOf key), .string (strOf d)] w fun e w' => ∃ cs' v', e = .returned (.tuple #[.agg cs'.toArray, .int .i64 0]) ∧ ViewOn (Fr F w) w' cs' v' ∧ Grow (putL key ⟨d, []⟩ E) (A + 1) (B + 1) C v' ∧ Below w.heap.size w w' := by
  obtain ⟨f1, f2, f3, f4, _⟩ := hg.facts
  obtain ⟨h1, h2, M, T, N, U, e, h3, h4, h5, h6, h8, h7⟩ := hg
  refine (vput_any hF h h2 (by omega) f2 [97] ⟨by simp, by simp⟩ f3 (bk := ⟨[97], M, T⟩) (by rw [e]; rfl) rfl h5 hkey hd).mono ?_
  rintro er w' ⟨cs', v', M', rfl, g1, g2, _, g3, g4, g5, g6, g7, g8⟩
  have g4' : M' ≤ M + 1 := g4
  exact ⟨cs', v', rfl, g1, ⟨by omega, g3, M', _, N, U, by rw [g7, e]; rfl, by omega, h4, g5, h6, h8, by rw [g6, h7]⟩, g8⟩
theorem grow_put_b {F : Nat → Prop} {w : World} {cs : List Value} {v : Vw} {E : List (List UInt8 × Tv)} {A B C : Nat} (hF : ∀ x, F x → x < w.heap.size) (h : ViewOn F w cs v) (hg : Grow E A B C v) {key d : List UInt8} (hkey : keyOk key) (hd : d.length ≤ 400) :
    Calls Tryd.prog 10 #[.agg cs.toArray, .string (strOf [98, 97]), .string (strOf key), .string (strOf d)] w fun e w' => ∃ cs' v', e = .returned (.tuple #[.agg cs'.toArray, .int .i64 0]) ∧ ViewOn (Fr F w) w' cs' v' ∧ Grow E (A + 1) B (C + 1) v' ∧ Below w.heap.size w w' := by
  obtain ⟨f1, f2, f3, f4, _⟩ := hg.facts
  obtain ⟨h1, h2, M, T, N, U, e, h3, h4, h5, h6, h8, h7⟩ := hg
  refine (vput_any hF h h2 (by omega) f2 [98, 97] ⟨by simp, by simp⟩ f4 (bk := ⟨[98, 97], N, U⟩) (by rw [e]; rfl) rfl h6 hkey hd).mono ?_
  rintro er w' ⟨cs', v', M', rfl, g1, g2, _, g3, g4, g5, g6, g7, g8⟩
  have g4' : M' ≤ N + 1 := g4
  exact ⟨cs', v', rfl, g1, ⟨by omega, g3, M, T, M', _, by rw [g7, e]; rfl, h3, by omega, h5, g5, by rw [g6]; exact put_few _ _ _ h8, h7⟩, g8⟩
theorem grow_make {F : Nat → Prop} {w : World} {cs : List Value} {v : Vw} (hF : ∀ x, F x → x < w.heap.size) (h : ViewOn F w cs v) (hlv : v.lv ≤ 2) (hw : Whole v.lv v.dir) (hl : v.l = [⟨[97], 1, .leaf 0 []⟩]) :
    Calls Tryd.prog 6 #[.agg cs.toArray, .string (strOf [98, 97])] w fun e w' => ∃ cs' v', e = .returned (.tuple #[.agg cs'.toArray, .int .i64 0]) ∧ ViewOn (Fr F w) w' cs' v' ∧ Grow [] 3 1 1 v' ∧ Below w.heap.size w w' := by
  have hp : posK [98, 97] (v.l.map (·.name)) = v.l.length := by
    rw [hl]
    refine posK_eq (i := 1) (by simp) (fun j hj => ?_) (fun hj => by simp at hj)
    obtain rfl : j = 0 := by omega
    show ([97] : List UInt8) < [98, 97]
    decide
  refine (vmake_any hF h hw (by rw [hl]; simp) (by rw [hl]; simp) [98, 97] ⟨by simp, by simp⟩ hp).mono ?_
  rintro e w' ⟨cs', v', rfl, g1, g2, _, g3, g4, g5⟩
  exact ⟨cs', v', rfl, g1, ⟨by omega, g3, 1, .leaf 0 [], 1, .leaf 0 [], by rw [g4, hl]; rfl, Nat.le_refl _, Nat.le_refl _, whole_empty, whole_empty, Nat.zero_le _, rfl⟩, g5⟩
/-- A view in a box of its own, on none of some other blocks. -/
def ViewBoxG (G : Nat → Prop) (w : World) (b : Nat) (cs : List Value) (v : Vw) : Prop := cs.length = 6 ∧ Boxes w [(b, cs)] ∧ ViewOn (fun x => (x < w.heap.size ∧ x ≠ b) ∧ G x) w cs v
theorem viewbox_endG {F G : Nat → Prop} {w : World} {b : Nat} {x0 x1 x2 x3 x4 x5 y0 y1 y2 y3 y4 y5 : Value} {v : Vw} (hx : Boxes w [(b, [x0, x1, x2, x3, x4, x5])]) (hv : ViewOn F w [y0, y1, y2, y3, y4, y5] v) (hne : ∀ x, F x → x < w.heap.size → x ≠ b ∧ G x) : ViewBoxG G (set6 w b y0 y1 y2 y3 y4 y5) b [y0, y1, y2, y3, y4, y5] v := by
  refine ⟨rfl, set6_box hx (by simp) _ _ _ _ _ _, ?_⟩
  have h1 : ViewOn (fun x => (x < w.heap.size ∧ x ≠ b) ∧ G x) w [y0, y1, y2, y3, y4, y5] v := hv.lt.mono fun x h => ⟨⟨h.2, (hne x h.1 h.2).1⟩, (hne x h.1 h.2).2⟩
  have h2 := h1.agree (set6_agree (F := fun x => (x < w.heap.size ∧ x ≠ b) ∧ G x) (b := b) (fun h => h.1.2 rfl) y0 y1 y2 y3 y4 y5)
  exact h2.mono fun x h => ⟨⟨by unfold set6; simpa [World.setCell] using h.1.1, h.1.2⟩, h.2⟩
theorem viewbox_newG {F G : Nat → Prop} {w : World} (t : TypeId) {y0 y1 y2 y3 y4 y5 : Value} {v : Vw} (hv : ViewOn F w [y0, y1, y2, y3, y4, y5] v) (hne : ∀ x, F x → x < w.heap.size → G x) : ViewBoxG G (w.alloc (.cells #[y0, y1, y2, y3, y4, y5] t)) w.heap.size [y0, y1, y2, y3, y4, y5] v := by
  refine ⟨rfl, (Boxes.nil w).alloc #[y0, y1, y2, y3, y4, y5] t (b := w.heap.size) rfl, (hv.lt.below (Below.al (o := .cells #[y0, y1, y2, y3, y4, y5] t) (Below.refl _ _))).mono fun x h => ⟨⟨?_, ?_⟩, hne x h.1 h.2⟩⟩
  · have := h.2; simp; omega
  · have := h.2; omega
theorem ViewBox.free {w : World} {b : Nat} {cs : List Value} {v : Vw} (h : ViewBox w b cs v) : ViewOn (fun x => x < w.heap.size ∧ x ≠ b) w cs v := h.2.2
theorem rcne (r : RcD) (w : World) : (binOp .neq 39 (rcV r) (rcV r)).run Tryd.prog w = .ok (.bool false) w := by
  obtain ⟨a1, a2, a3, a4, a5, a6⟩ := r
  unfold rcV
  simp [go_sem]
set_option maxRecDepth 100000 in
set_option maxHeartbeats 4000000 in
set_option maxRecDepth 100000 in
theorem lGrows (a : Option Addr) (n c : Nat) (l : List RcD) (a1 a2 : Int) (w : World) (hl : TabR 6 IsRc w a n c l) (hf8 : (Lit.int .u8 a1).wf = true) (hm8 : (Lit.int .u8 a2).wf = true) (hT : Half w) :
    Calls Tryd.prog 3 #[.slice a n c, .int .u8 a1, .int .u8 a2] w fun e w' => e = .returned (.bool true) ∧ Below w.heap.size w w' := by
  have AW := awake25 hT
  obtain ⟨q1, q2, q3⟩ := hl.lens
  obtain ⟨f, rfl⟩ : ∃ k : Nat, a1 = (k : Int) := by
    simp [Lit.wf, IntKind.min, IntKind.max, IntKind.signed, IntKind.bits] at hf8
    exact ⟨a1.toNat, by omega⟩
  obtain ⟨m, rfl⟩ : ∃ k : Nat, a2 = (k : Int) := by
    simp [Lit.wf, IntKind.min, IntKind.max, IntKind.signed, IntKind.bits] at hm8
    exact ⟨a2.toNat, by omega⟩
  have hf : f < 256 := by
    simp [Lit.wf, IntKind.min, IntKind.max, IntKind.signed, IntKind.bits] at hf8
    omega
  have hm : m < 256 := by
    simp [Lit.wf, IntKind.min, IntKind.max, IntKind.signed, IntKind.bits] at hm8
    omega
  clear hf8 hm8
  have HL := Lib.hid hl
  have HN := Lib.hid q1
  by_cases hn40 : 40 < n
  · have d0 : decide ((40 : Int) < (n : Int)) = true := by simp; omega
    clear hl q1
    go_enter Tryd.func3, Tryd.ntmps3
    go_wp2_with fail
    refine AW.mono ?_
    rintro e w1 ⟨rfl, hb1⟩
    go_wp2_with fail
    go_ret
    exact ⟨rfl, hb1⟩
  have d0 : decide ((40 : Int) < (n : Int)) = false := by simp; omega
  clear hl q1
  go_enter Tryd.func3, Tryd.ntmps3
  go_wp2_with fail
  refine AW.mono ?_
  rintro e w1 ⟨rfl, hb1⟩
  clear AW
  go_wp2_with fail
  refine (vempty_any w1 (fun _ => False)).mono ?_
  rintro e w6 ⟨e1, c1, e2, c2, e3, c3, rfl, hn6, hb6⟩
  have CM := make_first hn6 [97] ⟨by simp, by simp⟩
  have hb16 := below_via hb1 hb6
  clear hn6 hb6
  go_wp2_with fail
  refine CM.mono ?_
  rintro e w7 ⟨cs7, v7, rfl, hv7, hlv7, hwh7, hl7, hb7⟩
  obtain ⟨p1, q1, p2, l2, q2', p3, l3, q3', p4, q4, ecs, -, -, -⟩ := hv7.raw
  subst ecs
  obtain ⟨m7, hm7⟩ : ∃ z, v7.l.length = z := ⟨_, rfl⟩
  obtain ⟨pg, hpg⟩ : ∃ z, v7.dir.page = z := ⟨_, rfl⟩
  obtain ⟨lf, hlf⟩ : ∃ z, v7.dir.isLeaf = z := ⟨_, rfl⟩
  obtain ⟨cn, hcn⟩ : ∃ z, cntT v7.dir = z := ⟨_, rfl⟩
  rw [hm7, hpg, hlf, hcn] at hv7 ⊢
  have hb17 := below_via hb16 hb7
  clear hb16 hb7 CM hm7 hpg hlf hcn hb1
  obtain ⟨W8, hW8⟩ : ∃ x, x = w7.alloc (.cells #[.int .i64 pg, .bool lf, .slice p1 cn q1, .slice p2 l2 q2', .slice p3 l3 q3', .slice p4 m7 q4] 31) := ⟨_, rfl⟩
  have hvb8 : ViewBox W8 w7.heap.size [.int .i64 pg, .bool lf, .slice p1 cn q1, .slice p2 l2 q2', .slice p3 l3 q3', .slice p4 m7 q4] v7 := by
    rw [hW8]
    exact viewbox_new 31 hv7
  have hb78 : Below w7.heap.size w7 W8 := by rw [hW8]; exact Below.al (Below.refl _ _)
  have HB8 := Lib.hid (below_via hb17 hb78)
  have HW7 := Lib.hid hb17.size
  have HVB := Lib.hid hvb8
  have HS8 : Hid (w7.heap.size < W8.heap.size) := Lib.hid (hvb8.2.1.lt 0 rfl)
  go_upto_region 7 with (fail)
  rw [← hW8]
  clear hW8 hv7 hb17 hb78 hvb8
  obtain ⟨b8, hb8⟩ : ∃ z, w7.heap.size = z := ⟨_, rfl⟩
  rw [hb8] at HVB HS8 HW7
  try rw [hb8]
  clear hb8
  have hwb8 := HW7.out
  have hlt8 := HS8.out
  have HX8 := Lib.hid HVB.out.2.1
  have t0 := HX8.out.cell 0 0 rfl rfl
  have t1 := HX8.out.cell 0 1 rfl rfl
  have t2 := HX8.out.cell 0 2 rfl rfl
  have t3 := HX8.out.cell 0 3 rfl rfl
  have t4 := HX8.out.cell 0 4 rfl rfl
  have t5 := HX8.out.cell 0 5 rfl rfl
  have CU : ∀ W, Calls Tryd.prog 8 #[.string ⟨#[97]⟩] W fun e w' => e = .returned (.string (strOf [98, 97])) ∧ W = w' := fun W => user_any [97] W (by simp)
  have CM : ∀ W, Below W8.heap.size W8 W → Calls Tryd.prog 6 #[.agg #[.int .i64 pg, .bool lf, .slice p1 cn q1, .slice p2 l2 q2', .slice p3 l3 q3', .slice p4 m7 q4], .string (strOf [98, 97])] W fun e w' => ∃ cs' v', e = .returned (.tuple #[.agg cs'.toArray, .int .i64 0]) ∧ ViewOn (Fr (fun x => x < W8.heap.size ∧ x ≠ b8) W) w' cs' v' ∧ Grow [] 3 1 1 v' ∧ Below W.heap.size W w' := fun W hW =>
    grow_make (fun x hx => Nat.lt_of_lt_of_le hx.1 hW.size) (HVB.out.free.below hW) hlv7 hwh7 hl7
  have hA0 : AgreeF (fun x => x ≠ b8) W8 W8.drew := AgreeF.dr (AgreeF.refl _)
  go_cut [8] (fun s8 wx => s8 = .pointer (some ⟨b8, 0, none⟩) ∧ ∃ cs v, ViewBox wx b8 cs v ∧ Grow [] 3 1 1 v ∧ Below w.heap.size w wx)
  case first =>
    refine wp_region_noPanic ?_
    refine wp_region_held_drew (S := (fun W => AgreeF (fun x => x ≠ b8) W8 W)) (by kernel_rfl) (by (repeat (with_reducible first | assumption | exact AgreeF.refl _ | apply AgreeF.al | apply AgreeF.dr | apply AgreeF.st))) (fun hHeld => ?_)
    refine wpAnyH_ready (rs := [0, 1]) (by kernel_rfl) (by simp) (AllReadyH.cons (o := { dst := some 32, op := Op.load 31 (Operand.tmp 8), type := 31, pos := "law.go:85", after := #[], guard := none }) rfl (fun K hK => ?_) (AllReadyH.cons (o := { dst := some 33, op := Op.call { callee := Callee.value (Operand.func 8), args := #[Operand.const (Value.string { data := #[97] })], argTypes := #[9] }, type := 9, pos := "law.go:85", after := #[], guard := none }) rfl (fun K hK => ?_) AllReadyH.nil))
    · (rw [if_pos (by rfl)]; go_wp2_with (fail))
      refine hK.out _ _ (by (repeat (with_reducible first | assumption | exact AgreeF.refl _ | apply AgreeF.al | apply AgreeF.dr | apply AgreeF.st))) (fun hHeld => ?_)
      clear hK K
      try simp only [Act.put, List.setIfInBounds_toArray, List.set_cons_zero, List.set_cons_succ]
      refine wpAnyH_ready (rs := [1]) (by kernel_rfl) (by simp) (AllReadyH.cons (o := { dst := some 33, op := Op.call { callee := Callee.value (Operand.func 8), args := #[Operand.const (Value.string { data := #[97] })], argTypes := #[9] }, type := 9, pos := "law.go:85", after := #[], guard := none }) rfl (fun K hK => ?_) AllReadyH.nil)
      (rw [if_pos (by rfl)]; go_wp2_with (go_at_call 8; (with_reducible refine (CU _).mono ?_); rintro e wu ⟨rfl, rfl⟩))
      refine hK.out _ _ (by (repeat (with_reducible first | assumption | exact AgreeF.refl _ | apply AgreeF.al | apply AgreeF.dr | apply AgreeF.st))) (fun hHeld => ?_)
      clear hK K
      try simp only [Act.put, List.setIfInBounds_toArray, List.set_cons_zero, List.set_cons_succ]
      refine wpAnyH_ready (rs := [2]) (by kernel_rfl) (by simp) (AllReadyH.cons (o := { dst := some 34, op := Op.call { callee := Callee.value (Operand.func 6), args := #[Operand.tmp 32, Operand.tmp 33], argTypes := #[31, 9] }, type := 33, pos := "law.go:85", after := #[{ on := 0, ground := Ground.data }, { on := 1, ground := Ground.data }, { on := 1, ground := Ground.chain }], guard := none }) rfl (fun K hK => ?_) AllReadyH.nil)
      (rw [if_pos (by rfl)]; go_wp2_with (go_at_call 6; (with_reducible refine (CM _ ?_).mono ?_); (focus (repeat (with_reducible first | assumption | exact Below.refl _ _ | apply Below.al | apply Below.dr))); rintro e w9 ⟨cs9, v9, rfl, hv9, hg9, hb9⟩; obtain ⟨g1, g2, g3, g4, g5, g6, g7, g8, g9, g10, ecs, -, -, -⟩ := hv9.raw; subst ecs; have hB9 : Below W8.heap.size W8 w9 := below_via (by (repeat (with_reducible first | assumption | exact Below.refl _ _ | apply Below.al | apply Below.dr))) hb9; have hA9 : AgreeF (fun x => x ≠ b8) W8 w9 := AgreeF.of_below hB9; have hx9 := HX8.out.step hB9; generalize v9.l.length = n9 at *; have z0 := hx9.cell 0 0 rfl rfl; have u0 := hx9.frozen 0 0 rfl; have z1 := hx9.cell 0 1 rfl rfl; have u1 := hx9.frozen 0 1 rfl; have z2 := hx9.cell 0 2 rfl rfl; have u2 := hx9.frozen 0 2 rfl; have z3 := hx9.cell 0 3 rfl rfl; have u3 := hx9.frozen 0 3 rfl; have z4 := hx9.cell 0 4 rfl rfl; have u4 := hx9.frozen 0 4 rfl; have z5 := hx9.cell 0 5 rfl rfl; have u5 := hx9.frozen 0 5 rfl))
      refine hK.out _ _ (by (repeat (with_reducible first | assumption | exact AgreeF.refl _ | apply AgreeF.al | apply AgreeF.dr | apply AgreeF.st))) (fun hHeld => ?_)
      clear hK K
      try simp only [Act.put, List.setIfInBounds_toArray, List.set_cons_zero, List.set_cons_succ]
      refine wpAnyH_take (i := 3) (oi := { dst := some 31, op := Op.move (Operand.tmp 34), type := 33, pos := "law.go:85", after := #[{ on := 2, ground := Ground.data }], guard := none }) (v := ?_) rfl (by kernel_rfl) (by kernel_rfl) (by kernel_rfl) (fun _ _ _ h => h) (Or.inl ⟨by rfl, ?_⟩) (by assumption) ?_
      rotate_left
      · (intro W hW; (try dsimp only at hW); go_simp <;> (with_reducible rfl))
      try simp only [Act.put, List.setIfInBounds_toArray, List.set_cons_zero, List.set_cons_succ]
      refine wpAnyH_take (i := 4) (oi := { dst := some 35, op := Op.extract (Operand.tmp 31) 0, type := 31, pos := "law.go:85", after := #[{ on := 3, ground := Ground.data }], guard := none }) (v := ?_) rfl (by kernel_rfl) (by kernel_rfl) (by kernel_rfl) (fun _ _ _ h => h) (Or.inl ⟨by rfl, ?_⟩) (by assumption) ?_
      rotate_left
      · (intro W hW; (try dsimp only at hW); go_simp <;> (with_reducible rfl))
      try simp only [Act.put, List.setIfInBounds_toArray, List.set_cons_zero, List.set_cons_succ]
      refine wpAnyH_take (i := 5) (oi := { dst := some 36, op := Op.extract (Operand.tmp 31) 1, type := 32, pos := "law.go:85", after := #[{ on := 3, ground := Ground.data }, { on := 6, ground := Ground.gcOnly Departure.lateStores }], guard := none }) (v := ?_) rfl (by kernel_rfl) (by kernel_rfl) (by kernel_rfl) (fun _ _ _ h => h) (Or.inl ⟨by rfl, ?_⟩) (by assumption) ?_
      rotate_left
      · (intro W hW; (try dsimp only at hW); go_simp <;> (with_reducible rfl))
      try simp only [Act.put, List.setIfInBounds_toArray, List.set_cons_zero, List.set_cons_succ]
      refine wpAnyH_ready (rs := [6]) (by kernel_rfl) (by simp) (AllReadyH.cons (o := { dst := none, op := Op.store 31 (Operand.tmp 8) (Operand.tmp 35), type := 0, pos := "law.go:85", after := #[{ on := 4, ground := Ground.data }, { on := 2, ground := Ground.chain }, { on := 0, ground := Ground.phase }, { on := 1, ground := Ground.phase }, { on := 2, ground := Ground.phase }, { on := 3, ground := Ground.phase }, { on := 4, ground := Ground.phase }, { on := 5, ground := Ground.textOnly Departure.lateStores }], guard := none }) rfl (fun K hK => ?_) AllReadyH.nil)
      (rw [if_pos (by rfl)]; go_wp2_with (fail))
      refine hK.out _ _ (by (repeat (with_reducible first | assumption | exact AgreeF.refl _ | apply AgreeF.al | apply AgreeF.dr | apply AgreeF.st))) (fun hHeld => ?_)
      clear hK K
      try simp only [Act.put, List.setIfInBounds_toArray, List.set_cons_zero, List.set_cons_succ]
      refine wpAnyH_done (by kernel_rfl) ?_ _
      refine NoPanic.normal ?_
      go_wp2_with fail
      go_meet
      have hend := viewbox_end hx9 hv9 (fun x hx hl e => by (subst e; rcases hx with hx | hx; exact hx.2 rfl; have hx : W8.heap.size ≤ x := hx; omega))
      have hbe := set6_below (below_via HB8.out hB9) hwb8 (.int .i64 v9.dir.page) (.bool v9.dir.isLeaf) (.slice g1 (cntT v9.dir) g2) (.slice g3 g4 g5) (.slice g6 g7 g8) (.slice g9 n9 g10)
      unfold set6 at hend hbe
      exact ⟨rfl, _, v9, hend, hg9, hbe⟩
    · (rw [if_pos (by rfl)]; go_wp2_with (go_at_call 8; (with_reducible refine (CU _).mono ?_); rintro e wu ⟨rfl, rfl⟩))
      refine hK.out _ _ (by (repeat (with_reducible first | assumption | exact AgreeF.refl _ | apply AgreeF.al | apply AgreeF.dr | apply AgreeF.st))) (fun hHeld => ?_)
      clear hK K
      try simp only [Act.put, List.setIfInBounds_toArray, List.set_cons_zero, List.set_cons_succ]
      refine wpAnyH_ready (rs := [0]) (by kernel_rfl) (by simp) (AllReadyH.cons (o := { dst := some 32, op := Op.load 31 (Operand.tmp 8), type := 31, pos := "law.go:85", after := #[], guard := none }) rfl (fun K hK => ?_) AllReadyH.nil)
      (rw [if_pos (by rfl)]; go_wp2_with (fail))
      refine hK.out _ _ (by (repeat (with_reducible first | assumption | exact AgreeF.refl _ | apply AgreeF.al | apply AgreeF.dr | apply AgreeF.st))) (fun hHeld => ?_)
      clear hK K
      try simp only [Act.put, List.setIfInBounds_toArray, List.set_cons_zero, List.set_cons_succ]
      refine wpAnyH_ready (rs := [2]) (by kernel_rfl) (by simp) (AllReadyH.cons (o := { dst := some 34, op := Op.call { callee := Callee.value (Operand.func 6), args := #[Operand.tmp 32, Operand.tmp 33], argTypes := #[31, 9] }, type := 33, pos := "law.go:85", after := #[{ on := 0, ground := Ground.data }, { on := 1, ground := Ground.data }, { on := 1, ground := Ground.chain }], guard := none }) rfl (fun K hK => ?_) AllReadyH.nil)
      (rw [if_pos (by rfl)]; go_wp2_with (go_at_call 6; (with_reducible refine (CM _ ?_).mono ?_); (focus (repeat (with_reducible first | assumption | exact Below.refl _ _ | apply Below.al | apply Below.dr))); rintro e w9 ⟨cs9, v9, rfl, hv9, hg9, hb9⟩; obtain ⟨g1, g2, g3, g4, g5, g6, g7, g8, g9, g10, ecs, -, -, -⟩ := hv9.raw; subst ecs; have hB9 : Below W8.heap.size W8 w9 := below_via (by (repeat (with_reducible first | assumption | exact Below.refl _ _ | apply Below.al | apply Below.dr))) hb9; have hA9 : AgreeF (fun x => x ≠ b8) W8 w9 := AgreeF.of_below hB9; have hx9 := HX8.out.step hB9; generalize v9.l.length = n9 at *; have z0 := hx9.cell 0 0 rfl rfl; have u0 := hx9.frozen 0 0 rfl; have z1 := hx9.cell 0 1 rfl rfl; have u1 := hx9.frozen 0 1 rfl; have z2 := hx9.cell 0 2 rfl rfl; have u2 := hx9.frozen 0 2 rfl; have z3 := hx9.cell 0 3 rfl rfl; have u3 := hx9.frozen 0 3 rfl; have z4 := hx9.cell 0 4 rfl rfl; have u4 := hx9.frozen 0 4 rfl; have z5 := hx9.cell 0 5 rfl rfl; have u5 := hx9.frozen 0 5 rfl))
      refine hK.out _ _ (by (repeat (with_reducible first | assumption | exact AgreeF.refl _ | apply AgreeF.al | apply AgreeF.dr | apply AgreeF.st))) (fun hHeld => ?_)
      clear hK K
      try simp only [Act.put, List.setIfInBounds_toArray, List.set_cons_zero, List.set_cons_succ]
      refine wpAnyH_take (i := 3) (oi := { dst := some 31, op := Op.move (Operand.tmp 34), type := 33, pos := "law.go:85", after := #[{ on := 2, ground := Ground.data }], guard := none }) (v := ?_) rfl (by kernel_rfl) (by kernel_rfl) (by kernel_rfl) (fun _ _ _ h => h) (Or.inl ⟨by rfl, ?_⟩) (by assumption) ?_
      rotate_left
      · (intro W hW; (try dsimp only at hW); go_simp <;> (with_reducible rfl))
      try simp only [Act.put, List.setIfInBounds_toArray, List.set_cons_zero, List.set_cons_succ]
      refine wpAnyH_take (i := 4) (oi := { dst := some 35, op := Op.extract (Operand.tmp 31) 0, type := 31, pos := "law.go:85", after := #[{ on := 3, ground := Ground.data }], guard := none }) (v := ?_) rfl (by kernel_rfl) (by kernel_rfl) (by kernel_rfl) (fun _ _ _ h => h) (Or.inl ⟨by rfl, ?_⟩) (by assumption) ?_
      rotate_left
      · (intro W hW; (try dsimp only at hW); go_simp <;> (with_reducible rfl))
      try simp only [Act.put, List.setIfInBounds_toArray, List.set_cons_zero, List.set_cons_succ]
      refine wpAnyH_take (i := 5) (oi := { dst := some 36, op := Op.extract (Operand.tmp 31) 1, type := 32, pos := "law.go:85", after := #[{ on := 3, ground := Ground.data }, { on := 6, ground := Ground.gcOnly Departure.lateStores }], guard := none }) (v := ?_) rfl (by kernel_rfl) (by kernel_rfl) (by kernel_rfl) (fun _ _ _ h => h) (Or.inl ⟨by rfl, ?_⟩) (by assumption) ?_
      rotate_left
      · (intro W hW; (try dsimp only at hW); go_simp <;> (with_reducible rfl))
      try simp only [Act.put, List.setIfInBounds_toArray, List.set_cons_zero, List.set_cons_succ]
      refine wpAnyH_ready (rs := [6]) (by kernel_rfl) (by simp) (AllReadyH.cons (o := { dst := none, op := Op.store 31 (Operand.tmp 8) (Operand.tmp 35), type := 0, pos := "law.go:85", after := #[{ on := 4, ground := Ground.data }, { on := 2, ground := Ground.chain }, { on := 0, ground := Ground.phase }, { on := 1, ground := Ground.phase }, { on := 2, ground := Ground.phase }, { on := 3, ground := Ground.phase }, { on := 4, ground := Ground.phase }, { on := 5, ground := Ground.textOnly Departure.lateStores }], guard := none }) rfl (fun K hK => ?_) AllReadyH.nil)
      (rw [if_pos (by rfl)]; go_wp2_with (fail))
      refine hK.out _ _ (by (repeat (with_reducible first | assumption | exact AgreeF.refl _ | apply AgreeF.al | apply AgreeF.dr | apply AgreeF.st))) (fun hHeld => ?_)
      clear hK K
      try simp only [Act.put, List.setIfInBounds_toArray, List.set_cons_zero, List.set_cons_succ]
      refine wpAnyH_done (by kernel_rfl) ?_ _
      refine NoPanic.normal ?_
      go_wp2_with fail
      go_meet
      have hend := viewbox_end hx9 hv9 (fun x hx hl e => by (subst e; rcases hx with hx | hx; exact hx.2 rfl; have hx : W8.heap.size ≤ x := hx; omega))
      have hbe := set6_below (below_via HB8.out hB9) hwb8 (.int .i64 v9.dir.page) (.bool v9.dir.isLeaf) (.slice g1 (cntT v9.dir) g2) (.slice g3 g4 g5) (.slice g6 g7 g8) (.slice g9 n9 g10)
      unfold set6 at hend hbe
      exact ⟨rfl, _, v9, hend, hg9, hbe⟩
  case rest =>
    obtain ⟨rfl, cs0, v0, hvb0, hg0, hb0⟩ := hcut
    clear t0 t1 t2 t3 t4 t5 CM hA0 hlv7 hwh7 hl7
    have HB0 := Lib.hid hb0
    have HV0 := Lib.hid hvb0
    have HG0 := Lib.hid hg0
    clear hb0 hvb0 hg0
    go_wp2_with fail
    go_loopw [10] (fun s wr => ∃ (i : Nat) (cs : List Value) (v : Vw), s = .int .i64 i ∧ i ≤ n ∧ (∀ k r, k < i → l[k]? = some r → fitRc r ∧ r.digest < 4294967296) ∧ ViewBox wr b8 cs v ∧ Grow (recsE l i) (3 + 2 * i) (1 + i) (1 + i) v ∧ Below w.heap.size w wr) (fun s _ => n - (intOf s).toNat)
    case atStart => exact ⟨0, cs0, v0, rfl, Nat.zero_le _, (fun k r hk => by omega), HV0.out, HG0.out, HB0.out⟩
    case round =>
      clear HV0 HG0 HB0 HVB HX8
      obtain ⟨i, cs, v, rfl, hi, hfit, hvb, hg, hbr⟩ := hrel
      by_cases hlt : i < n
      · have d1 : decide ((i : Int) < (n : Int)) = true := by simp; omega
        obtain ⟨lb, off, r, rfl, hlb, hr, hrd, p0, p1, p2, p3, p4, p5⟩ := rc_cells HL.out hlt
        have p0 := (hbr.cell (p := ⟨lb, off + i * 6, none⟩) hlb).trans p0
        have p1 := (hbr.cell (p := ⟨lb, off + i * 6 + 1, none⟩) hlb).trans p1
        have p2 := (hbr.cell (p := ⟨lb, off + i * 6 + 2, none⟩) hlb).trans p2
        have p3 := (hbr.cell (p := ⟨lb, off + i * 6 + 3, none⟩) hlb).trans p3
        have p4 := (hbr.cell (p := ⟨lb, off + i * 6 + 4, none⟩) hlb).trans p4
        have p5 := (hbr.cell (p := ⟨lb, off + i * 6 + 5, none⟩) hlb).trans p5
        obtain ⟨W2, hW2⟩ : ∃ x, x = wr.alloc (.cells #[.int .i64 r.actor, .int .i64 r.from_, .int .i64 r.to_, .string (strOf r.bucket), .string (strOf r.key), .int .u32 (r.digest : Int)] 39) := ⟨_, rfl⟩
        have hx2 : Boxes W2 [(wr.heap.size, [.int .i64 r.actor, .int .i64 r.from_, .int .i64 r.to_, .string (strOf r.bucket), .string (strOf r.key), .int .u32 (r.digest : Int)])] := by
          rw [hW2]
          exact (Boxes.nil wr).alloc #[.int .i64 r.actor, .int .i64 r.from_, .int .i64 r.to_, .string (strOf r.bucket), .string (strOf r.key), .int .u32 (r.digest : Int)] 39 (b := wr.heap.size) rfl
        have hb2 : Below wr.heap.size wr W2 := by rw [hW2]; exact Below.al (Below.refl _ _)
        have HX2 := Lib.hid hx2
        have HB2 := Lib.hid hb2
        have HR := Lib.hid hr
        have HBR := Lib.hid hbr
        have HV := Lib.hid hvb
        have HG := Lib.hid hg
        have HF := Lib.hid hfit
        have HI : Hid (b8 < wr.heap.size) := Lib.hid (hvb.2.1.lt 0 rfl)
        have HBW := Lib.hid (hbr.trans (hb2.mono hbr.size))
        have hd0 : decide ((0 : Int) ≤ (i : Int)) = true := by simp
        clear hx2 hb2 hr hbr hvb hg hfit
        go_upto_region 12 with (fail)
        rw [← hW2]
        clear hW2 p0 p1 p2 p3 p4 p5
        have sz1 := strOf_size r.bucket
        have sz2 := strOf_size r.key
        obtain ⟨z1, hz1⟩ : ∃ z, r.bucket.length = z := ⟨_, rfl⟩
        obtain ⟨z2, hz2⟩ : ∃ z, r.key.length = z := ⟨_, rfl⟩
        rw [hz1] at sz1
        rw [hz2] at sz2
        have HZ := Lib.hid (And.intro hz1 hz2)
        clear hz1 hz2
        have r0 := HX2.out.cell 0 0 rfl rfl
        have r1 := HX2.out.cell 0 1 rfl rfl
        have r2 := HX2.out.cell 0 2 rfl rfl
        have r3 := HX2.out.cell 0 3 rfl rfl
        have r4 := HX2.out.cell 0 4 rfl rfl
        by_cases y0 : 20 < z1
        · have e0 : decide ((20 : Int) < (z1 : Int)) = true := by simp; omega
          go_wp2_with fail
          go_ret
          exact ⟨rfl, HBW.out⟩
        have e0 : decide ((20 : Int) < (z1 : Int)) = false := by simp; omega
        by_cases y1 : 20 < z2
        · have e1 : decide ((20 : Int) < (z2 : Int)) = true := by simp; omega
          go_wp2_with fail
          go_ret
          exact ⟨rfl, HBW.out⟩
        have e1 : decide ((20 : Int) < (z2 : Int)) = false := by simp; omega
        by_cases y2 : r.actor < 0
        · have e2 : decide (r.actor < 0) = true := by simpa using y2
          go_wp2_with fail
          go_ret
          exact ⟨rfl, HBW.out⟩
        have e2 : decide (r.actor < 0) = false := by simpa using y2
        by_cases y3 : 255 < r.actor
        · have e3 : decide (255 < r.actor) = true := by simpa using y3
          go_wp2_with fail
          go_ret
          exact ⟨rfl, HBW.out⟩
        have e3 : decide (255 < r.actor) = false := by simpa using y3
        by_cases y4 : r.from_ < 0
        · have e4 : decide (r.from_ < 0) = true := by simpa using y4
          go_wp2_with fail
          go_ret
          exact ⟨rfl, HBW.out⟩
        have e4 : decide (r.from_ < 0) = false := by simpa using y4
        by_cases y5 : 255 < r.from_
        · have e5 : decide (255 < r.from_) = true := by simpa using y5
          go_wp2_with fail
          go_ret
          exact ⟨rfl, HBW.out⟩
        have e5 : decide (255 < r.from_) = false := by simpa using y5
        by_cases y6 : r.to_ < 0
        · have e6 : decide (r.to_ < 0) = true := by simpa using y6
          go_wp2_with fail
          go_ret
          exact ⟨rfl, HBW.out⟩
        have e6 : decide (r.to_ < 0) = false := by simpa using y6
        by_cases y7 : 255 < r.to_
        · have e7 : decide (255 < r.to_) = true := by simpa using y7
          go_wp2_with fail
          go_ret
          exact ⟨rfl, HBW.out⟩
        have e7 : decide (255 < r.to_) = false := by simpa using y7
        go_upto_region 14 with (fail)
        clear sz1 sz2 r0 r1 r2 r3 r4 e0 e1 e2 e3 e4 e5 e6 e7
        have hvb2 := HV.out.step HB2.out
        obtain ⟨p1, q1, p2, l2, q2', p3, l3, q3', p4, q4, ecs, -, htab, -⟩ := hvb2.on.raw
        subst ecs
        obtain ⟨hn2, -, -, -, hnx⟩ := HG.out.facts
        rw [recsE_len] at hnx
        have CN := rnext_any (v := v) (d0 := .int .i64 v.dir.page) (d1 := .bool v.dir.isLeaf) (d2 := .slice p1 (cntT v.dir) q1) (d3 := .slice p2 l2 q2') (d4 := .slice p3 l3 q3') htab (by omega) (by
          obtain ⟨_, _, M, T, N, U, e, _, _, hT1, hT2, h8, hE⟩ := HG.out
          rw [e]
          intro b hb
          simp at hb
          rcases hb with rfl | rfl
          · show (entsT M T).length ≤ 100000
            rw [hE, recsE_len]; omega
          · show (entsT N U).length ≤ 100000
            omega)
        rw [hnx] at CN
        dsimp only [Option.getD_some, Option.isSome_some] at CN
        have c0 := hvb2.2.1.cell 0 0 rfl rfl
        have c1 := hvb2.2.1.cell 0 1 rfl rfl
        have c2 := hvb2.2.1.cell 0 2 rfl rfl
        have c3 := hvb2.2.1.cell 0 3 rfl rfl
        have c4 := hvb2.2.1.cell 0 4 rfl rfl
        have c5 := hvb2.2.1.cell 0 5 rfl rfl
        have HV2 := Lib.hid hvb2
        rw [hn2] at CN c5 HV2
        generalize v.dir.page = pg9 at *
        generalize v.dir.isLeaf = lf9 at *
        generalize cntT v.dir = cn9 at *
        clear hvb2 htab hn2 hnx
        go_wp2_with fail
        refine CN.mono ?_
        rintro e w3 ⟨rfl, hb3⟩
        have HV3 := Lib.hid (HV2.out.step hb3)
        have HX3 := Lib.hid (HX2.out.step hb3)
        have HB3 := Lib.hid (below_via HBW.out hb3)
        have h23 : wr.heap.size + 1 ≤ w3.heap.size := Nat.succ_le_of_lt (HX3.out.lt 0 rfl)
        have h8r := HI.out
        clear CN c0 c1 c2 c3 c4 c5 hb3 HV2
        go_upto_region 15 with (fail)
        have t0 : ∀ W, Below w3.heap.size w3 W → W.cell? ⟨b8, 0, none⟩ = some (.int .i64 pg9) := fun W hW => (HV3.out.2.1.step hW).cell 0 0 rfl rfl
        have r0 : ∀ W, Below w3.heap.size w3 W → W.cell? ⟨wr.heap.size, 0, none⟩ = some (.int .i64 r.actor) := fun W hW => (HX3.out.step hW).cell 0 0 rfl rfl
        have t1 : ∀ W, Below w3.heap.size w3 W → W.cell? ⟨b8, 1, none⟩ = some (.bool lf9) := fun W hW => (HV3.out.2.1.step hW).cell 0 1 rfl rfl
        have r1 : ∀ W, Below w3.heap.size w3 W → W.cell? ⟨wr.heap.size, 1, none⟩ = some (.int .i64 r.from_) := fun W hW => (HX3.out.step hW).cell 0 1 rfl rfl
        have t2 : ∀ W, Below w3.heap.size w3 W → W.cell? ⟨b8, 2, none⟩ = some (.slice p1 cn9 q1) := fun W hW => (HV3.out.2.1.step hW).cell 0 2 rfl rfl
        have r2 : ∀ W, Below w3.heap.size w3 W → W.cell? ⟨wr.heap.size, 2, none⟩ = some (.int .i64 r.to_) := fun W hW => (HX3.out.step hW).cell 0 2 rfl rfl
        have t3 : ∀ W, Below w3.heap.size w3 W → W.cell? ⟨b8, 3, none⟩ = some (.slice p2 l2 q2') := fun W hW => (HV3.out.2.1.step hW).cell 0 3 rfl rfl
        have r3 : ∀ W, Below w3.heap.size w3 W → W.cell? ⟨wr.heap.size, 3, none⟩ = some (.string (strOf r.bucket)) := fun W hW => (HX3.out.step hW).cell 0 3 rfl rfl
        have t4 : ∀ W, Below w3.heap.size w3 W → W.cell? ⟨b8, 4, none⟩ = some (.slice p3 l3 q3') := fun W hW => (HV3.out.2.1.step hW).cell 0 4 rfl rfl
        have r4 : ∀ W, Below w3.heap.size w3 W → W.cell? ⟨wr.heap.size, 4, none⟩ = some (.string (strOf r.key)) := fun W hW => (HX3.out.step hW).cell 0 4 rfl rfl
        have t5 : ∀ W, Below w3.heap.size w3 W → W.cell? ⟨b8, 5, none⟩ = some (.slice p4 2 q4) := fun W hW => (HV3.out.2.1.step hW).cell 0 5 rfl rfl
        have r5 : ∀ W, Below w3.heap.size w3 W → W.cell? ⟨wr.heap.size, 5, none⟩ = some (.int .u32 (r.digest : Int)) := fun W hW => (HX3.out.step hW).cell 0 5 rfl rfl
        obtain ⟨zz1, zz2⟩ := HZ.out
        have hLr := rcB_len r (by omega) (by omega)
        have CK : ∀ W, Calls Tryd.prog 11 #[.int .i64 (i : Int)] W (RetStr W (keyB (i : Int))) := fun W => key_any (i : Int) W
        have CP : ∀ W, Calls Tryd.prog 12 #[.agg #[.int .i64 r.actor, .int .i64 r.from_, .int .i64 r.to_, .string (strOf r.bucket), .string (strOf r.key), .int .u32 (r.digest : Int)]] W (RetStr W (rcB r)) := fun W => rput_any r W (by omega) (by omega) hrd
        have hk8 : keyOk (keyB (i : Int)) := ⟨by rw [← List.length_pos_iff, keyB_length]; omega, by rw [keyB_length]; omega⟩
        have CV : ∀ W, Below w3.heap.size w3 W → Calls Tryd.prog 10 #[.agg #[.int .i64 pg9, .bool lf9, .slice p1 cn9 q1, .slice p2 l2 q2', .slice p3 l3 q3', .slice p4 2 q4], .string ⟨#[97]⟩, .string (strOf (keyB (i : Int))), .string (strOf (rcB r))] W fun e w' => ∃ cs' v', e = .returned (.tuple #[.agg cs'.toArray, .int .i64 0]) ∧ ViewOn (Fr (fun x => x < w3.heap.size ∧ x ≠ b8) W) w' cs' v' ∧ Grow (putL (keyB (i : Int)) ⟨rcB r, []⟩ (recsE l i)) (3 + 2 * i + 1) (1 + i + 1) (1 + i) v' ∧ Below W.heap.size W w' := fun W hW =>
          grow_put_a (fun x hx => Nat.lt_of_lt_of_le hx.1 hW.size) (HV3.out.free.below hW) HG.out hk8 (by omega)
        have HES := Lib.hid (recsE_succ l HR.out (by omega))
        rw [HES.out] at CV
        obtain ⟨RB, hRB⟩ : ∃ z, rcB r = z := ⟨_, rfl⟩
        rw [hRB] at CP CV
        clear hLr hRB HES zz1 zz2 hk8
        have hB0 : Below w3.heap.size w3 w3.drew := Below.dr (Below.refl _ _)
        go_cut [14, 15] (fun s14 s15 wx => ∃ b cs v, s14 = .pointer (some ⟨b, 0, none⟩) ∧ s15 = .int .i64 0 ∧ ViewBoxG (fun x => x ≠ b8) wx b cs v ∧ w3.heap.size ≤ b ∧ Grow (recsE l (i + 1)) (3 + 2 * i + 1) (1 + i + 1) (1 + i) v ∧ Below w3.heap.size w3 wx)
        case first =>
          refine wp_region_noPanic ?_
          refine wp_region_held_drew (S := (fun W => Below w3.heap.size w3 W)) (by kernel_rfl) (by (repeat (with_reducible first | assumption | exact Below.refl _ _ | exact Nat.le_refl _ | apply Below.al | apply Below.dr | apply Below.st))) (fun hHeld => ?_)
          refine wpAnyH_take (i := 0) (oi := { dst := some 93, op := Op.load 31 (Operand.tmp 8), type := 31, pos := "law.go:92", after := #[], guard := none }) (v := ?_) rfl (by kernel_rfl) (by kernel_rfl) (by kernel_rfl) (fun _ _ _ h => h) (Or.inl ⟨by rfl, ?_⟩) (by assumption) ?_
          rotate_left
          · (intro W hW; (try dsimp only at hW); go_simp <;> (with_reducible rfl))
          try simp only [Act.put, List.setIfInBounds_toArray, List.set_cons_zero, List.set_cons_succ]
          refine wpAnyH_take (i := 1) (oi := { dst := some 94, op := Op.move (Operand.tmp 12), type := 3, pos := "law.go:92", after := #[], guard := none }) (v := ?_) rfl (by kernel_rfl) (by kernel_rfl) (by kernel_rfl) (fun _ _ _ h => h) (Or.inl ⟨by rfl, ?_⟩) (by assumption) ?_
          rotate_left
          · (intro W hW; (try dsimp only at hW); go_simp <;> (with_reducible rfl))
          try simp only [Act.put, List.setIfInBounds_toArray, List.set_cons_zero, List.set_cons_succ]
          refine wpAnyH_take (i := 3) (oi := { dst := some 96, op := Op.load 39 (Operand.tmp 11), type := 39, pos := "law.go:92", after := #[], guard := none }) (v := ?_) rfl (by kernel_rfl) (by kernel_rfl) (by kernel_rfl) (fun _ _ _ h => h) (Or.inl ⟨by rfl, ?_⟩) (by assumption) ?_
          rotate_left
          · (intro W hW; (try dsimp only at hW); go_simp <;> (with_reducible rfl))
          try simp only [Act.put, List.setIfInBounds_toArray, List.set_cons_zero, List.set_cons_succ]
          refine wpAnyH_ready (rs := [2, 9]) (by kernel_rfl) (by simp) (AllReadyH.cons (o := { dst := some 95, op := Op.call { callee := Callee.value (Operand.func 11), args := #[Operand.tmp 94], argTypes := #[3] }, type := 9, pos := "law.go:92", after := #[{ on := 1, ground := Ground.data }], guard := none }) rfl (fun K hK => ?_) (AllReadyH.cons (o := { dst := some 14, op := Op.alloc 31, type := 0, pos := "law.go:92", after := #[], guard := none }) rfl (fun K hK => ?_) AllReadyH.nil))
          · skip
            (rw [if_pos (by rfl)]; go_wp2_with (go_at_call 11; (with_reducible refine (CK _).mono ?_); rintro e w2 ⟨rfl, hb2⟩))
            have hH9 := below_via hHeld hb2
            refine hK.out _ _ (by (repeat (with_reducible first | assumption | exact Below.refl _ _ | exact Nat.le_refl _ | apply Below.al | apply Below.dr | apply Below.st))) (fun hHeld => ?_)
            clear hK K
            try simp only [Act.put, List.setIfInBounds_toArray, List.set_cons_zero, List.set_cons_succ]
            refine wpAnyH_ready (rs := [4, 9]) (by kernel_rfl) (by simp) (AllReadyH.cons (o := { dst := some 97, op := Op.call { callee := Callee.value (Operand.func 12), args := #[Operand.tmp 96], argTypes := #[39] }, type := 9, pos := "law.go:92", after := #[{ on := 3, ground := Ground.data }, { on := 2, ground := Ground.chain }], guard := none }) rfl (fun K hK => ?_) (AllReadyH.cons (o := { dst := some 14, op := Op.alloc 31, type := 0, pos := "law.go:92", after := #[], guard := none }) rfl (fun K hK => ?_) AllReadyH.nil))
            · skip
              (rw [if_pos (by rfl)]; go_wp2_with (go_at_call 12; (with_reducible refine (CP _).mono ?_); rintro e w5 ⟨rfl, hb5⟩))
              have hH9 := below_via hHeld hb5
              refine hK.out _ _ (by (repeat (with_reducible first | assumption | exact Below.refl _ _ | exact Nat.le_refl _ | apply Below.al | apply Below.dr | apply Below.st))) (fun hHeld => ?_)
              clear hK K
              try simp only [Act.put, List.setIfInBounds_toArray, List.set_cons_zero, List.set_cons_succ]
              refine wpAnyH_ready (rs := [5, 9]) (by kernel_rfl) (by simp) (AllReadyH.cons (o := { dst := some 98, op := Op.call { callee := Callee.value (Operand.func 10), args := #[Operand.tmp 93, Operand.const (Value.string { data := #[97] }), Operand.tmp 95, Operand.tmp 97], argTypes := #[31, 9, 9, 9] }, type := 33, pos := "law.go:92", after := #[{ on := 0, ground := Ground.data }, { on := 2, ground := Ground.data }, { on := 4, ground := Ground.data }, { on := 4, ground := Ground.chain }], guard := none }) rfl (fun K hK => ?_) (AllReadyH.cons (o := { dst := some 14, op := Op.alloc 31, type := 0, pos := "law.go:92", after := #[], guard := none }) rfl (fun K hK => ?_) AllReadyH.nil))
              · skip
                (rw [if_pos (by rfl)]; go_wp2_with (have hW9 := hHeld.size; go_at_call 10; (with_reducible refine (CV _ ?_).mono ?_); (focus (with_reducible assumption)); rintro e w10 ⟨cs10, v10, rfl, hv10, i1, hb10⟩; obtain ⟨g1, g2, g3, g4, g5, g6, g7, g8, g9, g10, ecs, -, -, -⟩ := hv10.raw; subst ecs; have hv10 := hv10.lt; generalize v10.l.length = n10 at *))
                have hH9 := below_via hHeld hb10
                refine hK.out _ _ (by (repeat (with_reducible first | assumption | exact Below.refl _ _ | exact Nat.le_refl _ | apply Below.al | apply Below.dr | apply Below.st))) (fun hHeld => ?_)
                clear hK K
                try simp only [Act.put, List.setIfInBounds_toArray, List.set_cons_zero, List.set_cons_succ]
                refine wpAnyH_take (i := 6) (oi := { dst := some 92, op := Op.move (Operand.tmp 98), type := 33, pos := "law.go:92", after := #[{ on := 5, ground := Ground.data }], guard := none }) (v := ?_) rfl (by kernel_rfl) (by kernel_rfl) (by kernel_rfl) (fun _ _ _ h => h) (Or.inl ⟨by rfl, ?_⟩) (by assumption) ?_
                rotate_left
                · (intro W hW; (try dsimp only at hW); go_simp <;> (with_reducible rfl))
                try simp only [Act.put, List.setIfInBounds_toArray, List.set_cons_zero, List.set_cons_succ]
                refine wpAnyH_take (i := 7) (oi := { dst := some 99, op := Op.extract (Operand.tmp 92) 0, type := 31, pos := "law.go:92", after := #[{ on := 6, ground := Ground.data }], guard := none }) (v := ?_) rfl (by kernel_rfl) (by kernel_rfl) (by kernel_rfl) (fun _ _ _ h => h) (Or.inl ⟨by rfl, ?_⟩) (by assumption) ?_
                rotate_left
                · (intro W hW; (try dsimp only at hW); go_simp <;> (with_reducible rfl))
                try simp only [Act.put, List.setIfInBounds_toArray, List.set_cons_zero, List.set_cons_succ]
                refine wpAnyH_take (i := 8) (oi := { dst := some 100, op := Op.extract (Operand.tmp 92) 1, type := 32, pos := "law.go:92", after := #[{ on := 6, ground := Ground.data }, { on := 10, ground := Ground.gcOnly Departure.lateStores }], guard := none }) (v := ?_) rfl (by kernel_rfl) (by kernel_rfl) (by kernel_rfl) (fun _ _ _ h => h) (Or.inl ⟨by rfl, ?_⟩) (by assumption) ?_
                rotate_left
                · (intro W hW; (try dsimp only at hW); go_simp <;> (with_reducible rfl))
                try simp only [Act.put, List.setIfInBounds_toArray, List.set_cons_zero, List.set_cons_succ]
                refine wpAnyH_ready (rs := [9]) (by kernel_rfl) (by simp) (AllReadyH.cons (o := { dst := some 14, op := Op.alloc 31, type := 0, pos := "law.go:92", after := #[], guard := none }) rfl (fun K hK => ?_) AllReadyH.nil)
                have BG := hHeld.size
                (rw [if_pos (by rfl)]; go_wp2_with (fail))
                refine hK.out _ _ (by (repeat (with_reducible first | assumption | exact Below.refl _ _ | exact Nat.le_refl _ | apply Below.al | apply Below.dr | apply Below.st))) (fun hHeld => ?_)
                have BX := (by with_reducible first | exact vbox_of hHeld | exact vbox_drew hHeld)
                clear hK K
                try simp only [Act.put, List.setIfInBounds_toArray, List.set_cons_zero, List.set_cons_succ]
                refine wpAnyH_ready (rs := [10]) (by kernel_rfl) (by simp) (AllReadyH.cons (o := { dst := none, op := Op.store 31 (Operand.tmp 14) (Operand.tmp 99), type := 0, pos := "law.go:92", after := #[{ on := 9, ground := Ground.data }, { on := 7, ground := Ground.data }, { on := 5, ground := Ground.chain }, { on := 0, ground := Ground.phase }, { on := 1, ground := Ground.phase }, { on := 2, ground := Ground.phase }, { on := 3, ground := Ground.phase }, { on := 4, ground := Ground.phase }, { on := 5, ground := Ground.phase }, { on := 6, ground := Ground.phase }, { on := 7, ground := Ground.phase }, { on := 8, ground := Ground.textOnly Departure.lateStores }, { on := 9, ground := Ground.phase }], guard := none }) rfl (fun K hK => ?_) AllReadyH.nil)
                have z0 := BX.cell 0 0 rfl rfl
                have u0 := BX.frozen 0 0 rfl
                have z1 := BX.cell 0 1 rfl rfl
                have u1 := BX.frozen 0 1 rfl
                have z2 := BX.cell 0 2 rfl rfl
                have u2 := BX.frozen 0 2 rfl
                have z3 := BX.cell 0 3 rfl rfl
                have u3 := BX.frozen 0 3 rfl
                have z4 := BX.cell 0 4 rfl rfl
                have u4 := BX.frozen 0 4 rfl
                have z5 := BX.cell 0 5 rfl rfl
                have u5 := BX.frozen 0 5 rfl
                (rw [if_pos (by rfl)]; go_wp2_with (fail))
                refine hK.out _ _ (by (repeat (with_reducible first | assumption | exact Below.refl _ _ | exact Nat.le_refl _ | apply Below.al | apply Below.dr | apply Below.st))) (fun hHeld => ?_)
                clear z0 u0 z1 u1 z2 u2 z3 u3 z4 u4 z5 u5
                clear hK K
                try simp only [Act.put, List.setIfInBounds_toArray, List.set_cons_zero, List.set_cons_succ]
                refine wpAnyH_take (i := 11) (oi := { dst := some 15, op := Op.assign (Operand.tmp 100), type := 32, pos := "law.go:92", after := #[{ on := 8, ground := Ground.data }, { on := 10, ground := Ground.chain }, { on := 0, ground := Ground.phase }, { on := 1, ground := Ground.phase }, { on := 2, ground := Ground.phase }, { on := 3, ground := Ground.phase }, { on := 4, ground := Ground.phase }, { on := 5, ground := Ground.phase }, { on := 6, ground := Ground.phase }, { on := 7, ground := Ground.phase }, { on := 8, ground := Ground.phase }, { on := 9, ground := Ground.phase }, { on := 10, ground := Ground.phase }], guard := none }) (v := ?_) rfl (by kernel_rfl) (by kernel_rfl) (by kernel_rfl) (fun _ _ _ h => h) (Or.inl ⟨by rfl, ?_⟩) (by assumption) ?_
                rotate_left
                · (intro W hW; (try dsimp only at hW); go_simp <;> (with_reducible rfl))
                try simp only [Act.put, List.setIfInBounds_toArray, List.set_cons_zero, List.set_cons_succ]
                refine wpAnyH_done (by kernel_rfl) ?_ _
                refine NoPanic.normal ?_
                go_wp2_with fail
                go_meet
                have hend := viewbox_newG (G := fun x => x ≠ b8) 31 hv10 (fun x hx hl e => by (subst e; obtain ⟨hx | hx, hx2⟩ := hx; exact hx.2 rfl; omega))
                exact ⟨_, _, v10, rfl, rfl, hend, BG, i1, hHeld⟩
              · skip
                have BG := hHeld.size
                (rw [if_pos (by rfl)]; go_wp2_with (fail))
                refine hK.out _ _ (by (repeat (with_reducible first | assumption | exact Below.refl _ _ | exact Nat.le_refl _ | apply Below.al | apply Below.dr | apply Below.st))) (fun hHeld => ?_)
                have BX := (by with_reducible first | exact vbox_of hHeld | exact vbox_drew hHeld)
                clear hK K
                try simp only [Act.put, List.setIfInBounds_toArray, List.set_cons_zero, List.set_cons_succ]
                refine wpAnyH_ready (rs := [5]) (by kernel_rfl) (by simp) (AllReadyH.cons (o := { dst := some 98, op := Op.call { callee := Callee.value (Operand.func 10), args := #[Operand.tmp 93, Operand.const (Value.string { data := #[97] }), Operand.tmp 95, Operand.tmp 97], argTypes := #[31, 9, 9, 9] }, type := 33, pos := "law.go:92", after := #[{ on := 0, ground := Ground.data }, { on := 2, ground := Ground.data }, { on := 4, ground := Ground.data }, { on := 4, ground := Ground.chain }], guard := none }) rfl (fun K hK => ?_) AllReadyH.nil)
                have BL := BX.lt 0 rfl
                (rw [if_pos (by rfl)]; go_wp2_with (have hW9 := hHeld.size; go_at_call 10; (with_reducible refine (CV _ ?_).mono ?_); (focus (with_reducible assumption)); rintro e w10 ⟨cs10, v10, rfl, hv10, i1, hb10⟩; obtain ⟨g1, g2, g3, g4, g5, g6, g7, g8, g9, g10, ecs, -, -, -⟩ := hv10.raw; subst ecs; have hv10 := hv10.lt; generalize v10.l.length = n10 at *))
                have hH9 := below_via hHeld hb10
                have BX := BX.step hb10
                refine hK.out _ _ (by (repeat (with_reducible first | assumption | exact Below.refl _ _ | exact Nat.le_refl _ | apply Below.al | apply Below.dr | apply Below.st))) (fun hHeld => ?_)
                clear hK K
                try simp only [Act.put, List.setIfInBounds_toArray, List.set_cons_zero, List.set_cons_succ]
                refine wpAnyH_take (i := 6) (oi := { dst := some 92, op := Op.move (Operand.tmp 98), type := 33, pos := "law.go:92", after := #[{ on := 5, ground := Ground.data }], guard := none }) (v := ?_) rfl (by kernel_rfl) (by kernel_rfl) (by kernel_rfl) (fun _ _ _ h => h) (Or.inl ⟨by rfl, ?_⟩) (by assumption) ?_
                rotate_left
                · (intro W hW; (try dsimp only at hW); go_simp <;> (with_reducible rfl))
                try simp only [Act.put, List.setIfInBounds_toArray, List.set_cons_zero, List.set_cons_succ]
                refine wpAnyH_take (i := 7) (oi := { dst := some 99, op := Op.extract (Operand.tmp 92) 0, type := 31, pos := "law.go:92", after := #[{ on := 6, ground := Ground.data }], guard := none }) (v := ?_) rfl (by kernel_rfl) (by kernel_rfl) (by kernel_rfl) (fun _ _ _ h => h) (Or.inl ⟨by rfl, ?_⟩) (by assumption) ?_
                rotate_left
                · (intro W hW; (try dsimp only at hW); go_simp <;> (with_reducible rfl))
                try simp only [Act.put, List.setIfInBounds_toArray, List.set_cons_zero, List.set_cons_succ]
                refine wpAnyH_take (i := 8) (oi := { dst := some 100, op := Op.extract (Operand.tmp 92) 1, type := 32, pos := "law.go:92", after := #[{ on := 6, ground := Ground.data }, { on := 10, ground := Ground.gcOnly Departure.lateStores }], guard := none }) (v := ?_) rfl (by kernel_rfl) (by kernel_rfl) (by kernel_rfl) (fun _ _ _ h => h) (Or.inl ⟨by rfl, ?_⟩) (by assumption) ?_
                rotate_left
                · (intro W hW; (try dsimp only at hW); go_simp <;> (with_reducible rfl))
                try simp only [Act.put, List.setIfInBounds_toArray, List.set_cons_zero, List.set_cons_succ]
                refine wpAnyH_ready (rs := [10]) (by kernel_rfl) (by simp) (AllReadyH.cons (o := { dst := none, op := Op.store 31 (Operand.tmp 14) (Operand.tmp 99), type := 0, pos := "law.go:92", after := #[{ on := 9, ground := Ground.data }, { on := 7, ground := Ground.data }, { on := 5, ground := Ground.chain }, { on := 0, ground := Ground.phase }, { on := 1, ground := Ground.phase }, { on := 2, ground := Ground.phase }, { on := 3, ground := Ground.phase }, { on := 4, ground := Ground.phase }, { on := 5, ground := Ground.phase }, { on := 6, ground := Ground.phase }, { on := 7, ground := Ground.phase }, { on := 8, ground := Ground.textOnly Departure.lateStores }, { on := 9, ground := Ground.phase }], guard := none }) rfl (fun K hK => ?_) AllReadyH.nil)
                have z0 := BX.cell 0 0 rfl rfl
                have u0 := BX.frozen 0 0 rfl
                have z1 := BX.cell 0 1 rfl rfl
                have u1 := BX.frozen 0 1 rfl
                have z2 := BX.cell 0 2 rfl rfl
                have u2 := BX.frozen 0 2 rfl
                have z3 := BX.cell 0 3 rfl rfl
                have u3 := BX.frozen 0 3 rfl
                have z4 := BX.cell 0 4 rfl rfl
                have u4 := BX.frozen 0 4 rfl
                have z5 := BX.cell 0 5 rfl rfl
                have u5 := BX.frozen 0 5 rfl
                (rw [if_pos (by rfl)]; go_wp2_with (fail))
                refine hK.out _ _ (by (repeat (with_reducible first | assumption | exact Below.refl _ _ | exact Nat.le_refl _ | apply Below.al | apply Below.dr | apply Below.st))) (fun hHeld => ?_)
                clear z0 u0 z1 u1 z2 u2 z3 u3 z4 u4 z5 u5
                clear hK K
                try simp only [Act.put, List.setIfInBounds_toArray, List.set_cons_zero, List.set_cons_succ]
                refine wpAnyH_take (i := 11) (oi := { dst := some 15, op := Op.assign (Operand.tmp 100), type := 32, pos := "law.go:92", after := #[{ on := 8, ground := Ground.data }, { on := 10, ground := Ground.chain }, { on := 0, ground := Ground.phase }, { on := 1, ground := Ground.phase }, { on := 2, ground := Ground.phase }, { on := 3, ground := Ground.phase }, { on := 4, ground := Ground.phase }, { on := 5, ground := Ground.phase }, { on := 6, ground := Ground.phase }, { on := 7, ground := Ground.phase }, { on := 8, ground := Ground.phase }, { on := 9, ground := Ground.phase }, { on := 10, ground := Ground.phase }], guard := none }) (v := ?_) rfl (by kernel_rfl) (by kernel_rfl) (by kernel_rfl) (fun _ _ _ h => h) (Or.inl ⟨by rfl, ?_⟩) (by assumption) ?_
                rotate_left
                · (intro W hW; (try dsimp only at hW); go_simp <;> (with_reducible rfl))
                try simp only [Act.put, List.setIfInBounds_toArray, List.set_cons_zero, List.set_cons_succ]
                refine wpAnyH_done (by kernel_rfl) ?_ _
                refine NoPanic.normal ?_
                go_wp2_with fail
                go_meet
                have hend := viewbox_endG (G := fun x => x ≠ b8) BX hv10 (fun x hx hl => ⟨fun e => by (subst e; obtain ⟨hx | hx, hx2⟩ := hx <;> omega), fun e => by (subst e; obtain ⟨hx | hx, hx2⟩ := hx; exact hx.2 rfl; omega)⟩)
                unfold set6 at hend
                exact ⟨_, _, v10, rfl, rfl, hend, BG, i1, hHeld⟩
            · skip
              have BG := hHeld.size
              (rw [if_pos (by rfl)]; go_wp2_with (fail))
              refine hK.out _ _ (by (repeat (with_reducible first | assumption | exact Below.refl _ _ | exact Nat.le_refl _ | apply Below.al | apply Below.dr | apply Below.st))) (fun hHeld => ?_)
              have BX := (by with_reducible first | exact vbox_of hHeld | exact vbox_drew hHeld)
              clear hK K
              try simp only [Act.put, List.setIfInBounds_toArray, List.set_cons_zero, List.set_cons_succ]
              refine wpAnyH_ready (rs := [4]) (by kernel_rfl) (by simp) (AllReadyH.cons (o := { dst := some 97, op := Op.call { callee := Callee.value (Operand.func 12), args := #[Operand.tmp 96], argTypes := #[39] }, type := 9, pos := "law.go:92", after := #[{ on := 3, ground := Ground.data }, { on := 2, ground := Ground.chain }], guard := none }) rfl (fun K hK => ?_) AllReadyH.nil)
              have BL := BX.lt 0 rfl
              (rw [if_pos (by rfl)]; go_wp2_with (go_at_call 12; (with_reducible refine (CP _).mono ?_); rintro e w5 ⟨rfl, hb5⟩))
              have hH9 := below_via hHeld hb5
              have BX := BX.step hb5
              refine hK.out _ _ (by (repeat (with_reducible first | assumption | exact Below.refl _ _ | exact Nat.le_refl _ | apply Below.al | apply Below.dr | apply Below.st))) (fun hHeld => ?_)
              clear hK K
              try simp only [Act.put, List.setIfInBounds_toArray, List.set_cons_zero, List.set_cons_succ]
              refine wpAnyH_ready (rs := [5]) (by kernel_rfl) (by simp) (AllReadyH.cons (o := { dst := some 98, op := Op.call { callee := Callee.value (Operand.func 10), args := #[Operand.tmp 93, Operand.const (Value.string { data := #[97] }), Operand.tmp 95, Operand.tmp 97], argTypes := #[31, 9, 9, 9] }, type := 33, pos := "law.go:92", after := #[{ on := 0, ground := Ground.data }, { on := 2, ground := Ground.data }, { on := 4, ground := Ground.data }, { on := 4, ground := Ground.chain }], guard := none }) rfl (fun K hK => ?_) AllReadyH.nil)
              have BL := BX.lt 0 rfl
              (rw [if_pos (by rfl)]; go_wp2_with (have hW9 := hHeld.size; go_at_call 10; (with_reducible refine (CV _ ?_).mono ?_); (focus (with_reducible assumption)); rintro e w10 ⟨cs10, v10, rfl, hv10, i1, hb10⟩; obtain ⟨g1, g2, g3, g4, g5, g6, g7, g8, g9, g10, ecs, -, -, -⟩ := hv10.raw; subst ecs; have hv10 := hv10.lt; generalize v10.l.length = n10 at *))
              have hH9 := below_via hHeld hb10
              have BX := BX.step hb10
              refine hK.out _ _ (by (repeat (with_reducible first | assumption | exact Below.refl _ _ | exact Nat.le_refl _ | apply Below.al | apply Below.dr | apply Below.st))) (fun hHeld => ?_)
              clear hK K
              try simp only [Act.put, List.setIfInBounds_toArray, List.set_cons_zero, List.set_cons_succ]
              refine wpAnyH_take (i := 6) (oi := { dst := some 92, op := Op.move (Operand.tmp 98), type := 33, pos := "law.go:92", after := #[{ on := 5, ground := Ground.data }], guard := none }) (v := ?_) rfl (by kernel_rfl) (by kernel_rfl) (by kernel_rfl) (fun _ _ _ h => h) (Or.inl ⟨by rfl, ?_⟩) (by assumption) ?_
              rotate_left
              · (intro W hW; (try dsimp only at hW); go_simp <;> (with_reducible rfl))
              try simp only [Act.put, List.setIfInBounds_toArray, List.set_cons_zero, List.set_cons_succ]
              refine wpAnyH_take (i := 7) (oi := { dst := some 99, op := Op.extract (Operand.tmp 92) 0, type := 31, pos := "law.go:92", after := #[{ on := 6, ground := Ground.data }], guard := none }) (v := ?_) rfl (by kernel_rfl) (by kernel_rfl) (by kernel_rfl) (fun _ _ _ h => h) (Or.inl ⟨by rfl, ?_⟩) (by assumption) ?_
              rotate_left
              · (intro W hW; (try dsimp only at hW); go_simp <;> (with_reducible rfl))
              try simp only [Act.put, List.setIfInBounds_toArray, List.set_cons_zero, List.set_cons_succ]
              refine wpAnyH_take (i := 8) (oi := { dst := some 100, op := Op.extract (Operand.tmp 92) 1, type := 32, pos := "law.go:92", after := #[{ on := 6, ground := Ground.data }, { on := 10, ground := Ground.gcOnly Departure.lateStores }], guard := none }) (v := ?_) rfl (by kernel_rfl) (by kernel_rfl) (by kernel_rfl) (fun _ _ _ h => h) (Or.inl ⟨by rfl, ?_⟩) (by assumption) ?_
              rotate_left
              · (intro W hW; (try dsimp only at hW); go_simp <;> (with_reducible rfl))
              try simp only [Act.put, List.setIfInBounds_toArray, List.set_cons_zero, List.set_cons_succ]
              refine wpAnyH_ready (rs := [10]) (by kernel_rfl) (by simp) (AllReadyH.cons (o := { dst := none, op := Op.store 31 (Operand.tmp 14) (Operand.tmp 99), type := 0, pos := "law.go:92", after := #[{ on := 9, ground := Ground.data }, { on := 7, ground := Ground.data }, { on := 5, ground := Ground.chain }, { on := 0, ground := Ground.phase }, { on := 1, ground := Ground.phase }, { on := 2, ground := Ground.phase }, { on := 3, ground := Ground.phase }, { on := 4, ground := Ground.phase }, { on := 5, ground := Ground.phase }, { on := 6, ground := Ground.phase }, { on := 7, ground := Ground.phase }, { on := 8, ground := Ground.textOnly Departure.lateStores }, { on := 9, ground := Ground.phase }], guard := none }) rfl (fun K hK => ?_) AllReadyH.nil)
              have z0 := BX.cell 0 0 rfl rfl
              have u0 := BX.frozen 0 0 rfl
              have z1 := BX.cell 0 1 rfl rfl
              have u1 := BX.frozen 0 1 rfl
              have z2 := BX.cell 0 2 rfl rfl
              have u2 := BX.frozen 0 2 rfl
              have z3 := BX.cell 0 3 rfl rfl
              have u3 := BX.frozen 0 3 rfl
              have z4 := BX.cell 0 4 rfl rfl
              have u4 := BX.frozen 0 4 rfl
              have z5 := BX.cell 0 5 rfl rfl
              have u5 := BX.frozen 0 5 rfl
              (rw [if_pos (by rfl)]; go_wp2_with (fail))
              refine hK.out _ _ (by (repeat (with_reducible first | assumption | exact Below.refl _ _ | exact Nat.le_refl _ | apply Below.al | apply Below.dr | apply Below.st))) (fun hHeld => ?_)
              clear z0 u0 z1 u1 z2 u2 z3 u3 z4 u4 z5 u5
              clear hK K
              try simp only [Act.put, List.setIfInBounds_toArray, List.set_cons_zero, List.set_cons_succ]
              refine wpAnyH_take (i := 11) (oi := { dst := some 15, op := Op.assign (Operand.tmp 100), type := 32, pos := "law.go:92", after := #[{ on := 8, ground := Ground.data }, { on := 10, ground := Ground.chain }, { on := 0, ground := Ground.phase }, { on := 1, ground := Ground.phase }, { on := 2, ground := Ground.phase }, { on := 3, ground := Ground.phase }, { on := 4, ground := Ground.phase }, { on := 5, ground := Ground.phase }, { on := 6, ground := Ground.phase }, { on := 7, ground := Ground.phase }, { on := 8, ground := Ground.phase }, { on := 9, ground := Ground.phase }, { on := 10, ground := Ground.phase }], guard := none }) (v := ?_) rfl (by kernel_rfl) (by kernel_rfl) (by kernel_rfl) (fun _ _ _ h => h) (Or.inl ⟨by rfl, ?_⟩) (by assumption) ?_
              rotate_left
              · (intro W hW; (try dsimp only at hW); go_simp <;> (with_reducible rfl))
              try simp only [Act.put, List.setIfInBounds_toArray, List.set_cons_zero, List.set_cons_succ]
              refine wpAnyH_done (by kernel_rfl) ?_ _
              refine NoPanic.normal ?_
              go_wp2_with fail
              go_meet
              have hend := viewbox_endG (G := fun x => x ≠ b8) BX hv10 (fun x hx hl => ⟨fun e => by (subst e; obtain ⟨hx | hx, hx2⟩ := hx <;> omega), fun e => by (subst e; obtain ⟨hx | hx, hx2⟩ := hx; exact hx.2 rfl; omega)⟩)
              unfold set6 at hend
              exact ⟨_, _, v10, rfl, rfl, hend, BG, i1, hHeld⟩
          · skip
            have BG := hHeld.size
            (rw [if_pos (by rfl)]; go_wp2_with (fail))
            refine hK.out _ _ (by (repeat (with_reducible first | assumption | exact Below.refl _ _ | exact Nat.le_refl _ | apply Below.al | apply Below.dr | apply Below.st))) (fun hHeld => ?_)
            have BX := (by with_reducible first | exact vbox_of hHeld | exact vbox_drew hHeld)
            clear hK K
            try simp only [Act.put, List.setIfInBounds_toArray, List.set_cons_zero, List.set_cons_succ]
            refine wpAnyH_ready (rs := [2]) (by kernel_rfl) (by simp) (AllReadyH.cons (o := { dst := some 95, op := Op.call { callee := Callee.value (Operand.func 11), args := #[Operand.tmp 94], argTypes := #[3] }, type := 9, pos := "law.go:92", after := #[{ on := 1, ground := Ground.data }], guard := none }) rfl (fun K hK => ?_) AllReadyH.nil)
            have BL := BX.lt 0 rfl
            (rw [if_pos (by rfl)]; go_wp2_with (go_at_call 11; (with_reducible refine (CK _).mono ?_); rintro e w2 ⟨rfl, hb2⟩))
            have hH9 := below_via hHeld hb2
            have BX := BX.step hb2
            refine hK.out _ _ (by (repeat (with_reducible first | assumption | exact Below.refl _ _ | exact Nat.le_refl _ | apply Below.al | apply Below.dr | apply Below.st))) (fun hHeld => ?_)
            clear hK K
            try simp only [Act.put, List.setIfInBounds_toArray, List.set_cons_zero, List.set_cons_succ]
            refine wpAnyH_ready (rs := [4]) (by kernel_rfl) (by simp) (AllReadyH.cons (o := { dst := some 97, op := Op.call { callee := Callee.value (Operand.func 12), args := #[Operand.tmp 96], argTypes := #[39] }, type := 9, pos := "law.go:92", after := #[{ on := 3, ground := Ground.data }, { on := 2, ground := Ground.chain }], guard := none }) rfl (fun K hK => ?_) AllReadyH.nil)
            have BL := BX.lt 0 rfl
            (rw [if_pos (by rfl)]; go_wp2_with (go_at_call 12; (with_reducible refine (CP _).mono ?_); rintro e w5 ⟨rfl, hb5⟩))
            have hH9 := below_via hHeld hb5
            have BX := BX.step hb5
            refine hK.out _ _ (by (repeat (with_reducible first | assumption | exact Below.refl _ _ | exact Nat.le_refl _ | apply Below.al | apply Below.dr | apply Below.st))) (fun hHeld => ?_)
            clear hK K
            try simp only [Act.put, List.setIfInBounds_toArray, List.set_cons_zero, List.set_cons_succ]
            refine wpAnyH_ready (rs := [5]) (by kernel_rfl) (by simp) (AllReadyH.cons (o := { dst := some 98, op := Op.call { callee := Callee.value (Operand.func 10), args := #[Operand.tmp 93, Operand.const (Value.string { data := #[97] }), Operand.tmp 95, Operand.tmp 97], argTypes := #[31, 9, 9, 9] }, type := 33, pos := "law.go:92", after := #[{ on := 0, ground := Ground.data }, { on := 2, ground := Ground.data }, { on := 4, ground := Ground.data }, { on := 4, ground := Ground.chain }], guard := none }) rfl (fun K hK => ?_) AllReadyH.nil)
            have BL := BX.lt 0 rfl
            (rw [if_pos (by rfl)]; go_wp2_with (have hW9 := hHeld.size; go_at_call 10; (with_reducible refine (CV _ ?_).mono ?_); (focus (with_reducible assumption)); rintro e w10 ⟨cs10, v10, rfl, hv10, i1, hb10⟩; obtain ⟨g1, g2, g3, g4, g5, g6, g7, g8, g9, g10, ecs, -, -, -⟩ := hv10.raw; subst ecs; have hv10 := hv10.lt; generalize v10.l.length = n10 at *))
            have hH9 := below_via hHeld hb10
            have BX := BX.step hb10
            refine hK.out _ _ (by (repeat (with_reducible first | assumption | exact Below.refl _ _ | exact Nat.le_refl _ | apply Below.al | apply Below.dr | apply Below.st))) (fun hHeld => ?_)
            clear hK K
            try simp only [Act.put, List.setIfInBounds_toArray, List.set_cons_zero, List.set_cons_succ]
            refine wpAnyH_take (i := 6) (oi := { dst := some 92, op := Op.move (Operand.tmp 98), type := 33, pos := "law.go:92", after := #[{ on := 5, ground := Ground.data }], guard := none }) (v := ?_) rfl (by kernel_rfl) (by kernel_rfl) (by kernel_rfl) (fun _ _ _ h => h) (Or.inl ⟨by rfl, ?_⟩) (by assumption) ?_
            rotate_left
            · (intro W hW; (try dsimp only at hW); go_simp <;> (with_reducible rfl))
            try simp only [Act.put, List.setIfInBounds_toArray, List.set_cons_zero, List.set_cons_succ]
            refine wpAnyH_take (i := 7) (oi := { dst := some 99, op := Op.extract (Operand.tmp 92) 0, type := 31, pos := "law.go:92", after := #[{ on := 6, ground := Ground.data }], guard := none }) (v := ?_) rfl (by kernel_rfl) (by kernel_rfl) (by kernel_rfl) (fun _ _ _ h => h) (Or.inl ⟨by rfl, ?_⟩) (by assumption) ?_
            rotate_left
            · (intro W hW; (try dsimp only at hW); go_simp <;> (with_reducible rfl))
            try simp only [Act.put, List.setIfInBounds_toArray, List.set_cons_zero, List.set_cons_succ]
            refine wpAnyH_take (i := 8) (oi := { dst := some 100, op := Op.extract (Operand.tmp 92) 1, type := 32, pos := "law.go:92", after := #[{ on := 6, ground := Ground.data }, { on := 10, ground := Ground.gcOnly Departure.lateStores }], guard := none }) (v := ?_) rfl (by kernel_rfl) (by kernel_rfl) (by kernel_rfl) (fun _ _ _ h => h) (Or.inl ⟨by rfl, ?_⟩) (by assumption) ?_
            rotate_left
            · (intro W hW; (try dsimp only at hW); go_simp <;> (with_reducible rfl))
            try simp only [Act.put, List.setIfInBounds_toArray, List.set_cons_zero, List.set_cons_succ]
            refine wpAnyH_ready (rs := [10]) (by kernel_rfl) (by simp) (AllReadyH.cons (o := { dst := none, op := Op.store 31 (Operand.tmp 14) (Operand.tmp 99), type := 0, pos := "law.go:92", after := #[{ on := 9, ground := Ground.data }, { on := 7, ground := Ground.data }, { on := 5, ground := Ground.chain }, { on := 0, ground := Ground.phase }, { on := 1, ground := Ground.phase }, { on := 2, ground := Ground.phase }, { on := 3, ground := Ground.phase }, { on := 4, ground := Ground.phase }, { on := 5, ground := Ground.phase }, { on := 6, ground := Ground.phase }, { on := 7, ground := Ground.phase }, { on := 8, ground := Ground.textOnly Departure.lateStores }, { on := 9, ground := Ground.phase }], guard := none }) rfl (fun K hK => ?_) AllReadyH.nil)
            have z0 := BX.cell 0 0 rfl rfl
            have u0 := BX.frozen 0 0 rfl
            have z1 := BX.cell 0 1 rfl rfl
            have u1 := BX.frozen 0 1 rfl
            have z2 := BX.cell 0 2 rfl rfl
            have u2 := BX.frozen 0 2 rfl
            have z3 := BX.cell 0 3 rfl rfl
            have u3 := BX.frozen 0 3 rfl
            have z4 := BX.cell 0 4 rfl rfl
            have u4 := BX.frozen 0 4 rfl
            have z5 := BX.cell 0 5 rfl rfl
            have u5 := BX.frozen 0 5 rfl
            (rw [if_pos (by rfl)]; go_wp2_with (fail))
            refine hK.out _ _ (by (repeat (with_reducible first | assumption | exact Below.refl _ _ | exact Nat.le_refl _ | apply Below.al | apply Below.dr | apply Below.st))) (fun hHeld => ?_)
            clear z0 u0 z1 u1 z2 u2 z3 u3 z4 u4 z5 u5
            clear hK K
            try simp only [Act.put, List.setIfInBounds_toArray, List.set_cons_zero, List.set_cons_succ]
            refine wpAnyH_take (i := 11) (oi := { dst := some 15, op := Op.assign (Operand.tmp 100), type := 32, pos := "law.go:92", after := #[{ on := 8, ground := Ground.data }, { on := 10, ground := Ground.chain }, { on := 0, ground := Ground.phase }, { on := 1, ground := Ground.phase }, { on := 2, ground := Ground.phase }, { on := 3, ground := Ground.phase }, { on := 4, ground := Ground.phase }, { on := 5, ground := Ground.phase }, { on := 6, ground := Ground.phase }, { on := 7, ground := Ground.phase }, { on := 8, ground := Ground.phase }, { on := 9, ground := Ground.phase }, { on := 10, ground := Ground.phase }], guard := none }) (v := ?_) rfl (by kernel_rfl) (by kernel_rfl) (by kernel_rfl) (fun _ _ _ h => h) (Or.inl ⟨by rfl, ?_⟩) (by assumption) ?_
            rotate_left
            · (intro W hW; (try dsimp only at hW); go_simp <;> (with_reducible rfl))
            try simp only [Act.put, List.setIfInBounds_toArray, List.set_cons_zero, List.set_cons_succ]
            refine wpAnyH_done (by kernel_rfl) ?_ _
            refine NoPanic.normal ?_
            go_wp2_with fail
            go_meet
            have hend := viewbox_endG (G := fun x => x ≠ b8) BX hv10 (fun x hx hl => ⟨fun e => by (subst e; obtain ⟨hx | hx, hx2⟩ := hx <;> omega), fun e => by (subst e; obtain ⟨hx | hx, hx2⟩ := hx; exact hx.2 rfl; omega)⟩)
            unfold set6 at hend
            exact ⟨_, _, v10, rfl, rfl, hend, BG, i1, hHeld⟩
        case rest =>
          obtain ⟨b14, cs14, v14, rfl, rfl, hv14, hb14, hg14, hbx⟩ := hcut
          clear CV CK CP t0 r0 t1 r1 t2 r2 t3 r3 t4 r4 t5 r5 hB0
          obtain ⟨x1, k1, x2, m2, k2, x3, m3, k3, x4, k4, ecs, -, -, -⟩ := hv14.2.2.raw
          subst ecs
          obtain ⟨pg5, hpg⟩ : ∃ z, v14.dir.page = z := ⟨_, rfl⟩
          obtain ⟨lf5, hlf⟩ : ∃ z, v14.dir.isLeaf = z := ⟨_, rfl⟩
          obtain ⟨cn5, hcn⟩ : ∃ z, cntT v14.dir = z := ⟨_, rfl⟩
          obtain ⟨n5, hn5⟩ : ∃ z, v14.l.length = z := ⟨_, rfl⟩
          rw [hpg, hlf, hcn, hn5] at hv14
          have HVX := Lib.hid hv14
          have HVB := Lib.hid (HV3.out.step hbx)
          have HXR := Lib.hid (HX3.out.step hbx)
          have HBX := Lib.hid (below_via HB3.out hbx)
          have h3x := hbx.size
          clear hv14 hbx hpg hlf hcn hn5
          go_upto_region 18 with (fail)
          have hn148 : b14 ≠ b8 := by omega
          have hnr8 : wr.heap.size ≠ b8 := by omega
          have hlt14 := HVX.out.2.1.lt 0 rfl
          have hltr := HXR.out.lt 0 rfl
          have t0 : ∀ W, AgreeF (fun x => x ≠ b8) wc W → W.cell? ⟨b14, 0, none⟩ = some (.int .i64 pg5) := fun W hW => (hW.cell hn148 hlt14).trans (HVX.out.2.1.cell 0 0 rfl rfl)
          have t1 : ∀ W, AgreeF (fun x => x ≠ b8) wc W → W.cell? ⟨b14, 1, none⟩ = some (.bool lf5) := fun W hW => (hW.cell hn148 hlt14).trans (HVX.out.2.1.cell 0 1 rfl rfl)
          have t2 : ∀ W, AgreeF (fun x => x ≠ b8) wc W → W.cell? ⟨b14, 2, none⟩ = some (.slice x1 cn5 k1) := fun W hW => (hW.cell hn148 hlt14).trans (HVX.out.2.1.cell 0 2 rfl rfl)
          have t3 : ∀ W, AgreeF (fun x => x ≠ b8) wc W → W.cell? ⟨b14, 3, none⟩ = some (.slice x2 m2 k2) := fun W hW => (hW.cell hn148 hlt14).trans (HVX.out.2.1.cell 0 3 rfl rfl)
          have t4 : ∀ W, AgreeF (fun x => x ≠ b8) wc W → W.cell? ⟨b14, 4, none⟩ = some (.slice x3 m3 k3) := fun W hW => (hW.cell hn148 hlt14).trans (HVX.out.2.1.cell 0 4 rfl rfl)
          have t5 : ∀ W, AgreeF (fun x => x ≠ b8) wc W → W.cell? ⟨b14, 5, none⟩ = some (.slice x4 n5 k4) := fun W hW => (hW.cell hn148 hlt14).trans (HVX.out.2.1.cell 0 5 rfl rfl)
          have s4 : ∀ W, AgreeF (fun x => x ≠ b8) wc W → W.cell? ⟨wr.heap.size, 4, none⟩ = some (.string (strOf r.key)) := fun W hW => (hW.cell hnr8 hltr).trans (HXR.out.cell 0 4 rfl rfl)
          have CV2 : ∀ W, Below wc.heap.size wc W → Calls Tryd.prog 10 #[.agg #[.int .i64 pg5, .bool lf5, .slice x1 cn5 k1, .slice x2 m2 k2, .slice x3 m3 k3, .slice x4 n5 k4], .string (strOf [98, 97]), .string ⟨#[107]⟩, .string (strOf r.key)] W fun e w' => ∃ cs' v', e = .returned (.tuple #[.agg cs'.toArray, .int .i64 0]) ∧ ViewOn (Fr (fun x => (x < wc.heap.size ∧ x ≠ b14) ∧ x ≠ b8) W) w' cs' v' ∧ Grow (recsE l (i + 1)) (3 + 2 * i + 1 + 1) (1 + i + 1) (1 + i + 1) v' ∧ Below W.heap.size W w' := fun W hW =>
            grow_put_b (fun x hx => Nat.lt_of_lt_of_le hx.1.1 hW.size) (HVX.out.2.2.below hW) hg14 (key := [107]) ⟨by simp, by simp⟩ (by have := HZ.out.2; omega)
          have HXB := Lib.hid HVB.out.2.1
          have hwb9 := HW7.out
          have hA0 : AgreeF (fun x => x ≠ b8) wc wc.drew := AgreeF.dr (AgreeF.refl _)
          have HFIT : Hid (∀ k r, k < i + 1 → l[k]? = some r → fitRc r ∧ r.digest < 4294967296) := Lib.hid (fun k r' hk hr' => by
            by_cases hki : k < i
            · exact HF.out k r' hki hr'
            · obtain rfl : k = i := by omega
              rw [HR.out] at hr'
              cases hr'
              obtain ⟨u1, u2⟩ := HZ.out
              exact ⟨⟨by omega, by omega, by omega, by omega, by omega, by omega, by omega, by omega⟩, hrd⟩)
          refine wp_region_noPanic ?_
          refine wp_region_held_drew (S := (fun W => AgreeF (fun x => x ≠ b8) wc W)) (by kernel_rfl) (by (repeat (with_reducible first | assumption | exact AgreeF.refl _ | apply AgreeF.al | apply AgreeF.dr | apply AgreeF.st))) (fun hHeld => ?_)
          refine wpAnyH_take (i := 0) (oi := { dst := some 113, op := Op.load 31 (Operand.tmp 14), type := 31, pos := "law.go:96", after := #[], guard := none }) (v := ?_) rfl (by kernel_rfl) (by kernel_rfl) (by kernel_rfl) (fun _ _ _ h => h) (Or.inl ⟨by rfl, ?_⟩) (by assumption) ?_
          rotate_left
          · (intro W hW; (try dsimp only at hW); go_simp <;> (with_reducible rfl))
          try simp only [Act.put, List.setIfInBounds_toArray, List.set_cons_zero, List.set_cons_succ]
          refine wpAnyH_take (i := 2) (oi := { dst := some 115, op := Op.fieldAddr 39 (Operand.tmp 11) 4, type := 0, pos := "law.go:96", after := #[], guard := none }) (v := ?_) rfl (by kernel_rfl) (by kernel_rfl) (by kernel_rfl) (fun _ _ _ h => h) (Or.inl ⟨by rfl, ?_⟩) (by assumption) ?_
          rotate_left
          · (intro W hW; (try dsimp only at hW); go_simp <;> (with_reducible rfl))
          try simp only [Act.put, List.setIfInBounds_toArray, List.set_cons_zero, List.set_cons_succ]
          refine wpAnyH_take (i := 3) (oi := { dst := some 116, op := Op.load 9 (Operand.tmp 115), type := 9, pos := "law.go:96", after := #[{ on := 2, ground := Ground.data }], guard := none }) (v := ?_) rfl (by kernel_rfl) (by kernel_rfl) (by kernel_rfl) (fun _ _ _ h => h) (Or.inl ⟨by rfl, ?_⟩) (by assumption) ?_
          rotate_left
          · (intro W hW; (try dsimp only at hW); go_simp <;> (with_reducible rfl))
          try simp only [Act.put, List.setIfInBounds_toArray, List.set_cons_zero, List.set_cons_succ]
          refine wpAnyH_ready (rs := [1]) (by kernel_rfl) (by simp) (AllReadyH.cons (o := { dst := some 114, op := Op.call { callee := Callee.value (Operand.func 8), args := #[Operand.const (Value.string { data := #[97] })], argTypes := #[9] }, type := 9, pos := "law.go:96", after := #[], guard := none }) rfl (fun K hK => ?_) AllReadyH.nil)
          (rw [if_pos (by rfl)]; go_wp2_with (go_at_call 8; (with_reducible refine (CU _).mono ?_); rintro e wu ⟨rfl, rfl⟩))
          refine hK.out _ _ (by (repeat (with_reducible first | assumption | exact AgreeF.refl _ | apply AgreeF.al | apply AgreeF.dr | apply AgreeF.st))) (fun hHeld => ?_)
          clear hK K
          try simp only [Act.put, List.setIfInBounds_toArray, List.set_cons_zero, List.set_cons_succ]
          refine wpAnyH_ready (rs := [4]) (by kernel_rfl) (by simp) (AllReadyH.cons (o := { dst := some 117, op := Op.call { callee := Callee.value (Operand.func 10), args := #[Operand.tmp 113, Operand.tmp 114, Operand.const (Value.string { data := #[107] }), Operand.tmp 116], argTypes := #[31, 9, 9, 9] }, type := 33, pos := "law.go:96", after := #[{ on := 0, ground := Ground.data }, { on := 1, ground := Ground.data }, { on := 3, ground := Ground.data }, { on := 1, ground := Ground.chain }], guard := none }) rfl (fun K hK => ?_) AllReadyH.nil)
          (rw [if_pos (by rfl)]; go_wp2_with (go_at_call 10; (with_reducible refine (CV2 _ ?_).mono ?_); (focus (repeat (with_reducible first | assumption | exact Below.refl _ _ | apply Below.al | apply Below.dr))); rintro e w9 ⟨cs9, v9, rfl, hv9, hg9, hb9⟩; obtain ⟨g1, g2, g3, g4, g5, g6, g7, g8, g9, g10, ecs, -, -, -⟩ := hv9.raw; subst ecs; have hB9 : Below wc.heap.size wc w9 := below_via (by (repeat (with_reducible first | assumption | exact Below.refl _ _ | apply Below.al | apply Below.dr))) hb9; have hA9 : AgreeF (fun x => x ≠ b8) wc w9 := AgreeF.of_below hB9; have hx9 := HXB.out.step hB9; generalize v9.l.length = n9 at *; have z0 := hx9.cell 0 0 rfl rfl; have u0 := hx9.frozen 0 0 rfl; have z1 := hx9.cell 0 1 rfl rfl; have u1 := hx9.frozen 0 1 rfl; have z2 := hx9.cell 0 2 rfl rfl; have u2 := hx9.frozen 0 2 rfl; have z3 := hx9.cell 0 3 rfl rfl; have u3 := hx9.frozen 0 3 rfl; have z4 := hx9.cell 0 4 rfl rfl; have u4 := hx9.frozen 0 4 rfl; have z5 := hx9.cell 0 5 rfl rfl; have u5 := hx9.frozen 0 5 rfl))
          refine hK.out _ _ (by (repeat (with_reducible first | assumption | exact AgreeF.refl _ | apply AgreeF.al | apply AgreeF.dr | apply AgreeF.st))) (fun hHeld => ?_)
          clear hK K
          try simp only [Act.put, List.setIfInBounds_toArray, List.set_cons_zero, List.set_cons_succ]
          refine wpAnyH_take (i := 5) (oi := { dst := some 112, op := Op.move (Operand.tmp 117), type := 33, pos := "law.go:96", after := #[{ on := 4, ground := Ground.data }], guard := none }) (v := ?_) rfl (by kernel_rfl) (by kernel_rfl) (by kernel_rfl) (fun _ _ _ h => h) (Or.inl ⟨by rfl, ?_⟩) (by assumption) ?_
          rotate_left
          · (intro W hW; (try dsimp only at hW); go_simp <;> (with_reducible rfl))
          try simp only [Act.put, List.setIfInBounds_toArray, List.set_cons_zero, List.set_cons_succ]
          refine wpAnyH_take (i := 6) (oi := { dst := some 118, op := Op.extract (Operand.tmp 112) 0, type := 31, pos := "law.go:96", after := #[{ on := 5, ground := Ground.data }], guard := none }) (v := ?_) rfl (by kernel_rfl) (by kernel_rfl) (by kernel_rfl) (fun _ _ _ h => h) (Or.inl ⟨by rfl, ?_⟩) (by assumption) ?_
          rotate_left
          · (intro W hW; (try dsimp only at hW); go_simp <;> (with_reducible rfl))
          try simp only [Act.put, List.setIfInBounds_toArray, List.set_cons_zero, List.set_cons_succ]
          refine wpAnyH_take (i := 7) (oi := { dst := some 119, op := Op.extract (Operand.tmp 112) 1, type := 32, pos := "law.go:96", after := #[{ on := 5, ground := Ground.data }, { on := 8, ground := Ground.gcOnly Departure.lateStores }], guard := none }) (v := ?_) rfl (by kernel_rfl) (by kernel_rfl) (by kernel_rfl) (fun _ _ _ h => h) (Or.inl ⟨by rfl, ?_⟩) (by assumption) ?_
          rotate_left
          · (intro W hW; (try dsimp only at hW); go_simp <;> (with_reducible rfl))
          try simp only [Act.put, List.setIfInBounds_toArray, List.set_cons_zero, List.set_cons_succ]
          refine wpAnyH_ready (rs := [8]) (by kernel_rfl) (by simp) (AllReadyH.cons (o := { dst := none, op := Op.store 31 (Operand.tmp 8) (Operand.tmp 118), type := 0, pos := "law.go:96", after := #[{ on := 6, ground := Ground.data }, { on := 4, ground := Ground.chain }, { on := 0, ground := Ground.phase }, { on := 1, ground := Ground.phase }, { on := 2, ground := Ground.phase }, { on := 3, ground := Ground.phase }, { on := 4, ground := Ground.phase }, { on := 5, ground := Ground.phase }, { on := 6, ground := Ground.phase }, { on := 7, ground := Ground.textOnly Departure.lateStores }], guard := none }) rfl (fun K hK => ?_) AllReadyH.nil)
          (rw [if_pos (by rfl)]; go_wp2_with (fail))
          refine hK.out _ _ (by (repeat (with_reducible first | assumption | exact AgreeF.refl _ | apply AgreeF.al | apply AgreeF.dr | apply AgreeF.st))) (fun hHeld => ?_)
          clear hK K
          try simp only [Act.put, List.setIfInBounds_toArray, List.set_cons_zero, List.set_cons_succ]
          refine wpAnyH_done (by kernel_rfl) ?_ _
          refine NoPanic.normal ?_
          go_wp2_with fail
          have hend := viewbox_end hx9 hv9 (fun x hx hl e => by (subst e; rcases hx with hx | hx; exact hx.2 rfl; have hx : wc.heap.size ≤ x := hx; omega))
          have hbe := set6_below (below_via HBX.out hB9) hwb9 (.int .i64 v9.dir.page) (.bool v9.dir.isLeaf) (.slice g1 (cntT v9.dir) g2) (.slice g3 g4 g5) (.slice g6 g7 g8) (.slice g9 n9 g10)
          unfold set6 at hend hbe
          go_roundw
          case rel => exact ⟨i + 1, _, v9, by go_num, by omega, HFIT.out, hend, by (have e1 : 3 + 2 * (i + 1) = 3 + 2 * i + 1 + 1 := by omega); (have e2 : 1 + (i + 1) = 1 + i + 1 := by omega); rw [e1, e2]; exact hg9, hbe⟩
          case measure => simp [intOf]; omega
      · obtain rfl : i = n := by omega
        have d1 : decide ((i : Int) < (i : Int)) = false := by simp
        obtain ⟨p1, q1, p2, l2, q2', p3, l3, q3', p4, q4, ecs, -, -, -⟩ := hvb.on.raw
        subst ecs
        obtain ⟨hn2, hsort, hpos, -, -⟩ := hg.facts
        have hG := hg
        obtain ⟨hlv9, _, M, T, N, U, eL, hM9, _, hwT, _, _, hE⟩ := hg
        have hb0 : v.l[0]? = some ⟨[97], M, T⟩ := by rw [eL]; rfl
        have hRR : (entsT M T).drop (posK (keyB (f : Int)) (keysOf (entsT M T))) = (recsE l i).drop (min f i) := by
          rw [hE, recsE_pos l f i (by omega) (by omega)]
        have hfitA : ∀ r ∈ l, fitRc r ∧ r.digest < 4294967296 := fun r hr => by
          obtain ⟨k, hk⟩ := List.mem_iff_getElem?.1 hr
          exact hfit k r (by rw [← HN.out]; exact (List.getElem?_eq_some_iff.1 hk).1) hk
        have hls := listed l f m hfitA
        rw [HN.out] at hls
        have hmx : max (f : Int) 0 = (f : Int) := by omega
        have CL := rlist_of (w := wr) (d0 := .int .i64 v.dir.page) (d1 := .bool v.dir.isLeaf) (d2 := .slice p1 (cntT v.dir) q1) (d3 := .slice p2 l2 q2') (d4 := .slice p3 l3 q3') (a := p4) (n := v.l.length) (c := q4) (R := ((recsE l i).drop (min f i)).take m) (f : Int) (m : Int) (by omega) (fun W hW => by
          rw [hmx]
          have := scan_any (F := fun x => x < wr.heap.size) (fun x hx => Nat.lt_of_lt_of_le hx hW.size) (hvb.on.below hW) (by omega) hsort [97] hpos hb0 rfl hwT (show M ≤ 200 by omega) (keyB (f : Int)) (m : Int) hRR (by rw [List.length_drop, recsE_len]; omega)
          exact this.mono fun e w' h => ScanTo.some h) (by rw [List.length_take, List.length_drop, recsE_len]; omega) (fun x hx => by
          have hx1 := List.mem_of_mem_drop (List.mem_of_mem_take hx)
          unfold recsE at hx1
          obtain ⟨k, hk, rfl⟩ := List.mem_map.1 hx1
          have hk2 : k < i := by simpa using hk
          have hk3 : k < l.length := by rw [HN.out]; exact hk2
          obtain ⟨⟨y1, y2, _⟩, _⟩ := hfitA l[k] (List.getElem_mem hk3)
          have hl9 := rcB_len l[k] (by omega) (by omega)
          show (rcB ((l[k]?).getD zeroRc)).length ≤ 100000
          rw [List.getElem?_eq_getElem hk3]
          show (rcB l[k]).length ≤ 100000
          omega)
        have hLw := wantL_len l f m
        rw [HN.out] at hLw
        have HWA := Lib.hid (fun k (hk : k < (wantL l f m).length) => wantL_at l f m hk)
        unfold ListTo at CL
        rw [hls.1, hls.2] at CL
        have HFA := Lib.hid hfitA
        obtain ⟨X, hX⟩ : ∃ z, wantL l f m = z := ⟨_, rfl⟩
        rw [hX] at CL hLw HWA
        obtain ⟨x9, hx9⟩ : ∃ z, X.length = z := ⟨_, rfl⟩
        rw [hx9] at CL hLw HWA
        have c0 := hvb.2.1.cell 0 0 rfl rfl
        have c1 := hvb.2.1.cell 0 1 rfl rfl
        have c2 := hvb.2.1.cell 0 2 rfl rfl
        have c3 := hvb.2.1.cell 0 3 rfl rfl
        have c4 := hvb.2.1.cell 0 4 rfl rfl
        have c5 := hvb.2.1.cell 0 5 rfl rfl
        have HBR := Lib.hid hbr
        have HXL := Lib.hid hx9
        have HLW := Lib.hid hLw
        generalize v.dir.page = pg9 at *
        generalize v.dir.isLeaf = lf9 at *
        generalize cntT v.dir = cn9 at *
        generalize v.l.length = n9 at *
        have hfw : IntKind.i64.wrap (f : Int) = (f : Int) := by simp [IntKind.wrap, IntKind.signed, IntKind.bits]; omega
        have hmw : IntKind.i64.wrap (m : Int) = (m : Int) := by simp [IntKind.wrap, IntKind.signed, IntKind.bits]; omega
        have hsw : IntKind.i64.wrap ((i : Int) - (f : Int)) = (i : Int) - (f : Int) := by simp [IntKind.wrap, IntKind.signed, IntKind.bits]; omega
        clear hvb hG hlv9 eL hM9 hwT hE hb0 hRR hfitA hls hmx hX hfit hbr hn2 hsort hpos hx9 hLw
        go_wp2_with fail
        refine CL.mono ?_
        rintro e w3 ⟨a3, c3', rfl, ho3, hb3⟩
        have HO3 := Lib.hid ho3
        have HB3 := Lib.hid (below_via HBR.out hb3)
        clear CL c0 c1 c2 c3 c4 c5 ho3 hb3
        obtain ⟨g1, hg1⟩ : ∃ g : Nat, i - f = g := ⟨_, rfl⟩
        have k1 : (if (i : Int) - (f : Int) < 0 then (0 : Int) else (i : Int) - (f : Int)) = (g1 : Int) := by split <;> omega
        have k2 : (if (i : Int) - (f : Int) > 0 then (i : Int) - (f : Int) else (0 : Int)) = (g1 : Int) := by split <;> omega
        have k3 : (if (0 : Int) < (i : Int) - (f : Int) then (i : Int) - (f : Int) else (0 : Int)) = (g1 : Int) := by split <;> omega
        have hx := HLW.out
        rw [hg1] at hx
        have k4 : (if (m : Int) < (g1 : Int) then (m : Int) else (g1 : Int)) = (x9 : Int) := by split <;> omega
        have k5 : (if (g1 : Int) < (m : Int) then (g1 : Int) else (m : Int)) = (x9 : Int) := by split <;> omega
        have k6 : (if (g1 : Int) > (m : Int) then (m : Int) else (g1 : Int)) = (x9 : Int) := by split <;> omega
        have k8 : (if m < g1 then (m : Int) else (g1 : Int)) = (x9 : Int) := by split <;> omega
        have k9 : (if g1 < m then (g1 : Int) else (m : Int)) = (x9 : Int) := by split <;> omega
        have k7 : ((x9 : Int) != (x9 : Int)) = false := by simp
        have hx9i : ∀ k, k < x9 → f + k < i := fun k hk => by omega
        have HXI := Lib.hid hx9i
        clear hg1 hx hx9i
        go_wp2_with fail
        go_loopw [19] (fun s wq => ∃ k : Nat, s = .int .i64 k ∧ k ≤ x9 ∧ Below w3.heap.size w3 wq) (fun s _ => x9 - (intOf s).toNat)
        case atStart => exact ⟨0, rfl, Nat.zero_le _, Below.refl _ _⟩
        case round =>
          clear k1 k2 k3 k4 k5 k6 k7 k8 k9
          obtain ⟨k, rfl, hk, hbq⟩ := hrel
          by_cases hkl : k < x9
          · have d2 : decide ((k : Int) < (x9 : Int)) = true := by simp; omega
            have hfi := HXI.out k hkl
            obtain ⟨lb, off, r, rfl, hlb, hr, hrd, p0, p1, p2, p3, p4, p5⟩ := rc_cells HL.out hfi
            have hXk : X[k]? = some r := by rw [HWA.out k hkl]; exact hr
            obtain ⟨a9, c9, e9, hraw⟩ := Raw.of_own (L := X.map rCell) HO3.out (by rw [List.length_map]; exact HXL.out)
            cases e9
            obtain ⟨gb, off2, y, cs9, rfl, hgb, hy, _, hcs, hcell⟩ := TabR.at hraw hkl
            have hy' : rCell r = y := by
              rw [List.getElem?_map, hXk] at hy
              simpa using hy
            subst hy'
            have hcs' : cs9 = [.int .i64 r.actor, .int .i64 r.from_, .int .i64 r.to_, .string (strOf r.bucket), .string (strOf r.key), .int .u32 (r.digest : Int)] := hcs
            subst hcs'
            have hbwq := HB3.out.trans (hbq.mono HB3.out.size)
            have v0 : ∀ W, Below wr.heap.size wr W → W.cell? ⟨lb, off + (f + k) * 6, none⟩ = some (.int .i64 r.actor) := fun W hW => ((hbwq.trans (hW.mono hbwq.size)).cell (p := ⟨lb, off + (f + k) * 6, none⟩) hlb).trans p0
            have x0 : ∀ W, Below wr.heap.size wr W → W.cell? ⟨gb, off2 + k * 6, none⟩ = some (.int .i64 r.actor) := fun W hW => ((hbq.trans (hW.mono hbq.size)).cell (p := ⟨gb, off2 + k * 6, none⟩) hgb).trans (hcell 0 _ rfl)
            have v1 : ∀ W, Below wr.heap.size wr W → W.cell? ⟨lb, off + (f + k) * 6 + 1, none⟩ = some (.int .i64 r.from_) := fun W hW => ((hbwq.trans (hW.mono hbwq.size)).cell (p := ⟨lb, off + (f + k) * 6 + 1, none⟩) hlb).trans p1
            have x1 : ∀ W, Below wr.heap.size wr W → W.cell? ⟨gb, off2 + k * 6 + 1, none⟩ = some (.int .i64 r.from_) := fun W hW => ((hbq.trans (hW.mono hbq.size)).cell (p := ⟨gb, off2 + k * 6 + 1, none⟩) hgb).trans (hcell 1 _ rfl)
            have v2 : ∀ W, Below wr.heap.size wr W → W.cell? ⟨lb, off + (f + k) * 6 + 2, none⟩ = some (.int .i64 r.to_) := fun W hW => ((hbwq.trans (hW.mono hbwq.size)).cell (p := ⟨lb, off + (f + k) * 6 + 2, none⟩) hlb).trans p2
            have x2 : ∀ W, Below wr.heap.size wr W → W.cell? ⟨gb, off2 + k * 6 + 2, none⟩ = some (.int .i64 r.to_) := fun W hW => ((hbq.trans (hW.mono hbq.size)).cell (p := ⟨gb, off2 + k * 6 + 2, none⟩) hgb).trans (hcell 2 _ rfl)
            have v3 : ∀ W, Below wr.heap.size wr W → W.cell? ⟨lb, off + (f + k) * 6 + 3, none⟩ = some (.string (strOf r.bucket)) := fun W hW => ((hbwq.trans (hW.mono hbwq.size)).cell (p := ⟨lb, off + (f + k) * 6 + 3, none⟩) hlb).trans p3
            have x3 : ∀ W, Below wr.heap.size wr W → W.cell? ⟨gb, off2 + k * 6 + 3, none⟩ = some (.string (strOf r.bucket)) := fun W hW => ((hbq.trans (hW.mono hbq.size)).cell (p := ⟨gb, off2 + k * 6 + 3, none⟩) hgb).trans (hcell 3 _ rfl)
            have v4 : ∀ W, Below wr.heap.size wr W → W.cell? ⟨lb, off + (f + k) * 6 + 4, none⟩ = some (.string (strOf r.key)) := fun W hW => ((hbwq.trans (hW.mono hbwq.size)).cell (p := ⟨lb, off + (f + k) * 6 + 4, none⟩) hlb).trans p4
            have x4 : ∀ W, Below wr.heap.size wr W → W.cell? ⟨gb, off2 + k * 6 + 4, none⟩ = some (.string (strOf r.key)) := fun W hW => ((hbq.trans (hW.mono hbq.size)).cell (p := ⟨gb, off2 + k * 6 + 4, none⟩) hgb).trans (hcell 4 _ rfl)
            have v5 : ∀ W, Below wr.heap.size wr W → W.cell? ⟨lb, off + (f + k) * 6 + 5, none⟩ = some (.int .u32 (r.digest : Int)) := fun W hW => ((hbwq.trans (hW.mono hbwq.size)).cell (p := ⟨lb, off + (f + k) * 6 + 5, none⟩) hlb).trans p5
            have x5 : ∀ W, Below wr.heap.size wr W → W.cell? ⟨gb, off2 + k * 6 + 5, none⟩ = some (.int .u32 (r.digest : Int)) := fun W hW => ((hbq.trans (hW.mono hbq.size)).cell (p := ⟨gb, off2 + k * 6 + 5, none⟩) hgb).trans (hcell 5 _ rfl)
            have hEq : ∀ W, (binOp .neq 39 (.agg #[.int .i64 r.actor, .int .i64 r.from_, .int .i64 r.to_, .string (strOf r.bucket), .string (strOf r.key), .int .u32 (r.digest : Int)]) (.agg #[.int .i64 r.actor, .int .i64 r.from_, .int .i64 r.to_, .string (strOf r.bucket), .string (strOf r.key), .int .u32 (r.digest : Int)])).run Tryd.prog W = .ok (.bool false) W := fun W => rcne r W
            have hsw2 : IntKind.i64.wrap ((f : Int) + (k : Int)) = (f : Int) + (k : Int) := by simp [IntKind.wrap, IntKind.signed, IntKind.bits]; omega
            have d3 : decide ((f : Int) + (k : Int) < (i : Int)) = true := by simp; omega
            have d4 : decide ((0 : Int) ≤ (f : Int) + (k : Int)) = true := by simp; omega
            have d5 : decide ((0 : Int) ≤ (k : Int)) = true := by simp
            have d6 : (0 : Int) ≤ (f : Int) + (k : Int) := by omega
            have d8 : ((f : Int) + (k : Int)).toNat = f + k := by omega
            have d7 : (f : Int) + (k : Int) < (i : Int) := by omega
            have hB0 : Below wr.heap.size wr wr.drew := Below.dr (Below.refl _ _)
            have HBQ := Lib.hid hbq
            clear hraw hcell hcs hy hXk hr hrd p0 p1 p2 p3 p4 p5 hbq hbwq
            go_upto_region 26 with (fail)
            go_region_held3 (fun W => Below wr.heap.size wr W) (first | with_reducible assumption | (repeat (with_reducible first | assumption | exact Below.refl _ _ | apply Below.al | apply Below.dr))) (fail)
            go_wp2_with fail
            go_roundw
            case rel => exact ⟨k + 1, by go_num, by omega, HBQ.out.drew⟩
            case measure => simp [intOf]; omega
          · obtain rfl : k = x9 := by omega
            have d2 : decide ((k : Int) < (k : Int)) = false := by simp
            have HBQ := Lib.hid (below_via HB3.out hbq)
            clear hbq
            go_wp2_with fail
            go_ret
            exact ⟨rfl, HBQ.out⟩
end Go.Proofs.YtpghlmcoajaiiaaDoor
