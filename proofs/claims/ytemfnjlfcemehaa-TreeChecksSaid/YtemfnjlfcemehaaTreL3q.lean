/- The law TreeChecks (printed by gen_treL3.py). -/
import Derived.Test.YtemfnjlfcemehaaTreOsq
import Derived.Test.YtemfnjlfcemehaaTreSnq
import Derived.Test.YtemfnjlfcemehaaTreSzq
import Derived.Test.YtemfnjlfcemehaaM12
import Derived.Test.YtemfnjlfcemehaaM9
import Derived.Test.YtemfnjlfcemehaaTreCrq
import Derived.Test.YtemfnjlfcemehaaM8
import Derived.Deep.RegionHeld3
import Derived.Deep.DeepCutAuto
import Derived.Deep.CutBlock
import Derived.Deep.QuietTactic
import Derived.BigQuiet
namespace Go.Proofs.Ytemfnjlfcemehaa
open Go.RowKit

set_option maxRecDepth 100000 in
set_option maxHeartbeats 4000000 in
theorem lChecks {w : World} {a : Option Addr} {n c : Nat} {l : List Pt} (h : Pts w a n c l) {wa : Option Addr} {wn wk : Nat} {s : Spo} (hs : SpoIn w wa wn wk s) :
    Calls Try.prog 9 #[.slice a n c, .agg #[.slice wa wn wk, .int .i64 s.kind, .int .u8 (s.at_ : Int), .string (strOf s.key)]] w fun e w' => e = .returned (.bool true) ∧ Below w.heap.size w w' := by
  obtain ⟨e1, e2, e3⟩ := TabR.lens h
  obtain ⟨way, kind, a_, sk⟩ := s
  obtain ⟨hbs, ha⟩ := hs
  dsimp only at ha hbs ⊢
  have HBS := Lib.hid hbs
  clear hbs
  have HP := Lib.hid h
  have HL := Lib.hid e1
  have HA8 := Lib.hid ha
  have hks := strOf_size sk
  obtain ⟨kz, hkz⟩ : ∃ z, sk.length = z := ⟨_, rfl⟩
  rw [hkz] at hks
  have HKZ := Lib.hid hkz
  obtain ⟨W0, hW0⟩ : ∃ x, w.alloc (.cells #[.slice wa wn wk, .int .i64 kind, .int .u8 (a_ : Int), .string (strOf sk)] 74) = x := ⟨_, rfl⟩
  have hb0 : Below w.heap.size w W0 := by rw [← hW0]; exact Below.al (Below.refl _ _)
  have hx0 : Boxes W0 [(w.heap.size, [.slice wa wn wk, .int .i64 kind, .int .u8 (a_ : Int), .string (strOf sk)])] := by
    rw [← hW0]
    exact (Boxes.nil w).alloc #[.slice wa wn wk, .int .i64 kind, .int .u8 (a_ : Int), .string (strOf sk)] 74 (b := w.heap.size) rfl
  have A := awake15_any W0
  have HB0 := Lib.hid hb0
  have HX0 := Lib.hid hx0
  have h0lt : w.heap.size < W0.heap.size := hx0.lt 0 rfl
  clear h e1 hkz ha hb0 hx0
  go_enter Try.func9, Try.ntmps9
  go_wp2_with fail
  refine A.mono ?_
  rintro e w1 ⟨rfl, hb1⟩
  have HB1 := Lib.hid (below_via HB0.out hb1)
  have HX1 := Lib.hid (HX0.out.step hb1)
  have hp1 : Pts w1 a n c l := TabR.below (Nat.le_refl _) HB1.out HP.out
  have h1lt : W0.heap.size ≤ w1.heap.size := hb1.size
  clear A hb1
  go_wp2_with fail
  refine (small15_any hp1).mono ?_
  rintro e w2 ⟨rfl, rfl⟩
  obtain ⟨S, hS⟩ : ∃ S, smallP l = S := ⟨_, rfl⟩
  rw [hS]
  cases S with
  | false =>
    clear hp1 hS
    go_wp2_with fail
    go_ret
    exact ⟨rfl, HB1.out⟩
  | true =>
  have s3 := HX1.out.cell 0 3 rfl rfl
  by_cases hk9 : 100 < kz
  · have hk9' : (100 : Int) < (kz : Int) := by omega
    clear hp1 hS
    go_wp2_with fail
    go_ret
    exact ⟨rfl, HB1.out⟩
  have hk9' : ¬ ((100 : Int) < (kz : Int)) := by omega
  obtain ⟨hl80, hall⟩ := okP_facts hS
  have hn80 : n ≤ 80 := by rw [← HL.out]; exact hl80
  have HALL := Lib.hid hall
  have HP2 := Lib.hid hp1
  clear hp1 hS hall hl80 HP
  go_wp2_with fail
  refine (tempty_any w2 (fun _ => False)).mono ?_
  rintro e w3 ⟨cs, rfl, hn0, hb3⟩
  obtain ⟨x1, k1, x2, k2, x3, k3, ecs, hn0⟩ := empty_on (F := fun _ => False) hn0
  subst ecs
  have hbox := TrBox.new (B := w3.heap.size + 1) hn0 (fun b h => h.elim) whole_empty 33
  have hbel : Below w2.heap.size w2 (w3.alloc (.cells #[.int .i64 0, .bool true, .slice x1 0 k1, .slice x2 0 k2, .slice x3 0 k3] 33)) := Below.al hb3
  have HBOX := Lib.hid hbox
  have HBEL := Lib.hid hbel
  have hle : w2.heap.size ≤ w3.heap.size := hb3.size
  clear hn0 hb3 hbox hbel hks hk9' s3
  go_upto_block 0 with (fail)
  go_cut [] (fun wq => ∃ N t, TrBox (w3.heap.size + 1) w3.heap.size wq N t ∧ N ≤ 81 ∧ Below w2.heap.size w2 wq)
  case first =>
    go_wp2_with fail
    go_loopw [8] (fun s wx => ∃ (k N : Nat) (t : Tr), k ≤ n ∧ s = .int .i64 k ∧ TrBox (w3.heap.size + 1) w3.heap.size wx N t ∧ N ≤ k + 1 ∧ Below w2.heap.size w2 wx) (fun s _ => n - (intOf s).toNat)
    case atStart => exact ⟨0, 1, _, Nat.zero_le _, rfl, HBOX.out, Nat.le_refl _, HBEL.out⟩
    case round =>
      clear HBOX HBEL
      obtain ⟨k, N, t, hk, rfl, hbox, hN, hb⟩ := hrel
      by_cases hlk : k < n
      rotate_left
      · obtain rfl : k = n := by omega
        have hEX : Hid (∃ N t, TrBox (w3.heap.size + 1) w3.heap.size wr N t ∧ N ≤ 81 ∧ Below w2.heap.size w2 wr) := Lib.hid ⟨N, t, hbox, by omega, hb⟩
        clear hbox hb
        go_wp2_with fail
        go_meet
        exact hEX.out
      obtain ⟨bl, ol, y, rfl, hbl, hy, c0, c1, c2⟩ := HP2.out.at hlk
      obtain ⟨hyk, sz, hsz, hsz4⟩ := HALL.out y (List.mem_of_getElem? hy)
      rw [hsz] at c2
      obtain ⟨p, lf, a1, n1, c1', a2, n2, c2', a3, n3, c3, hx, hn, hw⟩ := hbox
      have hxl := hx.lt 0 rfl
      have hnl := hn.lt
      have hne : bl ≠ w3.heap.size := by omega
      have hbl2 := Nat.lt_of_lt_of_le hbl hb.size
      have l0 : ∀ W, AgreeF (fun x => x ≠ w3.heap.size) wr W → W.cell? ⟨bl, ol + k * 3, none⟩ = some (.string (strOf y.key)) := fun W hW => (hW.cell hne hbl2).trans ((hb.cell (p := ⟨bl, ol + k * 3, none⟩) hbl).trans c0)
      have l1 : ∀ W, AgreeF (fun x => x ≠ w3.heap.size) wr W → W.cell? ⟨bl, ol + k * 3 + 1, none⟩ = some (.int .u8 (y.fill.toNat : Int)) := fun W hW => (hW.cell hne hbl2).trans ((hb.cell (p := ⟨bl, ol + k * 3 + 1, none⟩) hbl).trans c1)
      have l2 : ∀ W, AgreeF (fun x => x ≠ w3.heap.size) wr W → W.cell? ⟨bl, ol + k * 3 + 2, none⟩ = some (.int .i64 (sz : Int)) := fun W hW => (hW.cell hne hbl2).trans ((hb.cell (p := ⟨bl, ol + k * 3 + 2, none⟩) hbl).trans c2)
      obtain ⟨T, hT⟩ : ∃ T, putW N t y.key ⟨fillT y.fill sz, []⟩ = T := ⟨_, rfl⟩
      obtain ⟨E, hE⟩ : ∃ E, entsT N t = E := ⟨_, rfl⟩
      have CP : ∀ W, Below wr.heap.size wr W → Calls Try.prog 33 #[.agg #[.int .i64 p, .bool lf, .slice a1 n1 c1', .slice a2 n2 c2', .slice a3 n3 c3], .string (strOf y.key), .string (strOf (fillT y.fill sz))] W (fun e w' => ∃ M cs, M ≤ N + 1 ∧ e = .returned (.agg cs.toArray) ∧ NodeOn (Fr (fun x => w3.heap.size + 1 ≤ x ∧ x < wr.heap.size) W) M w' cs T ∧ Whole M T ∧ entsT M T = putL y.key ⟨fillT y.fill sz, []⟩ E ∧ Below W.heap.size W w') := fun W hW => (tPut_whole (hnl.below hW) hw y.key (fillT y.fill sz) hyk (by rw [fillT_len]; exact hsz4)).mono fun e w' h => by
        unfold PutTo at h
        rw [hT, hE] at h
        exact h
      have CV : ∀ W, Calls Try.prog 34 #[.agg #[.string (strOf y.key), .int .u8 (y.fill.toNat : Int), .int .i64 (sz : Int)]] W (fun e w' => e = .returned (.string (strOf (fillT y.fill sz))) ∧ Below W.heap.size W w') := fun W => by
        have := value15_any y sz hsz hsz4 W
        unfold ptC at this
        rwa [hsz] at this
      have hGB : ∀ W, Below wr.heap.size wr W → ∀ x, Fr (fun x => w3.heap.size + 1 ≤ x ∧ x < wr.heap.size) W x → w3.heap.size + 1 ≤ x := fun W hW x h => fr_le (fun b h => h.1) (by omega) hW.size h
      have hBB : w3.heap.size < w3.heap.size + 1 := Nat.lt_succ_self _
      have f0 := hx.cell 0 0 rfl rfl
      have f1 := hx.cell 0 1 rfl rfl
      have f2 := hx.cell 0 2 rfl rfl
      have f3 := hx.cell 0 3 rfl rfl
      have f4 := hx.cell 0 4 rfl rfl
      have HXB := Lib.hid hx
      have HBW := Lib.hid hb
      have HEE := Lib.hid hE
      have hA0 : AgreeF (fun x => x ≠ w3.heap.size) wr wr.drew := AgreeF.refl _
      clear hx hn hnl hw hb hE hT hyk hy c0 c1 c2
      go_upto_region 11 with (fail)
      refine wp_region_noPanic ?_
      refine wp_region_held_drew (S := (fun W => AgreeF (fun x => x ≠ w3.heap.size) wr W)) (by kernel_rfl) (by (repeat (with_reducible first | assumption | exact AgreeF.refl _ | apply AgreeF.al | apply AgreeF.dr | apply AgreeF.st))) (fun hHeld => ?_)
      refine wpAnyH_take (i := 1) (oi := { dst := some 30, op := Op.move (Operand.tmp 0), type := 58, pos := "law.go:135", after := #[], guard := none }) (v := ?_) rfl (by kernel_rfl) (by kernel_rfl) (by kernel_rfl) (fun _ _ _ h => h) (Or.inl ⟨by rfl, ?_⟩) (by assumption) ?_
      rotate_left
      · (intro W hW; (try dsimp only at hW); go_simp <;> (with_reducible rfl))
      try simp only [Act.put, List.setIfInBounds_toArray, List.set_cons_zero, List.set_cons_succ]
      refine wpAnyH_take (i := 2) (oi := { dst := some 31, op := Op.move (Operand.tmp 8), type := 3, pos := "law.go:135", after := #[], guard := none }) (v := ?_) rfl (by kernel_rfl) (by kernel_rfl) (by kernel_rfl) (fun _ _ _ h => h) (Or.inl ⟨by rfl, ?_⟩) (by assumption) ?_
      rotate_left
      · (intro W hW; (try dsimp only at hW); go_simp <;> (with_reducible rfl))
      try simp only [Act.put, List.setIfInBounds_toArray, List.set_cons_zero, List.set_cons_succ]
      refine wpAnyH_take (i := 3) (oi := { dst := some 32, op := Op.indexAddr 58 (Operand.tmp 30) (Operand.tmp 31), type := 0, pos := "law.go:135", after := #[{ on := 1, ground := Ground.data }, { on := 2, ground := Ground.data }], guard := none }) (v := ?_) rfl (by kernel_rfl) (by kernel_rfl) (by kernel_rfl) (fun _ _ _ h => h) (Or.inl ⟨by rfl, ?_⟩) (by assumption) ?_
      rotate_left
      · (intro W hW; (try dsimp only at hW); go_simp <;> (with_reducible rfl))
      try simp only [Act.put, List.setIfInBounds_toArray, List.set_cons_zero, List.set_cons_succ]
      refine wpAnyH_take (i := 4) (oi := { dst := some 33, op := Op.fieldAddr 64 (Operand.tmp 32) 0, type := 0, pos := "law.go:135", after := #[{ on := 3, ground := Ground.data }], guard := none }) (v := ?_) rfl (by kernel_rfl) (by kernel_rfl) (by kernel_rfl) (fun _ _ _ h => h) (Or.inl ⟨by rfl, ?_⟩) (by assumption) ?_
      rotate_left
      · (intro W hW; (try dsimp only at hW); go_simp <;> (with_reducible rfl))
      try simp only [Act.put, List.setIfInBounds_toArray, List.set_cons_zero, List.set_cons_succ]
      refine wpAnyH_take (i := 5) (oi := { dst := some 34, op := Op.load 9 (Operand.tmp 33), type := 9, pos := "law.go:135", after := #[{ on := 4, ground := Ground.data }], guard := none }) (v := ?_) rfl (by kernel_rfl) (by kernel_rfl) (by kernel_rfl) (fun _ _ _ h => h) (Or.inl ⟨by rfl, ?_⟩) (by assumption) ?_
      rotate_left
      · (intro W hW; (try dsimp only at hW); go_simp <;> (with_reducible rfl))
      try simp only [Act.put, List.setIfInBounds_toArray, List.set_cons_zero, List.set_cons_succ]
      refine wpAnyH_take (i := 6) (oi := { dst := some 35, op := Op.move (Operand.tmp 0), type := 58, pos := "law.go:135", after := #[], guard := none }) (v := ?_) rfl (by kernel_rfl) (by kernel_rfl) (by kernel_rfl) (fun _ _ _ h => h) (Or.inl ⟨by rfl, ?_⟩) (by assumption) ?_
      rotate_left
      · (intro W hW; (try dsimp only at hW); go_simp <;> (with_reducible rfl))
      try simp only [Act.put, List.setIfInBounds_toArray, List.set_cons_zero, List.set_cons_succ]
      refine wpAnyH_take (i := 7) (oi := { dst := some 36, op := Op.move (Operand.tmp 8), type := 3, pos := "law.go:135", after := #[], guard := none }) (v := ?_) rfl (by kernel_rfl) (by kernel_rfl) (by kernel_rfl) (fun _ _ _ h => h) (Or.inl ⟨by rfl, ?_⟩) (by assumption) ?_
      rotate_left
      · (intro W hW; (try dsimp only at hW); go_simp <;> (with_reducible rfl))
      try simp only [Act.put, List.setIfInBounds_toArray, List.set_cons_zero, List.set_cons_succ]
      refine wpAnyH_take (i := 8) (oi := { dst := some 37, op := Op.indexAddr 58 (Operand.tmp 35) (Operand.tmp 36), type := 0, pos := "law.go:135", after := #[{ on := 6, ground := Ground.data }, { on := 7, ground := Ground.data }], guard := none }) (v := ?_) rfl (by kernel_rfl) (by kernel_rfl) (by kernel_rfl) (fun _ _ _ h => h) (Or.inl ⟨by rfl, ?_⟩) (by assumption) ?_
      rotate_left
      · (intro W hW; (try dsimp only at hW); go_simp <;> (with_reducible rfl))
      try simp only [Act.put, List.setIfInBounds_toArray, List.set_cons_zero, List.set_cons_succ]
      refine wpAnyH_take (i := 9) (oi := { dst := some 38, op := Op.load 64 (Operand.tmp 37), type := 64, pos := "law.go:135", after := #[{ on := 8, ground := Ground.data }], guard := none }) (v := ?_) rfl (by kernel_rfl) (by kernel_rfl) (by kernel_rfl) (fun _ _ _ h => h) (Or.inl ⟨by rfl, ?_⟩) (by assumption) ?_
      rotate_left
      · (intro W hW; (try dsimp only at hW); go_simp <;> (with_reducible rfl))
      try simp only [Act.put, List.setIfInBounds_toArray, List.set_cons_zero, List.set_cons_succ]
      refine wpAnyH_ready (rs := [0, 10]) (by kernel_rfl) (by simp) (AllReadyH.cons (o := { dst := some 29, op := Op.load 33 (Operand.tmp 7), type := 33, pos := "law.go:135", after := #[], guard := none }) rfl (fun K hK => ?_) (AllReadyH.cons (o := { dst := some 39, op := Op.call { callee := Callee.value (Operand.func 34), args := #[Operand.tmp 38], argTypes := #[64] }, type := 9, pos := "law.go:135", after := #[{ on := 9, ground := Ground.data }], guard := none }) rfl (fun K hK => ?_) AllReadyH.nil))
      · (rw [if_pos (by rfl)]; go_wp2_with (fail))
        refine hK.out _ _ (by (repeat (with_reducible first | assumption | exact AgreeF.refl _ | apply AgreeF.al | apply AgreeF.dr | apply AgreeF.st))) (fun hHeld => ?_)
        clear hK K
        try simp only [Act.put, List.setIfInBounds_toArray, List.set_cons_zero, List.set_cons_succ]
        refine wpAnyH_ready (rs := [10]) (by kernel_rfl) (by simp) (AllReadyH.cons (o := { dst := some 39, op := Op.call { callee := Callee.value (Operand.func 34), args := #[Operand.tmp 38], argTypes := #[64] }, type := 9, pos := "law.go:135", after := #[{ on := 9, ground := Ground.data }], guard := none }) rfl (fun K hK => ?_) AllReadyH.nil)
        (rw [if_pos (by rfl)]; go_wp2_with (go_at_call 34; (with_reducible refine (CV _).mono ?_); rintro e w6 ⟨rfl, hb6⟩; have hB6 : Below wr.heap.size wr w6 := below_via (by (repeat (with_reducible first | assumption | exact Below.refl _ _ | apply Below.al | apply Below.dr))) hb6; have hA6 : AgreeF (fun x => x ≠ w3.heap.size) wr w6 := AgreeF.of_below hB6; have hx6 := HXB.out.step hB6; have m0 := hx6.cell 0 0 rfl rfl; have m1 := hx6.cell 0 1 rfl rfl; have m2 := hx6.cell 0 2 rfl rfl; have m3 := hx6.cell 0 3 rfl rfl; have m4 := hx6.cell 0 4 rfl rfl))
        refine hK.out _ _ (by (repeat (with_reducible first | assumption | exact AgreeF.refl _ | apply AgreeF.al | apply AgreeF.dr | apply AgreeF.st))) (fun hHeld => ?_)
        clear hK K
        try simp only [Act.put, List.setIfInBounds_toArray, List.set_cons_zero, List.set_cons_succ]
        refine wpAnyH_ready (rs := [11]) (by kernel_rfl) (by simp) (AllReadyH.cons (o := { dst := some 40, op := Op.call { callee := Callee.value (Operand.func 33), args := #[Operand.tmp 29, Operand.tmp 34, Operand.tmp 39], argTypes := #[33, 9, 9] }, type := 33, pos := "law.go:135", after := #[{ on := 0, ground := Ground.data }, { on := 5, ground := Ground.data }, { on := 10, ground := Ground.data }, { on := 10, ground := Ground.chain }], guard := none }) rfl (fun K hK => ?_) AllReadyH.nil)
        (rw [if_pos (by rfl)]; go_wp2_with (go_at_call 33; (with_reducible refine (CP _ ?_).mono ?_); (focus (repeat (with_reducible first | assumption | exact Below.refl _ _ | apply Below.al | apply Below.dr))); rintro e w9 hq9; obtain ⟨M, cs9, hM9, rfl, hn9, hw9, hE9, hb9⟩ := hq9; obtain ⟨j1, j2, j3, j4, j5, j6, j7, j8, ecs9, _, _⟩ := hn9.words; subst ecs9; have HE9 := Lib.hid hE9; clear hE9; have hB9 : Below wr.heap.size wr w9 := below_via (by (repeat (with_reducible first | assumption | exact Below.refl _ _ | apply Below.al | apply Below.dr))) hb9; have hA9 : AgreeF (fun x => x ≠ w3.heap.size) wr w9 := AgreeF.of_below hB9; have hx9 := HXB.out.step hB9; have z0 := hx9.cell 0 0 rfl rfl; have u0 := hx9.frozen 0 0 rfl; have z1 := hx9.cell 0 1 rfl rfl; have u1 := hx9.frozen 0 1 rfl; have z2 := hx9.cell 0 2 rfl rfl; have u2 := hx9.frozen 0 2 rfl; have z3 := hx9.cell 0 3 rfl rfl; have u3 := hx9.frozen 0 3 rfl; have z4 := hx9.cell 0 4 rfl rfl; have u4 := hx9.frozen 0 4 rfl))
        refine hK.out _ _ (by (repeat (with_reducible first | assumption | exact AgreeF.refl _ | apply AgreeF.al | apply AgreeF.dr | apply AgreeF.st))) (fun hHeld => ?_)
        clear hK K
        try simp only [Act.put, List.setIfInBounds_toArray, List.set_cons_zero, List.set_cons_succ]
        refine wpAnyH_ready (rs := [12]) (by kernel_rfl) (by simp) (AllReadyH.cons (o := { dst := none, op := Op.store 33 (Operand.tmp 7) (Operand.tmp 40), type := 0, pos := "law.go:135", after := #[{ on := 11, ground := Ground.data }, { on := 11, ground := Ground.chain }, { on := 0, ground := Ground.phase }, { on := 1, ground := Ground.phase }, { on := 2, ground := Ground.phase }, { on := 3, ground := Ground.phase }, { on := 4, ground := Ground.phase }, { on := 5, ground := Ground.phase }, { on := 6, ground := Ground.phase }, { on := 7, ground := Ground.phase }, { on := 8, ground := Ground.phase }, { on := 9, ground := Ground.phase }, { on := 10, ground := Ground.phase }, { on := 11, ground := Ground.phase }], guard := none }) rfl (fun K hK => ?_) AllReadyH.nil)
        (rw [if_pos (by rfl)]; go_wp2_with (fail))
        refine hK.out _ _ (by (repeat (with_reducible first | assumption | exact AgreeF.refl _ | apply AgreeF.al | apply AgreeF.dr | apply AgreeF.st))) (fun hHeld => ?_)
        clear hK K
        try simp only [Act.put, List.setIfInBounds_toArray, List.set_cons_zero, List.set_cons_succ]
        refine wpAnyH_done (by kernel_rfl) ?_ _
        refine NoPanic.normal ?_
        have hA := PutStay.mk (B := w3.heap.size + 1) (w := w2) (wr := wr) hx9 hn9 (hGB _ (by (repeat (with_reducible first | assumption | exact Below.refl _ _ | apply Below.al | apply Below.dr)))) hBB hw9 hM9 HE9.out hA9 (HBW.out.trans (hB9.mono HBW.out.size)) hle
        unfold set5 at hA
        have HA := Lib.hid hA
        clear hA hx9 hn9 hA9 hB9 hb9
        go_wp2_with fail
        go_roundw
        case rel => obtain ⟨M9, h1, h2, h3, h4, h5⟩ := HA.out; exact ⟨k + 1, M9, T, hlk, by go_num, h1, by omega, h5⟩
        case measure => simp [intOf]; omega
      · (rw [if_pos (by rfl)]; go_wp2_with (go_at_call 34; (with_reducible refine (CV _).mono ?_); rintro e w6 ⟨rfl, hb6⟩; have hB6 : Below wr.heap.size wr w6 := below_via (by (repeat (with_reducible first | assumption | exact Below.refl _ _ | apply Below.al | apply Below.dr))) hb6; have hA6 : AgreeF (fun x => x ≠ w3.heap.size) wr w6 := AgreeF.of_below hB6; have hx6 := HXB.out.step hB6; have m0 := hx6.cell 0 0 rfl rfl; have m1 := hx6.cell 0 1 rfl rfl; have m2 := hx6.cell 0 2 rfl rfl; have m3 := hx6.cell 0 3 rfl rfl; have m4 := hx6.cell 0 4 rfl rfl))
        refine hK.out _ _ (by (repeat (with_reducible first | assumption | exact AgreeF.refl _ | apply AgreeF.al | apply AgreeF.dr | apply AgreeF.st))) (fun hHeld => ?_)
        clear hK K
        try simp only [Act.put, List.setIfInBounds_toArray, List.set_cons_zero, List.set_cons_succ]
        refine wpAnyH_ready (rs := [0]) (by kernel_rfl) (by simp) (AllReadyH.cons (o := { dst := some 29, op := Op.load 33 (Operand.tmp 7), type := 33, pos := "law.go:135", after := #[], guard := none }) rfl (fun K hK => ?_) AllReadyH.nil)
        (rw [if_pos (by rfl)]; go_wp2_with (fail))
        refine hK.out _ _ (by (repeat (with_reducible first | assumption | exact AgreeF.refl _ | apply AgreeF.al | apply AgreeF.dr | apply AgreeF.st))) (fun hHeld => ?_)
        clear hK K
        try simp only [Act.put, List.setIfInBounds_toArray, List.set_cons_zero, List.set_cons_succ]
        refine wpAnyH_ready (rs := [11]) (by kernel_rfl) (by simp) (AllReadyH.cons (o := { dst := some 40, op := Op.call { callee := Callee.value (Operand.func 33), args := #[Operand.tmp 29, Operand.tmp 34, Operand.tmp 39], argTypes := #[33, 9, 9] }, type := 33, pos := "law.go:135", after := #[{ on := 0, ground := Ground.data }, { on := 5, ground := Ground.data }, { on := 10, ground := Ground.data }, { on := 10, ground := Ground.chain }], guard := none }) rfl (fun K hK => ?_) AllReadyH.nil)
        (rw [if_pos (by rfl)]; go_wp2_with (go_at_call 33; (with_reducible refine (CP _ ?_).mono ?_); (focus (repeat (with_reducible first | assumption | exact Below.refl _ _ | apply Below.al | apply Below.dr))); rintro e w9 hq9; obtain ⟨M, cs9, hM9, rfl, hn9, hw9, hE9, hb9⟩ := hq9; obtain ⟨j1, j2, j3, j4, j5, j6, j7, j8, ecs9, _, _⟩ := hn9.words; subst ecs9; have HE9 := Lib.hid hE9; clear hE9; have hB9 : Below wr.heap.size wr w9 := below_via (by (repeat (with_reducible first | assumption | exact Below.refl _ _ | apply Below.al | apply Below.dr))) hb9; have hA9 : AgreeF (fun x => x ≠ w3.heap.size) wr w9 := AgreeF.of_below hB9; have hx9 := HXB.out.step hB9; have z0 := hx9.cell 0 0 rfl rfl; have u0 := hx9.frozen 0 0 rfl; have z1 := hx9.cell 0 1 rfl rfl; have u1 := hx9.frozen 0 1 rfl; have z2 := hx9.cell 0 2 rfl rfl; have u2 := hx9.frozen 0 2 rfl; have z3 := hx9.cell 0 3 rfl rfl; have u3 := hx9.frozen 0 3 rfl; have z4 := hx9.cell 0 4 rfl rfl; have u4 := hx9.frozen 0 4 rfl))
        refine hK.out _ _ (by (repeat (with_reducible first | assumption | exact AgreeF.refl _ | apply AgreeF.al | apply AgreeF.dr | apply AgreeF.st))) (fun hHeld => ?_)
        clear hK K
        try simp only [Act.put, List.setIfInBounds_toArray, List.set_cons_zero, List.set_cons_succ]
        refine wpAnyH_ready (rs := [12]) (by kernel_rfl) (by simp) (AllReadyH.cons (o := { dst := none, op := Op.store 33 (Operand.tmp 7) (Operand.tmp 40), type := 0, pos := "law.go:135", after := #[{ on := 11, ground := Ground.data }, { on := 11, ground := Ground.chain }, { on := 0, ground := Ground.phase }, { on := 1, ground := Ground.phase }, { on := 2, ground := Ground.phase }, { on := 3, ground := Ground.phase }, { on := 4, ground := Ground.phase }, { on := 5, ground := Ground.phase }, { on := 6, ground := Ground.phase }, { on := 7, ground := Ground.phase }, { on := 8, ground := Ground.phase }, { on := 9, ground := Ground.phase }, { on := 10, ground := Ground.phase }, { on := 11, ground := Ground.phase }], guard := none }) rfl (fun K hK => ?_) AllReadyH.nil)
        (rw [if_pos (by rfl)]; go_wp2_with (fail))
        refine hK.out _ _ (by (repeat (with_reducible first | assumption | exact AgreeF.refl _ | apply AgreeF.al | apply AgreeF.dr | apply AgreeF.st))) (fun hHeld => ?_)
        clear hK K
        try simp only [Act.put, List.setIfInBounds_toArray, List.set_cons_zero, List.set_cons_succ]
        refine wpAnyH_done (by kernel_rfl) ?_ _
        refine NoPanic.normal ?_
        have hA := PutStay.mk (B := w3.heap.size + 1) (w := w2) (wr := wr) hx9 hn9 (hGB _ (by (repeat (with_reducible first | assumption | exact Below.refl _ _ | apply Below.al | apply Below.dr)))) hBB hw9 hM9 HE9.out hA9 (HBW.out.trans (hB9.mono HBW.out.size)) hle
        unfold set5 at hA
        have HA := Lib.hid hA
        clear hA hx9 hn9 hA9 hB9 hb9
        go_wp2_with fail
        go_roundw
        case rel => obtain ⟨M9, h1, h2, h3, h4, h5⟩ := HA.out; exact ⟨k + 1, M9, T, hlk, by go_num, h1, by omega, h5⟩
        case measure => simp [intOf]; omega
  case rest =>
  obtain ⟨N, t, hbox, hN, hb⟩ := hcut
  obtain ⟨p, lf, a1, n1, c1, a2, n2, c2, a3, n3, c3, hx, hn, hw⟩ := hbox
  have hxl := hx.lt 0 rfl
  have hsh := hw.1.1
  have hsum := hw.1.2.1
  have hk100 : sk.length ≤ 100 := by have := HKZ.out; omega
  have hsml := shape_sml hsh (by omega)
  have f0 := hx.cell 0 0 rfl rfl
  have f1 := hx.cell 0 1 rfl rfl
  have f2 := hx.cell 0 2 rfl rfl
  have f3 := hx.cell 0 3 rfl rfl
  have f4 := hx.cell 0 4 rfl rfl
  have hxs := HX1.out.step hb
  have k0 := hxs.cell 0 0 rfl rfl
  have k1 := hxs.cell 0 1 rfl rfl
  have k2 := hxs.cell 0 2 rfl rfl
  have k3 := hxs.cell 0 3 rfl rfl
  have CS := spoil_any (kind := kind) HA8.out hk100 (F := (fun x => w3.heap.size + 1 ≤ x ∧ x < wc.heap.size)) (fun b h => h.2) hn.lt hsml (shape_pos hsh) (Bs.below (Nat.le_refl _) (below_via HB1.out hb) HBS.out)
  have hbn := Fit.bnd (by omega) (spoil_fit way kind a_ hsml hk100)
  obtain ⟨SP, hSP⟩ : ∃ z, spoilT N way kind a_ sk t = z := ⟨_, rfl⟩
  rw [hSP] at CS hbn
  have HBN := Lib.hid hbn
  have HX := Lib.hid hx
  have HB := Lib.hid hb
  clear hx hb hn hw hsh hsum hsml hSP hbn hxs
  go_wp2_with fail
  refine CS.mono ?_
  rintro e w6 ⟨cs6, rfl, hn6, hb6⟩
  obtain ⟨m1, m2, m3, m4, m5, m6, m7, m8, ecs6, _, _⟩ := hn6.words
  subst ecs6
  obtain ⟨mp, hmp⟩ : ∃ z, SP.page = z := ⟨_, rfl⟩
  obtain ⟨ml, hml⟩ : ∃ z, SP.isLeaf = z := ⟨_, rfl⟩
  obtain ⟨mc, hmc⟩ : ∃ z, cntT SP = z := ⟨_, rfl⟩
  rw [hmp, hml, hmc] at hn6 ⊢
  have hx6 := HX.out.step hb6
  have z0 := hx6.cell 0 0 rfl rfl
  have u0 := hx6.frozen 0 0 rfl
  have z1 := hx6.cell 0 1 rfl rfl
  have u1 := hx6.frozen 0 1 rfl
  have z2 := hx6.cell 0 2 rfl rfl
  have u2 := hx6.frozen 0 2 rfl
  have z3 := hx6.cell 0 3 rfl rfl
  have u3 := hx6.frozen 0 3 rfl
  have z4 := hx6.cell 0 4 rfl rfl
  have u4 := hx6.frozen 0 4 rfl
  clear f0 f1 f2 f3 f4 k0 k1 k2 k3 CS hmp hml hmc
  go_upto_region 13 with (fail)
  obtain ⟨wd, hwd⟩ : ∃ x, x = set5 w6 w3.heap.size (.int .i64 mp) (.bool ml) (.slice m1 mc m2) (.slice m3 m4 m5) (.slice m6 m7 m8) := ⟨_, rfl⟩
  have hxd : Boxes wd [(w3.heap.size, [.int .i64 mp, .bool ml, .slice m1 mc m2, .slice m3 m4 m5, .slice m6 m7 m8])] := by rw [hwd]; exact set5_box hx6 (by simp) _ _ _ _ _
  have hbd : Below w2.heap.size w2 wd := by rw [hwd]; exact set5_below (below_via HB.out hb6) hle _ _ _ _ _
  have hnd := hn6.agree (agree_set5 (w := w6) (b := w3.heap.size) (by intro h; rcases h with h | h <;> omega) (.int .i64 mp) (.bool ml) (.slice m1 mc m2) (.slice m3 m4 m5) (.slice m6 m7 m8))
  rw [← hwd] at hnd
  have HWD := Lib.hid hwd
  unfold set5 at hwd
  rw [← hwd]
  obtain ⟨ck, hck⟩ : ∃ z, checkT N SP = z := ⟨_, rfl⟩
  have CT : ∀ W, Below wd.heap.size wd W → Calls Try.prog 39 #[.agg #[.int .i64 mp, .bool ml, .slice m1 mc m2, .slice m3 m4 m5, .slice m6 m7 m8]] W (fun e w' => e = .returned (.bool ck) ∧ Below W.heap.size W w') := fun W hW => by
    have := tcheck_any (hnd.lt.below hW).toIn HBN.out (by omega)
    rwa [hck] at this
  have CP : ∀ W, Below wd.heap.size wd W → Calls Try.prog 37 #[.agg #[.int .i64 mp, .bool ml, .slice m1 mc m2, .slice m3 m4 m5, .slice m6 m7 m8]] W (RNodeTo _ N W SP) := fun W hW => plain15_any (fun b h => Nat.lt_of_lt_of_le h.2 hW.size) (hnd.lt.below hW) HBN.out
  have CR : ∀ (F : Nat → Prop) (w7 W : World) (cs : List Value), RNodeOn F N w7 cs SP → Below w7.heap.size w7 W → Calls Try.prog 41 #[.agg cs.toArray] W (fun e w' => e = .returned (.bool ck) ∧ Below W.heap.size W w') := fun F w7 W cs h hW => by
    have := rcheck_any (h.below hW) HBN.out (by omega)
    rwa [hck] at this
  have hcc : (ck == ck) = true := by simp
  have t0 : ∀ W, Below wd.heap.size wd W → W.cell? ⟨w3.heap.size, 0, none⟩ = some (.int .i64 mp) := fun W hW => (hxd.step hW).cell 0 0 rfl rfl
  have t1 : ∀ W, Below wd.heap.size wd W → W.cell? ⟨w3.heap.size, 1, none⟩ = some (.bool ml) := fun W hW => (hxd.step hW).cell 0 1 rfl rfl
  have t2 : ∀ W, Below wd.heap.size wd W → W.cell? ⟨w3.heap.size, 2, none⟩ = some (.slice m1 mc m2) := fun W hW => (hxd.step hW).cell 0 2 rfl rfl
  have t3 : ∀ W, Below wd.heap.size wd W → W.cell? ⟨w3.heap.size, 3, none⟩ = some (.slice m3 m4 m5) := fun W hW => (hxd.step hW).cell 0 3 rfl rfl
  have t4 : ∀ W, Below wd.heap.size wd W → W.cell? ⟨w3.heap.size, 4, none⟩ = some (.slice m6 m7 m8) := fun W hW => (hxd.step hW).cell 0 4 rfl rfl
  have hA00 : Below wd.heap.size wd wd.drew := Below.dr (Below.refl _ _)
  clear z0 z1 z2 z3 z4 u0 u1 u2 u3 u4 hwd hx6 hn6 hb6 hnd hck hxd
  go_region_held3 (fun W => Below wd.heap.size wd W) (first | with_reducible assumption | (repeat (with_reducible first | assumption | exact Below.refl _ _ | apply Below.al | apply Below.dr))) (first | (go_at_call 39; (with_reducible refine (CT _ ?_).mono ?_); (focus (repeat (with_reducible first | assumption | exact Below.refl _ _ | apply Below.al | apply Below.dr))); rintro e w5 ⟨rfl, hb5⟩; have hB5 : Below wd.heap.size wd w5 := below_via (by (repeat (with_reducible first | assumption | exact Below.refl _ _ | apply Below.al | apply Below.dr))) hb5; (try have q7 := below_via (a := w7) (by (repeat (with_reducible first | assumption | exact Below.refl _ _ | apply Below.al | apply Below.dr))) hb5)) | (go_at_call 37; (with_reducible refine (CP _ ?_).mono ?_); (focus (repeat (with_reducible first | assumption | exact Below.refl _ _ | apply Below.al | apply Below.dr))); rintro e w7 ⟨cs7, rfl, hn7, hb7⟩; have hB7 : Below wd.heap.size wd w7 := below_via (by (repeat (with_reducible first | assumption | exact Below.refl _ _ | apply Below.al | apply Below.dr))) hb7; have q7 := Below.refl w7.heap.size w7) | (go_at_call 41; (with_reducible refine (CR _ w7 _ _ hn7 ?_).mono ?_); (focus (repeat (with_reducible first | assumption | exact Below.refl _ _ | apply Below.al | apply Below.dr))); rintro e w8 ⟨rfl, hb8⟩; have hB8 : Below wd.heap.size wd w8 := below_via (by (repeat (with_reducible first | assumption | exact Below.refl _ _ | apply Below.al | apply Below.dr))) hb8))
  all_goals (go_wp2_with fail)
  all_goals go_ret
  all_goals exact ⟨rfl, below_via HB1.out (below_via hbd (by assumption))⟩
end Go.Proofs.Ytemfnjlfcemehaa
