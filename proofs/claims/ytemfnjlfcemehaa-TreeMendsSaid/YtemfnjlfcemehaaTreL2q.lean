/- The law TreeMends (printed by gen_treL2.py). -/
import Derived.Test.YtemfnjlfcemehaaTreOsq
import Derived.Test.YtemfnjlfcemehaaTreSqq
import Derived.Test.YtemfnjlfcemehaaTreSzq
import Derived.Test.YtemfnjlfcemehaaM12
import Derived.Test.YtemfnjlfcemehaaM9
import Derived.Test.YtemfnjlfcemehaaM5
import Derived.Test.YtemfnjlfcemehaaM11
import Derived.Test.YtemfnjlfcemehaaM3
import Derived.Test.YtemfnjlfcemehaaM10
import Derived.Deep.RegionHeld3
import Derived.Deep.DeepCutAuto
import Derived.Deep.CutBlock
import Derived.Deep.QuietTactic
import Derived.BigQuiet
namespace Go.Proofs.Ytemfnjlfcemehaa
open Go.RowKit

set_option maxRecDepth 100000 in
set_option maxHeartbeats 4000000 in
theorem lMends {w : World} {a : Option Addr} {n c : Nat} {l : List Pt} (h : Pts w a n c l) {wa : Option Addr} {wn wk : Nat} {s : Spo} (hs : SpoIn w wa wn wk s) (key : List UInt8) :
    Calls Try.prog 10 #[.slice a n c, .agg #[.slice wa wn wk, .int .i64 s.kind, .int .u8 (s.at_ : Int), .string (strOf s.key)], .string (strOf key)] w fun e w' => e = .returned (.bool true) ∧ Below w.heap.size w w' := by
  obtain ⟨e1, e2, e3⟩ := TabR.lens h
  obtain ⟨way, kind, a_, sk⟩ := s
  obtain ⟨_, ha⟩ := hs
  dsimp only at ha ⊢
  have HP := Lib.hid h
  have HL := Lib.hid e1
  have HA8 := Lib.hid ha
  have hks := strOf_size key
  obtain ⟨kz, hkz⟩ : ∃ z, key.length = z := ⟨_, rfl⟩
  rw [hkz] at hks
  obtain ⟨W0, hW0⟩ : ∃ x, w.alloc (.cells #[.slice wa wn wk, .int .i64 kind, .int .u8 (a_ : Int), .string (strOf sk)] 74) = x := ⟨_, rfl⟩
  have hb0 : Below w.heap.size w W0 := by rw [← hW0]; exact Below.al (Below.refl _ _)
  have hx0 : Boxes W0 [(w.heap.size, [.slice wa wn wk, .int .i64 kind, .int .u8 (a_ : Int), .string (strOf sk)])] := by
    rw [← hW0]
    exact (Boxes.nil w).alloc #[.slice wa wn wk, .int .i64 kind, .int .u8 (a_ : Int), .string (strOf sk)] 74 (b := w.heap.size) rfl
  have A := awake15_any W0
  have HB0 := Lib.hid hb0
  have HX0 := Lib.hid hx0
  have h0lt : w.heap.size < W0.heap.size := hx0.lt 0 rfl
  clear h e1 hkz ha hb0 hx0
  go_enter Try.func10, Try.ntmps10
  go_wp2_with fail
  refine A.mono ?_
  rintro e w1 ⟨rfl, hb1⟩
  have HB1 := Lib.hid (below_via HB0.out hb1)
  have HX1 := Lib.hid (HX0.out.step hb1)
  have hp1 : Pts w1 a n c l := TabR.below (Nat.le_refl _) HB1.out HP.out
  have h1lt : W0.heap.size ≤ w1.heap.size := hb1.size
  clear A hb1
  go_wp2_with fail
  refine (small15_any hp1).mono ?_
  rintro e w2 ⟨rfl, rfl⟩
  obtain ⟨S, hS⟩ : ∃ S, smallP l = S := ⟨_, rfl⟩
  rw [hS]
  cases S with
  | false =>
    clear hp1 hS
    go_wp2_with fail
    go_ret
    exact ⟨rfl, HB1.out⟩
  | true =>
  by_cases hk9 : 100 < kz
  · have hk9' : (100 : Int) < (kz : Int) := by omega
    clear hp1 hS
    go_wp2_with fail
    go_ret
    exact ⟨rfl, HB1.out⟩
  have hk9' : ¬ ((100 : Int) < (kz : Int)) := by omega
  obtain ⟨hl80, hall⟩ := okP_facts hS
  have hn80 : n ≤ 80 := by rw [← HL.out]; exact hl80
  have HALL := Lib.hid hall
  have HP2 := Lib.hid hp1
  clear hp1 hS hall hl80 HP
  go_wp2_with fail
  refine (tempty_any w2 (fun _ => False)).mono ?_
  rintro e w3 ⟨cs, rfl, hn0, hb3⟩
  obtain ⟨x1, k1, x2, k2, x3, k3, ecs, hn0⟩ := empty_on (F := fun _ => False) hn0
  subst ecs
  have hbox := TrBox.new (B := w3.heap.size + 1) hn0 (fun b h => h.elim) whole_empty 33
  have hbel : Below w2.heap.size w2 (w3.alloc (.cells #[.int .i64 0, .bool true, .slice x1 0 k1, .slice x2 0 k2, .slice x3 0 k3] 33)) := Below.al hb3
  have HBOX := Lib.hid hbox
  have HBEL := Lib.hid hbel
  have hle : w2.heap.size ≤ w3.heap.size := hb3.size
  clear hn0 hb3 hbox hbel hks hk9'
  go_upto_block 0 with (fail)
  go_cut [] (fun wq => ∃ N t, TrBox (w3.heap.size + 1) w3.heap.size wq N t ∧ N ≤ 81 ∧ Below w2.heap.size w2 wq)
  case first =>
    go_wp2_with fail
    go_loopw [10] (fun s wx => ∃ (k N : Nat) (t : Tr), k ≤ n ∧ s = .int .i64 k ∧ TrBox (w3.heap.size + 1) w3.heap.size wx N t ∧ N ≤ k + 1 ∧ Below w2.heap.size w2 wx) (fun s _ => n - (intOf s).toNat)
    case atStart => exact ⟨0, 1, _, Nat.zero_le _, rfl, HBOX.out, Nat.le_refl _, HBEL.out⟩
    case round =>
      clear HBOX HBEL
      obtain ⟨k, N, t, hk, rfl, hbox, hN, hb⟩ := hrel
      by_cases hlk : k < n
      rotate_left
      · obtain rfl : k = n := by omega
        have hEX : Hid (∃ N t, TrBox (w3.heap.size + 1) w3.heap.size wr N t ∧ N ≤ 81 ∧ Below w2.heap.size w2 wr) := Lib.hid ⟨N, t, hbox, by omega, hb⟩
        clear hbox hb
        go_wp2_with fail
        go_meet
        exact hEX.out
      obtain ⟨bl, ol, y, rfl, hbl, hy, c0, c1, c2⟩ := HP2.out.at hlk
      obtain ⟨hyk, sz, hsz, hsz4⟩ := HALL.out y (List.mem_of_getElem? hy)
      rw [hsz] at c2
      obtain ⟨p, lf, a1, n1, c1', a2, n2, c2', a3, n3, c3, hx, hn, hw⟩ := hbox
      have hxl := hx.lt 0 rfl
      have hnl := hn.lt
      have hne : bl ≠ w3.heap.size := by omega
      have hbl2 := Nat.lt_of_lt_of_le hbl hb.size
      have l0 : ∀ W, AgreeF (fun x => x ≠ w3.heap.size) wr W → W.cell? ⟨bl, ol + k * 3, none⟩ = some (.string (strOf y.key)) := fun W hW => (hW.cell hne hbl2).trans ((hb.cell (p := ⟨bl, ol + k * 3, none⟩) hbl).trans c0)
      have l1 : ∀ W, AgreeF (fun x => x ≠ w3.heap.size) wr W → W.cell? ⟨bl, ol + k * 3 + 1, none⟩ = some (.int .u8 (y.fill.toNat : Int)) := fun W hW => (hW.cell hne hbl2).trans ((hb.cell (p := ⟨bl, ol + k * 3 + 1, none⟩) hbl).trans c1)
      have l2 : ∀ W, AgreeF (fun x => x ≠ w3.heap.size) wr W → W.cell? ⟨bl, ol + k * 3 + 2, none⟩ = some (.int .i64 (sz : Int)) := fun W hW => (hW.cell hne hbl2).trans ((hb.cell (p := ⟨bl, ol + k * 3 + 2, none⟩) hbl).trans c2)
      obtain ⟨T, hT⟩ : ∃ T, putW N t y.key ⟨fillT y.fill sz, []⟩ = T := ⟨_, rfl⟩
      obtain ⟨E, hE⟩ : ∃ E, entsT N t = E := ⟨_, rfl⟩
      have CP : ∀ W, Below wr.heap.size wr W → Calls Try.prog 33 #[.agg #[.int .i64 p, .bool lf, .slice a1 n1 c1', .slice a2 n2 c2', .slice a3 n3 c3], .string (strOf y.key), .string (strOf (fillT y.fill sz))] W (fun e w' => ∃ M cs, M ≤ N + 1 ∧ e = .returned (.agg cs.toArray) ∧ NodeOn (Fr (fun x => w3.heap.size + 1 ≤ x ∧ x < wr.heap.size) W) M w' cs T ∧ Whole M T ∧ entsT M T = putL y.key ⟨fillT y.fill sz, []⟩ E ∧ Below W.heap.size W w') := fun W hW => (tPut_whole (hnl.below hW) hw y.key (fillT y.fill sz) hyk (by rw [fillT_len]; exact hsz4)).mono fun e w' h => by
        unfold PutTo at h
        rw [hT, hE] at h
        exact h
      have CV : ∀ W, Calls Try.prog 34 #[.agg #[.string (strOf y.key), .int .u8 (y.fill.toNat : Int), .int .i64 (sz : Int)]] W (fun e w' => e = .returned (.string (strOf (fillT y.fill sz))) ∧ Below W.heap.size W w') := fun W => by
        have := value15_any y sz hsz hsz4 W
        unfold ptC at this
        rwa [hsz] at this
      have hGB : ∀ W, Below wr.heap.size wr W → ∀ x, Fr (fun x => w3.heap.size + 1 ≤ x ∧ x < wr.heap.size) W x → w3.heap.size + 1 ≤ x := fun W hW x h => fr_le (fun b h => h.1) (by omega) hW.size h
      have hBB : w3.heap.size < w3.heap.size + 1 := Nat.lt_succ_self _
      have f0 := hx.cell 0 0 rfl rfl
      have f1 := hx.cell 0 1 rfl rfl
      have f2 := hx.cell 0 2 rfl rfl
      have f3 := hx.cell 0 3 rfl rfl
      have f4 := hx.cell 0 4 rfl rfl
      have HXB := Lib.hid hx
      have HBW := Lib.hid hb
      have HEE := Lib.hid hE
      have hA0 : AgreeF (fun x => x ≠ w3.heap.size) wr wr.drew := AgreeF.refl _
      clear hx hn hnl hw hb hE hT hyk hy c0 c1 c2
      go_upto_region 11 with (fail)
      refine wp_region_noPanic ?_
      refine wp_region_held_drew (S := (fun W => AgreeF (fun x => x ≠ w3.heap.size) wr W)) (by kernel_rfl) (by (repeat (with_reducible first | assumption | exact AgreeF.refl _ | apply AgreeF.al | apply AgreeF.dr | apply AgreeF.st))) (fun hHeld => ?_)
      refine wpAnyH_take (i := 1) (oi := { dst := some 35, op := Op.move (Operand.tmp 0), type := 58, pos := "law.go:211", after := #[], guard := none }) (v := ?_) rfl (by kernel_rfl) (by kernel_rfl) (by kernel_rfl) (fun _ _ _ h => h) (Or.inl ⟨by rfl, ?_⟩) (by assumption) ?_
      rotate_left
      · (intro W hW; (try dsimp only at hW); go_simp <;> (with_reducible rfl))
      try simp only [Act.put, List.setIfInBounds_toArray, List.set_cons_zero, List.set_cons_succ]
      refine wpAnyH_take (i := 2) (oi := { dst := some 36, op := Op.move (Operand.tmp 10), type := 3, pos := "law.go:211", after := #[], guard := none }) (v := ?_) rfl (by kernel_rfl) (by kernel_rfl) (by kernel_rfl) (fun _ _ _ h => h) (Or.inl ⟨by rfl, ?_⟩) (by assumption) ?_
      rotate_left
      · (intro W hW; (try dsimp only at hW); go_simp <;> (with_reducible rfl))
      try simp only [Act.put, List.setIfInBounds_toArray, List.set_cons_zero, List.set_cons_succ]
      refine wpAnyH_take (i := 3) (oi := { dst := some 37, op := Op.indexAddr 58 (Operand.tmp 35) (Operand.tmp 36), type := 0, pos := "law.go:211", after := #[{ on := 1, ground := Ground.data }, { on := 2, ground := Ground.data }], guard := none }) (v := ?_) rfl (by kernel_rfl) (by kernel_rfl) (by kernel_rfl) (fun _ _ _ h => h) (Or.inl ⟨by rfl, ?_⟩) (by assumption) ?_
      rotate_left
      · (intro W hW; (try dsimp only at hW); go_simp <;> (with_reducible rfl))
      try simp only [Act.put, List.setIfInBounds_toArray, List.set_cons_zero, List.set_cons_succ]
      refine wpAnyH_take (i := 4) (oi := { dst := some 38, op := Op.fieldAddr 64 (Operand.tmp 37) 0, type := 0, pos := "law.go:211", after := #[{ on := 3, ground := Ground.data }], guard := none }) (v := ?_) rfl (by kernel_rfl) (by kernel_rfl) (by kernel_rfl) (fun _ _ _ h => h) (Or.inl ⟨by rfl, ?_⟩) (by assumption) ?_
      rotate_left
      · (intro W hW; (try dsimp only at hW); go_simp <;> (with_reducible rfl))
      try simp only [Act.put, List.setIfInBounds_toArray, List.set_cons_zero, List.set_cons_succ]
      refine wpAnyH_take (i := 5) (oi := { dst := some 39, op := Op.load 9 (Operand.tmp 38), type := 9, pos := "law.go:211", after := #[{ on := 4, ground := Ground.data }], guard := none }) (v := ?_) rfl (by kernel_rfl) (by kernel_rfl) (by kernel_rfl) (fun _ _ _ h => h) (Or.inl ⟨by rfl, ?_⟩) (by assumption) ?_
      rotate_left
      · (intro W hW; (try dsimp only at hW); go_simp <;> (with_reducible rfl))
      try simp only [Act.put, List.setIfInBounds_toArray, List.set_cons_zero, List.set_cons_succ]
      refine wpAnyH_take (i := 6) (oi := { dst := some 40, op := Op.move (Operand.tmp 0), type := 58, pos := "law.go:211", after := #[], guard := none }) (v := ?_) rfl (by kernel_rfl) (by kernel_rfl) (by kernel_rfl) (fun _ _ _ h => h) (Or.inl ⟨by rfl, ?_⟩) (by assumption) ?_
      rotate_left
      · (intro W hW; (try dsimp only at hW); go_simp <;> (with_reducible rfl))
      try simp only [Act.put, List.setIfInBounds_toArray, List.set_cons_zero, List.set_cons_succ]
      refine wpAnyH_take (i := 7) (oi := { dst := some 41, op := Op.move (Operand.tmp 10), type := 3, pos := "law.go:211", after := #[], guard := none }) (v := ?_) rfl (by kernel_rfl) (by kernel_rfl) (by kernel_rfl) (fun _ _ _ h => h) (Or.inl ⟨by rfl, ?_⟩) (by assumption) ?_
      rotate_left
      · (intro W hW; (try dsimp only at hW); go_simp <;> (with_reducible rfl))
      try simp only [Act.put, List.setIfInBounds_toArray, List.set_cons_zero, List.set_cons_succ]
      refine wpAnyH_take (i := 8) (oi := { dst := some 42, op := Op.indexAddr 58 (Operand.tmp 40) (Operand.tmp 41), type := 0, pos := "law.go:211", after := #[{ on := 6, ground := Ground.data }, { on := 7, ground := Ground.data }], guard := none }) (v := ?_) rfl (by kernel_rfl) (by kernel_rfl) (by kernel_rfl) (fun _ _ _ h => h) (Or.inl ⟨by rfl, ?_⟩) (by assumption) ?_
      rotate_left
      · (intro W hW; (try dsimp only at hW); go_simp <;> (with_reducible rfl))
      try simp only [Act.put, List.setIfInBounds_toArray, List.set_cons_zero, List.set_cons_succ]
      refine wpAnyH_take (i := 9) (oi := { dst := some 43, op := Op.load 64 (Operand.tmp 42), type := 64, pos := "law.go:211", after := #[{ on := 8, ground := Ground.data }], guard := none }) (v := ?_) rfl (by kernel_rfl) (by kernel_rfl) (by kernel_rfl) (fun _ _ _ h => h) (Or.inl ⟨by rfl, ?_⟩) (by assumption) ?_
      rotate_left
      · (intro W hW; (try dsimp only at hW); go_simp <;> (with_reducible rfl))
      try simp only [Act.put, List.setIfInBounds_toArray, List.set_cons_zero, List.set_cons_succ]
      refine wpAnyH_ready (rs := [0, 10]) (by kernel_rfl) (by simp) (AllReadyH.cons (o := { dst := some 34, op := Op.load 33 (Operand.tmp 9), type := 33, pos := "law.go:211", after := #[], guard := none }) rfl (fun K hK => ?_) (AllReadyH.cons (o := { dst := some 44, op := Op.call { callee := Callee.value (Operand.func 34), args := #[Operand.tmp 43], argTypes := #[64] }, type := 9, pos := "law.go:211", after := #[{ on := 9, ground := Ground.data }], guard := none }) rfl (fun K hK => ?_) AllReadyH.nil))
      · (rw [if_pos (by rfl)]; go_wp2_with (fail))
        refine hK.out _ _ (by (repeat (with_reducible first | assumption | exact AgreeF.refl _ | apply AgreeF.al | apply AgreeF.dr | apply AgreeF.st))) (fun hHeld => ?_)
        clear hK K
        try simp only [Act.put, List.setIfInBounds_toArray, List.set_cons_zero, List.set_cons_succ]
        refine wpAnyH_ready (rs := [10]) (by kernel_rfl) (by simp) (AllReadyH.cons (o := { dst := some 44, op := Op.call { callee := Callee.value (Operand.func 34), args := #[Operand.tmp 43], argTypes := #[64] }, type := 9, pos := "law.go:211", after := #[{ on := 9, ground := Ground.data }], guard := none }) rfl (fun K hK => ?_) AllReadyH.nil)
        (rw [if_pos (by rfl)]; go_wp2_with (go_at_call 34; (with_reducible refine (CV _).mono ?_); rintro e w6 ⟨rfl, hb6⟩; have hB6 : Below wr.heap.size wr w6 := below_via (by (repeat (with_reducible first | assumption | exact Below.refl _ _ | apply Below.al | apply Below.dr))) hb6; have hA6 : AgreeF (fun x => x ≠ w3.heap.size) wr w6 := AgreeF.of_below hB6; have hx6 := HXB.out.step hB6; have m0 := hx6.cell 0 0 rfl rfl; have m1 := hx6.cell 0 1 rfl rfl; have m2 := hx6.cell 0 2 rfl rfl; have m3 := hx6.cell 0 3 rfl rfl; have m4 := hx6.cell 0 4 rfl rfl))
        refine hK.out _ _ (by (repeat (with_reducible first | assumption | exact AgreeF.refl _ | apply AgreeF.al | apply AgreeF.dr | apply AgreeF.st))) (fun hHeld => ?_)
        clear hK K
        try simp only [Act.put, List.setIfInBounds_toArray, List.set_cons_zero, List.set_cons_succ]
        refine wpAnyH_ready (rs := [11]) (by kernel_rfl) (by simp) (AllReadyH.cons (o := { dst := some 45, op := Op.call { callee := Callee.value (Operand.func 33), args := #[Operand.tmp 34, Operand.tmp 39, Operand.tmp 44], argTypes := #[33, 9, 9] }, type := 33, pos := "law.go:211", after := #[{ on := 0, ground := Ground.data }, { on := 5, ground := Ground.data }, { on := 10, ground := Ground.data }, { on := 10, ground := Ground.chain }], guard := none }) rfl (fun K hK => ?_) AllReadyH.nil)
        (rw [if_pos (by rfl)]; go_wp2_with (go_at_call 33; (with_reducible refine (CP _ ?_).mono ?_); (focus (repeat (with_reducible first | assumption | exact Below.refl _ _ | apply Below.al | apply Below.dr))); rintro e w9 hq9; obtain ⟨M, cs9, hM9, rfl, hn9, hw9, hE9, hb9⟩ := hq9; obtain ⟨j1, j2, j3, j4, j5, j6, j7, j8, ecs9, _, _⟩ := hn9.words; subst ecs9; have HE9 := Lib.hid hE9; clear hE9; have hB9 : Below wr.heap.size wr w9 := below_via (by (repeat (with_reducible first | assumption | exact Below.refl _ _ | apply Below.al | apply Below.dr))) hb9; have hA9 : AgreeF (fun x => x ≠ w3.heap.size) wr w9 := AgreeF.of_below hB9; have hx9 := HXB.out.step hB9; have z0 := hx9.cell 0 0 rfl rfl; have u0 := hx9.frozen 0 0 rfl; have z1 := hx9.cell 0 1 rfl rfl; have u1 := hx9.frozen 0 1 rfl; have z2 := hx9.cell 0 2 rfl rfl; have u2 := hx9.frozen 0 2 rfl; have z3 := hx9.cell 0 3 rfl rfl; have u3 := hx9.frozen 0 3 rfl; have z4 := hx9.cell 0 4 rfl rfl; have u4 := hx9.frozen 0 4 rfl))
        refine hK.out _ _ (by (repeat (with_reducible first | assumption | exact AgreeF.refl _ | apply AgreeF.al | apply AgreeF.dr | apply AgreeF.st))) (fun hHeld => ?_)
        clear hK K
        try simp only [Act.put, List.setIfInBounds_toArray, List.set_cons_zero, List.set_cons_succ]
        refine wpAnyH_ready (rs := [12]) (by kernel_rfl) (by simp) (AllReadyH.cons (o := { dst := none, op := Op.store 33 (Operand.tmp 9) (Operand.tmp 45), type := 0, pos := "law.go:211", after := #[{ on := 11, ground := Ground.data }, { on := 11, ground := Ground.chain }, { on := 0, ground := Ground.phase }, { on := 1, ground := Ground.phase }, { on := 2, ground := Ground.phase }, { on := 3, ground := Ground.phase }, { on := 4, ground := Ground.phase }, { on := 5, ground := Ground.phase }, { on := 6, ground := Ground.phase }, { on := 7, ground := Ground.phase }, { on := 8, ground := Ground.phase }, { on := 9, ground := Ground.phase }, { on := 10, ground := Ground.phase }, { on := 11, ground := Ground.phase }], guard := none }) rfl (fun K hK => ?_) AllReadyH.nil)
        (rw [if_pos (by rfl)]; go_wp2_with (fail))
        refine hK.out _ _ (by (repeat (with_reducible first | assumption | exact AgreeF.refl _ | apply AgreeF.al | apply AgreeF.dr | apply AgreeF.st))) (fun hHeld => ?_)
        clear hK K
        try simp only [Act.put, List.setIfInBounds_toArray, List.set_cons_zero, List.set_cons_succ]
        refine wpAnyH_done (by kernel_rfl) ?_ _
        refine NoPanic.normal ?_
        have hA := PutStay.mk (B := w3.heap.size + 1) (w := w2) (wr := wr) hx9 hn9 (hGB _ (by (repeat (with_reducible first | assumption | exact Below.refl _ _ | apply Below.al | apply Below.dr)))) hBB hw9 hM9 HE9.out hA9 (HBW.out.trans (hB9.mono HBW.out.size)) hle
        unfold set5 at hA
        have HA := Lib.hid hA
        clear hA hx9 hn9 hA9 hB9 hb9
        go_wp2_with fail
        go_roundw
        case rel => obtain ⟨M9, h1, h2, h3, h4, h5⟩ := HA.out; exact ⟨k + 1, M9, T, hlk, by go_num, h1, by omega, h5⟩
        case measure => simp [intOf]; omega
      · (rw [if_pos (by rfl)]; go_wp2_with (go_at_call 34; (with_reducible refine (CV _).mono ?_); rintro e w6 ⟨rfl, hb6⟩; have hB6 : Below wr.heap.size wr w6 := below_via (by (repeat (with_reducible first | assumption | exact Below.refl _ _ | apply Below.al | apply Below.dr))) hb6; have hA6 : AgreeF (fun x => x ≠ w3.heap.size) wr w6 := AgreeF.of_below hB6; have hx6 := HXB.out.step hB6; have m0 := hx6.cell 0 0 rfl rfl; have m1 := hx6.cell 0 1 rfl rfl; have m2 := hx6.cell 0 2 rfl rfl; have m3 := hx6.cell 0 3 rfl rfl; have m4 := hx6.cell 0 4 rfl rfl))
        refine hK.out _ _ (by (repeat (with_reducible first | assumption | exact AgreeF.refl _ | apply AgreeF.al | apply AgreeF.dr | apply AgreeF.st))) (fun hHeld => ?_)
        clear hK K
        try simp only [Act.put, List.setIfInBounds_toArray, List.set_cons_zero, List.set_cons_succ]
        refine wpAnyH_ready (rs := [0]) (by kernel_rfl) (by simp) (AllReadyH.cons (o := { dst := some 34, op := Op.load 33 (Operand.tmp 9), type := 33, pos := "law.go:211", after := #[], guard := none }) rfl (fun K hK => ?_) AllReadyH.nil)
        (rw [if_pos (by rfl)]; go_wp2_with (fail))
        refine hK.out _ _ (by (repeat (with_reducible first | assumption | exact AgreeF.refl _ | apply AgreeF.al | apply AgreeF.dr | apply AgreeF.st))) (fun hHeld => ?_)
        clear hK K
        try simp only [Act.put, List.setIfInBounds_toArray, List.set_cons_zero, List.set_cons_succ]
        refine wpAnyH_ready (rs := [11]) (by kernel_rfl) (by simp) (AllReadyH.cons (o := { dst := some 45, op := Op.call { callee := Callee.value (Operand.func 33), args := #[Operand.tmp 34, Operand.tmp 39, Operand.tmp 44], argTypes := #[33, 9, 9] }, type := 33, pos := "law.go:211", after := #[{ on := 0, ground := Ground.data }, { on := 5, ground := Ground.data }, { on := 10, ground := Ground.data }, { on := 10, ground := Ground.chain }], guard := none }) rfl (fun K hK => ?_) AllReadyH.nil)
        (rw [if_pos (by rfl)]; go_wp2_with (go_at_call 33; (with_reducible refine (CP _ ?_).mono ?_); (focus (repeat (with_reducible first | assumption | exact Below.refl _ _ | apply Below.al | apply Below.dr))); rintro e w9 hq9; obtain ⟨M, cs9, hM9, rfl, hn9, hw9, hE9, hb9⟩ := hq9; obtain ⟨j1, j2, j3, j4, j5, j6, j7, j8, ecs9, _, _⟩ := hn9.words; subst ecs9; have HE9 := Lib.hid hE9; clear hE9; have hB9 : Below wr.heap.size wr w9 := below_via (by (repeat (with_reducible first | assumption | exact Below.refl _ _ | apply Below.al | apply Below.dr))) hb9; have hA9 : AgreeF (fun x => x ≠ w3.heap.size) wr w9 := AgreeF.of_below hB9; have hx9 := HXB.out.step hB9; have z0 := hx9.cell 0 0 rfl rfl; have u0 := hx9.frozen 0 0 rfl; have z1 := hx9.cell 0 1 rfl rfl; have u1 := hx9.frozen 0 1 rfl; have z2 := hx9.cell 0 2 rfl rfl; have u2 := hx9.frozen 0 2 rfl; have z3 := hx9.cell 0 3 rfl rfl; have u3 := hx9.frozen 0 3 rfl; have z4 := hx9.cell 0 4 rfl rfl; have u4 := hx9.frozen 0 4 rfl))
        refine hK.out _ _ (by (repeat (with_reducible first | assumption | exact AgreeF.refl _ | apply AgreeF.al | apply AgreeF.dr | apply AgreeF.st))) (fun hHeld => ?_)
        clear hK K
        try simp only [Act.put, List.setIfInBounds_toArray, List.set_cons_zero, List.set_cons_succ]
        refine wpAnyH_ready (rs := [12]) (by kernel_rfl) (by simp) (AllReadyH.cons (o := { dst := none, op := Op.store 33 (Operand.tmp 9) (Operand.tmp 45), type := 0, pos := "law.go:211", after := #[{ on := 11, ground := Ground.data }, { on := 11, ground := Ground.chain }, { on := 0, ground := Ground.phase }, { on := 1, ground := Ground.phase }, { on := 2, ground := Ground.phase }, { on := 3, ground := Ground.phase }, { on := 4, ground := Ground.phase }, { on := 5, ground := Ground.phase }, { on := 6, ground := Ground.phase }, { on := 7, ground := Ground.phase }, { on := 8, ground := Ground.phase }, { on := 9, ground := Ground.phase }, { on := 10, ground := Ground.phase }, { on := 11, ground := Ground.phase }], guard := none }) rfl (fun K hK => ?_) AllReadyH.nil)
        (rw [if_pos (by rfl)]; go_wp2_with (fail))
        refine hK.out _ _ (by (repeat (with_reducible first | assumption | exact AgreeF.refl _ | apply AgreeF.al | apply AgreeF.dr | apply AgreeF.st))) (fun hHeld => ?_)
        clear hK K
        try simp only [Act.put, List.setIfInBounds_toArray, List.set_cons_zero, List.set_cons_succ]
        refine wpAnyH_done (by kernel_rfl) ?_ _
        refine NoPanic.normal ?_
        have hA := PutStay.mk (B := w3.heap.size + 1) (w := w2) (wr := wr) hx9 hn9 (hGB _ (by (repeat (with_reducible first | assumption | exact Below.refl _ _ | apply Below.al | apply Below.dr)))) hBB hw9 hM9 HE9.out hA9 (HBW.out.trans (hB9.mono HBW.out.size)) hle
        unfold set5 at hA
        have HA := Lib.hid hA
        clear hA hx9 hn9 hA9 hB9 hb9
        go_wp2_with fail
        go_roundw
        case rel => obtain ⟨M9, h1, h2, h3, h4, h5⟩ := HA.out; exact ⟨k + 1, M9, T, hlk, by go_num, h1, by omega, h5⟩
        case measure => simp [intOf]; omega
  case rest =>
  obtain ⟨N, t, hbox, hN, hb⟩ := hcut
  obtain ⟨p, lf, a1, n1, c1, a2, n2, c2, a3, n3, c3, hx, hn, hw⟩ := hbox
  have hxl := hx.lt 0 rfl
  have hnl := hn.lt
  obtain ⟨lfo, hlf⟩ : ∃ x, t.isLeaf = x := ⟨_, rfl⟩
  obtain ⟨_, _, _, _, _, _, _, _, ecs, _, _⟩ := hn.words
  cases ecs
  rw [hlf] at hx hn hnl
  have f0 := hx.cell 0 0 rfl rfl
  have f1 := hx.cell 0 1 rfl rfl
  have f2 := hx.cell 0 2 rfl rfl
  have f3 := hx.cell 0 3 rfl rfl
  have f4 := hx.cell 0 4 rfl rfl
  obtain ⟨pg, hpg⟩ : ∃ x, t.page = x := ⟨_, rfl⟩
  obtain ⟨nn, hnn⟩ : ∃ x, cntT t = x := ⟨_, rfl⟩
  rw [hpg, hnn] at hx hn hnl
  rw [hpg] at f0
  rw [hnn] at f2
  have HX := Lib.hid hx
  have HN := Lib.hid hnl
  have HW := Lib.hid hw
  have HB := Lib.hid hb
  have HLF := Lib.hid hlf
  have HNN := Lib.hid hnn
  have hA0 : Below wc.heap.size wc wc.drew := Below.dr (Below.refl _ _)
  have CP : ∀ W, Below wc.heap.size wc W → Calls Try.prog 37 #[.agg #[.int .i64 pg, .bool lfo, .slice a1 nn c1, .slice a2 n2 c2, .slice a3 n3 c3]] W (RNodeTo (fun x => w3.heap.size + 1 ≤ x ∧ x < wc.heap.size) N W t) := fun W hW => plain15_any (fun b h => Nat.lt_of_lt_of_le h.2 hW.size) (hnl.below hW) hw.bnd
  have t0 : ∀ W, Below wc.heap.size wc W → W.cell? ⟨w3.heap.size, 0, none⟩ = some (.int .i64 pg) := fun W hW => (hx.step hW).cell 0 0 rfl rfl
  have t1 : ∀ W, Below wc.heap.size wc W → W.cell? ⟨w3.heap.size, 1, none⟩ = some (.bool lfo) := fun W hW => (hx.step hW).cell 0 1 rfl rfl
  have t2 : ∀ W, Below wc.heap.size wc W → W.cell? ⟨w3.heap.size, 2, none⟩ = some (.slice a1 nn c1) := fun W hW => (hx.step hW).cell 0 2 rfl rfl
  have t3 : ∀ W, Below wc.heap.size wc W → W.cell? ⟨w3.heap.size, 3, none⟩ = some (.slice a2 n2 c2) := fun W hW => (hx.step hW).cell 0 3 rfl rfl
  have t4 : ∀ W, Below wc.heap.size wc W → W.cell? ⟨w3.heap.size, 4, none⟩ = some (.slice a3 n3 c3) := fun W hW => (hx.step hW).cell 0 4 rfl rfl
  clear hx hn hnl hb hlf hnn hpg
  cases lfo with
  | true =>
    have CT : ∀ W, Below wc.heap.size wc W → Calls Try.prog 42 #[.agg #[.int .i64 pg, .bool true, .slice a1 nn c1, .slice a2 n2 c2, .slice a3 n3 c3]] W (NodeTo (fun x => w3.heap.size + 1 ≤ x ∧ x < wc.heap.size) (N + 1) W (topT N t)) := fun W hW => ttop_any (HN.out.below hW) (whole_top hw).1
    have CPT : ∀ (F : Nat → Prop) (w5 W : World) (cs : List Value), NodeOn F (N + 1) w5 cs (topT N t) → Below w5.heap.size w5 W → Calls Try.prog 37 #[.agg cs.toArray] W (RNodeTo (fun b => F b ∧ b < w5.heap.size) (N + 1) W (topT N t)) := fun F w5 W cs h hW => plain15_any (fun b h => Nat.lt_of_lt_of_le h.2 hW.size) (h.lt.below hW) (whole_top hw).2
    have CRT : ∀ (F : Nat → Prop) (w7 W : World) (cs : List Value), RNodeOn F N w7 cs t → Below w7.heap.size w7 W → Calls Try.prog 43 #[.agg cs.toArray] W (RNodeTo (fun b => F b ∧ b < w7.heap.size) (N + 1) W (topT N t)) := fun F w7 W cs h hW => rtop_any (fun b h => Nat.lt_of_lt_of_le h.2 hW.size) (h.lt.below hW) (whole_top hw).1
    clear hw
    go_upto_region 13 with (fail)
    go_region_held3 (fun W => Below wc.heap.size wc W) (first | with_reducible assumption | (repeat (with_reducible first | assumption | exact Below.refl _ _ | apply Below.al | apply Below.dr))) (first | (go_at_call 42; (with_reducible refine (CT _ ?_).mono ?_); (focus (repeat (with_reducible first | assumption | exact Below.refl _ _ | apply Below.al | apply Below.dr))); rintro e w5 ⟨cs5, rfl, hn5, hb5⟩; have hB5 : Below wc.heap.size wc w5 := below_via (by (repeat (with_reducible first | assumption | exact Below.refl _ _ | apply Below.al | apply Below.dr))) hb5; have q5 := Below.refl w5.heap.size w5; (try have q7 := below_via (a := w7) (by (repeat (with_reducible first | assumption | exact Below.refl _ _ | apply Below.al | apply Below.dr))) hb5); (try have q8 := below_via (a := w8) (by (repeat (with_reducible first | assumption | exact Below.refl _ _ | apply Below.al | apply Below.dr))) hb5)) | (go_at_call 37; (with_reducible refine (CP _ ?_).mono ?_); (focus (repeat (with_reducible first | assumption | exact Below.refl _ _ | apply Below.al | apply Below.dr))); rintro e w7 ⟨cs7, rfl, hn7, hb7⟩; have hB7 : Below wc.heap.size wc w7 := below_via (by (repeat (with_reducible first | assumption | exact Below.refl _ _ | apply Below.al | apply Below.dr))) hb7; have q7 := Below.refl w7.heap.size w7; (try have q5 := below_via (a := w5) (by (repeat (with_reducible first | assumption | exact Below.refl _ _ | apply Below.al | apply Below.dr))) hb7); (try have q6 := below_via (a := w6) (by (repeat (with_reducible first | assumption | exact Below.refl _ _ | apply Below.al | apply Below.dr))) hb7)) | (go_at_call 37; (with_reducible refine (CPT _ w5 _ _ hn5 ?_).mono ?_); (focus (repeat (with_reducible first | assumption | exact Below.refl _ _ | apply Below.al | apply Below.dr))); rintro e w6 ⟨cs6, rfl, hn6, hb6⟩; have hB6 : Below wc.heap.size wc w6 := below_via (by (repeat (with_reducible first | assumption | exact Below.refl _ _ | apply Below.al | apply Below.dr))) hb6; have q6 := Below.refl w6.heap.size w6; (try have q7 := below_via (a := w7) (by (repeat (with_reducible first | assumption | exact Below.refl _ _ | apply Below.al | apply Below.dr))) hb6); (try have q8 := below_via (a := w8) (by (repeat (with_reducible first | assumption | exact Below.refl _ _ | apply Below.al | apply Below.dr))) hb6)) | (go_at_call 43; (with_reducible refine (CRT _ w7 _ _ hn7 ?_).mono ?_); (focus (repeat (with_reducible first | assumption | exact Below.refl _ _ | apply Below.al | apply Below.dr))); rintro e w8 ⟨cs8, rfl, hn8, hb8⟩; have hB8 : Below wc.heap.size wc w8 := below_via (by (repeat (with_reducible first | assumption | exact Below.refl _ _ | apply Below.al | apply Below.dr))) hb8; have q8 := Below.refl w8.heap.size w8; (try have q5 := below_via (a := w5) (by (repeat (with_reducible first | assumption | exact Below.refl _ _ | apply Below.al | apply Below.dr))) hb8); (try have q6 := below_via (a := w6) (by (repeat (with_reducible first | assumption | exact Below.refl _ _ | apply Below.al | apply Below.dr))) hb8)) | (go_at_call 36; (with_reducible refine (same_any (hn6.below ?_) (hn8.below ?_)).mono ?_); (focus (repeat (with_reducible first | assumption | exact Below.refl _ _ | apply Below.al | apply Below.dr))); (focus (repeat (with_reducible first | assumption | exact Below.refl _ _ | apply Below.al | apply Below.dr))); rintro e w9 ⟨rfl, hb9⟩; have hB9 : Below wc.heap.size wc w9 := below_via (by (repeat (with_reducible first | assumption | exact Below.refl _ _ | apply Below.al | apply Below.dr))) hb9))
    go_wp2_with fail
    go_ret
    exact ⟨rfl, below_via HB1.out (below_via HB.out hB9)⟩
  | false =>
  obtain ⟨pp, ll, rfl⟩ : ∃ p l, t = .node p l := by
    cases t with
    | leaf p l => cases HLF.out
    | node p l => exact ⟨p, l, rfl⟩
  obtain ⟨M, rfl⟩ := whole_two hw
  obtain rfl : ll.length = nn := HNN.out
  have hl50 : ll.length ≤ 50 := shape_cnt hw.1.1 (by have := hw.1.2.1; omega)
  have hWH := Lib.hid hw
  clear HNN HLF hw
  go_wp2_with fail
  go_loopw [11] (fun s wx => ∃ k : Nat, k ≤ ll.length ∧ s = .int .i64 k ∧ Below wc.heap.size wc wx) (fun s _ => ll.length - (intOf s).toNat)
  case atStart => exact ⟨0, Nat.zero_le _, rfl, Below.refl _ _⟩
  case round =>
    obtain ⟨k, hk, rfl, hb⟩ := hrel
    have v0 := t0 _ hb
    have v1 := t1 _ hb
    have v2 := t2 _ hb
    have v3 := t3 _ hb
    have v4 := t4 _ hb
    by_cases hlk : k < ll.length
    rotate_left
    · obtain rfl : k = ll.length := by omega
      have CW : ∀ W, Below wc.heap.size wc W → Calls Try.prog 46 #[.agg #[.int .i64 pg, .bool false, .slice a1 ll.length c1, .slice a2 n2 c2, .slice a3 n3 c3], .string (strOf key)] W (fun e w' => e = .returned (.int .i64 (wayF (Tr.node pp ll).keys key : Int)) ∧ Below W.heap.size W w') := fun W hW => tway_any (HN.out.below hW).toIn key (by show ll.length ≤ 1000; omega)
      have CRW : ∀ (F : Nat → Prop) (w7 W : World) (cs : List Value), RNodeOn F (M + 2) w7 cs (.node pp ll) → Below w7.heap.size w7 W → Calls Try.prog 47 #[.agg cs.toArray, .string (strOf key)] W (fun e w' => e = .returned (.int .i64 (wayF (Tr.node pp ll).keys key : Int)) ∧ Below W.heap.size W w') := fun F w7 W cs h hW => rway_any (h.below hW).toRIn key (by show ll.length ≤ 1000; omega)
      obtain ⟨wy, hwy⟩ : ∃ x, wayF (Tr.node pp ll).keys key = x := ⟨_, rfl⟩
      rw [hwy] at CW CRW
      have hc : decide ((ll.length : Int) < (ll.length : Int)) = false := by simp
      have hc' : ((wy : Int) == (wy : Int)) = true := by simp
      go_upto_region 24 with (fail)
      go_region_held3 (fun W => Below wc.heap.size wc W) (first | with_reducible assumption | (repeat (with_reducible first | assumption | exact Below.refl _ _ | apply Below.al | apply Below.dr))) (first | (go_at_call 46; (with_reducible refine (CW _ ?_).mono ?_); (focus (repeat (with_reducible first | assumption | exact Below.refl _ _ | apply Below.al | apply Below.dr))); rintro e w9 ⟨rfl, hb9⟩; have q9 : Below wc.heap.size wc w9 := below_via (by (repeat (with_reducible first | assumption | exact Below.refl _ _ | apply Below.al | apply Below.dr))) hb9; (try have q7 := below_via (a := w7) (by (repeat (with_reducible first | assumption | exact Below.refl _ _ | apply Below.al | apply Below.dr))) hb9)) | (go_at_call 37; (with_reducible refine (CP _ ?_).mono ?_); (focus (repeat (with_reducible first | assumption | exact Below.refl _ _ | apply Below.al | apply Below.dr))); rintro e w7 ⟨cs7, rfl, hn7, hb7⟩; have hB7 : Below wc.heap.size wc w7 := below_via (by (repeat (with_reducible first | assumption | exact Below.refl _ _ | apply Below.al | apply Below.dr))) hb7; have q7 := Below.refl w7.heap.size w7; (try have q5 := below_via (a := w5) (by (repeat (with_reducible first | assumption | exact Below.refl _ _ | apply Below.al | apply Below.dr))) hb7); (try have q6 := below_via (a := w6) (by (repeat (with_reducible first | assumption | exact Below.refl _ _ | apply Below.al | apply Below.dr))) hb7)) | (go_at_call 47; (with_reducible refine (CRW _ w7 _ _ hn7 ?_).mono ?_); (focus (repeat (with_reducible first | assumption | exact Below.refl _ _ | apply Below.al | apply Below.dr))); rintro e w8 ⟨rfl, hb8⟩; have q8 : Below wc.heap.size wc w8 := below_via (by (repeat (with_reducible first | assumption | exact Below.refl _ _ | apply Below.al | apply Below.dr))) hb8))
      go_wp2_with fail
      go_ret
      exact ⟨rfl, below_via HB1.out (below_via HB.out q8)⟩
    · have hB2 := below_via HB.out hb
      have hb8 : Below wr.heap.size wr (wr.alloc (.cells #[.int .u8 (k : Int)] 5)) := Below.al (Below.refl _ _)
      have hx2 := HX1.out.step (below_via hB2 hb8)
      have k1 := hx2.cell 0 1 rfl rfl
      have k2 := hx2.cell 0 2 rfl rfl
      obtain ⟨kd, hkd⟩ : ∃ z, Int.tmod kind 2 = z := ⟨_, rfl⟩
      have hkd1 : -1 ≤ kd ∧ kd ≤ 1 ∧ (0 ≤ kind → 0 ≤ kd) := by
        rw [← hkd]
        rcases Int.le_total 0 kind with h | h
        · rw [Int.tmod_eq_emod_of_nonneg h]; omega
        · have := Int.tmod_eq_emod_of_nonneg (a := -kind) (b := 2) (by omega)
          rw [Int.neg_tmod] at this
          omega
      have hwk : IntKind.u8.wrap (k : Int) = (k : Int) := by
        unfold IntKind.wrap
        simp [IntKind.signed, IntKind.bits]
        omega
      clear v0 v1 v2 v3 v4
      have v0 := t0 _ hb
      have v1 := t1 _ hb
      have v2 := t2 _ hb
      have v3 := t3 _ hb
      have v4 := t4 _ hb
      obtain ⟨wA, hwA⟩ : ∃ x, wr.alloc (.cells #[.int .u8 (k : Int)] 5) = x := ⟨_, rfl⟩
      have hbs := Row.made .u8 wr 5 [(k : Int)] (b := wr.heap.size) rfl (by simp [maxLen])
      have hbs : Bs wA (some ⟨wr.heap.size, 0, none⟩) 1 1 [UInt8.ofNat k] := by
        unfold Bs
        rw [← hwA]
        have e9 : toI [UInt8.ofNat k] = [(k : Int)] := by simp [toI]; omega
        rw [e9]
        exact hbs
      rw [hwA] at hb8 k1 k2
      have hsh := hWH.out.1.1
      have hsum := hWH.out.1.2.1
      have CS := spoil_any (kind := 2 + kd) HA8.out (key := []) (by simp) (n := M + 2) (fun b h => Nat.lt_of_lt_of_le h.2 (below_via hb hb8).size) (HN.out.below (below_via hb hb8)) (shape_sml hsh (by omega)) (shape_pos hsh) hbs
      have HBA := Lib.hid (below_via hb hb8)
      by_cases hneg : kind < 0
      · have HNEG := Lib.hid hneg
        have d8 : decide (kind < 0) = true := by simp; omega
        have d9 : decide ((250 : Int) < (ll.length : Int)) = false := by simp; omega
        go_wp2_with fail
        refine CS.mono ?_
        rintro e w4 ⟨cs4, rfl, hn4, hb4⟩
        obtain ⟨j1, j2, j3, j4, j5, j6, j7, j8, ecs4, _, _⟩ := hn4.words
        subst ecs4
        have hlt9 : ll.length ≤ 1000 := by omega
        have HB4 := Lib.hid (below_via HBA.out hb4)
        have HX4 := Lib.hid (HX1.out.step (below_via HB.out HB4.out))
        obtain ⟨SP, hSP⟩ : ∃ z, spoilT (M + 2) [UInt8.ofNat k] (2 + kd) a_ [] (.node pp ll) = z := ⟨_, rfl⟩
        rw [hSP] at hn4 ⊢
        obtain ⟨pg4, hpg4⟩ : ∃ z, SP.page = z := ⟨_, rfl⟩
        obtain ⟨lf4, hlf4⟩ : ∃ z, SP.isLeaf = z := ⟨_, rfl⟩
        obtain ⟨cn4, hcn4⟩ : ∃ z, cntT SP = z := ⟨_, rfl⟩
        rw [hpg4, hlf4, hcn4]
        have v5 := t2 _ HB4.out
        obtain ⟨w5, hw5⟩ : ∃ x, w4.alloc (.cells #[.int .i64 pg4, .bool lf4, .slice j1 cn4 j2, .slice j3 j4 j5, .slice j6 j7 j8] 33) = x := ⟨_, rfl⟩
        have hb5 : Below w4.heap.size w4 w5 := by rw [← hw5]; exact Below.al (Below.refl _ _)
        have k5 := (HX4.out.step hb5).cell 0 1 rfl rfl
        have v6 := t2 _ (below_via HB4.out hb5)
        clear v0 v1 v2 v3 v4 k1 k2 hn4 hb4 HNEG hneg
        go_wp2_with fail
        go_ret
        exact ⟨rfl, below_via HB1.out (below_via HB.out (below_via HB4.out hb5))⟩
      · have d8 : decide (kind < 0) = false := by simp; omega
        have d9 : decide ((250 : Int) < (ll.length : Int)) = false := by simp; omega
        have h23 : 2 + kd = 2 ∨ 2 + kd = 3 := by omega
        have hkx : (UInt8.ofNat k).toNat = k := by simp; omega
        rw [spoil_root hlk hkx] at CS
        obtain ⟨sf1, sf2, sf3, sf4⟩ := spoiled_fine h23 a_ (p := pp) hlk hWH.out
        obtain ⟨sg1, sg2, sg3⟩ := mended_top2 h23 a_ hlk hWH.out
        obtain ⟨SL, hSL⟩ : ∃ z, spoiledL M (2 + kd) a_ ll k = z := ⟨_, rfl⟩
        rw [hSL] at CS sf1 sf2 sf4 sg1 sg2 sg3
        have hbn : Bnd (M + 2) (.node pp SL) := ⟨by omega, fun c hc => ⟨(sf1 c hc).1, Fit.bnd (by omega) (sf1 c hc).2.1⟩⟩
        obtain ⟨MT, hMT⟩ : ∃ z, mendT pp SL k = z := ⟨_, rfl⟩
        rw [hMT] at sg1 sg2 sg3
        have hks : k < SL.length := by omega
        have HSF4 := Lib.hid sf4
        have HSG1 := Lib.hid sg1
        have HSG2 := Lib.hid sg2
        have HSG3 := Lib.hid sg3
        have HBN := Lib.hid hbn
        have HMT := Lib.hid hMT
        have HKS := Lib.hid hks
        have HSL := Lib.hid sf2
        clear sf1 sf2 sf3 sf4 sg1 sg2 sg3 hbn hMT hks hSL hkx h23
        go_wp2_with fail
        refine CS.mono ?_
        rintro e w4 ⟨cs4, rfl, hn4, hb4⟩
        obtain ⟨j1, j2, j3, j4, j5, j6, j7, j8, ecs4, _, _⟩ := hn4.words
        subst ecs4
        rw [show (Tr.node pp SL).page = pp from rfl, show (Tr.node pp SL).isLeaf = false from rfl, show cntT (Tr.node pp SL) = SL.length from rfl, HSL.out] at hn4 ⊢
        have hlt9 : ll.length ≤ 1000 := by omega
        have HB4 := Lib.hid (below_via HBA.out hb4)
        have HX4 := Lib.hid (HX1.out.step (below_via HB.out HB4.out))
        obtain ⟨w5, hw5⟩ : ∃ x, w4.alloc (.cells #[.int .i64 pp, .bool false, .slice j1 ll.length j2, .slice j3 j4 j5, .slice j6 j7 j8] 33) = x := ⟨_, rfl⟩
        have hb5 : Below w4.heap.size w4 w5 := by rw [← hw5]; exact Below.al (Below.refl _ _)
        have hx5 : Boxes w5 [(w4.heap.size, [.int .i64 pp, .bool false, .slice j1 ll.length j2, .slice j3 j4 j5, .slice j6 j7 j8])] := by
          rw [← hw5]
          exact (Boxes.nil w4).alloc #[.int .i64 pp, .bool false, .slice j1 ll.length j2, .slice j3 j4 j5, .slice j6 j7 j8] 33 (b := w4.heap.size) rfl
        have k5 := (HX4.out.step hb5).cell 0 1 rfl rfl
        have v6 := t2 _ (below_via HB4.out hb5)
        have y0 := hx5.cell 0 0 rfl rfl
        have y1 := hx5.cell 0 1 rfl rfl
        have y2 := hx5.cell 0 2 rfl rfl
        have y3 := hx5.cell 0 3 rfl rfl
        have y4 := hx5.cell 0 4 rfl rfl
        have HX5 := Lib.hid hx5
        have HN5 := Lib.hid (hn4.lt.below hb5)
        have HB5 := Lib.hid (below_via HB4.out hb5)
        clear v0 v1 v2 v3 v4 k1 k2 hn4 hb4 hx5
        have hlt12 : w4.heap.size < w5.heap.size := HX5.out.lt 0 rfl
        go_wp2_with fail
        refine (tmend_any HN5.out k HKS.out HSF4.out).mono ?_
        rintro e w6 ⟨cs6, rfl, hn6, hb6⟩
        rw [HMT.out] at hn6
        obtain ⟨m1, m2, m3, m4, m5, m6, m7, m8, ecs6, _, _⟩ := hn6.words
        subst ecs6
        obtain ⟨mp, hmp⟩ : ∃ z, MT.page = z := ⟨_, rfl⟩
        obtain ⟨ml, hml⟩ : ∃ z, MT.isLeaf = z := ⟨_, rfl⟩
        obtain ⟨mc, hmc⟩ : ∃ z, cntT MT = z := ⟨_, rfl⟩
        rw [hmp, hml, hmc] at hn6 ⊢
        have HMP := Lib.hid hmp
        have HML := Lib.hid hml
        have HMC := Lib.hid hmc
        obtain ⟨w7, hw7⟩ : ∃ x, w6.alloc (.cells #[.int .i64 mp, .bool ml, .slice m1 mc m2, .slice m3 m4 m5, .slice m6 m7 m8] 33) = x := ⟨_, rfl⟩
        have hb7 : Below w6.heap.size w6 w7 := by rw [← hw7]; exact Below.al (Below.refl _ _)
        have hx7 : Boxes w7 [(w6.heap.size, [.int .i64 mp, .bool ml, .slice m1 mc m2, .slice m3 m4 m5, .slice m6 m7 m8])] := by
          rw [← hw7]
          exact (Boxes.nil w6).alloc #[.int .i64 mp, .bool ml, .slice m1 mc m2, .slice m3 m4 m5, .slice m6 m7 m8] 33 (b := w6.heap.size) rfl
        have hy7 := HX5.out.step (below_via hb6 hb7)
        have HX7 := Lib.hid hx7
        have HN7 := Lib.hid (hn6.lt.below hb7)
        have HN5' := Lib.hid (HN5.out.lt.below (below_via hb6 hb7))
        have HB7 := Lib.hid (below_via HB5.out (below_via hb6 hb7))
        have hsz7 := (below_via hb6 hb7).size
        clear y0 y1 y2 y3 y4 k5 v6
        have y0 := hy7.cell 0 0 rfl rfl
        have y1 := hy7.cell 0 1 rfl rfl
        have y2 := hy7.cell 0 2 rfl rfl
        have y3 := hy7.cell 0 3 rfl rfl
        have y4 := hy7.cell 0 4 rfl rfl
        clear hn6 hb6 hb7 hx7 hy7 hmp hml hmc
        go_wp2_with fail
        refine (plain15_any (fun b h => Nat.lt_of_lt_of_le h.2 hsz7) HN5'.out HBN.out).mono ?_
        rintro e w8 ⟨cs8, rfl, hn8, hb8'⟩
        have HN8 := Lib.hid hn8
        clear hn8
        go_wp2_with fail
        refine (rmend_any (fun b h => h.2) HN8.out.lt HSF4.out HKS.out).mono ?_
        rintro e w9 ⟨cs9, rfl, hn9, hb9⟩
        rw [HMT.out] at hn9
        obtain ⟨ra, rc, ecs9, _, _⟩ := hn9.at
        subst ecs9
        rw [HMP.out, HML.out, HMC.out] at hn9 ⊢
        obtain ⟨wd, hwd⟩ : ∃ x, w9.alloc (.cells #[.int .i64 mp, .bool ml, .slice ra mc rc] 26) = x := ⟨_, rfl⟩
        have hbd : Below w9.heap.size w9 wd := by rw [← hwd]; exact Below.al (Below.refl _ _)
        have hxd : Boxes wd [(w9.heap.size, [.int .i64 mp, .bool ml, .slice ra mc rc])] := by
          rw [← hwd]
          exact (Boxes.nil w9).alloc #[.int .i64 mp, .bool ml, .slice ra mc rc] 26 (b := w9.heap.size) rfl
        have hya := HX7.out.step (below_via hb8' (below_via hb9 hbd))
        have hHA := (HN7.out.lt.below (below_via hb8' (below_via hb9 hbd)))
        have hHB := (hn9.lt.below hbd)
        have HBD := Lib.hid (below_via HB7.out (below_via hb8' (below_via hb9 hbd)))
        have CPa : ∀ W, Below wd.heap.size wd W → Calls Try.prog 37 #[.agg #[.int .i64 mp, .bool ml, .slice m1 mc m2, .slice m3 m4 m5, .slice m6 m7 m8]] W (RNodeTo _ (M + 2) W MT) := fun W hW => plain15_any (fun b h => Nat.lt_of_lt_of_le h.2 hW.size) (hHA.lt.below hW) HSG2.out
        have CTa : ∀ W, Below wd.heap.size wd W → Calls Try.prog 42 #[.agg #[.int .i64 mp, .bool ml, .slice m1 mc m2, .slice m3 m4 m5, .slice m6 m7 m8]] W (NodeTo _ (M + 3) W (topT (M + 2) MT)) := fun W hW => ttop_any (hHA.lt.below hW) HSG1.out
        have CPT : ∀ (F : Nat → Prop) (w5 W : World) (cs : List Value), NodeOn F (M + 3) w5 cs (topT (M + 2) MT) → Below w5.heap.size w5 W → Calls Try.prog 37 #[.agg cs.toArray] W (RNodeTo (fun b => F b ∧ b < w5.heap.size) (M + 3) W (topT (M + 2) MT)) := fun F w5 W cs h hW => plain15_any (fun b h => Nat.lt_of_lt_of_le h.2 hW.size) (h.lt.below hW) HSG3.out
        have CRT : ∀ W, Below wd.heap.size wd W → Calls Try.prog 43 #[.agg #[.int .i64 mp, .bool ml, .slice ra mc rc]] W (RNodeTo _ (M + 3) W (topT (M + 2) MT)) := fun W hW => rtop_any (fun b h => Nat.lt_of_lt_of_le h.2 hW.size) (hHB.lt.below hW) HSG1.out
        have HHB := Lib.hid hHB
        have z0 : ∀ W, Below wd.heap.size wd W → W.cell? ⟨w6.heap.size, 0, none⟩ = some (.int .i64 mp) := fun W hW => (hya.step hW).cell 0 0 rfl rfl
        have z1 : ∀ W, Below wd.heap.size wd W → W.cell? ⟨w6.heap.size, 1, none⟩ = some (.bool ml) := fun W hW => (hya.step hW).cell 0 1 rfl rfl
        have z2 : ∀ W, Below wd.heap.size wd W → W.cell? ⟨w6.heap.size, 2, none⟩ = some (.slice m1 mc m2) := fun W hW => (hya.step hW).cell 0 2 rfl rfl
        have z3 : ∀ W, Below wd.heap.size wd W → W.cell? ⟨w6.heap.size, 3, none⟩ = some (.slice m3 m4 m5) := fun W hW => (hya.step hW).cell 0 3 rfl rfl
        have z4 : ∀ W, Below wd.heap.size wd W → W.cell? ⟨w6.heap.size, 4, none⟩ = some (.slice m6 m7 m8) := fun W hW => (hya.step hW).cell 0 4 rfl rfl
        have x0 : ∀ W, Below wd.heap.size wd W → W.cell? ⟨w9.heap.size, 0, none⟩ = some (.int .i64 mp) := fun W hW => (hxd.step hW).cell 0 0 rfl rfl
        have x1 : ∀ W, Below wd.heap.size wd W → W.cell? ⟨w9.heap.size, 1, none⟩ = some (.bool ml) := fun W hW => (hxd.step hW).cell 0 1 rfl rfl
        have x2 : ∀ W, Below wd.heap.size wd W → W.cell? ⟨w9.heap.size, 2, none⟩ = some (.slice ra mc rc) := fun W hW => (hxd.step hW).cell 0 2 rfl rfl
        have hAD : Below wd.heap.size wd wd.drew := Below.dr (Below.refl _ _)
        clear y0 y1 y2 y3 y4 hn9 hbd hxd hya hHA hHB hb9 hb8' t0 t1 t2 t3 t4 CP
        go_upto_region 22 with (fail)
        go_region_held3 (fun W => Below wd.heap.size wd W) (first | with_reducible assumption | (repeat (with_reducible first | assumption | exact Below.refl _ _ | apply Below.al | apply Below.dr))) (first | (go_at_call 37; (with_reducible refine (CPa _ ?_).mono ?_); (focus (repeat (with_reducible first | assumption | exact Below.refl _ _ | apply Below.al | apply Below.dr))); rintro e w15 ⟨cs15, rfl, hn15, hb15⟩; have hB15 : Below wd.heap.size wd w15 := below_via (by (repeat (with_reducible first | assumption | exact Below.refl _ _ | apply Below.al | apply Below.dr))) hb15; have q15 := Below.refl w15.heap.size w15; (try have q16 := below_via (a := w16) (by (repeat (with_reducible first | assumption | exact Below.refl _ _ | apply Below.al | apply Below.dr))) hb15); (try have q17 := below_via (a := w17) (by (repeat (with_reducible first | assumption | exact Below.refl _ _ | apply Below.al | apply Below.dr))) hb15); (try have q18 := below_via (a := w18) (by (repeat (with_reducible first | assumption | exact Below.refl _ _ | apply Below.al | apply Below.dr))) hb15)) | (go_at_call 42; (with_reducible refine (CTa _ ?_).mono ?_); (focus (repeat (with_reducible first | assumption | exact Below.refl _ _ | apply Below.al | apply Below.dr))); rintro e w16 ⟨cs16, rfl, hn16, hb16⟩; have hB16 : Below wd.heap.size wd w16 := below_via (by (repeat (with_reducible first | assumption | exact Below.refl _ _ | apply Below.al | apply Below.dr))) hb16; have q16 := Below.refl w16.heap.size w16; (try have q15 := below_via (a := w15) (by (repeat (with_reducible first | assumption | exact Below.refl _ _ | apply Below.al | apply Below.dr))) hb16); (try have q17 := below_via (a := w17) (by (repeat (with_reducible first | assumption | exact Below.refl _ _ | apply Below.al | apply Below.dr))) hb16); (try have q18 := below_via (a := w18) (by (repeat (with_reducible first | assumption | exact Below.refl _ _ | apply Below.al | apply Below.dr))) hb16)) | (go_at_call 37; (with_reducible refine (CPT _ w16 _ _ hn16 ?_).mono ?_); (focus (repeat (with_reducible first | assumption | exact Below.refl _ _ | apply Below.al | apply Below.dr))); rintro e w17 ⟨cs17, rfl, hn17, hb17⟩; have hB17 : Below wd.heap.size wd w17 := below_via (by (repeat (with_reducible first | assumption | exact Below.refl _ _ | apply Below.al | apply Below.dr))) hb17; have q17 := Below.refl w17.heap.size w17; (try have q15 := below_via (a := w15) (by (repeat (with_reducible first | assumption | exact Below.refl _ _ | apply Below.al | apply Below.dr))) hb17); (try have q16 := below_via (a := w16) (by (repeat (with_reducible first | assumption | exact Below.refl _ _ | apply Below.al | apply Below.dr))) hb17); (try have q18 := below_via (a := w18) (by (repeat (with_reducible first | assumption | exact Below.refl _ _ | apply Below.al | apply Below.dr))) hb17)) | (go_at_call 43; (with_reducible refine (CRT _ ?_).mono ?_); (focus (repeat (with_reducible first | assumption | exact Below.refl _ _ | apply Below.al | apply Below.dr))); rintro e w18 ⟨cs18, rfl, hn18, hb18⟩; have hB18 : Below wd.heap.size wd w18 := below_via (by (repeat (with_reducible first | assumption | exact Below.refl _ _ | apply Below.al | apply Below.dr))) hb18; have q18 := Below.refl w18.heap.size w18; (try have q15 := below_via (a := w15) (by (repeat (with_reducible first | assumption | exact Below.refl _ _ | apply Below.al | apply Below.dr))) hb18); (try have q16 := below_via (a := w16) (by (repeat (with_reducible first | assumption | exact Below.refl _ _ | apply Below.al | apply Below.dr))) hb18); (try have q17 := below_via (a := w17) (by (repeat (with_reducible first | assumption | exact Below.refl _ _ | apply Below.al | apply Below.dr))) hb18)) | (go_at_call 36; (with_reducible refine (same_any (hn15.below ?_) (HHB.out.lt.below ?_)).mono ?_); (focus (repeat (with_reducible first | assumption | exact Below.refl _ _ | apply Below.al | apply Below.dr))); (focus (repeat (with_reducible first | assumption | exact Below.refl _ _ | apply Below.al | apply Below.dr))); rintro e w19 ⟨rfl, hb19⟩; have hB19 : Below wd.heap.size wd w19 := below_via (by (repeat (with_reducible first | assumption | exact Below.refl _ _ | apply Below.al | apply Below.dr))) hb19; (try have q15 := below_via (a := w15) (by (repeat (with_reducible first | assumption | exact Below.refl _ _ | apply Below.al | apply Below.dr))) hb19); (try have q16 := below_via (a := w16) (by (repeat (with_reducible first | assumption | exact Below.refl _ _ | apply Below.al | apply Below.dr))) hb19); (try have q17 := below_via (a := w17) (by (repeat (with_reducible first | assumption | exact Below.refl _ _ | apply Below.al | apply Below.dr))) hb19); (try have q18 := below_via (a := w18) (by (repeat (with_reducible first | assumption | exact Below.refl _ _ | apply Below.al | apply Below.dr))) hb19)) | (go_at_call 36; (with_reducible refine (same_any (hn17.below ?_) (hn18.below ?_)).mono ?_); (focus (repeat (with_reducible first | assumption | exact Below.refl _ _ | apply Below.al | apply Below.dr))); (focus (repeat (with_reducible first | assumption | exact Below.refl _ _ | apply Below.al | apply Below.dr))); rintro e w20 ⟨rfl, hb20⟩; have hB20 : Below wd.heap.size wd w20 := below_via (by (repeat (with_reducible first | assumption | exact Below.refl _ _ | apply Below.al | apply Below.dr))) hb20; (try have q15 := below_via (a := w15) (by (repeat (with_reducible first | assumption | exact Below.refl _ _ | apply Below.al | apply Below.dr))) hb20); (try have q16 := below_via (a := w16) (by (repeat (with_reducible first | assumption | exact Below.refl _ _ | apply Below.al | apply Below.dr))) hb20); (try have q17 := below_via (a := w17) (by (repeat (with_reducible first | assumption | exact Below.refl _ _ | apply Below.al | apply Below.dr))) hb20); (try have q18 := below_via (a := w18) (by (repeat (with_reducible first | assumption | exact Below.refl _ _ | apply Below.al | apply Below.dr))) hb20)))
        all_goals (clear z0 z1 z2 z3 z4 x0 x1 x2 CPa CTa CPT CRT)
        all_goals (go_wp2_with fail)
        all_goals go_roundw
        all_goals first
          | exact ⟨k + 1, hlk, by go_num, below_via HBD.out hB20⟩
          | (simp [intOf]; omega)
end Go.Proofs.Ytemfnjlfcemehaa
