/- The law PruneNone (printed by gen_treL9.py). -/
import Derived.Test.YtemfnjlfcemehaaTreAxq
import Derived.Test.YtemfnjlfcemehaaTreDsq
import Derived.Test.YtemfnjlfcemehaaTreSaq
import Derived.Test.YtemfnjlfcemehaaM9
import Derived.Deep.RegionHeld3
import Derived.Deep.DeepCutAuto
import Derived.Deep.CutBlock
import Derived.Deep.QuietTactic
import Derived.BigQuiet
namespace Go.Proofs.Ytemfnjlfcemehaa
open Go.RowKit

set_option maxRecDepth 100000 in
set_option maxHeartbeats 4000000 in
theorem lPNone {w : World} {a : Option Addr} {n c : Nat} {l : List St} (h : Sts w a n c l) (key : List UInt8) (hkm : key.length ≤ 9223372036854775807) :
    Calls Try.prog 16 #[.slice a n c, .string (strOf key)] w fun e w' => e = .returned (.bool true) ∧ Below w.heap.size w w' := by
  obtain ⟨e1, e2, e3⟩ := TabR.lens h
  have HP := Lib.hid h
  have HL := Lib.hid e1
  have A := awake16_any w
  clear h e1
  go_enter Try.func16, Try.ntmps16
  go_wp2_with fail
  refine A.mono ?_
  rintro e w1 ⟨rfl, hb1⟩
  have hp1 : Sts w1 a n c l := TabR.below (Nat.le_refl _) hb1 HP.out
  clear A
  go_wp2_with fail
  refine (small16_any hp1).mono ?_
  rintro e w2 ⟨rfl, rfl⟩
  obtain ⟨S, hS⟩ : ∃ S, smallS l = S := ⟨_, rfl⟩
  rw [hS]
  cases S with
  | false =>
    have HB := Lib.hid hb1
    clear hp1 hb1 hS
    go_wp2_with fail
    go_ret
    exact ⟨rfl, HB.out⟩
  | true =>
  obtain ⟨hl120, hall⟩ := okS_facts hS
  have hn120 : n ≤ 120 := by rw [← HL.out]; exact hl120
  have HALL := Lib.hid hall
  have HB1 := Lib.hid hb1
  clear hp1 hb1 hS hall hl120
  have hsk := strOf_size key
  obtain ⟨kl, hkl⟩ : ∃ x, key.length = x := ⟨_, rfl⟩
  rw [hkl] at hsk hkm
  clear hkl
  by_cases k100 : kl ≤ 100
  rotate_left
  · have d2 : decide ((100 : Int) < (kl : Int)) = true := by simp; omega
    have d2' : decide (100 < kl) = true := by simp; omega
    clear k100
    go_wp2_with fail
    go_ret
    exact ⟨rfl, HB1.out⟩
  have d2 : decide ((100 : Int) < (kl : Int)) = false := by simp; omega
  have d2' : decide (100 < kl) = false := by simp; omega
  go_wp2_with fail
  refine (tempty_any w2 (fun _ => False)).mono ?_
  rintro e w3 ⟨cs, rfl, hn0, hb3⟩
  obtain ⟨x1, k1, x2, k2, x3, k3, ecs, hn0⟩ := empty_on (F := fun _ => False) hn0
  subst ecs
  have hbox := TrBox.new (B := w3.heap.size + 1) hn0 (fun b h => h.elim) whole_empty 33
  have hbel : Below w.heap.size w (w3.alloc (.cells #[.int .i64 0, .bool true, .slice x1 0 k1, .slice x2 0 k2, .slice x3 0 k3] 33)) := Below.al (HB1.out.trans (hb3.mono HB1.out.size))
  have HBOX := Lib.hid hbox
  have HBEL := Lib.hid hbel
  have hle : w.heap.size ≤ w3.heap.size := Nat.le_trans HB1.out.size hb3.size
  clear hn0 hb3 hbox hbel
  go_upto_block 0 with (fail)
  go_cut [] (fun wq => ∃ N t, TrBox (w3.heap.size + 1) w3.heap.size wq N t ∧ N ≤ 121 ∧ (entsT N t).length ≤ 120 ∧ Below w.heap.size w wq)
  case first =>
    go_wp2_with fail
    go_loopw [8] (fun s wx => ∃ (k N : Nat) (t : Tr), k ≤ n ∧ s = .int .i64 k ∧ TrBox (w3.heap.size + 1) w3.heap.size wx N t ∧ N ≤ k + 1 ∧ (entsT N t).length ≤ k ∧ Below w.heap.size w wx) (fun s _ => n - (intOf s).toNat)
    case atStart => exact ⟨0, 1, _, Nat.zero_le _, rfl, HBOX.out, Nat.le_refl _, Nat.le_refl _, HBEL.out⟩
    case round =>
      clear HBOX HBEL
      obtain ⟨k, N, t, hk, rfl, hbox, hN, hen, hb⟩ := hrel
      by_cases hlk : k < n
      rotate_left
      · obtain rfl : k = n := by omega
        have hEX : Hid (∃ N t, TrBox (w3.heap.size + 1) w3.heap.size wr N t ∧ N ≤ 121 ∧ (entsT N t).length ≤ 120 ∧ Below w.heap.size w wr) := Lib.hid ⟨N, t, hbox, by omega, by omega, hb⟩
        clear hbox hb hen
        go_wp2_with fail
        go_meet
        exact hEX.out
      obtain ⟨bl, ol, y, rfl, hbl, hy, c0, c1⟩ := HP.out.at hlk
      obtain ⟨hyk, hys⟩ := HALL.out y (List.mem_of_getElem? hy)
      obtain ⟨sz, hszm⟩ : ∃ sz : Nat, (if y.size < 0 then (0 : Int) else y.size) = (sz : Int) := ⟨(if y.size < 0 then (0 : Int) else y.size).toNat, by split <;> omega⟩
      have hsz4 : sz ≤ 400 := by split at hszm <;> omega
      obtain ⟨p, lf, a1, n1, c1', a2, n2, c2, a3, n3, c3, hx, hn, hw⟩ := hbox
      have hxl := hx.lt 0 rfl
      have hnl := hn.lt
      have hne : bl ≠ w3.heap.size := by omega
      have hbl2 := Nat.lt_of_lt_of_le hbl hb.size
      have l0 : ∀ W, AgreeF (fun x => x ≠ w3.heap.size) wr W → W.cell? ⟨bl, ol + k * 2, none⟩ = some (.string (strOf y.key)) := fun W hW => (hW.cell hne hbl2).trans ((hb.cell (p := ⟨bl, ol + k * 2, none⟩) hbl).trans c0)
      have l1 : ∀ W, AgreeF (fun x => x ≠ w3.heap.size) wr W → W.cell? ⟨bl, ol + k * 2 + 1, none⟩ = some (.int .i64 y.size) := fun W hW => (hW.cell hne hbl2).trans ((hb.cell (p := ⟨bl, ol + k * 2 + 1, none⟩) hbl).trans c1)
      obtain ⟨T, hT⟩ : ∃ T, putW N t y.key ⟨fillT 0 sz, []⟩ = T := ⟨_, rfl⟩
      obtain ⟨E, hE⟩ : ∃ E, entsT N t = E := ⟨_, rfl⟩
      have CP : ∀ W, Below wr.heap.size wr W → Calls Try.prog 33 #[.agg #[.int .i64 p, .bool lf, .slice a1 n1 c1', .slice a2 n2 c2, .slice a3 n3 c3], .string (strOf y.key), .string (strOf (fillT 0 sz))] W (fun e w' => ∃ M cs, M ≤ N + 1 ∧ e = .returned (.agg cs.toArray) ∧ NodeOn (Fr (fun x => w3.heap.size + 1 ≤ x ∧ x < wr.heap.size) W) M w' cs T ∧ Whole M T ∧ entsT M T = putL y.key ⟨fillT 0 sz, []⟩ E ∧ Below W.heap.size W w') := fun W hW => (tPut_whole (hnl.below hW) hw y.key (fillT 0 sz) hyk (by rw [fillT_len]; exact hsz4)).mono fun e w' h => by
        unfold PutTo at h
        rw [hT, hE] at h
        exact h
      have CV : ∀ W, Calls Try.prog 50 #[.int .i64 (sz : Int)] W (fun e w' => e = .returned (.string (strOf (fillT 0 sz))) ∧ Below W.heap.size W w') := fun W => value16_any sz hsz4 W
      have hGB : ∀ W, Below wr.heap.size wr W → ∀ x, Fr (fun x => w3.heap.size + 1 ≤ x ∧ x < wr.heap.size) W x → w3.heap.size + 1 ≤ x := fun W hW x h => fr_le (fun b h => h.1) (by omega) hW.size h
      have hBB : w3.heap.size < w3.heap.size + 1 := Nat.lt_succ_self _
      have f0 := hx.cell 0 0 rfl rfl
      have f1 := hx.cell 0 1 rfl rfl
      have f2 := hx.cell 0 2 rfl rfl
      have f3 := hx.cell 0 3 rfl rfl
      have f4 := hx.cell 0 4 rfl rfl
      have HXB := Lib.hid hx
      have HBW := Lib.hid hb
      have HEE := Lib.hid hE
      have HTT := Lib.hid hT
      have HWN := Lib.hid hw
      have hA0 : AgreeF (fun x => x ≠ w3.heap.size) wr wr.drew := AgreeF.refl _
      clear hx hn hnl hw hb hE hT hyk hy c0 c1
      go_upto_region 11 with (fail)
      refine wp_region_noPanic ?_
      refine wp_region_held_drew (S := (fun W => AgreeF (fun x => x ≠ w3.heap.size) wr W)) (by kernel_rfl) (by (repeat (with_reducible first | assumption | exact AgreeF.refl _ | apply AgreeF.al | apply AgreeF.dr | apply AgreeF.st))) (fun hHeld => ?_)
      refine wpAnyH_take (i := 1) (oi := { dst := some 37, op := Op.move (Operand.tmp 0), type := 86, pos := "law.go:207", after := #[], guard := none }) (v := ?_) rfl (by kernel_rfl) (by kernel_rfl) (by kernel_rfl) (fun _ _ _ h => h) (Or.inl ⟨by rfl, ?_⟩) (by assumption) ?_
      rotate_left
      · (intro W hW; (try dsimp only at hW); go_simp <;> (with_reducible rfl))
      try simp only [Act.put, List.setIfInBounds_toArray, List.set_cons_zero, List.set_cons_succ]
      refine wpAnyH_take (i := 2) (oi := { dst := some 38, op := Op.move (Operand.tmp 8), type := 3, pos := "law.go:207", after := #[], guard := none }) (v := ?_) rfl (by kernel_rfl) (by kernel_rfl) (by kernel_rfl) (fun _ _ _ h => h) (Or.inl ⟨by rfl, ?_⟩) (by assumption) ?_
      rotate_left
      · (intro W hW; (try dsimp only at hW); go_simp <;> (with_reducible rfl))
      try simp only [Act.put, List.setIfInBounds_toArray, List.set_cons_zero, List.set_cons_succ]
      refine wpAnyH_take (i := 3) (oi := { dst := some 39, op := Op.indexAddr 86 (Operand.tmp 37) (Operand.tmp 38), type := 0, pos := "law.go:207", after := #[{ on := 1, ground := Ground.data }, { on := 2, ground := Ground.data }], guard := none }) (v := ?_) rfl (by kernel_rfl) (by kernel_rfl) (by kernel_rfl) (fun _ _ _ h => h) (Or.inl ⟨by rfl, ?_⟩) (by assumption) ?_
      rotate_left
      · (intro W hW; (try dsimp only at hW); go_simp <;> (with_reducible rfl))
      try simp only [Act.put, List.setIfInBounds_toArray, List.set_cons_zero, List.set_cons_succ]
      refine wpAnyH_take (i := 4) (oi := { dst := some 40, op := Op.fieldAddr 89 (Operand.tmp 39) 0, type := 0, pos := "law.go:207", after := #[{ on := 3, ground := Ground.data }], guard := none }) (v := ?_) rfl (by kernel_rfl) (by kernel_rfl) (by kernel_rfl) (fun _ _ _ h => h) (Or.inl ⟨by rfl, ?_⟩) (by assumption) ?_
      rotate_left
      · (intro W hW; (try dsimp only at hW); go_simp <;> (with_reducible rfl))
      try simp only [Act.put, List.setIfInBounds_toArray, List.set_cons_zero, List.set_cons_succ]
      refine wpAnyH_take (i := 5) (oi := { dst := some 41, op := Op.load 9 (Operand.tmp 40), type := 9, pos := "law.go:207", after := #[{ on := 4, ground := Ground.data }], guard := none }) (v := ?_) rfl (by kernel_rfl) (by kernel_rfl) (by kernel_rfl) (fun _ _ _ h => h) (Or.inl ⟨by rfl, ?_⟩) (by assumption) ?_
      rotate_left
      · (intro W hW; (try dsimp only at hW); go_simp <;> (with_reducible rfl))
      try simp only [Act.put, List.setIfInBounds_toArray, List.set_cons_zero, List.set_cons_succ]
      refine wpAnyH_take (i := 6) (oi := { dst := some 42, op := Op.move (Operand.tmp 0), type := 86, pos := "law.go:207", after := #[], guard := none }) (v := ?_) rfl (by kernel_rfl) (by kernel_rfl) (by kernel_rfl) (fun _ _ _ h => h) (Or.inl ⟨by rfl, ?_⟩) (by assumption) ?_
      rotate_left
      · (intro W hW; (try dsimp only at hW); go_simp <;> (with_reducible rfl))
      try simp only [Act.put, List.setIfInBounds_toArray, List.set_cons_zero, List.set_cons_succ]
      refine wpAnyH_take (i := 7) (oi := { dst := some 43, op := Op.move (Operand.tmp 8), type := 3, pos := "law.go:207", after := #[], guard := none }) (v := ?_) rfl (by kernel_rfl) (by kernel_rfl) (by kernel_rfl) (fun _ _ _ h => h) (Or.inl ⟨by rfl, ?_⟩) (by assumption) ?_
      rotate_left
      · (intro W hW; (try dsimp only at hW); go_simp <;> (with_reducible rfl))
      try simp only [Act.put, List.setIfInBounds_toArray, List.set_cons_zero, List.set_cons_succ]
      refine wpAnyH_take (i := 8) (oi := { dst := some 44, op := Op.indexAddr 86 (Operand.tmp 42) (Operand.tmp 43), type := 0, pos := "law.go:207", after := #[{ on := 6, ground := Ground.data }, { on := 7, ground := Ground.data }], guard := none }) (v := ?_) rfl (by kernel_rfl) (by kernel_rfl) (by kernel_rfl) (fun _ _ _ h => h) (Or.inl ⟨by rfl, ?_⟩) (by assumption) ?_
      rotate_left
      · (intro W hW; (try dsimp only at hW); go_simp <;> (with_reducible rfl))
      try simp only [Act.put, List.setIfInBounds_toArray, List.set_cons_zero, List.set_cons_succ]
      refine wpAnyH_take (i := 9) (oi := { dst := some 45, op := Op.fieldAddr 89 (Operand.tmp 44) 1, type := 0, pos := "law.go:207", after := #[{ on := 8, ground := Ground.data }], guard := none }) (v := ?_) rfl (by kernel_rfl) (by kernel_rfl) (by kernel_rfl) (fun _ _ _ h => h) (Or.inl ⟨by rfl, ?_⟩) (by assumption) ?_
      rotate_left
      · (intro W hW; (try dsimp only at hW); go_simp <;> (with_reducible rfl))
      try simp only [Act.put, List.setIfInBounds_toArray, List.set_cons_zero, List.set_cons_succ]
      refine wpAnyH_take (i := 10) (oi := { dst := some 46, op := Op.load 3 (Operand.tmp 45), type := 3, pos := "law.go:207", after := #[{ on := 9, ground := Ground.data }], guard := none }) (v := ?_) rfl (by kernel_rfl) (by kernel_rfl) (by kernel_rfl) (fun _ _ _ h => h) (Or.inl ⟨by rfl, ?_⟩) (by assumption) ?_
      rotate_left
      · (intro W hW; (try dsimp only at hW); go_simp <;> (with_reducible rfl))
      try simp only [Act.put, List.setIfInBounds_toArray, List.set_cons_zero, List.set_cons_succ]
      refine wpAnyH_take (i := 11) (oi := { dst := some 47, op := Op.call { callee := Callee.builtin Builtin.max, args := #[Operand.tmp 46, Operand.const (Value.int IntKind.i64 0)], argTypes := #[3, 3] }, type := 3, pos := "law.go:207", after := #[{ on := 10, ground := Ground.data }], guard := none }) (v := ?_) rfl (by kernel_rfl) (by kernel_rfl) (by kernel_rfl) (fun _ _ _ h => h) (Or.inl ⟨by rfl, ?_⟩) (by assumption) ?_
      rotate_left
      · (intro W hW; (try dsimp only at hW); go_simp <;> (with_reducible rfl))
      try simp only [Act.put, List.setIfInBounds_toArray, List.set_cons_zero, List.set_cons_succ]
      refine wpAnyH_ready (rs := [0, 12]) (by kernel_rfl) (by simp) (AllReadyH.cons (o := { dst := some 36, op := Op.load 33 (Operand.tmp 7), type := 33, pos := "law.go:207", after := #[], guard := none }) rfl (fun K hK => ?_) (AllReadyH.cons (o := { dst := some 48, op := Op.call { callee := Callee.value (Operand.func 50), args := #[Operand.tmp 47], argTypes := #[3] }, type := 9, pos := "law.go:207", after := #[{ on := 11, ground := Ground.data }], guard := none }) rfl (fun K hK => ?_) AllReadyH.nil))
      · (rw [if_pos (by rfl)]; go_wp2_with (fail))
        refine hK.out _ _ (by (repeat (with_reducible first | assumption | exact AgreeF.refl _ | apply AgreeF.al | apply AgreeF.dr | apply AgreeF.st))) (fun hHeld => ?_)
        clear hK K
        try simp only [Act.put, List.setIfInBounds_toArray, List.set_cons_zero, List.set_cons_succ]
        refine wpAnyH_ready (rs := [12]) (by kernel_rfl) (by simp) (AllReadyH.cons (o := { dst := some 48, op := Op.call { callee := Callee.value (Operand.func 50), args := #[Operand.tmp 47], argTypes := #[3] }, type := 9, pos := "law.go:207", after := #[{ on := 11, ground := Ground.data }], guard := none }) rfl (fun K hK => ?_) AllReadyH.nil)
        (rw [if_pos (by rfl)]; go_wp2_with (go_at_call 50; (with_reducible refine (CV _).mono ?_); rintro e w6 ⟨rfl, hb6⟩; have hB6 : Below wr.heap.size wr w6 := below_via (by (repeat (with_reducible first | assumption | exact Below.refl _ _ | apply Below.al | apply Below.dr))) hb6; have hA6 : AgreeF (fun x => x ≠ w3.heap.size) wr w6 := AgreeF.of_below hB6; have hx6 := HXB.out.step hB6; have m0 := hx6.cell 0 0 rfl rfl; have m1 := hx6.cell 0 1 rfl rfl; have m2 := hx6.cell 0 2 rfl rfl; have m3 := hx6.cell 0 3 rfl rfl; have m4 := hx6.cell 0 4 rfl rfl))
        refine hK.out _ _ (by (repeat (with_reducible first | assumption | exact AgreeF.refl _ | apply AgreeF.al | apply AgreeF.dr | apply AgreeF.st))) (fun hHeld => ?_)
        clear hK K
        try simp only [Act.put, List.setIfInBounds_toArray, List.set_cons_zero, List.set_cons_succ]
        refine wpAnyH_ready (rs := [13]) (by kernel_rfl) (by simp) (AllReadyH.cons (o := { dst := some 49, op := Op.call { callee := Callee.value (Operand.func 33), args := #[Operand.tmp 36, Operand.tmp 41, Operand.tmp 48], argTypes := #[33, 9, 9] }, type := 33, pos := "law.go:207", after := #[{ on := 0, ground := Ground.data }, { on := 5, ground := Ground.data }, { on := 12, ground := Ground.data }, { on := 12, ground := Ground.chain }], guard := none }) rfl (fun K hK => ?_) AllReadyH.nil)
        (rw [if_pos (by rfl)]; go_wp2_with (go_at_call 33; (with_reducible refine (CP _ ?_).mono ?_); (focus (repeat (with_reducible first | assumption | exact Below.refl _ _ | apply Below.al | apply Below.dr))); rintro e w9 hq9; obtain ⟨M, cs9, hM9, rfl, hn9, hw9, hE9, hb9⟩ := hq9; obtain ⟨j1, j2, j3, j4, j5, j6, j7, j8, ecs9, _, _⟩ := hn9.words; subst ecs9; have HE9 := Lib.hid hE9; clear hE9; have hB9 : Below wr.heap.size wr w9 := below_via (by (repeat (with_reducible first | assumption | exact Below.refl _ _ | apply Below.al | apply Below.dr))) hb9; have hA9 : AgreeF (fun x => x ≠ w3.heap.size) wr w9 := AgreeF.of_below hB9; have hx9 := HXB.out.step hB9; have z0 := hx9.cell 0 0 rfl rfl; have u0 := hx9.frozen 0 0 rfl; have z1 := hx9.cell 0 1 rfl rfl; have u1 := hx9.frozen 0 1 rfl; have z2 := hx9.cell 0 2 rfl rfl; have u2 := hx9.frozen 0 2 rfl; have z3 := hx9.cell 0 3 rfl rfl; have u3 := hx9.frozen 0 3 rfl; have z4 := hx9.cell 0 4 rfl rfl; have u4 := hx9.frozen 0 4 rfl))
        refine hK.out _ _ (by (repeat (with_reducible first | assumption | exact AgreeF.refl _ | apply AgreeF.al | apply AgreeF.dr | apply AgreeF.st))) (fun hHeld => ?_)
        clear hK K
        try simp only [Act.put, List.setIfInBounds_toArray, List.set_cons_zero, List.set_cons_succ]
        refine wpAnyH_ready (rs := [14]) (by kernel_rfl) (by simp) (AllReadyH.cons (o := { dst := none, op := Op.store 33 (Operand.tmp 7) (Operand.tmp 49), type := 0, pos := "law.go:207", after := #[{ on := 13, ground := Ground.data }, { on := 13, ground := Ground.chain }, { on := 0, ground := Ground.phase }, { on := 1, ground := Ground.phase }, { on := 2, ground := Ground.phase }, { on := 3, ground := Ground.phase }, { on := 4, ground := Ground.phase }, { on := 5, ground := Ground.phase }, { on := 6, ground := Ground.phase }, { on := 7, ground := Ground.phase }, { on := 8, ground := Ground.phase }, { on := 9, ground := Ground.phase }, { on := 10, ground := Ground.phase }, { on := 11, ground := Ground.phase }, { on := 12, ground := Ground.phase }, { on := 13, ground := Ground.phase }], guard := none }) rfl (fun K hK => ?_) AllReadyH.nil)
        (rw [if_pos (by rfl)]; go_wp2_with (fail))
        refine hK.out _ _ (by (repeat (with_reducible first | assumption | exact AgreeF.refl _ | apply AgreeF.al | apply AgreeF.dr | apply AgreeF.st))) (fun hHeld => ?_)
        clear hK K
        try simp only [Act.put, List.setIfInBounds_toArray, List.set_cons_zero, List.set_cons_succ]
        refine wpAnyH_done (by kernel_rfl) ?_ _
        refine NoPanic.normal ?_
        have hA := PutStay.mk (B := w3.heap.size + 1) (w := w) (wr := wr) hx9 hn9 (hGB _ (by (repeat (with_reducible first | assumption | exact Below.refl _ _ | apply Below.al | apply Below.dr)))) hBB hw9 hM9 HE9.out hA9 (HBW.out.trans (hB9.mono HBW.out.size)) hle
        unfold set5 at hA
        have HA := Lib.hid hA
        clear hA hx9 hn9 hA9 hB9 hb9
        go_wp2_with fail
        go_roundw
        case rel => obtain ⟨M9, h1, h2, h3, h4, h5⟩ := HA.out; exact ⟨k + 1, M9, T, hlk, by go_num, h1, by omega, put_some (by rw [h3, HEE.out]) hen HWN.out.srt, h5⟩
        case measure => simp [intOf]; omega
      · (rw [if_pos (by rfl)]; go_wp2_with (go_at_call 50; (with_reducible refine (CV _).mono ?_); rintro e w6 ⟨rfl, hb6⟩; have hB6 : Below wr.heap.size wr w6 := below_via (by (repeat (with_reducible first | assumption | exact Below.refl _ _ | apply Below.al | apply Below.dr))) hb6; have hA6 : AgreeF (fun x => x ≠ w3.heap.size) wr w6 := AgreeF.of_below hB6; have hx6 := HXB.out.step hB6; have m0 := hx6.cell 0 0 rfl rfl; have m1 := hx6.cell 0 1 rfl rfl; have m2 := hx6.cell 0 2 rfl rfl; have m3 := hx6.cell 0 3 rfl rfl; have m4 := hx6.cell 0 4 rfl rfl))
        refine hK.out _ _ (by (repeat (with_reducible first | assumption | exact AgreeF.refl _ | apply AgreeF.al | apply AgreeF.dr | apply AgreeF.st))) (fun hHeld => ?_)
        clear hK K
        try simp only [Act.put, List.setIfInBounds_toArray, List.set_cons_zero, List.set_cons_succ]
        refine wpAnyH_ready (rs := [0]) (by kernel_rfl) (by simp) (AllReadyH.cons (o := { dst := some 36, op := Op.load 33 (Operand.tmp 7), type := 33, pos := "law.go:207", after := #[], guard := none }) rfl (fun K hK => ?_) AllReadyH.nil)
        (rw [if_pos (by rfl)]; go_wp2_with (fail))
        refine hK.out _ _ (by (repeat (with_reducible first | assumption | exact AgreeF.refl _ | apply AgreeF.al | apply AgreeF.dr | apply AgreeF.st))) (fun hHeld => ?_)
        clear hK K
        try simp only [Act.put, List.setIfInBounds_toArray, List.set_cons_zero, List.set_cons_succ]
        refine wpAnyH_ready (rs := [13]) (by kernel_rfl) (by simp) (AllReadyH.cons (o := { dst := some 49, op := Op.call { callee := Callee.value (Operand.func 33), args := #[Operand.tmp 36, Operand.tmp 41, Operand.tmp 48], argTypes := #[33, 9, 9] }, type := 33, pos := "law.go:207", after := #[{ on := 0, ground := Ground.data }, { on := 5, ground := Ground.data }, { on := 12, ground := Ground.data }, { on := 12, ground := Ground.chain }], guard := none }) rfl (fun K hK => ?_) AllReadyH.nil)
        (rw [if_pos (by rfl)]; go_wp2_with (go_at_call 33; (with_reducible refine (CP _ ?_).mono ?_); (focus (repeat (with_reducible first | assumption | exact Below.refl _ _ | apply Below.al | apply Below.dr))); rintro e w9 hq9; obtain ⟨M, cs9, hM9, rfl, hn9, hw9, hE9, hb9⟩ := hq9; obtain ⟨j1, j2, j3, j4, j5, j6, j7, j8, ecs9, _, _⟩ := hn9.words; subst ecs9; have HE9 := Lib.hid hE9; clear hE9; have hB9 : Below wr.heap.size wr w9 := below_via (by (repeat (with_reducible first | assumption | exact Below.refl _ _ | apply Below.al | apply Below.dr))) hb9; have hA9 : AgreeF (fun x => x ≠ w3.heap.size) wr w9 := AgreeF.of_below hB9; have hx9 := HXB.out.step hB9; have z0 := hx9.cell 0 0 rfl rfl; have u0 := hx9.frozen 0 0 rfl; have z1 := hx9.cell 0 1 rfl rfl; have u1 := hx9.frozen 0 1 rfl; have z2 := hx9.cell 0 2 rfl rfl; have u2 := hx9.frozen 0 2 rfl; have z3 := hx9.cell 0 3 rfl rfl; have u3 := hx9.frozen 0 3 rfl; have z4 := hx9.cell 0 4 rfl rfl; have u4 := hx9.frozen 0 4 rfl))
        refine hK.out _ _ (by (repeat (with_reducible first | assumption | exact AgreeF.refl _ | apply AgreeF.al | apply AgreeF.dr | apply AgreeF.st))) (fun hHeld => ?_)
        clear hK K
        try simp only [Act.put, List.setIfInBounds_toArray, List.set_cons_zero, List.set_cons_succ]
        refine wpAnyH_ready (rs := [14]) (by kernel_rfl) (by simp) (AllReadyH.cons (o := { dst := none, op := Op.store 33 (Operand.tmp 7) (Operand.tmp 49), type := 0, pos := "law.go:207", after := #[{ on := 13, ground := Ground.data }, { on := 13, ground := Ground.chain }, { on := 0, ground := Ground.phase }, { on := 1, ground := Ground.phase }, { on := 2, ground := Ground.phase }, { on := 3, ground := Ground.phase }, { on := 4, ground := Ground.phase }, { on := 5, ground := Ground.phase }, { on := 6, ground := Ground.phase }, { on := 7, ground := Ground.phase }, { on := 8, ground := Ground.phase }, { on := 9, ground := Ground.phase }, { on := 10, ground := Ground.phase }, { on := 11, ground := Ground.phase }, { on := 12, ground := Ground.phase }, { on := 13, ground := Ground.phase }], guard := none }) rfl (fun K hK => ?_) AllReadyH.nil)
        (rw [if_pos (by rfl)]; go_wp2_with (fail))
        refine hK.out _ _ (by (repeat (with_reducible first | assumption | exact AgreeF.refl _ | apply AgreeF.al | apply AgreeF.dr | apply AgreeF.st))) (fun hHeld => ?_)
        clear hK K
        try simp only [Act.put, List.setIfInBounds_toArray, List.set_cons_zero, List.set_cons_succ]
        refine wpAnyH_done (by kernel_rfl) ?_ _
        refine NoPanic.normal ?_
        have hA := PutStay.mk (B := w3.heap.size + 1) (w := w) (wr := wr) hx9 hn9 (hGB _ (by (repeat (with_reducible first | assumption | exact Below.refl _ _ | apply Below.al | apply Below.dr)))) hBB hw9 hM9 HE9.out hA9 (HBW.out.trans (hB9.mono HBW.out.size)) hle
        unfold set5 at hA
        have HA := Lib.hid hA
        clear hA hx9 hn9 hA9 hB9 hb9
        go_wp2_with fail
        go_roundw
        case rel => obtain ⟨M9, h1, h2, h3, h4, h5⟩ := HA.out; exact ⟨k + 1, M9, T, hlk, by go_num, h1, by omega, put_some (by rw [h3, HEE.out]) hen HWN.out.srt, h5⟩
        case measure => simp [intOf]; omega
  case rest =>
  obtain ⟨N, t, hbox, hN, hen, hb⟩ := hcut
  obtain ⟨p, lf, a1, n1, c1, a2, n2, c2, a3, n3, c3, hx, hn, hw⟩ := hbox
  obtain ⟨E, hE⟩ : ∃ E, entsT N t = E := ⟨_, rfl⟩
  obtain ⟨r, hr⟩ : ∃ r, lookT E key = r := ⟨_, rfl⟩
  obtain ⟨o, hro⟩ : ∃ o, r.isSome = o := ⟨_, rfl⟩
  have CF := tfind_any hn.toIn key (hw.find key)
  rw [whole_find hw, hE, hr] at CF
  unfold FoundPost at CF
  rw [hro] at CF
  have hn := hn.lt
  have HX := Lib.hid hx
  have HN := Lib.hid hn
  have HW := Lib.hid hw
  have HE := Lib.hid hE
  have HB := Lib.hid hb
  have HR := Lib.hid hr
  have HRO := Lib.hid hro
  have f0 := hx.cell 0 0 rfl rfl
  have f1 := hx.cell 0 1 rfl rfl
  have f2 := hx.cell 0 2 rfl rfl
  have f3 := hx.cell 0 3 rfl rfl
  have f4 := hx.cell 0 4 rfl rfl
  clear hx hn hw hb hE hen hr hro d2 d2' hsk HBOX HBEL
  go_wp2_with fail
  refine CF.mono ?_
  rintro e w4 ⟨rfl, hb4⟩
  have CD := pdel_any key (HN.out.below hb4) HW.out
  have hx4 := HX.out.step hb4
  clear f0 f1 f2 f3 f4 CF
  have f0 := hx4.cell 0 0 rfl rfl
  have f1 := hx4.cell 0 1 rfl rfl
  have f2 := hx4.cell 0 2 rfl rfl
  have f3 := hx4.cell 0 3 rfl rfl
  have f4 := hx4.cell 0 4 rfl rfl
  have H4 := Lib.hid hb4
  clear hb4 hx4
  go_wp2_with fail
  refine CD.mono ?_
  rintro e w5 ⟨M5, p5, lf5, a51, n51, c51, a52, n52, c52, a53, n53, c53, hM5, rfl, hn5, hw5, hE5, hb5⟩
  rw [HE.out, HR.out, HRO.out]
  rw [HE.out] at hE5
  obtain ⟨T5, hT5⟩ : ∃ x, delW N t key = x := ⟨_, rfl⟩
  rw [hT5] at hn5 hw5 hE5
  have HSAME : Hid (o = false → T5 = t ∧ M5 = N) := Lib.hid (fun ho => by
    have hno : lookT (entsT N t) key = none := by
      rw [HE.out, HR.out]
      have := HRO.out
      rw [ho] at this
      cases r with
      | none => rfl
      | some x => cases this
    rw [delW_same HW.out hno] at hT5
    subst hT5
    exact ⟨rfl, whole_level hw5 HW.out⟩)
  have hba5 : Below w5.heap.size w5 (w5.alloc (.cells #[.int .i64 p5, .bool lf5, .slice a51 n51 c51, .slice a52 n52 c52, .slice a53 n53 c53] 33)) := Below.al (Below.refl _ _)
  have h5 : Below wc.heap.size wc (w5.alloc (.cells #[.int .i64 p5, .bool lf5, .slice a51 n51 c51, .slice a52 n52 c52, .slice a53 n53 c53] 33)) := H4.out.trans ((hb5.trans (hba5.mono hb5.size)).mono H4.out.size)
  have CW := without_any (ks := []) (HN.out.below h5) HW.out (TabR.nil (w := (w5.alloc (.cells #[.int .i64 p5, .bool lf5, .slice a51 n51 c51, .slice a52 n52 c52, .slice a53 n53 c53] 33)))) (by simp)
  have hx5 := HX.out.step h5
  have HX5 := Lib.hid ((Boxes.nil w5).alloc #[.int .i64 p5, .bool lf5, .slice a51 n51 c51, .slice a52 n52 c52, .slice a53 n53 c53] 33 (b := w5.heap.size) rfl)
  have HN5 := Lib.hid (hn5.below hba5).lt
  have HW5 := Lib.hid hw5
  have HE5 := Lib.hid hE5
  have H5 := Lib.hid h5
  clear f0 f1 f2 f3 f4
  have f0 := hx5.cell 0 0 rfl rfl
  have f1 := hx5.cell 0 1 rfl rfl
  have f2 := hx5.cell 0 2 rfl rfl
  have f3 := hx5.cell 0 3 rfl rfl
  have f4 := hx5.cell 0 4 rfl rfl
  clear hn5 hw5 hE5 hb5 hba5 h5 hx5 CD hT5
  go_wp2_with fail
  refine CW.mono ?_
  rintro e w6 ⟨M6, T6, p6, lf6, a61, n61, c61, a62, n62, c62, a63, n63, c63, hM6, rfl, hn6, hw6, hE6, hs6, hb6⟩
  obtain ⟨rfl, rfl⟩ := hs6 (fun k hk => by cases hk)
  have hba6 : Below w6.heap.size w6 (w6.alloc (.cells #[.int .i64 p6, .bool lf6, .slice a61 n61 c61, .slice a62 n62 c62, .slice a63 n63 c63] 33)) := Below.al (Below.refl _ _)
  have h56 : Below (w5.alloc (.cells #[.int .i64 p5, .bool lf5, .slice a51 n51 c51, .slice a52 n52 c52, .slice a53 n53 c53] 33)).heap.size (w5.alloc (.cells #[.int .i64 p5, .bool lf5, .slice a51 n51 c51, .slice a52 n52 c52, .slice a53 n53 c53] 33)) (w6.alloc (.cells #[.int .i64 p6, .bool lf6, .slice a61 n61 c61, .slice a62 n62 c62, .slice a63 n63 c63] 33)) := hb6.trans (hba6.mono hb6.size)
  have h6 : Below wc.heap.size wc (w6.alloc (.cells #[.int .i64 p6, .bool lf6, .slice a61 n61 c61, .slice a62 n62 c62, .slice a63 n63 c63] 33)) := H5.out.trans (h56.mono H5.out.size)
  have hal : Below (w6.alloc (.cells #[.int .i64 p6, .bool lf6, .slice a61 n61 c61, .slice a62 n62 c62, .slice a63 n63 c63] 33)).heap.size (w6.alloc (.cells #[.int .i64 p6, .bool lf6, .slice a61 n61 c61, .slice a62 n62 c62, .slice a63 n63 c63] 33)) ((w6.alloc (.cells #[.int .i64 p6, .bool lf6, .slice a61 n61 c61, .slice a62 n62 c62, .slice a63 n63 c63] 33)).alloc (.cells #[.string (strOf key), .string (strOf key)] 9)) := Below.al (Below.refl _ _)
  have hKM : KeysIn ((w6.alloc (.cells #[.int .i64 p6, .bool lf6, .slice a61 n61 c61, .slice a62 n62 c62, .slice a63 n63 c63] 33)).alloc (.cells #[.string (strOf key), .string (strOf key)] 9)) (some ⟨w6.heap.size + 1, 0, none⟩) 2 2 [key, key] := by
    have := keys_made (w6.alloc (.cells #[.int .i64 p6, .bool lf6, .slice a61 n61 c61, .slice a62 n62 c62, .slice a63 n63 c63] 33)) 9 [key, key] (by simp)
    rw [World.size_alloc] at this
    exact this
  have CW := without_any (HN5.out.below (below_via h56 hal)) HW5.out hKM (by simp)
  have hx6 := HX5.out.step (below_via h56 hal)
  have hx6' := HX5.out.step h56
  have HX6 := Lib.hid ((Boxes.nil w6).alloc #[.int .i64 p6, .bool lf6, .slice a61 n61 c61, .slice a62 n62 c62, .slice a63 n63 c63] 33 (b := w6.heap.size) rfl)
  have HX5 := Lib.hid (HX5.out.step h56)
  have HN5 := Lib.hid (HN5.out.below h56).lt
  have HN6 := Lib.hid (hn6.below hba6).lt
  have H6 := Lib.hid h6
  have HAL := Lib.hid hal
  have hh0 : hitsL [] E = 0 := rfl
  rw [HE.out, hh0]
  clear f0 f1 f2 f3 f4
  have f0 := hx6.cell 0 0 rfl rfl
  have f1 := hx6.cell 0 1 rfl rfl
  have f2 := hx6.cell 0 2 rfl rfl
  have f3 := hx6.cell 0 3 rfl rfl
  have f4 := hx6.cell 0 4 rfl rfl
  have g0 := hx6'.cell 0 0 rfl rfl
  have g1 := hx6'.cell 0 1 rfl rfl
  have g2 := hx6'.cell 0 2 rfl rfl
  have g3 := hx6'.cell 0 3 rfl rfl
  have g4 := hx6'.cell 0 4 rfl rfl
  clear hn6 hw6 hE6 hb6 hba6 h56 h6 hx6 hx6' hs6 hal hKM
  go_wp2_with fail
  refine CW.mono ?_
  rintro e w7 ⟨M7, T7, p7, lf7, a71, n71, c71, a72, n72, c72, a73, n73, c73, hM7, rfl, hn7, hw7, hE7, hs7, hb7⟩
  obtain ⟨rfl, rfl⟩ := hs7 (fun k hk => by
    have hk : k = key := by simpa using hk
    rw [hk, HE5.out]
    exact look_del key)
  have hh0 : hitsL [key, key] (entsT M7 T7) = 0 := by
    rw [HE5.out]
    have h1 : lookT (delL key E) key = none := look_del key
    have h2 : lookT (delL key (delL key E)) key = none := look_del key
    simp [hitsL, h1, h2]
  rw [hh0]
  have hba7 : Below w7.heap.size w7 (w7.alloc (.cells #[.int .i64 p7, .bool lf7, .slice a71 n71 c71, .slice a72 n72 c72, .slice a73 n73 c73] 33)) := Below.al (Below.refl _ _)
  have h67 : Below (w6.alloc (.cells #[.int .i64 p6, .bool lf6, .slice a61 n61 c61, .slice a62 n62 c62, .slice a63 n63 c63] 33)).heap.size (w6.alloc (.cells #[.int .i64 p6, .bool lf6, .slice a61 n61 c61, .slice a62 n62 c62, .slice a63 n63 c63] 33)) (w7.alloc (.cells #[.int .i64 p7, .bool lf7, .slice a71 n71 c71, .slice a72 n72 c72, .slice a73 n73 c73] 33)) := below_via HAL.out (hb7.trans (hba7.mono hb7.size))
  have h7 : Below wc.heap.size wc (w7.alloc (.cells #[.int .i64 p7, .bool lf7, .slice a71 n71 c71, .slice a72 n72 c72, .slice a73 n73 c73] 33)) := H6.out.trans (h67.mono H6.out.size)
  have HX7 := Lib.hid ((Boxes.nil w7).alloc #[.int .i64 p7, .bool lf7, .slice a71 n71 c71, .slice a72 n72 c72, .slice a73 n73 c73] 33 (b := w7.heap.size) rfl)
  have HX6 := Lib.hid (HX6.out.step h67)
  have HX5 := Lib.hid (HX5.out.step h67)
  have HN7 := Lib.hid (hn7.below hba7)
  have HN6 := Lib.hid (HN6.out.below h67)
  have HN5 := Lib.hid (HN5.out.below h67)
  have HX := Lib.hid (HX.out.step h7)
  have HN := Lib.hid (HN.out.below h7)
  have HB := Lib.hid (HB.out.trans (h7.mono HB.out.size))
  clear f0 f1 f2 f3 f4 g0 g1 g2 g3 g4 hn7 hw7 hE7 hb7 hba7 h67 h7 hs7 CW hh0 hN hM5 hM6 hM7
  go_upto_region 16 with (fail)
  obtain ⟨WA, hWA⟩ : ∃ x, x = (w7.alloc (.cells #[.int .i64 p7, .bool lf7, .slice a71 n71 c71, .slice a72 n72 c72, .slice a73 n73 c73] 33)) := ⟨_, rfl⟩
  rw [← hWA] at HX7 HX6 HX5 HN7 HN6 HN5 HX HN HB ⊢
  clear hWA
  have f0 : ∀ W, Below WA.heap.size WA W → W.cell? ⟨w3.heap.size, 0, none⟩ = some (.int .i64 p) := fun W hW => (HX.out.step hW).cell 0 0 rfl rfl
  have f1 : ∀ W, Below WA.heap.size WA W → W.cell? ⟨w3.heap.size, 1, none⟩ = some (.bool lf) := fun W hW => (HX.out.step hW).cell 0 1 rfl rfl
  have f2 : ∀ W, Below WA.heap.size WA W → W.cell? ⟨w3.heap.size, 2, none⟩ = some (.slice a1 n1 c1) := fun W hW => (HX.out.step hW).cell 0 2 rfl rfl
  have f3 : ∀ W, Below WA.heap.size WA W → W.cell? ⟨w3.heap.size, 3, none⟩ = some (.slice a2 n2 c2) := fun W hW => (HX.out.step hW).cell 0 3 rfl rfl
  have f4 : ∀ W, Below WA.heap.size WA W → W.cell? ⟨w3.heap.size, 4, none⟩ = some (.slice a3 n3 c3) := fun W hW => (HX.out.step hW).cell 0 4 rfl rfl
  have g0 : ∀ W, Below WA.heap.size WA W → W.cell? ⟨w5.heap.size, 0, none⟩ = some (.int .i64 p5) := fun W hW => (HX5.out.step hW).cell 0 0 rfl rfl
  have g1 : ∀ W, Below WA.heap.size WA W → W.cell? ⟨w5.heap.size, 1, none⟩ = some (.bool lf5) := fun W hW => (HX5.out.step hW).cell 0 1 rfl rfl
  have g2 : ∀ W, Below WA.heap.size WA W → W.cell? ⟨w5.heap.size, 2, none⟩ = some (.slice a51 n51 c51) := fun W hW => (HX5.out.step hW).cell 0 2 rfl rfl
  have g3 : ∀ W, Below WA.heap.size WA W → W.cell? ⟨w5.heap.size, 3, none⟩ = some (.slice a52 n52 c52) := fun W hW => (HX5.out.step hW).cell 0 3 rfl rfl
  have g4 : ∀ W, Below WA.heap.size WA W → W.cell? ⟨w5.heap.size, 4, none⟩ = some (.slice a53 n53 c53) := fun W hW => (HX5.out.step hW).cell 0 4 rfl rfl
  have i0 : ∀ W, Below WA.heap.size WA W → W.cell? ⟨w6.heap.size, 0, none⟩ = some (.int .i64 p6) := fun W hW => (HX6.out.step hW).cell 0 0 rfl rfl
  have i1 : ∀ W, Below WA.heap.size WA W → W.cell? ⟨w6.heap.size, 1, none⟩ = some (.bool lf6) := fun W hW => (HX6.out.step hW).cell 0 1 rfl rfl
  have i2 : ∀ W, Below WA.heap.size WA W → W.cell? ⟨w6.heap.size, 2, none⟩ = some (.slice a61 n61 c61) := fun W hW => (HX6.out.step hW).cell 0 2 rfl rfl
  have i3 : ∀ W, Below WA.heap.size WA W → W.cell? ⟨w6.heap.size, 3, none⟩ = some (.slice a62 n62 c62) := fun W hW => (HX6.out.step hW).cell 0 3 rfl rfl
  have i4 : ∀ W, Below WA.heap.size WA W → W.cell? ⟨w6.heap.size, 4, none⟩ = some (.slice a63 n63 c63) := fun W hW => (HX6.out.step hW).cell 0 4 rfl rfl
  have j0 : ∀ W, Below WA.heap.size WA W → W.cell? ⟨w7.heap.size, 0, none⟩ = some (.int .i64 p7) := fun W hW => (HX7.out.step hW).cell 0 0 rfl rfl
  have j1 : ∀ W, Below WA.heap.size WA W → W.cell? ⟨w7.heap.size, 1, none⟩ = some (.bool lf7) := fun W hW => (HX7.out.step hW).cell 0 1 rfl rfl
  have j2 : ∀ W, Below WA.heap.size WA W → W.cell? ⟨w7.heap.size, 2, none⟩ = some (.slice a71 n71 c71) := fun W hW => (HX7.out.step hW).cell 0 2 rfl rfl
  have j3 : ∀ W, Below WA.heap.size WA W → W.cell? ⟨w7.heap.size, 3, none⟩ = some (.slice a72 n72 c72) := fun W hW => (HX7.out.step hW).cell 0 3 rfl rfl
  have j4 : ∀ W, Below WA.heap.size WA W → W.cell? ⟨w7.heap.size, 4, none⟩ = some (.slice a73 n73 c73) := fun W hW => (HX7.out.step hW).cell 0 4 rfl rfl
  have CPn : ∀ W, Below WA.heap.size WA W → Calls Try.prog 53 #[.agg #[.int .i64 p, .bool lf, .slice a1 n1 c1, .slice a2 n2 c2, .slice a3 n3 c3]] W (fun e w' => ∃ (F : Nat → Prop) (cs : List Value), e = .returned (.agg cs.toArray) ∧ RNodeOn F M6 w' cs T6 ∧ Below W.heap.size W w') := fun W hW => (plain16_any (fun _b hb => hb.2) (HN.out.below hW).lt HW.out.bnd).mono fun e w' h => by
    obtain ⟨cs, h1, h2, h3⟩ := h
    exact ⟨_, cs, h1, h2, h3⟩
  have CPm : ∀ W, Below WA.heap.size WA W → Calls Try.prog 53 #[.agg #[.int .i64 p5, .bool lf5, .slice a51 n51 c51, .slice a52 n52 c52, .slice a53 n53 c53]] W (fun e w' => ∃ (F : Nat → Prop) (cs : List Value), e = .returned (.agg cs.toArray) ∧ RNodeOn F M7 w' cs T7 ∧ Below W.heap.size W w') := fun W hW => (plain16_any (fun _b hb => hb.2) (HN5.out.below hW).lt HW5.out.bnd).mono fun e w' h => by
    obtain ⟨cs, h1, h2, h3⟩ := h
    exact ⟨_, cs, h1, h2, h3⟩
  have CPo : ∀ W, Below WA.heap.size WA W → Calls Try.prog 53 #[.agg #[.int .i64 p6, .bool lf6, .slice a61 n61 c61, .slice a62 n62 c62, .slice a63 n63 c63]] W (fun e w' => ∃ (F : Nat → Prop) (cs : List Value), e = .returned (.agg cs.toArray) ∧ RNodeOn F M6 w' cs T6 ∧ Below W.heap.size W w') := fun W hW => (plain16_any (fun _b hb => hb.2) (HN6.out.below hW).lt HW.out.bnd).mono fun e w' h => by
    obtain ⟨cs, h1, h2, h3⟩ := h
    exact ⟨_, cs, h1, h2, h3⟩
  have CPp : ∀ W, Below WA.heap.size WA W → Calls Try.prog 53 #[.agg #[.int .i64 p7, .bool lf7, .slice a71 n71 c71, .slice a72 n72 c72, .slice a73 n73 c73]] W (fun e w' => ∃ (F : Nat → Prop) (cs : List Value), e = .returned (.agg cs.toArray) ∧ RNodeOn F M7 w' cs T7 ∧ Below W.heap.size W w') := fun W hW => (plain16_any (fun _b hb => hb.2) (HN7.out.below hW).lt HW5.out.bnd).mono fun e w' h => by
    obtain ⟨cs, h1, h2, h3⟩ := h
    exact ⟨_, cs, h1, h2, h3⟩
  have hC0 : Below WA.heap.size WA WA.drew := (Below.refl _ _).drew
  cases o with
  | true =>
    clear HSAME
    refine wp_region_noPanic ?_
    refine wp_region_held_drew (S := (fun W => Below WA.heap.size WA W)) (by kernel_rfl) (by (repeat (with_reducible first | assumption | exact Below.refl _ _ | apply Below.al | apply Below.dr))) (fun hHeld => ?_)
    refine wpAnyH_take (i := 0) (oi := { dst := some 75, op := Op.move (Operand.tmp 12), type := 4, pos := "law.go:213", after := #[], guard := none }) (v := ?_) rfl (by kernel_rfl) (by kernel_rfl) (by kernel_rfl) (fun _ _ _ h => h) (Or.inl ⟨by rfl, ?_⟩) (by assumption) ?_
    rotate_left
    · (intro W hW; (try dsimp only at hW); go_simp <;> (with_reducible rfl))
    try simp only [Act.put, List.setIfInBounds_toArray, List.set_cons_zero, List.set_cons_succ]
    refine wpAnyH_take (i := 1) (oi := { dst := some 76, op := Op.move (Operand.tmp 10), type := 4, pos := "law.go:213", after := #[], guard := none }) (v := ?_) rfl (by kernel_rfl) (by kernel_rfl) (by kernel_rfl) (fun _ _ _ h => h) (Or.inl ⟨by rfl, ?_⟩) (by assumption) ?_
    rotate_left
    · (intro W hW; (try dsimp only at hW); go_simp <;> (with_reducible rfl))
    try simp only [Act.put, List.setIfInBounds_toArray, List.set_cons_zero, List.set_cons_succ]
    refine wpAnyH_take (i := 2) (oi := { dst := some 77, op := Op.binOp BinOp.eql 4 (Operand.tmp 75) (Operand.tmp 76) 4, type := 4, pos := "law.go:213", after := #[{ on := 0, ground := Ground.data }, { on := 1, ground := Ground.data }], guard := none }) (v := ?_) rfl (by kernel_rfl) (by kernel_rfl) (by kernel_rfl) (fun _ _ _ h => h) (Or.inl ⟨by rfl, ?_⟩) (by assumption) ?_
    rotate_left
    · (intro W hW; (try dsimp only at hW); go_simp <;> (with_reducible rfl))
    try simp only [Act.put, List.setIfInBounds_toArray, List.set_cons_zero, List.set_cons_succ]
    refine wpAnyH_take (i := 3) (oi := { dst := some 78, op := Op.move (Operand.tmp 77), type := 4, pos := "law.go:213", after := #[{ on := 2, ground := Ground.data }], guard := none }) (v := ?_) rfl (by kernel_rfl) (by kernel_rfl) (by kernel_rfl) (fun _ _ _ h => h) (Or.inl ⟨by rfl, ?_⟩) (by assumption) ?_
    rotate_left
    · (intro W hW; (try dsimp only at hW); go_simp <;> (with_reducible rfl))
    try simp only [Act.put, List.setIfInBounds_toArray, List.set_cons_zero, List.set_cons_succ]
    refine wpAnyH_take (i := 4) (oi := { dst := some 79, op := Op.load 33 (Operand.tmp 13), type := 33, pos := "law.go:213", after := #[{ on := 3, ground := Ground.guard }], guard := some (3, true) }) (v := ?_) rfl (by kernel_rfl) (by kernel_rfl) (by kernel_rfl) (fun _ _ _ h => h) (Or.inl ⟨by rfl, ?_⟩) (by assumption) ?_
    rotate_left
    · (intro W hW; (try dsimp only at hW); go_simp <;> (with_reducible rfl))
    try simp only [Act.put, List.setIfInBounds_toArray, List.set_cons_zero, List.set_cons_succ]
    refine wpAnyH_take (i := 6) (oi := { dst := some 81, op := Op.load 33 (Operand.tmp 7), type := 33, pos := "law.go:213", after := #[{ on := 3, ground := Ground.guard }], guard := some (3, true) }) (v := ?_) rfl (by kernel_rfl) (by kernel_rfl) (by kernel_rfl) (fun _ _ _ h => h) (Or.inl ⟨by rfl, ?_⟩) (by assumption) ?_
    rotate_left
    · (intro W hW; (try dsimp only at hW); go_simp <;> (with_reducible rfl))
    try simp only [Act.put, List.setIfInBounds_toArray, List.set_cons_zero, List.set_cons_succ]
    refine wpAnyH_ready (rs := [5]) (by kernel_rfl) (by simp) (AllReadyH.cons (o := { dst := some 80, op := Op.call { callee := Callee.value (Operand.func 53), args := #[Operand.tmp 79], argTypes := #[33] }, type := 26, pos := "law.go:213", after := #[{ on := 4, ground := Ground.data }, { on := 3, ground := Ground.chain }, { on := 3, ground := Ground.guard }], guard := some (3, true) }) rfl (fun K hK => ?_) AllReadyH.nil)
    rw [if_pos (by rfl)]
    go_wp2_with ((go_at_call 53; (with_reducible refine (CPo _ ?_).mono ?_); (focus (repeat (with_reducible first | assumption | exact Below.refl _ _ | apply Below.al | apply Below.dr))); rintro e wo ⟨Fo, cso, rfl, hro, hbo⟩; have hBo : Below WA.heap.size WA wo := below_via (by (repeat (with_reducible first | assumption | exact Below.refl _ _ | apply Below.al | apply Below.dr))) hbo))
    refine hK.out _ _ (by (repeat (with_reducible first | assumption | exact Below.refl _ _ | apply Below.al | apply Below.dr))) (fun hHeld => ?_)
    clear hK K
    try simp only [Act.put, List.setIfInBounds_toArray, List.set_cons_zero, List.set_cons_succ]
    refine wpAnyH_ready (rs := [7]) (by kernel_rfl) (by simp) (AllReadyH.cons (o := { dst := some 82, op := Op.call { callee := Callee.value (Operand.func 53), args := #[Operand.tmp 81], argTypes := #[33] }, type := 26, pos := "law.go:213", after := #[{ on := 6, ground := Ground.data }, { on := 5, ground := Ground.chain }, { on := 3, ground := Ground.guard }], guard := some (3, true) }) rfl (fun K hK => ?_) AllReadyH.nil)
    rw [if_pos (by rfl)]
    go_wp2_with ((go_at_call 53; (with_reducible refine (CPn _ ?_).mono ?_); (focus (repeat (with_reducible first | assumption | exact Below.refl _ _ | apply Below.al | apply Below.dr))); rintro e wn ⟨Fn, csn, rfl, hrn, hbn⟩; have hBn : Below WA.heap.size WA wn := below_via (by (repeat (with_reducible first | assumption | exact Below.refl _ _ | apply Below.al | apply Below.dr))) hbn; have hro := RNodeOn.below hro (below_via (by (repeat (with_reducible first | assumption | exact Below.refl _ _ | apply Below.al | apply Below.dr))) hbn)))
    refine hK.out _ _ (by (repeat (with_reducible first | assumption | exact Below.refl _ _ | apply Below.al | apply Below.dr))) (fun hHeld => ?_)
    clear hK K
    try simp only [Act.put, List.setIfInBounds_toArray, List.set_cons_zero, List.set_cons_succ]
    refine wpAnyH_ready (rs := [8]) (by kernel_rfl) (by simp) (AllReadyH.cons (o := { dst := some 83, op := Op.call { callee := Callee.value (Operand.func 36), args := #[Operand.tmp 80, Operand.tmp 82], argTypes := #[26, 26] }, type := 4, pos := "law.go:213", after := #[{ on := 5, ground := Ground.data }, { on := 7, ground := Ground.data }, { on := 7, ground := Ground.chain }, { on := 3, ground := Ground.guard }], guard := some (3, true) }) rfl (fun K hK => ?_) AllReadyH.nil)
    rw [if_pos (by rfl)]
    go_wp2_with ((go_at_call 36; (with_reducible refine (same_any (RNodeOn.below hro ?_) (RNodeOn.below hrn ?_)).mono ?_); (focus (repeat (with_reducible first | assumption | exact Below.refl _ _ | apply Below.al | apply Below.dr))); (focus (repeat (with_reducible first | assumption | exact Below.refl _ _ | apply Below.al | apply Below.dr))); rintro e wS ⟨rfl, hbS⟩; have hBS : Below WA.heap.size WA wS := below_via (by (repeat (with_reducible first | assumption | exact Below.refl _ _ | apply Below.al | apply Below.dr))) hbS))
    refine hK.out _ _ (by (repeat (with_reducible first | assumption | exact Below.refl _ _ | apply Below.al | apply Below.dr))) (fun hHeld => ?_)
    clear hK K
    try simp only [Act.put, List.setIfInBounds_toArray, List.set_cons_zero, List.set_cons_succ]
    refine wpAnyH_take (i := 9) (oi := { dst := some 84, op := Op.pick (Operand.tmp 78) (Operand.tmp 83) (Operand.const (Value.bool false)), type := 4, pos := "law.go:213", after := #[{ on := 3, ground := Ground.data }, { on := 8, ground := Ground.data }], guard := none }) (v := ?_) rfl (by kernel_rfl) (by kernel_rfl) (by kernel_rfl) (fun _ _ _ h => h) (Or.inl ⟨by rfl, ?_⟩) (by assumption) ?_
    rotate_left
    · (intro W hW; (try dsimp only at hW); go_simp <;> (with_reducible rfl))
    try simp only [Act.put, List.setIfInBounds_toArray, List.set_cons_zero, List.set_cons_succ]
    refine wpAnyH_take (i := 10) (oi := { dst := some 85, op := Op.move (Operand.tmp 84), type := 4, pos := "law.go:213", after := #[{ on := 9, ground := Ground.data }, { on := 8, ground := Ground.chain }], guard := none }) (v := ?_) rfl (by kernel_rfl) (by kernel_rfl) (by kernel_rfl) (fun _ _ _ h => h) (Or.inl ⟨by rfl, ?_⟩) (by assumption) ?_
    rotate_left
    · (intro W hW; (try dsimp only at hW); go_simp <;> (with_reducible rfl))
    try simp only [Act.put, List.setIfInBounds_toArray, List.set_cons_zero, List.set_cons_succ]
    refine wpAnyH_take (i := 11) (oi := { dst := some 86, op := Op.move (Operand.tmp 14), type := 3, pos := "law.go:213", after := #[{ on := 10, ground := Ground.guard }], guard := some (10, true) }) (v := ?_) rfl (by kernel_rfl) (by kernel_rfl) (by kernel_rfl) (fun _ _ _ h => h) (Or.inl ⟨by rfl, ?_⟩) (by assumption) ?_
    rotate_left
    · (intro W hW; (try dsimp only at hW); go_simp <;> (with_reducible rfl))
    try simp only [Act.put, List.setIfInBounds_toArray, List.set_cons_zero, List.set_cons_succ]
    refine wpAnyH_take (i := 12) (oi := { dst := some 87, op := Op.binOp BinOp.eql 3 (Operand.tmp 86) (Operand.const (Value.int IntKind.i64 0)) 3, type := 4, pos := "law.go:213", after := #[{ on := 11, ground := Ground.data }, { on := 10, ground := Ground.guard }], guard := some (10, true) }) (v := ?_) rfl (by kernel_rfl) (by kernel_rfl) (by kernel_rfl) (fun _ _ _ h => h) (Or.inl ⟨by rfl, ?_⟩) (by assumption) ?_
    rotate_left
    · (intro W hW; (try dsimp only at hW); go_simp <;> (with_reducible rfl))
    try simp only [Act.put, List.setIfInBounds_toArray, List.set_cons_zero, List.set_cons_succ]
    refine wpAnyH_take (i := 13) (oi := { dst := some 88, op := Op.pick (Operand.tmp 85) (Operand.tmp 87) (Operand.const (Value.bool false)), type := 4, pos := "law.go:213", after := #[{ on := 10, ground := Ground.data }, { on := 12, ground := Ground.data }], guard := none }) (v := ?_) rfl (by kernel_rfl) (by kernel_rfl) (by kernel_rfl) (fun _ _ _ h => h) (Or.inl ⟨by rfl, ?_⟩) (by assumption) ?_
    rotate_left
    · (intro W hW; (try dsimp only at hW); go_simp <;> (with_reducible rfl))
    try simp only [Act.put, List.setIfInBounds_toArray, List.set_cons_zero, List.set_cons_succ]
    refine wpAnyH_take (i := 14) (oi := { dst := some 89, op := Op.move (Operand.tmp 88), type := 4, pos := "law.go:213", after := #[{ on := 13, ground := Ground.data }, { on := 10, ground := Ground.chain }], guard := none }) (v := ?_) rfl (by kernel_rfl) (by kernel_rfl) (by kernel_rfl) (fun _ _ _ h => h) (Or.inl ⟨by rfl, ?_⟩) (by assumption) ?_
    rotate_left
    · (intro W hW; (try dsimp only at hW); go_simp <;> (with_reducible rfl))
    try simp only [Act.put, List.setIfInBounds_toArray, List.set_cons_zero, List.set_cons_succ]
    refine wpAnyH_take (i := 15) (oi := { dst := some 90, op := Op.load 33 (Operand.tmp 15), type := 33, pos := "law.go:213", after := #[{ on := 14, ground := Ground.guard }], guard := some (14, true) }) (v := ?_) rfl (by kernel_rfl) (by kernel_rfl) (by kernel_rfl) (fun _ _ _ h => h) (Or.inl ⟨by rfl, ?_⟩) (by assumption) ?_
    rotate_left
    · (intro W hW; (try dsimp only at hW); go_simp <;> (with_reducible rfl))
    try simp only [Act.put, List.setIfInBounds_toArray, List.set_cons_zero, List.set_cons_succ]
    refine wpAnyH_take (i := 17) (oi := { dst := some 92, op := Op.load 33 (Operand.tmp 11), type := 33, pos := "law.go:213", after := #[{ on := 14, ground := Ground.guard }], guard := some (14, true) }) (v := ?_) rfl (by kernel_rfl) (by kernel_rfl) (by kernel_rfl) (fun _ _ _ h => h) (Or.inl ⟨by rfl, ?_⟩) (by assumption) ?_
    rotate_left
    · (intro W hW; (try dsimp only at hW); go_simp <;> (with_reducible rfl))
    try simp only [Act.put, List.setIfInBounds_toArray, List.set_cons_zero, List.set_cons_succ]
    refine wpAnyH_ready (rs := [16]) (by kernel_rfl) (by simp) (AllReadyH.cons (o := { dst := some 91, op := Op.call { callee := Callee.value (Operand.func 53), args := #[Operand.tmp 90], argTypes := #[33] }, type := 26, pos := "law.go:213", after := #[{ on := 15, ground := Ground.data }, { on := 14, ground := Ground.chain }, { on := 14, ground := Ground.guard }], guard := some (14, true) }) rfl (fun K hK => ?_) AllReadyH.nil)
    rw [if_pos (by rfl)]
    go_wp2_with ((go_at_call 53; (with_reducible refine (CPp _ ?_).mono ?_); (focus (repeat (with_reducible first | assumption | exact Below.refl _ _ | apply Below.al | apply Below.dr))); rintro e wp ⟨Fp, csp, rfl, hrp, hbp⟩; have hBp : Below WA.heap.size WA wp := below_via (by (repeat (with_reducible first | assumption | exact Below.refl _ _ | apply Below.al | apply Below.dr))) hbp))
    refine hK.out _ _ (by (repeat (with_reducible first | assumption | exact Below.refl _ _ | apply Below.al | apply Below.dr))) (fun hHeld => ?_)
    clear hK K
    try simp only [Act.put, List.setIfInBounds_toArray, List.set_cons_zero, List.set_cons_succ]
    refine wpAnyH_ready (rs := [18]) (by kernel_rfl) (by simp) (AllReadyH.cons (o := { dst := some 93, op := Op.call { callee := Callee.value (Operand.func 53), args := #[Operand.tmp 92], argTypes := #[33] }, type := 26, pos := "law.go:213", after := #[{ on := 17, ground := Ground.data }, { on := 16, ground := Ground.chain }, { on := 14, ground := Ground.guard }], guard := some (14, true) }) rfl (fun K hK => ?_) AllReadyH.nil)
    rw [if_pos (by rfl)]
    go_wp2_with ((go_at_call 53; (with_reducible refine (CPm _ ?_).mono ?_); (focus (repeat (with_reducible first | assumption | exact Below.refl _ _ | apply Below.al | apply Below.dr))); rintro e wm ⟨Fm, csm, rfl, hrm, hbm⟩; have hBm : Below WA.heap.size WA wm := below_via (by (repeat (with_reducible first | assumption | exact Below.refl _ _ | apply Below.al | apply Below.dr))) hbm; have hrp := RNodeOn.below hrp (below_via (by (repeat (with_reducible first | assumption | exact Below.refl _ _ | apply Below.al | apply Below.dr))) hbm)))
    refine hK.out _ _ (by (repeat (with_reducible first | assumption | exact Below.refl _ _ | apply Below.al | apply Below.dr))) (fun hHeld => ?_)
    clear hK K
    try simp only [Act.put, List.setIfInBounds_toArray, List.set_cons_zero, List.set_cons_succ]
    refine wpAnyH_ready (rs := [19]) (by kernel_rfl) (by simp) (AllReadyH.cons (o := { dst := some 94, op := Op.call { callee := Callee.value (Operand.func 36), args := #[Operand.tmp 91, Operand.tmp 93], argTypes := #[26, 26] }, type := 4, pos := "law.go:213", after := #[{ on := 16, ground := Ground.data }, { on := 18, ground := Ground.data }, { on := 18, ground := Ground.chain }, { on := 14, ground := Ground.guard }], guard := some (14, true) }) rfl (fun K hK => ?_) AllReadyH.nil)
    rw [if_pos (by rfl)]
    go_wp2_with ((go_at_call 36; (with_reducible refine (same_any (RNodeOn.below hrp ?_) (RNodeOn.below hrm ?_)).mono ?_); (focus (repeat (with_reducible first | assumption | exact Below.refl _ _ | apply Below.al | apply Below.dr))); (focus (repeat (with_reducible first | assumption | exact Below.refl _ _ | apply Below.al | apply Below.dr))); rintro e wS ⟨rfl, hbS⟩; have hBS : Below WA.heap.size WA wS := below_via (by (repeat (with_reducible first | assumption | exact Below.refl _ _ | apply Below.al | apply Below.dr))) hbS))
    refine hK.out _ _ (by (repeat (with_reducible first | assumption | exact Below.refl _ _ | apply Below.al | apply Below.dr))) (fun hHeld => ?_)
    clear hK K
    try simp only [Act.put, List.setIfInBounds_toArray, List.set_cons_zero, List.set_cons_succ]
    refine wpAnyH_take (i := 20) (oi := { dst := some 95, op := Op.pick (Operand.tmp 89) (Operand.tmp 94) (Operand.const (Value.bool false)), type := 4, pos := "law.go:213", after := #[{ on := 14, ground := Ground.data }, { on := 19, ground := Ground.data }], guard := none }) (v := ?_) rfl (by kernel_rfl) (by kernel_rfl) (by kernel_rfl) (fun _ _ _ h => h) (Or.inl ⟨by rfl, ?_⟩) (by assumption) ?_
    rotate_left
    · (intro W hW; (try dsimp only at hW); go_simp <;> (with_reducible rfl))
    try simp only [Act.put, List.setIfInBounds_toArray, List.set_cons_zero, List.set_cons_succ]
    refine wpAnyH_take (i := 21) (oi := { dst := some 96, op := Op.move (Operand.tmp 95), type := 4, pos := "law.go:213", after := #[{ on := 20, ground := Ground.data }, { on := 19, ground := Ground.chain }], guard := none }) (v := ?_) rfl (by kernel_rfl) (by kernel_rfl) (by kernel_rfl) (fun _ _ _ h => h) (Or.inl ⟨by rfl, ?_⟩) (by assumption) ?_
    rotate_left
    · (intro W hW; (try dsimp only at hW); go_simp <;> (with_reducible rfl))
    try simp only [Act.put, List.setIfInBounds_toArray, List.set_cons_zero, List.set_cons_succ]
    refine wpAnyH_take (i := 22) (oi := { dst := some 97, op := Op.move (Operand.tmp 16), type := 3, pos := "law.go:213", after := #[{ on := 21, ground := Ground.guard }], guard := some (21, true) }) (v := ?_) rfl (by kernel_rfl) (by kernel_rfl) (by kernel_rfl) (fun _ _ _ h => h) (Or.inl ⟨by rfl, ?_⟩) (by assumption) ?_
    rotate_left
    · (intro W hW; (try dsimp only at hW); go_simp <;> (with_reducible rfl))
    try simp only [Act.put, List.setIfInBounds_toArray, List.set_cons_zero, List.set_cons_succ]
    refine wpAnyH_take (i := 23) (oi := { dst := some 98, op := Op.binOp BinOp.eql 3 (Operand.tmp 97) (Operand.const (Value.int IntKind.i64 0)) 3, type := 4, pos := "law.go:213", after := #[{ on := 22, ground := Ground.data }, { on := 21, ground := Ground.guard }], guard := some (21, true) }) (v := ?_) rfl (by kernel_rfl) (by kernel_rfl) (by kernel_rfl) (fun _ _ _ h => h) (Or.inl ⟨by rfl, ?_⟩) (by assumption) ?_
    rotate_left
    · (intro W hW; (try dsimp only at hW); go_simp <;> (with_reducible rfl))
    try simp only [Act.put, List.setIfInBounds_toArray, List.set_cons_zero, List.set_cons_succ]
    refine wpAnyH_take (i := 24) (oi := { dst := some 99, op := Op.pick (Operand.tmp 96) (Operand.tmp 98) (Operand.const (Value.bool false)), type := 4, pos := "law.go:213", after := #[{ on := 21, ground := Ground.data }, { on := 23, ground := Ground.data }], guard := none }) (v := ?_) rfl (by kernel_rfl) (by kernel_rfl) (by kernel_rfl) (fun _ _ _ h => h) (Or.inl ⟨by rfl, ?_⟩) (by assumption) ?_
    rotate_left
    · (intro W hW; (try dsimp only at hW); go_simp <;> (with_reducible rfl))
    try simp only [Act.put, List.setIfInBounds_toArray, List.set_cons_zero, List.set_cons_succ]
    refine wpAnyH_take (i := 25) (oi := { dst := some 100, op := Op.move (Operand.tmp 99), type := 4, pos := "law.go:213", after := #[{ on := 24, ground := Ground.data }, { on := 21, ground := Ground.chain }], guard := none }) (v := ?_) rfl (by kernel_rfl) (by kernel_rfl) (by kernel_rfl) (fun _ _ _ h => h) (Or.inl ⟨by rfl, ?_⟩) (by assumption) ?_
    rotate_left
    · (intro W hW; (try dsimp only at hW); go_simp <;> (with_reducible rfl))
    try simp only [Act.put, List.setIfInBounds_toArray, List.set_cons_zero, List.set_cons_succ]
    refine wpAnyH_take (i := 26) (oi := { dst := some 101, op := Op.move (Operand.tmp 10), type := 4, pos := "law.go:213", after := #[{ on := 25, ground := Ground.guard }], guard := some (25, true) }) (v := ?_) rfl (by kernel_rfl) (by kernel_rfl) (by kernel_rfl) (fun _ _ _ h => h) (Or.inl ⟨by rfl, ?_⟩) (by assumption) ?_
    rotate_left
    · (intro W hW; (try dsimp only at hW); go_simp <;> (with_reducible rfl))
    try simp only [Act.put, List.setIfInBounds_toArray, List.set_cons_zero, List.set_cons_succ]
    refine wpAnyH_take (i := 27) (oi := { dst := some 102, op := Op.move (Operand.tmp 101), type := 4, pos := "law.go:213", after := #[{ on := 26, ground := Ground.data }, { on := 25, ground := Ground.chain }, { on := 25, ground := Ground.guard }], guard := some (25, true) }) (v := ?_) rfl (by kernel_rfl) (by kernel_rfl) (by kernel_rfl) (fun _ _ _ h => h) (Or.inl ⟨by rfl, ?_⟩) (by assumption) ?_
    rotate_left
    · (intro W hW; (try dsimp only at hW); go_simp <;> (with_reducible rfl))
    try simp only [Act.put, List.setIfInBounds_toArray, List.set_cons_zero, List.set_cons_succ]
    refine wpAnyH_take (i := 28) (oi := { dst := some 103, op := Op.load 33 (Operand.tmp 11), type := 33, pos := "law.go:213", after := #[{ on := 27, ground := Ground.guard }], guard := some (27, false) }) rfl (by kernel_rfl) (by kernel_rfl) (by kernel_rfl) (fun _ _ _ h => h) (Or.inr ⟨by rfl, rfl⟩) (by assumption) ?_
    try simp only [Act.put, List.setIfInBounds_toArray, List.set_cons_zero, List.set_cons_succ]
    refine wpAnyH_take (i := 30) (oi := { dst := some 105, op := Op.load 33 (Operand.tmp 7), type := 33, pos := "law.go:213", after := #[{ on := 27, ground := Ground.guard }], guard := some (27, false) }) rfl (by kernel_rfl) (by kernel_rfl) (by kernel_rfl) (fun _ _ _ h => h) (Or.inr ⟨by rfl, rfl⟩) (by assumption) ?_
    try simp only [Act.put, List.setIfInBounds_toArray, List.set_cons_zero, List.set_cons_succ]
    refine wpAnyH_take (i := 29) (oi := { dst := some 104, op := Op.call { callee := Callee.value (Operand.func 53), args := #[Operand.tmp 103], argTypes := #[33] }, type := 26, pos := "law.go:213", after := #[{ on := 28, ground := Ground.data }, { on := 27, ground := Ground.chain }, { on := 27, ground := Ground.guard }], guard := some (27, false) }) rfl (by kernel_rfl) (by kernel_rfl) (by kernel_rfl) (fun _ _ _ h => h) (Or.inr ⟨by rfl, rfl⟩) (by assumption) ?_
    try simp only [Act.put, List.setIfInBounds_toArray, List.set_cons_zero, List.set_cons_succ]
    refine wpAnyH_take (i := 31) (oi := { dst := some 106, op := Op.call { callee := Callee.value (Operand.func 53), args := #[Operand.tmp 105], argTypes := #[33] }, type := 26, pos := "law.go:213", after := #[{ on := 30, ground := Ground.data }, { on := 29, ground := Ground.chain }, { on := 27, ground := Ground.guard }], guard := some (27, false) }) rfl (by kernel_rfl) (by kernel_rfl) (by kernel_rfl) (fun _ _ _ h => h) (Or.inr ⟨by rfl, rfl⟩) (by assumption) ?_
    try simp only [Act.put, List.setIfInBounds_toArray, List.set_cons_zero, List.set_cons_succ]
    refine wpAnyH_take (i := 32) (oi := { dst := some 107, op := Op.call { callee := Callee.value (Operand.func 36), args := #[Operand.tmp 104, Operand.tmp 106], argTypes := #[26, 26] }, type := 4, pos := "law.go:213", after := #[{ on := 29, ground := Ground.data }, { on := 31, ground := Ground.data }, { on := 31, ground := Ground.chain }, { on := 27, ground := Ground.guard }], guard := some (27, false) }) rfl (by kernel_rfl) (by kernel_rfl) (by kernel_rfl) (fun _ _ _ h => h) (Or.inr ⟨by rfl, rfl⟩) (by assumption) ?_
    try simp only [Act.put, List.setIfInBounds_toArray, List.set_cons_zero, List.set_cons_succ]
    refine wpAnyH_take (i := 33) (oi := { dst := some 108, op := Op.pick (Operand.tmp 102) (Operand.const (Value.bool true)) (Operand.tmp 107), type := 4, pos := "law.go:213", after := #[{ on := 27, ground := Ground.data }, { on := 32, ground := Ground.data }, { on := 25, ground := Ground.guard }], guard := some (25, true) }) (v := ?_) rfl (by kernel_rfl) (by kernel_rfl) (by kernel_rfl) (fun _ _ _ h => h) (Or.inl ⟨by rfl, ?_⟩) (by assumption) ?_
    rotate_left
    · (intro W hW; (try dsimp only at hW); go_simp <;> (with_reducible rfl))
    try simp only [Act.put, List.setIfInBounds_toArray, List.set_cons_zero, List.set_cons_succ]
    refine wpAnyH_take (i := 34) (oi := { dst := some 109, op := Op.pick (Operand.tmp 100) (Operand.tmp 108) (Operand.const (Value.bool false)), type := 4, pos := "law.go:213", after := #[{ on := 25, ground := Ground.data }, { on := 33, ground := Ground.data }], guard := none }) (v := ?_) rfl (by kernel_rfl) (by kernel_rfl) (by kernel_rfl) (fun _ _ _ h => h) (Or.inl ⟨by rfl, ?_⟩) (by assumption) ?_
    rotate_left
    · (intro W hW; (try dsimp only at hW); go_simp <;> (with_reducible rfl))
    try simp only [Act.put, List.setIfInBounds_toArray, List.set_cons_zero, List.set_cons_succ]
    refine wpAnyH_take (i := 35) (oi := { dst := some 4, op := Op.assign (Operand.tmp 109), type := 4, pos := "law.go:213", after := #[{ on := 34, ground := Ground.data }, { on := 32, ground := Ground.chain }, { on := 0, ground := Ground.phase }, { on := 1, ground := Ground.phase }, { on := 2, ground := Ground.phase }, { on := 3, ground := Ground.phase }, { on := 4, ground := Ground.phase }, { on := 5, ground := Ground.phase }, { on := 6, ground := Ground.phase }, { on := 7, ground := Ground.phase }, { on := 8, ground := Ground.phase }, { on := 9, ground := Ground.phase }, { on := 10, ground := Ground.phase }, { on := 11, ground := Ground.phase }, { on := 12, ground := Ground.phase }, { on := 13, ground := Ground.phase }, { on := 14, ground := Ground.phase }, { on := 15, ground := Ground.phase }, { on := 16, ground := Ground.phase }, { on := 17, ground := Ground.phase }, { on := 18, ground := Ground.phase }, { on := 19, ground := Ground.phase }, { on := 20, ground := Ground.phase }, { on := 21, ground := Ground.phase }, { on := 22, ground := Ground.phase }, { on := 23, ground := Ground.phase }, { on := 24, ground := Ground.phase }, { on := 25, ground := Ground.phase }, { on := 26, ground := Ground.phase }, { on := 27, ground := Ground.phase }, { on := 28, ground := Ground.phase }, { on := 29, ground := Ground.phase }, { on := 30, ground := Ground.phase }, { on := 31, ground := Ground.phase }, { on := 32, ground := Ground.phase }, { on := 33, ground := Ground.phase }, { on := 34, ground := Ground.phase }], guard := none }) (v := ?_) rfl (by kernel_rfl) (by kernel_rfl) (by kernel_rfl) (fun _ _ _ h => h) (Or.inl ⟨by rfl, ?_⟩) (by assumption) ?_
    rotate_left
    · (intro W hW; (try dsimp only at hW); go_simp <;> (with_reducible rfl))
    try simp only [Act.put, List.setIfInBounds_toArray, List.set_cons_zero, List.set_cons_succ]
    refine wpAnyH_done (by kernel_rfl) ?_ _
    refine NoPanic.normal ?_
    go_wp2_with fail
    go_ret
    exact ⟨rfl, below_via HB.out hBS⟩
  | false =>
    obtain ⟨rfl, rfl⟩ := HSAME.out rfl
    clear HSAME
    refine wp_region_noPanic ?_
    refine wp_region_held_drew (S := (fun W => Below WA.heap.size WA W)) (by kernel_rfl) (by (repeat (with_reducible first | assumption | exact Below.refl _ _ | apply Below.al | apply Below.dr))) (fun hHeld => ?_)
    refine wpAnyH_take (i := 0) (oi := { dst := some 75, op := Op.move (Operand.tmp 12), type := 4, pos := "law.go:213", after := #[], guard := none }) (v := ?_) rfl (by kernel_rfl) (by kernel_rfl) (by kernel_rfl) (fun _ _ _ h => h) (Or.inl ⟨by rfl, ?_⟩) (by assumption) ?_
    rotate_left
    · (intro W hW; (try dsimp only at hW); go_simp <;> (with_reducible rfl))
    try simp only [Act.put, List.setIfInBounds_toArray, List.set_cons_zero, List.set_cons_succ]
    refine wpAnyH_take (i := 1) (oi := { dst := some 76, op := Op.move (Operand.tmp 10), type := 4, pos := "law.go:213", after := #[], guard := none }) (v := ?_) rfl (by kernel_rfl) (by kernel_rfl) (by kernel_rfl) (fun _ _ _ h => h) (Or.inl ⟨by rfl, ?_⟩) (by assumption) ?_
    rotate_left
    · (intro W hW; (try dsimp only at hW); go_simp <;> (with_reducible rfl))
    try simp only [Act.put, List.setIfInBounds_toArray, List.set_cons_zero, List.set_cons_succ]
    refine wpAnyH_take (i := 2) (oi := { dst := some 77, op := Op.binOp BinOp.eql 4 (Operand.tmp 75) (Operand.tmp 76) 4, type := 4, pos := "law.go:213", after := #[{ on := 0, ground := Ground.data }, { on := 1, ground := Ground.data }], guard := none }) (v := ?_) rfl (by kernel_rfl) (by kernel_rfl) (by kernel_rfl) (fun _ _ _ h => h) (Or.inl ⟨by rfl, ?_⟩) (by assumption) ?_
    rotate_left
    · (intro W hW; (try dsimp only at hW); go_simp <;> (with_reducible rfl))
    try simp only [Act.put, List.setIfInBounds_toArray, List.set_cons_zero, List.set_cons_succ]
    refine wpAnyH_take (i := 3) (oi := { dst := some 78, op := Op.move (Operand.tmp 77), type := 4, pos := "law.go:213", after := #[{ on := 2, ground := Ground.data }], guard := none }) (v := ?_) rfl (by kernel_rfl) (by kernel_rfl) (by kernel_rfl) (fun _ _ _ h => h) (Or.inl ⟨by rfl, ?_⟩) (by assumption) ?_
    rotate_left
    · (intro W hW; (try dsimp only at hW); go_simp <;> (with_reducible rfl))
    try simp only [Act.put, List.setIfInBounds_toArray, List.set_cons_zero, List.set_cons_succ]
    refine wpAnyH_take (i := 4) (oi := { dst := some 79, op := Op.load 33 (Operand.tmp 13), type := 33, pos := "law.go:213", after := #[{ on := 3, ground := Ground.guard }], guard := some (3, true) }) (v := ?_) rfl (by kernel_rfl) (by kernel_rfl) (by kernel_rfl) (fun _ _ _ h => h) (Or.inl ⟨by rfl, ?_⟩) (by assumption) ?_
    rotate_left
    · (intro W hW; (try dsimp only at hW); go_simp <;> (with_reducible rfl))
    try simp only [Act.put, List.setIfInBounds_toArray, List.set_cons_zero, List.set_cons_succ]
    refine wpAnyH_take (i := 6) (oi := { dst := some 81, op := Op.load 33 (Operand.tmp 7), type := 33, pos := "law.go:213", after := #[{ on := 3, ground := Ground.guard }], guard := some (3, true) }) (v := ?_) rfl (by kernel_rfl) (by kernel_rfl) (by kernel_rfl) (fun _ _ _ h => h) (Or.inl ⟨by rfl, ?_⟩) (by assumption) ?_
    rotate_left
    · (intro W hW; (try dsimp only at hW); go_simp <;> (with_reducible rfl))
    try simp only [Act.put, List.setIfInBounds_toArray, List.set_cons_zero, List.set_cons_succ]
    refine wpAnyH_ready (rs := [5]) (by kernel_rfl) (by simp) (AllReadyH.cons (o := { dst := some 80, op := Op.call { callee := Callee.value (Operand.func 53), args := #[Operand.tmp 79], argTypes := #[33] }, type := 26, pos := "law.go:213", after := #[{ on := 4, ground := Ground.data }, { on := 3, ground := Ground.chain }, { on := 3, ground := Ground.guard }], guard := some (3, true) }) rfl (fun K hK => ?_) AllReadyH.nil)
    rw [if_pos (by rfl)]
    go_wp2_with ((go_at_call 53; (with_reducible refine (CPo _ ?_).mono ?_); (focus (repeat (with_reducible first | assumption | exact Below.refl _ _ | apply Below.al | apply Below.dr))); rintro e wo ⟨Fo, cso, rfl, hro, hbo⟩; have hBo : Below WA.heap.size WA wo := below_via (by (repeat (with_reducible first | assumption | exact Below.refl _ _ | apply Below.al | apply Below.dr))) hbo))
    refine hK.out _ _ (by (repeat (with_reducible first | assumption | exact Below.refl _ _ | apply Below.al | apply Below.dr))) (fun hHeld => ?_)
    clear hK K
    try simp only [Act.put, List.setIfInBounds_toArray, List.set_cons_zero, List.set_cons_succ]
    refine wpAnyH_ready (rs := [7]) (by kernel_rfl) (by simp) (AllReadyH.cons (o := { dst := some 82, op := Op.call { callee := Callee.value (Operand.func 53), args := #[Operand.tmp 81], argTypes := #[33] }, type := 26, pos := "law.go:213", after := #[{ on := 6, ground := Ground.data }, { on := 5, ground := Ground.chain }, { on := 3, ground := Ground.guard }], guard := some (3, true) }) rfl (fun K hK => ?_) AllReadyH.nil)
    rw [if_pos (by rfl)]
    go_wp2_with ((go_at_call 53; (with_reducible refine (CPn _ ?_).mono ?_); (focus (repeat (with_reducible first | assumption | exact Below.refl _ _ | apply Below.al | apply Below.dr))); rintro e wn ⟨Fn, csn, rfl, hrn, hbn⟩; have hBn : Below WA.heap.size WA wn := below_via (by (repeat (with_reducible first | assumption | exact Below.refl _ _ | apply Below.al | apply Below.dr))) hbn; have hro := RNodeOn.below hro (below_via (by (repeat (with_reducible first | assumption | exact Below.refl _ _ | apply Below.al | apply Below.dr))) hbn)))
    refine hK.out _ _ (by (repeat (with_reducible first | assumption | exact Below.refl _ _ | apply Below.al | apply Below.dr))) (fun hHeld => ?_)
    clear hK K
    try simp only [Act.put, List.setIfInBounds_toArray, List.set_cons_zero, List.set_cons_succ]
    refine wpAnyH_ready (rs := [8]) (by kernel_rfl) (by simp) (AllReadyH.cons (o := { dst := some 83, op := Op.call { callee := Callee.value (Operand.func 36), args := #[Operand.tmp 80, Operand.tmp 82], argTypes := #[26, 26] }, type := 4, pos := "law.go:213", after := #[{ on := 5, ground := Ground.data }, { on := 7, ground := Ground.data }, { on := 7, ground := Ground.chain }, { on := 3, ground := Ground.guard }], guard := some (3, true) }) rfl (fun K hK => ?_) AllReadyH.nil)
    rw [if_pos (by rfl)]
    go_wp2_with ((go_at_call 36; (with_reducible refine (same_any (RNodeOn.below hro ?_) (RNodeOn.below hrn ?_)).mono ?_); (focus (repeat (with_reducible first | assumption | exact Below.refl _ _ | apply Below.al | apply Below.dr))); (focus (repeat (with_reducible first | assumption | exact Below.refl _ _ | apply Below.al | apply Below.dr))); rintro e wS ⟨rfl, hbS⟩; have hBS : Below WA.heap.size WA wS := below_via (by (repeat (with_reducible first | assumption | exact Below.refl _ _ | apply Below.al | apply Below.dr))) hbS))
    refine hK.out _ _ (by (repeat (with_reducible first | assumption | exact Below.refl _ _ | apply Below.al | apply Below.dr))) (fun hHeld => ?_)
    clear hK K
    try simp only [Act.put, List.setIfInBounds_toArray, List.set_cons_zero, List.set_cons_succ]
    refine wpAnyH_take (i := 9) (oi := { dst := some 84, op := Op.pick (Operand.tmp 78) (Operand.tmp 83) (Operand.const (Value.bool false)), type := 4, pos := "law.go:213", after := #[{ on := 3, ground := Ground.data }, { on := 8, ground := Ground.data }], guard := none }) (v := ?_) rfl (by kernel_rfl) (by kernel_rfl) (by kernel_rfl) (fun _ _ _ h => h) (Or.inl ⟨by rfl, ?_⟩) (by assumption) ?_
    rotate_left
    · (intro W hW; (try dsimp only at hW); go_simp <;> (with_reducible rfl))
    try simp only [Act.put, List.setIfInBounds_toArray, List.set_cons_zero, List.set_cons_succ]
    refine wpAnyH_take (i := 10) (oi := { dst := some 85, op := Op.move (Operand.tmp 84), type := 4, pos := "law.go:213", after := #[{ on := 9, ground := Ground.data }, { on := 8, ground := Ground.chain }], guard := none }) (v := ?_) rfl (by kernel_rfl) (by kernel_rfl) (by kernel_rfl) (fun _ _ _ h => h) (Or.inl ⟨by rfl, ?_⟩) (by assumption) ?_
    rotate_left
    · (intro W hW; (try dsimp only at hW); go_simp <;> (with_reducible rfl))
    try simp only [Act.put, List.setIfInBounds_toArray, List.set_cons_zero, List.set_cons_succ]
    refine wpAnyH_take (i := 11) (oi := { dst := some 86, op := Op.move (Operand.tmp 14), type := 3, pos := "law.go:213", after := #[{ on := 10, ground := Ground.guard }], guard := some (10, true) }) (v := ?_) rfl (by kernel_rfl) (by kernel_rfl) (by kernel_rfl) (fun _ _ _ h => h) (Or.inl ⟨by rfl, ?_⟩) (by assumption) ?_
    rotate_left
    · (intro W hW; (try dsimp only at hW); go_simp <;> (with_reducible rfl))
    try simp only [Act.put, List.setIfInBounds_toArray, List.set_cons_zero, List.set_cons_succ]
    refine wpAnyH_take (i := 12) (oi := { dst := some 87, op := Op.binOp BinOp.eql 3 (Operand.tmp 86) (Operand.const (Value.int IntKind.i64 0)) 3, type := 4, pos := "law.go:213", after := #[{ on := 11, ground := Ground.data }, { on := 10, ground := Ground.guard }], guard := some (10, true) }) (v := ?_) rfl (by kernel_rfl) (by kernel_rfl) (by kernel_rfl) (fun _ _ _ h => h) (Or.inl ⟨by rfl, ?_⟩) (by assumption) ?_
    rotate_left
    · (intro W hW; (try dsimp only at hW); go_simp <;> (with_reducible rfl))
    try simp only [Act.put, List.setIfInBounds_toArray, List.set_cons_zero, List.set_cons_succ]
    refine wpAnyH_take (i := 13) (oi := { dst := some 88, op := Op.pick (Operand.tmp 85) (Operand.tmp 87) (Operand.const (Value.bool false)), type := 4, pos := "law.go:213", after := #[{ on := 10, ground := Ground.data }, { on := 12, ground := Ground.data }], guard := none }) (v := ?_) rfl (by kernel_rfl) (by kernel_rfl) (by kernel_rfl) (fun _ _ _ h => h) (Or.inl ⟨by rfl, ?_⟩) (by assumption) ?_
    rotate_left
    · (intro W hW; (try dsimp only at hW); go_simp <;> (with_reducible rfl))
    try simp only [Act.put, List.setIfInBounds_toArray, List.set_cons_zero, List.set_cons_succ]
    refine wpAnyH_take (i := 14) (oi := { dst := some 89, op := Op.move (Operand.tmp 88), type := 4, pos := "law.go:213", after := #[{ on := 13, ground := Ground.data }, { on := 10, ground := Ground.chain }], guard := none }) (v := ?_) rfl (by kernel_rfl) (by kernel_rfl) (by kernel_rfl) (fun _ _ _ h => h) (Or.inl ⟨by rfl, ?_⟩) (by assumption) ?_
    rotate_left
    · (intro W hW; (try dsimp only at hW); go_simp <;> (with_reducible rfl))
    try simp only [Act.put, List.setIfInBounds_toArray, List.set_cons_zero, List.set_cons_succ]
    refine wpAnyH_take (i := 15) (oi := { dst := some 90, op := Op.load 33 (Operand.tmp 15), type := 33, pos := "law.go:213", after := #[{ on := 14, ground := Ground.guard }], guard := some (14, true) }) (v := ?_) rfl (by kernel_rfl) (by kernel_rfl) (by kernel_rfl) (fun _ _ _ h => h) (Or.inl ⟨by rfl, ?_⟩) (by assumption) ?_
    rotate_left
    · (intro W hW; (try dsimp only at hW); go_simp <;> (with_reducible rfl))
    try simp only [Act.put, List.setIfInBounds_toArray, List.set_cons_zero, List.set_cons_succ]
    refine wpAnyH_take (i := 17) (oi := { dst := some 92, op := Op.load 33 (Operand.tmp 11), type := 33, pos := "law.go:213", after := #[{ on := 14, ground := Ground.guard }], guard := some (14, true) }) (v := ?_) rfl (by kernel_rfl) (by kernel_rfl) (by kernel_rfl) (fun _ _ _ h => h) (Or.inl ⟨by rfl, ?_⟩) (by assumption) ?_
    rotate_left
    · (intro W hW; (try dsimp only at hW); go_simp <;> (with_reducible rfl))
    try simp only [Act.put, List.setIfInBounds_toArray, List.set_cons_zero, List.set_cons_succ]
    refine wpAnyH_ready (rs := [16]) (by kernel_rfl) (by simp) (AllReadyH.cons (o := { dst := some 91, op := Op.call { callee := Callee.value (Operand.func 53), args := #[Operand.tmp 90], argTypes := #[33] }, type := 26, pos := "law.go:213", after := #[{ on := 15, ground := Ground.data }, { on := 14, ground := Ground.chain }, { on := 14, ground := Ground.guard }], guard := some (14, true) }) rfl (fun K hK => ?_) AllReadyH.nil)
    rw [if_pos (by rfl)]
    go_wp2_with ((go_at_call 53; (with_reducible refine (CPp _ ?_).mono ?_); (focus (repeat (with_reducible first | assumption | exact Below.refl _ _ | apply Below.al | apply Below.dr))); rintro e wp ⟨Fp, csp, rfl, hrp, hbp⟩; have hBp : Below WA.heap.size WA wp := below_via (by (repeat (with_reducible first | assumption | exact Below.refl _ _ | apply Below.al | apply Below.dr))) hbp))
    refine hK.out _ _ (by (repeat (with_reducible first | assumption | exact Below.refl _ _ | apply Below.al | apply Below.dr))) (fun hHeld => ?_)
    clear hK K
    try simp only [Act.put, List.setIfInBounds_toArray, List.set_cons_zero, List.set_cons_succ]
    refine wpAnyH_ready (rs := [18]) (by kernel_rfl) (by simp) (AllReadyH.cons (o := { dst := some 93, op := Op.call { callee := Callee.value (Operand.func 53), args := #[Operand.tmp 92], argTypes := #[33] }, type := 26, pos := "law.go:213", after := #[{ on := 17, ground := Ground.data }, { on := 16, ground := Ground.chain }, { on := 14, ground := Ground.guard }], guard := some (14, true) }) rfl (fun K hK => ?_) AllReadyH.nil)
    rw [if_pos (by rfl)]
    go_wp2_with ((go_at_call 53; (with_reducible refine (CPm _ ?_).mono ?_); (focus (repeat (with_reducible first | assumption | exact Below.refl _ _ | apply Below.al | apply Below.dr))); rintro e wm ⟨Fm, csm, rfl, hrm, hbm⟩; have hBm : Below WA.heap.size WA wm := below_via (by (repeat (with_reducible first | assumption | exact Below.refl _ _ | apply Below.al | apply Below.dr))) hbm; have hrp := RNodeOn.below hrp (below_via (by (repeat (with_reducible first | assumption | exact Below.refl _ _ | apply Below.al | apply Below.dr))) hbm)))
    refine hK.out _ _ (by (repeat (with_reducible first | assumption | exact Below.refl _ _ | apply Below.al | apply Below.dr))) (fun hHeld => ?_)
    clear hK K
    try simp only [Act.put, List.setIfInBounds_toArray, List.set_cons_zero, List.set_cons_succ]
    refine wpAnyH_ready (rs := [19]) (by kernel_rfl) (by simp) (AllReadyH.cons (o := { dst := some 94, op := Op.call { callee := Callee.value (Operand.func 36), args := #[Operand.tmp 91, Operand.tmp 93], argTypes := #[26, 26] }, type := 4, pos := "law.go:213", after := #[{ on := 16, ground := Ground.data }, { on := 18, ground := Ground.data }, { on := 18, ground := Ground.chain }, { on := 14, ground := Ground.guard }], guard := some (14, true) }) rfl (fun K hK => ?_) AllReadyH.nil)
    rw [if_pos (by rfl)]
    go_wp2_with ((go_at_call 36; (with_reducible refine (same_any (RNodeOn.below hrp ?_) (RNodeOn.below hrm ?_)).mono ?_); (focus (repeat (with_reducible first | assumption | exact Below.refl _ _ | apply Below.al | apply Below.dr))); (focus (repeat (with_reducible first | assumption | exact Below.refl _ _ | apply Below.al | apply Below.dr))); rintro e wS ⟨rfl, hbS⟩; have hBS : Below WA.heap.size WA wS := below_via (by (repeat (with_reducible first | assumption | exact Below.refl _ _ | apply Below.al | apply Below.dr))) hbS))
    refine hK.out _ _ (by (repeat (with_reducible first | assumption | exact Below.refl _ _ | apply Below.al | apply Below.dr))) (fun hHeld => ?_)
    clear hK K
    try simp only [Act.put, List.setIfInBounds_toArray, List.set_cons_zero, List.set_cons_succ]
    refine wpAnyH_take (i := 20) (oi := { dst := some 95, op := Op.pick (Operand.tmp 89) (Operand.tmp 94) (Operand.const (Value.bool false)), type := 4, pos := "law.go:213", after := #[{ on := 14, ground := Ground.data }, { on := 19, ground := Ground.data }], guard := none }) (v := ?_) rfl (by kernel_rfl) (by kernel_rfl) (by kernel_rfl) (fun _ _ _ h => h) (Or.inl ⟨by rfl, ?_⟩) (by assumption) ?_
    rotate_left
    · (intro W hW; (try dsimp only at hW); go_simp <;> (with_reducible rfl))
    try simp only [Act.put, List.setIfInBounds_toArray, List.set_cons_zero, List.set_cons_succ]
    refine wpAnyH_take (i := 21) (oi := { dst := some 96, op := Op.move (Operand.tmp 95), type := 4, pos := "law.go:213", after := #[{ on := 20, ground := Ground.data }, { on := 19, ground := Ground.chain }], guard := none }) (v := ?_) rfl (by kernel_rfl) (by kernel_rfl) (by kernel_rfl) (fun _ _ _ h => h) (Or.inl ⟨by rfl, ?_⟩) (by assumption) ?_
    rotate_left
    · (intro W hW; (try dsimp only at hW); go_simp <;> (with_reducible rfl))
    try simp only [Act.put, List.setIfInBounds_toArray, List.set_cons_zero, List.set_cons_succ]
    refine wpAnyH_take (i := 22) (oi := { dst := some 97, op := Op.move (Operand.tmp 16), type := 3, pos := "law.go:213", after := #[{ on := 21, ground := Ground.guard }], guard := some (21, true) }) (v := ?_) rfl (by kernel_rfl) (by kernel_rfl) (by kernel_rfl) (fun _ _ _ h => h) (Or.inl ⟨by rfl, ?_⟩) (by assumption) ?_
    rotate_left
    · (intro W hW; (try dsimp only at hW); go_simp <;> (with_reducible rfl))
    try simp only [Act.put, List.setIfInBounds_toArray, List.set_cons_zero, List.set_cons_succ]
    refine wpAnyH_take (i := 23) (oi := { dst := some 98, op := Op.binOp BinOp.eql 3 (Operand.tmp 97) (Operand.const (Value.int IntKind.i64 0)) 3, type := 4, pos := "law.go:213", after := #[{ on := 22, ground := Ground.data }, { on := 21, ground := Ground.guard }], guard := some (21, true) }) (v := ?_) rfl (by kernel_rfl) (by kernel_rfl) (by kernel_rfl) (fun _ _ _ h => h) (Or.inl ⟨by rfl, ?_⟩) (by assumption) ?_
    rotate_left
    · (intro W hW; (try dsimp only at hW); go_simp <;> (with_reducible rfl))
    try simp only [Act.put, List.setIfInBounds_toArray, List.set_cons_zero, List.set_cons_succ]
    refine wpAnyH_take (i := 24) (oi := { dst := some 99, op := Op.pick (Operand.tmp 96) (Operand.tmp 98) (Operand.const (Value.bool false)), type := 4, pos := "law.go:213", after := #[{ on := 21, ground := Ground.data }, { on := 23, ground := Ground.data }], guard := none }) (v := ?_) rfl (by kernel_rfl) (by kernel_rfl) (by kernel_rfl) (fun _ _ _ h => h) (Or.inl ⟨by rfl, ?_⟩) (by assumption) ?_
    rotate_left
    · (intro W hW; (try dsimp only at hW); go_simp <;> (with_reducible rfl))
    try simp only [Act.put, List.setIfInBounds_toArray, List.set_cons_zero, List.set_cons_succ]
    refine wpAnyH_take (i := 25) (oi := { dst := some 100, op := Op.move (Operand.tmp 99), type := 4, pos := "law.go:213", after := #[{ on := 24, ground := Ground.data }, { on := 21, ground := Ground.chain }], guard := none }) (v := ?_) rfl (by kernel_rfl) (by kernel_rfl) (by kernel_rfl) (fun _ _ _ h => h) (Or.inl ⟨by rfl, ?_⟩) (by assumption) ?_
    rotate_left
    · (intro W hW; (try dsimp only at hW); go_simp <;> (with_reducible rfl))
    try simp only [Act.put, List.setIfInBounds_toArray, List.set_cons_zero, List.set_cons_succ]
    refine wpAnyH_take (i := 26) (oi := { dst := some 101, op := Op.move (Operand.tmp 10), type := 4, pos := "law.go:213", after := #[{ on := 25, ground := Ground.guard }], guard := some (25, true) }) (v := ?_) rfl (by kernel_rfl) (by kernel_rfl) (by kernel_rfl) (fun _ _ _ h => h) (Or.inl ⟨by rfl, ?_⟩) (by assumption) ?_
    rotate_left
    · (intro W hW; (try dsimp only at hW); go_simp <;> (with_reducible rfl))
    try simp only [Act.put, List.setIfInBounds_toArray, List.set_cons_zero, List.set_cons_succ]
    refine wpAnyH_take (i := 27) (oi := { dst := some 102, op := Op.move (Operand.tmp 101), type := 4, pos := "law.go:213", after := #[{ on := 26, ground := Ground.data }, { on := 25, ground := Ground.chain }, { on := 25, ground := Ground.guard }], guard := some (25, true) }) (v := ?_) rfl (by kernel_rfl) (by kernel_rfl) (by kernel_rfl) (fun _ _ _ h => h) (Or.inl ⟨by rfl, ?_⟩) (by assumption) ?_
    rotate_left
    · (intro W hW; (try dsimp only at hW); go_simp <;> (with_reducible rfl))
    try simp only [Act.put, List.setIfInBounds_toArray, List.set_cons_zero, List.set_cons_succ]
    refine wpAnyH_take (i := 28) (oi := { dst := some 103, op := Op.load 33 (Operand.tmp 11), type := 33, pos := "law.go:213", after := #[{ on := 27, ground := Ground.guard }], guard := some (27, false) }) (v := ?_) rfl (by kernel_rfl) (by kernel_rfl) (by kernel_rfl) (fun _ _ _ h => h) (Or.inl ⟨by rfl, ?_⟩) (by assumption) ?_
    rotate_left
    · (intro W hW; (try dsimp only at hW); go_simp <;> (with_reducible rfl))
    try simp only [Act.put, List.setIfInBounds_toArray, List.set_cons_zero, List.set_cons_succ]
    refine wpAnyH_take (i := 30) (oi := { dst := some 105, op := Op.load 33 (Operand.tmp 7), type := 33, pos := "law.go:213", after := #[{ on := 27, ground := Ground.guard }], guard := some (27, false) }) (v := ?_) rfl (by kernel_rfl) (by kernel_rfl) (by kernel_rfl) (fun _ _ _ h => h) (Or.inl ⟨by rfl, ?_⟩) (by assumption) ?_
    rotate_left
    · (intro W hW; (try dsimp only at hW); go_simp <;> (with_reducible rfl))
    try simp only [Act.put, List.setIfInBounds_toArray, List.set_cons_zero, List.set_cons_succ]
    refine wpAnyH_ready (rs := [29]) (by kernel_rfl) (by simp) (AllReadyH.cons (o := { dst := some 104, op := Op.call { callee := Callee.value (Operand.func 53), args := #[Operand.tmp 103], argTypes := #[33] }, type := 26, pos := "law.go:213", after := #[{ on := 28, ground := Ground.data }, { on := 27, ground := Ground.chain }, { on := 27, ground := Ground.guard }], guard := some (27, false) }) rfl (fun K hK => ?_) AllReadyH.nil)
    rw [if_pos (by rfl)]
    go_wp2_with ((go_at_call 53; (with_reducible refine (CPm _ ?_).mono ?_); (focus (repeat (with_reducible first | assumption | exact Below.refl _ _ | apply Below.al | apply Below.dr))); rintro e wm ⟨Fm, csm, rfl, hrm, hbm⟩; have hBm : Below WA.heap.size WA wm := below_via (by (repeat (with_reducible first | assumption | exact Below.refl _ _ | apply Below.al | apply Below.dr))) hbm))
    refine hK.out _ _ (by (repeat (with_reducible first | assumption | exact Below.refl _ _ | apply Below.al | apply Below.dr))) (fun hHeld => ?_)
    clear hK K
    try simp only [Act.put, List.setIfInBounds_toArray, List.set_cons_zero, List.set_cons_succ]
    refine wpAnyH_ready (rs := [31]) (by kernel_rfl) (by simp) (AllReadyH.cons (o := { dst := some 106, op := Op.call { callee := Callee.value (Operand.func 53), args := #[Operand.tmp 105], argTypes := #[33] }, type := 26, pos := "law.go:213", after := #[{ on := 30, ground := Ground.data }, { on := 29, ground := Ground.chain }, { on := 27, ground := Ground.guard }], guard := some (27, false) }) rfl (fun K hK => ?_) AllReadyH.nil)
    rw [if_pos (by rfl)]
    go_wp2_with ((go_at_call 53; (with_reducible refine (CPn _ ?_).mono ?_); (focus (repeat (with_reducible first | assumption | exact Below.refl _ _ | apply Below.al | apply Below.dr))); rintro e wn ⟨Fn, csn, rfl, hrn, hbn⟩; have hBn : Below WA.heap.size WA wn := below_via (by (repeat (with_reducible first | assumption | exact Below.refl _ _ | apply Below.al | apply Below.dr))) hbn; have hrm := RNodeOn.below hrm (below_via (by (repeat (with_reducible first | assumption | exact Below.refl _ _ | apply Below.al | apply Below.dr))) hbn)))
    refine hK.out _ _ (by (repeat (with_reducible first | assumption | exact Below.refl _ _ | apply Below.al | apply Below.dr))) (fun hHeld => ?_)
    clear hK K
    try simp only [Act.put, List.setIfInBounds_toArray, List.set_cons_zero, List.set_cons_succ]
    refine wpAnyH_ready (rs := [32]) (by kernel_rfl) (by simp) (AllReadyH.cons (o := { dst := some 107, op := Op.call { callee := Callee.value (Operand.func 36), args := #[Operand.tmp 104, Operand.tmp 106], argTypes := #[26, 26] }, type := 4, pos := "law.go:213", after := #[{ on := 29, ground := Ground.data }, { on := 31, ground := Ground.data }, { on := 31, ground := Ground.chain }, { on := 27, ground := Ground.guard }], guard := some (27, false) }) rfl (fun K hK => ?_) AllReadyH.nil)
    rw [if_pos (by rfl)]
    go_wp2_with ((go_at_call 36; (with_reducible refine (same_any (RNodeOn.below hrm ?_) (RNodeOn.below hrn ?_)).mono ?_); (focus (repeat (with_reducible first | assumption | exact Below.refl _ _ | apply Below.al | apply Below.dr))); (focus (repeat (with_reducible first | assumption | exact Below.refl _ _ | apply Below.al | apply Below.dr))); rintro e wS ⟨rfl, hbS⟩; have hBS : Below WA.heap.size WA wS := below_via (by (repeat (with_reducible first | assumption | exact Below.refl _ _ | apply Below.al | apply Below.dr))) hbS))
    refine hK.out _ _ (by (repeat (with_reducible first | assumption | exact Below.refl _ _ | apply Below.al | apply Below.dr))) (fun hHeld => ?_)
    clear hK K
    try simp only [Act.put, List.setIfInBounds_toArray, List.set_cons_zero, List.set_cons_succ]
    refine wpAnyH_take (i := 33) (oi := { dst := some 108, op := Op.pick (Operand.tmp 102) (Operand.const (Value.bool true)) (Operand.tmp 107), type := 4, pos := "law.go:213", after := #[{ on := 27, ground := Ground.data }, { on := 32, ground := Ground.data }, { on := 25, ground := Ground.guard }], guard := some (25, true) }) (v := ?_) rfl (by kernel_rfl) (by kernel_rfl) (by kernel_rfl) (fun _ _ _ h => h) (Or.inl ⟨by rfl, ?_⟩) (by assumption) ?_
    rotate_left
    · (intro W hW; (try dsimp only at hW); go_simp <;> (with_reducible rfl))
    try simp only [Act.put, List.setIfInBounds_toArray, List.set_cons_zero, List.set_cons_succ]
    refine wpAnyH_take (i := 34) (oi := { dst := some 109, op := Op.pick (Operand.tmp 100) (Operand.tmp 108) (Operand.const (Value.bool false)), type := 4, pos := "law.go:213", after := #[{ on := 25, ground := Ground.data }, { on := 33, ground := Ground.data }], guard := none }) (v := ?_) rfl (by kernel_rfl) (by kernel_rfl) (by kernel_rfl) (fun _ _ _ h => h) (Or.inl ⟨by rfl, ?_⟩) (by assumption) ?_
    rotate_left
    · (intro W hW; (try dsimp only at hW); go_simp <;> (with_reducible rfl))
    try simp only [Act.put, List.setIfInBounds_toArray, List.set_cons_zero, List.set_cons_succ]
    refine wpAnyH_take (i := 35) (oi := { dst := some 4, op := Op.assign (Operand.tmp 109), type := 4, pos := "law.go:213", after := #[{ on := 34, ground := Ground.data }, { on := 32, ground := Ground.chain }, { on := 0, ground := Ground.phase }, { on := 1, ground := Ground.phase }, { on := 2, ground := Ground.phase }, { on := 3, ground := Ground.phase }, { on := 4, ground := Ground.phase }, { on := 5, ground := Ground.phase }, { on := 6, ground := Ground.phase }, { on := 7, ground := Ground.phase }, { on := 8, ground := Ground.phase }, { on := 9, ground := Ground.phase }, { on := 10, ground := Ground.phase }, { on := 11, ground := Ground.phase }, { on := 12, ground := Ground.phase }, { on := 13, ground := Ground.phase }, { on := 14, ground := Ground.phase }, { on := 15, ground := Ground.phase }, { on := 16, ground := Ground.phase }, { on := 17, ground := Ground.phase }, { on := 18, ground := Ground.phase }, { on := 19, ground := Ground.phase }, { on := 20, ground := Ground.phase }, { on := 21, ground := Ground.phase }, { on := 22, ground := Ground.phase }, { on := 23, ground := Ground.phase }, { on := 24, ground := Ground.phase }, { on := 25, ground := Ground.phase }, { on := 26, ground := Ground.phase }, { on := 27, ground := Ground.phase }, { on := 28, ground := Ground.phase }, { on := 29, ground := Ground.phase }, { on := 30, ground := Ground.phase }, { on := 31, ground := Ground.phase }, { on := 32, ground := Ground.phase }, { on := 33, ground := Ground.phase }, { on := 34, ground := Ground.phase }], guard := none }) (v := ?_) rfl (by kernel_rfl) (by kernel_rfl) (by kernel_rfl) (fun _ _ _ h => h) (Or.inl ⟨by rfl, ?_⟩) (by assumption) ?_
    rotate_left
    · (intro W hW; (try dsimp only at hW); go_simp <;> (with_reducible rfl))
    try simp only [Act.put, List.setIfInBounds_toArray, List.set_cons_zero, List.set_cons_succ]
    refine wpAnyH_done (by kernel_rfl) ?_ _
    refine NoPanic.normal ?_
    go_wp2_with fail
    go_ret
    exact ⟨rfl, below_via HB.out hBS⟩
end Go.Proofs.Ytemfnjlfcemehaa
