/- The law PruneOrders (printed by gen_treL7.py). -/
import Derived.Test.YtemfnjlfcemehaaTreAxq
import Derived.Test.YtemfnjlfcemehaaTreDsq
import Derived.Test.YtemfnjlfcemehaaM9
import Derived.Deep.RegionHeld3
import Derived.Deep.DeepCutAuto
import Derived.Deep.CutBlock
import Derived.Deep.QuietTactic
import Derived.BigQuiet
namespace Go.Proofs.Ytemfnjlfcemehaa
open Go.RowKit

set_option maxRecDepth 100000 in
set_option maxHeartbeats 4000000 in
theorem lPOrders {w : World} {a : Option Addr} {n c : Nat} {l : List St} (h : Sts w a n c l) {ka : Option Addr} {m kc : Nat} {ks : List (List UInt8)} (ho : KeysIn w ka m kc ks) :
    Calls Try.prog 15 #[.slice a n c, .slice ka m kc] w fun e w' => e = .returned (.bool true) ∧ Below w.heap.size w w' := by
  obtain ⟨o1, o2, o3⟩ := ho.lens
  have HK := Lib.hid ho
  have HKL := Lib.hid o1
  clear ho o1
  obtain ⟨e1, e2, e3⟩ := TabR.lens h
  have HP := Lib.hid h
  have HL := Lib.hid e1
  have A := awake16_any w
  clear h e1
  go_enter Try.func15, Try.ntmps15
  go_wp2_with fail
  refine A.mono ?_
  rintro e w1 ⟨rfl, hb1⟩
  have hp1 : Sts w1 a n c l := TabR.below (Nat.le_refl _) hb1 HP.out
  clear A
  go_wp2_with fail
  refine (small16_any hp1).mono ?_
  rintro e w2 ⟨rfl, rfl⟩
  obtain ⟨S, hS⟩ : ∃ S, smallS l = S := ⟨_, rfl⟩
  rw [hS]
  cases S with
  | false =>
    have HB := Lib.hid hb1
    clear hp1 hb1 hS
    go_wp2_with fail
    go_ret
    exact ⟨rfl, HB.out⟩
  | true =>
  obtain ⟨hl120, hall⟩ := okS_facts hS
  have hn120 : n ≤ 120 := by rw [← HL.out]; exact hl120
  have HALL := Lib.hid hall
  have HB1 := Lib.hid hb1
  clear hp1 hb1 hS hall hl120
  by_cases hm60 : 60 < m
  · have d1 : decide ((60 : Int) < (m : Int)) = true := by simp; omega
    have d1' : decide (60 < m) = true := by simp; omega
    clear hm60
    go_wp2_with fail
    go_ret
    exact ⟨rfl, HB1.out⟩
  have d1 : decide ((60 : Int) < (m : Int)) = false := by simp; omega
  have d1' : decide (60 < m) = false := by simp; omega
  go_wp2_with fail
  refine (tempty_any w2 (fun _ => False)).mono ?_
  rintro e w3 ⟨cs, rfl, hn0, hb3⟩
  obtain ⟨x1, k1, x2, k2, x3, k3, ecs, hn0⟩ := empty_on (F := fun _ => False) hn0
  subst ecs
  have hbox := TrBox.new (B := w3.heap.size + 1) hn0 (fun b h => h.elim) whole_empty 33
  have hbel : Below w.heap.size w (w3.alloc (.cells #[.int .i64 0, .bool true, .slice x1 0 k1, .slice x2 0 k2, .slice x3 0 k3] 33)) := Below.al (HB1.out.trans (hb3.mono HB1.out.size))
  have HBOX := Lib.hid hbox
  have HBEL := Lib.hid hbel
  have hle : w.heap.size ≤ w3.heap.size := Nat.le_trans HB1.out.size hb3.size
  clear hn0 hb3 hbox hbel
  go_upto_block 0 with (fail)
  go_cut [] (fun wq => ∃ N t, TrBox (w3.heap.size + 1) w3.heap.size wq N t ∧ N ≤ 121 ∧ (entsT N t).length ≤ 120 ∧ Below w.heap.size w wq)
  case first =>
    go_wp2_with fail
    go_loopw [8] (fun s wx => ∃ (k N : Nat) (t : Tr), k ≤ n ∧ s = .int .i64 k ∧ TrBox (w3.heap.size + 1) w3.heap.size wx N t ∧ N ≤ k + 1 ∧ (entsT N t).length ≤ k ∧ Below w.heap.size w wx) (fun s _ => n - (intOf s).toNat)
    case atStart => exact ⟨0, 1, _, Nat.zero_le _, rfl, HBOX.out, Nat.le_refl _, Nat.le_refl _, HBEL.out⟩
    case round =>
      clear HBOX HBEL
      obtain ⟨k, N, t, hk, rfl, hbox, hN, hen, hb⟩ := hrel
      by_cases hlk : k < n
      rotate_left
      · obtain rfl : k = n := by omega
        have hEX : Hid (∃ N t, TrBox (w3.heap.size + 1) w3.heap.size wr N t ∧ N ≤ 121 ∧ (entsT N t).length ≤ 120 ∧ Below w.heap.size w wr) := Lib.hid ⟨N, t, hbox, by omega, by omega, hb⟩
        clear hbox hb hen
        go_wp2_with fail
        go_meet
        exact hEX.out
      obtain ⟨bl, ol, y, rfl, hbl, hy, c0, c1⟩ := HP.out.at hlk
      obtain ⟨hyk, hys⟩ := HALL.out y (List.mem_of_getElem? hy)
      obtain ⟨sz, hszm⟩ : ∃ sz : Nat, (if y.size < 0 then (0 : Int) else y.size) = (sz : Int) := ⟨(if y.size < 0 then (0 : Int) else y.size).toNat, by split <;> omega⟩
      have hsz4 : sz ≤ 400 := by split at hszm <;> omega
      obtain ⟨p, lf, a1, n1, c1', a2, n2, c2, a3, n3, c3, hx, hn, hw⟩ := hbox
      have hxl := hx.lt 0 rfl
      have hnl := hn.lt
      have hne : bl ≠ w3.heap.size := by omega
      have hbl2 := Nat.lt_of_lt_of_le hbl hb.size
      have l0 : ∀ W, AgreeF (fun x => x ≠ w3.heap.size) wr W → W.cell? ⟨bl, ol + k * 2, none⟩ = some (.string (strOf y.key)) := fun W hW => (hW.cell hne hbl2).trans ((hb.cell (p := ⟨bl, ol + k * 2, none⟩) hbl).trans c0)
      have l1 : ∀ W, AgreeF (fun x => x ≠ w3.heap.size) wr W → W.cell? ⟨bl, ol + k * 2 + 1, none⟩ = some (.int .i64 y.size) := fun W hW => (hW.cell hne hbl2).trans ((hb.cell (p := ⟨bl, ol + k * 2 + 1, none⟩) hbl).trans c1)
      obtain ⟨T, hT⟩ : ∃ T, putW N t y.key ⟨fillT 0 sz, []⟩ = T := ⟨_, rfl⟩
      obtain ⟨E, hE⟩ : ∃ E, entsT N t = E := ⟨_, rfl⟩
      have CP : ∀ W, Below wr.heap.size wr W → Calls Try.prog 33 #[.agg #[.int .i64 p, .bool lf, .slice a1 n1 c1', .slice a2 n2 c2, .slice a3 n3 c3], .string (strOf y.key), .string (strOf (fillT 0 sz))] W (fun e w' => ∃ M cs, M ≤ N + 1 ∧ e = .returned (.agg cs.toArray) ∧ NodeOn (Fr (fun x => w3.heap.size + 1 ≤ x ∧ x < wr.heap.size) W) M w' cs T ∧ Whole M T ∧ entsT M T = putL y.key ⟨fillT 0 sz, []⟩ E ∧ Below W.heap.size W w') := fun W hW => (tPut_whole (hnl.below hW) hw y.key (fillT 0 sz) hyk (by rw [fillT_len]; exact hsz4)).mono fun e w' h => by
        unfold PutTo at h
        rw [hT, hE] at h
        exact h
      have CV : ∀ W, Calls Try.prog 50 #[.int .i64 (sz : Int)] W (fun e w' => e = .returned (.string (strOf (fillT 0 sz))) ∧ Below W.heap.size W w') := fun W => value16_any sz hsz4 W
      have hGB : ∀ W, Below wr.heap.size wr W → ∀ x, Fr (fun x => w3.heap.size + 1 ≤ x ∧ x < wr.heap.size) W x → w3.heap.size + 1 ≤ x := fun W hW x h => fr_le (fun b h => h.1) (by omega) hW.size h
      have hBB : w3.heap.size < w3.heap.size + 1 := Nat.lt_succ_self _
      have f0 := hx.cell 0 0 rfl rfl
      have f1 := hx.cell 0 1 rfl rfl
      have f2 := hx.cell 0 2 rfl rfl
      have f3 := hx.cell 0 3 rfl rfl
      have f4 := hx.cell 0 4 rfl rfl
      have HXB := Lib.hid hx
      have HBW := Lib.hid hb
      have HEE := Lib.hid hE
      have HTT := Lib.hid hT
      have HWN := Lib.hid hw
      have hA0 : AgreeF (fun x => x ≠ w3.heap.size) wr wr.drew := AgreeF.refl _
      clear hx hn hnl hw hb hE hT hyk hy c0 c1
      go_upto_region 11 with (fail)
      refine wp_region_noPanic ?_
      refine wp_region_held_drew (S := (fun W => AgreeF (fun x => x ≠ w3.heap.size) wr W)) (by kernel_rfl) (by (repeat (with_reducible first | assumption | exact AgreeF.refl _ | apply AgreeF.al | apply AgreeF.dr | apply AgreeF.st))) (fun hHeld => ?_)
      refine wpAnyH_take (i := 1) (oi := { dst := some 38, op := Op.move (Operand.tmp 0), type := 86, pos := "law.go:174", after := #[], guard := none }) (v := ?_) rfl (by kernel_rfl) (by kernel_rfl) (by kernel_rfl) (fun _ _ _ h => h) (Or.inl ⟨by rfl, ?_⟩) (by assumption) ?_
      rotate_left
      · (intro W hW; (try dsimp only at hW); go_simp <;> (with_reducible rfl))
      try simp only [Act.put, List.setIfInBounds_toArray, List.set_cons_zero, List.set_cons_succ]
      refine wpAnyH_take (i := 2) (oi := { dst := some 39, op := Op.move (Operand.tmp 8), type := 3, pos := "law.go:174", after := #[], guard := none }) (v := ?_) rfl (by kernel_rfl) (by kernel_rfl) (by kernel_rfl) (fun _ _ _ h => h) (Or.inl ⟨by rfl, ?_⟩) (by assumption) ?_
      rotate_left
      · (intro W hW; (try dsimp only at hW); go_simp <;> (with_reducible rfl))
      try simp only [Act.put, List.setIfInBounds_toArray, List.set_cons_zero, List.set_cons_succ]
      refine wpAnyH_take (i := 3) (oi := { dst := some 40, op := Op.indexAddr 86 (Operand.tmp 38) (Operand.tmp 39), type := 0, pos := "law.go:174", after := #[{ on := 1, ground := Ground.data }, { on := 2, ground := Ground.data }], guard := none }) (v := ?_) rfl (by kernel_rfl) (by kernel_rfl) (by kernel_rfl) (fun _ _ _ h => h) (Or.inl ⟨by rfl, ?_⟩) (by assumption) ?_
      rotate_left
      · (intro W hW; (try dsimp only at hW); go_simp <;> (with_reducible rfl))
      try simp only [Act.put, List.setIfInBounds_toArray, List.set_cons_zero, List.set_cons_succ]
      refine wpAnyH_take (i := 4) (oi := { dst := some 41, op := Op.fieldAddr 89 (Operand.tmp 40) 0, type := 0, pos := "law.go:174", after := #[{ on := 3, ground := Ground.data }], guard := none }) (v := ?_) rfl (by kernel_rfl) (by kernel_rfl) (by kernel_rfl) (fun _ _ _ h => h) (Or.inl ⟨by rfl, ?_⟩) (by assumption) ?_
      rotate_left
      · (intro W hW; (try dsimp only at hW); go_simp <;> (with_reducible rfl))
      try simp only [Act.put, List.setIfInBounds_toArray, List.set_cons_zero, List.set_cons_succ]
      refine wpAnyH_take (i := 5) (oi := { dst := some 42, op := Op.load 9 (Operand.tmp 41), type := 9, pos := "law.go:174", after := #[{ on := 4, ground := Ground.data }], guard := none }) (v := ?_) rfl (by kernel_rfl) (by kernel_rfl) (by kernel_rfl) (fun _ _ _ h => h) (Or.inl ⟨by rfl, ?_⟩) (by assumption) ?_
      rotate_left
      · (intro W hW; (try dsimp only at hW); go_simp <;> (with_reducible rfl))
      try simp only [Act.put, List.setIfInBounds_toArray, List.set_cons_zero, List.set_cons_succ]
      refine wpAnyH_take (i := 6) (oi := { dst := some 43, op := Op.move (Operand.tmp 0), type := 86, pos := "law.go:174", after := #[], guard := none }) (v := ?_) rfl (by kernel_rfl) (by kernel_rfl) (by kernel_rfl) (fun _ _ _ h => h) (Or.inl ⟨by rfl, ?_⟩) (by assumption) ?_
      rotate_left
      · (intro W hW; (try dsimp only at hW); go_simp <;> (with_reducible rfl))
      try simp only [Act.put, List.setIfInBounds_toArray, List.set_cons_zero, List.set_cons_succ]
      refine wpAnyH_take (i := 7) (oi := { dst := some 44, op := Op.move (Operand.tmp 8), type := 3, pos := "law.go:174", after := #[], guard := none }) (v := ?_) rfl (by kernel_rfl) (by kernel_rfl) (by kernel_rfl) (fun _ _ _ h => h) (Or.inl ⟨by rfl, ?_⟩) (by assumption) ?_
      rotate_left
      · (intro W hW; (try dsimp only at hW); go_simp <;> (with_reducible rfl))
      try simp only [Act.put, List.setIfInBounds_toArray, List.set_cons_zero, List.set_cons_succ]
      refine wpAnyH_take (i := 8) (oi := { dst := some 45, op := Op.indexAddr 86 (Operand.tmp 43) (Operand.tmp 44), type := 0, pos := "law.go:174", after := #[{ on := 6, ground := Ground.data }, { on := 7, ground := Ground.data }], guard := none }) (v := ?_) rfl (by kernel_rfl) (by kernel_rfl) (by kernel_rfl) (fun _ _ _ h => h) (Or.inl ⟨by rfl, ?_⟩) (by assumption) ?_
      rotate_left
      · (intro W hW; (try dsimp only at hW); go_simp <;> (with_reducible rfl))
      try simp only [Act.put, List.setIfInBounds_toArray, List.set_cons_zero, List.set_cons_succ]
      refine wpAnyH_take (i := 9) (oi := { dst := some 46, op := Op.fieldAddr 89 (Operand.tmp 45) 1, type := 0, pos := "law.go:174", after := #[{ on := 8, ground := Ground.data }], guard := none }) (v := ?_) rfl (by kernel_rfl) (by kernel_rfl) (by kernel_rfl) (fun _ _ _ h => h) (Or.inl ⟨by rfl, ?_⟩) (by assumption) ?_
      rotate_left
      · (intro W hW; (try dsimp only at hW); go_simp <;> (with_reducible rfl))
      try simp only [Act.put, List.setIfInBounds_toArray, List.set_cons_zero, List.set_cons_succ]
      refine wpAnyH_take (i := 10) (oi := { dst := some 47, op := Op.load 3 (Operand.tmp 46), type := 3, pos := "law.go:174", after := #[{ on := 9, ground := Ground.data }], guard := none }) (v := ?_) rfl (by kernel_rfl) (by kernel_rfl) (by kernel_rfl) (fun _ _ _ h => h) (Or.inl ⟨by rfl, ?_⟩) (by assumption) ?_
      rotate_left
      · (intro W hW; (try dsimp only at hW); go_simp <;> (with_reducible rfl))
      try simp only [Act.put, List.setIfInBounds_toArray, List.set_cons_zero, List.set_cons_succ]
      refine wpAnyH_take (i := 11) (oi := { dst := some 48, op := Op.call { callee := Callee.builtin Builtin.max, args := #[Operand.tmp 47, Operand.const (Value.int IntKind.i64 0)], argTypes := #[3, 3] }, type := 3, pos := "law.go:174", after := #[{ on := 10, ground := Ground.data }], guard := none }) (v := ?_) rfl (by kernel_rfl) (by kernel_rfl) (by kernel_rfl) (fun _ _ _ h => h) (Or.inl ⟨by rfl, ?_⟩) (by assumption) ?_
      rotate_left
      · (intro W hW; (try dsimp only at hW); go_simp <;> (with_reducible rfl))
      try simp only [Act.put, List.setIfInBounds_toArray, List.set_cons_zero, List.set_cons_succ]
      refine wpAnyH_ready (rs := [0, 12]) (by kernel_rfl) (by simp) (AllReadyH.cons (o := { dst := some 37, op := Op.load 33 (Operand.tmp 7), type := 33, pos := "law.go:174", after := #[], guard := none }) rfl (fun K hK => ?_) (AllReadyH.cons (o := { dst := some 49, op := Op.call { callee := Callee.value (Operand.func 50), args := #[Operand.tmp 48], argTypes := #[3] }, type := 9, pos := "law.go:174", after := #[{ on := 11, ground := Ground.data }], guard := none }) rfl (fun K hK => ?_) AllReadyH.nil))
      · (rw [if_pos (by rfl)]; go_wp2_with (fail))
        refine hK.out _ _ (by (repeat (with_reducible first | assumption | exact AgreeF.refl _ | apply AgreeF.al | apply AgreeF.dr | apply AgreeF.st))) (fun hHeld => ?_)
        clear hK K
        try simp only [Act.put, List.setIfInBounds_toArray, List.set_cons_zero, List.set_cons_succ]
        refine wpAnyH_ready (rs := [12]) (by kernel_rfl) (by simp) (AllReadyH.cons (o := { dst := some 49, op := Op.call { callee := Callee.value (Operand.func 50), args := #[Operand.tmp 48], argTypes := #[3] }, type := 9, pos := "law.go:174", after := #[{ on := 11, ground := Ground.data }], guard := none }) rfl (fun K hK => ?_) AllReadyH.nil)
        (rw [if_pos (by rfl)]; go_wp2_with (go_at_call 50; (with_reducible refine (CV _).mono ?_); rintro e w6 ⟨rfl, hb6⟩; have hB6 : Below wr.heap.size wr w6 := below_via (by (repeat (with_reducible first | assumption | exact Below.refl _ _ | apply Below.al | apply Below.dr))) hb6; have hA6 : AgreeF (fun x => x ≠ w3.heap.size) wr w6 := AgreeF.of_below hB6; have hx6 := HXB.out.step hB6; have m0 := hx6.cell 0 0 rfl rfl; have m1 := hx6.cell 0 1 rfl rfl; have m2 := hx6.cell 0 2 rfl rfl; have m3 := hx6.cell 0 3 rfl rfl; have m4 := hx6.cell 0 4 rfl rfl))
        refine hK.out _ _ (by (repeat (with_reducible first | assumption | exact AgreeF.refl _ | apply AgreeF.al | apply AgreeF.dr | apply AgreeF.st))) (fun hHeld => ?_)
        clear hK K
        try simp only [Act.put, List.setIfInBounds_toArray, List.set_cons_zero, List.set_cons_succ]
        refine wpAnyH_ready (rs := [13]) (by kernel_rfl) (by simp) (AllReadyH.cons (o := { dst := some 50, op := Op.call { callee := Callee.value (Operand.func 33), args := #[Operand.tmp 37, Operand.tmp 42, Operand.tmp 49], argTypes := #[33, 9, 9] }, type := 33, pos := "law.go:174", after := #[{ on := 0, ground := Ground.data }, { on := 5, ground := Ground.data }, { on := 12, ground := Ground.data }, { on := 12, ground := Ground.chain }], guard := none }) rfl (fun K hK => ?_) AllReadyH.nil)
        (rw [if_pos (by rfl)]; go_wp2_with (go_at_call 33; (with_reducible refine (CP _ ?_).mono ?_); (focus (repeat (with_reducible first | assumption | exact Below.refl _ _ | apply Below.al | apply Below.dr))); rintro e w9 hq9; obtain ⟨M, cs9, hM9, rfl, hn9, hw9, hE9, hb9⟩ := hq9; obtain ⟨j1, j2, j3, j4, j5, j6, j7, j8, ecs9, _, _⟩ := hn9.words; subst ecs9; have HE9 := Lib.hid hE9; clear hE9; have hB9 : Below wr.heap.size wr w9 := below_via (by (repeat (with_reducible first | assumption | exact Below.refl _ _ | apply Below.al | apply Below.dr))) hb9; have hA9 : AgreeF (fun x => x ≠ w3.heap.size) wr w9 := AgreeF.of_below hB9; have hx9 := HXB.out.step hB9; have z0 := hx9.cell 0 0 rfl rfl; have u0 := hx9.frozen 0 0 rfl; have z1 := hx9.cell 0 1 rfl rfl; have u1 := hx9.frozen 0 1 rfl; have z2 := hx9.cell 0 2 rfl rfl; have u2 := hx9.frozen 0 2 rfl; have z3 := hx9.cell 0 3 rfl rfl; have u3 := hx9.frozen 0 3 rfl; have z4 := hx9.cell 0 4 rfl rfl; have u4 := hx9.frozen 0 4 rfl))
        refine hK.out _ _ (by (repeat (with_reducible first | assumption | exact AgreeF.refl _ | apply AgreeF.al | apply AgreeF.dr | apply AgreeF.st))) (fun hHeld => ?_)
        clear hK K
        try simp only [Act.put, List.setIfInBounds_toArray, List.set_cons_zero, List.set_cons_succ]
        refine wpAnyH_ready (rs := [14]) (by kernel_rfl) (by simp) (AllReadyH.cons (o := { dst := none, op := Op.store 33 (Operand.tmp 7) (Operand.tmp 50), type := 0, pos := "law.go:174", after := #[{ on := 13, ground := Ground.data }, { on := 13, ground := Ground.chain }, { on := 0, ground := Ground.phase }, { on := 1, ground := Ground.phase }, { on := 2, ground := Ground.phase }, { on := 3, ground := Ground.phase }, { on := 4, ground := Ground.phase }, { on := 5, ground := Ground.phase }, { on := 6, ground := Ground.phase }, { on := 7, ground := Ground.phase }, { on := 8, ground := Ground.phase }, { on := 9, ground := Ground.phase }, { on := 10, ground := Ground.phase }, { on := 11, ground := Ground.phase }, { on := 12, ground := Ground.phase }, { on := 13, ground := Ground.phase }], guard := none }) rfl (fun K hK => ?_) AllReadyH.nil)
        (rw [if_pos (by rfl)]; go_wp2_with (fail))
        refine hK.out _ _ (by (repeat (with_reducible first | assumption | exact AgreeF.refl _ | apply AgreeF.al | apply AgreeF.dr | apply AgreeF.st))) (fun hHeld => ?_)
        clear hK K
        try simp only [Act.put, List.setIfInBounds_toArray, List.set_cons_zero, List.set_cons_succ]
        refine wpAnyH_done (by kernel_rfl) ?_ _
        refine NoPanic.normal ?_
        have hA := PutStay.mk (B := w3.heap.size + 1) (w := w) (wr := wr) hx9 hn9 (hGB _ (by (repeat (with_reducible first | assumption | exact Below.refl _ _ | apply Below.al | apply Below.dr)))) hBB hw9 hM9 HE9.out hA9 (HBW.out.trans (hB9.mono HBW.out.size)) hle
        unfold set5 at hA
        have HA := Lib.hid hA
        clear hA hx9 hn9 hA9 hB9 hb9
        go_wp2_with fail
        go_roundw
        case rel => obtain ⟨M9, h1, h2, h3, h4, h5⟩ := HA.out; exact ⟨k + 1, M9, T, hlk, by go_num, h1, by omega, put_some (by rw [h3, HEE.out]) hen HWN.out.srt, h5⟩
        case measure => simp [intOf]; omega
      · (rw [if_pos (by rfl)]; go_wp2_with (go_at_call 50; (with_reducible refine (CV _).mono ?_); rintro e w6 ⟨rfl, hb6⟩; have hB6 : Below wr.heap.size wr w6 := below_via (by (repeat (with_reducible first | assumption | exact Below.refl _ _ | apply Below.al | apply Below.dr))) hb6; have hA6 : AgreeF (fun x => x ≠ w3.heap.size) wr w6 := AgreeF.of_below hB6; have hx6 := HXB.out.step hB6; have m0 := hx6.cell 0 0 rfl rfl; have m1 := hx6.cell 0 1 rfl rfl; have m2 := hx6.cell 0 2 rfl rfl; have m3 := hx6.cell 0 3 rfl rfl; have m4 := hx6.cell 0 4 rfl rfl))
        refine hK.out _ _ (by (repeat (with_reducible first | assumption | exact AgreeF.refl _ | apply AgreeF.al | apply AgreeF.dr | apply AgreeF.st))) (fun hHeld => ?_)
        clear hK K
        try simp only [Act.put, List.setIfInBounds_toArray, List.set_cons_zero, List.set_cons_succ]
        refine wpAnyH_ready (rs := [0]) (by kernel_rfl) (by simp) (AllReadyH.cons (o := { dst := some 37, op := Op.load 33 (Operand.tmp 7), type := 33, pos := "law.go:174", after := #[], guard := none }) rfl (fun K hK => ?_) AllReadyH.nil)
        (rw [if_pos (by rfl)]; go_wp2_with (fail))
        refine hK.out _ _ (by (repeat (with_reducible first | assumption | exact AgreeF.refl _ | apply AgreeF.al | apply AgreeF.dr | apply AgreeF.st))) (fun hHeld => ?_)
        clear hK K
        try simp only [Act.put, List.setIfInBounds_toArray, List.set_cons_zero, List.set_cons_succ]
        refine wpAnyH_ready (rs := [13]) (by kernel_rfl) (by simp) (AllReadyH.cons (o := { dst := some 50, op := Op.call { callee := Callee.value (Operand.func 33), args := #[Operand.tmp 37, Operand.tmp 42, Operand.tmp 49], argTypes := #[33, 9, 9] }, type := 33, pos := "law.go:174", after := #[{ on := 0, ground := Ground.data }, { on := 5, ground := Ground.data }, { on := 12, ground := Ground.data }, { on := 12, ground := Ground.chain }], guard := none }) rfl (fun K hK => ?_) AllReadyH.nil)
        (rw [if_pos (by rfl)]; go_wp2_with (go_at_call 33; (with_reducible refine (CP _ ?_).mono ?_); (focus (repeat (with_reducible first | assumption | exact Below.refl _ _ | apply Below.al | apply Below.dr))); rintro e w9 hq9; obtain ⟨M, cs9, hM9, rfl, hn9, hw9, hE9, hb9⟩ := hq9; obtain ⟨j1, j2, j3, j4, j5, j6, j7, j8, ecs9, _, _⟩ := hn9.words; subst ecs9; have HE9 := Lib.hid hE9; clear hE9; have hB9 : Below wr.heap.size wr w9 := below_via (by (repeat (with_reducible first | assumption | exact Below.refl _ _ | apply Below.al | apply Below.dr))) hb9; have hA9 : AgreeF (fun x => x ≠ w3.heap.size) wr w9 := AgreeF.of_below hB9; have hx9 := HXB.out.step hB9; have z0 := hx9.cell 0 0 rfl rfl; have u0 := hx9.frozen 0 0 rfl; have z1 := hx9.cell 0 1 rfl rfl; have u1 := hx9.frozen 0 1 rfl; have z2 := hx9.cell 0 2 rfl rfl; have u2 := hx9.frozen 0 2 rfl; have z3 := hx9.cell 0 3 rfl rfl; have u3 := hx9.frozen 0 3 rfl; have z4 := hx9.cell 0 4 rfl rfl; have u4 := hx9.frozen 0 4 rfl))
        refine hK.out _ _ (by (repeat (with_reducible first | assumption | exact AgreeF.refl _ | apply AgreeF.al | apply AgreeF.dr | apply AgreeF.st))) (fun hHeld => ?_)
        clear hK K
        try simp only [Act.put, List.setIfInBounds_toArray, List.set_cons_zero, List.set_cons_succ]
        refine wpAnyH_ready (rs := [14]) (by kernel_rfl) (by simp) (AllReadyH.cons (o := { dst := none, op := Op.store 33 (Operand.tmp 7) (Operand.tmp 50), type := 0, pos := "law.go:174", after := #[{ on := 13, ground := Ground.data }, { on := 13, ground := Ground.chain }, { on := 0, ground := Ground.phase }, { on := 1, ground := Ground.phase }, { on := 2, ground := Ground.phase }, { on := 3, ground := Ground.phase }, { on := 4, ground := Ground.phase }, { on := 5, ground := Ground.phase }, { on := 6, ground := Ground.phase }, { on := 7, ground := Ground.phase }, { on := 8, ground := Ground.phase }, { on := 9, ground := Ground.phase }, { on := 10, ground := Ground.phase }, { on := 11, ground := Ground.phase }, { on := 12, ground := Ground.phase }, { on := 13, ground := Ground.phase }], guard := none }) rfl (fun K hK => ?_) AllReadyH.nil)
        (rw [if_pos (by rfl)]; go_wp2_with (fail))
        refine hK.out _ _ (by (repeat (with_reducible first | assumption | exact AgreeF.refl _ | apply AgreeF.al | apply AgreeF.dr | apply AgreeF.st))) (fun hHeld => ?_)
        clear hK K
        try simp only [Act.put, List.setIfInBounds_toArray, List.set_cons_zero, List.set_cons_succ]
        refine wpAnyH_done (by kernel_rfl) ?_ _
        refine NoPanic.normal ?_
        have hA := PutStay.mk (B := w3.heap.size + 1) (w := w) (wr := wr) hx9 hn9 (hGB _ (by (repeat (with_reducible first | assumption | exact Below.refl _ _ | apply Below.al | apply Below.dr)))) hBB hw9 hM9 HE9.out hA9 (HBW.out.trans (hB9.mono HBW.out.size)) hle
        unfold set5 at hA
        have HA := Lib.hid hA
        clear hA hx9 hn9 hA9 hB9 hb9
        go_wp2_with fail
        go_roundw
        case rel => obtain ⟨M9, h1, h2, h3, h4, h5⟩ := HA.out; exact ⟨k + 1, M9, T, hlk, by go_num, h1, by omega, put_some (by rw [h3, HEE.out]) hen HWN.out.srt, h5⟩
        case measure => simp [intOf]; omega
  case rest =>
  obtain ⟨N, t, hbox, hN, hen, hb⟩ := hcut
  obtain ⟨p, lf, a1, n1, c1, a2, n2, c2, a3, n3, c3, hx, hn, hw⟩ := hbox
  obtain ⟨E, hE⟩ : ∃ E, entsT N t = E := ⟨_, rfl⟩
  rw [hE] at hen
  have hsrt : Srt E := by rw [← hE]; exact hw.srt
  have HX := Lib.hid hx
  have HN := Lib.hid hn
  have HW := Lib.hid hw
  have HE := Lib.hid hE
  have HS := Lib.hid hsrt
  have HB := Lib.hid hb
  clear hx hn hw hb hE hsrt
  go_wp2_with fail
  go_loopw [9, 10] (fun s9 s10 wx => ∃ (i : Nat) (z : Int), i ≤ m ∧ s10 = .int .i64 z ∧ z = (i : Int) - 1 ∧ OwnKs wc.heap.size wx s9 (ks.drop i).reverse ∧ Below wc.heap.size wc wx) (fun _ s _ => (intOf s + 1).toNat)
  case atStart => exact ⟨m, _, Nat.le_refl _, rfl, by go_num, by rw [List.drop_of_length_le (by rw [HKL.out]; exact Nat.le_refl _)]; exact OwnKs.nil _ _, Below.refl _ _⟩
  case round =>
    obtain ⟨i, z, hi, rfl, hz, hq, hb9⟩ := hrel
    cases i with
    | succ j =>
      obtain rfl : z = (j : Int) := by omega
      have hj : j < m := hi
      obtain ⟨bk, ok, rfl, hbk, hck⟩ := HK.out.at hj
      obtain ⟨key, hkey⟩ : ∃ k, ks[j]?.getD [] = k := ⟨_, rfl⟩
      rw [hkey] at hck
      have hsz := hb9.size
      have hnx : (ks.drop j).reverse = (ks.drop (j + 1)).reverse ++ [key] := by
        have hjl : j < ks.length := by rw [HKL.out]; exact hj
        rw [List.drop_eq_getElem_cons hjl, List.reverse_cons, ← hkey, List.getElem?_eq_getElem hjl]; rfl
      obtain ⟨v8, w8, hr8, hq8, hg8⟩ := hq.app hsz (by simp [HKL.out]; omega) key
      rw [← hnx] at hq8
      have HB8 := Lib.hid (hb9.grown hg8 hsz (fun g hg => (hq.lt g hg).1))
      have HQ8 := Lib.hid hq8
      have c0 : wr.cell? ⟨bk, ok + j, none⟩ = some (.string (strOf key)) := ((below_via HB.out hb9).cell (p := ⟨bk, ok + j, none⟩) hbk).trans hck
      clear hz hq hb9 hck hkey hnx hq8 hg8
      go_wp2_with (at_builtin; refine wpList_append_run rfl _ _ _ _ rfl rfl rfl hr8 ?_)
      go_roundw
      case rel => exact ⟨j, _, by omega, rfl, by go_num, HQ8.out, HB8.out⟩
      case measure => simp [intOf]
    | zero =>
      obtain rfl : z = -1 := by omega
      obtain ⟨qa, qc, he, hkq, hqc1, hqc2, _⟩ := hq.sl
      rw [List.drop_zero, List.length_reverse, HKL.out] at he hkq hqc1
      subst he
      have hbr : Below w.heap.size w wr := below_via HB.out hb9
      have hnr := (HN.out.below hb9).lt
      have hxr := HX.out.step hb9
      have hkr : KeysIn wr ka m kc ks := TabR.below (Nat.le_refl _) hbr HK.out
      have hs2 := dels_same (p := ks.reverse) (q := ks) HS.out (fun k => List.mem_reverse)
      obtain ⟨ED, hED⟩ : ∃ x, delsL ks E = x := ⟨_, rfl⟩
      obtain ⟨H, hH⟩ : ∃ x, hitsL ks E = x := ⟨_, rfl⟩
      have hlen := hits_length (p := ks) HS.out
      rw [hED, hH] at hs2 hlen
      have C1 := without_any hnr HW.out hkr (by rw [HKL.out]; omega)
      have C2 : ∀ W, Below wr.heap.size wr W → Calls Try.prog 54 #[.agg #[.int .i64 p, .bool lf, .slice a1 n1 c1, .slice a2 n2 c2, .slice a3 n3 c3], .slice qa m qc] W (WithoutTo (fun x => w3.heap.size + 1 ≤ x ∧ x < wr.heap.size) N W t ks.reverse) := fun W hW => without_any (hnr.below hW) HW.out (TabR.below (Nat.le_refl _) hW hkq) (by rw [List.length_reverse, HKL.out]; omega)
      have f0 := hxr.cell 0 0 rfl rfl
      have f1 := hxr.cell 0 1 rfl rfl
      have f2 := hxr.cell 0 2 rfl rfl
      have f3 := hxr.cell 0 3 rfl rfl
      have f4 := hxr.cell 0 4 rfl rfl
      have HXR := Lib.hid hxr
      have HBR := Lib.hid hbr
      have HNR := Lib.hid hnr
      have HS2 := Lib.hid hs2
      have HED := Lib.hid hED
      have HH := Lib.hid hH
      clear hz hq hb9 hbr hnr hxr hkr hs2 hED hH hkq
      go_wp2_with fail
      refine C1.mono ?_
      rintro e w4 ⟨N4, T4, p4, lf4, a41, n41, c41, a42, n42, c42, a43, n43, c43, hN4, rfl, hn4, hw4, hE4, _, hb4⟩
      rw [HE.out, HH.out]
      rw [HE.out, HED.out] at hE4
      have hba4 : Below w4.heap.size w4 (w4.alloc (.cells #[.int .i64 p4, .bool lf4, .slice a41 n41 c41, .slice a42 n42 c42, .slice a43 n43 c43] 33)) := Below.al (Below.refl _ _)
      have hra4 : Below wr.heap.size wr (w4.alloc (.cells #[.int .i64 p4, .bool lf4, .slice a41 n41 c41, .slice a42 n42 c42, .slice a43 n43 c43] 33)) := hb4.trans (hba4.mono hb4.size)
      have hx4 := ((Boxes.nil w4).alloc #[.int .i64 p4, .bool lf4, .slice a41 n41 c41, .slice a42 n42 c42, .slice a43 n43 c43] 33 (b := w4.heap.size) rfl)
      have hn4 := (hn4.below hba4).lt
      have C2 := C2 _ hra4
      have hx7 := HXR.out.step hra4
      clear f0 f1 f2 f3 f4 C1
      have f0 := hx7.cell 0 0 rfl rfl
      have f1 := hx7.cell 0 1 rfl rfl
      have f2 := hx7.cell 0 2 rfl rfl
      have f3 := hx7.cell 0 3 rfl rfl
      have f4 := hx7.cell 0 4 rfl rfl
      have HX4 := Lib.hid hx4
      have HN4 := Lib.hid hn4
      have HW4 := Lib.hid hw4
      have HE4 := Lib.hid hE4
      have HRA4 := Lib.hid hra4
      clear hb4 hba4 hra4 hx4 hn4 hw4 hE4 hx7
      go_wp2_with fail
      refine C2.mono ?_
      rintro e w5 ⟨N5, T5, p5, lf5, a51, n51, c51, a52, n52, c52, a53, n53, c53, hN5, rfl, hn5, hw5, hE5, _, hb5⟩
      rw [List.length_reverse] at hN5
      rw [HE.out, HS2.out.2]
      rw [HE.out, HS2.out.1] at hE5
      have hba5 : Below w5.heap.size w5 (w5.alloc (.cells #[.int .i64 p5, .bool lf5, .slice a51 n51 c51, .slice a52 n52 c52, .slice a53 n53 c53] 33)) := Below.al (Below.refl _ _)
      have h45 : Below (w4.alloc (.cells #[.int .i64 p4, .bool lf4, .slice a41 n41 c41, .slice a42 n42 c42, .slice a43 n43 c43] 33)).heap.size (w4.alloc (.cells #[.int .i64 p4, .bool lf4, .slice a41 n41 c41, .slice a42 n42 c42, .slice a43 n43 c43] 33)) (w5.alloc (.cells #[.int .i64 p5, .bool lf5, .slice a51 n51 c51, .slice a52 n52 c52, .slice a53 n53 c53] 33)) := hb5.trans (hba5.mono hb5.size)
      have hx5 := ((Boxes.nil w5).alloc #[.int .i64 p5, .bool lf5, .slice a51 n51 c51, .slice a52 n52 c52, .slice a53 n53 c53] 33 (b := w5.heap.size) rfl)
      have hn5 := (hn5.below hba5).lt
      have hr5 : Below wr.heap.size wr (w5.alloc (.cells #[.int .i64 p5, .bool lf5, .slice a51 n51 c51, .slice a52 n52 c52, .slice a53 n53 c53] 33)) := HRA4.out.trans (h45.mono HRA4.out.size)
      have hx4 := HX4.out.step h45
      have hn4 := (HN4.out.below h45).lt
      have CPL := plain16_ents hn4 HW4.out (by rw [HE4.out]; omega)
      rw [HE4.out] at CPL
      clear f0 f1 f2 f3 f4 C2
      have f0 := hx4.cell 0 0 rfl rfl
      have f1 := hx4.cell 0 1 rfl rfl
      have f2 := hx4.cell 0 2 rfl rfl
      have f3 := hx4.cell 0 3 rfl rfl
      have f4 := hx4.cell 0 4 rfl rfl
      have HX4 := Lib.hid hx4
      have HN4 := Lib.hid hn4
      have HX5 := Lib.hid hx5
      have HN5 := Lib.hid hn5
      have HW5 := Lib.hid hw5
      have HE5 := Lib.hid hE5
      have HR5 := Lib.hid hr5
      clear hb5 hba5 h45 hx4 hx5 hn4 hn5 hw5 hE5 hr5
      obtain ⟨z5, hz5⟩ : ∃ x, (w5.alloc (.cells #[.int .i64 p5, .bool lf5, .slice a51 n51 c51, .slice a52 n52 c52, .slice a53 n53 c53] 33)).heap.size = x := ⟨_, rfl⟩
      go_wp2_with fail
      refine CPL.mono ?_
      rintro e w6 ⟨p6, lf6, a6, m6, c6, rfl, hb6, hE6⟩
      go_wp2_with fail
      refine (hE6 _ (Below.refl _ _)).mono ?_
      rintro e w7 ⟨ax, mx, cx, rfl, hex, hb7⟩
      have h57 : Below (w5.alloc (.cells #[.int .i64 p5, .bool lf5, .slice a51 n51 c51, .slice a52 n52 c52, .slice a53 n53 c53] 33)).heap.size (w5.alloc (.cells #[.int .i64 p5, .bool lf5, .slice a51 n51 c51, .slice a52 n52 c52, .slice a53 n53 c53] 33)) w7 := hb6.trans (hb7.mono hb6.size)
      obtain ⟨k, hk⟩ : ∃ x, ED.length = x := ⟨_, rfl⟩
      have hmx : k = mx := by rw [← hk]; exact hex.len.1
      subst hmx
      rw [hk] at hlen
      have hx5 := HX5.out.step h57
      have hn5 := (HN5.out.below h57).lt
      have CPL := plain16_ents hn5 HW5.out (by rw [HE5.out]; omega)
      rw [HE5.out] at CPL
      clear f0 f1 f2 f3 f4
      have f0 := hx5.cell 0 0 rfl rfl
      have f1 := hx5.cell 0 1 rfl rfl
      have f2 := hx5.cell 0 2 rfl rfl
      have f3 := hx5.cell 0 3 rfl rfl
      have f4 := hx5.cell 0 4 rfl rfl
      have HEX := Lib.hid hex
      have HX4 := Lib.hid (HX4.out.step h57)
      have HN4 := Lib.hid (HN4.out.below h57).lt
      have HX5 := Lib.hid hx5
      have HN5 := Lib.hid hn5
      have HR7 := Lib.hid (HR5.out.trans (h57.mono HR5.out.size))
      have HKK := Lib.hid hk
      rw [HKL.out] at hN4 hN5
      clear hE6 hb6 hb7 hex h57 hx5 hn5 hk hz5
      go_wp2_with fail
      refine CPL.mono ?_
      rintro e w8 ⟨p8, lf8, a8, m8, c8, rfl, hb8, hE8⟩
      go_wp2_with fail
      refine (hE8 _ (Below.refl _ _)).mono ?_
      rintro e w9 ⟨ay, my, cy, rfl, hey, hb9⟩
      have h79 : Below w7.heap.size w7 w9 := hb8.trans (hb9.mono hb8.size)
      have hmy : k = my := by rw [← HKK.out]; exact hey.len.1
      subst hmy
      have hr9 : Below wr.heap.size wr w9 := HR7.out.trans (h79.mono HR7.out.size)
      have hx9 := HXR.out.step hr9
      have hn9 := (HNR.out.below hr9).lt
      have CPL := plain16_ents hn9 HW.out (by rw [HE.out]; omega)
      rw [HE.out] at CPL
      have hHH : ((H : Int) != (H : Int)) = false := by simp
      have hkk : ((k : Int) != (k : Int)) = false := by simp
      clear f0 f1 f2 f3 f4
      have f0 := hx9.cell 0 0 rfl rfl
      have f1 := hx9.cell 0 1 rfl rfl
      have f2 := hx9.cell 0 2 rfl rfl
      have f3 := hx9.cell 0 3 rfl rfl
      have f4 := hx9.cell 0 4 rfl rfl
      have HEY := Lib.hid hey
      have H79 := Lib.hid h79
      have HX4 := Lib.hid (HX4.out.step h79)
      have HN4 := Lib.hid (HN4.out.below h79).lt
      have HX5 := Lib.hid (HX5.out.step h79)
      have HN5 := Lib.hid (HN5.out.below h79).lt
      have HR9 := Lib.hid hr9
      clear hE8 hb8 hb9 hey h79 hx9 hn9 hr9
      go_wp2_with fail
      refine CPL.mono ?_
      rintro e w10 ⟨p10, lf10, a10, m10, c10, rfl, hb10, hE10⟩
      go_wp2_with fail
      refine (hE10 _ (Below.refl _ _)).mono ?_
      rintro e w11 ⟨av, mv, cv, rfl, hev, hb11⟩
      have h911 : Below w9.heap.size w9 w11 := hb10.trans (hb11.mono hb10.size)
      have hmv : E.length = mv := hev.len.1
      have hkH : ((k : Int) + (H : Int) != (mv : Int)) = false := by simp; omega
      have hx11 := HX4.out.step h911
      have CC := tcheck_any (HN4.out.below h911).toIn HW4.out.bnd (by omega)
      rw [whole_check HW4.out] at CC
      clear f0 f1 f2 f3 f4
      have f0 := hx11.cell 0 0 rfl rfl
      have f1 := hx11.cell 0 1 rfl rfl
      have f2 := hx11.cell 0 2 rfl rfl
      have f3 := hx11.cell 0 3 rfl rfl
      have f4 := hx11.cell 0 4 rfl rfl
      have H911 := Lib.hid h911
      clear hE10 hb10 hb11 hev h911 hx11
      go_wp2_with fail
      refine CC.mono ?_
      rintro e w12 ⟨rfl, hb12⟩
      have h912 := H911.out.trans (hb12.mono H911.out.size)
      have hx12 := HX5.out.step h912
      have CC := tcheck_any (HN5.out.below h912).toIn HW5.out.bnd (by omega)
      rw [whole_check HW5.out] at CC
      clear f0 f1 f2 f3 f4
      have f0 := hx12.cell 0 0 rfl rfl
      have f1 := hx12.cell 0 1 rfl rfl
      have f2 := hx12.cell 0 2 rfl rfl
      have f3 := hx12.cell 0 3 rfl rfl
      have f4 := hx12.cell 0 4 rfl rfl
      have H912 := Lib.hid h912
      clear hb12 h912 hx12
      go_wp2_with fail
      refine CC.mono ?_
      rintro e w13 ⟨rfl, hb13⟩
      have h913 := H912.out.trans (hb13.mono H912.out.size)
      have H913 := Lib.hid h913
      have HB13 := Lib.hid (HBR.out.trans ((HR9.out.trans (h913.mono HR9.out.size)).mono HBR.out.size))
      have H713 := Lib.hid (H79.out.trans (h913.mono H79.out.size))
      clear CC CPL hb13 h913 f0 f1 f2 f3 f4
      go_wp2_with fail
      go_loopw [17] (fun s17 wx => ∃ i4 : Nat, i4 ≤ k ∧ s17 = .int .i64 i4 ∧ Below w13.heap.size w13 wx) (fun s _ => k - (intOf s).toNat)
      case atStart => exact ⟨0, Nat.zero_le _, rfl, Below.refl _ _⟩
      case round =>
        obtain ⟨i4, hi4, rfl, hby⟩ := hrel
        by_cases hl4 : i4 < k
        · obtain ⟨bx, ox, yx, rfl, hbx, hyx, cx0, cx1⟩ := HEX.out.at hl4
          obtain ⟨by_, oy, yy, rfl, hby2, hyy, cy0, cy1⟩ := HEY.out.at hl4
          rw [hyx] at hyy
          cases hyy
          have r0 := ((below_via H713.out hby).cell (p := ⟨bx, ox + i4 * 4, none⟩) hbx).trans cx0
          have r1 := ((below_via H713.out hby).cell (p := ⟨bx, ox + i4 * 4 + 1, none⟩) hbx).trans cx1
          have s0 := ((below_via H913.out hby).cell (p := ⟨by_, oy + i4 * 4, none⟩) hby2).trans cy0
          have s1 := ((below_via H913.out hby).cell (p := ⟨by_, oy + i4 * 4 + 1, none⟩) hby2).trans cy1
          obtain ⟨ky, vy⟩ := yx
          dsimp only at *
          have q1 : ((strOf ky).toList == (strOf ky).toList) = true := by simp
          have q2' : ((strOf vy.data).toList == (strOf vy.data).toList) = true := by simp
          have ecx := HEX.out.len.2
          have ecy := HEY.out.len.2
          clear cx0 cx1 cy0 cy1 hyx
          go_upto_region 26 with (fail)
          go_quiet (fail)
          go_wp2
          go_roundw
          case rel => exact ⟨i4 + 1, hl4, by go_num, below_drewN hby _⟩
          case measure => simp [intOf]; omega
        · obtain rfl : i4 = k := by omega
          have HE := Lib.hid (HB13.out.trans (hby.mono HB13.out.size))
          clear hby
          go_wp2_with fail
          go_ret
          exact ⟨rfl, HE.out⟩
end Go.Proofs.Ytemfnjlfcemehaa
