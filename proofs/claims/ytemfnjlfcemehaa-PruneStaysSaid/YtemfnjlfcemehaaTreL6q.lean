/- The law PruneStays (printed by gen_treL6.py). -/
import Derived.Test.YtemfnjlfcemehaaTreAxq
import Derived.Test.YtemfnjlfcemehaaTreSuq
import Derived.Test.YtemfnjlfcemehaaTreSwq
import Derived.Test.YtemfnjlfcemehaaM9
import Derived.Deep.RegionHeld3
import Derived.Deep.DeepCutAuto
import Derived.Deep.CutBlock
import Derived.Deep.QuietTactic
import Derived.BigQuiet
namespace Go.Proofs.Ytemfnjlfcemehaa
open Go.RowKit

set_option maxRecDepth 100000 in
set_option maxHeartbeats 4000000 in
theorem lPStays {w : World} {a : Option Addr} {n c : Nat} {l : List St} (h : Sts w a n c l) {ka : Option Addr} {m kc : Nat} {ks : List (List UInt8)} (ho : KeysIn w ka m kc ks) :
    Calls Try.prog 13 #[.slice a n c, .slice ka m kc] w fun e w' => e = .returned (.bool true) ∧ Below w.heap.size w w' := by
  obtain ⟨o1, o2, o3⟩ := ho.lens
  have HK := Lib.hid ho
  have HKL := Lib.hid o1
  clear ho o1
  obtain ⟨e1, e2, e3⟩ := TabR.lens h
  have HP := Lib.hid h
  have HL := Lib.hid e1
  have A := awake16_any w
  clear h e1
  go_enter Try.func13, Try.ntmps13
  go_wp2_with fail
  refine A.mono ?_
  rintro e w1 ⟨rfl, hb1⟩
  have hp1 : Sts w1 a n c l := TabR.below (Nat.le_refl _) hb1 HP.out
  clear A
  go_wp2_with fail
  refine (small16_any hp1).mono ?_
  rintro e w2 ⟨rfl, rfl⟩
  obtain ⟨S, hS⟩ : ∃ S, smallS l = S := ⟨_, rfl⟩
  rw [hS]
  cases S with
  | false =>
    have HB := Lib.hid hb1
    clear hp1 hb1 hS
    go_wp2_with fail
    go_ret
    exact ⟨rfl, HB.out⟩
  | true =>
  obtain ⟨hl120, hall⟩ := okS_facts hS
  have hn120 : n ≤ 120 := by rw [← HL.out]; exact hl120
  have HALL := Lib.hid hall
  have HB1 := Lib.hid hb1
  clear hp1 hb1 hS hall hl120
  by_cases hm60 : 60 < m
  · have d1 : decide ((60 : Int) < (m : Int)) = true := by simp; omega
    have d1' : decide (60 < m) = true := by simp; omega
    clear hm60
    go_wp2_with fail
    go_ret
    exact ⟨rfl, HB1.out⟩
  have d1 : decide ((60 : Int) < (m : Int)) = false := by simp; omega
  have d1' : decide (60 < m) = false := by simp; omega
  go_wp2_with fail
  refine (tempty_any w2 (fun _ => False)).mono ?_
  rintro e w3 ⟨cs, rfl, hn0, hb3⟩
  obtain ⟨x1, k1, x2, k2, x3, k3, ecs, hn0⟩ := empty_on (F := fun _ => False) hn0
  subst ecs
  have hbox := TrBox.new (B := w3.heap.size + 1) hn0 (fun b h => h.elim) whole_empty 33
  have hbel : Below w.heap.size w (w3.alloc (.cells #[.int .i64 0, .bool true, .slice x1 0 k1, .slice x2 0 k2, .slice x3 0 k3] 33)) := Below.al (HB1.out.trans (hb3.mono HB1.out.size))
  have HBOX := Lib.hid hbox
  have HBEL := Lib.hid hbel
  have hle : w.heap.size ≤ w3.heap.size := Nat.le_trans HB1.out.size hb3.size
  clear hn0 hb3 hbox hbel
  go_upto_block 0 with (fail)
  go_cut [] (fun wq => ∃ N t, TrBox (w3.heap.size + 1) w3.heap.size wq N t ∧ N ≤ 121 ∧ (entsT N t).length ≤ 120 ∧ Below w.heap.size w wq)
  case first =>
    go_wp2_with fail
    go_loopw [8] (fun s wx => ∃ (k N : Nat) (t : Tr), k ≤ n ∧ s = .int .i64 k ∧ TrBox (w3.heap.size + 1) w3.heap.size wx N t ∧ N ≤ k + 1 ∧ (entsT N t).length ≤ k ∧ Below w.heap.size w wx) (fun s _ => n - (intOf s).toNat)
    case atStart => exact ⟨0, 1, _, Nat.zero_le _, rfl, HBOX.out, Nat.le_refl _, Nat.le_refl _, HBEL.out⟩
    case round =>
      clear HBOX HBEL
      obtain ⟨k, N, t, hk, rfl, hbox, hN, hen, hb⟩ := hrel
      by_cases hlk : k < n
      rotate_left
      · obtain rfl : k = n := by omega
        have hEX : Hid (∃ N t, TrBox (w3.heap.size + 1) w3.heap.size wr N t ∧ N ≤ 121 ∧ (entsT N t).length ≤ 120 ∧ Below w.heap.size w wr) := Lib.hid ⟨N, t, hbox, by omega, by omega, hb⟩
        clear hbox hb hen
        go_wp2_with fail
        go_meet
        exact hEX.out
      obtain ⟨bl, ol, y, rfl, hbl, hy, c0, c1⟩ := HP.out.at hlk
      obtain ⟨hyk, hys⟩ := HALL.out y (List.mem_of_getElem? hy)
      obtain ⟨sz, hszm⟩ : ∃ sz : Nat, (if y.size < 0 then (0 : Int) else y.size) = (sz : Int) := ⟨(if y.size < 0 then (0 : Int) else y.size).toNat, by split <;> omega⟩
      have hsz4 : sz ≤ 400 := by split at hszm <;> omega
      obtain ⟨p, lf, a1, n1, c1', a2, n2, c2, a3, n3, c3, hx, hn, hw⟩ := hbox
      have hxl := hx.lt 0 rfl
      have hnl := hn.lt
      have hne : bl ≠ w3.heap.size := by omega
      have hbl2 := Nat.lt_of_lt_of_le hbl hb.size
      have l0 : ∀ W, AgreeF (fun x => x ≠ w3.heap.size) wr W → W.cell? ⟨bl, ol + k * 2, none⟩ = some (.string (strOf y.key)) := fun W hW => (hW.cell hne hbl2).trans ((hb.cell (p := ⟨bl, ol + k * 2, none⟩) hbl).trans c0)
      have l1 : ∀ W, AgreeF (fun x => x ≠ w3.heap.size) wr W → W.cell? ⟨bl, ol + k * 2 + 1, none⟩ = some (.int .i64 y.size) := fun W hW => (hW.cell hne hbl2).trans ((hb.cell (p := ⟨bl, ol + k * 2 + 1, none⟩) hbl).trans c1)
      obtain ⟨T, hT⟩ : ∃ T, putW N t y.key ⟨fillT 0 sz, []⟩ = T := ⟨_, rfl⟩
      obtain ⟨E, hE⟩ : ∃ E, entsT N t = E := ⟨_, rfl⟩
      have CP : ∀ W, Below wr.heap.size wr W → Calls Try.prog 33 #[.agg #[.int .i64 p, .bool lf, .slice a1 n1 c1', .slice a2 n2 c2, .slice a3 n3 c3], .string (strOf y.key), .string (strOf (fillT 0 sz))] W (fun e w' => ∃ M cs, M ≤ N + 1 ∧ e = .returned (.agg cs.toArray) ∧ NodeOn (Fr (fun x => w3.heap.size + 1 ≤ x ∧ x < wr.heap.size) W) M w' cs T ∧ Whole M T ∧ entsT M T = putL y.key ⟨fillT 0 sz, []⟩ E ∧ Below W.heap.size W w') := fun W hW => (tPut_whole (hnl.below hW) hw y.key (fillT 0 sz) hyk (by rw [fillT_len]; exact hsz4)).mono fun e w' h => by
        unfold PutTo at h
        rw [hT, hE] at h
        exact h
      have CV : ∀ W, Calls Try.prog 50 #[.int .i64 (sz : Int)] W (fun e w' => e = .returned (.string (strOf (fillT 0 sz))) ∧ Below W.heap.size W w') := fun W => value16_any sz hsz4 W
      have hGB : ∀ W, Below wr.heap.size wr W → ∀ x, Fr (fun x => w3.heap.size + 1 ≤ x ∧ x < wr.heap.size) W x → w3.heap.size + 1 ≤ x := fun W hW x h => fr_le (fun b h => h.1) (by omega) hW.size h
      have hBB : w3.heap.size < w3.heap.size + 1 := Nat.lt_succ_self _
      have f0 := hx.cell 0 0 rfl rfl
      have f1 := hx.cell 0 1 rfl rfl
      have f2 := hx.cell 0 2 rfl rfl
      have f3 := hx.cell 0 3 rfl rfl
      have f4 := hx.cell 0 4 rfl rfl
      have HXB := Lib.hid hx
      have HBW := Lib.hid hb
      have HEE := Lib.hid hE
      have HTT := Lib.hid hT
      have HWN := Lib.hid hw
      have hA0 : AgreeF (fun x => x ≠ w3.heap.size) wr wr.drew := AgreeF.refl _
      clear hx hn hnl hw hb hE hT hyk hy c0 c1
      go_upto_region 11 with (fail)
      refine wp_region_noPanic ?_
      refine wp_region_held_drew (S := (fun W => AgreeF (fun x => x ≠ w3.heap.size) wr W)) (by kernel_rfl) (by (repeat (with_reducible first | assumption | exact AgreeF.refl _ | apply AgreeF.al | apply AgreeF.dr | apply AgreeF.st))) (fun hHeld => ?_)
      refine wpAnyH_take (i := 1) (oi := { dst := some 40, op := Op.move (Operand.tmp 0), type := 86, pos := "law.go:99", after := #[], guard := none }) (v := ?_) rfl (by kernel_rfl) (by kernel_rfl) (by kernel_rfl) (fun _ _ _ h => h) (Or.inl ⟨by rfl, ?_⟩) (by assumption) ?_
      rotate_left
      · (intro W hW; (try dsimp only at hW); go_simp <;> (with_reducible rfl))
      try simp only [Act.put, List.setIfInBounds_toArray, List.set_cons_zero, List.set_cons_succ]
      refine wpAnyH_take (i := 2) (oi := { dst := some 41, op := Op.move (Operand.tmp 8), type := 3, pos := "law.go:99", after := #[], guard := none }) (v := ?_) rfl (by kernel_rfl) (by kernel_rfl) (by kernel_rfl) (fun _ _ _ h => h) (Or.inl ⟨by rfl, ?_⟩) (by assumption) ?_
      rotate_left
      · (intro W hW; (try dsimp only at hW); go_simp <;> (with_reducible rfl))
      try simp only [Act.put, List.setIfInBounds_toArray, List.set_cons_zero, List.set_cons_succ]
      refine wpAnyH_take (i := 3) (oi := { dst := some 42, op := Op.indexAddr 86 (Operand.tmp 40) (Operand.tmp 41), type := 0, pos := "law.go:99", after := #[{ on := 1, ground := Ground.data }, { on := 2, ground := Ground.data }], guard := none }) (v := ?_) rfl (by kernel_rfl) (by kernel_rfl) (by kernel_rfl) (fun _ _ _ h => h) (Or.inl ⟨by rfl, ?_⟩) (by assumption) ?_
      rotate_left
      · (intro W hW; (try dsimp only at hW); go_simp <;> (with_reducible rfl))
      try simp only [Act.put, List.setIfInBounds_toArray, List.set_cons_zero, List.set_cons_succ]
      refine wpAnyH_take (i := 4) (oi := { dst := some 43, op := Op.fieldAddr 89 (Operand.tmp 42) 0, type := 0, pos := "law.go:99", after := #[{ on := 3, ground := Ground.data }], guard := none }) (v := ?_) rfl (by kernel_rfl) (by kernel_rfl) (by kernel_rfl) (fun _ _ _ h => h) (Or.inl ⟨by rfl, ?_⟩) (by assumption) ?_
      rotate_left
      · (intro W hW; (try dsimp only at hW); go_simp <;> (with_reducible rfl))
      try simp only [Act.put, List.setIfInBounds_toArray, List.set_cons_zero, List.set_cons_succ]
      refine wpAnyH_take (i := 5) (oi := { dst := some 44, op := Op.load 9 (Operand.tmp 43), type := 9, pos := "law.go:99", after := #[{ on := 4, ground := Ground.data }], guard := none }) (v := ?_) rfl (by kernel_rfl) (by kernel_rfl) (by kernel_rfl) (fun _ _ _ h => h) (Or.inl ⟨by rfl, ?_⟩) (by assumption) ?_
      rotate_left
      · (intro W hW; (try dsimp only at hW); go_simp <;> (with_reducible rfl))
      try simp only [Act.put, List.setIfInBounds_toArray, List.set_cons_zero, List.set_cons_succ]
      refine wpAnyH_take (i := 6) (oi := { dst := some 45, op := Op.move (Operand.tmp 0), type := 86, pos := "law.go:99", after := #[], guard := none }) (v := ?_) rfl (by kernel_rfl) (by kernel_rfl) (by kernel_rfl) (fun _ _ _ h => h) (Or.inl ⟨by rfl, ?_⟩) (by assumption) ?_
      rotate_left
      · (intro W hW; (try dsimp only at hW); go_simp <;> (with_reducible rfl))
      try simp only [Act.put, List.setIfInBounds_toArray, List.set_cons_zero, List.set_cons_succ]
      refine wpAnyH_take (i := 7) (oi := { dst := some 46, op := Op.move (Operand.tmp 8), type := 3, pos := "law.go:99", after := #[], guard := none }) (v := ?_) rfl (by kernel_rfl) (by kernel_rfl) (by kernel_rfl) (fun _ _ _ h => h) (Or.inl ⟨by rfl, ?_⟩) (by assumption) ?_
      rotate_left
      · (intro W hW; (try dsimp only at hW); go_simp <;> (with_reducible rfl))
      try simp only [Act.put, List.setIfInBounds_toArray, List.set_cons_zero, List.set_cons_succ]
      refine wpAnyH_take (i := 8) (oi := { dst := some 47, op := Op.indexAddr 86 (Operand.tmp 45) (Operand.tmp 46), type := 0, pos := "law.go:99", after := #[{ on := 6, ground := Ground.data }, { on := 7, ground := Ground.data }], guard := none }) (v := ?_) rfl (by kernel_rfl) (by kernel_rfl) (by kernel_rfl) (fun _ _ _ h => h) (Or.inl ⟨by rfl, ?_⟩) (by assumption) ?_
      rotate_left
      · (intro W hW; (try dsimp only at hW); go_simp <;> (with_reducible rfl))
      try simp only [Act.put, List.setIfInBounds_toArray, List.set_cons_zero, List.set_cons_succ]
      refine wpAnyH_take (i := 9) (oi := { dst := some 48, op := Op.fieldAddr 89 (Operand.tmp 47) 1, type := 0, pos := "law.go:99", after := #[{ on := 8, ground := Ground.data }], guard := none }) (v := ?_) rfl (by kernel_rfl) (by kernel_rfl) (by kernel_rfl) (fun _ _ _ h => h) (Or.inl ⟨by rfl, ?_⟩) (by assumption) ?_
      rotate_left
      · (intro W hW; (try dsimp only at hW); go_simp <;> (with_reducible rfl))
      try simp only [Act.put, List.setIfInBounds_toArray, List.set_cons_zero, List.set_cons_succ]
      refine wpAnyH_take (i := 10) (oi := { dst := some 49, op := Op.load 3 (Operand.tmp 48), type := 3, pos := "law.go:99", after := #[{ on := 9, ground := Ground.data }], guard := none }) (v := ?_) rfl (by kernel_rfl) (by kernel_rfl) (by kernel_rfl) (fun _ _ _ h => h) (Or.inl ⟨by rfl, ?_⟩) (by assumption) ?_
      rotate_left
      · (intro W hW; (try dsimp only at hW); go_simp <;> (with_reducible rfl))
      try simp only [Act.put, List.setIfInBounds_toArray, List.set_cons_zero, List.set_cons_succ]
      refine wpAnyH_take (i := 11) (oi := { dst := some 50, op := Op.call { callee := Callee.builtin Builtin.max, args := #[Operand.tmp 49, Operand.const (Value.int IntKind.i64 0)], argTypes := #[3, 3] }, type := 3, pos := "law.go:99", after := #[{ on := 10, ground := Ground.data }], guard := none }) (v := ?_) rfl (by kernel_rfl) (by kernel_rfl) (by kernel_rfl) (fun _ _ _ h => h) (Or.inl ⟨by rfl, ?_⟩) (by assumption) ?_
      rotate_left
      · (intro W hW; (try dsimp only at hW); go_simp <;> (with_reducible rfl))
      try simp only [Act.put, List.setIfInBounds_toArray, List.set_cons_zero, List.set_cons_succ]
      refine wpAnyH_ready (rs := [0, 12]) (by kernel_rfl) (by simp) (AllReadyH.cons (o := { dst := some 39, op := Op.load 33 (Operand.tmp 7), type := 33, pos := "law.go:99", after := #[], guard := none }) rfl (fun K hK => ?_) (AllReadyH.cons (o := { dst := some 51, op := Op.call { callee := Callee.value (Operand.func 50), args := #[Operand.tmp 50], argTypes := #[3] }, type := 9, pos := "law.go:99", after := #[{ on := 11, ground := Ground.data }], guard := none }) rfl (fun K hK => ?_) AllReadyH.nil))
      · (rw [if_pos (by rfl)]; go_wp2_with (fail))
        refine hK.out _ _ (by (repeat (with_reducible first | assumption | exact AgreeF.refl _ | apply AgreeF.al | apply AgreeF.dr | apply AgreeF.st))) (fun hHeld => ?_)
        clear hK K
        try simp only [Act.put, List.setIfInBounds_toArray, List.set_cons_zero, List.set_cons_succ]
        refine wpAnyH_ready (rs := [12]) (by kernel_rfl) (by simp) (AllReadyH.cons (o := { dst := some 51, op := Op.call { callee := Callee.value (Operand.func 50), args := #[Operand.tmp 50], argTypes := #[3] }, type := 9, pos := "law.go:99", after := #[{ on := 11, ground := Ground.data }], guard := none }) rfl (fun K hK => ?_) AllReadyH.nil)
        (rw [if_pos (by rfl)]; go_wp2_with (go_at_call 50; (with_reducible refine (CV _).mono ?_); rintro e w6 ⟨rfl, hb6⟩; have hB6 : Below wr.heap.size wr w6 := below_via (by (repeat (with_reducible first | assumption | exact Below.refl _ _ | apply Below.al | apply Below.dr))) hb6; have hA6 : AgreeF (fun x => x ≠ w3.heap.size) wr w6 := AgreeF.of_below hB6; have hx6 := HXB.out.step hB6; have m0 := hx6.cell 0 0 rfl rfl; have m1 := hx6.cell 0 1 rfl rfl; have m2 := hx6.cell 0 2 rfl rfl; have m3 := hx6.cell 0 3 rfl rfl; have m4 := hx6.cell 0 4 rfl rfl))
        refine hK.out _ _ (by (repeat (with_reducible first | assumption | exact AgreeF.refl _ | apply AgreeF.al | apply AgreeF.dr | apply AgreeF.st))) (fun hHeld => ?_)
        clear hK K
        try simp only [Act.put, List.setIfInBounds_toArray, List.set_cons_zero, List.set_cons_succ]
        refine wpAnyH_ready (rs := [13]) (by kernel_rfl) (by simp) (AllReadyH.cons (o := { dst := some 52, op := Op.call { callee := Callee.value (Operand.func 33), args := #[Operand.tmp 39, Operand.tmp 44, Operand.tmp 51], argTypes := #[33, 9, 9] }, type := 33, pos := "law.go:99", after := #[{ on := 0, ground := Ground.data }, { on := 5, ground := Ground.data }, { on := 12, ground := Ground.data }, { on := 12, ground := Ground.chain }], guard := none }) rfl (fun K hK => ?_) AllReadyH.nil)
        (rw [if_pos (by rfl)]; go_wp2_with (go_at_call 33; (with_reducible refine (CP _ ?_).mono ?_); (focus (repeat (with_reducible first | assumption | exact Below.refl _ _ | apply Below.al | apply Below.dr))); rintro e w9 hq9; obtain ⟨M, cs9, hM9, rfl, hn9, hw9, hE9, hb9⟩ := hq9; obtain ⟨j1, j2, j3, j4, j5, j6, j7, j8, ecs9, _, _⟩ := hn9.words; subst ecs9; have HE9 := Lib.hid hE9; clear hE9; have hB9 : Below wr.heap.size wr w9 := below_via (by (repeat (with_reducible first | assumption | exact Below.refl _ _ | apply Below.al | apply Below.dr))) hb9; have hA9 : AgreeF (fun x => x ≠ w3.heap.size) wr w9 := AgreeF.of_below hB9; have hx9 := HXB.out.step hB9; have z0 := hx9.cell 0 0 rfl rfl; have u0 := hx9.frozen 0 0 rfl; have z1 := hx9.cell 0 1 rfl rfl; have u1 := hx9.frozen 0 1 rfl; have z2 := hx9.cell 0 2 rfl rfl; have u2 := hx9.frozen 0 2 rfl; have z3 := hx9.cell 0 3 rfl rfl; have u3 := hx9.frozen 0 3 rfl; have z4 := hx9.cell 0 4 rfl rfl; have u4 := hx9.frozen 0 4 rfl))
        refine hK.out _ _ (by (repeat (with_reducible first | assumption | exact AgreeF.refl _ | apply AgreeF.al | apply AgreeF.dr | apply AgreeF.st))) (fun hHeld => ?_)
        clear hK K
        try simp only [Act.put, List.setIfInBounds_toArray, List.set_cons_zero, List.set_cons_succ]
        refine wpAnyH_ready (rs := [14]) (by kernel_rfl) (by simp) (AllReadyH.cons (o := { dst := none, op := Op.store 33 (Operand.tmp 7) (Operand.tmp 52), type := 0, pos := "law.go:99", after := #[{ on := 13, ground := Ground.data }, { on := 13, ground := Ground.chain }, { on := 0, ground := Ground.phase }, { on := 1, ground := Ground.phase }, { on := 2, ground := Ground.phase }, { on := 3, ground := Ground.phase }, { on := 4, ground := Ground.phase }, { on := 5, ground := Ground.phase }, { on := 6, ground := Ground.phase }, { on := 7, ground := Ground.phase }, { on := 8, ground := Ground.phase }, { on := 9, ground := Ground.phase }, { on := 10, ground := Ground.phase }, { on := 11, ground := Ground.phase }, { on := 12, ground := Ground.phase }, { on := 13, ground := Ground.phase }], guard := none }) rfl (fun K hK => ?_) AllReadyH.nil)
        (rw [if_pos (by rfl)]; go_wp2_with (fail))
        refine hK.out _ _ (by (repeat (with_reducible first | assumption | exact AgreeF.refl _ | apply AgreeF.al | apply AgreeF.dr | apply AgreeF.st))) (fun hHeld => ?_)
        clear hK K
        try simp only [Act.put, List.setIfInBounds_toArray, List.set_cons_zero, List.set_cons_succ]
        refine wpAnyH_done (by kernel_rfl) ?_ _
        refine NoPanic.normal ?_
        have hA := PutStay.mk (B := w3.heap.size + 1) (w := w) (wr := wr) hx9 hn9 (hGB _ (by (repeat (with_reducible first | assumption | exact Below.refl _ _ | apply Below.al | apply Below.dr)))) hBB hw9 hM9 HE9.out hA9 (HBW.out.trans (hB9.mono HBW.out.size)) hle
        unfold set5 at hA
        have HA := Lib.hid hA
        clear hA hx9 hn9 hA9 hB9 hb9
        go_wp2_with fail
        go_roundw
        case rel => obtain ⟨M9, h1, h2, h3, h4, h5⟩ := HA.out; exact ⟨k + 1, M9, T, hlk, by go_num, h1, by omega, put_some (by rw [h3, HEE.out]) hen HWN.out.srt, h5⟩
        case measure => simp [intOf]; omega
      · (rw [if_pos (by rfl)]; go_wp2_with (go_at_call 50; (with_reducible refine (CV _).mono ?_); rintro e w6 ⟨rfl, hb6⟩; have hB6 : Below wr.heap.size wr w6 := below_via (by (repeat (with_reducible first | assumption | exact Below.refl _ _ | apply Below.al | apply Below.dr))) hb6; have hA6 : AgreeF (fun x => x ≠ w3.heap.size) wr w6 := AgreeF.of_below hB6; have hx6 := HXB.out.step hB6; have m0 := hx6.cell 0 0 rfl rfl; have m1 := hx6.cell 0 1 rfl rfl; have m2 := hx6.cell 0 2 rfl rfl; have m3 := hx6.cell 0 3 rfl rfl; have m4 := hx6.cell 0 4 rfl rfl))
        refine hK.out _ _ (by (repeat (with_reducible first | assumption | exact AgreeF.refl _ | apply AgreeF.al | apply AgreeF.dr | apply AgreeF.st))) (fun hHeld => ?_)
        clear hK K
        try simp only [Act.put, List.setIfInBounds_toArray, List.set_cons_zero, List.set_cons_succ]
        refine wpAnyH_ready (rs := [0]) (by kernel_rfl) (by simp) (AllReadyH.cons (o := { dst := some 39, op := Op.load 33 (Operand.tmp 7), type := 33, pos := "law.go:99", after := #[], guard := none }) rfl (fun K hK => ?_) AllReadyH.nil)
        (rw [if_pos (by rfl)]; go_wp2_with (fail))
        refine hK.out _ _ (by (repeat (with_reducible first | assumption | exact AgreeF.refl _ | apply AgreeF.al | apply AgreeF.dr | apply AgreeF.st))) (fun hHeld => ?_)
        clear hK K
        try simp only [Act.put, List.setIfInBounds_toArray, List.set_cons_zero, List.set_cons_succ]
        refine wpAnyH_ready (rs := [13]) (by kernel_rfl) (by simp) (AllReadyH.cons (o := { dst := some 52, op := Op.call { callee := Callee.value (Operand.func 33), args := #[Operand.tmp 39, Operand.tmp 44, Operand.tmp 51], argTypes := #[33, 9, 9] }, type := 33, pos := "law.go:99", after := #[{ on := 0, ground := Ground.data }, { on := 5, ground := Ground.data }, { on := 12, ground := Ground.data }, { on := 12, ground := Ground.chain }], guard := none }) rfl (fun K hK => ?_) AllReadyH.nil)
        (rw [if_pos (by rfl)]; go_wp2_with (go_at_call 33; (with_reducible refine (CP _ ?_).mono ?_); (focus (repeat (with_reducible first | assumption | exact Below.refl _ _ | apply Below.al | apply Below.dr))); rintro e w9 hq9; obtain ⟨M, cs9, hM9, rfl, hn9, hw9, hE9, hb9⟩ := hq9; obtain ⟨j1, j2, j3, j4, j5, j6, j7, j8, ecs9, _, _⟩ := hn9.words; subst ecs9; have HE9 := Lib.hid hE9; clear hE9; have hB9 : Below wr.heap.size wr w9 := below_via (by (repeat (with_reducible first | assumption | exact Below.refl _ _ | apply Below.al | apply Below.dr))) hb9; have hA9 : AgreeF (fun x => x ≠ w3.heap.size) wr w9 := AgreeF.of_below hB9; have hx9 := HXB.out.step hB9; have z0 := hx9.cell 0 0 rfl rfl; have u0 := hx9.frozen 0 0 rfl; have z1 := hx9.cell 0 1 rfl rfl; have u1 := hx9.frozen 0 1 rfl; have z2 := hx9.cell 0 2 rfl rfl; have u2 := hx9.frozen 0 2 rfl; have z3 := hx9.cell 0 3 rfl rfl; have u3 := hx9.frozen 0 3 rfl; have z4 := hx9.cell 0 4 rfl rfl; have u4 := hx9.frozen 0 4 rfl))
        refine hK.out _ _ (by (repeat (with_reducible first | assumption | exact AgreeF.refl _ | apply AgreeF.al | apply AgreeF.dr | apply AgreeF.st))) (fun hHeld => ?_)
        clear hK K
        try simp only [Act.put, List.setIfInBounds_toArray, List.set_cons_zero, List.set_cons_succ]
        refine wpAnyH_ready (rs := [14]) (by kernel_rfl) (by simp) (AllReadyH.cons (o := { dst := none, op := Op.store 33 (Operand.tmp 7) (Operand.tmp 52), type := 0, pos := "law.go:99", after := #[{ on := 13, ground := Ground.data }, { on := 13, ground := Ground.chain }, { on := 0, ground := Ground.phase }, { on := 1, ground := Ground.phase }, { on := 2, ground := Ground.phase }, { on := 3, ground := Ground.phase }, { on := 4, ground := Ground.phase }, { on := 5, ground := Ground.phase }, { on := 6, ground := Ground.phase }, { on := 7, ground := Ground.phase }, { on := 8, ground := Ground.phase }, { on := 9, ground := Ground.phase }, { on := 10, ground := Ground.phase }, { on := 11, ground := Ground.phase }, { on := 12, ground := Ground.phase }, { on := 13, ground := Ground.phase }], guard := none }) rfl (fun K hK => ?_) AllReadyH.nil)
        (rw [if_pos (by rfl)]; go_wp2_with (fail))
        refine hK.out _ _ (by (repeat (with_reducible first | assumption | exact AgreeF.refl _ | apply AgreeF.al | apply AgreeF.dr | apply AgreeF.st))) (fun hHeld => ?_)
        clear hK K
        try simp only [Act.put, List.setIfInBounds_toArray, List.set_cons_zero, List.set_cons_succ]
        refine wpAnyH_done (by kernel_rfl) ?_ _
        refine NoPanic.normal ?_
        have hA := PutStay.mk (B := w3.heap.size + 1) (w := w) (wr := wr) hx9 hn9 (hGB _ (by (repeat (with_reducible first | assumption | exact Below.refl _ _ | apply Below.al | apply Below.dr)))) hBB hw9 hM9 HE9.out hA9 (HBW.out.trans (hB9.mono HBW.out.size)) hle
        unfold set5 at hA
        have HA := Lib.hid hA
        clear hA hx9 hn9 hA9 hB9 hb9
        go_wp2_with fail
        go_roundw
        case rel => obtain ⟨M9, h1, h2, h3, h4, h5⟩ := HA.out; exact ⟨k + 1, M9, T, hlk, by go_num, h1, by omega, put_some (by rw [h3, HEE.out]) hen HWN.out.srt, h5⟩
        case measure => simp [intOf]; omega
  case rest =>
  obtain ⟨N0, t0', hbox, hN, hen, hb⟩ := hcut
  have HBOX2 := Lib.hid hbox
  have HB2 := Lib.hid hb
  clear hbox hb
  go_wp2_with fail
  go_loopw [9] (fun s9 wx => ∃ (i N : Nat) (t : Tr), i ≤ m ∧ s9 = .int .i64 i ∧ TrBox (w3.heap.size + 1) w3.heap.size wx N t ∧ N ≤ 121 + i ∧ (entsT N t).length ≤ 120 ∧ Below w.heap.size w wx) (fun s _ => m - (intOf s).toNat)
  case atStart => exact ⟨0, N0, t0', Nat.zero_le _, rfl, HBOX2.out, hN, hen, HB2.out⟩
  case round =>
    clear HBOX2 HB2 hen hN
    obtain ⟨i, N, t, hi, rfl, hbox, hN, hen, hb⟩ := hrel
    obtain ⟨p, lf, a1, n1, c1, a2, n2, c2, a3, n3, c3, hx, hn, hw⟩ := hbox
    by_cases hlt : i < m
    · obtain ⟨bk, ok, rfl, hbk, hck⟩ := HK.out.at hlt
      obtain ⟨key, hkey⟩ : ∃ k, ks[i]?.getD [] = k := ⟨_, rfl⟩
      rw [hkey] at hck
      have hxl := hx.lt 0 rfl
      obtain ⟨E, hE⟩ : ∃ E, entsT N t = E := ⟨_, rfl⟩
      have hP1 := plain16_ents hn hw (by omega)
      rw [hE] at hP1 hen
      have f0 := hx.cell 0 0 rfl rfl
      have f1 := hx.cell 0 1 rfl rfl
      have f2 := hx.cell 0 2 rfl rfl
      have f3 := hx.cell 0 3 rfl rfl
      have f4 := hx.cell 0 4 rfl rfl
      have HX := Lib.hid hx
      have HN := Lib.hid hn
      have HB := Lib.hid hb
      have HE := Lib.hid hE
      have HCK := Lib.hid hck
      clear hx hn hb hE hkey hck
      go_wp2_with fail
      refine hP1.mono ?_
      rintro e w4 ⟨p4, lf4, a4, m4, c4, rfl, hb4, hE4⟩
      go_wp2_with fail
      refine (hE4 _ (Below.refl _ _)).mono ?_
      rintro e w5 ⟨aw, mw, cw, rfl, hwas, hb5⟩
      have hr5 : Below wr.heap.size wr w5 := hb4.trans (hb5.mono hb4.size)
      have hb05 : Below w.heap.size w w5 := HB.out.trans (hr5.mono HB.out.size)
      have hx5 := HX.out.step hr5
      have hn5 := (HN.out.below hr5).lt
      have hz35 : w3.heap.size + 1 ≤ w5.heap.size := Nat.le_trans hxl hr5.size
      obtain ⟨T, hT⟩ : ∃ T, delW N t key = T := ⟨_, rfl⟩
      obtain ⟨o, ho⟩ : ∃ o, (lookT E key).isSome = o := ⟨_, rfl⟩
      have CD : ∀ W, Below w5.heap.size w5 W → Calls Try.prog 51 #[.agg #[.int .i64 p, .bool lf, .slice a1 n1 c1, .slice a2 n2 c2, .slice a3 n3 c3], .string (strOf key)] W (fun e w' => ∃ M j0 j9 j1 j2 j3 j4 j5 j6 j7 j8 k8, M ≤ N + 1 ∧ e = .returned (.tuple #[.agg #[.int .i64 j0, .bool j9, .slice j1 j2 j3, .slice j4 j5 j6, .slice j7 j8 k8], .bool o]) ∧ NodeOn (Fr (fun x => w3.heap.size + 1 ≤ x ∧ x < w5.heap.size) W) M w' [.int .i64 j0, .bool j9, .slice j1 j2 j3, .slice j4 j5 j6, .slice j7 j8 k8] T ∧ Whole M T ∧ entsT M T = delL key E ∧ Below W.heap.size W w') := fun W hW => (pdel_any key (hn5.below hW) hw).mono fun e w' h => by
        unfold DelTo at h
        rw [hT, HE.out, ho] at h
        exact h
      have t0 : ∀ W, Below w5.heap.size w5 W → W.cell? ⟨w3.heap.size, 0, none⟩ = some (.int .i64 p) := fun W hW => (hx5.step hW).cell 0 0 rfl rfl
      have t1 : ∀ W, Below w5.heap.size w5 W → W.cell? ⟨w3.heap.size, 1, none⟩ = some (.bool lf) := fun W hW => (hx5.step hW).cell 0 1 rfl rfl
      have t2 : ∀ W, Below w5.heap.size w5 W → W.cell? ⟨w3.heap.size, 2, none⟩ = some (.slice a1 n1 c1) := fun W hW => (hx5.step hW).cell 0 2 rfl rfl
      have t3 : ∀ W, Below w5.heap.size w5 W → W.cell? ⟨w3.heap.size, 3, none⟩ = some (.slice a2 n2 c2) := fun W hW => (hx5.step hW).cell 0 3 rfl rfl
      have t4 : ∀ W, Below w5.heap.size w5 W → W.cell? ⟨w3.heap.size, 4, none⟩ = some (.slice a3 n3 c3) := fun W hW => (hx5.step hW).cell 0 4 rfl rfl
      have l0 : ∀ W, Below w5.heap.size w5 W → W.cell? ⟨bk, ok + i, none⟩ = some (.string (strOf key)) := fun W hW => ((below_via hb05 hW).cell (p := ⟨bk, ok + i, none⟩) hbk).trans HCK.out
      have HT := Lib.hid hT
      have HO := Lib.hid ho
      have HX5 := Lib.hid hx5
      have HB05 := Lib.hid hb05
      have HR5 := Lib.hid hr5
      have HWAS := Lib.hid hwas
      have HW := Lib.hid hw
      have hC0 : Below w5.heap.size w5 w5.drew := (Below.refl _ _).drew
      have hGB : ∀ W : World, w5.heap.size ≤ W.heap.size → ∀ b, Fr (fun x => w3.heap.size + 1 ≤ x ∧ x < w5.heap.size) W b → w3.heap.size + 1 ≤ b := fun W hW b h => fr_le (fun b h => h.1) hz35 hW h
      clear f0 f1 f2 f3 f4 hn5 hx5 hb4 hb5 hr5 hb05 hwas hE4 hP1 hw hT ho
      go_upto_region 16 with (fail)
      go_cut [11, 12] (fun s11 s12 wx => s12 = .bool o ∧ PutMid (w3.heap.size + 1) w5 N T (delL key E) s11 wx)
      case first =>
        go_region_held3 (fun W => Below w5.heap.size w5 W) (first | with_reducible assumption | (repeat (with_reducible first | assumption | exact Nat.le_refl _ | exact Below.refl _ _ | apply Below.al | apply Below.dr | apply Below.st))) (first | (go_at_call 51; (with_reducible refine (CD _ ?_).mono ?_); (focus (repeat (with_reducible first | assumption | exact Below.refl _ _ | apply Below.al | apply Below.dr))); rintro e w9 hq9; obtain ⟨M, j0, j9, j1, j2, j3, j4, j5, j6, j7, j8, k8, hM9, rfl, hn9, hw9, hE9, hb9⟩ := hq9; have HE9 := Lib.hid hE9; clear hE9; have hB9 : Below w5.heap.size w5 w9 := below_via (by (repeat (with_reducible first | assumption | exact Below.refl _ _ | apply Below.al | apply Below.dr))) hb9; (try (refine lay (P := BoxAt w9 w5.heap.size #[.int .i64 0, .bool false, .slice none 0 0, .slice none 0 0, .slice none 0 0]) (BoxAt.below ?_ hb9) ?_; (focus ((repeat (with_reducible first | assumption | exact BoxAt.here | apply BoxAt.dr | apply BoxAt.al)); done)); intro hz9; have z0 := hz9.cell (i := 0) rfl; have z1 := hz9.cell (i := 1) rfl; have z2 := hz9.cell (i := 2) rfl; have z3 := hz9.cell (i := 3) rfl; have z4 := hz9.cell (i := 4) rfl; have u0 := hz9.frozen 0; have u1 := hz9.frozen 1; have u2 := hz9.frozen 2; have u3 := hz9.frozen 3; have u4 := hz9.frozen 4))))
        all_goals
          go_wp2_with fail
          go_meet
          refine ⟨rfl, ?_⟩
          first
            | (have hA := PutMid.a (B := w3.heap.size + 1) (w2 := w5) (N := N) 33 hB9 hn9 (hGB _ (Nat.le_refl _)) hw9 hM9 HE9.out
               with_reducible exact hA)
            | (have hA := PutMid.b (B := w3.heap.size + 1) (w2 := w5) (N := N) (b := w5.heap.size) hB9 hz9 (Nat.le_refl _) hn9 (hGB _ (le_alloc (Nat.le_refl _) _)) (fr_not (fun h => by omega) (lt_alloc _ _)) hw9 hM9 HE9.out
               unfold set5 at hA
               with_reducible exact hA)
      case rest =>
      obtain ⟨rfl, hcut⟩ := hcut
      unfold PutMid TrBox at hcut
      obtain ⟨b8, M, rfl, ⟨p8, lf8, a81, n81, c81, a82, n82, c82, a83, n83, c83, hx8, hn8, hw8⟩, hbc, hb8, hM, hEM⟩ := hcut
      have hdl := del_le key E
      have hP2 := plain16_ents hn8 hw8 (by rw [hEM]; omega)
      have hfd : findT N t key = lookT E key := by rw [whole_find HW.out, HE.out]
      have hfm : findT M T key = none := by rw [whole_find hw8, hEM]; exact look_del key
      have hchk : checkT M T = true := whole_check hw8
      have hchn : checkT N t = true := whole_check HW.out
      obtain ⟨EN, hEN⟩ : ∃ q, delL key E = q := ⟨_, rfl⟩
      rw [hEM, hEN] at hP2
      rw [hEN] at hdl
      obtain ⟨r, hr⟩ : ∃ r, lookT E key = r := ⟨_, rfl⟩
      rw [hr] at hfd
      have hro : r.isSome = o := by rw [← hr]; exact HO.out
      have v0 := hx8.cell 0 0 rfl rfl
      have v1 := hx8.cell 0 1 rfl rfl
      have v2 := hx8.cell 0 2 rfl rfl
      have v3 := hx8.cell 0 3 rfl rfl
      have v4 := hx8.cell 0 4 rfl rfl
      have HX8 := Lib.hid hx8
      have HN8 := Lib.hid hn8
      have HW8 := Lib.hid hw8
      have HBC := Lib.hid hbc
      have HEM := Lib.hid hEM
      have HEN := Lib.hid hEN
      have HFD := Lib.hid hfd
      have HFM := Lib.hid hfm
      have HCHK := Lib.hid hchk
      have HCHN := Lib.hid hchn
      have HRO := Lib.hid hro
      clear hx8 hn8 hw8 hbc hEM hEN hfd hfm hchk hchn CD t0 t1 t2 t3 t4 l0 hC0 hr hro
      go_wp2_with fail
      refine hP2.mono ?_
      rintro e w10 ⟨p10, lf10, a10, m10, c10, rfl, hb10, hE10⟩
      go_wp2_with fail
      refine (hE10 _ (Below.refl _ _)).mono ?_
      rintro e w11 ⟨an, mn, cn, rfl, hnow, hb11⟩
      have hc11 : Below wc.heap.size wc w11 := hb10.trans (hb11.mono hb10.size)
      have h511 : Below w5.heap.size w5 w11 := HBC.out.trans (hc11.mono HBC.out.size)
      have h011 : Below w.heap.size w w11 := HB05.out.trans (h511.mono HB05.out.size)
      have hr11 : Below wr.heap.size wr w11 := HR5.out.trans (h511.mono HR5.out.size)
      have CF : ∀ W, Below w11.heap.size w11 W → Calls Try.prog 28 #[.agg #[.int .i64 p, .bool lf, .slice a1 n1 c1, .slice a2 n2 c2, .slice a3 n3 c3], .string (strOf key)] W (fun e w' => e = .returned (.tuple #[.string (strOf (r.getD [])), .bool o]) ∧ Below W.heap.size W w') := fun W hW => by
        have := tfind_any (HN.out.below (below_via hr11 hW)).toIn key (HW.out.find key)
        rw [HFD.out] at this
        unfold FoundPost at this
        rwa [HRO.out] at this
      have CG : ∀ W, Below w11.heap.size w11 W → Calls Try.prog 28 #[.agg #[.int .i64 p8, .bool lf8, .slice a81 n81 c81, .slice a82 n82 c82, .slice a83 n83 c83], .string (strOf key)] W (FoundPost W none) := fun W hW => by
        have := tfind_any (HN8.out.below (below_via hc11 hW)).toIn key (HW8.out.find key)
        rwa [HFM.out] at this
      have CC8 : ∀ W, Below w11.heap.size w11 W → Calls Try.prog 39 #[.agg #[.int .i64 p8, .bool lf8, .slice a81 n81 c81, .slice a82 n82 c82, .slice a83 n83 c83]] W (fun e w' => e = .returned (.bool true) ∧ Below W.heap.size W w') := fun W hW => by
        have := tcheck_any (HN8.out.below (below_via hc11 hW)).toIn HW8.out.bnd (by omega)
        rwa [HCHK.out] at this
      have CCN : ∀ W, Below w11.heap.size w11 W → Calls Try.prog 39 #[.agg #[.int .i64 p, .bool lf, .slice a1 n1 c1, .slice a2 n2 c2, .slice a3 n3 c3]] W (fun e w' => e = .returned (.bool true) ∧ Below W.heap.size W w') := fun W hW => by
        have := tcheck_any (HN.out.below (below_via hr11 hW)).toIn HW.out.bnd (by omega)
        rwa [HCHN.out] at this
      have CN : ∀ W, Below w11.heap.size w11 W → Calls Try.prog 53 #[.agg #[.int .i64 p, .bool lf, .slice a1 n1 c1, .slice a2 n2 c2, .slice a3 n3 c3]] W (PlainTo E W) := fun W hW => by
        have := plain16_ents (HN.out.below (below_via hr11 hW)) HW.out (by rw [HE.out]; omega)
        rwa [HE.out] at this
      have s0 : ∀ W, Below w11.heap.size w11 W → W.cell? ⟨b8, 0, none⟩ = some (.int .i64 p8) := fun W hW => (HX8.out.step (below_via hc11 hW)).cell 0 0 rfl rfl
      have s1 : ∀ W, Below w11.heap.size w11 W → W.cell? ⟨b8, 1, none⟩ = some (.bool lf8) := fun W hW => (HX8.out.step (below_via hc11 hW)).cell 0 1 rfl rfl
      have s2 : ∀ W, Below w11.heap.size w11 W → W.cell? ⟨b8, 2, none⟩ = some (.slice a81 n81 c81) := fun W hW => (HX8.out.step (below_via hc11 hW)).cell 0 2 rfl rfl
      have s3 : ∀ W, Below w11.heap.size w11 W → W.cell? ⟨b8, 3, none⟩ = some (.slice a82 n82 c82) := fun W hW => (HX8.out.step (below_via hc11 hW)).cell 0 3 rfl rfl
      have s4 : ∀ W, Below w11.heap.size w11 W → W.cell? ⟨b8, 4, none⟩ = some (.slice a83 n83 c83) := fun W hW => (HX8.out.step (below_via hc11 hW)).cell 0 4 rfl rfl
      have t0 : ∀ W, Below w11.heap.size w11 W → W.cell? ⟨w3.heap.size, 0, none⟩ = some (.int .i64 p) := fun W hW => (HX5.out.step (below_via h511 hW)).cell 0 0 rfl rfl
      have t1 : ∀ W, Below w11.heap.size w11 W → W.cell? ⟨w3.heap.size, 1, none⟩ = some (.bool lf) := fun W hW => (HX5.out.step (below_via h511 hW)).cell 0 1 rfl rfl
      have t2 : ∀ W, Below w11.heap.size w11 W → W.cell? ⟨w3.heap.size, 2, none⟩ = some (.slice a1 n1 c1) := fun W hW => (HX5.out.step (below_via h511 hW)).cell 0 2 rfl rfl
      have t3 : ∀ W, Below w11.heap.size w11 W → W.cell? ⟨w3.heap.size, 3, none⟩ = some (.slice a2 n2 c2) := fun W hW => (HX5.out.step (below_via h511 hW)).cell 0 3 rfl rfl
      have t4 : ∀ W, Below w11.heap.size w11 W → W.cell? ⟨w3.heap.size, 4, none⟩ = some (.slice a3 n3 c3) := fun W hW => (HX5.out.step (below_via h511 hW)).cell 0 4 rfl rfl
      have l0 : ∀ W, Below w11.heap.size w11 W → W.cell? ⟨bk, ok + i, none⟩ = some (.string (strOf key)) := fun W hW => ((below_via h011 hW).cell (p := ⟨bk, ok + i, none⟩) hbk).trans HCK.out
      have hC0 : Below w11.heap.size w11 w11.drew := (Below.refl _ _).drew
      have HNOW := Lib.hid hnow
      have HC11 := Lib.hid hc11
      have H511 := Lib.hid h511
      have H011 := Lib.hid h011
      clear hE10 hb10 hb11 hnow hc11 h511 h011 hr11 hP2 v0 v1 v2 v3 v4
      go_upto_region 18 with (fail)
      go_region_held3 (fun W => Below w11.heap.size w11 W) (first | with_reducible assumption | (repeat (with_reducible first | assumption | exact Below.refl _ _ | apply Below.al | apply Below.dr))) (first | (go_at_call 28; (with_reducible refine (CF _ ?_).mono ?_); (focus (repeat (with_reducible first | assumption | exact Below.refl _ _ | apply Below.al | apply Below.dr))); rintro e w12 ⟨rfl, hb12⟩; have hB12 : Below w11.heap.size w11 w12 := below_via (by (repeat (with_reducible first | assumption | exact Below.refl _ _ | apply Below.al | apply Below.dr))) hb12))
      have hC1 : Below w11.heap.size w11 w12.drew := hB12.drew
      go_upto_region 19 with (fail)
      go_region_held3 (fun W => Below w11.heap.size w11 W) (first | with_reducible assumption | (repeat (with_reducible first | assumption | exact Below.refl _ _ | apply Below.al | apply Below.dr))) (first | (go_at_call 28; (with_reducible refine (CG _ ?_).mono ?_); (focus (repeat (with_reducible first | assumption | exact Below.refl _ _ | apply Below.al | apply Below.dr))); rintro e w13 ⟨rfl, hb13⟩; have hB13 : Below w11.heap.size w11 w13 := below_via (by (repeat (with_reducible first | assumption | exact Below.refl _ _ | apply Below.al | apply Below.dr))) hb13))
      have qs0 := s0 w13 hB13
      have qs1 := s1 w13 hB13
      have qs2 := s2 w13 hB13
      have qs3 := s3 w13 hB13
      have qs4 := s4 w13 hB13
      have hoo : (o != o) = false := by simp
      have hoo2 : (o == o) = true := by simp
      go_wp2_with fail
      refine (CC8 _ hB13).mono ?_
      rintro e w14 ⟨rfl, hb14⟩
      have hB14 : Below w11.heap.size w11 w14 := below_via hB13 hb14
      clear qs0 qs1 qs2 qs3 qs4
      have qt0 := t0 w14 hB14
      have qt1 := t1 w14 hB14
      have qt2 := t2 w14 hB14
      have qt3 := t3 w14 hB14
      have qt4 := t4 w14 hB14
      go_wp2_with fail
      refine (CCN _ hB14).mono ?_
      rintro e w15 ⟨rfl, hb15⟩
      have hB15 : Below w11.heap.size w11 w15 := below_via hB14 hb15
      clear qt0 qt1 qt2 qt3 qt4
      have qt0 := t0 w15 hB15
      have qt1 := t1 w15 hB15
      have qt2 := t2 w15 hB15
      have qt3 := t3 w15 hB15
      have qt4 := t4 w15 hB15
      go_wp2_with fail
      refine (CN _ hB15).mono ?_
      rintro e w16 ⟨p16, lf16, a16, m16, c16, rfl, hb16, hE16⟩
      go_wp2_with fail
      refine (hE16 _ (Below.refl _ _)).mono ?_
      rintro e w17 ⟨av, mv, cv, rfl, hwas2, hb17⟩
      have hB17 : Below w11.heap.size w11 w17 := below_via (below_via hB15 hb16) hb17
      obtain rfl : mw = mv := by rw [← HWAS.out.len.1, ← hwas2.len.1]
      have HB17 := Lib.hid hB17
      have hmm : ((mw : Int) != (mw : Int)) = false := by simp
      clear qt0 qt1 qt2 qt3 qt4
      clear CC8 CCN CN CF CG hE16 hb16 hb17 hwas2 hB12 hB13 hB14 hB15 hB17 hb12 hb13 hb14 hb15 hC0 hC1
      go_wp2_with fail
      go_loopw [18, 19] (fun s18 s19 wy => ∃ j k : Nat, j ≤ mw ∧ s19 = .int .i64 j ∧ s18 = .int .i64 k ∧ kDel key E j = k ∧ Below w11.heap.size w11 wy) (fun _ s _ => mw - (intOf s).toNat)
      case atStart => exact ⟨0, 0, Nat.zero_le _, rfl, rfl, kdel_zero _ _, HB17.out⟩
      case round =>
        obtain ⟨j, k, hj, rfl, rfl, hk, hby⟩ := hrel
        have hnl := HNOW.out.len
        have hwl := HWAS.out.len
        have hmw : mw ≤ 120 := by omega
        have hmn : mn ≤ 120 := by omega
        by_cases hjn : j < mw
        · obtain ⟨bw, ow, yw, rfl, hbw, hyw, e0, e1'⟩ := HWAS.out.at hjn
          have x0 := ((below_via H511.out hby).cell (p := ⟨bw, ow + j * 4, none⟩) hbw).trans e0
          have x1' := ((below_via H511.out hby).cell (p := ⟨bw, ow + j * 4 + 1, none⟩) hbw).trans e1'
          have lk := l0 _ hby
          obtain ⟨own, hown⟩ : ∃ o, decide (yw.1 = key) = o := ⟨_, rfl⟩
          have q1 := eq_walk hown
          cases own with
          | true =>
            have HKD : Hid (kDel key E (j + 1) = k) := Lib.hid (by rw [kdel_key hyw (of_decide_eq_true hown), hk])
            obtain ⟨kw, vw⟩ := yw
            dsimp only at *
            clear e0 e1' hown hyw hk hnl hwl
            go_upto_region 26 with (fail)
            go_quiet (fail)
            go_wp2
            go_roundw
            case rel => exact ⟨j + 1, k, hjn, by go_num, by go_num, HKD.out, below_drewN hby _⟩
            case measure => simp [intOf]; omega
          | false =>
            obtain ⟨hkd, hat⟩ := kdel_stay hyw (of_decide_eq_false hown)
            rw [hk] at hkd hat
            rw [HEN.out] at hat
            have hkn : k < mn := by rw [← hnl.1]; exact (List.getElem?_eq_some_iff.1 hat).1
            obtain ⟨bn, on, yn, rfl, hbn, hyn, d0, d1'⟩ := HNOW.out.at hkn
            rw [hat] at hyn
            cases hyn
            have z0 := (hby.cell (p := ⟨bn, on + k * 4, none⟩) hbn).trans d0
            have z1 := (hby.cell (p := ⟨bn, on + k * 4 + 1, none⟩) hbn).trans d1'
            have HKD := Lib.hid hkd
            obtain ⟨kw, vw⟩ := yw
            dsimp only at *
            have q2 : ((strOf kw).toList == (strOf kw).toList) = true := by simp
            have q3 : ((strOf vw.data).toList == (strOf vw.data).toList) = true := by simp
            have dk : decide ((mn : Int) ≤ (k : Int)) = false := by simp; omega
            have dk' : decide (mn ≤ k) = false := by simp; omega
            clear e0 e1' hown hyw hk hnl hwl hkd hat d0 d1'
            go_upto_region 26 with (fail)
            go_quiet (fail)
            go_wp2
            go_quiet (fail)
            go_wp2
            go_roundw
            case rel => exact ⟨j + 1, k + 1, hjn, by go_num, by go_num, HKD.out, below_drewN hby _⟩
            case measure => simp [intOf]; omega
        · obtain rfl : j = mw := by omega
          have hkw : k = mn := by rw [← hk, ← hnl.1, ← HEN.out]; exact kdel_end (by omega)
          subst hkw
          have hmm : ((k : Int) != (k : Int)) = false := by simp
          have hx5 := HX5.out.step (below_via H511.out hby)
          have hx8 := HX8.out.step (below_via HC11.out hby)
          have hn8 := HN8.out.below (below_via HC11.out hby)
          have hend := TrBox.set5 hx5 hn8 (fun b h => h) (by simp) HW8.out
          have hbe := set5_below (below_via H011.out hby) hle (.int .i64 p8) (.bool lf8) (.slice a81 n81 c81) (.slice a82 n82 c82) (.slice a83 n83 c83)
          unfold set5 at hend hbe
          have HEND := Lib.hid hend
          have HBE := Lib.hid hbe
          have f0 := hx5.cell 0 0 rfl rfl
          have f1 := hx5.cell 0 1 rfl rfl
          have f2 := hx5.cell 0 2 rfl rfl
          have f3 := hx5.cell 0 3 rfl rfl
          have f4 := hx5.cell 0 4 rfl rfl
          have g0 := hx5.frozen 0 0 rfl
          have g1 := hx5.frozen 0 1 rfl
          have g2 := hx5.frozen 0 2 rfl
          have g3 := hx5.frozen 0 3 rfl
          have g4 := hx5.frozen 0 4 rfl
          have q0 := hx8.cell 0 0 rfl rfl
          have q1 := hx8.cell 0 1 rfl rfl
          have q2 := hx8.cell 0 2 rfl rfl
          have q3 := hx8.cell 0 3 rfl rfl
          have q4 := hx8.cell 0 4 rfl rfl

          clear hend hbe hx5 hx8 hn8 hk hnl hwl
          go_wp2_with fail
          go_roundw
          case rel => exact ⟨i + 1, M, T, hlt, by go_num, HEND.out, by omega, by rw [HEM.out, HEN.out]; omega, HBE.out⟩
          case measure => simp [intOf]; omega
    · obtain rfl : i = m := by omega
      have HB := Lib.hid hb
      clear hx hn hb
      go_wp2_with fail
      go_ret
      exact ⟨rfl, HB.out⟩
end Go.Proofs.Ytemfnjlfcemehaa
