/- The law PruneAll (printed by gen_treL8.py). -/
import Derived.Test.YtemfnjlfcemehaaTreAxq
import Derived.Test.YtemfnjlfcemehaaTreDtq
import Derived.Test.YtemfnjlfcemehaaM9
import Derived.Deep.RegionHeld3
import Derived.Deep.DeepCutAuto
import Derived.Deep.CutBlock
import Derived.Deep.QuietTactic
import Derived.BigQuiet
namespace Go.Proofs.Ytemfnjlfcemehaa
open Go.RowKit

set_option maxRecDepth 100000 in
set_option maxHeartbeats 4000000 in
theorem lPAll {w : World} {a : Option Addr} {n c : Nat} {l : List St} (h : Sts w a n c l) {oa : Option Addr} {m oc : Nat} {ol : List UInt8} (ho : Bs w oa m oc ol) (key : List UInt8) :
    Calls Try.prog 14 #[.slice a n c, .slice oa m oc, .string (strOf key)] w fun e w' => e = .returned (.bool true) ∧ Below w.heap.size w w' := by
  have hmc : m ≤ oc := ho.2.1
  have hoc : oc ≤ 9223372036854775807 := by have := ho.2.2.1; unfold maxLen at this; omega
  have HO := Lib.hid ho
  clear ho
  obtain ⟨e1, e2, e3⟩ := TabR.lens h
  have HP := Lib.hid h
  have HL := Lib.hid e1
  have A := awake16_any w
  clear h e1
  go_enter Try.func14, Try.ntmps14
  go_wp2_with fail
  refine A.mono ?_
  rintro e w1 ⟨rfl, hb1⟩
  have hp1 : Sts w1 a n c l := TabR.below (Nat.le_refl _) hb1 HP.out
  clear A
  go_wp2_with fail
  refine (small16_any hp1).mono ?_
  rintro e w2 ⟨rfl, rfl⟩
  obtain ⟨S, hS⟩ : ∃ S, smallS l = S := ⟨_, rfl⟩
  rw [hS]
  cases S with
  | false =>
    have HB := Lib.hid hb1
    clear hp1 hb1 hS
    go_wp2_with fail
    go_ret
    exact ⟨rfl, HB.out⟩
  | true =>
  obtain ⟨hl120, hall⟩ := okS_facts hS
  have hn120 : n ≤ 120 := by rw [← HL.out]; exact hl120
  have HALL := Lib.hid hall
  have HB1 := Lib.hid hb1
  clear hp1 hb1 hS hall hl120
  by_cases hm200 : 200 < m
  · have d1 : decide ((200 : Int) < (m : Int)) = true := by simp; omega
    have d1' : decide (200 < m) = true := by simp; omega
    clear hm200
    go_wp2_with fail
    go_ret
    exact ⟨rfl, HB1.out⟩
  have d1 : decide ((200 : Int) < (m : Int)) = false := by simp; omega
  have d1' : decide (200 < m) = false := by simp; omega
  by_cases kb : key = []
  · have f1 := str_empty kb
    clear kb
    go_wp2_with fail
    go_ret
    exact ⟨rfl, HB1.out⟩
  have f1 := str_some kb
  have hsk := strOf_size key
  obtain ⟨kl, hkl⟩ : ∃ x, key.length = x := ⟨_, rfl⟩
  rw [hkl] at hsk
  by_cases k16 : kl ≤ 16
  rotate_left
  · have d2 : decide ((16 : Int) < (kl : Int)) = true := by simp; omega
    have d2' : decide (16 < kl) = true := by simp; omega
    clear kb k16
    go_wp2_with fail
    go_ret
    exact ⟨rfl, HB1.out⟩
  have d2 : decide ((16 : Int) < (kl : Int)) = false := by simp; omega
  have d2' : decide (16 < kl) = false := by simp; omega
  have HKO : Hid (keyOk key) := Lib.hid ⟨kb, by omega⟩
  clear kb hkl
  go_wp2_with fail
  refine (tempty_any w2 (fun _ => False)).mono ?_
  rintro e w3 ⟨cs, rfl, hn0, hb3⟩
  obtain ⟨x1, k1, x2, k2, x3, k3, ecs, hn0⟩ := empty_on (F := fun _ => False) hn0
  subst ecs
  have hbox := TrBox.new (B := w3.heap.size + 1) hn0 (fun b h => h.elim) whole_empty 33
  have hbel : Below w.heap.size w (w3.alloc (.cells #[.int .i64 0, .bool true, .slice x1 0 k1, .slice x2 0 k2, .slice x3 0 k3] 33)) := Below.al (HB1.out.trans (hb3.mono HB1.out.size))
  have HBOX := Lib.hid hbox
  have HBEL := Lib.hid hbel
  have hle : w.heap.size ≤ w3.heap.size := Nat.le_trans HB1.out.size hb3.size
  clear hn0 hb3 hbox hbel
  clear f1 hsk d2 d2'
  go_upto_block 0 with (fail)
  go_cut [10] (fun s10 wq => ∃ N t q, OwnKs (w3.heap.size + 1) wq s10 q ∧ q.length = n ∧ TrOn (Qr (w3.heap.size + 1) s10) w3.heap.size wq N t ∧ N ≤ 121 ∧ (entsT N t).length ≤ 120 ∧ (∀ c ∈ entsT N t, c.1 ∈ q) ∧ Below w.heap.size w wq)
  case first =>
    go_wp2_with fail
    go_loopw [10, 11] (fun s10 s11 wx => ∃ (k N : Nat) (t : Tr) (q : List (List UInt8)), k ≤ n ∧ s11 = .int .i64 k ∧ OwnKs (w3.heap.size + 1) wx s10 q ∧ q.length = k ∧ TrOn (Qr (w3.heap.size + 1) s10) w3.heap.size wx N t ∧ N ≤ k + 1 ∧ (entsT N t).length ≤ k ∧ (∀ c ∈ entsT N t, c.1 ∈ q) ∧ Below w.heap.size w wx) (fun _ s _ => n - (intOf s).toNat)
    case atStart => exact ⟨0, 1, _, [], Nat.zero_le _, rfl, OwnKs.nil _ _, rfl, (HBOX.out.on).mono (fun x hx => ⟨hx.1, fun g e => by cases e⟩), Nat.le_refl _, Nat.le_refl _, (fun c hc => by cases hc), HBEL.out⟩
    case round =>
      clear HBOX HBEL
      obtain ⟨k, N, t, q, hk, rfl, hq, hql, htr, hN, hen, hkeys, hb⟩ := hrel
      obtain ⟨qa, qc, he, hqp, hqc1, hqc2, hq0⟩ := hq.sl
      rw [hql] at he hqp hqc1 hq0
      subst he
      by_cases hlk : k < n
      rotate_left
      · obtain rfl : k = n := by omega
        have hEX : Hid (∃ N t q, OwnKs (w3.heap.size + 1) wr (.slice qa k qc) q ∧ q.length = k ∧ TrOn (Qr (w3.heap.size + 1) (.slice qa k qc)) w3.heap.size wr N t ∧ N ≤ 121 ∧ (entsT N t).length ≤ 120 ∧ (∀ c ∈ entsT N t, c.1 ∈ q) ∧ Below w.heap.size w wr) := Lib.hid ⟨N, t, q, hq, hql, htr, by omega, by omega, hkeys, hb⟩
        clear hq hqp htr hb hen hkeys hq0 hql
        go_wp2_with fail
        go_meet
        exact hEX.out
      obtain ⟨bl, ol', y, rfl, hbl, hy, c0, c1⟩ := HP.out.at hlk
      obtain ⟨hyk, hys⟩ := HALL.out y (List.mem_of_getElem? hy)
      obtain ⟨sz, hszm⟩ : ∃ sz : Nat, (if y.size < 0 then (0 : Int) else y.size) = (sz : Int) := ⟨(if y.size < 0 then (0 : Int) else y.size).toNat, by split <;> omega⟩
      have hsz4 : sz ≤ 400 := by split at hszm <;> omega
      unfold TrOn at htr
      obtain ⟨p, lf, a1, n1, c1', a2, n2, c2, a3, n3, c3, hx, hn, hw⟩ := htr
      have hxl := hx.lt 0 rfl
      have hnl := hn.lt
      have hne : bl ≠ w3.heap.size := by omega
      have hbl2 := Nat.lt_of_lt_of_le hbl hb.size
      have l0 : ∀ W, AgreeF (fun x => x ≠ w3.heap.size) wr W → W.cell? ⟨bl, ol' + k * 2, none⟩ = some (.string (strOf y.key)) := fun W hW => (hW.cell hne hbl2).trans ((hb.cell (p := ⟨bl, ol' + k * 2, none⟩) hbl).trans c0)
      have l1 : ∀ W, AgreeF (fun x => x ≠ w3.heap.size) wr W → W.cell? ⟨bl, ol' + k * 2 + 1, none⟩ = some (.int .i64 y.size) := fun W hW => (hW.cell hne hbl2).trans ((hb.cell (p := ⟨bl, ol' + k * 2 + 1, none⟩) hbl).trans c1)
      obtain ⟨T, hT⟩ : ∃ T, putW N t y.key ⟨fillT 0 sz, []⟩ = T := ⟨_, rfl⟩
      obtain ⟨E, hE⟩ : ∃ E, entsT N t = E := ⟨_, rfl⟩
      have hsrt : Srt E := by rw [← hE]; exact hw.srt
      have CP : ∀ W, Below wr.heap.size wr W → Calls Try.prog 33 #[.agg #[.int .i64 p, .bool lf, .slice a1 n1 c1', .slice a2 n2 c2, .slice a3 n3 c3], .string (strOf y.key), .string (strOf (fillT 0 sz))] W (fun e w' => ∃ M cs, M ≤ N + 1 ∧ e = .returned (.agg cs.toArray) ∧ NodeOn (Fr (fun x => Qr (w3.heap.size + 1) (.slice qa k qc) x ∧ x < wr.heap.size) W) M w' cs T ∧ Whole M T ∧ entsT M T = putL y.key ⟨fillT 0 sz, []⟩ E ∧ Below W.heap.size W w') := fun W hW => (tPut_whole (hnl.below hW) hw y.key (fillT 0 sz) hyk (by rw [fillT_len]; exact hsz4)).mono fun e w' h => by
        unfold PutTo at h
        rw [hT, hE] at h
        exact h
      have CV : ∀ W, Calls Try.prog 50 #[.int .i64 (sz : Int)] W (fun e w' => e = .returned (.string (strOf (fillT 0 sz))) ∧ Below W.heap.size W w') := fun W => value16_any sz hsz4 W
      have hqlt := hq.lt
      have hGB : ∀ W, Below wr.heap.size wr W → ∀ x, Fr (fun x => Qr (w3.heap.size + 1) (.slice qa k qc) x ∧ x < wr.heap.size) W x → Qr (w3.heap.size + 1) (.slice qa k qc) x := fun W hW x h => by
        rcases h with h | h
        · exact h.1
        · have := hW.size
          exact ⟨by omega, fun g hg e => by have := (hqlt g hg).2; omega⟩
      have hBB : ¬ Qr (w3.heap.size + 1) (.slice qa k qc) w3.heap.size := fun h => by have := h.1; omega
      have f0 := hx.cell 0 0 rfl rfl
      have f1 := hx.cell 0 1 rfl rfl
      have f2 := hx.cell 0 2 rfl rfl
      have f3 := hx.cell 0 3 rfl rfl
      have f4 := hx.cell 0 4 rfl rfl
      have HXB := Lib.hid hx
      have HBW := Lib.hid hb
      have HSR := Lib.hid hsrt
      have HQ := Lib.hid hq
      have HQL := Lib.hid hql
      have HKS : Hid (∀ c ∈ E, c.1 ∈ q) := Lib.hid (by rw [← hE]; exact hkeys)
      rw [hE] at hen
      have HEN := Lib.hid hen
      have hA0 : AgreeF (fun x => x ≠ w3.heap.size) wr wr.drew := AgreeF.refl _
      clear hx hn hnl hw hb hE hT hyk hy c0 c1 hq hqp hkeys hql hsrt hqlt hq0 hen
      go_upto_region 12 with (fail)
      go_cut [] (fun wq => PutStayOn (Qr (w3.heap.size + 1) (.slice qa k qc)) w3.heap.size w wr N T (putL y.key ⟨fillT 0 sz, []⟩ E) wq)
      case first =>
        refine wp_region_noPanic ?_
        refine wp_region_held_drew (S := (fun W => AgreeF (fun x => x ≠ w3.heap.size) wr W)) (by kernel_rfl) (by (repeat (with_reducible first | assumption | exact AgreeF.refl _ | apply AgreeF.al | apply AgreeF.dr | apply AgreeF.st))) (fun hHeld => ?_)
        refine wpAnyH_take (i := 1) (oi := { dst := some 53, op := Op.move (Operand.tmp 0), type := 86, pos := "law.go:141", after := #[], guard := none }) (v := ?_) rfl (by kernel_rfl) (by kernel_rfl) (by kernel_rfl) (fun _ _ _ h => h) (Or.inl ⟨by rfl, ?_⟩) (by assumption) ?_
        rotate_left
        · (intro W hW; (try dsimp only at hW); go_simp <;> (with_reducible rfl))
        try simp only [Act.put, List.setIfInBounds_toArray, List.set_cons_zero, List.set_cons_succ]
        refine wpAnyH_take (i := 2) (oi := { dst := some 54, op := Op.move (Operand.tmp 11), type := 3, pos := "law.go:141", after := #[], guard := none }) (v := ?_) rfl (by kernel_rfl) (by kernel_rfl) (by kernel_rfl) (fun _ _ _ h => h) (Or.inl ⟨by rfl, ?_⟩) (by assumption) ?_
        rotate_left
        · (intro W hW; (try dsimp only at hW); go_simp <;> (with_reducible rfl))
        try simp only [Act.put, List.setIfInBounds_toArray, List.set_cons_zero, List.set_cons_succ]
        refine wpAnyH_take (i := 3) (oi := { dst := some 55, op := Op.indexAddr 86 (Operand.tmp 53) (Operand.tmp 54), type := 0, pos := "law.go:141", after := #[{ on := 1, ground := Ground.data }, { on := 2, ground := Ground.data }], guard := none }) (v := ?_) rfl (by kernel_rfl) (by kernel_rfl) (by kernel_rfl) (fun _ _ _ h => h) (Or.inl ⟨by rfl, ?_⟩) (by assumption) ?_
        rotate_left
        · (intro W hW; (try dsimp only at hW); go_simp <;> (with_reducible rfl))
        try simp only [Act.put, List.setIfInBounds_toArray, List.set_cons_zero, List.set_cons_succ]
        refine wpAnyH_take (i := 4) (oi := { dst := some 56, op := Op.fieldAddr 89 (Operand.tmp 55) 0, type := 0, pos := "law.go:141", after := #[{ on := 3, ground := Ground.data }], guard := none }) (v := ?_) rfl (by kernel_rfl) (by kernel_rfl) (by kernel_rfl) (fun _ _ _ h => h) (Or.inl ⟨by rfl, ?_⟩) (by assumption) ?_
        rotate_left
        · (intro W hW; (try dsimp only at hW); go_simp <;> (with_reducible rfl))
        try simp only [Act.put, List.setIfInBounds_toArray, List.set_cons_zero, List.set_cons_succ]
        refine wpAnyH_take (i := 5) (oi := { dst := some 57, op := Op.load 9 (Operand.tmp 56), type := 9, pos := "law.go:141", after := #[{ on := 4, ground := Ground.data }], guard := none }) (v := ?_) rfl (by kernel_rfl) (by kernel_rfl) (by kernel_rfl) (fun _ _ _ h => h) (Or.inl ⟨by rfl, ?_⟩) (by assumption) ?_
        rotate_left
        · (intro W hW; (try dsimp only at hW); go_simp <;> (with_reducible rfl))
        try simp only [Act.put, List.setIfInBounds_toArray, List.set_cons_zero, List.set_cons_succ]
        refine wpAnyH_take (i := 6) (oi := { dst := some 58, op := Op.move (Operand.tmp 0), type := 86, pos := "law.go:141", after := #[], guard := none }) (v := ?_) rfl (by kernel_rfl) (by kernel_rfl) (by kernel_rfl) (fun _ _ _ h => h) (Or.inl ⟨by rfl, ?_⟩) (by assumption) ?_
        rotate_left
        · (intro W hW; (try dsimp only at hW); go_simp <;> (with_reducible rfl))
        try simp only [Act.put, List.setIfInBounds_toArray, List.set_cons_zero, List.set_cons_succ]
        refine wpAnyH_take (i := 7) (oi := { dst := some 59, op := Op.move (Operand.tmp 11), type := 3, pos := "law.go:141", after := #[], guard := none }) (v := ?_) rfl (by kernel_rfl) (by kernel_rfl) (by kernel_rfl) (fun _ _ _ h => h) (Or.inl ⟨by rfl, ?_⟩) (by assumption) ?_
        rotate_left
        · (intro W hW; (try dsimp only at hW); go_simp <;> (with_reducible rfl))
        try simp only [Act.put, List.setIfInBounds_toArray, List.set_cons_zero, List.set_cons_succ]
        refine wpAnyH_take (i := 8) (oi := { dst := some 60, op := Op.indexAddr 86 (Operand.tmp 58) (Operand.tmp 59), type := 0, pos := "law.go:141", after := #[{ on := 6, ground := Ground.data }, { on := 7, ground := Ground.data }], guard := none }) (v := ?_) rfl (by kernel_rfl) (by kernel_rfl) (by kernel_rfl) (fun _ _ _ h => h) (Or.inl ⟨by rfl, ?_⟩) (by assumption) ?_
        rotate_left
        · (intro W hW; (try dsimp only at hW); go_simp <;> (with_reducible rfl))
        try simp only [Act.put, List.setIfInBounds_toArray, List.set_cons_zero, List.set_cons_succ]
        refine wpAnyH_take (i := 9) (oi := { dst := some 61, op := Op.fieldAddr 89 (Operand.tmp 60) 1, type := 0, pos := "law.go:141", after := #[{ on := 8, ground := Ground.data }], guard := none }) (v := ?_) rfl (by kernel_rfl) (by kernel_rfl) (by kernel_rfl) (fun _ _ _ h => h) (Or.inl ⟨by rfl, ?_⟩) (by assumption) ?_
        rotate_left
        · (intro W hW; (try dsimp only at hW); go_simp <;> (with_reducible rfl))
        try simp only [Act.put, List.setIfInBounds_toArray, List.set_cons_zero, List.set_cons_succ]
        refine wpAnyH_take (i := 10) (oi := { dst := some 62, op := Op.load 3 (Operand.tmp 61), type := 3, pos := "law.go:141", after := #[{ on := 9, ground := Ground.data }], guard := none }) (v := ?_) rfl (by kernel_rfl) (by kernel_rfl) (by kernel_rfl) (fun _ _ _ h => h) (Or.inl ⟨by rfl, ?_⟩) (by assumption) ?_
        rotate_left
        · (intro W hW; (try dsimp only at hW); go_simp <;> (with_reducible rfl))
        try simp only [Act.put, List.setIfInBounds_toArray, List.set_cons_zero, List.set_cons_succ]
        refine wpAnyH_take (i := 11) (oi := { dst := some 63, op := Op.call { callee := Callee.builtin Builtin.max, args := #[Operand.tmp 62, Operand.const (Value.int IntKind.i64 0)], argTypes := #[3, 3] }, type := 3, pos := "law.go:141", after := #[{ on := 10, ground := Ground.data }], guard := none }) (v := ?_) rfl (by kernel_rfl) (by kernel_rfl) (by kernel_rfl) (fun _ _ _ h => h) (Or.inl ⟨by rfl, ?_⟩) (by assumption) ?_
        rotate_left
        · (intro W hW; (try dsimp only at hW); go_simp <;> (with_reducible rfl))
        try simp only [Act.put, List.setIfInBounds_toArray, List.set_cons_zero, List.set_cons_succ]
        refine wpAnyH_ready (rs := [0, 12]) (by kernel_rfl) (by simp) (AllReadyH.cons (o := { dst := some 52, op := Op.load 33 (Operand.tmp 9), type := 33, pos := "law.go:141", after := #[], guard := none }) rfl (fun K hK => ?_) (AllReadyH.cons (o := { dst := some 64, op := Op.call { callee := Callee.value (Operand.func 50), args := #[Operand.tmp 63], argTypes := #[3] }, type := 9, pos := "law.go:141", after := #[{ on := 11, ground := Ground.data }], guard := none }) rfl (fun K hK => ?_) AllReadyH.nil))
        · (rw [if_pos (by rfl)]; go_wp2_with (fail))
          refine hK.out _ _ (by (repeat (with_reducible first | assumption | exact AgreeF.refl _ | apply AgreeF.al | apply AgreeF.dr | apply AgreeF.st))) (fun hHeld => ?_)
          clear hK K
          try simp only [Act.put, List.setIfInBounds_toArray, List.set_cons_zero, List.set_cons_succ]
          refine wpAnyH_ready (rs := [12]) (by kernel_rfl) (by simp) (AllReadyH.cons (o := { dst := some 64, op := Op.call { callee := Callee.value (Operand.func 50), args := #[Operand.tmp 63], argTypes := #[3] }, type := 9, pos := "law.go:141", after := #[{ on := 11, ground := Ground.data }], guard := none }) rfl (fun K hK => ?_) AllReadyH.nil)
          (rw [if_pos (by rfl)]; go_wp2_with (go_at_call 50; (with_reducible refine (CV _).mono ?_); rintro e w6 ⟨rfl, hb6⟩; have hB6 : Below wr.heap.size wr w6 := below_via (by (repeat (with_reducible first | assumption | exact Below.refl _ _ | apply Below.al | apply Below.dr))) hb6; have hA6 : AgreeF (fun x => x ≠ w3.heap.size) wr w6 := AgreeF.of_below hB6; have hx6 := HXB.out.step hB6; have m0 := hx6.cell 0 0 rfl rfl; have m1 := hx6.cell 0 1 rfl rfl; have m2 := hx6.cell 0 2 rfl rfl; have m3 := hx6.cell 0 3 rfl rfl; have m4 := hx6.cell 0 4 rfl rfl))
          refine hK.out _ _ (by (repeat (with_reducible first | assumption | exact AgreeF.refl _ | apply AgreeF.al | apply AgreeF.dr | apply AgreeF.st))) (fun hHeld => ?_)
          clear hK K
          try simp only [Act.put, List.setIfInBounds_toArray, List.set_cons_zero, List.set_cons_succ]
          refine wpAnyH_ready (rs := [13]) (by kernel_rfl) (by simp) (AllReadyH.cons (o := { dst := some 65, op := Op.call { callee := Callee.value (Operand.func 33), args := #[Operand.tmp 52, Operand.tmp 57, Operand.tmp 64], argTypes := #[33, 9, 9] }, type := 33, pos := "law.go:141", after := #[{ on := 0, ground := Ground.data }, { on := 5, ground := Ground.data }, { on := 12, ground := Ground.data }, { on := 12, ground := Ground.chain }], guard := none }) rfl (fun K hK => ?_) AllReadyH.nil)
          (rw [if_pos (by rfl)]; go_wp2_with (go_at_call 33; (with_reducible refine (CP _ ?_).mono ?_); (focus (repeat (with_reducible first | assumption | exact Below.refl _ _ | apply Below.al | apply Below.dr))); rintro e w9 hq9; obtain ⟨M, cs9, hM9, rfl, hn9, hw9, hE9, hb9⟩ := hq9; obtain ⟨j1, j2, j3, j4, j5, j6, j7, j8, ecs9, _, _⟩ := hn9.words; subst ecs9; have HE9 := Lib.hid hE9; clear hE9; have hB9 : Below wr.heap.size wr w9 := below_via (by (repeat (with_reducible first | assumption | exact Below.refl _ _ | apply Below.al | apply Below.dr))) hb9; have hA9 : AgreeF (fun x => x ≠ w3.heap.size) wr w9 := AgreeF.of_below hB9; have hx9 := HXB.out.step hB9; have z0 := hx9.cell 0 0 rfl rfl; have u0 := hx9.frozen 0 0 rfl; have z1 := hx9.cell 0 1 rfl rfl; have u1 := hx9.frozen 0 1 rfl; have z2 := hx9.cell 0 2 rfl rfl; have u2 := hx9.frozen 0 2 rfl; have z3 := hx9.cell 0 3 rfl rfl; have u3 := hx9.frozen 0 3 rfl; have z4 := hx9.cell 0 4 rfl rfl; have u4 := hx9.frozen 0 4 rfl))
          refine hK.out _ _ (by (repeat (with_reducible first | assumption | exact AgreeF.refl _ | apply AgreeF.al | apply AgreeF.dr | apply AgreeF.st))) (fun hHeld => ?_)
          clear hK K
          try simp only [Act.put, List.setIfInBounds_toArray, List.set_cons_zero, List.set_cons_succ]
          refine wpAnyH_ready (rs := [14]) (by kernel_rfl) (by simp) (AllReadyH.cons (o := { dst := none, op := Op.store 33 (Operand.tmp 9) (Operand.tmp 65), type := 0, pos := "law.go:141", after := #[{ on := 13, ground := Ground.data }, { on := 13, ground := Ground.chain }, { on := 0, ground := Ground.phase }, { on := 1, ground := Ground.phase }, { on := 2, ground := Ground.phase }, { on := 3, ground := Ground.phase }, { on := 4, ground := Ground.phase }, { on := 5, ground := Ground.phase }, { on := 6, ground := Ground.phase }, { on := 7, ground := Ground.phase }, { on := 8, ground := Ground.phase }, { on := 9, ground := Ground.phase }, { on := 10, ground := Ground.phase }, { on := 11, ground := Ground.phase }, { on := 12, ground := Ground.phase }, { on := 13, ground := Ground.phase }], guard := none }) rfl (fun K hK => ?_) AllReadyH.nil)
          (rw [if_pos (by rfl)]; go_wp2_with (fail))
          refine hK.out _ _ (by (repeat (with_reducible first | assumption | exact AgreeF.refl _ | apply AgreeF.al | apply AgreeF.dr | apply AgreeF.st))) (fun hHeld => ?_)
          clear hK K
          try simp only [Act.put, List.setIfInBounds_toArray, List.set_cons_zero, List.set_cons_succ]
          refine wpAnyH_done (by kernel_rfl) ?_ _
          refine NoPanic.normal ?_
          go_wp2_with fail
          go_meet
          have hA := PutStayOn.mk (Q := Qr (w3.heap.size + 1) (.slice qa k qc)) (w := w) (wr := wr) hx9 hn9 (hGB _ (by (repeat (with_reducible first | assumption | exact Below.refl _ _ | apply Below.al | apply Below.dr)))) hBB hw9 hM9 HE9.out hA9 (HBW.out.trans (hB9.mono HBW.out.size)) hle
          unfold set5 at hA
          with_reducible exact hA
        · (rw [if_pos (by rfl)]; go_wp2_with (go_at_call 50; (with_reducible refine (CV _).mono ?_); rintro e w6 ⟨rfl, hb6⟩; have hB6 : Below wr.heap.size wr w6 := below_via (by (repeat (with_reducible first | assumption | exact Below.refl _ _ | apply Below.al | apply Below.dr))) hb6; have hA6 : AgreeF (fun x => x ≠ w3.heap.size) wr w6 := AgreeF.of_below hB6; have hx6 := HXB.out.step hB6; have m0 := hx6.cell 0 0 rfl rfl; have m1 := hx6.cell 0 1 rfl rfl; have m2 := hx6.cell 0 2 rfl rfl; have m3 := hx6.cell 0 3 rfl rfl; have m4 := hx6.cell 0 4 rfl rfl))
          refine hK.out _ _ (by (repeat (with_reducible first | assumption | exact AgreeF.refl _ | apply AgreeF.al | apply AgreeF.dr | apply AgreeF.st))) (fun hHeld => ?_)
          clear hK K
          try simp only [Act.put, List.setIfInBounds_toArray, List.set_cons_zero, List.set_cons_succ]
          refine wpAnyH_ready (rs := [0]) (by kernel_rfl) (by simp) (AllReadyH.cons (o := { dst := some 52, op := Op.load 33 (Operand.tmp 9), type := 33, pos := "law.go:141", after := #[], guard := none }) rfl (fun K hK => ?_) AllReadyH.nil)
          (rw [if_pos (by rfl)]; go_wp2_with (fail))
          refine hK.out _ _ (by (repeat (with_reducible first | assumption | exact AgreeF.refl _ | apply AgreeF.al | apply AgreeF.dr | apply AgreeF.st))) (fun hHeld => ?_)
          clear hK K
          try simp only [Act.put, List.setIfInBounds_toArray, List.set_cons_zero, List.set_cons_succ]
          refine wpAnyH_ready (rs := [13]) (by kernel_rfl) (by simp) (AllReadyH.cons (o := { dst := some 65, op := Op.call { callee := Callee.value (Operand.func 33), args := #[Operand.tmp 52, Operand.tmp 57, Operand.tmp 64], argTypes := #[33, 9, 9] }, type := 33, pos := "law.go:141", after := #[{ on := 0, ground := Ground.data }, { on := 5, ground := Ground.data }, { on := 12, ground := Ground.data }, { on := 12, ground := Ground.chain }], guard := none }) rfl (fun K hK => ?_) AllReadyH.nil)
          (rw [if_pos (by rfl)]; go_wp2_with (go_at_call 33; (with_reducible refine (CP _ ?_).mono ?_); (focus (repeat (with_reducible first | assumption | exact Below.refl _ _ | apply Below.al | apply Below.dr))); rintro e w9 hq9; obtain ⟨M, cs9, hM9, rfl, hn9, hw9, hE9, hb9⟩ := hq9; obtain ⟨j1, j2, j3, j4, j5, j6, j7, j8, ecs9, _, _⟩ := hn9.words; subst ecs9; have HE9 := Lib.hid hE9; clear hE9; have hB9 : Below wr.heap.size wr w9 := below_via (by (repeat (with_reducible first | assumption | exact Below.refl _ _ | apply Below.al | apply Below.dr))) hb9; have hA9 : AgreeF (fun x => x ≠ w3.heap.size) wr w9 := AgreeF.of_below hB9; have hx9 := HXB.out.step hB9; have z0 := hx9.cell 0 0 rfl rfl; have u0 := hx9.frozen 0 0 rfl; have z1 := hx9.cell 0 1 rfl rfl; have u1 := hx9.frozen 0 1 rfl; have z2 := hx9.cell 0 2 rfl rfl; have u2 := hx9.frozen 0 2 rfl; have z3 := hx9.cell 0 3 rfl rfl; have u3 := hx9.frozen 0 3 rfl; have z4 := hx9.cell 0 4 rfl rfl; have u4 := hx9.frozen 0 4 rfl))
          refine hK.out _ _ (by (repeat (with_reducible first | assumption | exact AgreeF.refl _ | apply AgreeF.al | apply AgreeF.dr | apply AgreeF.st))) (fun hHeld => ?_)
          clear hK K
          try simp only [Act.put, List.setIfInBounds_toArray, List.set_cons_zero, List.set_cons_succ]
          refine wpAnyH_ready (rs := [14]) (by kernel_rfl) (by simp) (AllReadyH.cons (o := { dst := none, op := Op.store 33 (Operand.tmp 9) (Operand.tmp 65), type := 0, pos := "law.go:141", after := #[{ on := 13, ground := Ground.data }, { on := 13, ground := Ground.chain }, { on := 0, ground := Ground.phase }, { on := 1, ground := Ground.phase }, { on := 2, ground := Ground.phase }, { on := 3, ground := Ground.phase }, { on := 4, ground := Ground.phase }, { on := 5, ground := Ground.phase }, { on := 6, ground := Ground.phase }, { on := 7, ground := Ground.phase }, { on := 8, ground := Ground.phase }, { on := 9, ground := Ground.phase }, { on := 10, ground := Ground.phase }, { on := 11, ground := Ground.phase }, { on := 12, ground := Ground.phase }, { on := 13, ground := Ground.phase }], guard := none }) rfl (fun K hK => ?_) AllReadyH.nil)
          (rw [if_pos (by rfl)]; go_wp2_with (fail))
          refine hK.out _ _ (by (repeat (with_reducible first | assumption | exact AgreeF.refl _ | apply AgreeF.al | apply AgreeF.dr | apply AgreeF.st))) (fun hHeld => ?_)
          clear hK K
          try simp only [Act.put, List.setIfInBounds_toArray, List.set_cons_zero, List.set_cons_succ]
          refine wpAnyH_done (by kernel_rfl) ?_ _
          refine NoPanic.normal ?_
          go_wp2_with fail
          go_meet
          have hA := PutStayOn.mk (Q := Qr (w3.heap.size + 1) (.slice qa k qc)) (w := w) (wr := wr) hx9 hn9 (hGB _ (by (repeat (with_reducible first | assumption | exact Below.refl _ _ | apply Below.al | apply Below.dr)))) hBB hw9 hM9 HE9.out hA9 (HBW.out.trans (hB9.mono HBW.out.size)) hle
          unfold set5 at hA
          with_reducible exact hA
      case rest =>
      obtain ⟨M, ht8, hM, hEM, hag, hbw⟩ := hcut
      have hq2 := HQ.out.agree hag (fun g hg => by have := (HQ.out.lt g hg).1; omega)
      have hsz2 := hag.1
      obtain ⟨v8, w8, hr8, hq8, ht8, hg8⟩ := row_grows hq2 (by omega) (by rw [HQL.out]; omega) y.key ht8 (Nat.lt_succ_self _)
      have HB8 := Lib.hid (hbw.grown hg8 hbw.size (fun g hg => by have := (hq2.lt g hg).1; omega))
      have HQ8 := Lib.hid hq8
      have HT8 := Lib.hid ht8
      have HEM := Lib.hid hEM
      have k0 := l0 _ hag
      clear CP CV f0 f1 f2 f3 f4 hq2 hq8 ht8 hg8 hEM l0 l1 hag hbw hGB hBB hA0
      go_wp2_with (at_builtin; refine wpList_append_run rfl _ _ _ _ rfl rfl rfl hr8 ?_)
      go_roundw
      case rel => exact ⟨k + 1, M, T, q ++ [y.key], hlk, by go_num, HQ8.out, by rw [List.length_append, HQL.out]; rfl, HT8.out, by omega, by rw [HEM.out]; have h1 := put_length (key := y.key) (v := ⟨fillT 0 sz, []⟩) HSR.out; have h2 := HEN.out; split at h1 <;> omega, by rw [HEM.out]; exact mem_put_key HSR.out HKS.out, HB8.out⟩
      case measure => simp [intOf]; omega
  case rest =>
  obtain ⟨N, t, q, hq, hql, htr, hN, hen, hkeys, hb⟩ := hcut
  obtain ⟨qa, qc, he, hqp, hqc1, hqc2, hq0⟩ := hq.sl
  rw [hql] at he hqp hqc1 hq0
  subst he
  have HQLT := Lib.hid hq.lt
  have HQL := Lib.hid hql
  have HQ := Lib.hid hq
  have HTR := Lib.hid htr.lt
  have HB := Lib.hid hb
  have HKS := Lib.hid hkeys
  have hsS : w3.heap.size < wc.heap.size := by
    obtain ⟨_, _, _, _, _, _, _, _, _, _, _, hx, _⟩ := htr
    exact hx.lt 0 rfl
  obtain ⟨wS, rfl⟩ : ∃ x : World, x = wc := ⟨_, rfl⟩
  clear hq hqp hq0 htr hb hkeys hql HBOX HBEL
  go_upto_block 2 with (fail)
  go_cut [] (fun wq => ∃ q2, List.Perm q2 q ∧ OwnKs (w3.heap.size + 1) wq (.slice qa n qc) q2 ∧ TrOn (fun x => Qr (w3.heap.size + 1) (.slice qa n qc) x ∧ x < wS.heap.size) w3.heap.size wq N t ∧ Below w.heap.size w wq)
  case first =>
    go_wp2_with fail
    go_loopw [12] (fun s12 wx => ∃ (i2 : Nat) (q2 : List (List UInt8)), i2 ≤ 204 ∧ s12 = .int .i64 i2 ∧ List.Perm q2 q ∧ OwnKs (w3.heap.size + 1) wx (.slice qa n qc) q2 ∧ AgreeF (fun x => ∀ g, (Value.slice qa n qc).ownBlock = some g → x ≠ g) wS wx ∧ Below w.heap.size w wx) (fun s _ => 206 - (intOf s).toNat)
    case atStart => exact ⟨0, q, by omega, rfl, List.Perm.refl _, HQ.out, AgreeF.refl _, HB.out⟩
    case round =>
      obtain ⟨i2, q2, hi2, rfl, hp, hq, hag, hb⟩ := hrel
      have hEX : Hid (∃ q2, List.Perm q2 q ∧ OwnKs (w3.heap.size + 1) wr (.slice qa n qc) q2 ∧ TrOn (fun x => Qr (w3.heap.size + 1) (.slice qa n qc) x ∧ x < wS.heap.size) w3.heap.size wr N t ∧ Below w.heap.size w wr) := Lib.hid ⟨q2, hp, hq, HTR.out.agree hag (fun x hx => hx.1.2) (fun g hg e => by have := (HQLT.out g hg).1; omega), hb⟩
      by_cases hc : i2 + 1 < m
      rotate_left
      · have d2 : decide ((i2 : Int) + 1 < (m : Int)) = false := by simp; omega
        have d2' : decide (i2 + 1 < m) = false := by simp; omega
        clear hc hp hq hag hb
        go_wp2_with fail
        go_meet
        exact hEX.out
      have d2 : decide ((i2 : Int) + 1 < (m : Int)) = true := by simp; omega
      have d2' : decide (i2 + 1 < m) = true := by simp; omega
      by_cases hk0 : n = 0
      · subst hk0
        clear hc hp hq hag hb
        go_wp2_with fail
        go_meet
        exact hEX.out
      have d3 : decide ((0 : Int) < (n : Int)) = true := by simp; omega
      have d3' : decide (0 < n) = true := by simp; omega
      obtain ⟨qa', qc', he, hqp, _, _, hq0⟩ := hq.sl
      rw [hp.length_eq, HQL.out] at he hqp hq0
      cases he
      obtain ⟨g, rfl, hg1, hg2⟩ := hq0 (by omega)
      obtain ⟨bo, oo, eo, hbo, hco⟩ := HO.out.cell (show i2 < m by omega)
      subst eo
      have o1 := (hb.cell (p := ⟨bo, oo + i2, none⟩) hbo).trans (hco i2 (by omega))
      have o2 := (hb.cell (p := ⟨bo, oo + (i2 + 1), none⟩) hbo).trans (hco (i2 + 1) (by omega))
      generalize ol[i2]?.getD 0 = u1 at o1
      generalize ol[i2 + 1]?.getD 0 = u2 at o2
      have hu1 := u1.toNat_lt
      have hu2 := u2.toNat_lt
      generalize u1.toNat = U1 at *
      generalize u2.toNat = U2 at *
      obtain ⟨X, hX⟩ : ∃ x, U1 % n = x := ⟨_, rfl⟩
      obtain ⟨Y, hY⟩ : ∃ x, U2 % n = x := ⟨_, rfl⟩
      have hXk : X < n := by rw [← hX]; exact Nat.mod_lt _ (by omega)
      have hYk : Y < n := by rw [← hY]; exact Nat.mod_lt _ (by omega)
      have hXt : (U1 : Int).tmod (n : Int) = (X : Int) := by rw [Int.tmod_eq_emod_of_nonneg (by omega), ← hX]; omega
      have hYt : (U2 : Int).tmod (n : Int) = (Y : Int) := by rw [Int.tmod_eq_emod_of_nonneg (by omega), ← hY]; omega
      have hkz : ((n : Int) == 0) = false := by simp; omega
      have hlen : q2.length = n := by rw [hp.length_eq, HQL.out]
      obtain ⟨_, _, ex, _, x0⟩ := hqp.at hXk
      cases ex
      obtain ⟨_, _, ey, _, y0⟩ := hqp.at hYk
      cases ey
      have hpx : q2[X]? = some (q2[X]?.getD []) := by rw [List.getElem?_eq_getElem (by omega)]; rfl
      have hpy : q2[Y]? = some (q2[Y]?.getD []) := by rw [List.getElem?_eq_getElem (by omega)]; rfl
      obtain ⟨px, hpx'⟩ : ∃ x, q2[X]?.getD [] = x := ⟨_, rfl⟩
      obtain ⟨py, hpy'⟩ : ∃ x, q2[Y]?.getD [] = x := ⟨_, rfl⟩
      rw [hpx'] at hpx x0
      rw [hpy'] at hpy y0
      rw [Nat.zero_add] at x0 y0
      obtain ⟨W2, hW2⟩ : ∃ x, wr.setCell ⟨g, X, none⟩ (.string (strOf py)) = x := ⟨_, rfl⟩
      have hq2 := hq.put hlen hXk py
      rw [hW2] at hq2
      have hlen2 : (q2.set X py).length = n := by rw [List.length_set, hlen]
      obtain ⟨qa2, qc2, he2, hqp2, _, _, _⟩ := hq2.sl
      rw [hlen2] at he2 hqp2
      cases he2
      obtain ⟨_, _, ez, _, w0⟩ := hqp2.at hYk
      cases ez
      generalize (q2.set X py)[Y]?.getD [] = pz at w0
      rw [Nat.zero_add] at w0
      have hq3 := hq2.put hlen2 hYk px
      have hperm := perm_swap_key hpx hpy
      have hnf : ¬ (∀ g', (Value.slice (some ⟨g, 0, none⟩) n qc).ownBlock = some g' → g ≠ g') := fun h => h g rfl rfl
      have hag3 : AgreeF (fun x => ∀ g', (Value.slice (some ⟨g, 0, none⟩) n qc).ownBlock = some g' → x ≠ g') wS (W2.setCell ⟨g, Y, none⟩ (.string (strOf px))) := by rw [← hW2]; exact (hag.set (.inl hnf)).set (.inl hnf)
      have hb3 : Below w.heap.size w (W2.setCell ⟨g, Y, none⟩ (.string (strOf px))) := by rw [← hW2]; exact (hb.setCell (by have := hle; show w.heap.size ≤ g; omega) _).setCell (by have := hle; show w.heap.size ≤ g; omega) _
      have HAG := Lib.hid hag3
      have HB3 := Lib.hid hb3
      have HQ3 := Lib.hid hq3
      have HPM := Lib.hid (hperm.trans hp)
      have r0 := hq.free hlen X
      have v0 := hq2.free hlen2 Y
      clear hp hq hag hb hqp hq2 hq3 hqp2 hpx hpy hpx' hpy' hlen hlen2 hperm hag3 hb3 hq0 hnf hX hY hco hEX
      go_upto_region 20 with (fail)
      go_upto_region 21 with (fail)
      go_wp2_with fail
      go_roundw
      case rel => exact ⟨i2 + 2, (q2.set X py).set Y px, by omega, by go_num, HPM.out, HQ3.out, HAG.out, HB3.out⟩
      case measure => simp [intOf]; omega
  case rest =>
  obtain ⟨q2, hperm, hq, htr, hb⟩ := hcut
  unfold TrOn at htr
  obtain ⟨p, lf, a1, n1, c1, a2, n2, c2, a3, n3, c3, hx, hn, hw⟩ := htr
  obtain ⟨E, hE⟩ : ∃ E, entsT N t = E := ⟨_, rfl⟩
  have hsrt : Srt E := by rw [← hE]; exact hw.srt
  obtain ⟨hdel, hhit⟩ := dels_all (p := q2) hsrt (fun c hc => hperm.mem_iff.2 (HKS.out c (by rw [hE]; exact hc)))
  rw [hE] at hen
  obtain ⟨qa', qc', he, hqp, _, _, _⟩ := hq.sl
  have hq2l : q2.length = n := by rw [hperm.length_eq, HQL.out]
  rw [hq2l] at he hqp
  cases he
  obtain ⟨r, hr⟩ : ∃ r, lookT E key = r := ⟨_, rfl⟩
  have hpd := put_del (key := key) (v := ⟨[111, 110, 101], []⟩) hsrt
  rw [hr] at hpd
  obtain ⟨o, hro⟩ : ∃ o, r.isSome = o := ⟨_, rfl⟩
  rw [hro] at hpd
  obtain ⟨EM, hEM⟩ : ∃ x, delL key (putL key ⟨[111, 110, 101], []⟩ E) = x := ⟨_, rfl⟩
  rw [hEM] at hpd
  have hsome : (lookT (putL key ⟨[111, 110, 101], []⟩ E) key).isSome = true := by rw [look_put hsrt]; rfl
  have CPL := plain16_ents hn hw (by rw [hE]; omega)
  rw [hE] at CPL
  have HX := Lib.hid hx
  have HN := Lib.hid hn.lt
  have HW := Lib.hid hw
  have HE := Lib.hid hE
  have HB9 := Lib.hid hb
  have HQP := Lib.hid hqp
  have HEM := Lib.hid hEM
  have HSM := Lib.hid hsome
  have HR := Lib.hid hr
  have HRO := Lib.hid hro
  have HDEL := Lib.hid hdel
  have HHIT := Lib.hid hhit
  have HQ2L := Lib.hid hq2l
  have f0 := hx.cell 0 0 rfl rfl
  have f1 := hx.cell 0 1 rfl rfl
  have f2 := hx.cell 0 2 rfl rfl
  have f3 := hx.cell 0 3 rfl rfl
  have f4 := hx.cell 0 4 rfl rfl
  clear hx hn hw hE hb hqp hEM hsome hr hro hdel hhit hq2l hq hperm hsrt HTR HQ HB HKS HQLT HQL
  go_wp2_with fail
  refine CPL.mono ?_
  rintro e w6 ⟨p6, lf6, a6, m6, c6, rfl, hb6, hE6⟩
  go_wp2_with fail
  refine (hE6 _ (Below.refl _ _)).mono ?_
  rintro e w7 ⟨aw, mw, cw, rfl, hwas, hb7⟩
  have h7 : Below wc.heap.size wc w7 := hb6.trans (hb7.mono hb6.size)
  have hmw : E.length = mw := hwas.len.1
  have CF := tfind_any (HN.out.below h7).toIn key (HW.out.find key)
  rw [whole_find HW.out, HE.out, HR.out] at CF
  unfold FoundPost at CF
  rw [HRO.out] at CF
  have hx7 := HX.out.step h7
  clear f0 f1 f2 f3 f4
  have f0 := hx7.cell 0 0 rfl rfl
  have f1 := hx7.cell 0 1 rfl rfl
  have f2 := hx7.cell 0 2 rfl rfl
  have f3 := hx7.cell 0 3 rfl rfl
  have f4 := hx7.cell 0 4 rfl rfl
  have H7 := Lib.hid h7
  clear hE6 hb6 hb7 hwas h7 hx7 CPL
  go_wp2_with fail
  refine CF.mono ?_
  rintro e w8 ⟨rfl, hb8⟩
  have h8 : Below wc.heap.size wc w8 := H7.out.trans (hb8.mono H7.out.size)
  have CP := tPut_whole (HN.out.below h8) HW.out key [111, 110, 101] HKO.out (by decide)
  have hx8 := HX.out.step h8
  clear f0 f1 f2 f3 f4
  have f0 := hx8.cell 0 0 rfl rfl
  have f1 := hx8.cell 0 1 rfl rfl
  have f2 := hx8.cell 0 2 rfl rfl
  have f3 := hx8.cell 0 3 rfl rfl
  have f4 := hx8.cell 0 4 rfl rfl
  have H8 := Lib.hid h8
  clear hb8 h8 hx8 CF
  go_wp2_with fail
  refine CP.mono ?_
  rintro e w9 ⟨M9, cs9, hM9, rfl, hn9, hw9, hE9, hb9⟩
  obtain ⟨j1, j2, j3, j4, j5, j6, j7, j8, ecs9, _, _⟩ := hn9.words
  subst ecs9
  have h9 : Below wc.heap.size wc w9 := H8.out.trans (hb9.mono H8.out.size)
  have CD := pdel_any key hn9 hw9
  have HE9 := Lib.hid hE9
  have H9 := Lib.hid h9
  clear hb9 h9 CP hn9 hw9 hE9 f0 f1 f2 f3 f4
  go_wp2_with fail
  refine CD.mono ?_
  rintro e w10 ⟨M10, p4, lf4, a41, n41, c41, a42, n42, c42, a43, n43, c43, hM10, rfl, hn10, hw10, hE10, hb10⟩
  rw [HE9.out, HE.out, HSM.out]
  rw [HE9.out, HE.out, HEM.out] at hE10
  have hba : Below w10.heap.size w10 (w10.alloc (.cells #[.int .i64 p4, .bool lf4, .slice a41 n41 c41, .slice a42 n42 c42, .slice a43 n43 c43] 33)) := Below.al (Below.refl _ _)
  have ha : Below wc.heap.size wc (w10.alloc (.cells #[.int .i64 p4, .bool lf4, .slice a41 n41 c41, .slice a42 n42 c42, .slice a43 n43 c43] 33)) := (H9.out.trans (hb10.mono H9.out.size)).trans (hba.mono (H9.out.trans (hb10.mono H9.out.size)).size)
  have hxa := ((Boxes.nil w10).alloc #[.int .i64 p4, .bool lf4, .slice a41 n41 c41, .slice a42 n42 c42, .slice a43 n43 c43] 33 (b := w10.heap.size) rfl)
  have CPL := plain16_ents (hn10.below hba) hw10 (by rw [hE10]; split at hpd <;> omega)
  rw [hE10] at CPL
  have HA := Lib.hid ha
  have f0 := hxa.cell 0 0 rfl rfl
  have f1 := hxa.cell 0 1 rfl rfl
  have f2 := hxa.cell 0 2 rfl rfl
  have f3 := hxa.cell 0 3 rfl rfl
  have f4 := hxa.cell 0 4 rfl rfl
  clear CD hn10 hw10 hE10 hb10 hba ha hxa
  go_wp2_with fail
  refine CPL.mono ?_
  rintro e w11 ⟨p11, lf11, a11, m11, c11, rfl, hb11, hE11⟩
  go_wp2_with fail
  refine (hE11 _ (Below.refl _ _)).mono ?_
  rintro e w12 ⟨an, mn, cn, rfl, hnow, hb12⟩
  have hmn : EM.length = mn := hnow.len.1
  have hla : Below (w10.alloc (.cells #[.int .i64 p4, .bool lf4, .slice a41 n41 c41, .slice a42 n42 c42, .slice a43 n43 c43] 33)).heap.size (w10.alloc (.cells #[.int .i64 p4, .bool lf4, .slice a41 n41 c41, .slice a42 n42 c42, .slice a43 n43 c43] 33)) w12 := hb11.trans (hb12.mono hb11.size)
  have h12 : Below wc.heap.size wc w12 := HA.out.trans (hla.mono HA.out.size)
  have CW := without_any (HN.out.below h12) HW.out (TabR.below (Nat.le_refl _) h12 HQP.out) (by rw [HQ2L.out]; omega)
  have hx12 := HX.out.step h12
  clear f0 f1 f2 f3 f4
  have f0 := hx12.cell 0 0 rfl rfl
  have f1 := hx12.cell 0 1 rfl rfl
  have f2 := hx12.cell 0 2 rfl rfl
  have f3 := hx12.cell 0 3 rfl rfl
  have f4 := hx12.cell 0 4 rfl rfl
  have H12 := Lib.hid h12
  rw [hmw, hmn] at hpd
  have hcase : (o = true ∧ (mn : Int) + 1 = (mw : Int)) ∨ (o = false ∧ (mn : Int) = (mw : Int)) := by
    cases o with
    | true => simp at hpd; exact .inl ⟨rfl, by omega⟩
    | false => simp at hpd; exact .inr ⟨rfl, by omega⟩
  have hmn9 : mn ≤ 120 := by rcases hcase with ⟨_, h⟩ | ⟨_, h⟩ <;> omega
  clear hE11 hb11 hb12 hnow hla h12 hx12 CPL hpd
  have HMW : Hid (E.length = mw) := Lib.hid hmw
  clear hmw hmn
  rcases hcase with ⟨ho, hcs⟩ | ⟨ho, hcs⟩
  all_goals
    subst ho
    have q1 : ((mn : Int) + 1 != (mw : Int)) = decide ((mn : Int) + 1 ≠ (mw : Int)) := by simp [bne, BEq.beq]
    have q2' : ((mn : Int) != (mw : Int)) = decide ((mn : Int) ≠ (mw : Int)) := by simp [bne, BEq.beq]
    simp only [hcs, ne_eq, not_true_eq_false, decide_false] at q1 q2'
    go_upto_region 28 with (fail)
    go_wp2_with fail
    refine CW.mono ?_
    rintro e w13 ⟨M13, T13, p5, lf5, a51, n51, c51, a52, n52, c52, a53, n53, c53, hM13, rfl, hn13, hw13, hE13, _, hb13⟩
    rw [HE.out, HHIT.out, HMW.out]
    rw [HE.out, HDEL.out] at hE13
    obtain ⟨rfl, rfl⟩ := whole_none hw13 hE13
    obtain ⟨z1, z2, z3, z4, z5, z6, ez, _⟩ := empty_on (F := fun _ => False) hn13
    injection ez with ez0 ez
    injection ez with ez1 ez
    injection ez with ez2 ez
    injection ez with ez3 ez
    injection ez with ez4 ez
    cases ez0; cases ez1; cases ez2; cases ez3; cases ez4
    have HEND := Lib.hid (HB9.out.trans ((H12.out.trans (hb13.mono H12.out.size)).mono HB9.out.size))
    have hmm : ((mw : Int) == (mw : Int)) = true := by simp
    clear CW hn13 hw13 hE13 hb13 f0 f1 f2 f3 f4
    go_wp2_with fail
    go_ret
    exact ⟨rfl, Below.al HEND.out⟩
end Go.Proofs.Ytemfnjlfcemehaa
