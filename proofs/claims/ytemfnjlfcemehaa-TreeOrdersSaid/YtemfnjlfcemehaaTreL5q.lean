/- The law TreeOrders (printed by gen_treL5.py). -/
import Derived.Test.YtemfnjlfcemehaaTreOwq
import Derived.Deep.RegionHeld3
import Derived.Deep.DeepCutAuto
import Derived.Deep.CutBlock
import Derived.Deep.QuietTactic
import Derived.BigQuiet
namespace Go.Proofs.Ytemfnjlfcemehaa
open Go.RowKit

set_option maxRecDepth 100000 in
set_option maxHeartbeats 4000000 in
theorem lOrders {w : World} {a : Option Addr} {n c : Nat} {l : List Pt} (h : Pts w a n c l) {oa : Option Addr} {m oc : Nat} {ol : List UInt8} (ho : Bs w oa m oc ol) :
    Calls Try.prog 11 #[.slice a n c, .slice oa m oc] w fun e w' => e = .returned (.bool true) ∧ Below w.heap.size w w' := by
  obtain ⟨e1, e2, e3⟩ := TabR.lens h
  have hm := ho.len
  have hmc : m ≤ oc := ho.2.1
  have hoc : oc ≤ 9223372036854775807 := by have := ho.2.2.1; unfold maxLen at this; omega
  have HP := Lib.hid h
  have HO := Lib.hid ho
  have HL := Lib.hid e1
  have HM := Lib.hid hm
  have A := awake15_any w
  clear h e1 ho hm
  go_enter Try.func11, Try.ntmps11
  go_wp2_with fail
  refine A.mono ?_
  rintro e w1 ⟨rfl, hb1⟩
  have hp1 : Pts w1 a n c l := TabR.below (Nat.le_refl _) hb1 HP.out
  clear A
  go_wp2_with fail
  refine (small15_any hp1).mono ?_
  rintro e w2 ⟨rfl, rfl⟩
  obtain ⟨S, hS⟩ : ∃ S, smallP l = S := ⟨_, rfl⟩
  rw [hS]
  cases S with
  | false =>
    have HB := Lib.hid hb1
    clear hp1 hb1 hS
    go_wp2_with fail
    go_ret
    exact ⟨rfl, HB.out⟩
  | true =>
  obtain ⟨hl80, hall⟩ := okP_facts hS
  have hn80 : n ≤ 80 := by rw [← HL.out]; exact hl80
  have HALL := Lib.hid hall
  have HB1 := Lib.hid hb1
  clear hp1 hb1 hS hall hl80
  by_cases hm200 : 200 < m
  · have d1 : decide ((200 : Int) < (m : Int)) = true := by simp; omega
    have d1' : decide (200 < m) = true := by simp; omega
    clear hm200
    go_wp2_with fail
    go_ret
    exact ⟨rfl, HB1.out⟩
  have d1 : decide ((200 : Int) < (m : Int)) = false := by simp; omega
  have d1' : decide (200 < m) = false := by simp; omega
  go_wp2_with fail
  go_loopw [7, 8] (fun s7 s8 wr => ∃ (i : Nat) (q : List Pt), i ≤ n ∧ s8 = .int .i64 i ∧ OwnPts w.heap.size wr s7 q ∧ q.length ≤ i ∧ (∀ y ∈ q, y ∈ l) ∧ (q.map (·.key)).Nodup ∧ Below w.heap.size w wr) (fun _ s _ => n - (intOf s).toNat)
  case atStart => exact ⟨0, [], Nat.zero_le _, rfl, OwnPts.nil _ _, Nat.le_refl _, (fun y hy => by cases hy), List.nodup_nil, HB1.out⟩
  case round =>
    obtain ⟨i, q, hi, rfl, hq, hqi, hql, hqn, hb⟩ := hrel
    obtain ⟨qa, qc, he, hqp, hqc1, hqc2, hq0⟩ := hq.sl
    obtain ⟨qn, hqnl⟩ : ∃ x, q.length = x := ⟨_, rfl⟩
    rw [hqnl] at hqp hqi hqc1 hq0 he
    subst he
    have HQN := Lib.hid hqnl
    have HQL := Lib.hid hql
    have HND := Lib.hid hqn
    have HQ := Lib.hid hq
    have HQP := Lib.hid hqp
    clear hqnl hqn hq hqp
    by_cases hlt : i < n
    · obtain ⟨bl, ob, y, rfl, hbl, hy, c0, c1, c2⟩ := HP.out.at hlt
      have c0' := (hb.cell (p := ⟨bl, ob + i * 3, none⟩) hbl).trans c0
      have c1' := (hb.cell (p := ⟨bl, ob + i * 3 + 1, none⟩) hbl).trans c1
      have c2' := (hb.cell (p := ⟨bl, ob + i * 3 + 2, none⟩) hbl).trans c2
      have HB := Lib.hid hb
      have HY := Lib.hid hy
      clear c0 c1 c2 hb hy hql
      go_wp2_with fail
      go_loopw [9, 10] (fun s9 s10 wy => ∃ k : Nat, k ≤ qn ∧ s10 = .int .i64 k ∧ s9 = .bool ((q.take k).all (fun z => z.key != y.key)) ∧ ∃ j, wy = wr.drewN j) (fun _ s _ => qn - (intOf s).toNat)
      case atStart => exact ⟨0, Nat.zero_le _, rfl, rfl, 0, rfl⟩
      case round =>
        obtain ⟨k, hk, rfl, rfl, j, rfl⟩ := hrel
        obtain ⟨f, hf⟩ : ∃ f, (q.take k).all (fun z => z.key != y.key) = f := ⟨_, rfl⟩
        rw [hf]
        by_cases hkl : k < qn
        · obtain ⟨bq, oq, z, eqa, hbq, hz, z0, z1, z2⟩ := HQP.out.at hkl
          subst eqa
          have hnx := all_snoc (fun z => z.key != y.key) hz
          rw [hf] at hnx
          have HF := Lib.hid hf
          cases f with
          | false =>
            have HNX := Lib.hid hnx
            clear hnx hf hz z0 z1 z2
            go_upto_region 15 with (fail)
            go_quiet (fail)
            go_wp2
            go_roundw
            case rel => exact ⟨k + 1, hkl, by go_num, by rw [HNX.out]; rfl, _, rfl⟩
            case measure => simp [intOf]; omega
          | true =>
            obtain ⟨o, ho⟩ : ∃ o, decide (z.key = y.key) = o := ⟨_, rfl⟩
            have q1 := eq_walk ho
            have HNX : Hid ((q.take (k + 1)).all (fun z => z.key != y.key) = !o) := Lib.hid (by
              rw [hnx, Bool.true_and, ← ho]; unfold bne; by_cases h : z.key = y.key <;> simp [h])
            clear hnx hf hz z1 z2 ho
            go_upto_region 15 with (fail)
            go_quiet (fail)
            go_wp2
            go_roundw
            case rel => exact ⟨k + 1, hkl, by go_num, by rw [HNX.out], _, rfl⟩
            case measure => simp [intOf]; omega
        · obtain rfl : k = qn := by omega
          rw [List.take_of_length_le (by rw [HQN.out]; exact Nat.le_refl _)] at hf
          have hbj : Below w.heap.size w (wr.drewN j) := below_drewN HB.out j
          have hqj : OwnPts w.heap.size (wr.drewN j) (.slice qa k qc) q := HQ.out.below (below_drewN (Below.refl _ _) j)
          cases f with
          | false =>
            have HQJ := Lib.hid hqj
            have HBJ := Lib.hid hbj
            clear hf hbj hqj
            go_wp2
            go_roundw
            case rel => exact ⟨i + 1, q, hlt, by go_num, HQJ.out, by rw [HQN.out]; omega, HQL.out, HND.out, HBJ.out⟩
            case measure => simp [intOf]; omega
          | true =>
            have hsz : w.heap.size ≤ (wr.drewN j).heap.size := hbj.size
            obtain ⟨v8, w8, hr8, hq8, hg8⟩ := hqj.app hsz (by rw [HQN.out]; omega) y
            have hge := fun g hg => (hqj.lt g hg).1
            have HB8 := Lib.hid (hbj.grown hg8 hsz hge)
            have HQ8 := Lib.hid hq8
            have HN8 : Hid (((q ++ [y]).map (·.key)).Nodup) := Lib.hid (nodup_snoc HND.out hf)
            have HL8 : Hid (∀ z ∈ q ++ [y], z ∈ l) := Lib.hid (fun z hz => by
              rcases List.mem_append.1 hz with hz | hz
              · exact HQL.out z hz
              · simp at hz; subst hz; exact List.mem_of_getElem? HY.out)
            have b0 : (wr.drewN j).cell? ⟨bl, ob + i * 3, none⟩ = some (.string (strOf y.key)) := c0'
            have b1 : (wr.drewN j).cell? ⟨bl, ob + i * 3 + 1, none⟩ = some (.int .u8 (y.fill.toNat : Int)) := c1'
            have b2 : (wr.drewN j).cell? ⟨bl, ob + i * 3 + 2, none⟩ = some (.int .i64 y.size) := c2'
            clear hf hbj hqj hq8 hg8 hge hsz
            go_wp2_with (at_builtin; refine wpList_append_run rfl _ _ _ _ rfl rfl rfl hr8 ?_)
            go_roundw
            case rel => exact ⟨i + 1, q ++ [y], hlt, by go_num, HQ8.out, by rw [List.length_append, HQN.out]; simp; omega, HL8.out, HN8.out, HB8.out⟩
            case measure => simp [intOf]; omega
    · obtain rfl : i = n := by omega
      have HB := Lib.hid hb
      clear hb hql
      clear HQP
      go_wp2_with fail
      refine (tempty_any wr (fun _ => False)).mono ?_
      rintro e w3 ⟨cs, rfl, hn0, hb3⟩
      obtain ⟨x1, k1, x2, k2, x3, k3, ecs, hn0⟩ := empty_on (F := fun _ => False) hn0
      subst ecs
      have hbox := TrBox.new (B := w3.heap.size + 1) hn0 (fun b h => h.elim) whole_empty 33
      have hbel : Below w.heap.size w (w3.alloc (.cells #[.int .i64 0, .bool true, .slice x1 0 k1, .slice x2 0 k2, .slice x3 0 k3] 33)) := Below.al (HB.out.trans (hb3.mono HB.out.size))
      have hq3 := HQ.out.below hb3
      have hqlt : ∀ g, (Value.slice qa qn qc).ownBlock = some g → g < w3.heap.size := fun g hg => (hq3.lt g hg).2
      have HQA := Lib.hid (hq3.below (Below.al (o := .cells #[.int .i64 0, .bool true, .slice x1 0 k1, .slice x2 0 k2, .slice x3 0 k3] 33) (Below.refl _ _)))
      have HQLT := Lib.hid hqlt
      have HBOX := Lib.hid hbox
      have HBEL := Lib.hid hbel
      have hle : w.heap.size ≤ w3.heap.size := Nat.le_trans HB.out.size hb3.size
      clear hn0 hb3 hbox hbel hq3 hqlt hq0
      go_wp2_with fail
      go_loopw [12] (fun s12 wr => ∃ (k N : Nat) (t : Tr), k ≤ qn ∧ s12 = .int .i64 k ∧ TrBox (w3.heap.size + 1) w3.heap.size wr N t ∧ N ≤ k + 1 ∧ entsT N t = putsL ((q.map ptE).take k) [] ∧ OwnPts w.heap.size wr (.slice qa qn qc) q ∧ Below w.heap.size w wr) (fun s _ => qn - (intOf s).toNat)
      case atStart => exact ⟨0, 1, _, Nat.zero_le _, rfl, HBOX.out, Nat.le_refl _, rfl, HQA.out, HBEL.out⟩
      case round =>
        clear HBOX HBEL HQA
        obtain ⟨k, N, t, hk, rfl, hbox, hN, hen, hq, hb⟩ := hrel
        by_cases hlk : k < qn
        · obtain ⟨qa', qc', he, hqp, _, _, hq0⟩ := hq.sl
          rw [HQN.out] at he hqp hq0
          cases he
          obtain ⟨g, rfl, hg1, hg2⟩ := hq0 (by omega)
          have hgb := HQLT.out g rfl
          obtain ⟨_, _, y, eqa, _, hy, z0, z1, z2⟩ := hqp.at hlk
          cases eqa
          obtain ⟨hyk, sz, hsz, hsz4⟩ := HALL.out y (HQL.out y (List.mem_of_getElem? hy))
          rw [hsz] at z2
          have l0 : ∀ W, AgreeF (fun x => x ≠ w3.heap.size) wr W → W.cell? ⟨g, 0 + k * 3, none⟩ = some (.string (strOf y.key)) := fun W hW => (hW.cell (by omega) hg2).trans z0
          have l1 : ∀ W, AgreeF (fun x => x ≠ w3.heap.size) wr W → W.cell? ⟨g, 0 + k * 3 + 1, none⟩ = some (.int .u8 (y.fill.toNat : Int)) := fun W hW => (hW.cell (by omega) hg2).trans z1
          have l2 : ∀ W, AgreeF (fun x => x ≠ w3.heap.size) wr W → W.cell? ⟨g, 0 + k * 3 + 2, none⟩ = some (.int .i64 (sz : Int)) := fun W hW => (hW.cell (by omega) hg2).trans z2
          rw [Nat.zero_add] at l0 l1 l2
          have HYN : Hid (putsL ((q.map ptE).take (k + 1)) [] = putL y.key ⟨fillT y.fill sz, []⟩ (putsL ((q.map ptE).take k) [])) := Lib.hid (by
            rw [puts_next (c := ptE y) (by rw [List.getElem?_map, hy]; rfl)]
            show putL y.key ⟨fillT y.fill y.size.toNat, []⟩ _ = _
            rw [hsz]; rfl)
          have HSZ := Lib.hid hsz
          have HYK := Lib.hid hyk
          have HEN := Lib.hid hen
          have HQ2 := Lib.hid hq
          have hA0 : AgreeF (fun x => x ≠ w3.heap.size) wr wr.drew := AgreeF.refl _
          clear hsz hyk hen hq hqp hy z0 z1 z2
          obtain ⟨p, lf, a1, n1, c1, a2, n2, c2, a3, n3, c3, hx, hn, hw⟩ := hbox
          have hxl := hx.lt 0 rfl
          have hval : valOk ⟨fillT y.fill sz, []⟩ := ⟨by rw [fillT_len]; exact hsz4, fun h => absurd rfl h⟩
          have hnl := hn.lt
          obtain ⟨T, hT⟩ : ∃ T, putW N t y.key ⟨fillT y.fill sz, []⟩ = T := ⟨_, rfl⟩
          obtain ⟨E, hE⟩ : ∃ E, entsT N t = E := ⟨_, rfl⟩
          have CP : ∀ W, Below wr.heap.size wr W → Calls Try.prog 33 #[.agg #[.int .i64 p, .bool lf, .slice a1 n1 c1, .slice a2 n2 c2, .slice a3 n3 c3], .string (strOf y.key), .string (strOf (fillT y.fill sz))] W (fun e w' => ∃ M cs, M ≤ N + 1 ∧ e = .returned (.agg cs.toArray) ∧ NodeOn (Fr (fun x => w3.heap.size + 1 ≤ x ∧ x < wr.heap.size) W) M w' cs T ∧ Whole M T ∧ entsT M T = putL y.key ⟨fillT y.fill sz, []⟩ E ∧ Below W.heap.size W w') := fun W hW => (tPut_whole (hnl.below hW) hw y.key (fillT y.fill sz) HYK.out (by rw [fillT_len]; exact hsz4)).mono fun e w' h => by
            unfold PutTo at h
            rw [hT, hE] at h
            exact h
          have CV : ∀ W, Calls Try.prog 34 #[.agg #[.string (strOf y.key), .int .u8 (y.fill.toNat : Int), .int .i64 (sz : Int)]] W (fun e w' => e = .returned (.string (strOf (fillT y.fill sz))) ∧ Below W.heap.size W w') := fun W => by
            have := value15_any y sz HSZ.out hsz4 W
            unfold ptC at this
            rwa [HSZ.out] at this
          have hGB : ∀ W, Below wr.heap.size wr W → ∀ x, Fr (fun x => w3.heap.size + 1 ≤ x ∧ x < wr.heap.size) W x → w3.heap.size + 1 ≤ x := fun W hW x h => fr_le (fun b h => h.1) (by omega) hW.size h
          have hBB : w3.heap.size < w3.heap.size + 1 := Nat.lt_succ_self _
          have f0 := hx.cell 0 0 rfl rfl
          have f1 := hx.cell 0 1 rfl rfl
          have f2 := hx.cell 0 2 rfl rfl
          have f3 := hx.cell 0 3 rfl rfl
          have f4 := hx.cell 0 4 rfl rfl
          have HXB := Lib.hid hx
          have HBW := Lib.hid hb
          have HEE := Lib.hid hE
          have HTT := Lib.hid hT
          clear hx hn hnl hw hb hE hT hval
          go_upto_region 22 with (fail)
          refine wp_region_noPanic ?_
          refine wp_region_held_drew (S := (fun W => AgreeF (fun x => x ≠ w3.heap.size) wr W)) (by kernel_rfl) (by (repeat (with_reducible first | assumption | exact AgreeF.refl _ | apply AgreeF.al | apply AgreeF.dr | apply AgreeF.st))) (fun hHeld => ?_)
          refine wpAnyH_take (i := 1) (oi := { dst := some 77, op := Op.move (Operand.tmp 7), type := 58, pos := "law.go:252", after := #[], guard := none }) (v := ?_) rfl (by kernel_rfl) (by kernel_rfl) (by kernel_rfl) (fun _ _ _ h => h) (Or.inl ⟨by rfl, ?_⟩) (by assumption) ?_
          rotate_left
          · (intro W hW; (try dsimp only at hW); go_simp <;> (with_reducible rfl))
          try simp only [Act.put, List.setIfInBounds_toArray, List.set_cons_zero, List.set_cons_succ]
          refine wpAnyH_take (i := 2) (oi := { dst := some 78, op := Op.move (Operand.tmp 12), type := 3, pos := "law.go:252", after := #[], guard := none }) (v := ?_) rfl (by kernel_rfl) (by kernel_rfl) (by kernel_rfl) (fun _ _ _ h => h) (Or.inl ⟨by rfl, ?_⟩) (by assumption) ?_
          rotate_left
          · (intro W hW; (try dsimp only at hW); go_simp <;> (with_reducible rfl))
          try simp only [Act.put, List.setIfInBounds_toArray, List.set_cons_zero, List.set_cons_succ]
          refine wpAnyH_take (i := 3) (oi := { dst := some 79, op := Op.indexAddr 58 (Operand.tmp 77) (Operand.tmp 78), type := 0, pos := "law.go:252", after := #[{ on := 1, ground := Ground.data }, { on := 2, ground := Ground.data }], guard := none }) (v := ?_) rfl (by kernel_rfl) (by kernel_rfl) (by kernel_rfl) (fun _ _ _ h => h) (Or.inl ⟨by rfl, ?_⟩) (by assumption) ?_
          rotate_left
          · (intro W hW; (try dsimp only at hW); go_simp <;> (with_reducible rfl))
          try simp only [Act.put, List.setIfInBounds_toArray, List.set_cons_zero, List.set_cons_succ]
          refine wpAnyH_take (i := 4) (oi := { dst := some 80, op := Op.fieldAddr 64 (Operand.tmp 79) 0, type := 0, pos := "law.go:252", after := #[{ on := 3, ground := Ground.data }], guard := none }) (v := ?_) rfl (by kernel_rfl) (by kernel_rfl) (by kernel_rfl) (fun _ _ _ h => h) (Or.inl ⟨by rfl, ?_⟩) (by assumption) ?_
          rotate_left
          · (intro W hW; (try dsimp only at hW); go_simp <;> (with_reducible rfl))
          try simp only [Act.put, List.setIfInBounds_toArray, List.set_cons_zero, List.set_cons_succ]
          refine wpAnyH_take (i := 5) (oi := { dst := some 81, op := Op.load 9 (Operand.tmp 80), type := 9, pos := "law.go:252", after := #[{ on := 4, ground := Ground.data }], guard := none }) (v := ?_) rfl (by kernel_rfl) (by kernel_rfl) (by kernel_rfl) (fun _ _ _ h => h) (Or.inl ⟨by rfl, ?_⟩) (by assumption) ?_
          rotate_left
          · (intro W hW; (try dsimp only at hW); go_simp <;> (with_reducible rfl))
          try simp only [Act.put, List.setIfInBounds_toArray, List.set_cons_zero, List.set_cons_succ]
          refine wpAnyH_take (i := 6) (oi := { dst := some 82, op := Op.move (Operand.tmp 7), type := 58, pos := "law.go:252", after := #[], guard := none }) (v := ?_) rfl (by kernel_rfl) (by kernel_rfl) (by kernel_rfl) (fun _ _ _ h => h) (Or.inl ⟨by rfl, ?_⟩) (by assumption) ?_
          rotate_left
          · (intro W hW; (try dsimp only at hW); go_simp <;> (with_reducible rfl))
          try simp only [Act.put, List.setIfInBounds_toArray, List.set_cons_zero, List.set_cons_succ]
          refine wpAnyH_take (i := 7) (oi := { dst := some 83, op := Op.move (Operand.tmp 12), type := 3, pos := "law.go:252", after := #[], guard := none }) (v := ?_) rfl (by kernel_rfl) (by kernel_rfl) (by kernel_rfl) (fun _ _ _ h => h) (Or.inl ⟨by rfl, ?_⟩) (by assumption) ?_
          rotate_left
          · (intro W hW; (try dsimp only at hW); go_simp <;> (with_reducible rfl))
          try simp only [Act.put, List.setIfInBounds_toArray, List.set_cons_zero, List.set_cons_succ]
          refine wpAnyH_take (i := 8) (oi := { dst := some 84, op := Op.indexAddr 58 (Operand.tmp 82) (Operand.tmp 83), type := 0, pos := "law.go:252", after := #[{ on := 6, ground := Ground.data }, { on := 7, ground := Ground.data }], guard := none }) (v := ?_) rfl (by kernel_rfl) (by kernel_rfl) (by kernel_rfl) (fun _ _ _ h => h) (Or.inl ⟨by rfl, ?_⟩) (by assumption) ?_
          rotate_left
          · (intro W hW; (try dsimp only at hW); go_simp <;> (with_reducible rfl))
          try simp only [Act.put, List.setIfInBounds_toArray, List.set_cons_zero, List.set_cons_succ]
          refine wpAnyH_take (i := 9) (oi := { dst := some 85, op := Op.load 64 (Operand.tmp 84), type := 64, pos := "law.go:252", after := #[{ on := 8, ground := Ground.data }], guard := none }) (v := ?_) rfl (by kernel_rfl) (by kernel_rfl) (by kernel_rfl) (fun _ _ _ h => h) (Or.inl ⟨by rfl, ?_⟩) (by assumption) ?_
          rotate_left
          · (intro W hW; (try dsimp only at hW); go_simp <;> (with_reducible rfl))
          try simp only [Act.put, List.setIfInBounds_toArray, List.set_cons_zero, List.set_cons_succ]
          refine wpAnyH_ready (rs := [0, 10]) (by kernel_rfl) (by simp) (AllReadyH.cons (o := { dst := some 76, op := Op.load 33 (Operand.tmp 11), type := 33, pos := "law.go:252", after := #[], guard := none }) rfl (fun K hK => ?_) (AllReadyH.cons (o := { dst := some 86, op := Op.call { callee := Callee.value (Operand.func 34), args := #[Operand.tmp 85], argTypes := #[64] }, type := 9, pos := "law.go:252", after := #[{ on := 9, ground := Ground.data }], guard := none }) rfl (fun K hK => ?_) AllReadyH.nil))
          · (rw [if_pos (by rfl)]; go_wp2_with (fail))
            refine hK.out _ _ (by (repeat (with_reducible first | assumption | exact AgreeF.refl _ | apply AgreeF.al | apply AgreeF.dr | apply AgreeF.st))) (fun hHeld => ?_)
            clear hK K
            try simp only [Act.put, List.setIfInBounds_toArray, List.set_cons_zero, List.set_cons_succ]
            refine wpAnyH_ready (rs := [10]) (by kernel_rfl) (by simp) (AllReadyH.cons (o := { dst := some 86, op := Op.call { callee := Callee.value (Operand.func 34), args := #[Operand.tmp 85], argTypes := #[64] }, type := 9, pos := "law.go:252", after := #[{ on := 9, ground := Ground.data }], guard := none }) rfl (fun K hK => ?_) AllReadyH.nil)
            (rw [if_pos (by rfl)]; go_wp2_with (go_at_call 34; (with_reducible refine (CV _).mono ?_); rintro e w6 ⟨rfl, hb6⟩; have hB6 : Below wr.heap.size wr w6 := below_via (by (repeat (with_reducible first | assumption | exact Below.refl _ _ | apply Below.al | apply Below.dr))) hb6; have hA6 : AgreeF (fun x => x ≠ w3.heap.size) wr w6 := AgreeF.of_below hB6; have hx6 := HXB.out.step hB6; have m0 := hx6.cell 0 0 rfl rfl; have m1 := hx6.cell 0 1 rfl rfl; have m2 := hx6.cell 0 2 rfl rfl; have m3 := hx6.cell 0 3 rfl rfl; have m4 := hx6.cell 0 4 rfl rfl))
            refine hK.out _ _ (by (repeat (with_reducible first | assumption | exact AgreeF.refl _ | apply AgreeF.al | apply AgreeF.dr | apply AgreeF.st))) (fun hHeld => ?_)
            clear hK K
            try simp only [Act.put, List.setIfInBounds_toArray, List.set_cons_zero, List.set_cons_succ]
            refine wpAnyH_ready (rs := [11]) (by kernel_rfl) (by simp) (AllReadyH.cons (o := { dst := some 87, op := Op.call { callee := Callee.value (Operand.func 33), args := #[Operand.tmp 76, Operand.tmp 81, Operand.tmp 86], argTypes := #[33, 9, 9] }, type := 33, pos := "law.go:252", after := #[{ on := 0, ground := Ground.data }, { on := 5, ground := Ground.data }, { on := 10, ground := Ground.data }, { on := 10, ground := Ground.chain }], guard := none }) rfl (fun K hK => ?_) AllReadyH.nil)
            (rw [if_pos (by rfl)]; go_wp2_with (go_at_call 33; (with_reducible refine (CP _ ?_).mono ?_); (focus (repeat (with_reducible first | assumption | exact Below.refl _ _ | apply Below.al | apply Below.dr))); rintro e w9 hq9; obtain ⟨M, cs9, hM9, rfl, hn9, hw9, hE9, hb9⟩ := hq9; obtain ⟨j1, j2, j3, j4, j5, j6, j7, j8, ecs9, _, _⟩ := hn9.words; subst ecs9; have HE9 := Lib.hid hE9; clear hE9; have hB9 : Below wr.heap.size wr w9 := below_via (by (repeat (with_reducible first | assumption | exact Below.refl _ _ | apply Below.al | apply Below.dr))) hb9; have hA9 : AgreeF (fun x => x ≠ w3.heap.size) wr w9 := AgreeF.of_below hB9; have hx9 := HXB.out.step hB9; have z0 := hx9.cell 0 0 rfl rfl; have u0 := hx9.frozen 0 0 rfl; have z1 := hx9.cell 0 1 rfl rfl; have u1 := hx9.frozen 0 1 rfl; have z2 := hx9.cell 0 2 rfl rfl; have u2 := hx9.frozen 0 2 rfl; have z3 := hx9.cell 0 3 rfl rfl; have u3 := hx9.frozen 0 3 rfl; have z4 := hx9.cell 0 4 rfl rfl; have u4 := hx9.frozen 0 4 rfl))
            refine hK.out _ _ (by (repeat (with_reducible first | assumption | exact AgreeF.refl _ | apply AgreeF.al | apply AgreeF.dr | apply AgreeF.st))) (fun hHeld => ?_)
            clear hK K
            try simp only [Act.put, List.setIfInBounds_toArray, List.set_cons_zero, List.set_cons_succ]
            refine wpAnyH_ready (rs := [12]) (by kernel_rfl) (by simp) (AllReadyH.cons (o := { dst := none, op := Op.store 33 (Operand.tmp 11) (Operand.tmp 87), type := 0, pos := "law.go:252", after := #[{ on := 11, ground := Ground.data }, { on := 11, ground := Ground.chain }, { on := 0, ground := Ground.phase }, { on := 1, ground := Ground.phase }, { on := 2, ground := Ground.phase }, { on := 3, ground := Ground.phase }, { on := 4, ground := Ground.phase }, { on := 5, ground := Ground.phase }, { on := 6, ground := Ground.phase }, { on := 7, ground := Ground.phase }, { on := 8, ground := Ground.phase }, { on := 9, ground := Ground.phase }, { on := 10, ground := Ground.phase }, { on := 11, ground := Ground.phase }], guard := none }) rfl (fun K hK => ?_) AllReadyH.nil)
            (rw [if_pos (by rfl)]; go_wp2_with (fail))
            refine hK.out _ _ (by (repeat (with_reducible first | assumption | exact AgreeF.refl _ | apply AgreeF.al | apply AgreeF.dr | apply AgreeF.st))) (fun hHeld => ?_)
            clear hK K
            try simp only [Act.put, List.setIfInBounds_toArray, List.set_cons_zero, List.set_cons_succ]
            refine wpAnyH_done (by kernel_rfl) ?_ _
            refine NoPanic.normal ?_
            have hA := PutStay.mk (B := w3.heap.size + 1) (w := w) (wr := wr) hx9 hn9 (hGB _ (by (repeat (with_reducible first | assumption | exact Below.refl _ _ | apply Below.al | apply Below.dr)))) hBB hw9 hM9 HE9.out hA9 (HBW.out.trans (hB9.mono HBW.out.size)) hle
            unfold set5 at hA
            have HA := Lib.hid hA
            clear hA hx9 hn9 hA9 hB9 hb9
            go_wp2_with fail
            go_roundw
            case rel => obtain ⟨M9, h1, h2, h3, h4, h5⟩ := HA.out; exact ⟨k + 1, M9, T, hlk, by go_num, h1, by omega, by rw [h3, HYN.out, ← HEN.out, HEE.out], HQ2.out.agree h4 (fun g hg => by have := HQLT.out g hg; omega), h5⟩
            case measure => simp [intOf]; omega
          · (rw [if_pos (by rfl)]; go_wp2_with (go_at_call 34; (with_reducible refine (CV _).mono ?_); rintro e w6 ⟨rfl, hb6⟩; have hB6 : Below wr.heap.size wr w6 := below_via (by (repeat (with_reducible first | assumption | exact Below.refl _ _ | apply Below.al | apply Below.dr))) hb6; have hA6 : AgreeF (fun x => x ≠ w3.heap.size) wr w6 := AgreeF.of_below hB6; have hx6 := HXB.out.step hB6; have m0 := hx6.cell 0 0 rfl rfl; have m1 := hx6.cell 0 1 rfl rfl; have m2 := hx6.cell 0 2 rfl rfl; have m3 := hx6.cell 0 3 rfl rfl; have m4 := hx6.cell 0 4 rfl rfl))
            refine hK.out _ _ (by (repeat (with_reducible first | assumption | exact AgreeF.refl _ | apply AgreeF.al | apply AgreeF.dr | apply AgreeF.st))) (fun hHeld => ?_)
            clear hK K
            try simp only [Act.put, List.setIfInBounds_toArray, List.set_cons_zero, List.set_cons_succ]
            refine wpAnyH_ready (rs := [0]) (by kernel_rfl) (by simp) (AllReadyH.cons (o := { dst := some 76, op := Op.load 33 (Operand.tmp 11), type := 33, pos := "law.go:252", after := #[], guard := none }) rfl (fun K hK => ?_) AllReadyH.nil)
            (rw [if_pos (by rfl)]; go_wp2_with (fail))
            refine hK.out _ _ (by (repeat (with_reducible first | assumption | exact AgreeF.refl _ | apply AgreeF.al | apply AgreeF.dr | apply AgreeF.st))) (fun hHeld => ?_)
            clear hK K
            try simp only [Act.put, List.setIfInBounds_toArray, List.set_cons_zero, List.set_cons_succ]
            refine wpAnyH_ready (rs := [11]) (by kernel_rfl) (by simp) (AllReadyH.cons (o := { dst := some 87, op := Op.call { callee := Callee.value (Operand.func 33), args := #[Operand.tmp 76, Operand.tmp 81, Operand.tmp 86], argTypes := #[33, 9, 9] }, type := 33, pos := "law.go:252", after := #[{ on := 0, ground := Ground.data }, { on := 5, ground := Ground.data }, { on := 10, ground := Ground.data }, { on := 10, ground := Ground.chain }], guard := none }) rfl (fun K hK => ?_) AllReadyH.nil)
            (rw [if_pos (by rfl)]; go_wp2_with (go_at_call 33; (with_reducible refine (CP _ ?_).mono ?_); (focus (repeat (with_reducible first | assumption | exact Below.refl _ _ | apply Below.al | apply Below.dr))); rintro e w9 hq9; obtain ⟨M, cs9, hM9, rfl, hn9, hw9, hE9, hb9⟩ := hq9; obtain ⟨j1, j2, j3, j4, j5, j6, j7, j8, ecs9, _, _⟩ := hn9.words; subst ecs9; have HE9 := Lib.hid hE9; clear hE9; have hB9 : Below wr.heap.size wr w9 := below_via (by (repeat (with_reducible first | assumption | exact Below.refl _ _ | apply Below.al | apply Below.dr))) hb9; have hA9 : AgreeF (fun x => x ≠ w3.heap.size) wr w9 := AgreeF.of_below hB9; have hx9 := HXB.out.step hB9; have z0 := hx9.cell 0 0 rfl rfl; have u0 := hx9.frozen 0 0 rfl; have z1 := hx9.cell 0 1 rfl rfl; have u1 := hx9.frozen 0 1 rfl; have z2 := hx9.cell 0 2 rfl rfl; have u2 := hx9.frozen 0 2 rfl; have z3 := hx9.cell 0 3 rfl rfl; have u3 := hx9.frozen 0 3 rfl; have z4 := hx9.cell 0 4 rfl rfl; have u4 := hx9.frozen 0 4 rfl))
            refine hK.out _ _ (by (repeat (with_reducible first | assumption | exact AgreeF.refl _ | apply AgreeF.al | apply AgreeF.dr | apply AgreeF.st))) (fun hHeld => ?_)
            clear hK K
            try simp only [Act.put, List.setIfInBounds_toArray, List.set_cons_zero, List.set_cons_succ]
            refine wpAnyH_ready (rs := [12]) (by kernel_rfl) (by simp) (AllReadyH.cons (o := { dst := none, op := Op.store 33 (Operand.tmp 11) (Operand.tmp 87), type := 0, pos := "law.go:252", after := #[{ on := 11, ground := Ground.data }, { on := 11, ground := Ground.chain }, { on := 0, ground := Ground.phase }, { on := 1, ground := Ground.phase }, { on := 2, ground := Ground.phase }, { on := 3, ground := Ground.phase }, { on := 4, ground := Ground.phase }, { on := 5, ground := Ground.phase }, { on := 6, ground := Ground.phase }, { on := 7, ground := Ground.phase }, { on := 8, ground := Ground.phase }, { on := 9, ground := Ground.phase }, { on := 10, ground := Ground.phase }, { on := 11, ground := Ground.phase }], guard := none }) rfl (fun K hK => ?_) AllReadyH.nil)
            (rw [if_pos (by rfl)]; go_wp2_with (fail))
            refine hK.out _ _ (by (repeat (with_reducible first | assumption | exact AgreeF.refl _ | apply AgreeF.al | apply AgreeF.dr | apply AgreeF.st))) (fun hHeld => ?_)
            clear hK K
            try simp only [Act.put, List.setIfInBounds_toArray, List.set_cons_zero, List.set_cons_succ]
            refine wpAnyH_done (by kernel_rfl) ?_ _
            refine NoPanic.normal ?_
            have hA := PutStay.mk (B := w3.heap.size + 1) (w := w) (wr := wr) hx9 hn9 (hGB _ (by (repeat (with_reducible first | assumption | exact Below.refl _ _ | apply Below.al | apply Below.dr)))) hBB hw9 hM9 HE9.out hA9 (HBW.out.trans (hB9.mono HBW.out.size)) hle
            unfold set5 at hA
            have HA := Lib.hid hA
            clear hA hx9 hn9 hA9 hB9 hb9
            go_wp2_with fail
            go_roundw
            case rel => obtain ⟨M9, h1, h2, h3, h4, h5⟩ := HA.out; exact ⟨k + 1, M9, T, hlk, by go_num, h1, by omega, by rw [h3, HYN.out, ← HEN.out, HEE.out], HQ2.out.agree h4 (fun g hg => by have := HQLT.out g hg; omega), h5⟩
            case measure => simp [intOf]; omega
        · obtain rfl : k = qn := by omega
          rw [List.take_of_length_le (by rw [List.length_map, HQN.out]; exact Nat.le_refl _)] at hen
          have HEN := Lib.hid hen
          have HQ0 := Lib.hid hq
          have HB0 := Lib.hid hb
          have HA := Lib.hid hbox.on
          obtain ⟨wS, rfl⟩ : ∃ x : World, x = wr := ⟨_, rfl⟩
          have hsl : w3.heap.size < wS.heap.size := by
            obtain ⟨_, _, _, _, _, _, _, _, _, _, _, hx, _⟩ := hbox
            exact hx.lt 0 rfl
          clear hen hq hb hbox
          go_upto_block 6 with (fail)
          go_cut [] (fun wq => ∃ q2, List.Perm q2 q ∧ OwnPts w.heap.size wq (.slice qa k qc) q2 ∧ TrOn (fun x => w3.heap.size + 1 ≤ x ∧ x < wS.heap.size) w3.heap.size wq N t ∧ Below w.heap.size w wq ∧ wS.heap.size ≤ wq.heap.size)
          case first =>
            go_wp2_with fail
            go_loopw [13] (fun s13 wx => ∃ (i2 : Nat) (q2 : List Pt), i2 ≤ 204 ∧ s13 = .int .i64 i2 ∧ List.Perm q2 q ∧ OwnPts w.heap.size wx (.slice qa k qc) q2 ∧ AgreeF (fun x => x < wS.heap.size ∧ w3.heap.size ≤ x) wS wx ∧ Below w.heap.size w wx) (fun s _ => 206 - (intOf s).toNat)
            case atStart => exact ⟨0, q, by omega, rfl, List.Perm.refl _, HQ0.out, AgreeF.refl _, HB0.out⟩
            case round =>
              obtain ⟨i2, q2, hi2, rfl, hp, hq, hag, hb⟩ := hrel
              have hEX : Hid (∃ q2, List.Perm q2 q ∧ OwnPts w.heap.size wr (.slice qa k qc) q2 ∧ TrOn (fun x => w3.heap.size + 1 ≤ x ∧ x < wS.heap.size) w3.heap.size wr N t ∧ Below w.heap.size w wr ∧ wS.heap.size ≤ wr.heap.size) := Lib.hid ⟨q2, hp, hq, HA.out.agree hag (fun x hx => ⟨hx.2, by omega⟩) ⟨hsl, Nat.le_refl _⟩, hb, hag.1⟩
              by_cases hc : i2 + 1 < m
              rotate_left
              · have d2 : decide ((i2 : Int) + 1 < (m : Int)) = false := by simp; omega
                have d2' : decide (i2 + 1 < m) = false := by simp; omega
                clear hc hp hq hag hb
                go_wp2_with fail
                go_meet
                exact hEX.out
              have d2 : decide ((i2 : Int) + 1 < (m : Int)) = true := by simp; omega
              have d2' : decide (i2 + 1 < m) = true := by simp; omega
              by_cases hk0 : k = 0
              · subst hk0
                clear hc hp hq hag hb
                go_wp2_with fail
                go_meet
                exact hEX.out
              have d3 : decide ((0 : Int) < (k : Int)) = true := by simp; omega
              have d3' : decide (0 < k) = true := by simp; omega
              obtain ⟨qa', qc', he, hqp, _, _, hq0⟩ := hq.sl
              rw [hp.length_eq, HQN.out] at he hqp hq0
              cases he
              obtain ⟨g, rfl, hg1, hg2⟩ := hq0 (by omega)
              have hgb := HQLT.out g rfl
              obtain ⟨bo, oo, eo, hbo, hco⟩ := HO.out.cell (show i2 < m by omega)
              subst eo
              have o1 := (hb.cell (p := ⟨bo, oo + i2, none⟩) hbo).trans (hco i2 (by omega))
              have o2 := (hb.cell (p := ⟨bo, oo + (i2 + 1), none⟩) hbo).trans (hco (i2 + 1) (by omega))
              generalize ol[i2]?.getD 0 = u1 at o1
              generalize ol[i2 + 1]?.getD 0 = u2 at o2
              have hu1 := u1.toNat_lt
              have hu2 := u2.toNat_lt
              generalize u1.toNat = U1 at *
              generalize u2.toNat = U2 at *
              obtain ⟨X, hX⟩ : ∃ x, U1 % k = x := ⟨_, rfl⟩
              obtain ⟨Y, hY⟩ : ∃ x, U2 % k = x := ⟨_, rfl⟩
              have hXk : X < k := by rw [← hX]; exact Nat.mod_lt _ (by omega)
              have hYk : Y < k := by rw [← hY]; exact Nat.mod_lt _ (by omega)
              have hXt : (U1 : Int).tmod (k : Int) = (X : Int) := by rw [Int.tmod_eq_emod_of_nonneg (by omega), ← hX]; omega
              have hYt : (U2 : Int).tmod (k : Int) = (Y : Int) := by rw [Int.tmod_eq_emod_of_nonneg (by omega), ← hY]; omega
              have hkz : ((k : Int) == 0) = false := by simp; omega
              obtain ⟨_, _, px, ex, _, hpx, x0, x1, x2⟩ := hqp.at hXk
              cases ex
              obtain ⟨_, _, py, ey, _, hpy, y0, y1, y2⟩ := hqp.at hYk
              cases ey
              rw [Nat.zero_add] at x0 x1 x2 y0 y1 y2
              clear hX hY hco
              have hlen : q2.length = k := by rw [hp.length_eq, HQN.out]
              have hz0 : Below wr.heap.size wr (wr.alloc (.cells #[.string (strOf px.key), .int .u8 (px.fill.toNat : Int), .int .i64 px.size] 64)) := Below.al (Below.refl _ _)
              have hx1 := (Boxes.nil wr).alloc #[.string (strOf px.key), .int .u8 (px.fill.toNat : Int), .int .i64 px.size] 64 (b := wr.heap.size) rfl
              obtain ⟨W1, hW1⟩ : ∃ x, wr.alloc (.cells #[.string (strOf px.key), .int .u8 (px.fill.toNat : Int), .int .i64 px.size] 64) = x := ⟨_, rfl⟩
              rw [hW1] at hz0 hx1
              have hq1 := hq.below hz0
              have hne : ∀ p ∈ [(wr.heap.size, (#[.string (strOf px.key), .int .u8 (px.fill.toNat : Int), .int .i64 px.size] : Array Value).toList)], p.1 ≠ g := by intro p hp; simp at hp; subst hp; simp; omega
              obtain ⟨W2, hW2⟩ : ∃ x, (((W1.setCell ⟨g, X * 3, none⟩ (.string (strOf py.key))).setCell ⟨g, X * 3 + 1, none⟩ (.int .u8 (py.fill.toNat : Int))).setCell ⟨g, X * 3 + 2, none⟩ (.int .i64 py.size)) = x := ⟨_, rfl⟩
              have hq2 := hq1.put hlen hpx py
              have hx2 := ((hx1.set ⟨g, X * 3, none⟩ (.string (strOf py.key)) hne).set ⟨g, X * 3 + 1, none⟩ (.int .u8 (py.fill.toNat : Int)) hne).set ⟨g, X * 3 + 2, none⟩ (.int .i64 py.size) hne
              rw [hW2] at hq2 hx2
              have hlen2 : (q2.set X py).length = k := by rw [List.length_set, hlen]
              obtain ⟨qa2, qc2, he2, hqp2, _, _, _⟩ := hq2.sl
              rw [hlen2] at he2 hqp2
              cases he2
              obtain ⟨_, _, pz, ez, _, hpz, w0, w1', w2'⟩ := hqp2.at hYk
              cases ez
              have hq3 := hq2.put hlen2 hpz px
              have hperm := perm_swap hpx hpy
              have hag1 : AgreeF (fun x => x < wS.heap.size ∧ w3.heap.size ≤ x) wS W1 := hag.below hz0
              have hag2 : AgreeF (fun x => x < wS.heap.size ∧ w3.heap.size ≤ x) wS W2 := by rw [← hW2]; exact ((hag1.set (.inl fun h => by have := h.2; simp at this; omega)).set (.inl fun h => by have := h.2; simp at this; omega)).set (.inl fun h => by have := h.2; simp at this; omega)
              have hag3 : AgreeF (fun x => x < wS.heap.size ∧ w3.heap.size ≤ x) wS (((W2.setCell ⟨g, Y * 3, none⟩ (.string (strOf px.key))).setCell ⟨g, Y * 3 + 1, none⟩ (.int .u8 (px.fill.toNat : Int))).setCell ⟨g, Y * 3 + 2, none⟩ (.int .i64 px.size)) := ((hag2.set (.inl fun h => by have := h.2; simp at this; omega)).set (.inl fun h => by have := h.2; simp at this; omega)).set (.inl fun h => by have := h.2; simp at this; omega)
              have hb1 : Below w.heap.size w W1 := hb.trans (hz0.mono hb.size)
              have hb2 : Below w.heap.size w W2 := by rw [← hW2]; exact ((hb1.setCell hg1 _).setCell hg1 _).setCell hg1 _
              have hb3 : Below w.heap.size w (((W2.setCell ⟨g, Y * 3, none⟩ (.string (strOf px.key))).setCell ⟨g, Y * 3 + 1, none⟩ (.int .u8 (px.fill.toNat : Int))).setCell ⟨g, Y * 3 + 2, none⟩ (.int .i64 px.size)) := ((hb2.setCell hg1 _).setCell hg1 _).setCell hg1 _
              have HAG := Lib.hid hag3
              have HB3 := Lib.hid hb3
              have HQ3 := Lib.hid hq3
              have HPM := Lib.hid (hperm.trans hp)
              have m0 := (hz0.cell (p := ⟨g, X * 3, none⟩) hg2).trans x0
              have m1 := (hz0.cell (p := ⟨g, X * 3 + 1, none⟩) hg2).trans x1
              have m2 := (hz0.cell (p := ⟨g, X * 3 + 2, none⟩) hg2).trans x2
              have n0 := (hz0.cell (p := ⟨g, Y * 3, none⟩) hg2).trans y0
              have n1 := (hz0.cell (p := ⟨g, Y * 3 + 1, none⟩) hg2).trans y1
              have n2 := (hz0.cell (p := ⟨g, Y * 3 + 2, none⟩) hg2).trans y2
              have r0 := hq1.free hlen (X * 3)
              have r1 := hq1.free hlen (X * 3 + 1)
              have r2 := hq1.free hlen (X * 3 + 2)
              have v0 := hq2.free hlen2 (Y * 3)
              have v1 := hq2.free hlen2 (Y * 3 + 1)
              have v2 := hq2.free hlen2 (Y * 3 + 2)
              have t0 := hx2.cell 0 0 rfl rfl
              have t1 := hx2.cell 0 1 rfl rfl
              have t2 := hx2.cell 0 2 rfl rfl
              rw [Nat.zero_add] at w0 w1' w2'
              clear hp hq hag hb hqp hq1 hq2 hq3 hqp2 hpx hpy hpz hlen hlen2 hx1 hx2 hperm hag1 hag2 hag3 hb1 hb2 hb3 hne hq0 hz0
              go_upto_region 29 with (fail)
              go_upto_region 30 with (fail)
              go_wp2_with fail
              go_roundw
              case rel => exact ⟨i2 + 2, (q2.set X py).set Y px, by omega, by go_num, HPM.out, HQ3.out, HAG.out, HB3.out⟩
              case measure => simp [intOf]; omega
          case rest =>
          obtain ⟨q2, hperm, hq, htr, hb, hsz⟩ := hcut
          have HPM := Lib.hid hperm
          have hlen : q2.length = k := by rw [hperm.length_eq, HQN.out]
          have HLN := Lib.hid hlen
          have HT1 := Lib.hid htr
          have HB1' := Lib.hid hb
          have HQ1 := Lib.hid hq
          clear hperm hlen htr hq hb
          go_wp2_with fail
          refine (tempty_any wc (fun _ => False)).mono ?_
          rintro e w4 ⟨cs, rfl, hn4, hb4⟩
          obtain ⟨x1', k1', x2', k2', x3', k3', ecs4, hn4⟩ := empty_on (F := fun _ => False) hn4
          subst ecs4
          have hbox := TrBox.new (B := w4.heap.size + 1) hn4 (fun b h => h.elim) whole_empty 33
          have hba : Below w4.heap.size w4 (w4.alloc (.cells #[.int .i64 0, .bool true, .slice x1' 0 k1', .slice x2' 0 k2', .slice x3' 0 k3'] 33)) := Below.al (Below.refl _ _)
          have hca : Below wc.heap.size wc (w4.alloc (.cells #[.int .i64 0, .bool true, .slice x1' 0 k1', .slice x2' 0 k2', .slice x3' 0 k3'] 33)) := hb4.trans (hba.mono hb4.size)
          have HBOX := Lib.hid hbox
          have HQA := Lib.hid (HQ1.out.below hca)
          have HTA := Lib.hid (HT1.out.below hca)
          have HBEL := Lib.hid (HB1'.out.trans (hca.mono HB1'.out.size))
          have hle4 : w.heap.size ≤ w4.heap.size := Nat.le_trans HB1'.out.size hb4.size
          have hs4 : wS.heap.size ≤ w4.heap.size := Nat.le_trans hsz hb4.size
          clear hn4 hb4 hbox hba hca
          go_upto_block 8 with (fail)
          go_cut [] (fun wq => ∃ M T2, TrBox (w4.heap.size + 1) w4.heap.size wq M T2 ∧ M ≤ 200 ∧ entsT M T2 = putsL ((q2 ++ q2).map ptE) [] ∧ TrOn (fun x => w3.heap.size + 1 ≤ x ∧ x < wS.heap.size) w3.heap.size wq N t ∧ Below w.heap.size w wq)
          case first =>
            go_wp2_with fail
            go_loopw [18] (fun s18 wx => ∃ (i3 M : Nat) (T2 : Tr), i3 ≤ 2 * k ∧ s18 = .int .i64 i3 ∧ TrBox (w4.heap.size + 1) w4.heap.size wx M T2 ∧ M ≤ i3 + 1 ∧ entsT M T2 = putsL (((q2 ++ q2).map ptE).take i3) [] ∧ OwnPts w.heap.size wx (.slice qa k qc) q2 ∧ TrOn (fun x => w3.heap.size + 1 ≤ x ∧ x < wS.heap.size) w3.heap.size wx N t ∧ Below w.heap.size w wx) (fun s _ => 2 * k - (intOf s).toNat)
            case atStart => exact ⟨0, 1, _, Nat.zero_le _, rfl, HBOX.out, Nat.le_refl _, rfl, HQA.out, HTA.out, HBEL.out⟩
            case round =>
              clear HBOX HQA HTA HBEL
              obtain ⟨i3, N2, t2, hi3, rfl, hbox, hN2, hen2, hq, htr, hb⟩ := hrel
              have hmul : IntKind.i64.wrap (2 * (k : Int)) = 2 * (k : Int) := IntWalk.i64_in _ (by omega)
              by_cases hlk3 : i3 < 2 * k
              · have d5 : decide ((i3 : Int) < 2 * (k : Int)) = true := by simp; omega
                obtain ⟨X, hX⟩ : ∃ x, i3 % k = x := ⟨_, rfl⟩
                have hXk : X < k := by rw [← hX]; exact Nat.mod_lt _ (by omega)
                have hXt : (i3 : Int).tmod (k : Int) = (X : Int) := by rw [Int.tmod_eq_emod_of_nonneg (by omega), ← hX]; omega
                have hkz : ((k : Int) == 0) = false := by simp; omega
                obtain ⟨qa', qc', he, hqp, _, _, hq0⟩ := hq.sl
                rw [HLN.out] at he hqp hq0
                cases he
                obtain ⟨g, rfl, hg1, hg2⟩ := hq0 (by omega)
                have hgb := HQLT.out g rfl
                obtain ⟨_, _, y, ey, _, hy, z0, z1, z2⟩ := hqp.at hXk
                cases ey
                rw [Nat.zero_add] at z0 z1 z2
                obtain ⟨hyk, sz, hsz', hsz4⟩ := HALL.out y (HQL.out y (HPM.out.mem_iff.1 (List.mem_of_getElem? hy)))
                rw [hsz'] at z2
                have hyy : (q2 ++ q2)[i3]? = some y := by
                  rw [← hy, ← hX]
                  by_cases h : i3 < k
                  · rw [List.getElem?_append_left (by rw [HLN.out]; exact h), Nat.mod_eq_of_lt h]
                  · rw [List.getElem?_append_right (by rw [HLN.out]; omega), HLN.out]
                    congr 1
                    rw [Nat.mod_eq_sub_mod (by omega), Nat.mod_eq_of_lt (by omega)]
                have HYN : Hid (putsL (((q2 ++ q2).map ptE).take (i3 + 1)) [] = putL y.key ⟨fillT y.fill sz, []⟩ (putsL (((q2 ++ q2).map ptE).take i3) [])) := Lib.hid (by
                  rw [puts_next (c := ptE y) (by rw [List.getElem?_map, hyy]; rfl)]
                  show putL y.key ⟨fillT y.fill y.size.toNat, []⟩ _ = _
                  rw [hsz']; rfl)
                have HSZ := Lib.hid hsz'
                have HYK := Lib.hid hyk
                have HEN2 := Lib.hid hen2
                have hba : Below wr.heap.size wr (wr.alloc (.cells #[.string (strOf y.key), .int .u8 (y.fill.toNat : Int), .int .i64 (sz : Int)] 64)) := Below.al (Below.refl _ _)
                have hx19 := (Boxes.nil wr).alloc #[.string (strOf y.key), .int .u8 (y.fill.toNat : Int), .int .i64 (sz : Int)] 64 (b := wr.heap.size) rfl
                obtain ⟨W1, hW1⟩ : ∃ x, wr.alloc (.cells #[.string (strOf y.key), .int .u8 (y.fill.toNat : Int), .int .i64 (sz : Int)] 64) = x := ⟨_, rfl⟩
                rw [hW1] at hba hx19
                have hbx := hbox.below hba
                have hl4 : w4.heap.size < wr.heap.size := by
                  obtain ⟨_, _, _, _, _, _, _, _, _, _, _, hx, _⟩ := hbox
                  exact hx.lt 0 rfl
                have HQ2 := Lib.hid (hq.below hba)
                have HT2 := Lib.hid (htr.below hba)
                have hb' : Below w.heap.size w W1 := hb.trans (hba.mono hb.size)
                have h19 := hx19.lt 0 rfl
                have l0 : ∀ W, AgreeF (fun x => x ≠ w4.heap.size) W1 W → W.cell? ⟨wr.heap.size, 0, none⟩ = some (.string (strOf y.key)) := fun W hW => (hW.cell (by omega) h19).trans (hx19.cell 0 0 rfl rfl)
                have l1 : ∀ W, AgreeF (fun x => x ≠ w4.heap.size) W1 W → W.cell? ⟨wr.heap.size, 1, none⟩ = some (.int .u8 (y.fill.toNat : Int)) := fun W hW => (hW.cell (by omega) h19).trans (hx19.cell 0 1 rfl rfl)
                have l2 : ∀ W, AgreeF (fun x => x ≠ w4.heap.size) W1 W → W.cell? ⟨wr.heap.size, 2, none⟩ = some (.int .i64 (sz : Int)) := fun W hW => (hW.cell (by omega) h19).trans (hx19.cell 0 2 rfl rfl)
                have hA0 : AgreeF (fun x => x ≠ w4.heap.size) W1 W1.drew := AgreeF.refl _
                clear hsz' hyk hen2 hq hqp hy hyy hX hbox htr hb hba hx19 hq0
                go_upto_region 36 with (fail)
                clear hW1 z0 z1 z2
                obtain ⟨p, lf, a1, n1, c1, a2, n2, c2, a3, n3, c3, hx, hn, hw⟩ := hbx
                have hxl := hx.lt 0 rfl
                have hval : valOk ⟨fillT y.fill sz, []⟩ := ⟨by rw [fillT_len]; exact hsz4, fun h => absurd rfl h⟩
                have hnl := hn.lt
                obtain ⟨T, hT⟩ : ∃ T, putW N2 t2 y.key ⟨fillT y.fill sz, []⟩ = T := ⟨_, rfl⟩
                obtain ⟨E, hE⟩ : ∃ E, entsT N2 t2 = E := ⟨_, rfl⟩
                have CP : ∀ W, Below W1.heap.size W1 W → Calls Try.prog 33 #[.agg #[.int .i64 p, .bool lf, .slice a1 n1 c1, .slice a2 n2 c2, .slice a3 n3 c3], .string (strOf y.key), .string (strOf (fillT y.fill sz))] W (fun e w' => ∃ M cs, M ≤ N2 + 1 ∧ e = .returned (.agg cs.toArray) ∧ NodeOn (Fr (fun x => w4.heap.size + 1 ≤ x ∧ x < W1.heap.size) W) M w' cs T ∧ Whole M T ∧ entsT M T = putL y.key ⟨fillT y.fill sz, []⟩ E ∧ Below W.heap.size W w') := fun W hW => (tPut_whole (hnl.below hW) hw y.key (fillT y.fill sz) HYK.out (by rw [fillT_len]; exact hsz4)).mono fun e w' h => by
                  unfold PutTo at h
                  rw [hT, hE] at h
                  exact h
                have CV : ∀ W, Calls Try.prog 34 #[.agg #[.string (strOf y.key), .int .u8 (y.fill.toNat : Int), .int .i64 (sz : Int)]] W (fun e w' => e = .returned (.string (strOf (fillT y.fill sz))) ∧ Below W.heap.size W w') := fun W => by
                  have := value15_any y sz HSZ.out hsz4 W
                  unfold ptC at this
                  rwa [HSZ.out] at this
                have hGB : ∀ W, Below W1.heap.size W1 W → ∀ x, Fr (fun x => w4.heap.size + 1 ≤ x ∧ x < W1.heap.size) W x → w4.heap.size + 1 ≤ x := fun W hW x h => fr_le (fun b h => h.1) (by omega) hW.size h
                have hBB : w4.heap.size < w4.heap.size + 1 := Nat.lt_succ_self _
                have f0 := hx.cell 0 0 rfl rfl
                have f1 := hx.cell 0 1 rfl rfl
                have f2 := hx.cell 0 2 rfl rfl
                have f3 := hx.cell 0 3 rfl rfl
                have f4 := hx.cell 0 4 rfl rfl
                have HXB := Lib.hid hx
                have HBW := Lib.hid hb'
                have HEE := Lib.hid hE
                have HTT := Lib.hid hT
                clear hx hn hnl hw hb' hE hT hval
                have hle : w.heap.size ≤ w4.heap.size := hle4
                go_upto_region 36 with (fail)
                refine wp_region_noPanic ?_
                refine wp_region_held_drew (S := (fun W => AgreeF (fun x => x ≠ w4.heap.size) W1 W)) (by kernel_rfl) (by (repeat (with_reducible first | assumption | exact AgreeF.refl _ | apply AgreeF.al | apply AgreeF.dr | apply AgreeF.st))) (fun hHeld => ?_)
                refine wpAnyH_take (i := 1) (oi := { dst := some 148, op := Op.fieldAddr 64 (Operand.tmp 19) 0, type := 0, pos := "law.go:264", after := #[], guard := none }) (v := ?_) rfl (by kernel_rfl) (by kernel_rfl) (by kernel_rfl) (fun _ _ _ h => h) (Or.inl ⟨by rfl, ?_⟩) (by assumption) ?_
                rotate_left
                · (intro W hW; (try dsimp only at hW); go_simp <;> (with_reducible rfl))
                try simp only [Act.put, List.setIfInBounds_toArray, List.set_cons_zero, List.set_cons_succ]
                refine wpAnyH_take (i := 2) (oi := { dst := some 149, op := Op.load 9 (Operand.tmp 148), type := 9, pos := "law.go:264", after := #[{ on := 1, ground := Ground.data }], guard := none }) (v := ?_) rfl (by kernel_rfl) (by kernel_rfl) (by kernel_rfl) (fun _ _ _ h => h) (Or.inl ⟨by rfl, ?_⟩) (by assumption) ?_
                rotate_left
                · (intro W hW; (try dsimp only at hW); go_simp <;> (with_reducible rfl))
                try simp only [Act.put, List.setIfInBounds_toArray, List.set_cons_zero, List.set_cons_succ]
                refine wpAnyH_take (i := 3) (oi := { dst := some 150, op := Op.load 64 (Operand.tmp 19), type := 64, pos := "law.go:264", after := #[], guard := none }) (v := ?_) rfl (by kernel_rfl) (by kernel_rfl) (by kernel_rfl) (fun _ _ _ h => h) (Or.inl ⟨by rfl, ?_⟩) (by assumption) ?_
                rotate_left
                · (intro W hW; (try dsimp only at hW); go_simp <;> (with_reducible rfl))
                try simp only [Act.put, List.setIfInBounds_toArray, List.set_cons_zero, List.set_cons_succ]
                refine wpAnyH_ready (rs := [0, 4]) (by kernel_rfl) (by simp) (AllReadyH.cons (o := { dst := some 147, op := Op.load 33 (Operand.tmp 17), type := 33, pos := "law.go:264", after := #[], guard := none }) rfl (fun K hK => ?_) (AllReadyH.cons (o := { dst := some 151, op := Op.call { callee := Callee.value (Operand.func 34), args := #[Operand.tmp 150], argTypes := #[64] }, type := 9, pos := "law.go:264", after := #[{ on := 3, ground := Ground.data }], guard := none }) rfl (fun K hK => ?_) AllReadyH.nil))
                · (rw [if_pos (by rfl)]; go_wp2_with (fail))
                  refine hK.out _ _ (by (repeat (with_reducible first | assumption | exact AgreeF.refl _ | apply AgreeF.al | apply AgreeF.dr | apply AgreeF.st))) (fun hHeld => ?_)
                  clear hK K
                  try simp only [Act.put, List.setIfInBounds_toArray, List.set_cons_zero, List.set_cons_succ]
                  refine wpAnyH_ready (rs := [4]) (by kernel_rfl) (by simp) (AllReadyH.cons (o := { dst := some 151, op := Op.call { callee := Callee.value (Operand.func 34), args := #[Operand.tmp 150], argTypes := #[64] }, type := 9, pos := "law.go:264", after := #[{ on := 3, ground := Ground.data }], guard := none }) rfl (fun K hK => ?_) AllReadyH.nil)
                  (rw [if_pos (by rfl)]; go_wp2_with (go_at_call 34; (with_reducible refine (CV _).mono ?_); rintro e w6 ⟨rfl, hb6⟩; have hB6 : Below W1.heap.size W1 w6 := below_via (by (repeat (with_reducible first | assumption | exact Below.refl _ _ | apply Below.al | apply Below.dr))) hb6; have hA6 : AgreeF (fun x => x ≠ w4.heap.size) W1 w6 := AgreeF.of_below hB6; have hx6 := HXB.out.step hB6; have m0 := hx6.cell 0 0 rfl rfl; have m1 := hx6.cell 0 1 rfl rfl; have m2 := hx6.cell 0 2 rfl rfl; have m3 := hx6.cell 0 3 rfl rfl; have m4 := hx6.cell 0 4 rfl rfl))
                  refine hK.out _ _ (by (repeat (with_reducible first | assumption | exact AgreeF.refl _ | apply AgreeF.al | apply AgreeF.dr | apply AgreeF.st))) (fun hHeld => ?_)
                  clear hK K
                  try simp only [Act.put, List.setIfInBounds_toArray, List.set_cons_zero, List.set_cons_succ]
                  refine wpAnyH_ready (rs := [5]) (by kernel_rfl) (by simp) (AllReadyH.cons (o := { dst := some 152, op := Op.call { callee := Callee.value (Operand.func 33), args := #[Operand.tmp 147, Operand.tmp 149, Operand.tmp 151], argTypes := #[33, 9, 9] }, type := 33, pos := "law.go:264", after := #[{ on := 0, ground := Ground.data }, { on := 2, ground := Ground.data }, { on := 4, ground := Ground.data }, { on := 4, ground := Ground.chain }], guard := none }) rfl (fun K hK => ?_) AllReadyH.nil)
                  (rw [if_pos (by rfl)]; go_wp2_with (go_at_call 33; (with_reducible refine (CP _ ?_).mono ?_); (focus (repeat (with_reducible first | assumption | exact Below.refl _ _ | apply Below.al | apply Below.dr))); rintro e w9 hq9; obtain ⟨M, cs9, hM9, rfl, hn9, hw9, hE9, hb9⟩ := hq9; obtain ⟨j1, j2, j3, j4, j5, j6, j7, j8, ecs9, _, _⟩ := hn9.words; subst ecs9; have HE9 := Lib.hid hE9; clear hE9; have hB9 : Below W1.heap.size W1 w9 := below_via (by (repeat (with_reducible first | assumption | exact Below.refl _ _ | apply Below.al | apply Below.dr))) hb9; have hA9 : AgreeF (fun x => x ≠ w4.heap.size) W1 w9 := AgreeF.of_below hB9; have hx9 := HXB.out.step hB9; have z0 := hx9.cell 0 0 rfl rfl; have u0 := hx9.frozen 0 0 rfl; have z1 := hx9.cell 0 1 rfl rfl; have u1 := hx9.frozen 0 1 rfl; have z2 := hx9.cell 0 2 rfl rfl; have u2 := hx9.frozen 0 2 rfl; have z3 := hx9.cell 0 3 rfl rfl; have u3 := hx9.frozen 0 3 rfl; have z4 := hx9.cell 0 4 rfl rfl; have u4 := hx9.frozen 0 4 rfl))
                  refine hK.out _ _ (by (repeat (with_reducible first | assumption | exact AgreeF.refl _ | apply AgreeF.al | apply AgreeF.dr | apply AgreeF.st))) (fun hHeld => ?_)
                  clear hK K
                  try simp only [Act.put, List.setIfInBounds_toArray, List.set_cons_zero, List.set_cons_succ]
                  refine wpAnyH_ready (rs := [6]) (by kernel_rfl) (by simp) (AllReadyH.cons (o := { dst := none, op := Op.store 33 (Operand.tmp 17) (Operand.tmp 152), type := 0, pos := "law.go:264", after := #[{ on := 5, ground := Ground.data }, { on := 5, ground := Ground.chain }, { on := 0, ground := Ground.phase }, { on := 1, ground := Ground.phase }, { on := 2, ground := Ground.phase }, { on := 3, ground := Ground.phase }, { on := 4, ground := Ground.phase }, { on := 5, ground := Ground.phase }], guard := none }) rfl (fun K hK => ?_) AllReadyH.nil)
                  (rw [if_pos (by rfl)]; go_wp2_with (fail))
                  refine hK.out _ _ (by (repeat (with_reducible first | assumption | exact AgreeF.refl _ | apply AgreeF.al | apply AgreeF.dr | apply AgreeF.st))) (fun hHeld => ?_)
                  clear hK K
                  try simp only [Act.put, List.setIfInBounds_toArray, List.set_cons_zero, List.set_cons_succ]
                  refine wpAnyH_done (by kernel_rfl) ?_ _
                  refine NoPanic.normal ?_
                  have hA := PutStay.mk (B := w4.heap.size + 1) (w := w) (wr := W1) hx9 hn9 (hGB _ (by (repeat (with_reducible first | assumption | exact Below.refl _ _ | apply Below.al | apply Below.dr)))) hBB hw9 hM9 HE9.out hA9 (HBW.out.trans (hB9.mono HBW.out.size)) hle
                  unfold set5 at hA
                  have HA := Lib.hid hA
                  clear hA hx9 hn9 hA9 hB9 hb9
                  go_wp2_with fail
                  go_roundw
                  case rel => obtain ⟨M9, h1, h2, h3, h4, h5⟩ := HA.out; exact ⟨i3 + 1, M9, T, hlk3, by go_num, h1, by omega, by rw [h3, HYN.out, ← HEN2.out, HEE.out], HQ2.out.agree h4 (fun g hg => by have := HQLT.out g hg; omega), HT2.out.agree h4 (fun x hx => by have := hx.2; omega) (by omega), h5⟩
                  case measure => simp [intOf]; omega
                · (rw [if_pos (by rfl)]; go_wp2_with (go_at_call 34; (with_reducible refine (CV _).mono ?_); rintro e w6 ⟨rfl, hb6⟩; have hB6 : Below W1.heap.size W1 w6 := below_via (by (repeat (with_reducible first | assumption | exact Below.refl _ _ | apply Below.al | apply Below.dr))) hb6; have hA6 : AgreeF (fun x => x ≠ w4.heap.size) W1 w6 := AgreeF.of_below hB6; have hx6 := HXB.out.step hB6; have m0 := hx6.cell 0 0 rfl rfl; have m1 := hx6.cell 0 1 rfl rfl; have m2 := hx6.cell 0 2 rfl rfl; have m3 := hx6.cell 0 3 rfl rfl; have m4 := hx6.cell 0 4 rfl rfl))
                  refine hK.out _ _ (by (repeat (with_reducible first | assumption | exact AgreeF.refl _ | apply AgreeF.al | apply AgreeF.dr | apply AgreeF.st))) (fun hHeld => ?_)
                  clear hK K
                  try simp only [Act.put, List.setIfInBounds_toArray, List.set_cons_zero, List.set_cons_succ]
                  refine wpAnyH_ready (rs := [0]) (by kernel_rfl) (by simp) (AllReadyH.cons (o := { dst := some 147, op := Op.load 33 (Operand.tmp 17), type := 33, pos := "law.go:264", after := #[], guard := none }) rfl (fun K hK => ?_) AllReadyH.nil)
                  (rw [if_pos (by rfl)]; go_wp2_with (fail))
                  refine hK.out _ _ (by (repeat (with_reducible first | assumption | exact AgreeF.refl _ | apply AgreeF.al | apply AgreeF.dr | apply AgreeF.st))) (fun hHeld => ?_)
                  clear hK K
                  try simp only [Act.put, List.setIfInBounds_toArray, List.set_cons_zero, List.set_cons_succ]
                  refine wpAnyH_ready (rs := [5]) (by kernel_rfl) (by simp) (AllReadyH.cons (o := { dst := some 152, op := Op.call { callee := Callee.value (Operand.func 33), args := #[Operand.tmp 147, Operand.tmp 149, Operand.tmp 151], argTypes := #[33, 9, 9] }, type := 33, pos := "law.go:264", after := #[{ on := 0, ground := Ground.data }, { on := 2, ground := Ground.data }, { on := 4, ground := Ground.data }, { on := 4, ground := Ground.chain }], guard := none }) rfl (fun K hK => ?_) AllReadyH.nil)
                  (rw [if_pos (by rfl)]; go_wp2_with (go_at_call 33; (with_reducible refine (CP _ ?_).mono ?_); (focus (repeat (with_reducible first | assumption | exact Below.refl _ _ | apply Below.al | apply Below.dr))); rintro e w9 hq9; obtain ⟨M, cs9, hM9, rfl, hn9, hw9, hE9, hb9⟩ := hq9; obtain ⟨j1, j2, j3, j4, j5, j6, j7, j8, ecs9, _, _⟩ := hn9.words; subst ecs9; have HE9 := Lib.hid hE9; clear hE9; have hB9 : Below W1.heap.size W1 w9 := below_via (by (repeat (with_reducible first | assumption | exact Below.refl _ _ | apply Below.al | apply Below.dr))) hb9; have hA9 : AgreeF (fun x => x ≠ w4.heap.size) W1 w9 := AgreeF.of_below hB9; have hx9 := HXB.out.step hB9; have z0 := hx9.cell 0 0 rfl rfl; have u0 := hx9.frozen 0 0 rfl; have z1 := hx9.cell 0 1 rfl rfl; have u1 := hx9.frozen 0 1 rfl; have z2 := hx9.cell 0 2 rfl rfl; have u2 := hx9.frozen 0 2 rfl; have z3 := hx9.cell 0 3 rfl rfl; have u3 := hx9.frozen 0 3 rfl; have z4 := hx9.cell 0 4 rfl rfl; have u4 := hx9.frozen 0 4 rfl))
                  refine hK.out _ _ (by (repeat (with_reducible first | assumption | exact AgreeF.refl _ | apply AgreeF.al | apply AgreeF.dr | apply AgreeF.st))) (fun hHeld => ?_)
                  clear hK K
                  try simp only [Act.put, List.setIfInBounds_toArray, List.set_cons_zero, List.set_cons_succ]
                  refine wpAnyH_ready (rs := [6]) (by kernel_rfl) (by simp) (AllReadyH.cons (o := { dst := none, op := Op.store 33 (Operand.tmp 17) (Operand.tmp 152), type := 0, pos := "law.go:264", after := #[{ on := 5, ground := Ground.data }, { on := 5, ground := Ground.chain }, { on := 0, ground := Ground.phase }, { on := 1, ground := Ground.phase }, { on := 2, ground := Ground.phase }, { on := 3, ground := Ground.phase }, { on := 4, ground := Ground.phase }, { on := 5, ground := Ground.phase }], guard := none }) rfl (fun K hK => ?_) AllReadyH.nil)
                  (rw [if_pos (by rfl)]; go_wp2_with (fail))
                  refine hK.out _ _ (by (repeat (with_reducible first | assumption | exact AgreeF.refl _ | apply AgreeF.al | apply AgreeF.dr | apply AgreeF.st))) (fun hHeld => ?_)
                  clear hK K
                  try simp only [Act.put, List.setIfInBounds_toArray, List.set_cons_zero, List.set_cons_succ]
                  refine wpAnyH_done (by kernel_rfl) ?_ _
                  refine NoPanic.normal ?_
                  have hA := PutStay.mk (B := w4.heap.size + 1) (w := w) (wr := W1) hx9 hn9 (hGB _ (by (repeat (with_reducible first | assumption | exact Below.refl _ _ | apply Below.al | apply Below.dr)))) hBB hw9 hM9 HE9.out hA9 (HBW.out.trans (hB9.mono HBW.out.size)) hle
                  unfold set5 at hA
                  have HA := Lib.hid hA
                  clear hA hx9 hn9 hA9 hB9 hb9
                  go_wp2_with fail
                  go_roundw
                  case rel => obtain ⟨M9, h1, h2, h3, h4, h5⟩ := HA.out; exact ⟨i3 + 1, M9, T, hlk3, by go_num, h1, by omega, by rw [h3, HYN.out, ← HEN2.out, HEE.out], HQ2.out.agree h4 (fun g hg => by have := HQLT.out g hg; omega), HT2.out.agree h4 (fun x hx => by have := hx.2; omega) (by omega), h5⟩
                  case measure => simp [intOf]; omega
              · obtain rfl : i3 = 2 * k := by omega
                have d5 : decide (((2 * k : Nat) : Int) < 2 * (k : Int)) = false := by simp
                rw [List.take_of_length_le (by simp [HLN.out]; omega)] at hen2
                have hEX : Hid (∃ M T2, TrBox (w4.heap.size + 1) w4.heap.size wr M T2 ∧ M ≤ 200 ∧ entsT M T2 = putsL ((q2 ++ q2).map ptE) [] ∧ TrOn (fun x => w3.heap.size + 1 ≤ x ∧ x < wS.heap.size) w3.heap.size wr N t ∧ Below w.heap.size w wr) := Lib.hid ⟨N2, t2, hbox, by omega, hen2, htr, hb⟩
                clear hbox hen2 htr hb hq hmul
                go_wp2_with fail
                go_meet
                exact hEX.out
          case rest =>
          obtain ⟨M2, T2, hbox2, hM2, hen2, htr, hb⟩ := hcut
          unfold TrOn at htr
          unfold TrBox at hbox2
          obtain ⟨p, lf, a1, n1, c1, a2, n2, c2, a3, n3, c3, hx, hn, hw⟩ := htr
          obtain ⟨p8, lf8, a81, n81, c81, a82, n82, c82, a83, n83, c83, hx8, hn8, hw8⟩ := hbox2
          obtain ⟨hsame, hslen⟩ := orders_same HND.out HPM.out
          rw [hsame] at hen2
          obtain ⟨E, hE⟩ : ∃ E, putsL (q.map ptE) [] = E := ⟨_, rfl⟩
          have hen1 : entsT N t = E := by rw [HEN.out, hE]
          rw [hE] at hen2
          rw [hE, HQN.out] at hslen
          have hP1 := plain15_ents hn hw (by rw [hen1, hslen]; omega)
          rw [hen1] at hP1
          have HX8 := Lib.hid hx8
          have HN8 := Lib.hid hn8
          have HW8 := Lib.hid hw8
          have HBW := Lib.hid hb
          have HE2 := Lib.hid hen2
          have HSL := Lib.hid hslen
          have f0 := hx.cell 0 0 rfl rfl
          have f1 := hx.cell 0 1 rfl rfl
          have f2 := hx.cell 0 2 rfl rfl
          have f3 := hx.cell 0 3 rfl rfl
          have f4 := hx.cell 0 4 rfl rfl
          clear hx hn hw hx8 hn8 hw8 hb hen2 hen1 hE hsame hslen
          go_wp2_with fail
          refine hP1.mono ?_
          rintro e w5 ⟨p5, lf5, a5, m5, c5, rfl, hb5, hE5⟩
          go_wp2_with fail
          refine (hE5 _ (Below.refl _ _)).mono ?_
          rintro e w6 ⟨ax, mx, cx, rfl, hex, hb6⟩
          have hc6 : Below wc.heap.size wc w6 := hb5.trans (hb6.mono hb5.size)
          have hmx : k = mx := by rw [← HSL.out]; exact hex.len.1
          subst hmx
          have hP2 := plain15_ents (HN8.out.below hc6) HW8.out (by rw [HE2.out, HSL.out]; omega)
          rw [HE2.out] at hP2
          have hx6 := HX8.out.step hc6
          have g0 := hx6.cell 0 0 rfl rfl
          have g1 := hx6.cell 0 1 rfl rfl
          have g2 := hx6.cell 0 2 rfl rfl
          have g3 := hx6.cell 0 3 rfl rfl
          have g4 := hx6.cell 0 4 rfl rfl
          have HEX := Lib.hid hex
          have HC6 := Lib.hid hc6
          clear hE5 hb5 hb6 hex hc6 hP1 f0 f1 f2 f3 f4 hx6
          go_wp2_with fail
          refine hP2.mono ?_
          rintro e w7 ⟨p7, lf7, a7, m7, c7, rfl, hb7, hE7⟩
          go_wp2_with fail
          refine (hE7 _ (Below.refl _ _)).mono ?_
          rintro e w8 ⟨ay, my, cy, rfl, hey, hb8⟩
          have h68 : Below w6.heap.size w6 w8 := hb7.trans (hb8.mono hb7.size)
          have hc8 : Below wc.heap.size wc w8 := HC6.out.trans (h68.mono HC6.out.size)
          have hmy : k = my := by rw [← HSL.out]; exact hey.len.1
          subst hmy
          have hx8 := HX8.out.step hc8
          have CC : Calls Try.prog 39 #[.agg #[.int .i64 p8, .bool lf8, .slice a81 n81 c81, .slice a82 n82 c82, .slice a83 n83 c83]] w8 (fun e w' => e = .returned (.bool true) ∧ Below w8.heap.size w8 w') := by
            have := tcheck_any (HN8.out.below hc8).toIn HW8.out.bnd (by omega)
            rwa [whole_check HW8.out] at this
          have hkk : ((k : Int) != (k : Int)) = false := by simp
          have f0 := hx8.cell 0 0 rfl rfl
          have f1 := hx8.cell 0 1 rfl rfl
          have f2 := hx8.cell 0 2 rfl rfl
          have f3 := hx8.cell 0 3 rfl rfl
          have f4 := hx8.cell 0 4 rfl rfl
          have HEY := Lib.hid hey
          have HC8 := Lib.hid hc8
          have H68 := Lib.hid h68
          clear hE7 hb7 hb8 hey hc8 h68 hP2 g0 g1 g2 g3 g4 hx8
          go_wp2_with fail
          refine CC.mono ?_
          rintro e w9 ⟨rfl, hb9⟩
          have h69 := H68.out.trans (hb9.mono H68.out.size)
          have HB9 := Lib.hid (HBW.out.trans ((HC8.out.trans (hb9.mono HC8.out.size)).mono HBW.out.size))
          have HB89 := Lib.hid hb9
          have H69 := Lib.hid h69
          clear CC hb9 h69 f0 f1 f2 f3 f4
          go_wp2_with fail
          go_loopw [22] (fun s22 wx => ∃ i4 : Nat, i4 ≤ k ∧ s22 = .int .i64 i4 ∧ Below w9.heap.size w9 wx) (fun s _ => k - (intOf s).toNat)
          case atStart => exact ⟨0, Nat.zero_le _, rfl, Below.refl _ _⟩
          case round =>
            obtain ⟨i4, hi4, rfl, hby⟩ := hrel
            by_cases hl4 : i4 < k
            · obtain ⟨bx, ox, yx, rfl, hbx, hyx, cx0, cx1⟩ := HEX.out.at hl4
              obtain ⟨by_, oy, yy, rfl, hby2, hyy, cy0, cy1⟩ := HEY.out.at hl4
              rw [hyx] at hyy
              cases hyy
              have r0 := ((below_via H69.out hby).cell (p := ⟨bx, ox + i4 * 4, none⟩) hbx).trans cx0
              have r1 := ((below_via H69.out hby).cell (p := ⟨bx, ox + i4 * 4 + 1, none⟩) hbx).trans cx1
              have s0 := ((below_via HB89.out hby).cell (p := ⟨by_, oy + i4 * 4, none⟩) hby2).trans cy0
              have s1 := ((below_via HB89.out hby).cell (p := ⟨by_, oy + i4 * 4 + 1, none⟩) hby2).trans cy1
              obtain ⟨ky, vy⟩ := yx
              dsimp only at *
              have q1 : ((strOf ky).toList == (strOf ky).toList) = true := by simp
              have q2' : ((strOf vy.data).toList == (strOf vy.data).toList) = true := by simp
              have ecx := HEX.out.len.2
              have ecy := HEY.out.len.2
              clear cx0 cx1 cy0 cy1 hyx
              go_upto_region 44 with (fail)
              go_quiet (fail)
              go_wp2
              go_roundw
              case rel => exact ⟨i4 + 1, hl4, by go_num, below_drewN hby _⟩
              case measure => simp [intOf]; omega
            · obtain rfl : i4 = k := by omega
              have HE := Lib.hid (HB9.out.trans (hby.mono HB9.out.size))
              clear hby
              go_wp2_with fail
              go_ret
              exact ⟨rfl, HE.out⟩
end Go.Proofs.Ytemfnjlfcemehaa
