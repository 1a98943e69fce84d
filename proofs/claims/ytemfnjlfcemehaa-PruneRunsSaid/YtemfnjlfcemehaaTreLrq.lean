/- The law PruneRuns (printed by gen_treLr.py). -/
import Derived.Test.YtemfnjlfcemehaaTreTzq
import Derived.Test.YtemfnjlfcemehaaTreAxq
import Derived.Test.YtemfnjlfcemehaaM7
namespace Go.Proofs.Ytemfnjlfcemehaa
open Go.RowKit

set_option maxRecDepth 100000 in
set_option maxHeartbeats 12000000 in
theorem lRuns16 {w : World} {a : Option Addr} {n c : Nat} {l : List St} (h : Sts w a n c l) :
    Calls Try.prog 12 #[.slice a n c] w fun e w' => e = .returned (.bool true) ∧ Below w.heap.size w w' := by
  obtain ⟨e1, e2, e3⟩ := TabR.lens h
  have HP := Lib.hid h
  have HL := Lib.hid e1
  have A := awake16_any w
  clear h e1
  go_enter Try.func12, Try.ntmps12
  go_wp2_with fail
  refine A.mono ?_
  rintro e w1 ⟨rfl, hb1⟩
  have hp1 : Sts w1 a n c l := TabR.below (Nat.le_refl _) hb1 HP.out
  clear A
  go_wp2_with fail
  refine (small16_any hp1).mono ?_
  rintro e w2 ⟨rfl, rfl⟩
  obtain ⟨S, hS⟩ : ∃ S, smallS l = S := ⟨_, rfl⟩
  rw [hS]
  cases S with
  | false =>
    have HB := Lib.hid hb1
    clear hp1 hb1 hS
    go_wp2_with fail
    go_ret
    exact ⟨rfl, HB.out⟩
  | true =>
  obtain ⟨hl120, hall⟩ := okS_facts hS
  have hn120 : n ≤ 120 := by rw [← HL.out]; exact hl120
  have HALL := Lib.hid hall
  have HB1 := Lib.hid hb1
  clear hp1 hb1 hS hall hl120
  have E := tempty_any w2 (fun _ => False)
  go_wp2_with fail
  refine E.mono ?_
  rintro e w3 ⟨cs, rfl, hn0, hb3⟩
  obtain ⟨x1, k1, x2, k2, x3, k3, ecs, hn0⟩ := empty_on (F := fun _ => False) hn0
  subst ecs
  obtain ⟨W3, hW3⟩ : ∃ x, w3.alloc (.cells #[.int .i64 0, .bool true, .slice x1 0 k1, .slice x2 0 k2, .slice x3 0 k3] 33) = x := ⟨_, rfl⟩
  have hz3 : w.heap.size ≤ w3.heap.size := Nat.le_trans HB1.out.size hb3.size
  have hbel : Below w.heap.size w W3 := by rw [← hW3]; exact Below.al (HB1.out.trans (hb3.mono HB1.out.size))
  have hbx3 : Boxes W3 [(w3.heap.size, [.int .i64 0, .bool true, .slice x1 0 k1, .slice x2 0 k2, .slice x3 0 k3])] := by
    rw [← hW3]
    exact (Boxes.nil w3).alloc #[.int .i64 0, .bool true, .slice x1 0 k1, .slice x2 0 k2, .slice x3 0 k3] 33 (b := w3.heap.size) rfl
  have hn3 : NodeOn (fun _ => False) 1 W3 [.int .i64 0, .bool true, .slice x1 0 k1, .slice x2 0 k2, .slice x3 0 k3] (.leaf 0 []) := by rw [← hW3]; exact hn0.below (Below.al (Below.refl _ _))
  have E2 := rempty_any W3 (fun _ => False)
  have HB3 := Lib.hid hbel
  have HX3 := Lib.hid hbx3
  have HN3 := Lib.hid hn3
  clear E hn0 hb3 hbel hbx3 hn3
  go_wp2_with fail
  refine E2.mono ?_
  rintro e w5 ⟨cs, rfl, hn5, hb5⟩
  obtain ⟨y1, j1, ecs, hn5⟩ := rempty_on (F := fun x => w5.heap.size + 1 ≤ x) hn5
  subst ecs
  have hb5a : Below w5.heap.size w5 (w5.alloc (.cells #[.int .i64 0, .bool true, .slice y1 0 j1] 26)) := Below.al (Below.refl _ _)
  have hbW : Below W3.heap.size W3 (w5.alloc (.cells #[.int .i64 0, .bool true, .slice y1 0 j1] 26)) := below_via hb5 hb5a
  have hlt7 : w3.heap.size < w5.heap.size := Nat.lt_of_lt_of_le (HX3.out.lt 0 rfl) hb5.size
  have HT : Hid (TrBox (w5.heap.size + 1) w3.heap.size (w5.alloc (.cells #[.int .i64 0, .bool true, .slice y1 0 j1] 26)) 1 (.leaf 0 [])) := Lib.hid
    ⟨_, _, _, _, _, _, _, _, _, _, _, HX3.out.step hbW, (HN3.out.below hbW).mono (fun b h => h.elim), whole_empty⟩
  have HR : Hid (RBox (w5.heap.size + 1) w5.heap.size (w5.alloc (.cells #[.int .i64 0, .bool true, .slice y1 0 j1] 26)) 1 (.leaf 0 [])) := Lib.hid
    ⟨_, _, _, _, _, (Boxes.nil w5).alloc #[.int .i64 0, .bool true, .slice y1 0 j1] 26 (b := w5.heap.size) rfl, hn5.below hb5a⟩
  have HBEL := Lib.hid (below_via HB3.out hbW)
  have hz5 : w.heap.size ≤ w5.heap.size := by omega
  clear E2 hn5 hb5 hb5a hbW hW3
  go_wp2_with fail
  go_loopw [7] (fun s7 wr => ∃ (i N : Nat) (t : Tr), i ≤ n ∧ s7 = .int .i64 i ∧ TrBox (w5.heap.size + 1) w3.heap.size wr N t ∧ RBox (w5.heap.size + 1) w5.heap.size wr N t ∧ N ≤ i + 1 ∧ Below w.heap.size w wr) (fun s _ => n - (intOf s).toNat)
  case atStart => exact ⟨0, 1, _, Nat.zero_le _, rfl, HT.out, HR.out, Nat.le_refl _, HBEL.out⟩
  case round =>
    clear HT HR HBEL
    obtain ⟨i, N, t, hi, rfl, hbox, hrb, hN, hb⟩ := hrel
    by_cases hlt : i < n
    · obtain ⟨bl, ol, y, rfl, hbl, hy, c0, c1⟩ := HP.out.at hlt
      obtain ⟨hyk, hys⟩ := HALL.out y (List.mem_of_getElem? hy)
      have hlt' : (i : Int) < (n : Int) := by omega
      have HYK := Lib.hid hyk
      have HRB := Lib.hid hrb
      obtain ⟨p, lf, a1, n1, c1', a2, n2, c2', a3, n3, c3, hx, hn, hw⟩ := hbox
      have hxl := hx.lt 0 rfl
      have hnl := hn.lt
      have hbl2 := Nat.lt_of_lt_of_le hbl hb.size
      have hsz5 : w5.heap.size + 1 ≤ wr.heap.size := by
        obtain ⟨_, _, _, _, _, h, _⟩ := hrb
        exact h.lt 0 rfl
      have hGB : ∀ W, Below wr.heap.size wr W → ∀ x, Fr (fun x => w5.heap.size + 1 ≤ x ∧ x < wr.heap.size) W x → w5.heap.size + 1 ≤ x := fun W hW x h => fr_le (fun b h => h.1) hsz5 hW.size h
      have hBB : w3.heap.size < w5.heap.size + 1 := by omega
      have hle : w.heap.size ≤ w3.heap.size := hz3
      obtain ⟨E, hE⟩ : ∃ E, entsT N t = E := ⟨_, rfl⟩
      have sz1 := (hb.cell (p := ⟨bl, ol + i * 2 + 1, none⟩) hbl).trans c1
      by_cases hneg : y.size < 0
      rotate_left
      · obtain ⟨sz, hsz⟩ : ∃ sz : Nat, y.size = (sz : Int) := ⟨y.size.toNat, by omega⟩
        have hsz4 : sz ≤ 400 := by omega
        rw [hsz] at c1 sz1
        have hs0 : (0 : Int) ≤ (sz : Int) := by omega
        have HC0 := Lib.hid c0
        have HC1 := Lib.hid c1
        obtain ⟨T, hT⟩ : ∃ T, putW N t y.key ⟨fillT 0 sz, []⟩ = T := ⟨_, rfl⟩
        have CP : ∀ W, Below wr.heap.size wr W → Calls Try.prog 33 #[.agg #[.int .i64 p, .bool lf, .slice a1 n1 c1', .slice a2 n2 c2', .slice a3 n3 c3], .string (strOf y.key), .string (strOf (fillT 0 sz))] W (fun e w' => ∃ M cs, M ≤ N + 1 ∧ e = .returned (.agg cs.toArray) ∧ NodeOn (Fr (fun x => w5.heap.size + 1 ≤ x ∧ x < wr.heap.size) W) M w' cs T ∧ Whole M T ∧ entsT M T = putL y.key ⟨fillT 0 sz, []⟩ E ∧ Below W.heap.size W w') := fun W hW => (tPut_whole (hnl.below hW) hw y.key (fillT 0 sz) hyk (by rw [fillT_len]; exact hsz4)).mono fun e w' h => by
          unfold PutTo at h
          rw [hT, hE] at h
          exact h
        have CV : ∀ W, Calls Try.prog 50 #[.int .i64 (sz : Int)] W (fun e w' => e = .returned (.string (strOf (fillT 0 sz))) ∧ Below W.heap.size W w') := fun W => value16_any sz hsz4 W
        have CR : ∀ (wc W : World) (M : Nat) (p' : Int) (l' : Bool) (a' : Option Addr) (m' d' : Nat), RNodeOn (fun x => w5.heap.size + 1 ≤ x) N wc [.int .i64 p', .bool l', .slice a' m' d'] t → Whole M T → Below wc.heap.size wc W → w5.heap.size + 1 ≤ wc.heap.size →
            Calls Try.prog 35 #[.agg #[.int .i64 p', .bool l', .slice a' m' d'], .string (strOf y.key), .string (strOf (fillT 0 sz))] W (RGo (fun x => w5.heap.size + 1 ≤ x) M W T) := fun wc W M p' l' a' m' d' hr hM hW hs => by
          have := rPut_whole (F := fun x => w5.heap.size + 1 ≤ x ∧ x < wc.heap.size) (fun b h => Nat.lt_of_lt_of_le h.2 hW.size) (hr.lt.below hW) hw y.key (fillT 0 sz) hyk (by rw [fillT_len]; exact hsz4)
          rw [hT] at this
          exact this.mono fun e w' h => h.go (fun b hb => fr_le (fun b h => h.1) hs hW.size hb) hM.1.1
        have l0 : ∀ W, AgreeF (fun x => x ≠ w3.heap.size) wr W → W.cell? ⟨bl, ol + i * 2, none⟩ = some (.string (strOf y.key)) := fun W hW => (hW.cell (by show bl ≠ w3.heap.size; omega) hbl2).trans ((hb.cell (p := ⟨bl, ol + i * 2, none⟩) hbl).trans c0)
        have l1 : ∀ W, AgreeF (fun x => x ≠ w3.heap.size) wr W → W.cell? ⟨bl, ol + i * 2 + 1, none⟩ = some (.int .i64 (sz : Int)) := fun W hW => (hW.cell (by show bl ≠ w3.heap.size; omega) hbl2).trans ((hb.cell (p := ⟨bl, ol + i * 2 + 1, none⟩) hbl).trans c1)
        have f0 := hx.cell 0 0 rfl rfl
        have f1 := hx.cell 0 1 rfl rfl
        have f2 := hx.cell 0 2 rfl rfl
        have f3 := hx.cell 0 3 rfl rfl
        have f4 := hx.cell 0 4 rfl rfl
        have HXB := Lib.hid hx
        have HBW := Lib.hid hb
        have HEE := Lib.hid hE
        clear hx hn hnl hb hE hrb c0 c1 hyk hsz hy hneg hys
        go_upto_region 13 with (fail)
        go_cut [] (fun wq => PutStay (w5.heap.size + 1) w3.heap.size w wr N T (putL y.key ⟨fillT 0 sz, []⟩ E) wq)
        case first =>
          refine wp_region_noPanic ?_
          refine wp_region_held_drew (S := (fun W => AgreeF (fun x => x ≠ w3.heap.size) wr W)) (by kernel_rfl) (by (repeat (with_reducible first | assumption | exact AgreeF.refl _ | apply AgreeF.al | apply AgreeF.dr | apply AgreeF.st))) (fun hHeld => ?_)
          refine wpAnyH_take (i := 1) (oi := { dst := some 34, op := Op.move (Operand.tmp 0), type := 86, pos := "law.go:69", after := #[], guard := none }) (v := ?_) rfl (by kernel_rfl) (by kernel_rfl) (by kernel_rfl) (fun _ _ _ h => h) (Or.inl ⟨by rfl, ?_⟩) (by assumption) ?_
          rotate_left
          · (intro W hW; (try dsimp only at hW); go_simp <;> (with_reducible rfl))
          try simp only [Act.put, List.setIfInBounds_toArray, List.set_cons_zero, List.set_cons_succ]
          refine wpAnyH_take (i := 2) (oi := { dst := some 35, op := Op.move (Operand.tmp 7), type := 3, pos := "law.go:69", after := #[], guard := none }) (v := ?_) rfl (by kernel_rfl) (by kernel_rfl) (by kernel_rfl) (fun _ _ _ h => h) (Or.inl ⟨by rfl, ?_⟩) (by assumption) ?_
          rotate_left
          · (intro W hW; (try dsimp only at hW); go_simp <;> (with_reducible rfl))
          try simp only [Act.put, List.setIfInBounds_toArray, List.set_cons_zero, List.set_cons_succ]
          refine wpAnyH_take (i := 3) (oi := { dst := some 36, op := Op.indexAddr 86 (Operand.tmp 34) (Operand.tmp 35), type := 0, pos := "law.go:69", after := #[{ on := 1, ground := Ground.data }, { on := 2, ground := Ground.data }], guard := none }) (v := ?_) rfl (by kernel_rfl) (by kernel_rfl) (by kernel_rfl) (fun _ _ _ h => h) (Or.inl ⟨by rfl, ?_⟩) (by assumption) ?_
          rotate_left
          · (intro W hW; (try dsimp only at hW); go_simp <;> (with_reducible rfl))
          try simp only [Act.put, List.setIfInBounds_toArray, List.set_cons_zero, List.set_cons_succ]
          refine wpAnyH_take (i := 4) (oi := { dst := some 37, op := Op.fieldAddr 89 (Operand.tmp 36) 0, type := 0, pos := "law.go:69", after := #[{ on := 3, ground := Ground.data }], guard := none }) (v := ?_) rfl (by kernel_rfl) (by kernel_rfl) (by kernel_rfl) (fun _ _ _ h => h) (Or.inl ⟨by rfl, ?_⟩) (by assumption) ?_
          rotate_left
          · (intro W hW; (try dsimp only at hW); go_simp <;> (with_reducible rfl))
          try simp only [Act.put, List.setIfInBounds_toArray, List.set_cons_zero, List.set_cons_succ]
          refine wpAnyH_take (i := 5) (oi := { dst := some 38, op := Op.load 9 (Operand.tmp 37), type := 9, pos := "law.go:69", after := #[{ on := 4, ground := Ground.data }], guard := none }) (v := ?_) rfl (by kernel_rfl) (by kernel_rfl) (by kernel_rfl) (fun _ _ _ h => h) (Or.inl ⟨by rfl, ?_⟩) (by assumption) ?_
          rotate_left
          · (intro W hW; (try dsimp only at hW); go_simp <;> (with_reducible rfl))
          try simp only [Act.put, List.setIfInBounds_toArray, List.set_cons_zero, List.set_cons_succ]
          refine wpAnyH_take (i := 6) (oi := { dst := some 39, op := Op.move (Operand.tmp 0), type := 86, pos := "law.go:69", after := #[], guard := none }) (v := ?_) rfl (by kernel_rfl) (by kernel_rfl) (by kernel_rfl) (fun _ _ _ h => h) (Or.inl ⟨by rfl, ?_⟩) (by assumption) ?_
          rotate_left
          · (intro W hW; (try dsimp only at hW); go_simp <;> (with_reducible rfl))
          try simp only [Act.put, List.setIfInBounds_toArray, List.set_cons_zero, List.set_cons_succ]
          refine wpAnyH_take (i := 7) (oi := { dst := some 40, op := Op.move (Operand.tmp 7), type := 3, pos := "law.go:69", after := #[], guard := none }) (v := ?_) rfl (by kernel_rfl) (by kernel_rfl) (by kernel_rfl) (fun _ _ _ h => h) (Or.inl ⟨by rfl, ?_⟩) (by assumption) ?_
          rotate_left
          · (intro W hW; (try dsimp only at hW); go_simp <;> (with_reducible rfl))
          try simp only [Act.put, List.setIfInBounds_toArray, List.set_cons_zero, List.set_cons_succ]
          refine wpAnyH_take (i := 8) (oi := { dst := some 41, op := Op.indexAddr 86 (Operand.tmp 39) (Operand.tmp 40), type := 0, pos := "law.go:69", after := #[{ on := 6, ground := Ground.data }, { on := 7, ground := Ground.data }], guard := none }) (v := ?_) rfl (by kernel_rfl) (by kernel_rfl) (by kernel_rfl) (fun _ _ _ h => h) (Or.inl ⟨by rfl, ?_⟩) (by assumption) ?_
          rotate_left
          · (intro W hW; (try dsimp only at hW); go_simp <;> (with_reducible rfl))
          try simp only [Act.put, List.setIfInBounds_toArray, List.set_cons_zero, List.set_cons_succ]
          refine wpAnyH_take (i := 9) (oi := { dst := some 42, op := Op.fieldAddr 89 (Operand.tmp 41) 1, type := 0, pos := "law.go:69", after := #[{ on := 8, ground := Ground.data }], guard := none }) (v := ?_) rfl (by kernel_rfl) (by kernel_rfl) (by kernel_rfl) (fun _ _ _ h => h) (Or.inl ⟨by rfl, ?_⟩) (by assumption) ?_
          rotate_left
          · (intro W hW; (try dsimp only at hW); go_simp <;> (with_reducible rfl))
          try simp only [Act.put, List.setIfInBounds_toArray, List.set_cons_zero, List.set_cons_succ]
          refine wpAnyH_take (i := 10) (oi := { dst := some 43, op := Op.load 3 (Operand.tmp 42), type := 3, pos := "law.go:69", after := #[{ on := 9, ground := Ground.data }], guard := none }) (v := ?_) rfl (by kernel_rfl) (by kernel_rfl) (by kernel_rfl) (fun _ _ _ h => h) (Or.inl ⟨by rfl, ?_⟩) (by assumption) ?_
          rotate_left
          · (intro W hW; (try dsimp only at hW); go_simp <;> (with_reducible rfl))
          try simp only [Act.put, List.setIfInBounds_toArray, List.set_cons_zero, List.set_cons_succ]
          refine wpAnyH_ready (rs := [0, 11]) (by kernel_rfl) (by simp) (AllReadyH.cons (o := { dst := some 33, op := Op.load 33 (Operand.tmp 5), type := 33, pos := "law.go:69", after := #[], guard := none }) rfl (fun K hK => ?_) (AllReadyH.cons (o := { dst := some 44, op := Op.call { callee := Callee.value (Operand.func 50), args := #[Operand.tmp 43], argTypes := #[3] }, type := 9, pos := "law.go:69", after := #[{ on := 10, ground := Ground.data }], guard := none }) rfl (fun K hK => ?_) AllReadyH.nil))
          · (rw [if_pos (by rfl)]; go_wp2_with (fail))
            refine hK.out _ _ (by (repeat (with_reducible first | assumption | exact AgreeF.refl _ | apply AgreeF.al | apply AgreeF.dr | apply AgreeF.st))) (fun hHeld => ?_)
            clear hK K
            try simp only [Act.put, List.setIfInBounds_toArray, List.set_cons_zero, List.set_cons_succ]
            refine wpAnyH_ready (rs := [11]) (by kernel_rfl) (by simp) (AllReadyH.cons (o := { dst := some 44, op := Op.call { callee := Callee.value (Operand.func 50), args := #[Operand.tmp 43], argTypes := #[3] }, type := 9, pos := "law.go:69", after := #[{ on := 10, ground := Ground.data }], guard := none }) rfl (fun K hK => ?_) AllReadyH.nil)
            (rw [if_pos (by rfl)]; go_wp2_with (go_at_call 50; (with_reducible refine (CV _).mono ?_); rintro e w6 ⟨rfl, hb6⟩; have hB6 : Below wr.heap.size wr w6 := below_via (by (repeat (with_reducible first | assumption | exact Below.refl _ _ | apply Below.al | apply Below.dr))) hb6; have hA6 : AgreeF (fun x => x ≠ w3.heap.size) wr w6 := AgreeF.of_below hB6; have hx6 := HXB.out.step hB6; have m0 := hx6.cell 0 0 rfl rfl; have m1 := hx6.cell 0 1 rfl rfl; have m2 := hx6.cell 0 2 rfl rfl; have m3 := hx6.cell 0 3 rfl rfl; have m4 := hx6.cell 0 4 rfl rfl))
            refine hK.out _ _ (by (repeat (with_reducible first | assumption | exact AgreeF.refl _ | apply AgreeF.al | apply AgreeF.dr | apply AgreeF.st))) (fun hHeld => ?_)
            clear hK K
            try simp only [Act.put, List.setIfInBounds_toArray, List.set_cons_zero, List.set_cons_succ]
            refine wpAnyH_ready (rs := [12]) (by kernel_rfl) (by simp) (AllReadyH.cons (o := { dst := some 45, op := Op.call { callee := Callee.value (Operand.func 33), args := #[Operand.tmp 33, Operand.tmp 38, Operand.tmp 44], argTypes := #[33, 9, 9] }, type := 33, pos := "law.go:69", after := #[{ on := 0, ground := Ground.data }, { on := 5, ground := Ground.data }, { on := 11, ground := Ground.data }, { on := 11, ground := Ground.chain }], guard := none }) rfl (fun K hK => ?_) AllReadyH.nil)
            (rw [if_pos (by rfl)]; go_wp2_with (go_at_call 33; (with_reducible refine (CP _ ?_).mono ?_); (focus (repeat (with_reducible first | assumption | exact Below.refl _ _ | apply Below.al | apply Below.dr))); rintro e w9 hq9; obtain ⟨M, cs9, hM9, rfl, hn9, hw9, hE9, hb9⟩ := hq9; obtain ⟨j1, j2, j3, j4, j5, j6, j7, j8, ecs9, _, _⟩ := hn9.words; subst ecs9; have HE9 := Lib.hid hE9; clear hE9; have hB9 : Below wr.heap.size wr w9 := below_via (by (repeat (with_reducible first | assumption | exact Below.refl _ _ | apply Below.al | apply Below.dr))) hb9; have hA9 : AgreeF (fun x => x ≠ w3.heap.size) wr w9 := AgreeF.of_below hB9; have hx9 := HXB.out.step hB9; have z0 := hx9.cell 0 0 rfl rfl; have u0 := hx9.frozen 0 0 rfl; have z1 := hx9.cell 0 1 rfl rfl; have u1 := hx9.frozen 0 1 rfl; have z2 := hx9.cell 0 2 rfl rfl; have u2 := hx9.frozen 0 2 rfl; have z3 := hx9.cell 0 3 rfl rfl; have u3 := hx9.frozen 0 3 rfl; have z4 := hx9.cell 0 4 rfl rfl; have u4 := hx9.frozen 0 4 rfl))
            refine hK.out _ _ (by (repeat (with_reducible first | assumption | exact AgreeF.refl _ | apply AgreeF.al | apply AgreeF.dr | apply AgreeF.st))) (fun hHeld => ?_)
            clear hK K
            try simp only [Act.put, List.setIfInBounds_toArray, List.set_cons_zero, List.set_cons_succ]
            refine wpAnyH_ready (rs := [13]) (by kernel_rfl) (by simp) (AllReadyH.cons (o := { dst := none, op := Op.store 33 (Operand.tmp 5) (Operand.tmp 45), type := 0, pos := "law.go:69", after := #[{ on := 12, ground := Ground.data }, { on := 12, ground := Ground.chain }, { on := 0, ground := Ground.phase }, { on := 1, ground := Ground.phase }, { on := 2, ground := Ground.phase }, { on := 3, ground := Ground.phase }, { on := 4, ground := Ground.phase }, { on := 5, ground := Ground.phase }, { on := 6, ground := Ground.phase }, { on := 7, ground := Ground.phase }, { on := 8, ground := Ground.phase }, { on := 9, ground := Ground.phase }, { on := 10, ground := Ground.phase }, { on := 11, ground := Ground.phase }, { on := 12, ground := Ground.phase }], guard := none }) rfl (fun K hK => ?_) AllReadyH.nil)
            (rw [if_pos (by rfl)]; go_wp2_with (fail))
            refine hK.out _ _ (by (repeat (with_reducible first | assumption | exact AgreeF.refl _ | apply AgreeF.al | apply AgreeF.dr | apply AgreeF.st))) (fun hHeld => ?_)
            clear hK K
            try simp only [Act.put, List.setIfInBounds_toArray, List.set_cons_zero, List.set_cons_succ]
            refine wpAnyH_done (by kernel_rfl) ?_ _
            refine NoPanic.normal ?_
            go_wp2_with fail
            go_meet
            have hA := PutStay.mk (B := w5.heap.size + 1) (w := w) (wr := wr) hx9 hn9 (hGB _ (by (repeat (with_reducible first | assumption | exact Below.refl _ _ | apply Below.al | apply Below.dr)))) hBB hw9 hM9 HE9.out hA9 (HBW.out.trans (hB9.mono HBW.out.size)) hle
            unfold set5 at hA
            with_reducible exact hA
          · (rw [if_pos (by rfl)]; go_wp2_with (go_at_call 50; (with_reducible refine (CV _).mono ?_); rintro e w6 ⟨rfl, hb6⟩; have hB6 : Below wr.heap.size wr w6 := below_via (by (repeat (with_reducible first | assumption | exact Below.refl _ _ | apply Below.al | apply Below.dr))) hb6; have hA6 : AgreeF (fun x => x ≠ w3.heap.size) wr w6 := AgreeF.of_below hB6; have hx6 := HXB.out.step hB6; have m0 := hx6.cell 0 0 rfl rfl; have m1 := hx6.cell 0 1 rfl rfl; have m2 := hx6.cell 0 2 rfl rfl; have m3 := hx6.cell 0 3 rfl rfl; have m4 := hx6.cell 0 4 rfl rfl))
            refine hK.out _ _ (by (repeat (with_reducible first | assumption | exact AgreeF.refl _ | apply AgreeF.al | apply AgreeF.dr | apply AgreeF.st))) (fun hHeld => ?_)
            clear hK K
            try simp only [Act.put, List.setIfInBounds_toArray, List.set_cons_zero, List.set_cons_succ]
            refine wpAnyH_ready (rs := [0]) (by kernel_rfl) (by simp) (AllReadyH.cons (o := { dst := some 33, op := Op.load 33 (Operand.tmp 5), type := 33, pos := "law.go:69", after := #[], guard := none }) rfl (fun K hK => ?_) AllReadyH.nil)
            (rw [if_pos (by rfl)]; go_wp2_with (fail))
            refine hK.out _ _ (by (repeat (with_reducible first | assumption | exact AgreeF.refl _ | apply AgreeF.al | apply AgreeF.dr | apply AgreeF.st))) (fun hHeld => ?_)
            clear hK K
            try simp only [Act.put, List.setIfInBounds_toArray, List.set_cons_zero, List.set_cons_succ]
            refine wpAnyH_ready (rs := [12]) (by kernel_rfl) (by simp) (AllReadyH.cons (o := { dst := some 45, op := Op.call { callee := Callee.value (Operand.func 33), args := #[Operand.tmp 33, Operand.tmp 38, Operand.tmp 44], argTypes := #[33, 9, 9] }, type := 33, pos := "law.go:69", after := #[{ on := 0, ground := Ground.data }, { on := 5, ground := Ground.data }, { on := 11, ground := Ground.data }, { on := 11, ground := Ground.chain }], guard := none }) rfl (fun K hK => ?_) AllReadyH.nil)
            (rw [if_pos (by rfl)]; go_wp2_with (go_at_call 33; (with_reducible refine (CP _ ?_).mono ?_); (focus (repeat (with_reducible first | assumption | exact Below.refl _ _ | apply Below.al | apply Below.dr))); rintro e w9 hq9; obtain ⟨M, cs9, hM9, rfl, hn9, hw9, hE9, hb9⟩ := hq9; obtain ⟨j1, j2, j3, j4, j5, j6, j7, j8, ecs9, _, _⟩ := hn9.words; subst ecs9; have HE9 := Lib.hid hE9; clear hE9; have hB9 : Below wr.heap.size wr w9 := below_via (by (repeat (with_reducible first | assumption | exact Below.refl _ _ | apply Below.al | apply Below.dr))) hb9; have hA9 : AgreeF (fun x => x ≠ w3.heap.size) wr w9 := AgreeF.of_below hB9; have hx9 := HXB.out.step hB9; have z0 := hx9.cell 0 0 rfl rfl; have u0 := hx9.frozen 0 0 rfl; have z1 := hx9.cell 0 1 rfl rfl; have u1 := hx9.frozen 0 1 rfl; have z2 := hx9.cell 0 2 rfl rfl; have u2 := hx9.frozen 0 2 rfl; have z3 := hx9.cell 0 3 rfl rfl; have u3 := hx9.frozen 0 3 rfl; have z4 := hx9.cell 0 4 rfl rfl; have u4 := hx9.frozen 0 4 rfl))
            refine hK.out _ _ (by (repeat (with_reducible first | assumption | exact AgreeF.refl _ | apply AgreeF.al | apply AgreeF.dr | apply AgreeF.st))) (fun hHeld => ?_)
            clear hK K
            try simp only [Act.put, List.setIfInBounds_toArray, List.set_cons_zero, List.set_cons_succ]
            refine wpAnyH_ready (rs := [13]) (by kernel_rfl) (by simp) (AllReadyH.cons (o := { dst := none, op := Op.store 33 (Operand.tmp 5) (Operand.tmp 45), type := 0, pos := "law.go:69", after := #[{ on := 12, ground := Ground.data }, { on := 12, ground := Ground.chain }, { on := 0, ground := Ground.phase }, { on := 1, ground := Ground.phase }, { on := 2, ground := Ground.phase }, { on := 3, ground := Ground.phase }, { on := 4, ground := Ground.phase }, { on := 5, ground := Ground.phase }, { on := 6, ground := Ground.phase }, { on := 7, ground := Ground.phase }, { on := 8, ground := Ground.phase }, { on := 9, ground := Ground.phase }, { on := 10, ground := Ground.phase }, { on := 11, ground := Ground.phase }, { on := 12, ground := Ground.phase }], guard := none }) rfl (fun K hK => ?_) AllReadyH.nil)
            (rw [if_pos (by rfl)]; go_wp2_with (fail))
            refine hK.out _ _ (by (repeat (with_reducible first | assumption | exact AgreeF.refl _ | apply AgreeF.al | apply AgreeF.dr | apply AgreeF.st))) (fun hHeld => ?_)
            clear hK K
            try simp only [Act.put, List.setIfInBounds_toArray, List.set_cons_zero, List.set_cons_succ]
            refine wpAnyH_done (by kernel_rfl) ?_ _
            refine NoPanic.normal ?_
            go_wp2_with fail
            go_meet
            have hA := PutStay.mk (B := w5.heap.size + 1) (w := w) (wr := wr) hx9 hn9 (hGB _ (by (repeat (with_reducible first | assumption | exact Below.refl _ _ | apply Below.al | apply Below.dr)))) hBB hw9 hM9 HE9.out hA9 (HBW.out.trans (hB9.mono HBW.out.size)) hle
            unfold set5 at hA
            with_reducible exact hA
        case rest =>
        obtain ⟨wo, hwo⟩ : ∃ x, wc = x := ⟨_, rfl⟩
        subst hwo
        obtain ⟨M, hbx, hM, hEM, hA, hbw⟩ := hcut
        have hrc := HRB.out.agree hA (fun x hx => by omega) (by show w5.heap.size ≠ w3.heap.size; omega)
        have hwM : Whole M T := by obtain ⟨_, _, _, _, _, _, _, _, _, _, _, _, _, h⟩ := hbx; exact h
        obtain ⟨p', l', a', m', d', hx', hr'⟩ := hrc
        have hx8 := hx'.lt 0 rfl
        have hblc := Nat.lt_of_lt_of_le hbl hbw.size
        have CRc := fun W hW => CR wc W M p' l' a' m' d' hr' hwM hW hx8
        have HBOX := Lib.hid hbx
        have HXR := Lib.hid hx'
        have HBC := Lib.hid hbw
        have hb := hbw
        have c0 := HC0.out
        have c1 := HC1.out
        clear l0 l1 CP CR hGB hBB hle HRB hx' hr' hbx hbw hEM hA f0 f1 f2 f3 f4 sz1
        have l0 : ∀ W, AgreeF (fun x => x ≠ w5.heap.size) wc W → W.cell? ⟨bl, ol + i * 2, none⟩ = some (.string (strOf y.key)) := fun W hW => (hW.cell (by show bl ≠ w5.heap.size; omega) hblc).trans ((hb.cell (p := ⟨bl, ol + i * 2, none⟩) hbl).trans c0)
        have l1 : ∀ W, AgreeF (fun x => x ≠ w5.heap.size) wc W → W.cell? ⟨bl, ol + i * 2 + 1, none⟩ = some (.int .i64 (sz : Int)) := fun W hW => (hW.cell (by show bl ≠ w5.heap.size; omega) hblc).trans ((hb.cell (p := ⟨bl, ol + i * 2 + 1, none⟩) hbl).trans c1)
        have f0 := HXR.out.cell 0 0 rfl rfl
        have f1 := HXR.out.cell 0 1 rfl rfl
        have f2 := HXR.out.cell 0 2 rfl rfl
        clear hb c0 c1
        go_upto_region 14 with (fail)
        go_cut [] (fun wq => RStay (w5.heap.size + 1) w5.heap.size w wc M T wq)
        case first =>
          refine wp_region_noPanic ?_
          refine wp_region_held_drew (S := (fun W => AgreeF (fun x => x ≠ w5.heap.size) wc W)) (by kernel_rfl) (by (repeat (with_reducible first | assumption | exact AgreeF.refl _ | apply AgreeF.al | apply AgreeF.dr | apply AgreeF.st))) (fun hHeld => ?_)
          refine wpAnyH_take (i := 1) (oi := { dst := some 47, op := Op.move (Operand.tmp 0), type := 86, pos := "law.go:70", after := #[], guard := none }) (v := ?_) rfl (by kernel_rfl) (by kernel_rfl) (by kernel_rfl) (fun _ _ _ h => h) (Or.inl ⟨by rfl, ?_⟩) (by assumption) ?_
          rotate_left
          · (intro W hW; (try dsimp only at hW); go_simp <;> (with_reducible rfl))
          try simp only [Act.put, List.setIfInBounds_toArray, List.set_cons_zero, List.set_cons_succ]
          refine wpAnyH_take (i := 2) (oi := { dst := some 48, op := Op.move (Operand.tmp 7), type := 3, pos := "law.go:70", after := #[], guard := none }) (v := ?_) rfl (by kernel_rfl) (by kernel_rfl) (by kernel_rfl) (fun _ _ _ h => h) (Or.inl ⟨by rfl, ?_⟩) (by assumption) ?_
          rotate_left
          · (intro W hW; (try dsimp only at hW); go_simp <;> (with_reducible rfl))
          try simp only [Act.put, List.setIfInBounds_toArray, List.set_cons_zero, List.set_cons_succ]
          refine wpAnyH_take (i := 3) (oi := { dst := some 49, op := Op.indexAddr 86 (Operand.tmp 47) (Operand.tmp 48), type := 0, pos := "law.go:70", after := #[{ on := 1, ground := Ground.data }, { on := 2, ground := Ground.data }], guard := none }) (v := ?_) rfl (by kernel_rfl) (by kernel_rfl) (by kernel_rfl) (fun _ _ _ h => h) (Or.inl ⟨by rfl, ?_⟩) (by assumption) ?_
          rotate_left
          · (intro W hW; (try dsimp only at hW); go_simp <;> (with_reducible rfl))
          try simp only [Act.put, List.setIfInBounds_toArray, List.set_cons_zero, List.set_cons_succ]
          refine wpAnyH_take (i := 4) (oi := { dst := some 50, op := Op.fieldAddr 89 (Operand.tmp 49) 0, type := 0, pos := "law.go:70", after := #[{ on := 3, ground := Ground.data }], guard := none }) (v := ?_) rfl (by kernel_rfl) (by kernel_rfl) (by kernel_rfl) (fun _ _ _ h => h) (Or.inl ⟨by rfl, ?_⟩) (by assumption) ?_
          rotate_left
          · (intro W hW; (try dsimp only at hW); go_simp <;> (with_reducible rfl))
          try simp only [Act.put, List.setIfInBounds_toArray, List.set_cons_zero, List.set_cons_succ]
          refine wpAnyH_take (i := 5) (oi := { dst := some 51, op := Op.load 9 (Operand.tmp 50), type := 9, pos := "law.go:70", after := #[{ on := 4, ground := Ground.data }], guard := none }) (v := ?_) rfl (by kernel_rfl) (by kernel_rfl) (by kernel_rfl) (fun _ _ _ h => h) (Or.inl ⟨by rfl, ?_⟩) (by assumption) ?_
          rotate_left
          · (intro W hW; (try dsimp only at hW); go_simp <;> (with_reducible rfl))
          try simp only [Act.put, List.setIfInBounds_toArray, List.set_cons_zero, List.set_cons_succ]
          refine wpAnyH_take (i := 6) (oi := { dst := some 52, op := Op.move (Operand.tmp 0), type := 86, pos := "law.go:70", after := #[], guard := none }) (v := ?_) rfl (by kernel_rfl) (by kernel_rfl) (by kernel_rfl) (fun _ _ _ h => h) (Or.inl ⟨by rfl, ?_⟩) (by assumption) ?_
          rotate_left
          · (intro W hW; (try dsimp only at hW); go_simp <;> (with_reducible rfl))
          try simp only [Act.put, List.setIfInBounds_toArray, List.set_cons_zero, List.set_cons_succ]
          refine wpAnyH_take (i := 7) (oi := { dst := some 53, op := Op.move (Operand.tmp 7), type := 3, pos := "law.go:70", after := #[], guard := none }) (v := ?_) rfl (by kernel_rfl) (by kernel_rfl) (by kernel_rfl) (fun _ _ _ h => h) (Or.inl ⟨by rfl, ?_⟩) (by assumption) ?_
          rotate_left
          · (intro W hW; (try dsimp only at hW); go_simp <;> (with_reducible rfl))
          try simp only [Act.put, List.setIfInBounds_toArray, List.set_cons_zero, List.set_cons_succ]
          refine wpAnyH_take (i := 8) (oi := { dst := some 54, op := Op.indexAddr 86 (Operand.tmp 52) (Operand.tmp 53), type := 0, pos := "law.go:70", after := #[{ on := 6, ground := Ground.data }, { on := 7, ground := Ground.data }], guard := none }) (v := ?_) rfl (by kernel_rfl) (by kernel_rfl) (by kernel_rfl) (fun _ _ _ h => h) (Or.inl ⟨by rfl, ?_⟩) (by assumption) ?_
          rotate_left
          · (intro W hW; (try dsimp only at hW); go_simp <;> (with_reducible rfl))
          try simp only [Act.put, List.setIfInBounds_toArray, List.set_cons_zero, List.set_cons_succ]
          refine wpAnyH_take (i := 9) (oi := { dst := some 55, op := Op.fieldAddr 89 (Operand.tmp 54) 1, type := 0, pos := "law.go:70", after := #[{ on := 8, ground := Ground.data }], guard := none }) (v := ?_) rfl (by kernel_rfl) (by kernel_rfl) (by kernel_rfl) (fun _ _ _ h => h) (Or.inl ⟨by rfl, ?_⟩) (by assumption) ?_
          rotate_left
          · (intro W hW; (try dsimp only at hW); go_simp <;> (with_reducible rfl))
          try simp only [Act.put, List.setIfInBounds_toArray, List.set_cons_zero, List.set_cons_succ]
          refine wpAnyH_take (i := 10) (oi := { dst := some 56, op := Op.load 3 (Operand.tmp 55), type := 3, pos := "law.go:70", after := #[{ on := 9, ground := Ground.data }], guard := none }) (v := ?_) rfl (by kernel_rfl) (by kernel_rfl) (by kernel_rfl) (fun _ _ _ h => h) (Or.inl ⟨by rfl, ?_⟩) (by assumption) ?_
          rotate_left
          · (intro W hW; (try dsimp only at hW); go_simp <;> (with_reducible rfl))
          try simp only [Act.put, List.setIfInBounds_toArray, List.set_cons_zero, List.set_cons_succ]
          refine wpAnyH_ready (rs := [0, 11]) (by kernel_rfl) (by simp) (AllReadyH.cons (o := { dst := some 46, op := Op.load 26 (Operand.tmp 6), type := 26, pos := "law.go:70", after := #[], guard := none }) rfl (fun K hK => ?_) (AllReadyH.cons (o := { dst := some 57, op := Op.call { callee := Callee.value (Operand.func 50), args := #[Operand.tmp 56], argTypes := #[3] }, type := 9, pos := "law.go:70", after := #[{ on := 10, ground := Ground.data }], guard := none }) rfl (fun K hK => ?_) AllReadyH.nil))
          · (rw [if_pos (by rfl)]; go_wp2_with (fail))
            refine hK.out _ _ (by (repeat (with_reducible first | assumption | exact AgreeF.refl _ | apply AgreeF.al | apply AgreeF.dr | apply AgreeF.st))) (fun hHeld => ?_)
            clear hK K
            try simp only [Act.put, List.setIfInBounds_toArray, List.set_cons_zero, List.set_cons_succ]
            refine wpAnyH_ready (rs := [11]) (by kernel_rfl) (by simp) (AllReadyH.cons (o := { dst := some 57, op := Op.call { callee := Callee.value (Operand.func 50), args := #[Operand.tmp 56], argTypes := #[3] }, type := 9, pos := "law.go:70", after := #[{ on := 10, ground := Ground.data }], guard := none }) rfl (fun K hK => ?_) AllReadyH.nil)
            (rw [if_pos (by rfl)]; go_wp2_with (go_at_call 50; (with_reducible refine (CV _).mono ?_); rintro e w6 ⟨rfl, hb6⟩; have hB6 : Below wc.heap.size wc w6 := below_via (by (repeat (with_reducible first | assumption | exact Below.refl _ _ | apply Below.al | apply Below.dr))) hb6; have hA6 : AgreeF (fun x => x ≠ w5.heap.size) wc w6 := AgreeF.of_below hB6; have hx6 := HXR.out.step hB6; have m0 := hx6.cell 0 0 rfl rfl; have m1 := hx6.cell 0 1 rfl rfl; have m2 := hx6.cell 0 2 rfl rfl))
            refine hK.out _ _ (by (repeat (with_reducible first | assumption | exact AgreeF.refl _ | apply AgreeF.al | apply AgreeF.dr | apply AgreeF.st))) (fun hHeld => ?_)
            clear hK K
            try simp only [Act.put, List.setIfInBounds_toArray, List.set_cons_zero, List.set_cons_succ]
            refine wpAnyH_ready (rs := [12]) (by kernel_rfl) (by simp) (AllReadyH.cons (o := { dst := some 58, op := Op.call { callee := Callee.value (Operand.func 35), args := #[Operand.tmp 46, Operand.tmp 51, Operand.tmp 57], argTypes := #[26, 9, 9] }, type := 26, pos := "law.go:70", after := #[{ on := 0, ground := Ground.data }, { on := 5, ground := Ground.data }, { on := 11, ground := Ground.data }, { on := 11, ground := Ground.chain }], guard := none }) rfl (fun K hK => ?_) AllReadyH.nil)
            (rw [if_pos (by rfl)]; go_wp2_with (go_at_call 35; (with_reducible refine (CRc _ ?_).mono ?_); (focus (repeat (with_reducible first | assumption | exact Below.refl _ _ | apply Below.al | apply Below.dr))); rintro e w9 ⟨p9, l9, a9, m9, d9, rfl, hn9, hb9⟩; have hB9 : Below wc.heap.size wc w9 := below_via (by (repeat (with_reducible first | assumption | exact Below.refl _ _ | apply Below.al | apply Below.dr))) hb9; have hA9 : AgreeF (fun x => x ≠ w5.heap.size) wc w9 := AgreeF.of_below hB9; have hx9 := HXR.out.step hB9; have z0 := hx9.cell 0 0 rfl rfl; have u0 := hx9.frozen 0 0 rfl; have z1 := hx9.cell 0 1 rfl rfl; have u1 := hx9.frozen 0 1 rfl; have z2 := hx9.cell 0 2 rfl rfl; have u2 := hx9.frozen 0 2 rfl))
            refine hK.out _ _ (by (repeat (with_reducible first | assumption | exact AgreeF.refl _ | apply AgreeF.al | apply AgreeF.dr | apply AgreeF.st))) (fun hHeld => ?_)
            clear hK K
            try simp only [Act.put, List.setIfInBounds_toArray, List.set_cons_zero, List.set_cons_succ]
            refine wpAnyH_ready (rs := [13]) (by kernel_rfl) (by simp) (AllReadyH.cons (o := { dst := none, op := Op.store 26 (Operand.tmp 6) (Operand.tmp 58), type := 0, pos := "law.go:70", after := #[{ on := 12, ground := Ground.data }, { on := 12, ground := Ground.chain }, { on := 0, ground := Ground.phase }, { on := 1, ground := Ground.phase }, { on := 2, ground := Ground.phase }, { on := 3, ground := Ground.phase }, { on := 4, ground := Ground.phase }, { on := 5, ground := Ground.phase }, { on := 6, ground := Ground.phase }, { on := 7, ground := Ground.phase }, { on := 8, ground := Ground.phase }, { on := 9, ground := Ground.phase }, { on := 10, ground := Ground.phase }, { on := 11, ground := Ground.phase }, { on := 12, ground := Ground.phase }], guard := none }) rfl (fun K hK => ?_) AllReadyH.nil)
            (rw [if_pos (by rfl)]; go_wp2_with (fail))
            refine hK.out _ _ (by (repeat (with_reducible first | assumption | exact AgreeF.refl _ | apply AgreeF.al | apply AgreeF.dr | apply AgreeF.st))) (fun hHeld => ?_)
            clear hK K
            try simp only [Act.put, List.setIfInBounds_toArray, List.set_cons_zero, List.set_cons_succ]
            refine wpAnyH_done (by kernel_rfl) ?_ _
            refine NoPanic.normal ?_
            go_wp2_with fail
            go_meet
            with_reducible exact RStay.mk hx9 hn9 (Nat.lt_succ_self _) hA9 (below_via HBC.out hB9) hz5
          · (rw [if_pos (by rfl)]; go_wp2_with (go_at_call 50; (with_reducible refine (CV _).mono ?_); rintro e w6 ⟨rfl, hb6⟩; have hB6 : Below wc.heap.size wc w6 := below_via (by (repeat (with_reducible first | assumption | exact Below.refl _ _ | apply Below.al | apply Below.dr))) hb6; have hA6 : AgreeF (fun x => x ≠ w5.heap.size) wc w6 := AgreeF.of_below hB6; have hx6 := HXR.out.step hB6; have m0 := hx6.cell 0 0 rfl rfl; have m1 := hx6.cell 0 1 rfl rfl; have m2 := hx6.cell 0 2 rfl rfl))
            refine hK.out _ _ (by (repeat (with_reducible first | assumption | exact AgreeF.refl _ | apply AgreeF.al | apply AgreeF.dr | apply AgreeF.st))) (fun hHeld => ?_)
            clear hK K
            try simp only [Act.put, List.setIfInBounds_toArray, List.set_cons_zero, List.set_cons_succ]
            refine wpAnyH_ready (rs := [0]) (by kernel_rfl) (by simp) (AllReadyH.cons (o := { dst := some 46, op := Op.load 26 (Operand.tmp 6), type := 26, pos := "law.go:70", after := #[], guard := none }) rfl (fun K hK => ?_) AllReadyH.nil)
            (rw [if_pos (by rfl)]; go_wp2_with (fail))
            refine hK.out _ _ (by (repeat (with_reducible first | assumption | exact AgreeF.refl _ | apply AgreeF.al | apply AgreeF.dr | apply AgreeF.st))) (fun hHeld => ?_)
            clear hK K
            try simp only [Act.put, List.setIfInBounds_toArray, List.set_cons_zero, List.set_cons_succ]
            refine wpAnyH_ready (rs := [12]) (by kernel_rfl) (by simp) (AllReadyH.cons (o := { dst := some 58, op := Op.call { callee := Callee.value (Operand.func 35), args := #[Operand.tmp 46, Operand.tmp 51, Operand.tmp 57], argTypes := #[26, 9, 9] }, type := 26, pos := "law.go:70", after := #[{ on := 0, ground := Ground.data }, { on := 5, ground := Ground.data }, { on := 11, ground := Ground.data }, { on := 11, ground := Ground.chain }], guard := none }) rfl (fun K hK => ?_) AllReadyH.nil)
            (rw [if_pos (by rfl)]; go_wp2_with (go_at_call 35; (with_reducible refine (CRc _ ?_).mono ?_); (focus (repeat (with_reducible first | assumption | exact Below.refl _ _ | apply Below.al | apply Below.dr))); rintro e w9 ⟨p9, l9, a9, m9, d9, rfl, hn9, hb9⟩; have hB9 : Below wc.heap.size wc w9 := below_via (by (repeat (with_reducible first | assumption | exact Below.refl _ _ | apply Below.al | apply Below.dr))) hb9; have hA9 : AgreeF (fun x => x ≠ w5.heap.size) wc w9 := AgreeF.of_below hB9; have hx9 := HXR.out.step hB9; have z0 := hx9.cell 0 0 rfl rfl; have u0 := hx9.frozen 0 0 rfl; have z1 := hx9.cell 0 1 rfl rfl; have u1 := hx9.frozen 0 1 rfl; have z2 := hx9.cell 0 2 rfl rfl; have u2 := hx9.frozen 0 2 rfl))
            refine hK.out _ _ (by (repeat (with_reducible first | assumption | exact AgreeF.refl _ | apply AgreeF.al | apply AgreeF.dr | apply AgreeF.st))) (fun hHeld => ?_)
            clear hK K
            try simp only [Act.put, List.setIfInBounds_toArray, List.set_cons_zero, List.set_cons_succ]
            refine wpAnyH_ready (rs := [13]) (by kernel_rfl) (by simp) (AllReadyH.cons (o := { dst := none, op := Op.store 26 (Operand.tmp 6) (Operand.tmp 58), type := 0, pos := "law.go:70", after := #[{ on := 12, ground := Ground.data }, { on := 12, ground := Ground.chain }, { on := 0, ground := Ground.phase }, { on := 1, ground := Ground.phase }, { on := 2, ground := Ground.phase }, { on := 3, ground := Ground.phase }, { on := 4, ground := Ground.phase }, { on := 5, ground := Ground.phase }, { on := 6, ground := Ground.phase }, { on := 7, ground := Ground.phase }, { on := 8, ground := Ground.phase }, { on := 9, ground := Ground.phase }, { on := 10, ground := Ground.phase }, { on := 11, ground := Ground.phase }, { on := 12, ground := Ground.phase }], guard := none }) rfl (fun K hK => ?_) AllReadyH.nil)
            (rw [if_pos (by rfl)]; go_wp2_with (fail))
            refine hK.out _ _ (by (repeat (with_reducible first | assumption | exact AgreeF.refl _ | apply AgreeF.al | apply AgreeF.dr | apply AgreeF.st))) (fun hHeld => ?_)
            clear hK K
            try simp only [Act.put, List.setIfInBounds_toArray, List.set_cons_zero, List.set_cons_succ]
            refine wpAnyH_done (by kernel_rfl) ?_ _
            refine NoPanic.normal ?_
            go_wp2_with fail
            go_meet
            with_reducible exact RStay.mk hx9 hn9 (Nat.lt_succ_self _) hA9 (below_via HBC.out hB9) hz5
        case rest =>
        obtain ⟨hrx, hA, hbw⟩ := hcut
        have hbox := HBOX.out.agree hA (fun x hx => by omega) (by show w3.heap.size ≠ w5.heap.size; omega)
        clear hA l0 l1 CV CRc HC0 HC1 HXR HBOX
        have HBX := Lib.hid hbox
        have HRX := Lib.hid hrx
        have HBD := Lib.hid hbw
        obtain ⟨p, lf, a1, n1, c1', a2, n2, c2', a3, n3, c3, hx, hn, hw⟩ := hbox
        obtain ⟨p', l', a', m', d', hx', hr'⟩ := hrx
        have hl7 := hx.lt 0 rfl
        have hl8 := hx'.lt 0 rfl
        have CPL : ∀ W, Below wc.heap.size wc W → Calls Try.prog 53 #[.agg #[.int .i64 p, .bool lf, .slice a1 n1 c1', .slice a2 n2 c2', .slice a3 n3 c3]] W (RNodeTo (fun x => w5.heap.size + 1 ≤ x ∧ x < wc.heap.size) M W T) := fun W hW => plain16_any (fun b h => Nat.lt_of_lt_of_le h.2 hW.size) (hn.lt.below hW) hw.bnd
        have CC : ∀ W, Below wc.heap.size wc W → Calls Try.prog 39 #[.agg #[.int .i64 p, .bool lf, .slice a1 n1 c1', .slice a2 n2 c2', .slice a3 n3 c3]] W (fun e w' => e = .returned (.bool true) ∧ Below W.heap.size W w') := fun W hW => by
          have := tcheck_any (hn.below hW).toIn hw.bnd (by omega)
          rwa [whole_check hw] at this
        have F7 : ∀ (j : Nat) (v : Value), [.int .i64 p, .bool lf, .slice a1 n1 c1', .slice a2 n2 c2', .slice a3 n3 c3][j]? = some v → ∀ W, Below wc.heap.size wc W → W.cell? ⟨w3.heap.size, j, none⟩ = some v := fun j v hv W hW => (hW.cell (p := ⟨w3.heap.size, j, none⟩) hl7).trans (hx.cell 0 j rfl hv)
        have F8 : ∀ (j : Nat) (v : Value), [.int .i64 p', .bool l', .slice a' m' d'][j]? = some v → ∀ W, Below wc.heap.size wc W → W.cell? ⟨w5.heap.size, j, none⟩ = some v := fun j v hv W hW => (hW.cell (p := ⟨w5.heap.size, j, none⟩) hl8).trans (hx'.cell 0 j rfl hv)
        have f0 := F7 0 _ rfl
        have f1 := F7 1 _ rfl
        have f2 := F7 2 _ rfl
        have f3 := F7 3 _ rfl
        have f4 := F7 4 _ rfl
        have g0 := F8 0 _ rfl
        have g1 := F8 1 _ rfl
        have g2 := F8 2 _ rfl
        have HR' := Lib.hid hr'
        have hA00 : Below wc.heap.size wc wc.drew := Below.dr (Below.refl _ _)
        clear hx hx' hn hr' F7 F8 hbw
        go_upto_region 21 with (fail)
        refine wp_region_noPanic ?_
        refine wp_region_held_drew (S := (fun W => Below wc.heap.size wc W)) (by kernel_rfl) (by (repeat (with_reducible first | assumption | exact Below.refl _ _ | apply Below.al | apply Below.dr))) (fun hHeld => ?_)
        refine wpAnyH_take (i := 0) (oi := { dst := some 84, op := Op.load 33 (Operand.tmp 5), type := 33, pos := "law.go:80", after := #[], guard := none }) (v := ?_) rfl (by kernel_rfl) (by kernel_rfl) (by kernel_rfl) (fun _ _ _ h => h) (Or.inl ⟨by rfl, ?_⟩) (by assumption) ?_
        rotate_left
        · (intro W hW; (try dsimp only at hW); go_simp <;> (with_reducible rfl))
        try simp only [Act.put, List.setIfInBounds_toArray, List.set_cons_zero, List.set_cons_succ]
        refine wpAnyH_take (i := 2) (oi := { dst := some 86, op := Op.load 26 (Operand.tmp 6), type := 26, pos := "law.go:80", after := #[], guard := none }) (v := ?_) rfl (by kernel_rfl) (by kernel_rfl) (by kernel_rfl) (fun _ _ _ h => h) (Or.inl ⟨by rfl, ?_⟩) (by assumption) ?_
        rotate_left
        · (intro W hW; (try dsimp only at hW); go_simp <;> (with_reducible rfl))
        try simp only [Act.put, List.setIfInBounds_toArray, List.set_cons_zero, List.set_cons_succ]
        refine wpAnyH_ready (rs := [1]) (by kernel_rfl) (by simp) (AllReadyH.cons (o := { dst := some 85, op := Op.call { callee := Callee.value (Operand.func 53), args := #[Operand.tmp 84], argTypes := #[33] }, type := 26, pos := "law.go:80", after := #[{ on := 0, ground := Ground.data }], guard := none }) rfl (fun K hK => ?_) AllReadyH.nil)
        (rw [if_pos (by rfl)]; go_simp; (with_reducible refine (CPL _ ?_).mono ?_); (focus (repeat (with_reducible first | assumption | exact Below.refl _ _ | apply Below.al | apply Below.dr))); rintro e w6 hq; obtain ⟨p6, l6, a6, m6, d6, rfl, hn6, hb6⟩ := hq.split; have hB6 : Below wc.heap.size wc w6 := below_via (a := wc) (by (repeat (with_reducible first | assumption | exact Below.refl _ _ | apply Below.al | apply Below.dr))) hb6; go_wp2_with (fail))
        refine hK.out _ _ (by (repeat (with_reducible first | assumption | exact Below.refl _ _ | apply Below.al | apply Below.dr))) (fun hHeld => ?_)
        clear hK K
        try simp only [Act.put, List.setIfInBounds_toArray, List.set_cons_zero, List.set_cons_succ]
        refine wpAnyH_ready (rs := [3]) (by kernel_rfl) (by simp) (AllReadyH.cons (o := { dst := some 87, op := Op.call { callee := Callee.value (Operand.func 36), args := #[Operand.tmp 85, Operand.tmp 86], argTypes := #[26, 26] }, type := 4, pos := "law.go:80", after := #[{ on := 1, ground := Ground.data }, { on := 2, ground := Ground.data }, { on := 1, ground := Ground.chain }], guard := none }) rfl (fun K hK => ?_) AllReadyH.nil)
        (rw [if_pos (by rfl)]; go_simp; (with_reducible refine (same_any hn6 (HR'.out.below hB6)).mono ?_); rintro e w7 ⟨rfl, hb7⟩; have hB7 : Below wc.heap.size wc w7 := below_via (a := wc) hB6 hb7; go_wp2_with (fail))
        refine hK.out _ _ (by (repeat (with_reducible first | assumption | exact Below.refl _ _ | apply Below.al | apply Below.dr))) (fun hHeld => ?_)
        clear hK K
        try simp only [Act.put, List.setIfInBounds_toArray, List.set_cons_zero, List.set_cons_succ]
        refine wpAnyH_take (i := 4) (oi := { dst := some 88, op := Op.unOp UnOp.not 4 (Operand.tmp 87), type := 4, pos := "law.go:80", after := #[{ on := 3, ground := Ground.data }], guard := none }) (v := ?_) rfl (by kernel_rfl) (by kernel_rfl) (by kernel_rfl) (fun _ _ _ h => h) (Or.inl ⟨by rfl, ?_⟩) (by assumption) ?_
        rotate_left
        · (intro W hW; (try dsimp only at hW); go_simp <;> (with_reducible rfl))
        try simp only [Act.put, List.setIfInBounds_toArray, List.set_cons_zero, List.set_cons_succ]
        refine wpAnyH_take (i := 5) (oi := { dst := some 89, op := Op.move (Operand.tmp 88), type := 4, pos := "law.go:80", after := #[{ on := 4, ground := Ground.data }, { on := 3, ground := Ground.chain }], guard := none }) (v := ?_) rfl (by kernel_rfl) (by kernel_rfl) (by kernel_rfl) (fun _ _ _ h => h) (Or.inl ⟨by rfl, ?_⟩) (by assumption) ?_
        rotate_left
        · (intro W hW; (try dsimp only at hW); go_simp <;> (with_reducible rfl))
        try simp only [Act.put, List.setIfInBounds_toArray, List.set_cons_zero, List.set_cons_succ]
        refine wpAnyH_take (i := 6) (oi := { dst := some 90, op := Op.load 33 (Operand.tmp 5), type := 33, pos := "law.go:80", after := #[{ on := 5, ground := Ground.guard }], guard := some (5, false) }) (v := ?_) rfl (by kernel_rfl) (by kernel_rfl) (by kernel_rfl) (fun _ _ _ h => h) (Or.inl ⟨by rfl, ?_⟩) (by assumption) ?_
        rotate_left
        · (intro W hW; (try dsimp only at hW); go_simp <;> (with_reducible rfl))
        try simp only [Act.put, List.setIfInBounds_toArray, List.set_cons_zero, List.set_cons_succ]
        refine wpAnyH_ready (rs := [7]) (by kernel_rfl) (by simp) (AllReadyH.cons (o := { dst := some 91, op := Op.call { callee := Callee.value (Operand.func 39), args := #[Operand.tmp 90], argTypes := #[33] }, type := 4, pos := "law.go:80", after := #[{ on := 6, ground := Ground.data }, { on := 5, ground := Ground.chain }, { on := 5, ground := Ground.guard }], guard := some (5, false) }) rfl (fun K hK => ?_) AllReadyH.nil)
        (rw [if_pos (by rfl)]; go_simp; (with_reducible refine (CC _ hB7).mono ?_); rintro e w8 ⟨rfl, hb8⟩; have hB8 : Below wc.heap.size wc w8 := below_via (a := wc) hB7 hb8; go_wp2_with (fail))
        refine hK.out _ _ (by (repeat (with_reducible first | assumption | exact Below.refl _ _ | apply Below.al | apply Below.dr))) (fun hHeld => ?_)
        clear hK K
        try simp only [Act.put, List.setIfInBounds_toArray, List.set_cons_zero, List.set_cons_succ]
        refine wpAnyH_take (i := 8) (oi := { dst := some 92, op := Op.unOp UnOp.not 4 (Operand.tmp 91), type := 4, pos := "law.go:80", after := #[{ on := 7, ground := Ground.data }, { on := 5, ground := Ground.guard }], guard := some (5, false) }) (v := ?_) rfl (by kernel_rfl) (by kernel_rfl) (by kernel_rfl) (fun _ _ _ h => h) (Or.inl ⟨by rfl, ?_⟩) (by assumption) ?_
        rotate_left
        · (intro W hW; (try dsimp only at hW); go_simp <;> (with_reducible rfl))
        try simp only [Act.put, List.setIfInBounds_toArray, List.set_cons_zero, List.set_cons_succ]
        refine wpAnyH_take (i := 9) (oi := { dst := some 93, op := Op.pick (Operand.tmp 89) (Operand.const (Value.bool true)) (Operand.tmp 92), type := 4, pos := "law.go:80", after := #[{ on := 5, ground := Ground.data }, { on := 8, ground := Ground.data }], guard := none }) (v := ?_) rfl (by kernel_rfl) (by kernel_rfl) (by kernel_rfl) (fun _ _ _ h => h) (Or.inl ⟨by rfl, ?_⟩) (by assumption) ?_
        rotate_left
        · (intro W hW; (try dsimp only at hW); go_simp <;> (with_reducible rfl))
        try simp only [Act.put, List.setIfInBounds_toArray, List.set_cons_zero, List.set_cons_succ]
        refine wpAnyH_done (by kernel_rfl) ?_ _
        refine NoPanic.normal ?_
        go_wp2_with fail
        go_roundw
        case rel => exact ⟨i + 1, M, T, hlt, by go_num, HBX.out.below hB8, HRX.out.below hB8, by omega, below_via HBD.out hB8⟩
        case measure => simp [intOf]; omega
      · have hneg' : decide ((0 : Int) ≤ y.size) = false := by simp; omega
        have HC0 := Lib.hid c0
        obtain ⟨T, hT⟩ : ∃ T, delW N t y.key = T := ⟨_, rfl⟩
        obtain ⟨o, ho⟩ : ∃ o, (lookT E y.key).isSome = o := ⟨_, rfl⟩
        have hof : (findT N t y.key).isSome = o := by rw [← ho, ← hE, whole_find hw]
        have CD : ∀ W, Below wr.heap.size wr W → Calls Try.prog 51 #[.agg #[.int .i64 p, .bool lf, .slice a1 n1 c1', .slice a2 n2 c2', .slice a3 n3 c3], .string (strOf y.key)] W (fun e w' => ∃ M j0 j9 j1 j2 j3 j4 j5 j6 j7 j8 k8, M ≤ N + 1 ∧ e = .returned (.tuple #[.agg #[.int .i64 j0, .bool j9, .slice j1 j2 j3, .slice j4 j5 j6, .slice j7 j8 k8], .bool o]) ∧ NodeOn (Fr (fun x => w5.heap.size + 1 ≤ x ∧ x < wr.heap.size) W) M w' [.int .i64 j0, .bool j9, .slice j1 j2 j3, .slice j4 j5 j6, .slice j7 j8 k8] T ∧ Whole M T ∧ entsT M T = delL y.key E ∧ Below W.heap.size W w') := fun W hW => (pdel_any y.key (hnl.below hW) hw).mono fun e w' h => by
          unfold DelTo at h
          rw [hT, hE, ho] at h
          exact h
        have CR : ∀ (wc W : World) (M : Nat) (p' : Int) (l' : Bool) (a' : Option Addr) (m' d' : Nat), RNodeOn (fun x => w5.heap.size + 1 ≤ x) N wc [.int .i64 p', .bool l', .slice a' m' d'] t → Whole M T → Below wc.heap.size wc W → w5.heap.size + 1 ≤ wc.heap.size →
            Calls Try.prog 52 #[.agg #[.int .i64 p', .bool l', .slice a' m' d'], .string (strOf y.key)] W (fun e w' => ∃ p l a m d, e = .returned (.tuple #[.agg #[.int .i64 p, .bool l, .slice a m d], .bool o]) ∧ RNodeOn (Fr (fun x => w5.heap.size + 1 ≤ x ∧ x < wc.heap.size) W) M w' [.int .i64 p, .bool l, .slice a m d] T ∧ Below W.heap.size W w') := fun wc W M p' l' a' m' d' hr hM hW hs =>
          (rdel_any (F := fun x => w5.heap.size + 1 ≤ x ∧ x < wc.heap.size) y.key (fun b h => Nat.lt_of_lt_of_le h.2 hW.size) (hr.lt.below hW) hw).mono fun e w' h => h.go hT hof (fun b hb => hb) hM.1.1
        have t0 : ∀ W, Below wr.heap.size wr W → W.cell? ⟨w3.heap.size, 0, none⟩ = some (.int .i64 p) := fun W hW => (hx.step hW).cell 0 0 rfl rfl
        have t1 : ∀ W, Below wr.heap.size wr W → W.cell? ⟨w3.heap.size, 1, none⟩ = some (.bool lf) := fun W hW => (hx.step hW).cell 0 1 rfl rfl
        have t2 : ∀ W, Below wr.heap.size wr W → W.cell? ⟨w3.heap.size, 2, none⟩ = some (.slice a1 n1 c1') := fun W hW => (hx.step hW).cell 0 2 rfl rfl
        have t3 : ∀ W, Below wr.heap.size wr W → W.cell? ⟨w3.heap.size, 3, none⟩ = some (.slice a2 n2 c2') := fun W hW => (hx.step hW).cell 0 3 rfl rfl
        have t4 : ∀ W, Below wr.heap.size wr W → W.cell? ⟨w3.heap.size, 4, none⟩ = some (.slice a3 n3 c3) := fun W hW => (hx.step hW).cell 0 4 rfl rfl
        have l0 : ∀ W, Below wr.heap.size wr W → W.cell? ⟨bl, ol + i * 2, none⟩ = some (.string (strOf y.key)) := fun W hW => ((below_via hb hW).cell (p := ⟨bl, ol + i * 2, none⟩) hbl).trans c0
        have HXB := Lib.hid hx
        have HBW := Lib.hid hb
        have hC0 : Below wr.heap.size wr wr.drew := (Below.refl _ _).drew
        have hGB : ∀ W : World, wr.heap.size ≤ W.heap.size → ∀ b, Fr (fun x => w5.heap.size + 1 ≤ x ∧ x < wr.heap.size) W b → w5.heap.size + 1 ≤ b := fun W hW b h => fr_le (fun b h => h.1) hsz5 hW h
        clear hx hn hnl hb hrb c0 c1 hyk hy hys hT ho hof hE
        go_upto_region 15 with (fail)
        go_cut [8, 9] (fun s8 s9 wx => s9 = .bool o ∧ PutMid (w5.heap.size + 1) wr N T (delL y.key E) s8 wx)
        case first =>
          go_region_held3 (fun W => Below wr.heap.size wr W) (first | with_reducible assumption | (repeat (with_reducible first | assumption | exact Nat.le_refl _ | exact Below.refl _ _ | apply Below.al | apply Below.dr | apply Below.st))) (first | (go_at_call 51; (with_reducible refine (CD _ ?_).mono ?_); (focus (repeat (with_reducible first | assumption | exact Below.refl _ _ | apply Below.al | apply Below.dr))); rintro e w9 hq9; obtain ⟨M, j0, j9, j1, j2, j3, j4, j5, j6, j7, j8, k8, hM9, rfl, hn9, hw9, hE9, hb9⟩ := hq9; have HE9 := Lib.hid hE9; clear hE9; have hB9 : Below wr.heap.size wr w9 := below_via (by (repeat (with_reducible first | assumption | exact Below.refl _ _ | apply Below.al | apply Below.dr))) hb9; (try (refine lay (P := BoxAt w9 wr.heap.size #[.int .i64 0, .bool false, .slice none 0 0, .slice none 0 0, .slice none 0 0]) (BoxAt.below ?_ hb9) ?_; (focus ((repeat (with_reducible first | assumption | exact BoxAt.here | apply BoxAt.dr | apply BoxAt.al)); done)); intro hz9; have z0 := hz9.cell (i := 0) rfl; have z1 := hz9.cell (i := 1) rfl; have z2 := hz9.cell (i := 2) rfl; have z3 := hz9.cell (i := 3) rfl; have z4 := hz9.cell (i := 4) rfl; have u0 := hz9.frozen 0; have u1 := hz9.frozen 1; have u2 := hz9.frozen 2; have u3 := hz9.frozen 3; have u4 := hz9.frozen 4))))
          all_goals
            go_wp2_with fail
            go_meet
            refine ⟨rfl, ?_⟩
            first
              | (have hA := PutMid.a (B := w5.heap.size + 1) (w2 := wr) (N := N) 33 hB9 hn9 (hGB _ (Nat.le_refl _)) hw9 hM9 HE9.out
                 with_reducible exact hA)
              | (have hA := PutMid.b (B := w5.heap.size + 1) (w2 := wr) (N := N) (b := wr.heap.size) hB9 hz9 (Nat.le_refl _) hn9 (hGB _ (le_alloc (Nat.le_refl _) _)) (fr_not (fun h => by omega) (lt_alloc _ _)) hw9 hM9 HE9.out
                 unfold set5 at hA
                 with_reducible exact hA)
        case rest =>
        obtain ⟨wo, hwo⟩ : ∃ x, wc = x := ⟨_, rfl⟩
        subst hwo
        obtain ⟨rfl, bx, M, rfl, hbx, hbc, hlex, hM, hEM⟩ := hcut
        have hwM : Whole M T := by obtain ⟨_, _, _, _, _, _, _, _, _, _, _, _, _, h⟩ := hbx; exact h
        obtain ⟨p', l', a', m', d', hx', hr'⟩ := HRB.out.below hbc
        have hx8 := hx'.lt 0 rfl
        have CRc := fun W hW => CR wc W M p' l' a' m' d' hr' hwM hW hx8
        have hbw := below_via HBW.out hbc
        have HBOX := Lib.hid hbx
        have HX7 := Lib.hid (HXB.out.step hbc)
        have HX8 := Lib.hid hx'
        have HBC := Lib.hid hbw
        have g0 : ∀ W, Below wc.heap.size wc W → W.cell? ⟨w5.heap.size, 0, none⟩ = some (.int .i64 p') := fun W hW => (hx'.step hW).cell 0 0 rfl rfl
        have g1 : ∀ W, Below wc.heap.size wc W → W.cell? ⟨w5.heap.size, 1, none⟩ = some (.bool l') := fun W hW => (hx'.step hW).cell 0 1 rfl rfl
        have g2 : ∀ W, Below wc.heap.size wc W → W.cell? ⟨w5.heap.size, 2, none⟩ = some (.slice a' m' d') := fun W hW => (hx'.step hW).cell 0 2 rfl rfl
        have l0 : ∀ W, Below wc.heap.size wc W → W.cell? ⟨bl, ol + i * 2, none⟩ = some (.string (strOf y.key)) := fun W hW => ((below_via hbw hW).cell (p := ⟨bl, ol + i * 2, none⟩) hbl).trans HC0.out
        have hC0 : Below wc.heap.size wc wc.drew := (Below.refl _ _).drew
        have hGB : ∀ W : World, wc.heap.size ≤ W.heap.size → ∀ b, Fr (fun x => w5.heap.size + 1 ≤ x ∧ x < wc.heap.size) W b → w5.heap.size + 1 ≤ b := fun W hW b h => fr_le (fun b h => h.1) hx8 hW h
        have hbxlt : bx < wc.heap.size := by obtain ⟨_, _, _, _, _, _, _, _, _, _, _, h, _⟩ := hbx; exact h.lt 0 rfl
        clear CD CR t0 t1 t2 t3 t4 hx' hr' hbx hEM HRB hbw hbc sz1
        go_upto_region 16 with (fail)
        go_cut [10, 11] (fun s10 s11 wx => s11 = .bool o ∧ RMid (w5.heap.size + 1) wc M T s10 wx)
        case first =>
          go_region_held3 (fun W => Below wc.heap.size wc W) (first | with_reducible assumption | (repeat (with_reducible first | assumption | exact Nat.le_refl _ | exact Below.refl _ _ | apply Below.al | apply Below.dr | apply Below.st))) (first | (go_at_call 52; (with_reducible refine (CRc _ ?_).mono ?_); (focus (repeat (with_reducible first | assumption | exact Below.refl _ _ | apply Below.al | apply Below.dr))); rintro e w9 hq9; obtain ⟨j0, j9, j1, j2, j3, rfl, hn9, hb9⟩ := hq9; have hB9 : Below wc.heap.size wc w9 := below_via (by (repeat (with_reducible first | assumption | exact Below.refl _ _ | apply Below.al | apply Below.dr))) hb9; (try (refine lay (P := BoxAt w9 wc.heap.size #[.int .i64 0, .bool false, .slice none 0 0]) (BoxAt.below ?_ hb9) ?_; (focus ((repeat (with_reducible first | assumption | exact BoxAt.here | apply BoxAt.dr | apply BoxAt.al)); done)); intro hz9; have z0 := hz9.cell (i := 0) rfl; have z1 := hz9.cell (i := 1) rfl; have z2 := hz9.cell (i := 2) rfl; have u0 := hz9.frozen 0; have u1 := hz9.frozen 1; have u2 := hz9.frozen 2))))
          all_goals
            go_wp2_with fail
            go_meet
            refine ⟨rfl, ?_⟩
            first
              | (have hA := RMid.a (B := w5.heap.size + 1) (w2 := wc) 26 hB9 hn9 (hGB _ (Nat.le_refl _))
                 with_reducible exact hA)
              | (have hA := RMid.b (B := w5.heap.size + 1) (w2 := wc) (b := wc.heap.size) hB9 hz9 (Nat.le_refl _) hn9 (hGB _ (le_alloc (Nat.le_refl _) _)) (fr_not (fun h => by omega) (lt_alloc _ _))
                 with_reducible exact hA)
        case rest =>
        obtain ⟨rfl, by8, rfl, hby, hbc, hley⟩ := hcut
        have hbox8 := HBOX.out.below hbc
        have hx7 := HX7.out.step hbc
        have hx8' := HX8.out.step hbc
        have hbw := below_via HBC.out hbc
        obtain ⟨p8, lf8, a81, n81, c81, a82, n82, c82, a83, n83, c83, hxq, hn8, hw8⟩ := hbox8
        have q0 := hxq.cell 0 0 rfl rfl
        have q1 := hxq.cell 0 1 rfl rfl
        have q2 := hxq.cell 0 2 rfl rfl
        have q3 := hxq.cell 0 3 rfl rfl
        have q4 := hxq.cell 0 4 rfl rfl
        have z0 := hx7.cell 0 0 rfl rfl
        have z1 := hx7.cell 0 1 rfl rfl
        have z2 := hx7.cell 0 2 rfl rfl
        have z3 := hx7.cell 0 3 rfl rfl
        have z4 := hx7.cell 0 4 rfl rfl
        have u0 := hx7.frozen 0 0 rfl
        have u1 := hx7.frozen 0 1 rfl
        have u2 := hx7.frozen 0 2 rfl
        have u3 := hx7.frozen 0 3 rfl
        have u4 := hx7.frozen 0 4 rfl
        have hnb : by8 ≠ w3.heap.size := by omega
        have hA7 := agree_set5 (G := fun x => x ≠ w3.heap.size) (w := wc) (b := w3.heap.size) (by simp) (.int .i64 p8) (.bool lf8) (.slice a81 n81 c81) (.slice a82 n82 c82) (.slice a83 n83 c83)
        have hb7' := TrBox.set5 (B := w5.heap.size + 1) hx7 hn8 (fun b h => h) (by omega) hw8
        have hby7 := hby.agree hA7 (fun x hx => by omega) hnb
        have hx87 := hx8'.agree hA7 (fun q hq => by simp at hq; subst hq; show w5.heap.size ≠ w3.heap.size; omega)
        have hbw7 := set5_below (b := w3.heap.size) hbw (by omega) (.int .i64 p8) (.bool lf8) (.slice a81 n81 c81) (.slice a82 n82 c82) (.slice a83 n83 c83)
        obtain ⟨W17, hW17⟩ : ∃ x, set5 wc (w3.heap.size) (.int .i64 p8) (.bool lf8) (.slice a81 n81 c81) (.slice a82 n82 c82) (.slice a83 n83 c83) = x := ⟨_, rfl⟩
        rw [hW17] at hb7' hby7 hx87 hbw7
        unfold set5 at hW17
        obtain ⟨p9, l9, a9, m9, d9, hy9, hr9⟩ := hby7
        have r0 := hy9.cell 0 0 rfl rfl
        have r1 := hy9.cell 0 1 rfl rfl
        have r2 := hy9.cell 0 2 rfl rfl
        have s0 := hx87.cell 0 0 rfl rfl
        have s1 := hx87.cell 0 1 rfl rfl
        have s2 := hx87.cell 0 2 rfl rfl
        have v0 := hx87.frozen 0 0 rfl
        have v1 := hx87.frozen 0 1 rfl
        have v2 := hx87.frozen 0 2 rfl
        have hrx' := RBox.put (B := w5.heap.size + 1) hx87 hr9 (Nat.lt_succ_self _)
        have hA8 : AgreeF (fun x => x ≠ w5.heap.size) W17 (((W17.setCell ⟨w5.heap.size, 0, none⟩ (.int .i64 p9)).setCell ⟨w5.heap.size, 1, none⟩ (.bool l9)).setCell ⟨w5.heap.size, 2, none⟩ (.slice a9 m9 d9)) := (((agr _).st).st).st
        have hbox' := hb7'.agree hA8 (fun x hx => by omega) (by show w3.heap.size ≠ w5.heap.size; omega)
        have hbw' := ((hbw7.setCell (p := ⟨w5.heap.size, 0, none⟩) (show w.heap.size ≤ w5.heap.size from hz5) (.int .i64 p9)).setCell (p := ⟨w5.heap.size, 1, none⟩) (show w.heap.size ≤ w5.heap.size from hz5) (.bool l9)).setCell (p := ⟨w5.heap.size, 2, none⟩) (show w.heap.size ≤ w5.heap.size from hz5) (.slice a9 m9 d9)
        obtain ⟨wd, hwd⟩ : ∃ x, (((W17.setCell ⟨w5.heap.size, 0, none⟩ (.int .i64 p9)).setCell ⟨w5.heap.size, 1, none⟩ (.bool l9)).setCell ⟨w5.heap.size, 2, none⟩ (.slice a9 m9 d9)) = x := ⟨_, rfl⟩
        rw [hwd] at hrx' hbox' hbw'
        have hoo : (o != o) = false := by simp
        have HBX' := Lib.hid hbox'
        have HRX' := Lib.hid hrx'
        have HBD' := Lib.hid hbw'
        clear hrx' hbox' hbw' hbw7 hA8 hA7 hb7' hx87 hy9 hr9 hx7 hx8' hxq hn8 hw8 hby hbc hbw CRc g0 g1 g2 l0 hGB HBOX HX7 HX8 HBC HXB HBW
        go_upto_region 21 with (fail)
        clear hwd hW17 q0 q1 q2 q3 q4 z0 z1 z2 z3 z4 u0 u1 u2 u3 u4 r0 r1 r2 s0 s1 s2 v0 v1 v2
        have hbox := HBX'.out
        have hrx := HRX'.out
        have hbw := HBD'.out
        have HBX := Lib.hid hbox
        have HRX := Lib.hid hrx
        have HBD := Lib.hid hbw
        obtain ⟨p, lf, a1, n1, c1', a2, n2, c2', a3, n3, c3, hx, hn, hw⟩ := hbox
        obtain ⟨p', l', a', m', d', hx', hr'⟩ := hrx
        have hl7 := hx.lt 0 rfl
        have hl8 := hx'.lt 0 rfl
        have CPL : ∀ W, Below wd.heap.size wd W → Calls Try.prog 53 #[.agg #[.int .i64 p, .bool lf, .slice a1 n1 c1', .slice a2 n2 c2', .slice a3 n3 c3]] W (RNodeTo (fun x => w5.heap.size + 1 ≤ x ∧ x < wd.heap.size) M W T) := fun W hW => plain16_any (fun b h => Nat.lt_of_lt_of_le h.2 hW.size) (hn.lt.below hW) hw.bnd
        have CC : ∀ W, Below wd.heap.size wd W → Calls Try.prog 39 #[.agg #[.int .i64 p, .bool lf, .slice a1 n1 c1', .slice a2 n2 c2', .slice a3 n3 c3]] W (fun e w' => e = .returned (.bool true) ∧ Below W.heap.size W w') := fun W hW => by
          have := tcheck_any (hn.below hW).toIn hw.bnd (by omega)
          rwa [whole_check hw] at this
        have F7 : ∀ (j : Nat) (v : Value), [.int .i64 p, .bool lf, .slice a1 n1 c1', .slice a2 n2 c2', .slice a3 n3 c3][j]? = some v → ∀ W, Below wd.heap.size wd W → W.cell? ⟨w3.heap.size, j, none⟩ = some v := fun j v hv W hW => (hW.cell (p := ⟨w3.heap.size, j, none⟩) hl7).trans (hx.cell 0 j rfl hv)
        have F8 : ∀ (j : Nat) (v : Value), [.int .i64 p', .bool l', .slice a' m' d'][j]? = some v → ∀ W, Below wd.heap.size wd W → W.cell? ⟨w5.heap.size, j, none⟩ = some v := fun j v hv W hW => (hW.cell (p := ⟨w5.heap.size, j, none⟩) hl8).trans (hx'.cell 0 j rfl hv)
        have f0 := F7 0 _ rfl
        have f1 := F7 1 _ rfl
        have f2 := F7 2 _ rfl
        have f3 := F7 3 _ rfl
        have f4 := F7 4 _ rfl
        have g0 := F8 0 _ rfl
        have g1 := F8 1 _ rfl
        have g2 := F8 2 _ rfl
        have HR' := Lib.hid hr'
        have hA00 : Below wd.heap.size wd wd.drew := Below.dr (Below.refl _ _)
        clear hx hx' hn hr' F7 F8 hbw
        refine wp_region_noPanic ?_
        refine wp_region_held_drew (S := (fun W => Below wd.heap.size wd W)) (by kernel_rfl) (by (repeat (with_reducible first | assumption | exact Below.refl _ _ | apply Below.al | apply Below.dr))) (fun hHeld => ?_)
        refine wpAnyH_take (i := 0) (oi := { dst := some 84, op := Op.load 33 (Operand.tmp 5), type := 33, pos := "law.go:80", after := #[], guard := none }) (v := ?_) rfl (by kernel_rfl) (by kernel_rfl) (by kernel_rfl) (fun _ _ _ h => h) (Or.inl ⟨by rfl, ?_⟩) (by assumption) ?_
        rotate_left
        · (intro W hW; (try dsimp only at hW); go_simp <;> (with_reducible rfl))
        try simp only [Act.put, List.setIfInBounds_toArray, List.set_cons_zero, List.set_cons_succ]
        refine wpAnyH_take (i := 2) (oi := { dst := some 86, op := Op.load 26 (Operand.tmp 6), type := 26, pos := "law.go:80", after := #[], guard := none }) (v := ?_) rfl (by kernel_rfl) (by kernel_rfl) (by kernel_rfl) (fun _ _ _ h => h) (Or.inl ⟨by rfl, ?_⟩) (by assumption) ?_
        rotate_left
        · (intro W hW; (try dsimp only at hW); go_simp <;> (with_reducible rfl))
        try simp only [Act.put, List.setIfInBounds_toArray, List.set_cons_zero, List.set_cons_succ]
        refine wpAnyH_ready (rs := [1]) (by kernel_rfl) (by simp) (AllReadyH.cons (o := { dst := some 85, op := Op.call { callee := Callee.value (Operand.func 53), args := #[Operand.tmp 84], argTypes := #[33] }, type := 26, pos := "law.go:80", after := #[{ on := 0, ground := Ground.data }], guard := none }) rfl (fun K hK => ?_) AllReadyH.nil)
        (rw [if_pos (by rfl)]; go_simp; (with_reducible refine (CPL _ ?_).mono ?_); (focus (repeat (with_reducible first | assumption | exact Below.refl _ _ | apply Below.al | apply Below.dr))); rintro e w6 hq; obtain ⟨p6, l6, a6, m6, d6, rfl, hn6, hb6⟩ := hq.split; have hB6 : Below wd.heap.size wd w6 := below_via (a := wd) (by (repeat (with_reducible first | assumption | exact Below.refl _ _ | apply Below.al | apply Below.dr))) hb6; go_wp2_with (fail))
        refine hK.out _ _ (by (repeat (with_reducible first | assumption | exact Below.refl _ _ | apply Below.al | apply Below.dr))) (fun hHeld => ?_)
        clear hK K
        try simp only [Act.put, List.setIfInBounds_toArray, List.set_cons_zero, List.set_cons_succ]
        refine wpAnyH_ready (rs := [3]) (by kernel_rfl) (by simp) (AllReadyH.cons (o := { dst := some 87, op := Op.call { callee := Callee.value (Operand.func 36), args := #[Operand.tmp 85, Operand.tmp 86], argTypes := #[26, 26] }, type := 4, pos := "law.go:80", after := #[{ on := 1, ground := Ground.data }, { on := 2, ground := Ground.data }, { on := 1, ground := Ground.chain }], guard := none }) rfl (fun K hK => ?_) AllReadyH.nil)
        (rw [if_pos (by rfl)]; go_simp; (with_reducible refine (same_any hn6 (HR'.out.below hB6)).mono ?_); rintro e w7 ⟨rfl, hb7⟩; have hB7 : Below wd.heap.size wd w7 := below_via (a := wd) hB6 hb7; go_wp2_with (fail))
        refine hK.out _ _ (by (repeat (with_reducible first | assumption | exact Below.refl _ _ | apply Below.al | apply Below.dr))) (fun hHeld => ?_)
        clear hK K
        try simp only [Act.put, List.setIfInBounds_toArray, List.set_cons_zero, List.set_cons_succ]
        refine wpAnyH_take (i := 4) (oi := { dst := some 88, op := Op.unOp UnOp.not 4 (Operand.tmp 87), type := 4, pos := "law.go:80", after := #[{ on := 3, ground := Ground.data }], guard := none }) (v := ?_) rfl (by kernel_rfl) (by kernel_rfl) (by kernel_rfl) (fun _ _ _ h => h) (Or.inl ⟨by rfl, ?_⟩) (by assumption) ?_
        rotate_left
        · (intro W hW; (try dsimp only at hW); go_simp <;> (with_reducible rfl))
        try simp only [Act.put, List.setIfInBounds_toArray, List.set_cons_zero, List.set_cons_succ]
        refine wpAnyH_take (i := 5) (oi := { dst := some 89, op := Op.move (Operand.tmp 88), type := 4, pos := "law.go:80", after := #[{ on := 4, ground := Ground.data }, { on := 3, ground := Ground.chain }], guard := none }) (v := ?_) rfl (by kernel_rfl) (by kernel_rfl) (by kernel_rfl) (fun _ _ _ h => h) (Or.inl ⟨by rfl, ?_⟩) (by assumption) ?_
        rotate_left
        · (intro W hW; (try dsimp only at hW); go_simp <;> (with_reducible rfl))
        try simp only [Act.put, List.setIfInBounds_toArray, List.set_cons_zero, List.set_cons_succ]
        refine wpAnyH_take (i := 6) (oi := { dst := some 90, op := Op.load 33 (Operand.tmp 5), type := 33, pos := "law.go:80", after := #[{ on := 5, ground := Ground.guard }], guard := some (5, false) }) (v := ?_) rfl (by kernel_rfl) (by kernel_rfl) (by kernel_rfl) (fun _ _ _ h => h) (Or.inl ⟨by rfl, ?_⟩) (by assumption) ?_
        rotate_left
        · (intro W hW; (try dsimp only at hW); go_simp <;> (with_reducible rfl))
        try simp only [Act.put, List.setIfInBounds_toArray, List.set_cons_zero, List.set_cons_succ]
        refine wpAnyH_ready (rs := [7]) (by kernel_rfl) (by simp) (AllReadyH.cons (o := { dst := some 91, op := Op.call { callee := Callee.value (Operand.func 39), args := #[Operand.tmp 90], argTypes := #[33] }, type := 4, pos := "law.go:80", after := #[{ on := 6, ground := Ground.data }, { on := 5, ground := Ground.chain }, { on := 5, ground := Ground.guard }], guard := some (5, false) }) rfl (fun K hK => ?_) AllReadyH.nil)
        (rw [if_pos (by rfl)]; go_simp; (with_reducible refine (CC _ hB7).mono ?_); rintro e w8 ⟨rfl, hb8⟩; have hB8 : Below wd.heap.size wd w8 := below_via (a := wd) hB7 hb8; go_wp2_with (fail))
        refine hK.out _ _ (by (repeat (with_reducible first | assumption | exact Below.refl _ _ | apply Below.al | apply Below.dr))) (fun hHeld => ?_)
        clear hK K
        try simp only [Act.put, List.setIfInBounds_toArray, List.set_cons_zero, List.set_cons_succ]
        refine wpAnyH_take (i := 8) (oi := { dst := some 92, op := Op.unOp UnOp.not 4 (Operand.tmp 91), type := 4, pos := "law.go:80", after := #[{ on := 7, ground := Ground.data }, { on := 5, ground := Ground.guard }], guard := some (5, false) }) (v := ?_) rfl (by kernel_rfl) (by kernel_rfl) (by kernel_rfl) (fun _ _ _ h => h) (Or.inl ⟨by rfl, ?_⟩) (by assumption) ?_
        rotate_left
        · (intro W hW; (try dsimp only at hW); go_simp <;> (with_reducible rfl))
        try simp only [Act.put, List.setIfInBounds_toArray, List.set_cons_zero, List.set_cons_succ]
        refine wpAnyH_take (i := 9) (oi := { dst := some 93, op := Op.pick (Operand.tmp 89) (Operand.const (Value.bool true)) (Operand.tmp 92), type := 4, pos := "law.go:80", after := #[{ on := 5, ground := Ground.data }, { on := 8, ground := Ground.data }], guard := none }) (v := ?_) rfl (by kernel_rfl) (by kernel_rfl) (by kernel_rfl) (fun _ _ _ h => h) (Or.inl ⟨by rfl, ?_⟩) (by assumption) ?_
        rotate_left
        · (intro W hW; (try dsimp only at hW); go_simp <;> (with_reducible rfl))
        try simp only [Act.put, List.setIfInBounds_toArray, List.set_cons_zero, List.set_cons_succ]
        refine wpAnyH_done (by kernel_rfl) ?_ _
        refine NoPanic.normal ?_
        go_wp2_with fail
        go_roundw
        case rel => exact ⟨i + 1, M, T, hlt, by go_num, HBX.out.below hB8, HRX.out.below hB8, by omega, below_via HBD.out hB8⟩
        case measure => simp [intOf]; omega
    · obtain rfl : i = n := by omega
      have hlt' : decide ((i : Int) < (i : Int)) = false := by simp
      have HB := Lib.hid hb
      clear hbox hrb hb
      go_wp2_with fail
      go_ret
      exact ⟨rfl, HB.out⟩
end Go.Proofs.Ytemfnjlfcemehaa
