/- The law TreePuts (printed by gen_treLp.py). -/
import Derived.Test.YtemfnjlfcemehaaM13
import Derived.Test.YtemfnjlfcemehaaM8
import Derived.Test.YtemfnjlfcemehaaM7
namespace Go.Proofs.Ytemfnjlfcemehaa
open Go.RowKit

set_option maxRecDepth 100000 in
set_option maxHeartbeats 8000000 in
theorem lPuts15 {w : World} {a : Option Addr} {n c : Nat} {l : List Pt} (h : Pts w a n c l) (key : List UInt8) (hkey : key.length ≤ 9223372036854775807) :
    Calls Try.prog 7 #[.slice a n c, .string (strOf key)] w fun e w' => e = .returned (.bool true) ∧ Below w.heap.size w w' := by
  obtain ⟨e1, e2, e3⟩ := TabR.lens h
  have HP := Lib.hid h
  have HL := Lib.hid e1
  have A := awake15_any w
  have hks := strOf_size key
  obtain ⟨kz, hkz⟩ : ∃ z, key.length = z := ⟨_, rfl⟩
  rw [hkz] at hks hkey
  clear h e1 hkz
  go_enter Try.func7, Try.ntmps7
  go_wp2_with fail
  refine A.mono ?_
  rintro e w1 ⟨rfl, hb1⟩
  have hp1 : Pts w1 a n c l := TabR.below (Nat.le_refl _) hb1 HP.out
  clear A
  go_wp2_with fail
  refine (small15_any hp1).mono ?_
  rintro e w2 ⟨rfl, rfl⟩
  obtain ⟨S, hS⟩ : ∃ S, smallP l = S := ⟨_, rfl⟩
  rw [hS]
  cases S with
  | false =>
    have HB := Lib.hid hb1
    clear hp1 hb1 hS
    go_wp2_with fail
    go_ret
    exact ⟨rfl, HB.out⟩
  | true =>
  by_cases hk9 : 100 < kz
  · have HB := Lib.hid hb1
    have hk9' : (100 : Int) < (kz : Int) := by omega
    clear hp1 hb1 hS
    go_wp2_with fail
    go_ret
    exact ⟨rfl, HB.out⟩
  have hk9' : ¬ ((100 : Int) < (kz : Int)) := by omega
  obtain ⟨hl80, hall⟩ := okP_facts hS
  have hn80 : n ≤ 80 := by rw [← HL.out]; exact hl80
  have HALL := Lib.hid hall
  have E := tempty_any w2 (fun _ => False)
  have HB1 := Lib.hid hb1
  clear hp1 hb1 hS hall hl80
  go_wp2_with fail
  refine E.mono ?_
  rintro e w3 ⟨cs, rfl, hn0, hb3⟩
  obtain ⟨x1, k1, x2, k2, x3, k3, ecs, hn0⟩ := empty_on (F := fun _ => False) hn0
  subst ecs
  obtain ⟨W3, hW3⟩ : ∃ x, w3.alloc (.cells #[.int .i64 0, .bool true, .slice x1 0 k1, .slice x2 0 k2, .slice x3 0 k3] 33) = x := ⟨_, rfl⟩
  have hz3 : w.heap.size ≤ w3.heap.size := Nat.le_trans HB1.out.size hb3.size
  have hbel : Below w.heap.size w W3 := by rw [← hW3]; exact Below.al (HB1.out.trans (hb3.mono HB1.out.size))
  have hbx3 : Boxes W3 [(w3.heap.size, [.int .i64 0, .bool true, .slice x1 0 k1, .slice x2 0 k2, .slice x3 0 k3])] := by
    rw [← hW3]
    exact (Boxes.nil w3).alloc #[.int .i64 0, .bool true, .slice x1 0 k1, .slice x2 0 k2, .slice x3 0 k3] 33 (b := w3.heap.size) rfl
  have hn3 : NodeOn (fun _ => False) 1 W3 [.int .i64 0, .bool true, .slice x1 0 k1, .slice x2 0 k2, .slice x3 0 k3] (.leaf 0 []) := by rw [← hW3]; exact hn0.below (Below.al (Below.refl _ _))
  have E2 := rempty_any W3 (fun _ => False)
  have HB3 := Lib.hid hbel
  have HX3 := Lib.hid hbx3
  have HN3 := Lib.hid hn3
  clear E hn0 hb3 hbel hbx3 hn3
  go_wp2_with fail
  refine E2.mono ?_
  rintro e w5 ⟨cs, rfl, hn5, hb5⟩
  obtain ⟨y1, j1, ecs, hn5⟩ := rempty_on (F := fun x => w5.heap.size + 1 ≤ x) hn5
  subst ecs
  have hb5a : Below w5.heap.size w5 (w5.alloc (.cells #[.int .i64 0, .bool true, .slice y1 0 j1] 26)) := Below.al (Below.refl _ _)
  have hbW : Below W3.heap.size W3 (w5.alloc (.cells #[.int .i64 0, .bool true, .slice y1 0 j1] 26)) := below_via hb5 hb5a
  have hlt7 : w3.heap.size < w5.heap.size := Nat.lt_of_lt_of_le (HX3.out.lt 0 rfl) hb5.size
  have HT : Hid (TrBox (w5.heap.size + 1) w3.heap.size (w5.alloc (.cells #[.int .i64 0, .bool true, .slice y1 0 j1] 26)) 1 (.leaf 0 [])) := Lib.hid
    ⟨_, _, _, _, _, _, _, _, _, _, _, HX3.out.step hbW, (HN3.out.below hbW).mono (fun b h => h.elim), whole_empty⟩
  have HR : Hid (RBox (w5.heap.size + 1) w5.heap.size (w5.alloc (.cells #[.int .i64 0, .bool true, .slice y1 0 j1] 26)) 1 (.leaf 0 [])) := Lib.hid
    ⟨_, _, _, _, _, (Boxes.nil w5).alloc #[.int .i64 0, .bool true, .slice y1 0 j1] 26 (b := w5.heap.size) rfl, hn5.below hb5a⟩
  have HBEL := Lib.hid (below_via HB3.out hbW)
  have hz5 : w.heap.size ≤ w5.heap.size := by omega
  clear E2 hn5 hb5 hb5a hbW hW3
  go_wp2_with fail
  go_loopw [9] (fun s9 wr => ∃ (i N : Nat) (t : Tr), i ≤ n ∧ s9 = .int .i64 i ∧ TrBox (w5.heap.size + 1) w3.heap.size wr N t ∧ RBox (w5.heap.size + 1) w5.heap.size wr N t ∧ N ≤ i + 1 ∧ Below w.heap.size w wr) (fun s _ => n - (intOf s).toNat)
  case atStart => exact ⟨0, 1, _, Nat.zero_le _, rfl, HT.out, HR.out, Nat.le_refl _, HBEL.out⟩
  case round =>
    clear HT HR HBEL
    obtain ⟨i, N, t, hi, rfl, hbox, hrb, hN, hb⟩ := hrel
    by_cases hlt : i < n
    · obtain ⟨bl, ol, y, rfl, hbl, hy, c0, c1, c2⟩ := HP.out.at hlt
      obtain ⟨hyk, sz, hsz, hsz4⟩ := HALL.out y (List.mem_of_getElem? hy)
      rw [hsz] at c2
      have hlt' : (i : Int) < (n : Int) := by omega
      have HSZ := Lib.hid hsz
      have HYK := Lib.hid hyk
      have HC0 := Lib.hid c0
      have HC1 := Lib.hid c1
      have HC2 := Lib.hid c2
      have HRB := Lib.hid hrb
      obtain ⟨p, lf, a1, n1, c1', a2, n2, c2', a3, n3, c3, hx, hn, hw⟩ := hbox
      have hxl := hx.lt 0 rfl
      have hnl := hn.lt
      have hbl2 := Nat.lt_of_lt_of_le hbl hb.size
      obtain ⟨T, hT⟩ : ∃ T, putW N t y.key ⟨fillT y.fill sz, []⟩ = T := ⟨_, rfl⟩
      obtain ⟨E, hE⟩ : ∃ E, entsT N t = E := ⟨_, rfl⟩
      have CP : ∀ W, Below wr.heap.size wr W → Calls Try.prog 33 #[.agg #[.int .i64 p, .bool lf, .slice a1 n1 c1', .slice a2 n2 c2', .slice a3 n3 c3], .string (strOf y.key), .string (strOf (fillT y.fill sz))] W (fun e w' => ∃ M cs, M ≤ N + 1 ∧ e = .returned (.agg cs.toArray) ∧ NodeOn (Fr (fun x => w5.heap.size + 1 ≤ x ∧ x < wr.heap.size) W) M w' cs T ∧ Whole M T ∧ entsT M T = putL y.key ⟨fillT y.fill sz, []⟩ E ∧ Below W.heap.size W w') := fun W hW => (tPut_whole (hnl.below hW) hw y.key (fillT y.fill sz) hyk (by rw [fillT_len]; exact hsz4)).mono fun e w' h => by
        unfold PutTo at h
        rw [hT, hE] at h
        exact h
      have CV : ∀ W, Calls Try.prog 34 #[.agg #[.string (strOf y.key), .int .u8 (y.fill.toNat : Int), .int .i64 (sz : Int)]] W (fun e w' => e = .returned (.string (strOf (fillT y.fill sz))) ∧ Below W.heap.size W w') := fun W => by
        have := value15_any y sz hsz hsz4 W
        unfold ptC at this
        rwa [hsz] at this
      have CR : ∀ (wc W : World) (M : Nat) (p' : Int) (l' : Bool) (a' : Option Addr) (m' d' : Nat), RNodeOn (fun x => w5.heap.size + 1 ≤ x) N wc [.int .i64 p', .bool l', .slice a' m' d'] t → Whole M T → Below wc.heap.size wc W → w5.heap.size + 1 ≤ wc.heap.size →
          Calls Try.prog 35 #[.agg #[.int .i64 p', .bool l', .slice a' m' d'], .string (strOf y.key), .string (strOf (fillT y.fill sz))] W (RGo (fun x => w5.heap.size + 1 ≤ x) M W T) := fun wc W M p' l' a' m' d' hr hM hW hs => by
        have := rPut_whole (F := fun x => w5.heap.size + 1 ≤ x ∧ x < wc.heap.size) (fun b h => Nat.lt_of_lt_of_le h.2 hW.size) (hr.lt.below hW) hw y.key (fillT y.fill sz) hyk (by rw [fillT_len]; exact hsz4)
        rw [hT] at this
        exact this.mono fun e w' h => h.go (fun b hb => fr_le (fun b h => h.1) hs hW.size hb) hM.1.1
      have hsz5 : w5.heap.size + 1 ≤ wr.heap.size := by
        obtain ⟨_, _, _, _, _, h, _⟩ := hrb
        exact h.lt 0 rfl
      have hGB : ∀ W, Below wr.heap.size wr W → ∀ x, Fr (fun x => w5.heap.size + 1 ≤ x ∧ x < wr.heap.size) W x → w5.heap.size + 1 ≤ x := fun W hW x h => fr_le (fun b h => h.1) hsz5 hW.size h
      have hBB : w3.heap.size < w5.heap.size + 1 := by omega
      have hle : w.heap.size ≤ w3.heap.size := hz3
      have l0 : ∀ W, AgreeF (fun x => x ≠ w3.heap.size) wr W → W.cell? ⟨bl, ol + i * 3, none⟩ = some (.string (strOf y.key)) := fun W hW => (hW.cell (by show bl ≠ w3.heap.size; omega) hbl2).trans ((hb.cell (p := ⟨bl, ol + i * 3, none⟩) hbl).trans c0)
      have l1 : ∀ W, AgreeF (fun x => x ≠ w3.heap.size) wr W → W.cell? ⟨bl, ol + i * 3 + 1, none⟩ = some (.int .u8 (y.fill.toNat : Int)) := fun W hW => (hW.cell (by show bl ≠ w3.heap.size; omega) hbl2).trans ((hb.cell (p := ⟨bl, ol + i * 3 + 1, none⟩) hbl).trans c1)
      have l2 : ∀ W, AgreeF (fun x => x ≠ w3.heap.size) wr W → W.cell? ⟨bl, ol + i * 3 + 2, none⟩ = some (.int .i64 (sz : Int)) := fun W hW => (hW.cell (by show bl ≠ w3.heap.size; omega) hbl2).trans ((hb.cell (p := ⟨bl, ol + i * 3 + 2, none⟩) hbl).trans c2)
      have f0 := hx.cell 0 0 rfl rfl
      have f1 := hx.cell 0 1 rfl rfl
      have f2 := hx.cell 0 2 rfl rfl
      have f3 := hx.cell 0 3 rfl rfl
      have f4 := hx.cell 0 4 rfl rfl
      have HXB := Lib.hid hx
      have HBW := Lib.hid hb
      have HEE := Lib.hid hE
      clear hx hn hnl hb hE hrb c0 c1 c2 hyk hsz hy
      go_upto_region 12 with (fail)
      go_cut [] (fun wq => PutStay (w5.heap.size + 1) w3.heap.size w wr N T (putL y.key ⟨fillT y.fill sz, []⟩ E) wq)
      case first =>
        refine wp_region_noPanic ?_
        refine wp_region_held_drew (S := (fun W => AgreeF (fun x => x ≠ w3.heap.size) wr W)) (by kernel_rfl) (by (repeat (with_reducible first | assumption | exact AgreeF.refl _ | apply AgreeF.al | apply AgreeF.dr | apply AgreeF.st))) (fun hHeld => ?_)
        refine wpAnyH_take (i := 1) (oi := { dst := some 35, op := Op.move (Operand.tmp 0), type := 58, pos := "law.go:74", after := #[], guard := none }) (v := ?_) rfl (by kernel_rfl) (by kernel_rfl) (by kernel_rfl) (fun _ _ _ h => h) (Or.inl ⟨by rfl, ?_⟩) (by assumption) ?_
        rotate_left
        · (intro W hW; (try dsimp only at hW); go_simp <;> (with_reducible rfl))
        try simp only [Act.put, List.setIfInBounds_toArray, List.set_cons_zero, List.set_cons_succ]
        refine wpAnyH_take (i := 2) (oi := { dst := some 36, op := Op.move (Operand.tmp 9), type := 3, pos := "law.go:74", after := #[], guard := none }) (v := ?_) rfl (by kernel_rfl) (by kernel_rfl) (by kernel_rfl) (fun _ _ _ h => h) (Or.inl ⟨by rfl, ?_⟩) (by assumption) ?_
        rotate_left
        · (intro W hW; (try dsimp only at hW); go_simp <;> (with_reducible rfl))
        try simp only [Act.put, List.setIfInBounds_toArray, List.set_cons_zero, List.set_cons_succ]
        refine wpAnyH_take (i := 3) (oi := { dst := some 37, op := Op.indexAddr 58 (Operand.tmp 35) (Operand.tmp 36), type := 0, pos := "law.go:74", after := #[{ on := 1, ground := Ground.data }, { on := 2, ground := Ground.data }], guard := none }) (v := ?_) rfl (by kernel_rfl) (by kernel_rfl) (by kernel_rfl) (fun _ _ _ h => h) (Or.inl ⟨by rfl, ?_⟩) (by assumption) ?_
        rotate_left
        · (intro W hW; (try dsimp only at hW); go_simp <;> (with_reducible rfl))
        try simp only [Act.put, List.setIfInBounds_toArray, List.set_cons_zero, List.set_cons_succ]
        refine wpAnyH_take (i := 4) (oi := { dst := some 38, op := Op.fieldAddr 64 (Operand.tmp 37) 0, type := 0, pos := "law.go:74", after := #[{ on := 3, ground := Ground.data }], guard := none }) (v := ?_) rfl (by kernel_rfl) (by kernel_rfl) (by kernel_rfl) (fun _ _ _ h => h) (Or.inl ⟨by rfl, ?_⟩) (by assumption) ?_
        rotate_left
        · (intro W hW; (try dsimp only at hW); go_simp <;> (with_reducible rfl))
        try simp only [Act.put, List.setIfInBounds_toArray, List.set_cons_zero, List.set_cons_succ]
        refine wpAnyH_take (i := 5) (oi := { dst := some 39, op := Op.load 9 (Operand.tmp 38), type := 9, pos := "law.go:74", after := #[{ on := 4, ground := Ground.data }], guard := none }) (v := ?_) rfl (by kernel_rfl) (by kernel_rfl) (by kernel_rfl) (fun _ _ _ h => h) (Or.inl ⟨by rfl, ?_⟩) (by assumption) ?_
        rotate_left
        · (intro W hW; (try dsimp only at hW); go_simp <;> (with_reducible rfl))
        try simp only [Act.put, List.setIfInBounds_toArray, List.set_cons_zero, List.set_cons_succ]
        refine wpAnyH_take (i := 6) (oi := { dst := some 40, op := Op.move (Operand.tmp 0), type := 58, pos := "law.go:74", after := #[], guard := none }) (v := ?_) rfl (by kernel_rfl) (by kernel_rfl) (by kernel_rfl) (fun _ _ _ h => h) (Or.inl ⟨by rfl, ?_⟩) (by assumption) ?_
        rotate_left
        · (intro W hW; (try dsimp only at hW); go_simp <;> (with_reducible rfl))
        try simp only [Act.put, List.setIfInBounds_toArray, List.set_cons_zero, List.set_cons_succ]
        refine wpAnyH_take (i := 7) (oi := { dst := some 41, op := Op.move (Operand.tmp 9), type := 3, pos := "law.go:74", after := #[], guard := none }) (v := ?_) rfl (by kernel_rfl) (by kernel_rfl) (by kernel_rfl) (fun _ _ _ h => h) (Or.inl ⟨by rfl, ?_⟩) (by assumption) ?_
        rotate_left
        · (intro W hW; (try dsimp only at hW); go_simp <;> (with_reducible rfl))
        try simp only [Act.put, List.setIfInBounds_toArray, List.set_cons_zero, List.set_cons_succ]
        refine wpAnyH_take (i := 8) (oi := { dst := some 42, op := Op.indexAddr 58 (Operand.tmp 40) (Operand.tmp 41), type := 0, pos := "law.go:74", after := #[{ on := 6, ground := Ground.data }, { on := 7, ground := Ground.data }], guard := none }) (v := ?_) rfl (by kernel_rfl) (by kernel_rfl) (by kernel_rfl) (fun _ _ _ h => h) (Or.inl ⟨by rfl, ?_⟩) (by assumption) ?_
        rotate_left
        · (intro W hW; (try dsimp only at hW); go_simp <;> (with_reducible rfl))
        try simp only [Act.put, List.setIfInBounds_toArray, List.set_cons_zero, List.set_cons_succ]
        refine wpAnyH_take (i := 9) (oi := { dst := some 43, op := Op.load 64 (Operand.tmp 42), type := 64, pos := "law.go:74", after := #[{ on := 8, ground := Ground.data }], guard := none }) (v := ?_) rfl (by kernel_rfl) (by kernel_rfl) (by kernel_rfl) (fun _ _ _ h => h) (Or.inl ⟨by rfl, ?_⟩) (by assumption) ?_
        rotate_left
        · (intro W hW; (try dsimp only at hW); go_simp <;> (with_reducible rfl))
        try simp only [Act.put, List.setIfInBounds_toArray, List.set_cons_zero, List.set_cons_succ]
        refine wpAnyH_ready (rs := [0, 10]) (by kernel_rfl) (by simp) (AllReadyH.cons (o := { dst := some 34, op := Op.load 33 (Operand.tmp 7), type := 33, pos := "law.go:74", after := #[], guard := none }) rfl (fun K hK => ?_) (AllReadyH.cons (o := { dst := some 44, op := Op.call { callee := Callee.value (Operand.func 34), args := #[Operand.tmp 43], argTypes := #[64] }, type := 9, pos := "law.go:74", after := #[{ on := 9, ground := Ground.data }], guard := none }) rfl (fun K hK => ?_) AllReadyH.nil))
        · (rw [if_pos (by rfl)]; go_wp2_with (fail))
          refine hK.out _ _ (by (repeat (with_reducible first | assumption | exact AgreeF.refl _ | apply AgreeF.al | apply AgreeF.dr | apply AgreeF.st))) (fun hHeld => ?_)
          clear hK K
          try simp only [Act.put, List.setIfInBounds_toArray, List.set_cons_zero, List.set_cons_succ]
          refine wpAnyH_ready (rs := [10]) (by kernel_rfl) (by simp) (AllReadyH.cons (o := { dst := some 44, op := Op.call { callee := Callee.value (Operand.func 34), args := #[Operand.tmp 43], argTypes := #[64] }, type := 9, pos := "law.go:74", after := #[{ on := 9, ground := Ground.data }], guard := none }) rfl (fun K hK => ?_) AllReadyH.nil)
          (rw [if_pos (by rfl)]; go_wp2_with (go_at_call 34; (with_reducible refine (CV _).mono ?_); rintro e w6 ⟨rfl, hb6⟩; have hB6 : Below wr.heap.size wr w6 := below_via (by (repeat (with_reducible first | assumption | exact Below.refl _ _ | apply Below.al | apply Below.dr))) hb6; have hA6 : AgreeF (fun x => x ≠ w3.heap.size) wr w6 := AgreeF.of_below hB6; have hx6 := HXB.out.step hB6; have m0 := hx6.cell 0 0 rfl rfl; have m1 := hx6.cell 0 1 rfl rfl; have m2 := hx6.cell 0 2 rfl rfl; have m3 := hx6.cell 0 3 rfl rfl; have m4 := hx6.cell 0 4 rfl rfl))
          refine hK.out _ _ (by (repeat (with_reducible first | assumption | exact AgreeF.refl _ | apply AgreeF.al | apply AgreeF.dr | apply AgreeF.st))) (fun hHeld => ?_)
          clear hK K
          try simp only [Act.put, List.setIfInBounds_toArray, List.set_cons_zero, List.set_cons_succ]
          refine wpAnyH_ready (rs := [11]) (by kernel_rfl) (by simp) (AllReadyH.cons (o := { dst := some 45, op := Op.call { callee := Callee.value (Operand.func 33), args := #[Operand.tmp 34, Operand.tmp 39, Operand.tmp 44], argTypes := #[33, 9, 9] }, type := 33, pos := "law.go:74", after := #[{ on := 0, ground := Ground.data }, { on := 5, ground := Ground.data }, { on := 10, ground := Ground.data }, { on := 10, ground := Ground.chain }], guard := none }) rfl (fun K hK => ?_) AllReadyH.nil)
          (rw [if_pos (by rfl)]; go_wp2_with (go_at_call 33; (with_reducible refine (CP _ ?_).mono ?_); (focus (repeat (with_reducible first | assumption | exact Below.refl _ _ | apply Below.al | apply Below.dr))); rintro e w9 hq9; obtain ⟨M, cs9, hM9, rfl, hn9, hw9, hE9, hb9⟩ := hq9; obtain ⟨j1, j2, j3, j4, j5, j6, j7, j8, ecs9, _, _⟩ := hn9.words; subst ecs9; have HE9 := Lib.hid hE9; clear hE9; have hB9 : Below wr.heap.size wr w9 := below_via (by (repeat (with_reducible first | assumption | exact Below.refl _ _ | apply Below.al | apply Below.dr))) hb9; have hA9 : AgreeF (fun x => x ≠ w3.heap.size) wr w9 := AgreeF.of_below hB9; have hx9 := HXB.out.step hB9; have z0 := hx9.cell 0 0 rfl rfl; have u0 := hx9.frozen 0 0 rfl; have z1 := hx9.cell 0 1 rfl rfl; have u1 := hx9.frozen 0 1 rfl; have z2 := hx9.cell 0 2 rfl rfl; have u2 := hx9.frozen 0 2 rfl; have z3 := hx9.cell 0 3 rfl rfl; have u3 := hx9.frozen 0 3 rfl; have z4 := hx9.cell 0 4 rfl rfl; have u4 := hx9.frozen 0 4 rfl))
          refine hK.out _ _ (by (repeat (with_reducible first | assumption | exact AgreeF.refl _ | apply AgreeF.al | apply AgreeF.dr | apply AgreeF.st))) (fun hHeld => ?_)
          clear hK K
          try simp only [Act.put, List.setIfInBounds_toArray, List.set_cons_zero, List.set_cons_succ]
          refine wpAnyH_ready (rs := [12]) (by kernel_rfl) (by simp) (AllReadyH.cons (o := { dst := none, op := Op.store 33 (Operand.tmp 7) (Operand.tmp 45), type := 0, pos := "law.go:74", after := #[{ on := 11, ground := Ground.data }, { on := 11, ground := Ground.chain }, { on := 0, ground := Ground.phase }, { on := 1, ground := Ground.phase }, { on := 2, ground := Ground.phase }, { on := 3, ground := Ground.phase }, { on := 4, ground := Ground.phase }, { on := 5, ground := Ground.phase }, { on := 6, ground := Ground.phase }, { on := 7, ground := Ground.phase }, { on := 8, ground := Ground.phase }, { on := 9, ground := Ground.phase }, { on := 10, ground := Ground.phase }, { on := 11, ground := Ground.phase }], guard := none }) rfl (fun K hK => ?_) AllReadyH.nil)
          (rw [if_pos (by rfl)]; go_wp2_with (fail))
          refine hK.out _ _ (by (repeat (with_reducible first | assumption | exact AgreeF.refl _ | apply AgreeF.al | apply AgreeF.dr | apply AgreeF.st))) (fun hHeld => ?_)
          clear hK K
          try simp only [Act.put, List.setIfInBounds_toArray, List.set_cons_zero, List.set_cons_succ]
          refine wpAnyH_done (by kernel_rfl) ?_ _
          refine NoPanic.normal ?_
          go_wp2_with fail
          go_meet
          have hA := PutStay.mk (B := w5.heap.size + 1) (w := w) (wr := wr) hx9 hn9 (hGB _ (by (repeat (with_reducible first | assumption | exact Below.refl _ _ | apply Below.al | apply Below.dr)))) hBB hw9 hM9 HE9.out hA9 (HBW.out.trans (hB9.mono HBW.out.size)) hle
          unfold set5 at hA
          with_reducible exact hA
        · (rw [if_pos (by rfl)]; go_wp2_with (go_at_call 34; (with_reducible refine (CV _).mono ?_); rintro e w6 ⟨rfl, hb6⟩; have hB6 : Below wr.heap.size wr w6 := below_via (by (repeat (with_reducible first | assumption | exact Below.refl _ _ | apply Below.al | apply Below.dr))) hb6; have hA6 : AgreeF (fun x => x ≠ w3.heap.size) wr w6 := AgreeF.of_below hB6; have hx6 := HXB.out.step hB6; have m0 := hx6.cell 0 0 rfl rfl; have m1 := hx6.cell 0 1 rfl rfl; have m2 := hx6.cell 0 2 rfl rfl; have m3 := hx6.cell 0 3 rfl rfl; have m4 := hx6.cell 0 4 rfl rfl))
          refine hK.out _ _ (by (repeat (with_reducible first | assumption | exact AgreeF.refl _ | apply AgreeF.al | apply AgreeF.dr | apply AgreeF.st))) (fun hHeld => ?_)
          clear hK K
          try simp only [Act.put, List.setIfInBounds_toArray, List.set_cons_zero, List.set_cons_succ]
          refine wpAnyH_ready (rs := [0]) (by kernel_rfl) (by simp) (AllReadyH.cons (o := { dst := some 34, op := Op.load 33 (Operand.tmp 7), type := 33, pos := "law.go:74", after := #[], guard := none }) rfl (fun K hK => ?_) AllReadyH.nil)
          (rw [if_pos (by rfl)]; go_wp2_with (fail))
          refine hK.out _ _ (by (repeat (with_reducible first | assumption | exact AgreeF.refl _ | apply AgreeF.al | apply AgreeF.dr | apply AgreeF.st))) (fun hHeld => ?_)
          clear hK K
          try simp only [Act.put, List.setIfInBounds_toArray, List.set_cons_zero, List.set_cons_succ]
          refine wpAnyH_ready (rs := [11]) (by kernel_rfl) (by simp) (AllReadyH.cons (o := { dst := some 45, op := Op.call { callee := Callee.value (Operand.func 33), args := #[Operand.tmp 34, Operand.tmp 39, Operand.tmp 44], argTypes := #[33, 9, 9] }, type := 33, pos := "law.go:74", after := #[{ on := 0, ground := Ground.data }, { on := 5, ground := Ground.data }, { on := 10, ground := Ground.data }, { on := 10, ground := Ground.chain }], guard := none }) rfl (fun K hK => ?_) AllReadyH.nil)
          (rw [if_pos (by rfl)]; go_wp2_with (go_at_call 33; (with_reducible refine (CP _ ?_).mono ?_); (focus (repeat (with_reducible first | assumption | exact Below.refl _ _ | apply Below.al | apply Below.dr))); rintro e w9 hq9; obtain ⟨M, cs9, hM9, rfl, hn9, hw9, hE9, hb9⟩ := hq9; obtain ⟨j1, j2, j3, j4, j5, j6, j7, j8, ecs9, _, _⟩ := hn9.words; subst ecs9; have HE9 := Lib.hid hE9; clear hE9; have hB9 : Below wr.heap.size wr w9 := below_via (by (repeat (with_reducible first | assumption | exact Below.refl _ _ | apply Below.al | apply Below.dr))) hb9; have hA9 : AgreeF (fun x => x ≠ w3.heap.size) wr w9 := AgreeF.of_below hB9; have hx9 := HXB.out.step hB9; have z0 := hx9.cell 0 0 rfl rfl; have u0 := hx9.frozen 0 0 rfl; have z1 := hx9.cell 0 1 rfl rfl; have u1 := hx9.frozen 0 1 rfl; have z2 := hx9.cell 0 2 rfl rfl; have u2 := hx9.frozen 0 2 rfl; have z3 := hx9.cell 0 3 rfl rfl; have u3 := hx9.frozen 0 3 rfl; have z4 := hx9.cell 0 4 rfl rfl; have u4 := hx9.frozen 0 4 rfl))
          refine hK.out _ _ (by (repeat (with_reducible first | assumption | exact AgreeF.refl _ | apply AgreeF.al | apply AgreeF.dr | apply AgreeF.st))) (fun hHeld => ?_)
          clear hK K
          try simp only [Act.put, List.setIfInBounds_toArray, List.set_cons_zero, List.set_cons_succ]
          refine wpAnyH_ready (rs := [12]) (by kernel_rfl) (by simp) (AllReadyH.cons (o := { dst := none, op := Op.store 33 (Operand.tmp 7) (Operand.tmp 45), type := 0, pos := "law.go:74", after := #[{ on := 11, ground := Ground.data }, { on := 11, ground := Ground.chain }, { on := 0, ground := Ground.phase }, { on := 1, ground := Ground.phase }, { on := 2, ground := Ground.phase }, { on := 3, ground := Ground.phase }, { on := 4, ground := Ground.phase }, { on := 5, ground := Ground.phase }, { on := 6, ground := Ground.phase }, { on := 7, ground := Ground.phase }, { on := 8, ground := Ground.phase }, { on := 9, ground := Ground.phase }, { on := 10, ground := Ground.phase }, { on := 11, ground := Ground.phase }], guard := none }) rfl (fun K hK => ?_) AllReadyH.nil)
          (rw [if_pos (by rfl)]; go_wp2_with (fail))
          refine hK.out _ _ (by (repeat (with_reducible first | assumption | exact AgreeF.refl _ | apply AgreeF.al | apply AgreeF.dr | apply AgreeF.st))) (fun hHeld => ?_)
          clear hK K
          try simp only [Act.put, List.setIfInBounds_toArray, List.set_cons_zero, List.set_cons_succ]
          refine wpAnyH_done (by kernel_rfl) ?_ _
          refine NoPanic.normal ?_
          go_wp2_with fail
          go_meet
          have hA := PutStay.mk (B := w5.heap.size + 1) (w := w) (wr := wr) hx9 hn9 (hGB _ (by (repeat (with_reducible first | assumption | exact Below.refl _ _ | apply Below.al | apply Below.dr)))) hBB hw9 hM9 HE9.out hA9 (HBW.out.trans (hB9.mono HBW.out.size)) hle
          unfold set5 at hA
          with_reducible exact hA
      case rest =>
      obtain ⟨wo, hwo⟩ : ∃ x, wc = x := ⟨_, rfl⟩
      subst hwo
      obtain ⟨M, hbx, hM, hEM, hA, hbw⟩ := hcut
      have hrc := HRB.out.agree hA (fun x hx => by omega) (by show w5.heap.size ≠ w3.heap.size; omega)
      have hwM : Whole M T := by obtain ⟨_, _, _, _, _, _, _, _, _, _, _, _, _, h⟩ := hbx; exact h
      obtain ⟨p', l', a', m', d', hx', hr'⟩ := hrc
      have hx8 := hx'.lt 0 rfl
      have hblc := Nat.lt_of_lt_of_le hbl hbw.size
      have CRc := fun W hW => CR wc W M p' l' a' m' d' hr' hwM hW hx8
      have HBOX := Lib.hid hbx
      have HXR := Lib.hid hx'
      have HBC := Lib.hid hbw
      have hb := hbw
      have c0 := HC0.out
      have c1 := HC1.out
      have c2 := HC2.out
      clear l0 l1 l2 CP CR hGB hBB hle HRB hx' hr' hbx hbw hEM hA f0 f1 f2 f3 f4
      have l0 : ∀ W, AgreeF (fun x => x ≠ w5.heap.size) wc W → W.cell? ⟨bl, ol + i * 3, none⟩ = some (.string (strOf y.key)) := fun W hW => (hW.cell (by show bl ≠ w5.heap.size; omega) hblc).trans ((hb.cell (p := ⟨bl, ol + i * 3, none⟩) hbl).trans c0)
      have l1 : ∀ W, AgreeF (fun x => x ≠ w5.heap.size) wc W → W.cell? ⟨bl, ol + i * 3 + 1, none⟩ = some (.int .u8 (y.fill.toNat : Int)) := fun W hW => (hW.cell (by show bl ≠ w5.heap.size; omega) hblc).trans ((hb.cell (p := ⟨bl, ol + i * 3 + 1, none⟩) hbl).trans c1)
      have l2 : ∀ W, AgreeF (fun x => x ≠ w5.heap.size) wc W → W.cell? ⟨bl, ol + i * 3 + 2, none⟩ = some (.int .i64 (sz : Int)) := fun W hW => (hW.cell (by show bl ≠ w5.heap.size; omega) hblc).trans ((hb.cell (p := ⟨bl, ol + i * 3 + 2, none⟩) hbl).trans c2)
      have f0 := HXR.out.cell 0 0 rfl rfl
      have f1 := HXR.out.cell 0 1 rfl rfl
      have f2 := HXR.out.cell 0 2 rfl rfl
      clear hb c0 c1 c2
      go_upto_region 13 with (fail)
      go_cut [] (fun wq => RStay (w5.heap.size + 1) w5.heap.size w wc M T wq)
      case first =>
        refine wp_region_noPanic ?_
        refine wp_region_held_drew (S := (fun W => AgreeF (fun x => x ≠ w5.heap.size) wc W)) (by kernel_rfl) (by (repeat (with_reducible first | assumption | exact AgreeF.refl _ | apply AgreeF.al | apply AgreeF.dr | apply AgreeF.st))) (fun hHeld => ?_)
        refine wpAnyH_take (i := 1) (oi := { dst := some 47, op := Op.move (Operand.tmp 0), type := 58, pos := "law.go:75", after := #[], guard := none }) (v := ?_) rfl (by kernel_rfl) (by kernel_rfl) (by kernel_rfl) (fun _ _ _ h => h) (Or.inl ⟨by rfl, ?_⟩) (by assumption) ?_
        rotate_left
        · (intro W hW; (try dsimp only at hW); go_simp <;> (with_reducible rfl))
        try simp only [Act.put, List.setIfInBounds_toArray, List.set_cons_zero, List.set_cons_succ]
        refine wpAnyH_take (i := 2) (oi := { dst := some 48, op := Op.move (Operand.tmp 9), type := 3, pos := "law.go:75", after := #[], guard := none }) (v := ?_) rfl (by kernel_rfl) (by kernel_rfl) (by kernel_rfl) (fun _ _ _ h => h) (Or.inl ⟨by rfl, ?_⟩) (by assumption) ?_
        rotate_left
        · (intro W hW; (try dsimp only at hW); go_simp <;> (with_reducible rfl))
        try simp only [Act.put, List.setIfInBounds_toArray, List.set_cons_zero, List.set_cons_succ]
        refine wpAnyH_take (i := 3) (oi := { dst := some 49, op := Op.indexAddr 58 (Operand.tmp 47) (Operand.tmp 48), type := 0, pos := "law.go:75", after := #[{ on := 1, ground := Ground.data }, { on := 2, ground := Ground.data }], guard := none }) (v := ?_) rfl (by kernel_rfl) (by kernel_rfl) (by kernel_rfl) (fun _ _ _ h => h) (Or.inl ⟨by rfl, ?_⟩) (by assumption) ?_
        rotate_left
        · (intro W hW; (try dsimp only at hW); go_simp <;> (with_reducible rfl))
        try simp only [Act.put, List.setIfInBounds_toArray, List.set_cons_zero, List.set_cons_succ]
        refine wpAnyH_take (i := 4) (oi := { dst := some 50, op := Op.fieldAddr 64 (Operand.tmp 49) 0, type := 0, pos := "law.go:75", after := #[{ on := 3, ground := Ground.data }], guard := none }) (v := ?_) rfl (by kernel_rfl) (by kernel_rfl) (by kernel_rfl) (fun _ _ _ h => h) (Or.inl ⟨by rfl, ?_⟩) (by assumption) ?_
        rotate_left
        · (intro W hW; (try dsimp only at hW); go_simp <;> (with_reducible rfl))
        try simp only [Act.put, List.setIfInBounds_toArray, List.set_cons_zero, List.set_cons_succ]
        refine wpAnyH_take (i := 5) (oi := { dst := some 51, op := Op.load 9 (Operand.tmp 50), type := 9, pos := "law.go:75", after := #[{ on := 4, ground := Ground.data }], guard := none }) (v := ?_) rfl (by kernel_rfl) (by kernel_rfl) (by kernel_rfl) (fun _ _ _ h => h) (Or.inl ⟨by rfl, ?_⟩) (by assumption) ?_
        rotate_left
        · (intro W hW; (try dsimp only at hW); go_simp <;> (with_reducible rfl))
        try simp only [Act.put, List.setIfInBounds_toArray, List.set_cons_zero, List.set_cons_succ]
        refine wpAnyH_take (i := 6) (oi := { dst := some 52, op := Op.move (Operand.tmp 0), type := 58, pos := "law.go:75", after := #[], guard := none }) (v := ?_) rfl (by kernel_rfl) (by kernel_rfl) (by kernel_rfl) (fun _ _ _ h => h) (Or.inl ⟨by rfl, ?_⟩) (by assumption) ?_
        rotate_left
        · (intro W hW; (try dsimp only at hW); go_simp <;> (with_reducible rfl))
        try simp only [Act.put, List.setIfInBounds_toArray, List.set_cons_zero, List.set_cons_succ]
        refine wpAnyH_take (i := 7) (oi := { dst := some 53, op := Op.move (Operand.tmp 9), type := 3, pos := "law.go:75", after := #[], guard := none }) (v := ?_) rfl (by kernel_rfl) (by kernel_rfl) (by kernel_rfl) (fun _ _ _ h => h) (Or.inl ⟨by rfl, ?_⟩) (by assumption) ?_
        rotate_left
        · (intro W hW; (try dsimp only at hW); go_simp <;> (with_reducible rfl))
        try simp only [Act.put, List.setIfInBounds_toArray, List.set_cons_zero, List.set_cons_succ]
        refine wpAnyH_take (i := 8) (oi := { dst := some 54, op := Op.indexAddr 58 (Operand.tmp 52) (Operand.tmp 53), type := 0, pos := "law.go:75", after := #[{ on := 6, ground := Ground.data }, { on := 7, ground := Ground.data }], guard := none }) (v := ?_) rfl (by kernel_rfl) (by kernel_rfl) (by kernel_rfl) (fun _ _ _ h => h) (Or.inl ⟨by rfl, ?_⟩) (by assumption) ?_
        rotate_left
        · (intro W hW; (try dsimp only at hW); go_simp <;> (with_reducible rfl))
        try simp only [Act.put, List.setIfInBounds_toArray, List.set_cons_zero, List.set_cons_succ]
        refine wpAnyH_take (i := 9) (oi := { dst := some 55, op := Op.load 64 (Operand.tmp 54), type := 64, pos := "law.go:75", after := #[{ on := 8, ground := Ground.data }], guard := none }) (v := ?_) rfl (by kernel_rfl) (by kernel_rfl) (by kernel_rfl) (fun _ _ _ h => h) (Or.inl ⟨by rfl, ?_⟩) (by assumption) ?_
        rotate_left
        · (intro W hW; (try dsimp only at hW); go_simp <;> (with_reducible rfl))
        try simp only [Act.put, List.setIfInBounds_toArray, List.set_cons_zero, List.set_cons_succ]
        refine wpAnyH_ready (rs := [0, 10]) (by kernel_rfl) (by simp) (AllReadyH.cons (o := { dst := some 46, op := Op.load 26 (Operand.tmp 8), type := 26, pos := "law.go:75", after := #[], guard := none }) rfl (fun K hK => ?_) (AllReadyH.cons (o := { dst := some 56, op := Op.call { callee := Callee.value (Operand.func 34), args := #[Operand.tmp 55], argTypes := #[64] }, type := 9, pos := "law.go:75", after := #[{ on := 9, ground := Ground.data }], guard := none }) rfl (fun K hK => ?_) AllReadyH.nil))
        · (rw [if_pos (by rfl)]; go_wp2_with (fail))
          refine hK.out _ _ (by (repeat (with_reducible first | assumption | exact AgreeF.refl _ | apply AgreeF.al | apply AgreeF.dr | apply AgreeF.st))) (fun hHeld => ?_)
          clear hK K
          try simp only [Act.put, List.setIfInBounds_toArray, List.set_cons_zero, List.set_cons_succ]
          refine wpAnyH_ready (rs := [10]) (by kernel_rfl) (by simp) (AllReadyH.cons (o := { dst := some 56, op := Op.call { callee := Callee.value (Operand.func 34), args := #[Operand.tmp 55], argTypes := #[64] }, type := 9, pos := "law.go:75", after := #[{ on := 9, ground := Ground.data }], guard := none }) rfl (fun K hK => ?_) AllReadyH.nil)
          (rw [if_pos (by rfl)]; go_wp2_with (go_at_call 34; (with_reducible refine (CV _).mono ?_); rintro e w6 ⟨rfl, hb6⟩; have hB6 : Below wc.heap.size wc w6 := below_via (by (repeat (with_reducible first | assumption | exact Below.refl _ _ | apply Below.al | apply Below.dr))) hb6; have hA6 : AgreeF (fun x => x ≠ w5.heap.size) wc w6 := AgreeF.of_below hB6; have hx6 := HXR.out.step hB6; have m0 := hx6.cell 0 0 rfl rfl; have m1 := hx6.cell 0 1 rfl rfl; have m2 := hx6.cell 0 2 rfl rfl))
          refine hK.out _ _ (by (repeat (with_reducible first | assumption | exact AgreeF.refl _ | apply AgreeF.al | apply AgreeF.dr | apply AgreeF.st))) (fun hHeld => ?_)
          clear hK K
          try simp only [Act.put, List.setIfInBounds_toArray, List.set_cons_zero, List.set_cons_succ]
          refine wpAnyH_ready (rs := [11]) (by kernel_rfl) (by simp) (AllReadyH.cons (o := { dst := some 57, op := Op.call { callee := Callee.value (Operand.func 35), args := #[Operand.tmp 46, Operand.tmp 51, Operand.tmp 56], argTypes := #[26, 9, 9] }, type := 26, pos := "law.go:75", after := #[{ on := 0, ground := Ground.data }, { on := 5, ground := Ground.data }, { on := 10, ground := Ground.data }, { on := 10, ground := Ground.chain }], guard := none }) rfl (fun K hK => ?_) AllReadyH.nil)
          (rw [if_pos (by rfl)]; go_wp2_with (go_at_call 35; (with_reducible refine (CRc _ ?_).mono ?_); (focus (repeat (with_reducible first | assumption | exact Below.refl _ _ | apply Below.al | apply Below.dr))); rintro e w9 ⟨p9, l9, a9, m9, d9, rfl, hn9, hb9⟩; have hB9 : Below wc.heap.size wc w9 := below_via (by (repeat (with_reducible first | assumption | exact Below.refl _ _ | apply Below.al | apply Below.dr))) hb9; have hA9 : AgreeF (fun x => x ≠ w5.heap.size) wc w9 := AgreeF.of_below hB9; have hx9 := HXR.out.step hB9; have z0 := hx9.cell 0 0 rfl rfl; have u0 := hx9.frozen 0 0 rfl; have z1 := hx9.cell 0 1 rfl rfl; have u1 := hx9.frozen 0 1 rfl; have z2 := hx9.cell 0 2 rfl rfl; have u2 := hx9.frozen 0 2 rfl))
          refine hK.out _ _ (by (repeat (with_reducible first | assumption | exact AgreeF.refl _ | apply AgreeF.al | apply AgreeF.dr | apply AgreeF.st))) (fun hHeld => ?_)
          clear hK K
          try simp only [Act.put, List.setIfInBounds_toArray, List.set_cons_zero, List.set_cons_succ]
          refine wpAnyH_ready (rs := [12]) (by kernel_rfl) (by simp) (AllReadyH.cons (o := { dst := none, op := Op.store 26 (Operand.tmp 8) (Operand.tmp 57), type := 0, pos := "law.go:75", after := #[{ on := 11, ground := Ground.data }, { on := 11, ground := Ground.chain }, { on := 0, ground := Ground.phase }, { on := 1, ground := Ground.phase }, { on := 2, ground := Ground.phase }, { on := 3, ground := Ground.phase }, { on := 4, ground := Ground.phase }, { on := 5, ground := Ground.phase }, { on := 6, ground := Ground.phase }, { on := 7, ground := Ground.phase }, { on := 8, ground := Ground.phase }, { on := 9, ground := Ground.phase }, { on := 10, ground := Ground.phase }, { on := 11, ground := Ground.phase }], guard := none }) rfl (fun K hK => ?_) AllReadyH.nil)
          (rw [if_pos (by rfl)]; go_wp2_with (fail))
          refine hK.out _ _ (by (repeat (with_reducible first | assumption | exact AgreeF.refl _ | apply AgreeF.al | apply AgreeF.dr | apply AgreeF.st))) (fun hHeld => ?_)
          clear hK K
          try simp only [Act.put, List.setIfInBounds_toArray, List.set_cons_zero, List.set_cons_succ]
          refine wpAnyH_done (by kernel_rfl) ?_ _
          refine NoPanic.normal ?_
          go_wp2_with fail
          go_meet
          with_reducible exact RStay.mk hx9 hn9 (Nat.lt_succ_self _) hA9 (below_via HBC.out hB9) hz5
        · (rw [if_pos (by rfl)]; go_wp2_with (go_at_call 34; (with_reducible refine (CV _).mono ?_); rintro e w6 ⟨rfl, hb6⟩; have hB6 : Below wc.heap.size wc w6 := below_via (by (repeat (with_reducible first | assumption | exact Below.refl _ _ | apply Below.al | apply Below.dr))) hb6; have hA6 : AgreeF (fun x => x ≠ w5.heap.size) wc w6 := AgreeF.of_below hB6; have hx6 := HXR.out.step hB6; have m0 := hx6.cell 0 0 rfl rfl; have m1 := hx6.cell 0 1 rfl rfl; have m2 := hx6.cell 0 2 rfl rfl))
          refine hK.out _ _ (by (repeat (with_reducible first | assumption | exact AgreeF.refl _ | apply AgreeF.al | apply AgreeF.dr | apply AgreeF.st))) (fun hHeld => ?_)
          clear hK K
          try simp only [Act.put, List.setIfInBounds_toArray, List.set_cons_zero, List.set_cons_succ]
          refine wpAnyH_ready (rs := [0]) (by kernel_rfl) (by simp) (AllReadyH.cons (o := { dst := some 46, op := Op.load 26 (Operand.tmp 8), type := 26, pos := "law.go:75", after := #[], guard := none }) rfl (fun K hK => ?_) AllReadyH.nil)
          (rw [if_pos (by rfl)]; go_wp2_with (fail))
          refine hK.out _ _ (by (repeat (with_reducible first | assumption | exact AgreeF.refl _ | apply AgreeF.al | apply AgreeF.dr | apply AgreeF.st))) (fun hHeld => ?_)
          clear hK K
          try simp only [Act.put, List.setIfInBounds_toArray, List.set_cons_zero, List.set_cons_succ]
          refine wpAnyH_ready (rs := [11]) (by kernel_rfl) (by simp) (AllReadyH.cons (o := { dst := some 57, op := Op.call { callee := Callee.value (Operand.func 35), args := #[Operand.tmp 46, Operand.tmp 51, Operand.tmp 56], argTypes := #[26, 9, 9] }, type := 26, pos := "law.go:75", after := #[{ on := 0, ground := Ground.data }, { on := 5, ground := Ground.data }, { on := 10, ground := Ground.data }, { on := 10, ground := Ground.chain }], guard := none }) rfl (fun K hK => ?_) AllReadyH.nil)
          (rw [if_pos (by rfl)]; go_wp2_with (go_at_call 35; (with_reducible refine (CRc _ ?_).mono ?_); (focus (repeat (with_reducible first | assumption | exact Below.refl _ _ | apply Below.al | apply Below.dr))); rintro e w9 ⟨p9, l9, a9, m9, d9, rfl, hn9, hb9⟩; have hB9 : Below wc.heap.size wc w9 := below_via (by (repeat (with_reducible first | assumption | exact Below.refl _ _ | apply Below.al | apply Below.dr))) hb9; have hA9 : AgreeF (fun x => x ≠ w5.heap.size) wc w9 := AgreeF.of_below hB9; have hx9 := HXR.out.step hB9; have z0 := hx9.cell 0 0 rfl rfl; have u0 := hx9.frozen 0 0 rfl; have z1 := hx9.cell 0 1 rfl rfl; have u1 := hx9.frozen 0 1 rfl; have z2 := hx9.cell 0 2 rfl rfl; have u2 := hx9.frozen 0 2 rfl))
          refine hK.out _ _ (by (repeat (with_reducible first | assumption | exact AgreeF.refl _ | apply AgreeF.al | apply AgreeF.dr | apply AgreeF.st))) (fun hHeld => ?_)
          clear hK K
          try simp only [Act.put, List.setIfInBounds_toArray, List.set_cons_zero, List.set_cons_succ]
          refine wpAnyH_ready (rs := [12]) (by kernel_rfl) (by simp) (AllReadyH.cons (o := { dst := none, op := Op.store 26 (Operand.tmp 8) (Operand.tmp 57), type := 0, pos := "law.go:75", after := #[{ on := 11, ground := Ground.data }, { on := 11, ground := Ground.chain }, { on := 0, ground := Ground.phase }, { on := 1, ground := Ground.phase }, { on := 2, ground := Ground.phase }, { on := 3, ground := Ground.phase }, { on := 4, ground := Ground.phase }, { on := 5, ground := Ground.phase }, { on := 6, ground := Ground.phase }, { on := 7, ground := Ground.phase }, { on := 8, ground := Ground.phase }, { on := 9, ground := Ground.phase }, { on := 10, ground := Ground.phase }, { on := 11, ground := Ground.phase }], guard := none }) rfl (fun K hK => ?_) AllReadyH.nil)
          (rw [if_pos (by rfl)]; go_wp2_with (fail))
          refine hK.out _ _ (by (repeat (with_reducible first | assumption | exact AgreeF.refl _ | apply AgreeF.al | apply AgreeF.dr | apply AgreeF.st))) (fun hHeld => ?_)
          clear hK K
          try simp only [Act.put, List.setIfInBounds_toArray, List.set_cons_zero, List.set_cons_succ]
          refine wpAnyH_done (by kernel_rfl) ?_ _
          refine NoPanic.normal ?_
          go_wp2_with fail
          go_meet
          with_reducible exact RStay.mk hx9 hn9 (Nat.lt_succ_self _) hA9 (below_via HBC.out hB9) hz5
      case rest =>
      obtain ⟨hrx, hA, hbw⟩ := hcut
      have hbox := HBOX.out.agree hA (fun x hx => by omega) (by show w3.heap.size ≠ w5.heap.size; omega)
      have HBX := Lib.hid hbox
      have HRX := Lib.hid hrx
      have HBD := Lib.hid hbw
      obtain ⟨p, lf, a1, n1, c1', a2, n2, c2', a3, n3, c3, hx, hn, hw⟩ := hbox
      obtain ⟨p', l', a', m', d', hx', hr'⟩ := hrx
      have hl7 := hx.lt 0 rfl
      have hl8 := hx'.lt 0 rfl
      have CPL : ∀ W, Below wc.heap.size wc W → Calls Try.prog 37 #[.agg #[.int .i64 p, .bool lf, .slice a1 n1 c1', .slice a2 n2 c2', .slice a3 n3 c3]] W (RNodeTo (fun x => w5.heap.size + 1 ≤ x ∧ x < wc.heap.size) M W T) := fun W hW => plain15_any (fun b h => Nat.lt_of_lt_of_le h.2 hW.size) (hn.lt.below hW) hw.bnd
      have F7 : ∀ (j : Nat) (v : Value), [.int .i64 p, .bool lf, .slice a1 n1 c1', .slice a2 n2 c2', .slice a3 n3 c3][j]? = some v → ∀ W, Below wc.heap.size wc W → W.cell? ⟨w3.heap.size, j, none⟩ = some v := fun j v hv W hW => (hW.cell (p := ⟨w3.heap.size, j, none⟩) hl7).trans (hx.cell 0 j rfl hv)
      have F8 : ∀ (j : Nat) (v : Value), [.int .i64 p', .bool l', .slice a' m' d'][j]? = some v → ∀ W, Below wc.heap.size wc W → W.cell? ⟨w5.heap.size, j, none⟩ = some v := fun j v hv W hW => (hW.cell (p := ⟨w5.heap.size, j, none⟩) hl8).trans (hx'.cell 0 j rfl hv)
      have f0 := F7 0 _ rfl
      have f1 := F7 1 _ rfl
      have f2 := F7 2 _ rfl
      have f3 := F7 3 _ rfl
      have f4 := F7 4 _ rfl
      have g0 := F8 0 _ rfl
      have g1 := F8 1 _ rfl
      have g2 := F8 2 _ rfl
      have HR' := Lib.hid hr'
      have hA00 : Below wc.heap.size wc wc.drew := Below.dr (Below.refl _ _)
      clear hx hx' hn hr' F7 F8 hA hbw l0 l1 l2 CV CRc HC0 HC1 HC2 HXR HBOX
      go_upto_region 14 with (fail)
      refine wp_region_noPanic ?_
      refine wp_region_held_drew (S := (fun W => Below wc.heap.size wc W)) (by kernel_rfl) (by (repeat (with_reducible first | assumption | exact Below.refl _ _ | apply Below.al | apply Below.dr))) (fun hHeld => ?_)
      refine wpAnyH_take (i := 0) (oi := { dst := some 58, op := Op.load 33 (Operand.tmp 7), type := 33, pos := "law.go:76", after := #[], guard := none }) (v := ?_) rfl (by kernel_rfl) (by kernel_rfl) (by kernel_rfl) (fun _ _ _ h => h) (Or.inl ⟨by rfl, ?_⟩) (by assumption) ?_
      rotate_left
      · (intro W hW; (try dsimp only at hW); go_simp <;> (with_reducible rfl))
      try simp only [Act.put, List.setIfInBounds_toArray, List.set_cons_zero, List.set_cons_succ]
      refine wpAnyH_take (i := 2) (oi := { dst := some 60, op := Op.load 26 (Operand.tmp 8), type := 26, pos := "law.go:76", after := #[], guard := none }) (v := ?_) rfl (by kernel_rfl) (by kernel_rfl) (by kernel_rfl) (fun _ _ _ h => h) (Or.inl ⟨by rfl, ?_⟩) (by assumption) ?_
      rotate_left
      · (intro W hW; (try dsimp only at hW); go_simp <;> (with_reducible rfl))
      try simp only [Act.put, List.setIfInBounds_toArray, List.set_cons_zero, List.set_cons_succ]
      refine wpAnyH_ready (rs := [1]) (by kernel_rfl) (by simp) (AllReadyH.cons (o := { dst := some 59, op := Op.call { callee := Callee.value (Operand.func 37), args := #[Operand.tmp 58], argTypes := #[33] }, type := 26, pos := "law.go:76", after := #[{ on := 0, ground := Ground.data }], guard := none }) rfl (fun K hK => ?_) AllReadyH.nil)
      (rw [if_pos (by rfl)]; go_simp; (with_reducible refine (CPL _ ?_).mono ?_); (focus (repeat (with_reducible first | assumption | exact Below.refl _ _ | apply Below.al | apply Below.dr))); rintro e w6 hq; obtain ⟨p6, l6, a6, m6, d6, rfl, hn6, hb6⟩ := hq.split; have hB6 : Below wc.heap.size wc w6 := below_via (a := wc) (by (repeat (with_reducible first | assumption | exact Below.refl _ _ | apply Below.al | apply Below.dr))) hb6; go_wp2_with (fail))
      refine hK.out _ _ (by (repeat (with_reducible first | assumption | exact Below.refl _ _ | apply Below.al | apply Below.dr))) (fun hHeld => ?_)
      clear hK K
      try simp only [Act.put, List.setIfInBounds_toArray, List.set_cons_zero, List.set_cons_succ]
      refine wpAnyH_ready (rs := [3]) (by kernel_rfl) (by simp) (AllReadyH.cons (o := { dst := some 61, op := Op.call { callee := Callee.value (Operand.func 36), args := #[Operand.tmp 59, Operand.tmp 60], argTypes := #[26, 26] }, type := 4, pos := "law.go:76", after := #[{ on := 1, ground := Ground.data }, { on := 2, ground := Ground.data }, { on := 1, ground := Ground.chain }], guard := none }) rfl (fun K hK => ?_) AllReadyH.nil)
      (rw [if_pos (by rfl)]; go_simp; (with_reducible refine (same_any hn6 (HR'.out.below hB6)).mono ?_); rintro e w7 ⟨rfl, hb7⟩; have hB7 : Below wc.heap.size wc w7 := below_via (a := wc) hB6 hb7; go_wp2_with (fail))
      refine hK.out _ _ (by (repeat (with_reducible first | assumption | exact Below.refl _ _ | apply Below.al | apply Below.dr))) (fun hHeld => ?_)
      clear hK K
      try simp only [Act.put, List.setIfInBounds_toArray, List.set_cons_zero, List.set_cons_succ]
      refine wpAnyH_take (i := 4) (oi := { dst := some 62, op := Op.unOp UnOp.not 4 (Operand.tmp 61), type := 4, pos := "law.go:76", after := #[{ on := 3, ground := Ground.data }], guard := none }) (v := ?_) rfl (by kernel_rfl) (by kernel_rfl) (by kernel_rfl) (fun _ _ _ h => h) (Or.inl ⟨by rfl, ?_⟩) (by assumption) ?_
      rotate_left
      · (intro W hW; (try dsimp only at hW); go_simp <;> (with_reducible rfl))
      try simp only [Act.put, List.setIfInBounds_toArray, List.set_cons_zero, List.set_cons_succ]
      refine wpAnyH_done (by kernel_rfl) ?_ _
      refine NoPanic.normal ?_
      go_wp2_with fail
      go_roundw
      case rel => exact ⟨i + 1, M, T, hlt, by go_num, HBX.out.below hB7, HRX.out.below hB7, by omega, below_via HBD.out hB7⟩
      case measure => simp [intOf]; omega
    · obtain rfl : i = n := by omega
      have hlt' : decide ((i : Int) < (i : Int)) = false := by simp
      obtain ⟨p, lf, a1, n1, c1', a2, n2, c2', a3, n3, c3, hx, hn, hw⟩ := hbox
      obtain ⟨p', l', a', m', d', hx', hr'⟩ := hrb
      obtain ⟨R, hR⟩ : ∃ R, findT N t key = R := ⟨_, rfl⟩
      have CF : Calls Try.prog 28 #[.agg #[.int .i64 p, .bool lf, .slice a1 n1 c1', .slice a2 n2 c2', .slice a3 n3 c3], .string (strOf key)] wr (FoundPost wr R) := by
        have := tfind_any hn.toIn key (hw.find key)
        rwa [hR] at this
      have HX := Lib.hid hx
      have HX' := Lib.hid hx'
      have HN := Lib.hid hn
      have HW := Lib.hid hw
      have HRN := Lib.hid hr'
      have HBW := Lib.hid hb
      have HRR := Lib.hid hR
      have f0 := hx.cell 0 0 rfl rfl
      have f1 := hx.cell 0 1 rfl rfl
      have f2 := hx.cell 0 2 rfl rfl
      have f3 := hx.cell 0 3 rfl rfl
      have f4 := hx.cell 0 4 rfl rfl
      clear hx hx' hn hw hr' hb hR
      go_wp2_with fail
      refine CF.mono ?_
      rintro e w6 ⟨rfl, hb6⟩
      have CG : Calls Try.prog 38 #[.agg #[.int .i64 p', .bool l', .slice a' m' d'], .string (strOf key)] w6 (FoundPost w6 R) := by
        have := rfind_any key (HRN.out.below hb6) (HW.out.find key)
        rwa [HRR.out] at this
      have hx6 := HX'.out.step hb6
      have g0 := hx6.cell 0 0 rfl rfl
      have g1 := hx6.cell 0 1 rfl rfl
      have g2 := hx6.cell 0 2 rfl rfl
      have HB6 := Lib.hid hb6
      clear CF hx6 hb6 f0 f1 f2 f3 f4
      go_wp2_with fail
      refine CG.mono ?_
      rintro e w7 ⟨rfl, hb7⟩
      have h67 := below_via HB6.out hb7
      have CC : Calls Try.prog 39 #[.agg #[.int .i64 p, .bool lf, .slice a1 n1 c1', .slice a2 n2 c2', .slice a3 n3 c3]] w7 (fun e w' => e = .returned (.bool true) ∧ Below w7.heap.size w7 w') := by
        have := tcheck_any (HN.out.below h67).toIn HW.out.bnd (by omega)
        rwa [whole_check HW.out] at this
      have hx7 := HX.out.step h67
      have f0 := hx7.cell 0 0 rfl rfl
      have f1 := hx7.cell 0 1 rfl rfl
      have f2 := hx7.cell 0 2 rfl rfl
      have f3 := hx7.cell 0 3 rfl rfl
      have f4 := hx7.cell 0 4 rfl rfl
      obtain ⟨x, hxx⟩ : ∃ x, R.getD [] = x := ⟨_, rfl⟩
      obtain ⟨bo, hbo⟩ : ∃ x, R.isSome = x := ⟨_, rfl⟩
      simp only [hxx, hbo]
      have e1 : ((strOf x).toList == (strOf x).toList) = true := by simp
      have e2 : (bo == bo) = true := by simp
      have HB7 := Lib.hid (below_via HBW.out h67)
      clear CG hx7 hb7 h67 g0 g1 g2 hxx hbo
      go_wp2_with fail
      refine CC.mono ?_
      rintro e w8 ⟨rfl, hb8⟩
      have HB8 := Lib.hid (below_via HB7.out hb8)
      clear CC hb8
      go_wp2_with fail
      go_ret
      exact ⟨rfl, HB8.out⟩
end Go.Proofs.Ytemfnjlfcemehaa
