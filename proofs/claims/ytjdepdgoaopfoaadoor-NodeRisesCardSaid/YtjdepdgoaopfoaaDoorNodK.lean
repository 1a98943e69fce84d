/- The walks of the chapter on nodes: may a node be? -/
import Derived.Test.YtjdepdgoaopfoaaDoorNodC
import Derived.IntWalk
namespace Go.Proofs.YtjdepdgoaopfoaaDoor
open Go.RowKit

theorem bytes_less : ∀ (x y : List UInt8), Op.bytesLess x y = decide (x < y)
  | [], [] => by simp [Op.bytesLess]
  | _ :: _, [] => by simp [Op.bytesLess]
  | [], _ :: _ => by simp [Op.bytesLess]
  | a :: x, b :: y => by
    rw [Op.bytesLess, bytes_less x y]
    simp only [List.cons_lt_cons_iff]
    by_cases h1 : a < b <;> by_cases h2 : a = b <;> by_cases h3 : x < y <;> simp [h1, h2, h3]
theorem run_leq (a b : List UInt8) (w : World) : (binOp .leq 9 (.string (strOf a)) (.string (strOf b))).run Tryd.prog w = .ok (.bool (kle a b)) w := by
  simp [binOp, Op.stringOp, strOf_toList, bytes_less, kle]
theorem cellN_len (leaf : Bool) (e : En) : (cellN leaf e).length ≤ 261 + e.v.data.length := by
  rw [cellN, List.length_append, textF_length, encV_length]
  cases leaf <;> cases e.v.far <;> simp <;> omega
theorem cellsN_lens (leaf : Bool) (M : Nat) : ∀ l : List En, (∀ e ∈ l, e.v.data.length ≤ M) → lens (cellsN leaf l) ≤ l.length * (261 + M)
  | [], _ => by simp [cellsN, lens]
  | e :: l, h => by
    have ih := cellsN_lens leaf M l (fun x hx => h x (by simp [hx]))
    have h1 := cellN_len leaf e
    have h2 := h e (by simp)
    have e1 : lens (cellsN leaf (e :: l)) = (cellN leaf e).length + lens (cellsN leaf l) := by simp [cellsN, lens]
    rw [e1, List.length_cons, Nat.add_mul]
    omega
/-- A row of small entries. -/
def SmE (l : List En) : Prop := ∀ e ∈ l, e.key.length ≤ 1000000 ∧ e.v.data.length ≤ 1000000
theorem nodeB_step {leaf : Bool} {l : List En} {k : Nat} (hk : k < l.length) (h : stepN leaf l k = false) : nodeB leaf l = false := by
  have h1 : upN leaf l (k + 1) = false := by rw [upN_succ, h, Bool.and_false]
  rw [nodeB, upN_mono leaf l h1 hk]; rfl

set_option maxRecDepth 100000 in
set_option maxHeartbeats 8000000 in
theorem check_leaf (a : Option Addr) (len cap : Nat) (l : List En) (w : World) (h : Ents w a len cap l) (hlen : len ≤ 65536) (hd : SmE l) :
    Calls Tryd.prog 34 #[.agg #[.bool true, .slice a len cap]] w fun e w' => e = .returned (.bool (nodeB true l)) ∧ Below w.heap.size w w' := by
  have hB := below_one w (.cells #[.bool true, .slice a len cap] 52)
  have BX := (Boxes.nil w).alloc #[.bool true, .slice a len cap] 52 rfl
  have SH := fun W => shapes_any W
  have KI : ∀ W, Calls Tryd.prog 55 #[.agg #[.bool true, .slice a len cap]] W fun e w' => e = .returned (.int .u8 1) ∧ Below W.heap.size W w' := fun W => kind_any true (.slice a len cap) W
  go_enter Tryd.func34, Tryd.ntmps34
  go_wp2_with fail
  have h1 := h.below (Nat.le_refl _) hB
  generalize w.alloc _ = W1 at *
  have c0 : ∀ W, Below W1.heap.size W1 W → W.cell? ⟨w.heap.size, 0, none⟩ = some (.bool true) := fun W hW => (BX.step hW).cell 0 0 rfl rfl
  have c1 : ∀ W, Below W1.heap.size W1 W → W.cell? ⟨w.heap.size, 1, none⟩ = some (.slice a len cap) := fun W hW => (BX.step hW).cell 0 1 rfl rfl
  have hC : Below W1.heap.size W1 W1.drew := (Below.refl _ _).drew
  go_upto_region 1 with (fail)
  go_cut [3] (fun s wx => s = .iface 125 (.agg #[]) ∧ Below W1.heap.size W1 wx)
  case first =>
    go_region_with (first | (go_at_call 56; (with_reducible refine (SH _).mono ?_); rintro e w2 ⟨bs, rfl, hs2, hb2⟩; have hC2 := hC.trans (hb2.mono hC.size); have e0 := c0 _ hC2; have e1 := c1 _ hC2) | (go_at_call 55; (with_reducible refine (KI _).mono ?_); rintro e w3 ⟨rfl, hb3⟩; have hC3 := hC2.trans (hb3.mono hC2.size); have q3 := (hs2.step hb3).cell 0 1 rfl rfl))
    all_goals
      go_wp2_with fail
      go_meet
      exact ⟨rfl, hC3⟩
  case rest =>
  obtain ⟨rfl, hC4⟩ := hcut
  have hb := below_then hB hC4
  have BX := BX.step hC4
  have hll := Lib.hid h1.len
  clear c0 c1 hC hC4 h1 hB SH KI
  have d1 := BX.cell 0 1 rfl rfl
  go_wp2_with fail
  clear d1
  have HI := Lib.hid hd
  clear hd
  have HB := Lib.hid hb
  clear hb
  have HX := Lib.hid BX
  clear BX
  go_loopw [14] (fun i wr => ∃ (k : Nat), k ≤ len ∧ i = .int .i64 k ∧ upN true l k = true ∧ Boxes wr [(w.heap.size, [.bool true, .slice a len cap])] ∧ Below w.heap.size w wr) (fun i _ => len - (intOf i).toNat)
  case atStart => exact ⟨0, Nat.zero_le _, rfl, rfl, HX.out, HB.out⟩
  case round =>
    obtain ⟨k, hk, rfl, hup, BX, hbw⟩ := hrel
    have hkl : k < 9223372036854775807 := by omega
    by_cases hlt : k < len
    · obtain ⟨b, off, e, rfl, hbb, hy, e0, e1, e2, e3, e4⟩ := (h.below (Nat.le_refl _) hbw).at hlt
      have B6 := BX.alloc #[.string (strOf e.key), .string (strOf e.v.data), .bool e.v.far, .int .i64 e.v.size, .int .i64 e.v.page] 76 rfl
      have hb6 := below_one wr (.cells #[.string (strOf e.key), .string (strOf e.v.data), .bool e.v.far, .int .i64 e.v.size, .int .i64 e.v.page] 76)
      have hbw6 := below_then hbw hb6
      have hr6 := (h.below (Nat.le_refl _) hbw6)
      obtain ⟨hl1, hl2⟩ := HI.out e (List.mem_of_getElem? hy)
      have M1 : ∀ W, Calls Tryd.prog 104 #[.agg #[], .int .i64 (k : Int), .agg #[.string (strOf e.key), .string (strOf e.v.data), .bool e.v.far, .int .i64 e.v.size, .int .i64 e.v.page]] W fun en w' => en = .returned (.bool (mayN true k e)) ∧ Below W.heap.size W w' := fun W => mayL_any e k W (by omega)
      have hmp := m_mayL
      have hgd : l[k]?.getD ⟨[], Vv.zero⟩ = e := by rw [hy]; rfl
      have hst : stepN true l k = (mayN true k e && !(decide (0 < k) && kle e.key (l[k - 1]?.getD ⟨[], Vv.zero⟩).key)) := by rw [stepN, hgd]
      have hus : upN true l (k + 1) = stepN true l k := by rw [upN_succ, hup, Bool.true_and]
      have HST := Lib.hid hst
      have HUS := Lib.hid hus
      have HGD := Lib.hid hgd
      have hsize : b < wr.heap.size := hbb
      clear hb6 hst hus hup hgd BX hbb
      cases hm : mayN true k e with
      | false =>
        rw [hm] at M1
        have HF : Hid (nodeB true l = false) := Lib.hid (nodeB_step (by rw [hll.out]; exact hlt) (by rw [HST.out, hm]; rfl))
        clear hm
        go_wp2_with fail
        generalize wr.heap.size = bx at *
        generalize wr.alloc _ = W6 at *
        have c0 : ∀ W, Below W6.heap.size W6 W → W.cell? ⟨bx, 0, none⟩ = some (.string (strOf e.key)) := fun W hW => (B6.step hW).cell 0 0 rfl rfl
        have c1 : ∀ W, Below W6.heap.size W6 W → W.cell? ⟨bx, 1, none⟩ = some (.string (strOf e.v.data)) := fun W hW => (B6.step hW).cell 0 1 rfl rfl
        have c2 : ∀ W, Below W6.heap.size W6 W → W.cell? ⟨bx, 2, none⟩ = some (.bool e.v.far) := fun W hW => (B6.step hW).cell 0 2 rfl rfl
        have c3 : ∀ W, Below W6.heap.size W6 W → W.cell? ⟨bx, 3, none⟩ = some (.int .i64 e.v.size) := fun W hW => (B6.step hW).cell 0 3 rfl rfl
        have c4 : ∀ W, Below W6.heap.size W6 W → W.cell? ⟨bx, 4, none⟩ = some (.int .i64 e.v.page) := fun W hW => (B6.step hW).cell 0 4 rfl rfl
        have hC : Below W6.heap.size W6 W6.drew := (Below.refl _ _).drew
        refine wp_region_noPanic ?_
        refine wp_region_held_drew (S := fun W => Below W6.heap.size W6 W) (by kernel_rfl) (by with_reducible assumption) (fun hHeld => ?_)
        refine wpAnyH_take (i := 0) (oi := { dst := some 19, op := Op.move (Operand.tmp 3), type := 111, pos := "node.go:130", after := #[], guard := none }) (v := ?_) rfl (by kernel_rfl) (by kernel_rfl) (by kernel_rfl) (fun _ _ _ h => h) (Or.inl ⟨by rfl, ?_⟩) (by assumption) ?_
        rotate_left
        · (intro W hW; (try dsimp only at hW); go_simp <;> (with_reducible rfl))
        try simp only [Act.put, List.setIfInBounds_toArray, List.set_cons_zero, List.set_cons_succ]
        refine wpAnyH_take (i := 1) (oi := { dst := some 20, op := Op.move (Operand.tmp 4), type := 3, pos := "node.go:130", after := #[], guard := none }) (v := ?_) rfl (by kernel_rfl) (by kernel_rfl) (by kernel_rfl) (fun _ _ _ h => h) (Or.inl ⟨by rfl, ?_⟩) (by assumption) ?_
        rotate_left
        · (intro W hW; (try dsimp only at hW); go_simp <;> (with_reducible rfl))
        try simp only [Act.put, List.setIfInBounds_toArray, List.set_cons_zero, List.set_cons_succ]
        refine wpAnyH_take (i := 2) (oi := { dst := some 21, op := Op.load 76 (Operand.tmp 5), type := 76, pos := "node.go:130", after := #[], guard := none }) (v := ?_) rfl (by kernel_rfl) (by kernel_rfl) (by kernel_rfl) (fun _ _ _ h => h) (Or.inl ⟨by rfl, ?_⟩) (by assumption) ?_
        rotate_left
        · (intro W hW; (try dsimp only at hW); go_simp <;> (with_reducible rfl))
        try simp only [Act.put, List.setIfInBounds_toArray, List.set_cons_zero, List.set_cons_succ]
        refine wpAnyH_ready (rs := [3]) (by kernel_rfl) (by simp) (AllReadyH.cons (o := { dst := some 22, op := Op.call { callee := Callee.invoke (Operand.tmp 19) "jalousie/node.may", args := #[Operand.tmp 20, Operand.tmp 21], argTypes := #[3, 76] }, type := 4, pos := "node.go:130", after := #[{ on := 0, ground := Ground.data }, { on := 1, ground := Ground.data }, { on := 2, ground := Ground.data }], guard := none }) rfl (fun K hK => ?_) AllReadyH.nil)
        rw [if_pos (by rfl)]
        go_wp2_with (first | (go_at_call 104; (with_reducible refine (M1 _).mono ?_); rintro e1 w7 ⟨rfl, hb7⟩; have hC7 := hC.trans (hb7.mono hC.size)))
        refine hK.out _ _ (by with_reducible assumption) (fun hHeld => ?_)
        clear hK K
        try simp only [Act.put, List.setIfInBounds_toArray, List.set_cons_zero, List.set_cons_succ]
        refine wpAnyH_take (i := 4) (oi := { dst := some 23, op := Op.unOp UnOp.not 4 (Operand.tmp 22), type := 4, pos := "node.go:130", after := #[{ on := 3, ground := Ground.data }], guard := none }) (v := ?_) rfl (by kernel_rfl) (by kernel_rfl) (by kernel_rfl) (fun _ _ _ h => h) (Or.inl ⟨by rfl, ?_⟩) (by assumption) ?_
        rotate_left
        · (intro W hW; (try dsimp only at hW); go_simp <;> (with_reducible rfl))
        try simp only [Act.put, List.setIfInBounds_toArray, List.set_cons_zero, List.set_cons_succ]
        refine wpAnyH_take (i := 5) (oi := { dst := some 24, op := Op.move (Operand.tmp 23), type := 4, pos := "node.go:130", after := #[{ on := 4, ground := Ground.data }, { on := 3, ground := Ground.chain }], guard := none }) (v := ?_) rfl (by kernel_rfl) (by kernel_rfl) (by kernel_rfl) (fun _ _ _ h => h) (Or.inl ⟨by rfl, ?_⟩) (by assumption) ?_
        rotate_left
        · (intro W hW; (try dsimp only at hW); go_simp <;> (with_reducible rfl))
        try simp only [Act.put, List.setIfInBounds_toArray, List.set_cons_zero, List.set_cons_succ]
        refine wpAnyH_take (i := 6) (oi := { dst := some 25, op := Op.move (Operand.tmp 4), type := 3, pos := "node.go:130", after := #[{ on := 5, ground := Ground.guard }], guard := some (5, false) }) rfl (by kernel_rfl) (by kernel_rfl) (by kernel_rfl) (fun _ _ _ h => h) (Or.inr ⟨by rfl, rfl⟩) (by assumption) ?_
        try simp only [Act.put, List.setIfInBounds_toArray, List.set_cons_zero, List.set_cons_succ]
        refine wpAnyH_take (i := 7) (oi := { dst := some 26, op := Op.binOp BinOp.gtr 3 (Operand.tmp 25) (Operand.const (Value.int IntKind.i64 0)) 3, type := 4, pos := "node.go:130", after := #[{ on := 6, ground := Ground.data }, { on := 5, ground := Ground.guard }], guard := some (5, false) }) rfl (by kernel_rfl) (by kernel_rfl) (by kernel_rfl) (fun _ _ _ h => h) (Or.inr ⟨by rfl, rfl⟩) (by assumption) ?_
        try simp only [Act.put, List.setIfInBounds_toArray, List.set_cons_zero, List.set_cons_succ]
        refine wpAnyH_take (i := 8) (oi := { dst := some 27, op := Op.move (Operand.tmp 26), type := 4, pos := "node.go:130", after := #[{ on := 7, ground := Ground.data }, { on := 5, ground := Ground.chain }, { on := 5, ground := Ground.guard }], guard := some (5, false) }) rfl (by kernel_rfl) (by kernel_rfl) (by kernel_rfl) (fun _ _ _ h => h) (Or.inr ⟨by rfl, rfl⟩) (by assumption) ?_
        try simp only [Act.put, List.setIfInBounds_toArray, List.set_cons_zero, List.set_cons_succ]
        refine wpAnyH_take (i := 9) (oi := { dst := some 28, op := Op.fieldAddr 76 (Operand.tmp 5) 0, type := 0, pos := "node.go:130", after := #[{ on := 8, ground := Ground.guard }], guard := some (8, true) }) rfl (by kernel_rfl) (by kernel_rfl) (by kernel_rfl) (fun _ _ _ h => h) (Or.inr ⟨by rfl, rfl⟩) (by assumption) ?_
        try simp only [Act.put, List.setIfInBounds_toArray, List.set_cons_zero, List.set_cons_succ]
        refine wpAnyH_take (i := 10) (oi := { dst := some 29, op := Op.load 9 (Operand.tmp 28), type := 9, pos := "node.go:130", after := #[{ on := 9, ground := Ground.data }, { on := 8, ground := Ground.guard }], guard := some (8, true) }) rfl (by kernel_rfl) (by kernel_rfl) (by kernel_rfl) (fun _ _ _ h => h) (Or.inr ⟨by rfl, rfl⟩) (by assumption) ?_
        try simp only [Act.put, List.setIfInBounds_toArray, List.set_cons_zero, List.set_cons_succ]
        refine wpAnyH_take (i := 11) (oi := { dst := some 30, op := Op.fieldAddr 52 (Operand.tmp 1) 1, type := 0, pos := "node.go:130", after := #[{ on := 8, ground := Ground.guard }], guard := some (8, true) }) rfl (by kernel_rfl) (by kernel_rfl) (by kernel_rfl) (fun _ _ _ h => h) (Or.inr ⟨by rfl, rfl⟩) (by assumption) ?_
        try simp only [Act.put, List.setIfInBounds_toArray, List.set_cons_zero, List.set_cons_succ]
        refine wpAnyH_take (i := 12) (oi := { dst := some 31, op := Op.load 50 (Operand.tmp 30), type := 50, pos := "node.go:130", after := #[{ on := 11, ground := Ground.data }, { on := 8, ground := Ground.guard }], guard := some (8, true) }) rfl (by kernel_rfl) (by kernel_rfl) (by kernel_rfl) (fun _ _ _ h => h) (Or.inr ⟨by rfl, rfl⟩) (by assumption) ?_
        try simp only [Act.put, List.setIfInBounds_toArray, List.set_cons_zero, List.set_cons_succ]
        refine wpAnyH_take (i := 13) (oi := { dst := some 32, op := Op.move (Operand.tmp 4), type := 3, pos := "node.go:130", after := #[{ on := 8, ground := Ground.guard }], guard := some (8, true) }) rfl (by kernel_rfl) (by kernel_rfl) (by kernel_rfl) (fun _ _ _ h => h) (Or.inr ⟨by rfl, rfl⟩) (by assumption) ?_
        try simp only [Act.put, List.setIfInBounds_toArray, List.set_cons_zero, List.set_cons_succ]
        refine wpAnyH_take (i := 14) (oi := { dst := some 33, op := Op.binOp BinOp.sub 3 (Operand.tmp 32) (Operand.const (Value.int IntKind.i64 1)) 3, type := 3, pos := "node.go:130", after := #[{ on := 13, ground := Ground.data }, { on := 8, ground := Ground.guard }], guard := some (8, true) }) rfl (by kernel_rfl) (by kernel_rfl) (by kernel_rfl) (fun _ _ _ h => h) (Or.inr ⟨by rfl, rfl⟩) (by assumption) ?_
        try simp only [Act.put, List.setIfInBounds_toArray, List.set_cons_zero, List.set_cons_succ]
        refine wpAnyH_take (i := 15) (oi := { dst := some 34, op := Op.indexAddr 50 (Operand.tmp 31) (Operand.tmp 33), type := 0, pos := "node.go:130", after := #[{ on := 12, ground := Ground.data }, { on := 14, ground := Ground.data }, { on := 8, ground := Ground.guard }], guard := some (8, true) }) rfl (by kernel_rfl) (by kernel_rfl) (by kernel_rfl) (fun _ _ _ h => h) (Or.inr ⟨by rfl, rfl⟩) (by assumption) ?_
        try simp only [Act.put, List.setIfInBounds_toArray, List.set_cons_zero, List.set_cons_succ]
        refine wpAnyH_take (i := 16) (oi := { dst := some 35, op := Op.fieldAddr 76 (Operand.tmp 34) 0, type := 0, pos := "node.go:130", after := #[{ on := 15, ground := Ground.data }, { on := 8, ground := Ground.guard }], guard := some (8, true) }) rfl (by kernel_rfl) (by kernel_rfl) (by kernel_rfl) (fun _ _ _ h => h) (Or.inr ⟨by rfl, rfl⟩) (by assumption) ?_
        try simp only [Act.put, List.setIfInBounds_toArray, List.set_cons_zero, List.set_cons_succ]
        refine wpAnyH_take (i := 17) (oi := { dst := some 36, op := Op.load 9 (Operand.tmp 35), type := 9, pos := "node.go:130", after := #[{ on := 16, ground := Ground.data }, { on := 8, ground := Ground.guard }], guard := some (8, true) }) rfl (by kernel_rfl) (by kernel_rfl) (by kernel_rfl) (fun _ _ _ h => h) (Or.inr ⟨by rfl, rfl⟩) (by assumption) ?_
        try simp only [Act.put, List.setIfInBounds_toArray, List.set_cons_zero, List.set_cons_succ]
        refine wpAnyH_take (i := 18) (oi := { dst := some 37, op := Op.binOp BinOp.leq 9 (Operand.tmp 29) (Operand.tmp 36) 9, type := 4, pos := "node.go:130", after := #[{ on := 10, ground := Ground.data }, { on := 17, ground := Ground.data }, { on := 8, ground := Ground.guard }], guard := some (8, true) }) rfl (by kernel_rfl) (by kernel_rfl) (by kernel_rfl) (fun _ _ _ h => h) (Or.inr ⟨by rfl, rfl⟩) (by assumption) ?_
        try simp only [Act.put, List.setIfInBounds_toArray, List.set_cons_zero, List.set_cons_succ]
        refine wpAnyH_take (i := 19) (oi := { dst := some 38, op := Op.pick (Operand.tmp 27) (Operand.tmp 37) (Operand.const (Value.bool false)), type := 4, pos := "node.go:130", after := #[{ on := 8, ground := Ground.data }, { on := 18, ground := Ground.data }, { on := 5, ground := Ground.guard }], guard := some (5, false) }) rfl (by kernel_rfl) (by kernel_rfl) (by kernel_rfl) (fun _ _ _ h => h) (Or.inr ⟨by rfl, rfl⟩) (by assumption) ?_
        try simp only [Act.put, List.setIfInBounds_toArray, List.set_cons_zero, List.set_cons_succ]
        refine wpAnyH_take (i := 20) (oi := { dst := some 39, op := Op.pick (Operand.tmp 24) (Operand.const (Value.bool true)) (Operand.tmp 38), type := 4, pos := "node.go:130", after := #[{ on := 5, ground := Ground.data }, { on := 19, ground := Ground.data }], guard := none }) (v := ?_) rfl (by kernel_rfl) (by kernel_rfl) (by kernel_rfl) (fun _ _ _ h => h) (Or.inl ⟨by rfl, ?_⟩) (by assumption) ?_
        rotate_left
        · (intro W hW; (try dsimp only at hW); go_simp <;> (with_reducible rfl))
        try simp only [Act.put, List.setIfInBounds_toArray, List.set_cons_zero, List.set_cons_succ]
        refine wpAnyH_done (by kernel_rfl) ?_ _
        refine NoPanic.normal ?_
        have hb8 := below_then hbw6 hC7
        go_wp2_with fail
        go_ret
        exact ⟨ret_bool HF.out.symm, hb8⟩
      | true =>
        rw [hm] at M1
        by_cases hk0 : k = 0
        · subst hk0
          have HU : Hid (upN true l (0 + 1) = true) := Lib.hid (by rw [HUS.out, HST.out, hm]; rfl)
          clear hm HGD
          simp only [Nat.zero_mul, Nat.add_zero] at e0 e1 e2 e3 e4
          have M1 : ∀ W, Calls Tryd.prog 104 #[.agg #[], .int .i64 0, .agg #[.string (strOf e.key), .string (strOf e.v.data), .bool e.v.far, .int .i64 e.v.size, .int .i64 e.v.page]] W fun en w' => en = .returned (.bool true) ∧ Below W.heap.size W w' := M1
          go_wp2_with fail
          generalize wr.heap.size = bx at *
          generalize wr.alloc _ = W6 at *
          have c0 : ∀ W, Below W6.heap.size W6 W → W.cell? ⟨bx, 0, none⟩ = some (.string (strOf e.key)) := fun W hW => (B6.step hW).cell 0 0 rfl rfl
          have c1 : ∀ W, Below W6.heap.size W6 W → W.cell? ⟨bx, 1, none⟩ = some (.string (strOf e.v.data)) := fun W hW => (B6.step hW).cell 0 1 rfl rfl
          have c2 : ∀ W, Below W6.heap.size W6 W → W.cell? ⟨bx, 2, none⟩ = some (.bool e.v.far) := fun W hW => (B6.step hW).cell 0 2 rfl rfl
          have c3 : ∀ W, Below W6.heap.size W6 W → W.cell? ⟨bx, 3, none⟩ = some (.int .i64 e.v.size) := fun W hW => (B6.step hW).cell 0 3 rfl rfl
          have c4 : ∀ W, Below W6.heap.size W6 W → W.cell? ⟨bx, 4, none⟩ = some (.int .i64 e.v.page) := fun W hW => (B6.step hW).cell 0 4 rfl rfl
          have hC : Below W6.heap.size W6 W6.drew := (Below.refl _ _).drew
          refine wp_region_noPanic ?_
          refine wp_region_held_drew (S := fun W => Below W6.heap.size W6 W) (by kernel_rfl) (by with_reducible assumption) (fun hHeld => ?_)
          refine wpAnyH_take (i := 0) (oi := { dst := some 19, op := Op.move (Operand.tmp 3), type := 111, pos := "node.go:130", after := #[], guard := none }) (v := ?_) rfl (by kernel_rfl) (by kernel_rfl) (by kernel_rfl) (fun _ _ _ h => h) (Or.inl ⟨by rfl, ?_⟩) (by assumption) ?_
          rotate_left
          · (intro W hW; (try dsimp only at hW); go_simp <;> (with_reducible rfl))
          try simp only [Act.put, List.setIfInBounds_toArray, List.set_cons_zero, List.set_cons_succ]
          refine wpAnyH_take (i := 1) (oi := { dst := some 20, op := Op.move (Operand.tmp 4), type := 3, pos := "node.go:130", after := #[], guard := none }) (v := ?_) rfl (by kernel_rfl) (by kernel_rfl) (by kernel_rfl) (fun _ _ _ h => h) (Or.inl ⟨by rfl, ?_⟩) (by assumption) ?_
          rotate_left
          · (intro W hW; (try dsimp only at hW); go_simp <;> (with_reducible rfl))
          try simp only [Act.put, List.setIfInBounds_toArray, List.set_cons_zero, List.set_cons_succ]
          refine wpAnyH_take (i := 2) (oi := { dst := some 21, op := Op.load 76 (Operand.tmp 5), type := 76, pos := "node.go:130", after := #[], guard := none }) (v := ?_) rfl (by kernel_rfl) (by kernel_rfl) (by kernel_rfl) (fun _ _ _ h => h) (Or.inl ⟨by rfl, ?_⟩) (by assumption) ?_
          rotate_left
          · (intro W hW; (try dsimp only at hW); go_simp <;> (with_reducible rfl))
          try simp only [Act.put, List.setIfInBounds_toArray, List.set_cons_zero, List.set_cons_succ]
          refine wpAnyH_ready (rs := [3]) (by kernel_rfl) (by simp) (AllReadyH.cons (o := { dst := some 22, op := Op.call { callee := Callee.invoke (Operand.tmp 19) "jalousie/node.may", args := #[Operand.tmp 20, Operand.tmp 21], argTypes := #[3, 76] }, type := 4, pos := "node.go:130", after := #[{ on := 0, ground := Ground.data }, { on := 1, ground := Ground.data }, { on := 2, ground := Ground.data }], guard := none }) rfl (fun K hK => ?_) AllReadyH.nil)
          rw [if_pos (by rfl)]
          go_wp2_with (first | (go_at_call 104; (with_reducible refine (M1 _).mono ?_); rintro e1 w7 ⟨rfl, hb7⟩; have hC7 := hC.trans (hb7.mono hC.size)))
          refine hK.out _ _ (by with_reducible assumption) (fun hHeld => ?_)
          clear hK K
          try simp only [Act.put, List.setIfInBounds_toArray, List.set_cons_zero, List.set_cons_succ]
          refine wpAnyH_take (i := 4) (oi := { dst := some 23, op := Op.unOp UnOp.not 4 (Operand.tmp 22), type := 4, pos := "node.go:130", after := #[{ on := 3, ground := Ground.data }], guard := none }) (v := ?_) rfl (by kernel_rfl) (by kernel_rfl) (by kernel_rfl) (fun _ _ _ h => h) (Or.inl ⟨by rfl, ?_⟩) (by assumption) ?_
          rotate_left
          · (intro W hW; (try dsimp only at hW); go_simp <;> (with_reducible rfl))
          try simp only [Act.put, List.setIfInBounds_toArray, List.set_cons_zero, List.set_cons_succ]
          refine wpAnyH_take (i := 5) (oi := { dst := some 24, op := Op.move (Operand.tmp 23), type := 4, pos := "node.go:130", after := #[{ on := 4, ground := Ground.data }, { on := 3, ground := Ground.chain }], guard := none }) (v := ?_) rfl (by kernel_rfl) (by kernel_rfl) (by kernel_rfl) (fun _ _ _ h => h) (Or.inl ⟨by rfl, ?_⟩) (by assumption) ?_
          rotate_left
          · (intro W hW; (try dsimp only at hW); go_simp <;> (with_reducible rfl))
          try simp only [Act.put, List.setIfInBounds_toArray, List.set_cons_zero, List.set_cons_succ]
          refine wpAnyH_take (i := 6) (oi := { dst := some 25, op := Op.move (Operand.tmp 4), type := 3, pos := "node.go:130", after := #[{ on := 5, ground := Ground.guard }], guard := some (5, false) }) (v := ?_) rfl (by kernel_rfl) (by kernel_rfl) (by kernel_rfl) (fun _ _ _ h => h) (Or.inl ⟨by rfl, ?_⟩) (by assumption) ?_
          rotate_left
          · (intro W hW; (try dsimp only at hW); go_simp <;> (with_reducible rfl))
          try simp only [Act.put, List.setIfInBounds_toArray, List.set_cons_zero, List.set_cons_succ]
          refine wpAnyH_take (i := 7) (oi := { dst := some 26, op := Op.binOp BinOp.gtr 3 (Operand.tmp 25) (Operand.const (Value.int IntKind.i64 0)) 3, type := 4, pos := "node.go:130", after := #[{ on := 6, ground := Ground.data }, { on := 5, ground := Ground.guard }], guard := some (5, false) }) (v := ?_) rfl (by kernel_rfl) (by kernel_rfl) (by kernel_rfl) (fun _ _ _ h => h) (Or.inl ⟨by rfl, ?_⟩) (by assumption) ?_
          rotate_left
          · (intro W hW; (try dsimp only at hW); go_simp <;> (with_reducible rfl))
          try simp only [Act.put, List.setIfInBounds_toArray, List.set_cons_zero, List.set_cons_succ]
          refine wpAnyH_take (i := 8) (oi := { dst := some 27, op := Op.move (Operand.tmp 26), type := 4, pos := "node.go:130", after := #[{ on := 7, ground := Ground.data }, { on := 5, ground := Ground.chain }, { on := 5, ground := Ground.guard }], guard := some (5, false) }) (v := ?_) rfl (by kernel_rfl) (by kernel_rfl) (by kernel_rfl) (fun _ _ _ h => h) (Or.inl ⟨by rfl, ?_⟩) (by assumption) ?_
          rotate_left
          · (intro W hW; (try dsimp only at hW); go_simp <;> (with_reducible rfl))
          try simp only [Act.put, List.setIfInBounds_toArray, List.set_cons_zero, List.set_cons_succ]
          refine wpAnyH_take (i := 9) (oi := { dst := some 28, op := Op.fieldAddr 76 (Operand.tmp 5) 0, type := 0, pos := "node.go:130", after := #[{ on := 8, ground := Ground.guard }], guard := some (8, true) }) rfl (by kernel_rfl) (by kernel_rfl) (by kernel_rfl) (fun _ _ _ h => h) (Or.inr ⟨by rfl, rfl⟩) (by assumption) ?_
          try simp only [Act.put, List.setIfInBounds_toArray, List.set_cons_zero, List.set_cons_succ]
          refine wpAnyH_take (i := 10) (oi := { dst := some 29, op := Op.load 9 (Operand.tmp 28), type := 9, pos := "node.go:130", after := #[{ on := 9, ground := Ground.data }, { on := 8, ground := Ground.guard }], guard := some (8, true) }) rfl (by kernel_rfl) (by kernel_rfl) (by kernel_rfl) (fun _ _ _ h => h) (Or.inr ⟨by rfl, rfl⟩) (by assumption) ?_
          try simp only [Act.put, List.setIfInBounds_toArray, List.set_cons_zero, List.set_cons_succ]
          refine wpAnyH_take (i := 11) (oi := { dst := some 30, op := Op.fieldAddr 52 (Operand.tmp 1) 1, type := 0, pos := "node.go:130", after := #[{ on := 8, ground := Ground.guard }], guard := some (8, true) }) rfl (by kernel_rfl) (by kernel_rfl) (by kernel_rfl) (fun _ _ _ h => h) (Or.inr ⟨by rfl, rfl⟩) (by assumption) ?_
          try simp only [Act.put, List.setIfInBounds_toArray, List.set_cons_zero, List.set_cons_succ]
          refine wpAnyH_take (i := 12) (oi := { dst := some 31, op := Op.load 50 (Operand.tmp 30), type := 50, pos := "node.go:130", after := #[{ on := 11, ground := Ground.data }, { on := 8, ground := Ground.guard }], guard := some (8, true) }) rfl (by kernel_rfl) (by kernel_rfl) (by kernel_rfl) (fun _ _ _ h => h) (Or.inr ⟨by rfl, rfl⟩) (by assumption) ?_
          try simp only [Act.put, List.setIfInBounds_toArray, List.set_cons_zero, List.set_cons_succ]
          refine wpAnyH_take (i := 13) (oi := { dst := some 32, op := Op.move (Operand.tmp 4), type := 3, pos := "node.go:130", after := #[{ on := 8, ground := Ground.guard }], guard := some (8, true) }) rfl (by kernel_rfl) (by kernel_rfl) (by kernel_rfl) (fun _ _ _ h => h) (Or.inr ⟨by rfl, rfl⟩) (by assumption) ?_
          try simp only [Act.put, List.setIfInBounds_toArray, List.set_cons_zero, List.set_cons_succ]
          refine wpAnyH_take (i := 14) (oi := { dst := some 33, op := Op.binOp BinOp.sub 3 (Operand.tmp 32) (Operand.const (Value.int IntKind.i64 1)) 3, type := 3, pos := "node.go:130", after := #[{ on := 13, ground := Ground.data }, { on := 8, ground := Ground.guard }], guard := some (8, true) }) rfl (by kernel_rfl) (by kernel_rfl) (by kernel_rfl) (fun _ _ _ h => h) (Or.inr ⟨by rfl, rfl⟩) (by assumption) ?_
          try simp only [Act.put, List.setIfInBounds_toArray, List.set_cons_zero, List.set_cons_succ]
          refine wpAnyH_take (i := 15) (oi := { dst := some 34, op := Op.indexAddr 50 (Operand.tmp 31) (Operand.tmp 33), type := 0, pos := "node.go:130", after := #[{ on := 12, ground := Ground.data }, { on := 14, ground := Ground.data }, { on := 8, ground := Ground.guard }], guard := some (8, true) }) rfl (by kernel_rfl) (by kernel_rfl) (by kernel_rfl) (fun _ _ _ h => h) (Or.inr ⟨by rfl, rfl⟩) (by assumption) ?_
          try simp only [Act.put, List.setIfInBounds_toArray, List.set_cons_zero, List.set_cons_succ]
          refine wpAnyH_take (i := 16) (oi := { dst := some 35, op := Op.fieldAddr 76 (Operand.tmp 34) 0, type := 0, pos := "node.go:130", after := #[{ on := 15, ground := Ground.data }, { on := 8, ground := Ground.guard }], guard := some (8, true) }) rfl (by kernel_rfl) (by kernel_rfl) (by kernel_rfl) (fun _ _ _ h => h) (Or.inr ⟨by rfl, rfl⟩) (by assumption) ?_
          try simp only [Act.put, List.setIfInBounds_toArray, List.set_cons_zero, List.set_cons_succ]
          refine wpAnyH_take (i := 17) (oi := { dst := some 36, op := Op.load 9 (Operand.tmp 35), type := 9, pos := "node.go:130", after := #[{ on := 16, ground := Ground.data }, { on := 8, ground := Ground.guard }], guard := some (8, true) }) rfl (by kernel_rfl) (by kernel_rfl) (by kernel_rfl) (fun _ _ _ h => h) (Or.inr ⟨by rfl, rfl⟩) (by assumption) ?_
          try simp only [Act.put, List.setIfInBounds_toArray, List.set_cons_zero, List.set_cons_succ]
          refine wpAnyH_take (i := 18) (oi := { dst := some 37, op := Op.binOp BinOp.leq 9 (Operand.tmp 29) (Operand.tmp 36) 9, type := 4, pos := "node.go:130", after := #[{ on := 10, ground := Ground.data }, { on := 17, ground := Ground.data }, { on := 8, ground := Ground.guard }], guard := some (8, true) }) rfl (by kernel_rfl) (by kernel_rfl) (by kernel_rfl) (fun _ _ _ h => h) (Or.inr ⟨by rfl, rfl⟩) (by assumption) ?_
          try simp only [Act.put, List.setIfInBounds_toArray, List.set_cons_zero, List.set_cons_succ]
          refine wpAnyH_take (i := 19) (oi := { dst := some 38, op := Op.pick (Operand.tmp 27) (Operand.tmp 37) (Operand.const (Value.bool false)), type := 4, pos := "node.go:130", after := #[{ on := 8, ground := Ground.data }, { on := 18, ground := Ground.data }, { on := 5, ground := Ground.guard }], guard := some (5, false) }) (v := ?_) rfl (by kernel_rfl) (by kernel_rfl) (by kernel_rfl) (fun _ _ _ h => h) (Or.inl ⟨by rfl, ?_⟩) (by assumption) ?_
          rotate_left
          · (intro W hW; (try dsimp only at hW); go_simp <;> (with_reducible rfl))
          try simp only [Act.put, List.setIfInBounds_toArray, List.set_cons_zero, List.set_cons_succ]
          refine wpAnyH_take (i := 20) (oi := { dst := some 39, op := Op.pick (Operand.tmp 24) (Operand.const (Value.bool true)) (Operand.tmp 38), type := 4, pos := "node.go:130", after := #[{ on := 5, ground := Ground.data }, { on := 19, ground := Ground.data }], guard := none }) (v := ?_) rfl (by kernel_rfl) (by kernel_rfl) (by kernel_rfl) (fun _ _ _ h => h) (Or.inl ⟨by rfl, ?_⟩) (by assumption) ?_
          rotate_left
          · (intro W hW; (try dsimp only at hW); go_simp <;> (with_reducible rfl))
          try simp only [Act.put, List.setIfInBounds_toArray, List.set_cons_zero, List.set_cons_succ]
          refine wpAnyH_done (by kernel_rfl) ?_ _
          refine NoPanic.normal ?_
          have hb8 := below_then hbw6 hC7
          have B8 := (B6.step hC7).sub (m := [(w.heap.size, [.bool true, .slice (some ⟨b, off, none⟩) len cap])]) (by intro p hp; simp at hp; subst hp; simp)
          clear hC hC7 hb7 B6 hr6
          go_wp2_with fail
          go_roundw
          case rel => exact ⟨0 + 1, by omega, by go_num, HU.out, B8, hb8⟩
          case measure => simp [intOf]; omega
        · obtain ⟨p, hp1, hp2⟩ : ∃ p, p + 1 = k ∧ p < len := ⟨k - 1, by omega, by omega⟩
          obtain ⟨b2, off2, e', hq, hb2l, hy2, hc', _⟩ := (h.below (Nat.le_refl _) hbw).at hp2
          cases hq
          have hg2 : l[k - 1]?.getD ⟨[], Vv.zero⟩ = e' := by rw [show k - 1 = p by omega, hy2]; rfl
          have hst2 : stepN true l k = !kle e.key e'.key := by rw [HST.out, hm, hg2, show decide (0 < k) = true by simp; omega]; simp
          have hsub : IntKind.i64.wrap ((k : Int) - 1) = (p : Int) := by
            have := IntWalk.i64_in ((k : Int) - 1) (by omega)
            omega
          have hk1 : decide ((0 : Int) < (k : Int)) = true := by simp; omega
          have hk1n : decide (0 < k) = true := by simp; omega
          have hk1p : 0 < k := by omega
          have hpp : (0 : Int) ≤ (p : Int) ∧ (p : Int) < (len : Int) := by omega
          have HPC := Lib.hid hc'
          have HSB := Lib.hid hsub
          have hp6 : (wr.alloc (.cells #[.string (strOf e.key), .string (strOf e.v.data), .bool e.v.far, .int .i64 e.v.size, .int .i64 e.v.page] 76)).cell? ⟨b, off + p * 5, none⟩ = some (.string (strOf e'.key)) := ((below_one wr _).cell (p := ⟨b, off + p * 5, none⟩) hb2l).trans hc'
          have hbl6 : b < (wr.alloc (.cells #[.string (strOf e.key), .string (strOf e.v.data), .bool e.v.far, .int .i64 e.v.size, .int .i64 e.v.page] 76)).heap.size := by simp; omega
          clear hg2 hm hy2 hc' hb2l
          have hkp : k = p + 1 := hp1.symm
          cases hke : kle e.key e'.key with
          | true =>
            have HF : Hid (nodeB true l = false) := Lib.hid (nodeB_step (k := k) (by rw [hll.out]; omega) (by rw [hst2, hke]; rfl))
            have hlq : (Op.bytesLess (strOf e.key).toList (strOf e'.key).toList || (strOf e.key).toList == (strOf e'.key).toList) = true := by rw [strOf_toList, strOf_toList, bytes_less]; exact hke
            clear hst2 hke HST HGD HUS HPC HSB hkp hp1 hp2 hsize
            go_wp2_with fail
            generalize wr.heap.size = bx at *
            generalize wr.alloc _ = W6 at *
            have c0 : ∀ W, Below W6.heap.size W6 W → W.cell? ⟨bx, 0, none⟩ = some (.string (strOf e.key)) := fun W hW => (B6.step hW).cell 0 0 rfl rfl
            have c1 : ∀ W, Below W6.heap.size W6 W → W.cell? ⟨bx, 1, none⟩ = some (.string (strOf e.v.data)) := fun W hW => (B6.step hW).cell 0 1 rfl rfl
            have c2 : ∀ W, Below W6.heap.size W6 W → W.cell? ⟨bx, 2, none⟩ = some (.bool e.v.far) := fun W hW => (B6.step hW).cell 0 2 rfl rfl
            have c3 : ∀ W, Below W6.heap.size W6 W → W.cell? ⟨bx, 3, none⟩ = some (.int .i64 e.v.size) := fun W hW => (B6.step hW).cell 0 3 rfl rfl
            have c4 : ∀ W, Below W6.heap.size W6 W → W.cell? ⟨bx, 4, none⟩ = some (.int .i64 e.v.page) := fun W hW => (B6.step hW).cell 0 4 rfl rfl
            have d1 : ∀ W, Below W6.heap.size W6 W → W.cell? ⟨w.heap.size, 1, none⟩ = some (.slice (some ⟨b, off, none⟩) len cap) := fun W hW => (B6.step hW).cell 1 1 rfl rfl
            have p0 : ∀ W, Below W6.heap.size W6 W → W.cell? ⟨b, off + p * 5, none⟩ = some (.string (strOf e'.key)) := fun W hW => (hW.cell (p := ⟨b, off + p * 5, none⟩) hbl6).trans hp6
            have hC : Below W6.heap.size W6 W6.drew := (Below.refl _ _).drew
            refine wp_region_noPanic ?_
            refine wp_region_held_drew (S := fun W => Below W6.heap.size W6 W) (by kernel_rfl) (by with_reducible assumption) (fun hHeld => ?_)
            refine wpAnyH_take (i := 0) (oi := { dst := some 19, op := Op.move (Operand.tmp 3), type := 111, pos := "node.go:130", after := #[], guard := none }) (v := ?_) rfl (by kernel_rfl) (by kernel_rfl) (by kernel_rfl) (fun _ _ _ h => h) (Or.inl ⟨by rfl, ?_⟩) (by assumption) ?_
            rotate_left
            · (intro W hW; (try dsimp only at hW); go_simp <;> (with_reducible rfl))
            try simp only [Act.put, List.setIfInBounds_toArray, List.set_cons_zero, List.set_cons_succ]
            refine wpAnyH_take (i := 1) (oi := { dst := some 20, op := Op.move (Operand.tmp 4), type := 3, pos := "node.go:130", after := #[], guard := none }) (v := ?_) rfl (by kernel_rfl) (by kernel_rfl) (by kernel_rfl) (fun _ _ _ h => h) (Or.inl ⟨by rfl, ?_⟩) (by assumption) ?_
            rotate_left
            · (intro W hW; (try dsimp only at hW); go_simp <;> (with_reducible rfl))
            try simp only [Act.put, List.setIfInBounds_toArray, List.set_cons_zero, List.set_cons_succ]
            refine wpAnyH_take (i := 2) (oi := { dst := some 21, op := Op.load 76 (Operand.tmp 5), type := 76, pos := "node.go:130", after := #[], guard := none }) (v := ?_) rfl (by kernel_rfl) (by kernel_rfl) (by kernel_rfl) (fun _ _ _ h => h) (Or.inl ⟨by rfl, ?_⟩) (by assumption) ?_
            rotate_left
            · (intro W hW; (try dsimp only at hW); go_simp <;> (with_reducible rfl))
            try simp only [Act.put, List.setIfInBounds_toArray, List.set_cons_zero, List.set_cons_succ]
            refine wpAnyH_ready (rs := [3]) (by kernel_rfl) (by simp) (AllReadyH.cons (o := { dst := some 22, op := Op.call { callee := Callee.invoke (Operand.tmp 19) "jalousie/node.may", args := #[Operand.tmp 20, Operand.tmp 21], argTypes := #[3, 76] }, type := 4, pos := "node.go:130", after := #[{ on := 0, ground := Ground.data }, { on := 1, ground := Ground.data }, { on := 2, ground := Ground.data }], guard := none }) rfl (fun K hK => ?_) AllReadyH.nil)
            rw [if_pos (by rfl)]
            go_wp2_with (first | (go_at_call 104; (with_reducible refine (M1 _).mono ?_); rintro e1 w7 ⟨rfl, hb7⟩; have hC7 := hC.trans (hb7.mono hC.size)))
            refine hK.out _ _ (by with_reducible assumption) (fun hHeld => ?_)
            clear hK K
            try simp only [Act.put, List.setIfInBounds_toArray, List.set_cons_zero, List.set_cons_succ]
            refine wpAnyH_take (i := 4) (oi := { dst := some 23, op := Op.unOp UnOp.not 4 (Operand.tmp 22), type := 4, pos := "node.go:130", after := #[{ on := 3, ground := Ground.data }], guard := none }) (v := ?_) rfl (by kernel_rfl) (by kernel_rfl) (by kernel_rfl) (fun _ _ _ h => h) (Or.inl ⟨by rfl, ?_⟩) (by assumption) ?_
            rotate_left
            · (intro W hW; (try dsimp only at hW); go_simp <;> (with_reducible rfl))
            try simp only [Act.put, List.setIfInBounds_toArray, List.set_cons_zero, List.set_cons_succ]
            refine wpAnyH_take (i := 5) (oi := { dst := some 24, op := Op.move (Operand.tmp 23), type := 4, pos := "node.go:130", after := #[{ on := 4, ground := Ground.data }, { on := 3, ground := Ground.chain }], guard := none }) (v := ?_) rfl (by kernel_rfl) (by kernel_rfl) (by kernel_rfl) (fun _ _ _ h => h) (Or.inl ⟨by rfl, ?_⟩) (by assumption) ?_
            rotate_left
            · (intro W hW; (try dsimp only at hW); go_simp <;> (with_reducible rfl))
            try simp only [Act.put, List.setIfInBounds_toArray, List.set_cons_zero, List.set_cons_succ]
            refine wpAnyH_take (i := 6) (oi := { dst := some 25, op := Op.move (Operand.tmp 4), type := 3, pos := "node.go:130", after := #[{ on := 5, ground := Ground.guard }], guard := some (5, false) }) (v := ?_) rfl (by kernel_rfl) (by kernel_rfl) (by kernel_rfl) (fun _ _ _ h => h) (Or.inl ⟨by rfl, ?_⟩) (by assumption) ?_
            rotate_left
            · (intro W hW; (try dsimp only at hW); go_simp <;> (with_reducible rfl))
            try simp only [Act.put, List.setIfInBounds_toArray, List.set_cons_zero, List.set_cons_succ]
            refine wpAnyH_take (i := 7) (oi := { dst := some 26, op := Op.binOp BinOp.gtr 3 (Operand.tmp 25) (Operand.const (Value.int IntKind.i64 0)) 3, type := 4, pos := "node.go:130", after := #[{ on := 6, ground := Ground.data }, { on := 5, ground := Ground.guard }], guard := some (5, false) }) (v := ?_) rfl (by kernel_rfl) (by kernel_rfl) (by kernel_rfl) (fun _ _ _ h => h) (Or.inl ⟨by rfl, ?_⟩) (by assumption) ?_
            rotate_left
            · (intro W hW; (try dsimp only at hW); go_simp <;> (with_reducible rfl))
            try simp only [Act.put, List.setIfInBounds_toArray, List.set_cons_zero, List.set_cons_succ]
            refine wpAnyH_take (i := 8) (oi := { dst := some 27, op := Op.move (Operand.tmp 26), type := 4, pos := "node.go:130", after := #[{ on := 7, ground := Ground.data }, { on := 5, ground := Ground.chain }, { on := 5, ground := Ground.guard }], guard := some (5, false) }) (v := ?_) rfl (by kernel_rfl) (by kernel_rfl) (by kernel_rfl) (fun _ _ _ h => h) (Or.inl ⟨by rfl, ?_⟩) (by assumption) ?_
            rotate_left
            · (intro W hW; (try dsimp only at hW); go_simp <;> (with_reducible rfl))
            try simp only [Act.put, List.setIfInBounds_toArray, List.set_cons_zero, List.set_cons_succ]
            refine wpAnyH_take (i := 9) (oi := { dst := some 28, op := Op.fieldAddr 76 (Operand.tmp 5) 0, type := 0, pos := "node.go:130", after := #[{ on := 8, ground := Ground.guard }], guard := some (8, true) }) (v := ?_) rfl (by kernel_rfl) (by kernel_rfl) (by kernel_rfl) (fun _ _ _ h => h) (Or.inl ⟨by rfl, ?_⟩) (by assumption) ?_
            rotate_left
            · (intro W hW; (try dsimp only at hW); go_simp <;> (with_reducible rfl))
            try simp only [Act.put, List.setIfInBounds_toArray, List.set_cons_zero, List.set_cons_succ]
            refine wpAnyH_take (i := 10) (oi := { dst := some 29, op := Op.load 9 (Operand.tmp 28), type := 9, pos := "node.go:130", after := #[{ on := 9, ground := Ground.data }, { on := 8, ground := Ground.guard }], guard := some (8, true) }) (v := ?_) rfl (by kernel_rfl) (by kernel_rfl) (by kernel_rfl) (fun _ _ _ h => h) (Or.inl ⟨by rfl, ?_⟩) (by assumption) ?_
            rotate_left
            · (intro W hW; (try dsimp only at hW); go_simp <;> (with_reducible rfl))
            try simp only [Act.put, List.setIfInBounds_toArray, List.set_cons_zero, List.set_cons_succ]
            refine wpAnyH_take (i := 11) (oi := { dst := some 30, op := Op.fieldAddr 52 (Operand.tmp 1) 1, type := 0, pos := "node.go:130", after := #[{ on := 8, ground := Ground.guard }], guard := some (8, true) }) (v := ?_) rfl (by kernel_rfl) (by kernel_rfl) (by kernel_rfl) (fun _ _ _ h => h) (Or.inl ⟨by rfl, ?_⟩) (by assumption) ?_
            rotate_left
            · (intro W hW; (try dsimp only at hW); go_simp <;> (with_reducible rfl))
            try simp only [Act.put, List.setIfInBounds_toArray, List.set_cons_zero, List.set_cons_succ]
            refine wpAnyH_take (i := 12) (oi := { dst := some 31, op := Op.load 50 (Operand.tmp 30), type := 50, pos := "node.go:130", after := #[{ on := 11, ground := Ground.data }, { on := 8, ground := Ground.guard }], guard := some (8, true) }) (v := ?_) rfl (by kernel_rfl) (by kernel_rfl) (by kernel_rfl) (fun _ _ _ h => h) (Or.inl ⟨by rfl, ?_⟩) (by assumption) ?_
            rotate_left
            · (intro W hW; (try dsimp only at hW); go_simp <;> (with_reducible rfl))
            try simp only [Act.put, List.setIfInBounds_toArray, List.set_cons_zero, List.set_cons_succ]
            refine wpAnyH_take (i := 13) (oi := { dst := some 32, op := Op.move (Operand.tmp 4), type := 3, pos := "node.go:130", after := #[{ on := 8, ground := Ground.guard }], guard := some (8, true) }) (v := ?_) rfl (by kernel_rfl) (by kernel_rfl) (by kernel_rfl) (fun _ _ _ h => h) (Or.inl ⟨by rfl, ?_⟩) (by assumption) ?_
            rotate_left
            · (intro W hW; (try dsimp only at hW); go_simp <;> (with_reducible rfl))
            try simp only [Act.put, List.setIfInBounds_toArray, List.set_cons_zero, List.set_cons_succ]
            refine wpAnyH_take (i := 14) (oi := { dst := some 33, op := Op.binOp BinOp.sub 3 (Operand.tmp 32) (Operand.const (Value.int IntKind.i64 1)) 3, type := 3, pos := "node.go:130", after := #[{ on := 13, ground := Ground.data }, { on := 8, ground := Ground.guard }], guard := some (8, true) }) (v := ?_) rfl (by kernel_rfl) (by kernel_rfl) (by kernel_rfl) (fun _ _ _ h => h) (Or.inl ⟨by rfl, ?_⟩) (by assumption) ?_
            rotate_left
            · (intro W hW; (try dsimp only at hW); go_simp <;> (with_reducible rfl))
            try simp only [Act.put, List.setIfInBounds_toArray, List.set_cons_zero, List.set_cons_succ]
            refine wpAnyH_take (i := 15) (oi := { dst := some 34, op := Op.indexAddr 50 (Operand.tmp 31) (Operand.tmp 33), type := 0, pos := "node.go:130", after := #[{ on := 12, ground := Ground.data }, { on := 14, ground := Ground.data }, { on := 8, ground := Ground.guard }], guard := some (8, true) }) (v := ?_) rfl (by kernel_rfl) (by kernel_rfl) (by kernel_rfl) (fun _ _ _ h => h) (Or.inl ⟨by rfl, ?_⟩) (by assumption) ?_
            rotate_left
            · (intro W hW; (try dsimp only at hW); go_simp <;> (with_reducible rfl))
            try simp only [Act.put, List.setIfInBounds_toArray, List.set_cons_zero, List.set_cons_succ]
            refine wpAnyH_take (i := 16) (oi := { dst := some 35, op := Op.fieldAddr 76 (Operand.tmp 34) 0, type := 0, pos := "node.go:130", after := #[{ on := 15, ground := Ground.data }, { on := 8, ground := Ground.guard }], guard := some (8, true) }) (v := ?_) rfl (by kernel_rfl) (by kernel_rfl) (by kernel_rfl) (fun _ _ _ h => h) (Or.inl ⟨by rfl, ?_⟩) (by assumption) ?_
            rotate_left
            · (intro W hW; (try dsimp only at hW); go_simp <;> (with_reducible rfl))
            try simp only [Act.put, List.setIfInBounds_toArray, List.set_cons_zero, List.set_cons_succ]
            refine wpAnyH_take (i := 17) (oi := { dst := some 36, op := Op.load 9 (Operand.tmp 35), type := 9, pos := "node.go:130", after := #[{ on := 16, ground := Ground.data }, { on := 8, ground := Ground.guard }], guard := some (8, true) }) (v := ?_) rfl (by kernel_rfl) (by kernel_rfl) (by kernel_rfl) (fun _ _ _ h => h) (Or.inl ⟨by rfl, ?_⟩) (by assumption) ?_
            rotate_left
            · (intro W hW; (try dsimp only at hW); go_simp <;> (with_reducible rfl))
            try simp only [Act.put, List.setIfInBounds_toArray, List.set_cons_zero, List.set_cons_succ]
            refine wpAnyH_take (i := 18) (oi := { dst := some 37, op := Op.binOp BinOp.leq 9 (Operand.tmp 29) (Operand.tmp 36) 9, type := 4, pos := "node.go:130", after := #[{ on := 10, ground := Ground.data }, { on := 17, ground := Ground.data }, { on := 8, ground := Ground.guard }], guard := some (8, true) }) (v := ?_) rfl (by kernel_rfl) (by kernel_rfl) (by kernel_rfl) (fun _ _ _ h => h) (Or.inl ⟨by rfl, ?_⟩) (by assumption) ?_
            rotate_left
            · (intro W hW; (try dsimp only at hW); go_simp <;> (with_reducible rfl))
            try simp only [Act.put, List.setIfInBounds_toArray, List.set_cons_zero, List.set_cons_succ]
            refine wpAnyH_take (i := 19) (oi := { dst := some 38, op := Op.pick (Operand.tmp 27) (Operand.tmp 37) (Operand.const (Value.bool false)), type := 4, pos := "node.go:130", after := #[{ on := 8, ground := Ground.data }, { on := 18, ground := Ground.data }, { on := 5, ground := Ground.guard }], guard := some (5, false) }) (v := ?_) rfl (by kernel_rfl) (by kernel_rfl) (by kernel_rfl) (fun _ _ _ h => h) (Or.inl ⟨by rfl, ?_⟩) (by assumption) ?_
            rotate_left
            · (intro W hW; (try dsimp only at hW); go_simp <;> (with_reducible rfl))
            try simp only [Act.put, List.setIfInBounds_toArray, List.set_cons_zero, List.set_cons_succ]
            refine wpAnyH_take (i := 20) (oi := { dst := some 39, op := Op.pick (Operand.tmp 24) (Operand.const (Value.bool true)) (Operand.tmp 38), type := 4, pos := "node.go:130", after := #[{ on := 5, ground := Ground.data }, { on := 19, ground := Ground.data }], guard := none }) (v := ?_) rfl (by kernel_rfl) (by kernel_rfl) (by kernel_rfl) (fun _ _ _ h => h) (Or.inl ⟨by rfl, ?_⟩) (by assumption) ?_
            rotate_left
            · (intro W hW; (try dsimp only at hW); go_simp <;> (with_reducible rfl))
            try simp only [Act.put, List.setIfInBounds_toArray, List.set_cons_zero, List.set_cons_succ]
            refine wpAnyH_done (by kernel_rfl) ?_ _
            refine NoPanic.normal ?_
            have hb8 := below_then hbw6 hC7
            go_wp2_with fail
            go_ret
            exact ⟨ret_bool HF.out.symm, hb8⟩
          | false =>
            have HU : Hid (upN true l (k + 1) = true) := Lib.hid (by rw [HUS.out, hst2, hke]; rfl)
            have hlq : (Op.bytesLess (strOf e.key).toList (strOf e'.key).toList || (strOf e.key).toList == (strOf e'.key).toList) = false := by rw [strOf_toList, strOf_toList, bytes_less]; exact hke
            have hlq1 := (Bool.or_eq_false_iff.1 hlq).1
            have hlq2 := (Bool.or_eq_false_iff.1 hlq).2
            clear hst2 hke HST HGD HUS HPC HSB hkp hp1 hp2 hsize
            go_wp2_with fail
            generalize wr.heap.size = bx at *
            generalize wr.alloc _ = W6 at *
            have c0 : ∀ W, Below W6.heap.size W6 W → W.cell? ⟨bx, 0, none⟩ = some (.string (strOf e.key)) := fun W hW => (B6.step hW).cell 0 0 rfl rfl
            have c1 : ∀ W, Below W6.heap.size W6 W → W.cell? ⟨bx, 1, none⟩ = some (.string (strOf e.v.data)) := fun W hW => (B6.step hW).cell 0 1 rfl rfl
            have c2 : ∀ W, Below W6.heap.size W6 W → W.cell? ⟨bx, 2, none⟩ = some (.bool e.v.far) := fun W hW => (B6.step hW).cell 0 2 rfl rfl
            have c3 : ∀ W, Below W6.heap.size W6 W → W.cell? ⟨bx, 3, none⟩ = some (.int .i64 e.v.size) := fun W hW => (B6.step hW).cell 0 3 rfl rfl
            have c4 : ∀ W, Below W6.heap.size W6 W → W.cell? ⟨bx, 4, none⟩ = some (.int .i64 e.v.page) := fun W hW => (B6.step hW).cell 0 4 rfl rfl
            have d1 : ∀ W, Below W6.heap.size W6 W → W.cell? ⟨w.heap.size, 1, none⟩ = some (.slice (some ⟨b, off, none⟩) len cap) := fun W hW => (B6.step hW).cell 1 1 rfl rfl
            have p0 : ∀ W, Below W6.heap.size W6 W → W.cell? ⟨b, off + p * 5, none⟩ = some (.string (strOf e'.key)) := fun W hW => (hW.cell (p := ⟨b, off + p * 5, none⟩) hbl6).trans hp6
            have hC : Below W6.heap.size W6 W6.drew := (Below.refl _ _).drew
            refine wp_region_noPanic ?_
            refine wp_region_held_drew (S := fun W => Below W6.heap.size W6 W) (by kernel_rfl) (by with_reducible assumption) (fun hHeld => ?_)
            refine wpAnyH_take (i := 0) (oi := { dst := some 19, op := Op.move (Operand.tmp 3), type := 111, pos := "node.go:130", after := #[], guard := none }) (v := ?_) rfl (by kernel_rfl) (by kernel_rfl) (by kernel_rfl) (fun _ _ _ h => h) (Or.inl ⟨by rfl, ?_⟩) (by assumption) ?_
            rotate_left
            · (intro W hW; (try dsimp only at hW); go_simp <;> (with_reducible rfl))
            try simp only [Act.put, List.setIfInBounds_toArray, List.set_cons_zero, List.set_cons_succ]
            refine wpAnyH_take (i := 1) (oi := { dst := some 20, op := Op.move (Operand.tmp 4), type := 3, pos := "node.go:130", after := #[], guard := none }) (v := ?_) rfl (by kernel_rfl) (by kernel_rfl) (by kernel_rfl) (fun _ _ _ h => h) (Or.inl ⟨by rfl, ?_⟩) (by assumption) ?_
            rotate_left
            · (intro W hW; (try dsimp only at hW); go_simp <;> (with_reducible rfl))
            try simp only [Act.put, List.setIfInBounds_toArray, List.set_cons_zero, List.set_cons_succ]
            refine wpAnyH_take (i := 2) (oi := { dst := some 21, op := Op.load 76 (Operand.tmp 5), type := 76, pos := "node.go:130", after := #[], guard := none }) (v := ?_) rfl (by kernel_rfl) (by kernel_rfl) (by kernel_rfl) (fun _ _ _ h => h) (Or.inl ⟨by rfl, ?_⟩) (by assumption) ?_
            rotate_left
            · (intro W hW; (try dsimp only at hW); go_simp <;> (with_reducible rfl))
            try simp only [Act.put, List.setIfInBounds_toArray, List.set_cons_zero, List.set_cons_succ]
            refine wpAnyH_ready (rs := [3]) (by kernel_rfl) (by simp) (AllReadyH.cons (o := { dst := some 22, op := Op.call { callee := Callee.invoke (Operand.tmp 19) "jalousie/node.may", args := #[Operand.tmp 20, Operand.tmp 21], argTypes := #[3, 76] }, type := 4, pos := "node.go:130", after := #[{ on := 0, ground := Ground.data }, { on := 1, ground := Ground.data }, { on := 2, ground := Ground.data }], guard := none }) rfl (fun K hK => ?_) AllReadyH.nil)
            rw [if_pos (by rfl)]
            go_wp2_with (first | (go_at_call 104; (with_reducible refine (M1 _).mono ?_); rintro e1 w7 ⟨rfl, hb7⟩; have hC7 := hC.trans (hb7.mono hC.size)))
            refine hK.out _ _ (by with_reducible assumption) (fun hHeld => ?_)
            clear hK K
            try simp only [Act.put, List.setIfInBounds_toArray, List.set_cons_zero, List.set_cons_succ]
            refine wpAnyH_take (i := 4) (oi := { dst := some 23, op := Op.unOp UnOp.not 4 (Operand.tmp 22), type := 4, pos := "node.go:130", after := #[{ on := 3, ground := Ground.data }], guard := none }) (v := ?_) rfl (by kernel_rfl) (by kernel_rfl) (by kernel_rfl) (fun _ _ _ h => h) (Or.inl ⟨by rfl, ?_⟩) (by assumption) ?_
            rotate_left
            · (intro W hW; (try dsimp only at hW); go_simp <;> (with_reducible rfl))
            try simp only [Act.put, List.setIfInBounds_toArray, List.set_cons_zero, List.set_cons_succ]
            refine wpAnyH_take (i := 5) (oi := { dst := some 24, op := Op.move (Operand.tmp 23), type := 4, pos := "node.go:130", after := #[{ on := 4, ground := Ground.data }, { on := 3, ground := Ground.chain }], guard := none }) (v := ?_) rfl (by kernel_rfl) (by kernel_rfl) (by kernel_rfl) (fun _ _ _ h => h) (Or.inl ⟨by rfl, ?_⟩) (by assumption) ?_
            rotate_left
            · (intro W hW; (try dsimp only at hW); go_simp <;> (with_reducible rfl))
            try simp only [Act.put, List.setIfInBounds_toArray, List.set_cons_zero, List.set_cons_succ]
            refine wpAnyH_take (i := 6) (oi := { dst := some 25, op := Op.move (Operand.tmp 4), type := 3, pos := "node.go:130", after := #[{ on := 5, ground := Ground.guard }], guard := some (5, false) }) (v := ?_) rfl (by kernel_rfl) (by kernel_rfl) (by kernel_rfl) (fun _ _ _ h => h) (Or.inl ⟨by rfl, ?_⟩) (by assumption) ?_
            rotate_left
            · (intro W hW; (try dsimp only at hW); go_simp <;> (with_reducible rfl))
            try simp only [Act.put, List.setIfInBounds_toArray, List.set_cons_zero, List.set_cons_succ]
            refine wpAnyH_take (i := 7) (oi := { dst := some 26, op := Op.binOp BinOp.gtr 3 (Operand.tmp 25) (Operand.const (Value.int IntKind.i64 0)) 3, type := 4, pos := "node.go:130", after := #[{ on := 6, ground := Ground.data }, { on := 5, ground := Ground.guard }], guard := some (5, false) }) (v := ?_) rfl (by kernel_rfl) (by kernel_rfl) (by kernel_rfl) (fun _ _ _ h => h) (Or.inl ⟨by rfl, ?_⟩) (by assumption) ?_
            rotate_left
            · (intro W hW; (try dsimp only at hW); go_simp <;> (with_reducible rfl))
            try simp only [Act.put, List.setIfInBounds_toArray, List.set_cons_zero, List.set_cons_succ]
            refine wpAnyH_take (i := 8) (oi := { dst := some 27, op := Op.move (Operand.tmp 26), type := 4, pos := "node.go:130", after := #[{ on := 7, ground := Ground.data }, { on := 5, ground := Ground.chain }, { on := 5, ground := Ground.guard }], guard := some (5, false) }) (v := ?_) rfl (by kernel_rfl) (by kernel_rfl) (by kernel_rfl) (fun _ _ _ h => h) (Or.inl ⟨by rfl, ?_⟩) (by assumption) ?_
            rotate_left
            · (intro W hW; (try dsimp only at hW); go_simp <;> (with_reducible rfl))
            try simp only [Act.put, List.setIfInBounds_toArray, List.set_cons_zero, List.set_cons_succ]
            refine wpAnyH_take (i := 9) (oi := { dst := some 28, op := Op.fieldAddr 76 (Operand.tmp 5) 0, type := 0, pos := "node.go:130", after := #[{ on := 8, ground := Ground.guard }], guard := some (8, true) }) (v := ?_) rfl (by kernel_rfl) (by kernel_rfl) (by kernel_rfl) (fun _ _ _ h => h) (Or.inl ⟨by rfl, ?_⟩) (by assumption) ?_
            rotate_left
            · (intro W hW; (try dsimp only at hW); go_simp <;> (with_reducible rfl))
            try simp only [Act.put, List.setIfInBounds_toArray, List.set_cons_zero, List.set_cons_succ]
            refine wpAnyH_take (i := 10) (oi := { dst := some 29, op := Op.load 9 (Operand.tmp 28), type := 9, pos := "node.go:130", after := #[{ on := 9, ground := Ground.data }, { on := 8, ground := Ground.guard }], guard := some (8, true) }) (v := ?_) rfl (by kernel_rfl) (by kernel_rfl) (by kernel_rfl) (fun _ _ _ h => h) (Or.inl ⟨by rfl, ?_⟩) (by assumption) ?_
            rotate_left
            · (intro W hW; (try dsimp only at hW); go_simp <;> (with_reducible rfl))
            try simp only [Act.put, List.setIfInBounds_toArray, List.set_cons_zero, List.set_cons_succ]
            refine wpAnyH_take (i := 11) (oi := { dst := some 30, op := Op.fieldAddr 52 (Operand.tmp 1) 1, type := 0, pos := "node.go:130", after := #[{ on := 8, ground := Ground.guard }], guard := some (8, true) }) (v := ?_) rfl (by kernel_rfl) (by kernel_rfl) (by kernel_rfl) (fun _ _ _ h => h) (Or.inl ⟨by rfl, ?_⟩) (by assumption) ?_
            rotate_left
            · (intro W hW; (try dsimp only at hW); go_simp <;> (with_reducible rfl))
            try simp only [Act.put, List.setIfInBounds_toArray, List.set_cons_zero, List.set_cons_succ]
            refine wpAnyH_take (i := 12) (oi := { dst := some 31, op := Op.load 50 (Operand.tmp 30), type := 50, pos := "node.go:130", after := #[{ on := 11, ground := Ground.data }, { on := 8, ground := Ground.guard }], guard := some (8, true) }) (v := ?_) rfl (by kernel_rfl) (by kernel_rfl) (by kernel_rfl) (fun _ _ _ h => h) (Or.inl ⟨by rfl, ?_⟩) (by assumption) ?_
            rotate_left
            · (intro W hW; (try dsimp only at hW); go_simp <;> (with_reducible rfl))
            try simp only [Act.put, List.setIfInBounds_toArray, List.set_cons_zero, List.set_cons_succ]
            refine wpAnyH_take (i := 13) (oi := { dst := some 32, op := Op.move (Operand.tmp 4), type := 3, pos := "node.go:130", after := #[{ on := 8, ground := Ground.guard }], guard := some (8, true) }) (v := ?_) rfl (by kernel_rfl) (by kernel_rfl) (by kernel_rfl) (fun _ _ _ h => h) (Or.inl ⟨by rfl, ?_⟩) (by assumption) ?_
            rotate_left
            · (intro W hW; (try dsimp only at hW); go_simp <;> (with_reducible rfl))
            try simp only [Act.put, List.setIfInBounds_toArray, List.set_cons_zero, List.set_cons_succ]
            refine wpAnyH_take (i := 14) (oi := { dst := some 33, op := Op.binOp BinOp.sub 3 (Operand.tmp 32) (Operand.const (Value.int IntKind.i64 1)) 3, type := 3, pos := "node.go:130", after := #[{ on := 13, ground := Ground.data }, { on := 8, ground := Ground.guard }], guard := some (8, true) }) (v := ?_) rfl (by kernel_rfl) (by kernel_rfl) (by kernel_rfl) (fun _ _ _ h => h) (Or.inl ⟨by rfl, ?_⟩) (by assumption) ?_
            rotate_left
            · (intro W hW; (try dsimp only at hW); go_simp <;> (with_reducible rfl))
            try simp only [Act.put, List.setIfInBounds_toArray, List.set_cons_zero, List.set_cons_succ]
            refine wpAnyH_take (i := 15) (oi := { dst := some 34, op := Op.indexAddr 50 (Operand.tmp 31) (Operand.tmp 33), type := 0, pos := "node.go:130", after := #[{ on := 12, ground := Ground.data }, { on := 14, ground := Ground.data }, { on := 8, ground := Ground.guard }], guard := some (8, true) }) (v := ?_) rfl (by kernel_rfl) (by kernel_rfl) (by kernel_rfl) (fun _ _ _ h => h) (Or.inl ⟨by rfl, ?_⟩) (by assumption) ?_
            rotate_left
            · (intro W hW; (try dsimp only at hW); go_simp <;> (with_reducible rfl))
            try simp only [Act.put, List.setIfInBounds_toArray, List.set_cons_zero, List.set_cons_succ]
            refine wpAnyH_take (i := 16) (oi := { dst := some 35, op := Op.fieldAddr 76 (Operand.tmp 34) 0, type := 0, pos := "node.go:130", after := #[{ on := 15, ground := Ground.data }, { on := 8, ground := Ground.guard }], guard := some (8, true) }) (v := ?_) rfl (by kernel_rfl) (by kernel_rfl) (by kernel_rfl) (fun _ _ _ h => h) (Or.inl ⟨by rfl, ?_⟩) (by assumption) ?_
            rotate_left
            · (intro W hW; (try dsimp only at hW); go_simp <;> (with_reducible rfl))
            try simp only [Act.put, List.setIfInBounds_toArray, List.set_cons_zero, List.set_cons_succ]
            refine wpAnyH_take (i := 17) (oi := { dst := some 36, op := Op.load 9 (Operand.tmp 35), type := 9, pos := "node.go:130", after := #[{ on := 16, ground := Ground.data }, { on := 8, ground := Ground.guard }], guard := some (8, true) }) (v := ?_) rfl (by kernel_rfl) (by kernel_rfl) (by kernel_rfl) (fun _ _ _ h => h) (Or.inl ⟨by rfl, ?_⟩) (by assumption) ?_
            rotate_left
            · (intro W hW; (try dsimp only at hW); go_simp <;> (with_reducible rfl))
            try simp only [Act.put, List.setIfInBounds_toArray, List.set_cons_zero, List.set_cons_succ]
            refine wpAnyH_take (i := 18) (oi := { dst := some 37, op := Op.binOp BinOp.leq 9 (Operand.tmp 29) (Operand.tmp 36) 9, type := 4, pos := "node.go:130", after := #[{ on := 10, ground := Ground.data }, { on := 17, ground := Ground.data }, { on := 8, ground := Ground.guard }], guard := some (8, true) }) (v := ?_) rfl (by kernel_rfl) (by kernel_rfl) (by kernel_rfl) (fun _ _ _ h => h) (Or.inl ⟨by rfl, ?_⟩) (by assumption) ?_
            rotate_left
            · (intro W hW; (try dsimp only at hW); go_simp <;> (with_reducible rfl))
            try simp only [Act.put, List.setIfInBounds_toArray, List.set_cons_zero, List.set_cons_succ]
            refine wpAnyH_take (i := 19) (oi := { dst := some 38, op := Op.pick (Operand.tmp 27) (Operand.tmp 37) (Operand.const (Value.bool false)), type := 4, pos := "node.go:130", after := #[{ on := 8, ground := Ground.data }, { on := 18, ground := Ground.data }, { on := 5, ground := Ground.guard }], guard := some (5, false) }) (v := ?_) rfl (by kernel_rfl) (by kernel_rfl) (by kernel_rfl) (fun _ _ _ h => h) (Or.inl ⟨by rfl, ?_⟩) (by assumption) ?_
            rotate_left
            · (intro W hW; (try dsimp only at hW); go_simp <;> (with_reducible rfl))
            try simp only [Act.put, List.setIfInBounds_toArray, List.set_cons_zero, List.set_cons_succ]
            refine wpAnyH_take (i := 20) (oi := { dst := some 39, op := Op.pick (Operand.tmp 24) (Operand.const (Value.bool true)) (Operand.tmp 38), type := 4, pos := "node.go:130", after := #[{ on := 5, ground := Ground.data }, { on := 19, ground := Ground.data }], guard := none }) (v := ?_) rfl (by kernel_rfl) (by kernel_rfl) (by kernel_rfl) (fun _ _ _ h => h) (Or.inl ⟨by rfl, ?_⟩) (by assumption) ?_
            rotate_left
            · (intro W hW; (try dsimp only at hW); go_simp <;> (with_reducible rfl))
            try simp only [Act.put, List.setIfInBounds_toArray, List.set_cons_zero, List.set_cons_succ]
            refine wpAnyH_done (by kernel_rfl) ?_ _
            refine NoPanic.normal ?_
            have hb8 := below_then hbw6 hC7
            have B8 := (B6.step hC7).sub (m := [(w.heap.size, [.bool true, .slice (some ⟨b, off, none⟩) len cap])]) (by intro p hp; simp at hp; subst hp; simp)
            clear c0 c1 c2 c3 c4 d1 p0 hC hC7 hb7 B6 hr6 hp6 hbl6 hlq hsub
            go_wp2_with fail
            go_roundw
            case rel => exact ⟨k + 1, by omega, by go_num, HU.out, B8, hb8⟩
            case measure => simp [intOf]; omega
    · obtain rfl : k = len := by omega
      have hup2 : upN true l l.length = true := by rw [hll.out]; exact hup
      have hsm := HI.out
      have hr := h.below (Nat.le_refl _) hbw
      have hlens := cellsN_lens true 1000000 l (fun e he => (hsm e he).2)
      rw [hll.out] at hlens
      have hlb : lens (cellsN true l) ≤ 65553104896 := by omega
      have LE := fun W => leastL_any W
      have CE : ∀ W, Below wr.heap.size wr W → Calls Tryd.prog 32 #[.agg #[.bool true, .slice a k cap]] W (BssPost W (cellsN true l)) := fun W hW => cells_any true a k cap l W (hr.below (Nat.le_refl _) hW) hlen (fun e he => by have := hsm e he; omega)
      have CS : ∀ W a2 n2 c2, n2 = (cellsN true l).length → Bss W a2 n2 c2 (cellsN true l) → Calls Tryd.prog 59 #[.slice a2 n2 c2] W fun e w' => e = .returned (.int .i64 ((k + lens (cellsN true l) : Nat) : Int)) ∧ W = w' := fun W a2 n2 c2 h1 h2 => by
        have hk2 : n2 = k := by rw [h1, cellsN_length, hll.out]
        subst hk2
        exact csize_any a2 n2 c2 (cellsN true l) W h2 (by omega)
      have d0 : ∀ W, Below wr.heap.size wr W → W.cell? ⟨w.heap.size, 0, none⟩ = some (.bool true) := fun W hW => (BX.step hW).cell 0 0 rfl rfl
      have d1 : ∀ W, Below wr.heap.size wr W → W.cell? ⟨w.heap.size, 1, none⟩ = some (.slice a k cap) := fun W hW => (BX.step hW).cell 0 1 rfl rfl
      have hC : Below wr.heap.size wr wr.drew := (Below.refl _ _).drew
      have hN : nodeB true l = (decide (1 ≤ k) && decide (k + lens (cellsN true l) ≤ 122)) := by rw [nodeB, hup2, hll.out]; rfl
      have HN := Lib.hid hN
      have hml := m_leastL
      clear hN hup hup2 hsm hlens hlb BX hr
      by_cases hge : 1 ≤ k
      · have hg1 : decide ((1 : Int) ≤ (k : Int)) = true := by simp; omega
        have hg2 : decide (1 ≤ k) = true := by simp; omega
        have hg3 : (1 : Int) ≤ (k : Int) := by omega
        go_wp2_with fail
        refine wp_region_noPanic ?_
        refine wp_region_held_drew (S := fun W => Below wr.heap.size wr W) (by kernel_rfl) (by with_reducible assumption) (fun hHeld => ?_)
        refine wpAnyH_take (i := 0) (oi := { dst := some 41, op := Op.fieldAddr 52 (Operand.tmp 1) 1, type := 0, pos := "node.go:134", after := #[], guard := none }) (v := ?_) rfl (by kernel_rfl) (by kernel_rfl) (by kernel_rfl) (fun _ _ _ h => h) (Or.inl ⟨by rfl, ?_⟩) (by assumption) ?_
        rotate_left
        · (intro W hW; (try dsimp only at hW); go_simp <;> (with_reducible rfl))
        try simp only [Act.put, List.setIfInBounds_toArray, List.set_cons_zero, List.set_cons_succ]
        refine wpAnyH_take (i := 1) (oi := { dst := some 42, op := Op.load 50 (Operand.tmp 41), type := 50, pos := "node.go:134", after := #[{ on := 0, ground := Ground.data }], guard := none }) (v := ?_) rfl (by kernel_rfl) (by kernel_rfl) (by kernel_rfl) (fun _ _ _ h => h) (Or.inl ⟨by rfl, ?_⟩) (by assumption) ?_
        rotate_left
        · (intro W hW; (try dsimp only at hW); go_simp <;> (with_reducible rfl))
        try simp only [Act.put, List.setIfInBounds_toArray, List.set_cons_zero, List.set_cons_succ]
        refine wpAnyH_take (i := 2) (oi := { dst := some 43, op := Op.call { callee := Callee.builtin Builtin.len, args := #[Operand.tmp 42], argTypes := #[50] }, type := 3, pos := "node.go:134", after := #[{ on := 1, ground := Ground.data }], guard := none }) (v := ?_) rfl (by kernel_rfl) (by kernel_rfl) (by kernel_rfl) (fun _ _ _ h => h) (Or.inl ⟨by rfl, ?_⟩) (by assumption) ?_
        rotate_left
        · (intro W hW; (try dsimp only at hW); go_simp <;> (with_reducible rfl))
        try simp only [Act.put, List.setIfInBounds_toArray, List.set_cons_zero, List.set_cons_succ]
        refine wpAnyH_take (i := 3) (oi := { dst := some 44, op := Op.move (Operand.tmp 3), type := 111, pos := "node.go:134", after := #[], guard := none }) (v := ?_) rfl (by kernel_rfl) (by kernel_rfl) (by kernel_rfl) (fun _ _ _ h => h) (Or.inl ⟨by rfl, ?_⟩) (by assumption) ?_
        rotate_left
        · (intro W hW; (try dsimp only at hW); go_simp <;> (with_reducible rfl))
        try simp only [Act.put, List.setIfInBounds_toArray, List.set_cons_zero, List.set_cons_succ]
        refine wpAnyH_ready (rs := [4]) (by kernel_rfl) (by simp) (AllReadyH.cons (o := { dst := some 45, op := Op.call { callee := Callee.invoke (Operand.tmp 44) "jalousie/node.least", args := #[], argTypes := #[] }, type := 3, pos := "node.go:134", after := #[{ on := 3, ground := Ground.data }], guard := none }) rfl (fun K hK => ?_) AllReadyH.nil)
        rw [if_pos (by rfl)]
        go_wp2_with (first | (go_at_call 103; (with_reducible refine (LE _).mono ?_); rintro e1 w7 ⟨rfl, hb7⟩; have hC7 := hC.trans (hb7.mono hC.size)))
        refine hK.out _ _ (by with_reducible assumption) (fun hHeld => ?_)
        clear hK K
        try simp only [Act.put, List.setIfInBounds_toArray, List.set_cons_zero, List.set_cons_succ]
        refine wpAnyH_take (i := 5) (oi := { dst := some 46, op := Op.binOp BinOp.geq 3 (Operand.tmp 43) (Operand.tmp 45) 3, type := 4, pos := "node.go:134", after := #[{ on := 2, ground := Ground.data }, { on := 4, ground := Ground.data }], guard := none }) (v := ?_) rfl (by kernel_rfl) (by kernel_rfl) (by kernel_rfl) (fun _ _ _ h => h) (Or.inl ⟨by rfl, ?_⟩) (by assumption) ?_
        rotate_left
        · (intro W hW; (try dsimp only at hW); go_simp <;> (with_reducible rfl))
        try simp only [Act.put, List.setIfInBounds_toArray, List.set_cons_zero, List.set_cons_succ]
        refine wpAnyH_take (i := 6) (oi := { dst := some 47, op := Op.move (Operand.tmp 46), type := 4, pos := "node.go:134", after := #[{ on := 5, ground := Ground.data }, { on := 4, ground := Ground.chain }], guard := none }) (v := ?_) rfl (by kernel_rfl) (by kernel_rfl) (by kernel_rfl) (fun _ _ _ h => h) (Or.inl ⟨by rfl, ?_⟩) (by assumption) ?_
        rotate_left
        · (intro W hW; (try dsimp only at hW); go_simp <;> (with_reducible rfl))
        try simp only [Act.put, List.setIfInBounds_toArray, List.set_cons_zero, List.set_cons_succ]
        refine wpAnyH_take (i := 7) (oi := { dst := some 48, op := Op.load 52 (Operand.tmp 1), type := 52, pos := "node.go:134", after := #[{ on := 6, ground := Ground.guard }], guard := some (6, true) }) (v := ?_) rfl (by kernel_rfl) (by kernel_rfl) (by kernel_rfl) (fun _ _ _ h => h) (Or.inl ⟨by rfl, ?_⟩) (by assumption) ?_
        rotate_left
        · (intro W hW; (try dsimp only at hW); go_simp <;> (with_reducible rfl))
        try simp only [Act.put, List.setIfInBounds_toArray, List.set_cons_zero, List.set_cons_succ]
        refine wpAnyH_ready (rs := [8]) (by kernel_rfl) (by simp) (AllReadyH.cons (o := { dst := some 49, op := Op.call { callee := Callee.value (Operand.func 32), args := #[Operand.tmp 48], argTypes := #[52] }, type := 46, pos := "node.go:134", after := #[{ on := 7, ground := Ground.data }, { on := 6, ground := Ground.chain }, { on := 6, ground := Ground.guard }], guard := some (6, true) }) rfl (fun K hK => ?_) AllReadyH.nil)
        rw [if_pos (by rfl)]
        go_wp2_with (first | (go_at_call 32; (with_reducible refine (CE _ hC7).mono ?_); rintro e1 w9 ⟨v9, rfl, ho9, hb9⟩; have hC9 := hC7.trans (hb9.mono hC7.size); obtain ⟨a9, c9, rfl, hs9⟩ := ho9.bss))
        refine hK.out _ _ (by with_reducible assumption) (fun hHeld => ?_)
        clear hK K
        try simp only [Act.put, List.setIfInBounds_toArray, List.set_cons_zero, List.set_cons_succ]
        refine wpAnyH_ready (rs := [9]) (by kernel_rfl) (by simp) (AllReadyH.cons (o := { dst := some 50, op := Op.call { callee := Callee.value (Operand.func 59), args := #[Operand.tmp 49], argTypes := #[46] }, type := 3, pos := "node.go:134", after := #[{ on := 8, ground := Ground.data }, { on := 8, ground := Ground.chain }, { on := 6, ground := Ground.guard }], guard := some (6, true) }) rfl (fun K hK => ?_) AllReadyH.nil)
        rw [if_pos (by rfl)]
        go_wp2_with (first | (go_at_call 59; (with_reducible refine (CS _ _ _ _ rfl hs9).mono ?_); rintro e1 w10 ⟨rfl, rfl⟩))
        refine hK.out _ _ (by with_reducible assumption) (fun hHeld => ?_)
        clear hK K
        try simp only [Act.put, List.setIfInBounds_toArray, List.set_cons_zero, List.set_cons_succ]
        refine wpAnyH_take (i := 10) (oi := { dst := some 51, op := Op.binOp BinOp.leq 3 (Operand.tmp 50) (Operand.const (Value.int IntKind.i64 122)) 3, type := 4, pos := "node.go:134", after := #[{ on := 9, ground := Ground.data }, { on := 6, ground := Ground.guard }], guard := some (6, true) }) (v := ?_) rfl (by kernel_rfl) (by kernel_rfl) (by kernel_rfl) (fun _ _ _ h => h) (Or.inl ⟨by rfl, ?_⟩) (by assumption) ?_
        rotate_left
        · (intro W hW; (try dsimp only at hW); go_simp <;> (with_reducible rfl))
        try simp only [Act.put, List.setIfInBounds_toArray, List.set_cons_zero, List.set_cons_succ]
        refine wpAnyH_take (i := 11) (oi := { dst := some 52, op := Op.pick (Operand.tmp 47) (Operand.tmp 51) (Operand.const (Value.bool false)), type := 4, pos := "node.go:134", after := #[{ on := 6, ground := Ground.data }, { on := 10, ground := Ground.data }], guard := none }) (v := ?_) rfl (by kernel_rfl) (by kernel_rfl) (by kernel_rfl) (fun _ _ _ h => h) (Or.inl ⟨by rfl, ?_⟩) (by assumption) ?_
        rotate_left
        · (intro W hW; (try dsimp only at hW); go_simp <;> (with_reducible rfl))
        try simp only [Act.put, List.setIfInBounds_toArray, List.set_cons_zero, List.set_cons_succ]
        refine wpAnyH_take (i := 12) (oi := { dst := some 2, op := Op.assign (Operand.tmp 52), type := 4, pos := "node.go:134", after := #[{ on := 11, ground := Ground.data }, { on := 9, ground := Ground.chain }, { on := 0, ground := Ground.phase }, { on := 1, ground := Ground.phase }, { on := 2, ground := Ground.phase }, { on := 3, ground := Ground.phase }, { on := 4, ground := Ground.phase }, { on := 5, ground := Ground.phase }, { on := 6, ground := Ground.phase }, { on := 7, ground := Ground.phase }, { on := 8, ground := Ground.phase }, { on := 9, ground := Ground.phase }, { on := 10, ground := Ground.phase }, { on := 11, ground := Ground.phase }], guard := none }) (v := ?_) rfl (by kernel_rfl) (by kernel_rfl) (by kernel_rfl) (fun _ _ _ h => h) (Or.inl ⟨by rfl, ?_⟩) (by assumption) ?_
        rotate_left
        · (intro W hW; (try dsimp only at hW); go_simp <;> (with_reducible rfl))
        try simp only [Act.put, List.setIfInBounds_toArray, List.set_cons_zero, List.set_cons_succ]
        refine wpAnyH_done (by kernel_rfl) ?_ _
        refine NoPanic.normal ?_
        have hb8 := below_then hbw hC9
        go_wp2_with fail
        go_ret
        exact ⟨ret_bool (by rw [HN.out, hg2, Bool.true_and]; exact decide_eq_decide.2 (by omega)), hb8⟩
      · have hg1 : decide ((1 : Int) ≤ (k : Int)) = false := by simp; omega
        have hg2 : decide (1 ≤ k) = false := by simp; omega
        go_wp2_with fail
        refine wp_region_noPanic ?_
        refine wp_region_held_drew (S := fun W => Below wr.heap.size wr W) (by kernel_rfl) (by with_reducible assumption) (fun hHeld => ?_)
        refine wpAnyH_take (i := 0) (oi := { dst := some 41, op := Op.fieldAddr 52 (Operand.tmp 1) 1, type := 0, pos := "node.go:134", after := #[], guard := none }) (v := ?_) rfl (by kernel_rfl) (by kernel_rfl) (by kernel_rfl) (fun _ _ _ h => h) (Or.inl ⟨by rfl, ?_⟩) (by assumption) ?_
        rotate_left
        · (intro W hW; (try dsimp only at hW); go_simp <;> (with_reducible rfl))
        try simp only [Act.put, List.setIfInBounds_toArray, List.set_cons_zero, List.set_cons_succ]
        refine wpAnyH_take (i := 1) (oi := { dst := some 42, op := Op.load 50 (Operand.tmp 41), type := 50, pos := "node.go:134", after := #[{ on := 0, ground := Ground.data }], guard := none }) (v := ?_) rfl (by kernel_rfl) (by kernel_rfl) (by kernel_rfl) (fun _ _ _ h => h) (Or.inl ⟨by rfl, ?_⟩) (by assumption) ?_
        rotate_left
        · (intro W hW; (try dsimp only at hW); go_simp <;> (with_reducible rfl))
        try simp only [Act.put, List.setIfInBounds_toArray, List.set_cons_zero, List.set_cons_succ]
        refine wpAnyH_take (i := 2) (oi := { dst := some 43, op := Op.call { callee := Callee.builtin Builtin.len, args := #[Operand.tmp 42], argTypes := #[50] }, type := 3, pos := "node.go:134", after := #[{ on := 1, ground := Ground.data }], guard := none }) (v := ?_) rfl (by kernel_rfl) (by kernel_rfl) (by kernel_rfl) (fun _ _ _ h => h) (Or.inl ⟨by rfl, ?_⟩) (by assumption) ?_
        rotate_left
        · (intro W hW; (try dsimp only at hW); go_simp <;> (with_reducible rfl))
        try simp only [Act.put, List.setIfInBounds_toArray, List.set_cons_zero, List.set_cons_succ]
        refine wpAnyH_take (i := 3) (oi := { dst := some 44, op := Op.move (Operand.tmp 3), type := 111, pos := "node.go:134", after := #[], guard := none }) (v := ?_) rfl (by kernel_rfl) (by kernel_rfl) (by kernel_rfl) (fun _ _ _ h => h) (Or.inl ⟨by rfl, ?_⟩) (by assumption) ?_
        rotate_left
        · (intro W hW; (try dsimp only at hW); go_simp <;> (with_reducible rfl))
        try simp only [Act.put, List.setIfInBounds_toArray, List.set_cons_zero, List.set_cons_succ]
        refine wpAnyH_ready (rs := [4]) (by kernel_rfl) (by simp) (AllReadyH.cons (o := { dst := some 45, op := Op.call { callee := Callee.invoke (Operand.tmp 44) "jalousie/node.least", args := #[], argTypes := #[] }, type := 3, pos := "node.go:134", after := #[{ on := 3, ground := Ground.data }], guard := none }) rfl (fun K hK => ?_) AllReadyH.nil)
        rw [if_pos (by rfl)]
        go_wp2_with (first | (go_at_call 103; (with_reducible refine (LE _).mono ?_); rintro e1 w7 ⟨rfl, hb7⟩; have hC7 := hC.trans (hb7.mono hC.size)))
        refine hK.out _ _ (by with_reducible assumption) (fun hHeld => ?_)
        clear hK K
        try simp only [Act.put, List.setIfInBounds_toArray, List.set_cons_zero, List.set_cons_succ]
        refine wpAnyH_take (i := 5) (oi := { dst := some 46, op := Op.binOp BinOp.geq 3 (Operand.tmp 43) (Operand.tmp 45) 3, type := 4, pos := "node.go:134", after := #[{ on := 2, ground := Ground.data }, { on := 4, ground := Ground.data }], guard := none }) (v := ?_) rfl (by kernel_rfl) (by kernel_rfl) (by kernel_rfl) (fun _ _ _ h => h) (Or.inl ⟨by rfl, ?_⟩) (by assumption) ?_
        rotate_left
        · (intro W hW; (try dsimp only at hW); go_simp <;> (with_reducible rfl))
        try simp only [Act.put, List.setIfInBounds_toArray, List.set_cons_zero, List.set_cons_succ]
        refine wpAnyH_take (i := 6) (oi := { dst := some 47, op := Op.move (Operand.tmp 46), type := 4, pos := "node.go:134", after := #[{ on := 5, ground := Ground.data }, { on := 4, ground := Ground.chain }], guard := none }) (v := ?_) rfl (by kernel_rfl) (by kernel_rfl) (by kernel_rfl) (fun _ _ _ h => h) (Or.inl ⟨by rfl, ?_⟩) (by assumption) ?_
        rotate_left
        · (intro W hW; (try dsimp only at hW); go_simp <;> (with_reducible rfl))
        try simp only [Act.put, List.setIfInBounds_toArray, List.set_cons_zero, List.set_cons_succ]
        refine wpAnyH_take (i := 7) (oi := { dst := some 48, op := Op.load 52 (Operand.tmp 1), type := 52, pos := "node.go:134", after := #[{ on := 6, ground := Ground.guard }], guard := some (6, true) }) rfl (by kernel_rfl) (by kernel_rfl) (by kernel_rfl) (fun _ _ _ h => h) (Or.inr ⟨by rfl, rfl⟩) (by assumption) ?_
        try simp only [Act.put, List.setIfInBounds_toArray, List.set_cons_zero, List.set_cons_succ]
        refine wpAnyH_take (i := 8) (oi := { dst := some 49, op := Op.call { callee := Callee.value (Operand.func 32), args := #[Operand.tmp 48], argTypes := #[52] }, type := 46, pos := "node.go:134", after := #[{ on := 7, ground := Ground.data }, { on := 6, ground := Ground.chain }, { on := 6, ground := Ground.guard }], guard := some (6, true) }) rfl (by kernel_rfl) (by kernel_rfl) (by kernel_rfl) (fun _ _ _ h => h) (Or.inr ⟨by rfl, rfl⟩) (by assumption) ?_
        try simp only [Act.put, List.setIfInBounds_toArray, List.set_cons_zero, List.set_cons_succ]
        refine wpAnyH_take (i := 9) (oi := { dst := some 50, op := Op.call { callee := Callee.value (Operand.func 59), args := #[Operand.tmp 49], argTypes := #[46] }, type := 3, pos := "node.go:134", after := #[{ on := 8, ground := Ground.data }, { on := 8, ground := Ground.chain }, { on := 6, ground := Ground.guard }], guard := some (6, true) }) rfl (by kernel_rfl) (by kernel_rfl) (by kernel_rfl) (fun _ _ _ h => h) (Or.inr ⟨by rfl, rfl⟩) (by assumption) ?_
        try simp only [Act.put, List.setIfInBounds_toArray, List.set_cons_zero, List.set_cons_succ]
        refine wpAnyH_take (i := 10) (oi := { dst := some 51, op := Op.binOp BinOp.leq 3 (Operand.tmp 50) (Operand.const (Value.int IntKind.i64 122)) 3, type := 4, pos := "node.go:134", after := #[{ on := 9, ground := Ground.data }, { on := 6, ground := Ground.guard }], guard := some (6, true) }) rfl (by kernel_rfl) (by kernel_rfl) (by kernel_rfl) (fun _ _ _ h => h) (Or.inr ⟨by rfl, rfl⟩) (by assumption) ?_
        try simp only [Act.put, List.setIfInBounds_toArray, List.set_cons_zero, List.set_cons_succ]
        refine wpAnyH_take (i := 11) (oi := { dst := some 52, op := Op.pick (Operand.tmp 47) (Operand.tmp 51) (Operand.const (Value.bool false)), type := 4, pos := "node.go:134", after := #[{ on := 6, ground := Ground.data }, { on := 10, ground := Ground.data }], guard := none }) (v := ?_) rfl (by kernel_rfl) (by kernel_rfl) (by kernel_rfl) (fun _ _ _ h => h) (Or.inl ⟨by rfl, ?_⟩) (by assumption) ?_
        rotate_left
        · (intro W hW; (try dsimp only at hW); go_simp <;> (with_reducible rfl))
        try simp only [Act.put, List.setIfInBounds_toArray, List.set_cons_zero, List.set_cons_succ]
        refine wpAnyH_take (i := 12) (oi := { dst := some 2, op := Op.assign (Operand.tmp 52), type := 4, pos := "node.go:134", after := #[{ on := 11, ground := Ground.data }, { on := 9, ground := Ground.chain }, { on := 0, ground := Ground.phase }, { on := 1, ground := Ground.phase }, { on := 2, ground := Ground.phase }, { on := 3, ground := Ground.phase }, { on := 4, ground := Ground.phase }, { on := 5, ground := Ground.phase }, { on := 6, ground := Ground.phase }, { on := 7, ground := Ground.phase }, { on := 8, ground := Ground.phase }, { on := 9, ground := Ground.phase }, { on := 10, ground := Ground.phase }, { on := 11, ground := Ground.phase }], guard := none }) (v := ?_) rfl (by kernel_rfl) (by kernel_rfl) (by kernel_rfl) (fun _ _ _ h => h) (Or.inl ⟨by rfl, ?_⟩) (by assumption) ?_
        rotate_left
        · (intro W hW; (try dsimp only at hW); go_simp <;> (with_reducible rfl))
        try simp only [Act.put, List.setIfInBounds_toArray, List.set_cons_zero, List.set_cons_succ]
        refine wpAnyH_done (by kernel_rfl) ?_ _
        refine NoPanic.normal ?_
        have hb8 := below_then hbw hC7
        go_wp2_with fail
        go_ret
        exact ⟨ret_bool (by rw [HN.out, hg2, Bool.false_and]), hb8⟩

set_option maxRecDepth 100000 in
set_option maxHeartbeats 8000000 in
theorem check_branch (a : Option Addr) (len cap : Nat) (l : List En) (w : World) (h : Ents w a len cap l) (hlen : len ≤ 65536) (hd : SmE l) :
    Calls Tryd.prog 34 #[.agg #[.bool false, .slice a len cap]] w fun e w' => e = .returned (.bool (nodeB false l)) ∧ Below w.heap.size w w' := by
  have hB := below_one w (.cells #[.bool false, .slice a len cap] 52)
  have BX := (Boxes.nil w).alloc #[.bool false, .slice a len cap] 52 rfl
  have SH := fun W => shapes_any W
  have KI : ∀ W, Calls Tryd.prog 55 #[.agg #[.bool false, .slice a len cap]] W fun e w' => e = .returned (.int .u8 2) ∧ Below W.heap.size W w' := fun W => kind_any false (.slice a len cap) W
  go_enter Tryd.func34, Tryd.ntmps34
  go_wp2_with fail
  have h1 := h.below (Nat.le_refl _) hB
  generalize w.alloc _ = W1 at *
  have c0 : ∀ W, Below W1.heap.size W1 W → W.cell? ⟨w.heap.size, 0, none⟩ = some (.bool false) := fun W hW => (BX.step hW).cell 0 0 rfl rfl
  have c1 : ∀ W, Below W1.heap.size W1 W → W.cell? ⟨w.heap.size, 1, none⟩ = some (.slice a len cap) := fun W hW => (BX.step hW).cell 0 1 rfl rfl
  have hC : Below W1.heap.size W1 W1.drew := (Below.refl _ _).drew
  go_upto_region 1 with (fail)
  go_cut [3] (fun s wx => s = .iface 142 (.agg #[]) ∧ Below W1.heap.size W1 wx)
  case first =>
    go_region_with (first | (go_at_call 56; (with_reducible refine (SH _).mono ?_); rintro e w2 ⟨bs, rfl, hs2, hb2⟩; have hC2 := hC.trans (hb2.mono hC.size); have e0 := c0 _ hC2; have e1 := c1 _ hC2) | (go_at_call 55; (with_reducible refine (KI _).mono ?_); rintro e w3 ⟨rfl, hb3⟩; have hC3 := hC2.trans (hb3.mono hC2.size); have q3 := (hs2.step hb3).cell 0 2 rfl rfl))
    all_goals
      go_wp2_with fail
      go_meet
      exact ⟨rfl, hC3⟩
  case rest =>
  obtain ⟨rfl, hC4⟩ := hcut
  have hb := below_then hB hC4
  have BX := BX.step hC4
  have hll := Lib.hid h1.len
  clear c0 c1 hC hC4 h1 hB SH KI
  have d1 := BX.cell 0 1 rfl rfl
  go_wp2_with fail
  clear d1
  have HI := Lib.hid hd
  clear hd
  have HB := Lib.hid hb
  clear hb
  have HX := Lib.hid BX
  clear BX
  go_loopw [14] (fun i wr => ∃ (k : Nat), k ≤ len ∧ i = .int .i64 k ∧ upN false l k = true ∧ Boxes wr [(w.heap.size, [.bool false, .slice a len cap])] ∧ Below w.heap.size w wr) (fun i _ => len - (intOf i).toNat)
  case atStart => exact ⟨0, Nat.zero_le _, rfl, rfl, HX.out, HB.out⟩
  case round =>
    obtain ⟨k, hk, rfl, hup, BX, hbw⟩ := hrel
    have hkl : k < 9223372036854775807 := by omega
    by_cases hlt : k < len
    · obtain ⟨b, off, e, rfl, hbb, hy, e0, e1, e2, e3, e4⟩ := (h.below (Nat.le_refl _) hbw).at hlt
      have B6 := BX.alloc #[.string (strOf e.key), .string (strOf e.v.data), .bool e.v.far, .int .i64 e.v.size, .int .i64 e.v.page] 76 rfl
      have hb6 := below_one wr (.cells #[.string (strOf e.key), .string (strOf e.v.data), .bool e.v.far, .int .i64 e.v.size, .int .i64 e.v.page] 76)
      have hbw6 := below_then hbw hb6
      have hr6 := (h.below (Nat.le_refl _) hbw6)
      obtain ⟨hl1, hl2⟩ := HI.out e (List.mem_of_getElem? hy)
      have M1 : ∀ W, Calls Tryd.prog 113 #[.agg #[], .int .i64 (k : Int), .agg #[.string (strOf e.key), .string (strOf e.v.data), .bool e.v.far, .int .i64 e.v.size, .int .i64 e.v.page]] W fun en w' => en = .returned (.bool (mayN false k e)) ∧ Below W.heap.size W w' := fun W => mayB_any e k W (by omega)
      have hmp := m_mayB
      have hgd : l[k]?.getD ⟨[], Vv.zero⟩ = e := by rw [hy]; rfl
      have hst : stepN false l k = (mayN false k e && !(decide (0 < k) && kle e.key (l[k - 1]?.getD ⟨[], Vv.zero⟩).key)) := by rw [stepN, hgd]
      have hus : upN false l (k + 1) = stepN false l k := by rw [upN_succ, hup, Bool.true_and]
      have HST := Lib.hid hst
      have HUS := Lib.hid hus
      have HGD := Lib.hid hgd
      have hsize : b < wr.heap.size := hbb
      clear hb6 hst hus hup hgd BX hbb
      cases hm : mayN false k e with
      | false =>
        rw [hm] at M1
        have HF : Hid (nodeB false l = false) := Lib.hid (nodeB_step (by rw [hll.out]; exact hlt) (by rw [HST.out, hm]; rfl))
        clear hm
        go_wp2_with fail
        generalize wr.heap.size = bx at *
        generalize wr.alloc _ = W6 at *
        have c0 : ∀ W, Below W6.heap.size W6 W → W.cell? ⟨bx, 0, none⟩ = some (.string (strOf e.key)) := fun W hW => (B6.step hW).cell 0 0 rfl rfl
        have c1 : ∀ W, Below W6.heap.size W6 W → W.cell? ⟨bx, 1, none⟩ = some (.string (strOf e.v.data)) := fun W hW => (B6.step hW).cell 0 1 rfl rfl
        have c2 : ∀ W, Below W6.heap.size W6 W → W.cell? ⟨bx, 2, none⟩ = some (.bool e.v.far) := fun W hW => (B6.step hW).cell 0 2 rfl rfl
        have c3 : ∀ W, Below W6.heap.size W6 W → W.cell? ⟨bx, 3, none⟩ = some (.int .i64 e.v.size) := fun W hW => (B6.step hW).cell 0 3 rfl rfl
        have c4 : ∀ W, Below W6.heap.size W6 W → W.cell? ⟨bx, 4, none⟩ = some (.int .i64 e.v.page) := fun W hW => (B6.step hW).cell 0 4 rfl rfl
        have hC : Below W6.heap.size W6 W6.drew := (Below.refl _ _).drew
        refine wp_region_noPanic ?_
        refine wp_region_held_drew (S := fun W => Below W6.heap.size W6 W) (by kernel_rfl) (by with_reducible assumption) (fun hHeld => ?_)
        refine wpAnyH_take (i := 0) (oi := { dst := some 19, op := Op.move (Operand.tmp 3), type := 111, pos := "node.go:130", after := #[], guard := none }) (v := ?_) rfl (by kernel_rfl) (by kernel_rfl) (by kernel_rfl) (fun _ _ _ h => h) (Or.inl ⟨by rfl, ?_⟩) (by assumption) ?_
        rotate_left
        · (intro W hW; (try dsimp only at hW); go_simp <;> (with_reducible rfl))
        try simp only [Act.put, List.setIfInBounds_toArray, List.set_cons_zero, List.set_cons_succ]
        refine wpAnyH_take (i := 1) (oi := { dst := some 20, op := Op.move (Operand.tmp 4), type := 3, pos := "node.go:130", after := #[], guard := none }) (v := ?_) rfl (by kernel_rfl) (by kernel_rfl) (by kernel_rfl) (fun _ _ _ h => h) (Or.inl ⟨by rfl, ?_⟩) (by assumption) ?_
        rotate_left
        · (intro W hW; (try dsimp only at hW); go_simp <;> (with_reducible rfl))
        try simp only [Act.put, List.setIfInBounds_toArray, List.set_cons_zero, List.set_cons_succ]
        refine wpAnyH_take (i := 2) (oi := { dst := some 21, op := Op.load 76 (Operand.tmp 5), type := 76, pos := "node.go:130", after := #[], guard := none }) (v := ?_) rfl (by kernel_rfl) (by kernel_rfl) (by kernel_rfl) (fun _ _ _ h => h) (Or.inl ⟨by rfl, ?_⟩) (by assumption) ?_
        rotate_left
        · (intro W hW; (try dsimp only at hW); go_simp <;> (with_reducible rfl))
        try simp only [Act.put, List.setIfInBounds_toArray, List.set_cons_zero, List.set_cons_succ]
        refine wpAnyH_ready (rs := [3]) (by kernel_rfl) (by simp) (AllReadyH.cons (o := { dst := some 22, op := Op.call { callee := Callee.invoke (Operand.tmp 19) "jalousie/node.may", args := #[Operand.tmp 20, Operand.tmp 21], argTypes := #[3, 76] }, type := 4, pos := "node.go:130", after := #[{ on := 0, ground := Ground.data }, { on := 1, ground := Ground.data }, { on := 2, ground := Ground.data }], guard := none }) rfl (fun K hK => ?_) AllReadyH.nil)
        rw [if_pos (by rfl)]
        go_wp2_with (first | (go_at_call 113; (with_reducible refine (M1 _).mono ?_); rintro e1 w7 ⟨rfl, hb7⟩; have hC7 := hC.trans (hb7.mono hC.size)))
        refine hK.out _ _ (by with_reducible assumption) (fun hHeld => ?_)
        clear hK K
        try simp only [Act.put, List.setIfInBounds_toArray, List.set_cons_zero, List.set_cons_succ]
        refine wpAnyH_take (i := 4) (oi := { dst := some 23, op := Op.unOp UnOp.not 4 (Operand.tmp 22), type := 4, pos := "node.go:130", after := #[{ on := 3, ground := Ground.data }], guard := none }) (v := ?_) rfl (by kernel_rfl) (by kernel_rfl) (by kernel_rfl) (fun _ _ _ h => h) (Or.inl ⟨by rfl, ?_⟩) (by assumption) ?_
        rotate_left
        · (intro W hW; (try dsimp only at hW); go_simp <;> (with_reducible rfl))
        try simp only [Act.put, List.setIfInBounds_toArray, List.set_cons_zero, List.set_cons_succ]
        refine wpAnyH_take (i := 5) (oi := { dst := some 24, op := Op.move (Operand.tmp 23), type := 4, pos := "node.go:130", after := #[{ on := 4, ground := Ground.data }, { on := 3, ground := Ground.chain }], guard := none }) (v := ?_) rfl (by kernel_rfl) (by kernel_rfl) (by kernel_rfl) (fun _ _ _ h => h) (Or.inl ⟨by rfl, ?_⟩) (by assumption) ?_
        rotate_left
        · (intro W hW; (try dsimp only at hW); go_simp <;> (with_reducible rfl))
        try simp only [Act.put, List.setIfInBounds_toArray, List.set_cons_zero, List.set_cons_succ]
        refine wpAnyH_take (i := 6) (oi := { dst := some 25, op := Op.move (Operand.tmp 4), type := 3, pos := "node.go:130", after := #[{ on := 5, ground := Ground.guard }], guard := some (5, false) }) rfl (by kernel_rfl) (by kernel_rfl) (by kernel_rfl) (fun _ _ _ h => h) (Or.inr ⟨by rfl, rfl⟩) (by assumption) ?_
        try simp only [Act.put, List.setIfInBounds_toArray, List.set_cons_zero, List.set_cons_succ]
        refine wpAnyH_take (i := 7) (oi := { dst := some 26, op := Op.binOp BinOp.gtr 3 (Operand.tmp 25) (Operand.const (Value.int IntKind.i64 0)) 3, type := 4, pos := "node.go:130", after := #[{ on := 6, ground := Ground.data }, { on := 5, ground := Ground.guard }], guard := some (5, false) }) rfl (by kernel_rfl) (by kernel_rfl) (by kernel_rfl) (fun _ _ _ h => h) (Or.inr ⟨by rfl, rfl⟩) (by assumption) ?_
        try simp only [Act.put, List.setIfInBounds_toArray, List.set_cons_zero, List.set_cons_succ]
        refine wpAnyH_take (i := 8) (oi := { dst := some 27, op := Op.move (Operand.tmp 26), type := 4, pos := "node.go:130", after := #[{ on := 7, ground := Ground.data }, { on := 5, ground := Ground.chain }, { on := 5, ground := Ground.guard }], guard := some (5, false) }) rfl (by kernel_rfl) (by kernel_rfl) (by kernel_rfl) (fun _ _ _ h => h) (Or.inr ⟨by rfl, rfl⟩) (by assumption) ?_
        try simp only [Act.put, List.setIfInBounds_toArray, List.set_cons_zero, List.set_cons_succ]
        refine wpAnyH_take (i := 9) (oi := { dst := some 28, op := Op.fieldAddr 76 (Operand.tmp 5) 0, type := 0, pos := "node.go:130", after := #[{ on := 8, ground := Ground.guard }], guard := some (8, true) }) rfl (by kernel_rfl) (by kernel_rfl) (by kernel_rfl) (fun _ _ _ h => h) (Or.inr ⟨by rfl, rfl⟩) (by assumption) ?_
        try simp only [Act.put, List.setIfInBounds_toArray, List.set_cons_zero, List.set_cons_succ]
        refine wpAnyH_take (i := 10) (oi := { dst := some 29, op := Op.load 9 (Operand.tmp 28), type := 9, pos := "node.go:130", after := #[{ on := 9, ground := Ground.data }, { on := 8, ground := Ground.guard }], guard := some (8, true) }) rfl (by kernel_rfl) (by kernel_rfl) (by kernel_rfl) (fun _ _ _ h => h) (Or.inr ⟨by rfl, rfl⟩) (by assumption) ?_
        try simp only [Act.put, List.setIfInBounds_toArray, List.set_cons_zero, List.set_cons_succ]
        refine wpAnyH_take (i := 11) (oi := { dst := some 30, op := Op.fieldAddr 52 (Operand.tmp 1) 1, type := 0, pos := "node.go:130", after := #[{ on := 8, ground := Ground.guard }], guard := some (8, true) }) rfl (by kernel_rfl) (by kernel_rfl) (by kernel_rfl) (fun _ _ _ h => h) (Or.inr ⟨by rfl, rfl⟩) (by assumption) ?_
        try simp only [Act.put, List.setIfInBounds_toArray, List.set_cons_zero, List.set_cons_succ]
        refine wpAnyH_take (i := 12) (oi := { dst := some 31, op := Op.load 50 (Operand.tmp 30), type := 50, pos := "node.go:130", after := #[{ on := 11, ground := Ground.data }, { on := 8, ground := Ground.guard }], guard := some (8, true) }) rfl (by kernel_rfl) (by kernel_rfl) (by kernel_rfl) (fun _ _ _ h => h) (Or.inr ⟨by rfl, rfl⟩) (by assumption) ?_
        try simp only [Act.put, List.setIfInBounds_toArray, List.set_cons_zero, List.set_cons_succ]
        refine wpAnyH_take (i := 13) (oi := { dst := some 32, op := Op.move (Operand.tmp 4), type := 3, pos := "node.go:130", after := #[{ on := 8, ground := Ground.guard }], guard := some (8, true) }) rfl (by kernel_rfl) (by kernel_rfl) (by kernel_rfl) (fun _ _ _ h => h) (Or.inr ⟨by rfl, rfl⟩) (by assumption) ?_
        try simp only [Act.put, List.setIfInBounds_toArray, List.set_cons_zero, List.set_cons_succ]
        refine wpAnyH_take (i := 14) (oi := { dst := some 33, op := Op.binOp BinOp.sub 3 (Operand.tmp 32) (Operand.const (Value.int IntKind.i64 1)) 3, type := 3, pos := "node.go:130", after := #[{ on := 13, ground := Ground.data }, { on := 8, ground := Ground.guard }], guard := some (8, true) }) rfl (by kernel_rfl) (by kernel_rfl) (by kernel_rfl) (fun _ _ _ h => h) (Or.inr ⟨by rfl, rfl⟩) (by assumption) ?_
        try simp only [Act.put, List.setIfInBounds_toArray, List.set_cons_zero, List.set_cons_succ]
        refine wpAnyH_take (i := 15) (oi := { dst := some 34, op := Op.indexAddr 50 (Operand.tmp 31) (Operand.tmp 33), type := 0, pos := "node.go:130", after := #[{ on := 12, ground := Ground.data }, { on := 14, ground := Ground.data }, { on := 8, ground := Ground.guard }], guard := some (8, true) }) rfl (by kernel_rfl) (by kernel_rfl) (by kernel_rfl) (fun _ _ _ h => h) (Or.inr ⟨by rfl, rfl⟩) (by assumption) ?_
        try simp only [Act.put, List.setIfInBounds_toArray, List.set_cons_zero, List.set_cons_succ]
        refine wpAnyH_take (i := 16) (oi := { dst := some 35, op := Op.fieldAddr 76 (Operand.tmp 34) 0, type := 0, pos := "node.go:130", after := #[{ on := 15, ground := Ground.data }, { on := 8, ground := Ground.guard }], guard := some (8, true) }) rfl (by kernel_rfl) (by kernel_rfl) (by kernel_rfl) (fun _ _ _ h => h) (Or.inr ⟨by rfl, rfl⟩) (by assumption) ?_
        try simp only [Act.put, List.setIfInBounds_toArray, List.set_cons_zero, List.set_cons_succ]
        refine wpAnyH_take (i := 17) (oi := { dst := some 36, op := Op.load 9 (Operand.tmp 35), type := 9, pos := "node.go:130", after := #[{ on := 16, ground := Ground.data }, { on := 8, ground := Ground.guard }], guard := some (8, true) }) rfl (by kernel_rfl) (by kernel_rfl) (by kernel_rfl) (fun _ _ _ h => h) (Or.inr ⟨by rfl, rfl⟩) (by assumption) ?_
        try simp only [Act.put, List.setIfInBounds_toArray, List.set_cons_zero, List.set_cons_succ]
        refine wpAnyH_take (i := 18) (oi := { dst := some 37, op := Op.binOp BinOp.leq 9 (Operand.tmp 29) (Operand.tmp 36) 9, type := 4, pos := "node.go:130", after := #[{ on := 10, ground := Ground.data }, { on := 17, ground := Ground.data }, { on := 8, ground := Ground.guard }], guard := some (8, true) }) rfl (by kernel_rfl) (by kernel_rfl) (by kernel_rfl) (fun _ _ _ h => h) (Or.inr ⟨by rfl, rfl⟩) (by assumption) ?_
        try simp only [Act.put, List.setIfInBounds_toArray, List.set_cons_zero, List.set_cons_succ]
        refine wpAnyH_take (i := 19) (oi := { dst := some 38, op := Op.pick (Operand.tmp 27) (Operand.tmp 37) (Operand.const (Value.bool false)), type := 4, pos := "node.go:130", after := #[{ on := 8, ground := Ground.data }, { on := 18, ground := Ground.data }, { on := 5, ground := Ground.guard }], guard := some (5, false) }) rfl (by kernel_rfl) (by kernel_rfl) (by kernel_rfl) (fun _ _ _ h => h) (Or.inr ⟨by rfl, rfl⟩) (by assumption) ?_
        try simp only [Act.put, List.setIfInBounds_toArray, List.set_cons_zero, List.set_cons_succ]
        refine wpAnyH_take (i := 20) (oi := { dst := some 39, op := Op.pick (Operand.tmp 24) (Operand.const (Value.bool true)) (Operand.tmp 38), type := 4, pos := "node.go:130", after := #[{ on := 5, ground := Ground.data }, { on := 19, ground := Ground.data }], guard := none }) (v := ?_) rfl (by kernel_rfl) (by kernel_rfl) (by kernel_rfl) (fun _ _ _ h => h) (Or.inl ⟨by rfl, ?_⟩) (by assumption) ?_
        rotate_left
        · (intro W hW; (try dsimp only at hW); go_simp <;> (with_reducible rfl))
        try simp only [Act.put, List.setIfInBounds_toArray, List.set_cons_zero, List.set_cons_succ]
        refine wpAnyH_done (by kernel_rfl) ?_ _
        refine NoPanic.normal ?_
        have hb8 := below_then hbw6 hC7
        go_wp2_with fail
        go_ret
        exact ⟨ret_bool HF.out.symm, hb8⟩
      | true =>
        rw [hm] at M1
        by_cases hk0 : k = 0
        · subst hk0
          have HU : Hid (upN false l (0 + 1) = true) := Lib.hid (by rw [HUS.out, HST.out, hm]; rfl)
          clear hm HGD
          simp only [Nat.zero_mul, Nat.add_zero] at e0 e1 e2 e3 e4
          have M1 : ∀ W, Calls Tryd.prog 113 #[.agg #[], .int .i64 0, .agg #[.string (strOf e.key), .string (strOf e.v.data), .bool e.v.far, .int .i64 e.v.size, .int .i64 e.v.page]] W fun en w' => en = .returned (.bool true) ∧ Below W.heap.size W w' := M1
          go_wp2_with fail
          generalize wr.heap.size = bx at *
          generalize wr.alloc _ = W6 at *
          have c0 : ∀ W, Below W6.heap.size W6 W → W.cell? ⟨bx, 0, none⟩ = some (.string (strOf e.key)) := fun W hW => (B6.step hW).cell 0 0 rfl rfl
          have c1 : ∀ W, Below W6.heap.size W6 W → W.cell? ⟨bx, 1, none⟩ = some (.string (strOf e.v.data)) := fun W hW => (B6.step hW).cell 0 1 rfl rfl
          have c2 : ∀ W, Below W6.heap.size W6 W → W.cell? ⟨bx, 2, none⟩ = some (.bool e.v.far) := fun W hW => (B6.step hW).cell 0 2 rfl rfl
          have c3 : ∀ W, Below W6.heap.size W6 W → W.cell? ⟨bx, 3, none⟩ = some (.int .i64 e.v.size) := fun W hW => (B6.step hW).cell 0 3 rfl rfl
          have c4 : ∀ W, Below W6.heap.size W6 W → W.cell? ⟨bx, 4, none⟩ = some (.int .i64 e.v.page) := fun W hW => (B6.step hW).cell 0 4 rfl rfl
          have hC : Below W6.heap.size W6 W6.drew := (Below.refl _ _).drew
          refine wp_region_noPanic ?_
          refine wp_region_held_drew (S := fun W => Below W6.heap.size W6 W) (by kernel_rfl) (by with_reducible assumption) (fun hHeld => ?_)
          refine wpAnyH_take (i := 0) (oi := { dst := some 19, op := Op.move (Operand.tmp 3), type := 111, pos := "node.go:130", after := #[], guard := none }) (v := ?_) rfl (by kernel_rfl) (by kernel_rfl) (by kernel_rfl) (fun _ _ _ h => h) (Or.inl ⟨by rfl, ?_⟩) (by assumption) ?_
          rotate_left
          · (intro W hW; (try dsimp only at hW); go_simp <;> (with_reducible rfl))
          try simp only [Act.put, List.setIfInBounds_toArray, List.set_cons_zero, List.set_cons_succ]
          refine wpAnyH_take (i := 1) (oi := { dst := some 20, op := Op.move (Operand.tmp 4), type := 3, pos := "node.go:130", after := #[], guard := none }) (v := ?_) rfl (by kernel_rfl) (by kernel_rfl) (by kernel_rfl) (fun _ _ _ h => h) (Or.inl ⟨by rfl, ?_⟩) (by assumption) ?_
          rotate_left
          · (intro W hW; (try dsimp only at hW); go_simp <;> (with_reducible rfl))
          try simp only [Act.put, List.setIfInBounds_toArray, List.set_cons_zero, List.set_cons_succ]
          refine wpAnyH_take (i := 2) (oi := { dst := some 21, op := Op.load 76 (Operand.tmp 5), type := 76, pos := "node.go:130", after := #[], guard := none }) (v := ?_) rfl (by kernel_rfl) (by kernel_rfl) (by kernel_rfl) (fun _ _ _ h => h) (Or.inl ⟨by rfl, ?_⟩) (by assumption) ?_
          rotate_left
          · (intro W hW; (try dsimp only at hW); go_simp <;> (with_reducible rfl))
          try simp only [Act.put, List.setIfInBounds_toArray, List.set_cons_zero, List.set_cons_succ]
          refine wpAnyH_ready (rs := [3]) (by kernel_rfl) (by simp) (AllReadyH.cons (o := { dst := some 22, op := Op.call { callee := Callee.invoke (Operand.tmp 19) "jalousie/node.may", args := #[Operand.tmp 20, Operand.tmp 21], argTypes := #[3, 76] }, type := 4, pos := "node.go:130", after := #[{ on := 0, ground := Ground.data }, { on := 1, ground := Ground.data }, { on := 2, ground := Ground.data }], guard := none }) rfl (fun K hK => ?_) AllReadyH.nil)
          rw [if_pos (by rfl)]
          go_wp2_with (first | (go_at_call 113; (with_reducible refine (M1 _).mono ?_); rintro e1 w7 ⟨rfl, hb7⟩; have hC7 := hC.trans (hb7.mono hC.size)))
          refine hK.out _ _ (by with_reducible assumption) (fun hHeld => ?_)
          clear hK K
          try simp only [Act.put, List.setIfInBounds_toArray, List.set_cons_zero, List.set_cons_succ]
          refine wpAnyH_take (i := 4) (oi := { dst := some 23, op := Op.unOp UnOp.not 4 (Operand.tmp 22), type := 4, pos := "node.go:130", after := #[{ on := 3, ground := Ground.data }], guard := none }) (v := ?_) rfl (by kernel_rfl) (by kernel_rfl) (by kernel_rfl) (fun _ _ _ h => h) (Or.inl ⟨by rfl, ?_⟩) (by assumption) ?_
          rotate_left
          · (intro W hW; (try dsimp only at hW); go_simp <;> (with_reducible rfl))
          try simp only [Act.put, List.setIfInBounds_toArray, List.set_cons_zero, List.set_cons_succ]
          refine wpAnyH_take (i := 5) (oi := { dst := some 24, op := Op.move (Operand.tmp 23), type := 4, pos := "node.go:130", after := #[{ on := 4, ground := Ground.data }, { on := 3, ground := Ground.chain }], guard := none }) (v := ?_) rfl (by kernel_rfl) (by kernel_rfl) (by kernel_rfl) (fun _ _ _ h => h) (Or.inl ⟨by rfl, ?_⟩) (by assumption) ?_
          rotate_left
          · (intro W hW; (try dsimp only at hW); go_simp <;> (with_reducible rfl))
          try simp only [Act.put, List.setIfInBounds_toArray, List.set_cons_zero, List.set_cons_succ]
          refine wpAnyH_take (i := 6) (oi := { dst := some 25, op := Op.move (Operand.tmp 4), type := 3, pos := "node.go:130", after := #[{ on := 5, ground := Ground.guard }], guard := some (5, false) }) (v := ?_) rfl (by kernel_rfl) (by kernel_rfl) (by kernel_rfl) (fun _ _ _ h => h) (Or.inl ⟨by rfl, ?_⟩) (by assumption) ?_
          rotate_left
          · (intro W hW; (try dsimp only at hW); go_simp <;> (with_reducible rfl))
          try simp only [Act.put, List.setIfInBounds_toArray, List.set_cons_zero, List.set_cons_succ]
          refine wpAnyH_take (i := 7) (oi := { dst := some 26, op := Op.binOp BinOp.gtr 3 (Operand.tmp 25) (Operand.const (Value.int IntKind.i64 0)) 3, type := 4, pos := "node.go:130", after := #[{ on := 6, ground := Ground.data }, { on := 5, ground := Ground.guard }], guard := some (5, false) }) (v := ?_) rfl (by kernel_rfl) (by kernel_rfl) (by kernel_rfl) (fun _ _ _ h => h) (Or.inl ⟨by rfl, ?_⟩) (by assumption) ?_
          rotate_left
          · (intro W hW; (try dsimp only at hW); go_simp <;> (with_reducible rfl))
          try simp only [Act.put, List.setIfInBounds_toArray, List.set_cons_zero, List.set_cons_succ]
          refine wpAnyH_take (i := 8) (oi := { dst := some 27, op := Op.move (Operand.tmp 26), type := 4, pos := "node.go:130", after := #[{ on := 7, ground := Ground.data }, { on := 5, ground := Ground.chain }, { on := 5, ground := Ground.guard }], guard := some (5, false) }) (v := ?_) rfl (by kernel_rfl) (by kernel_rfl) (by kernel_rfl) (fun _ _ _ h => h) (Or.inl ⟨by rfl, ?_⟩) (by assumption) ?_
          rotate_left
          · (intro W hW; (try dsimp only at hW); go_simp <;> (with_reducible rfl))
          try simp only [Act.put, List.setIfInBounds_toArray, List.set_cons_zero, List.set_cons_succ]
          refine wpAnyH_take (i := 9) (oi := { dst := some 28, op := Op.fieldAddr 76 (Operand.tmp 5) 0, type := 0, pos := "node.go:130", after := #[{ on := 8, ground := Ground.guard }], guard := some (8, true) }) rfl (by kernel_rfl) (by kernel_rfl) (by kernel_rfl) (fun _ _ _ h => h) (Or.inr ⟨by rfl, rfl⟩) (by assumption) ?_
          try simp only [Act.put, List.setIfInBounds_toArray, List.set_cons_zero, List.set_cons_succ]
          refine wpAnyH_take (i := 10) (oi := { dst := some 29, op := Op.load 9 (Operand.tmp 28), type := 9, pos := "node.go:130", after := #[{ on := 9, ground := Ground.data }, { on := 8, ground := Ground.guard }], guard := some (8, true) }) rfl (by kernel_rfl) (by kernel_rfl) (by kernel_rfl) (fun _ _ _ h => h) (Or.inr ⟨by rfl, rfl⟩) (by assumption) ?_
          try simp only [Act.put, List.setIfInBounds_toArray, List.set_cons_zero, List.set_cons_succ]
          refine wpAnyH_take (i := 11) (oi := { dst := some 30, op := Op.fieldAddr 52 (Operand.tmp 1) 1, type := 0, pos := "node.go:130", after := #[{ on := 8, ground := Ground.guard }], guard := some (8, true) }) rfl (by kernel_rfl) (by kernel_rfl) (by kernel_rfl) (fun _ _ _ h => h) (Or.inr ⟨by rfl, rfl⟩) (by assumption) ?_
          try simp only [Act.put, List.setIfInBounds_toArray, List.set_cons_zero, List.set_cons_succ]
          refine wpAnyH_take (i := 12) (oi := { dst := some 31, op := Op.load 50 (Operand.tmp 30), type := 50, pos := "node.go:130", after := #[{ on := 11, ground := Ground.data }, { on := 8, ground := Ground.guard }], guard := some (8, true) }) rfl (by kernel_rfl) (by kernel_rfl) (by kernel_rfl) (fun _ _ _ h => h) (Or.inr ⟨by rfl, rfl⟩) (by assumption) ?_
          try simp only [Act.put, List.setIfInBounds_toArray, List.set_cons_zero, List.set_cons_succ]
          refine wpAnyH_take (i := 13) (oi := { dst := some 32, op := Op.move (Operand.tmp 4), type := 3, pos := "node.go:130", after := #[{ on := 8, ground := Ground.guard }], guard := some (8, true) }) rfl (by kernel_rfl) (by kernel_rfl) (by kernel_rfl) (fun _ _ _ h => h) (Or.inr ⟨by rfl, rfl⟩) (by assumption) ?_
          try simp only [Act.put, List.setIfInBounds_toArray, List.set_cons_zero, List.set_cons_succ]
          refine wpAnyH_take (i := 14) (oi := { dst := some 33, op := Op.binOp BinOp.sub 3 (Operand.tmp 32) (Operand.const (Value.int IntKind.i64 1)) 3, type := 3, pos := "node.go:130", after := #[{ on := 13, ground := Ground.data }, { on := 8, ground := Ground.guard }], guard := some (8, true) }) rfl (by kernel_rfl) (by kernel_rfl) (by kernel_rfl) (fun _ _ _ h => h) (Or.inr ⟨by rfl, rfl⟩) (by assumption) ?_
          try simp only [Act.put, List.setIfInBounds_toArray, List.set_cons_zero, List.set_cons_succ]
          refine wpAnyH_take (i := 15) (oi := { dst := some 34, op := Op.indexAddr 50 (Operand.tmp 31) (Operand.tmp 33), type := 0, pos := "node.go:130", after := #[{ on := 12, ground := Ground.data }, { on := 14, ground := Ground.data }, { on := 8, ground := Ground.guard }], guard := some (8, true) }) rfl (by kernel_rfl) (by kernel_rfl) (by kernel_rfl) (fun _ _ _ h => h) (Or.inr ⟨by rfl, rfl⟩) (by assumption) ?_
          try simp only [Act.put, List.setIfInBounds_toArray, List.set_cons_zero, List.set_cons_succ]
          refine wpAnyH_take (i := 16) (oi := { dst := some 35, op := Op.fieldAddr 76 (Operand.tmp 34) 0, type := 0, pos := "node.go:130", after := #[{ on := 15, ground := Ground.data }, { on := 8, ground := Ground.guard }], guard := some (8, true) }) rfl (by kernel_rfl) (by kernel_rfl) (by kernel_rfl) (fun _ _ _ h => h) (Or.inr ⟨by rfl, rfl⟩) (by assumption) ?_
          try simp only [Act.put, List.setIfInBounds_toArray, List.set_cons_zero, List.set_cons_succ]
          refine wpAnyH_take (i := 17) (oi := { dst := some 36, op := Op.load 9 (Operand.tmp 35), type := 9, pos := "node.go:130", after := #[{ on := 16, ground := Ground.data }, { on := 8, ground := Ground.guard }], guard := some (8, true) }) rfl (by kernel_rfl) (by kernel_rfl) (by kernel_rfl) (fun _ _ _ h => h) (Or.inr ⟨by rfl, rfl⟩) (by assumption) ?_
          try simp only [Act.put, List.setIfInBounds_toArray, List.set_cons_zero, List.set_cons_succ]
          refine wpAnyH_take (i := 18) (oi := { dst := some 37, op := Op.binOp BinOp.leq 9 (Operand.tmp 29) (Operand.tmp 36) 9, type := 4, pos := "node.go:130", after := #[{ on := 10, ground := Ground.data }, { on := 17, ground := Ground.data }, { on := 8, ground := Ground.guard }], guard := some (8, true) }) rfl (by kernel_rfl) (by kernel_rfl) (by kernel_rfl) (fun _ _ _ h => h) (Or.inr ⟨by rfl, rfl⟩) (by assumption) ?_
          try simp only [Act.put, List.setIfInBounds_toArray, List.set_cons_zero, List.set_cons_succ]
          refine wpAnyH_take (i := 19) (oi := { dst := some 38, op := Op.pick (Operand.tmp 27) (Operand.tmp 37) (Operand.const (Value.bool false)), type := 4, pos := "node.go:130", after := #[{ on := 8, ground := Ground.data }, { on := 18, ground := Ground.data }, { on := 5, ground := Ground.guard }], guard := some (5, false) }) (v := ?_) rfl (by kernel_rfl) (by kernel_rfl) (by kernel_rfl) (fun _ _ _ h => h) (Or.inl ⟨by rfl, ?_⟩) (by assumption) ?_
          rotate_left
          · (intro W hW; (try dsimp only at hW); go_simp <;> (with_reducible rfl))
          try simp only [Act.put, List.setIfInBounds_toArray, List.set_cons_zero, List.set_cons_succ]
          refine wpAnyH_take (i := 20) (oi := { dst := some 39, op := Op.pick (Operand.tmp 24) (Operand.const (Value.bool true)) (Operand.tmp 38), type := 4, pos := "node.go:130", after := #[{ on := 5, ground := Ground.data }, { on := 19, ground := Ground.data }], guard := none }) (v := ?_) rfl (by kernel_rfl) (by kernel_rfl) (by kernel_rfl) (fun _ _ _ h => h) (Or.inl ⟨by rfl, ?_⟩) (by assumption) ?_
          rotate_left
          · (intro W hW; (try dsimp only at hW); go_simp <;> (with_reducible rfl))
          try simp only [Act.put, List.setIfInBounds_toArray, List.set_cons_zero, List.set_cons_succ]
          refine wpAnyH_done (by kernel_rfl) ?_ _
          refine NoPanic.normal ?_
          have hb8 := below_then hbw6 hC7
          have B8 := (B6.step hC7).sub (m := [(w.heap.size, [.bool false, .slice (some ⟨b, off, none⟩) len cap])]) (by intro p hp; simp at hp; subst hp; simp)
          clear hC hC7 hb7 B6 hr6
          go_wp2_with fail
          go_roundw
          case rel => exact ⟨0 + 1, by omega, by go_num, HU.out, B8, hb8⟩
          case measure => simp [intOf]; omega
        · obtain ⟨p, hp1, hp2⟩ : ∃ p, p + 1 = k ∧ p < len := ⟨k - 1, by omega, by omega⟩
          obtain ⟨b2, off2, e', hq, hb2l, hy2, hc', _⟩ := (h.below (Nat.le_refl _) hbw).at hp2
          cases hq
          have hg2 : l[k - 1]?.getD ⟨[], Vv.zero⟩ = e' := by rw [show k - 1 = p by omega, hy2]; rfl
          have hst2 : stepN false l k = !kle e.key e'.key := by rw [HST.out, hm, hg2, show decide (0 < k) = true by simp; omega]; simp
          have hsub : IntKind.i64.wrap ((k : Int) - 1) = (p : Int) := by
            have := IntWalk.i64_in ((k : Int) - 1) (by omega)
            omega
          have hk1 : decide ((0 : Int) < (k : Int)) = true := by simp; omega
          have hk1n : decide (0 < k) = true := by simp; omega
          have hk1p : 0 < k := by omega
          have hpp : (0 : Int) ≤ (p : Int) ∧ (p : Int) < (len : Int) := by omega
          have HPC := Lib.hid hc'
          have HSB := Lib.hid hsub
          have hp6 : (wr.alloc (.cells #[.string (strOf e.key), .string (strOf e.v.data), .bool e.v.far, .int .i64 e.v.size, .int .i64 e.v.page] 76)).cell? ⟨b, off + p * 5, none⟩ = some (.string (strOf e'.key)) := ((below_one wr _).cell (p := ⟨b, off + p * 5, none⟩) hb2l).trans hc'
          have hbl6 : b < (wr.alloc (.cells #[.string (strOf e.key), .string (strOf e.v.data), .bool e.v.far, .int .i64 e.v.size, .int .i64 e.v.page] 76)).heap.size := by simp; omega
          clear hg2 hm hy2 hc' hb2l
          have hkp : k = p + 1 := hp1.symm
          cases hke : kle e.key e'.key with
          | true =>
            have HF : Hid (nodeB false l = false) := Lib.hid (nodeB_step (k := k) (by rw [hll.out]; omega) (by rw [hst2, hke]; rfl))
            have hlq : (Op.bytesLess (strOf e.key).toList (strOf e'.key).toList || (strOf e.key).toList == (strOf e'.key).toList) = true := by rw [strOf_toList, strOf_toList, bytes_less]; exact hke
            clear hst2 hke HST HGD HUS HPC HSB hkp hp1 hp2 hsize
            go_wp2_with fail
            generalize wr.heap.size = bx at *
            generalize wr.alloc _ = W6 at *
            have c0 : ∀ W, Below W6.heap.size W6 W → W.cell? ⟨bx, 0, none⟩ = some (.string (strOf e.key)) := fun W hW => (B6.step hW).cell 0 0 rfl rfl
            have c1 : ∀ W, Below W6.heap.size W6 W → W.cell? ⟨bx, 1, none⟩ = some (.string (strOf e.v.data)) := fun W hW => (B6.step hW).cell 0 1 rfl rfl
            have c2 : ∀ W, Below W6.heap.size W6 W → W.cell? ⟨bx, 2, none⟩ = some (.bool e.v.far) := fun W hW => (B6.step hW).cell 0 2 rfl rfl
            have c3 : ∀ W, Below W6.heap.size W6 W → W.cell? ⟨bx, 3, none⟩ = some (.int .i64 e.v.size) := fun W hW => (B6.step hW).cell 0 3 rfl rfl
            have c4 : ∀ W, Below W6.heap.size W6 W → W.cell? ⟨bx, 4, none⟩ = some (.int .i64 e.v.page) := fun W hW => (B6.step hW).cell 0 4 rfl rfl
            have d1 : ∀ W, Below W6.heap.size W6 W → W.cell? ⟨w.heap.size, 1, none⟩ = some (.slice (some ⟨b, off, none⟩) len cap) := fun W hW => (B6.step hW).cell 1 1 rfl rfl
            have p0 : ∀ W, Below W6.heap.size W6 W → W.cell? ⟨b, off + p * 5, none⟩ = some (.string (strOf e'.key)) := fun W hW => (hW.cell (p := ⟨b, off + p * 5, none⟩) hbl6).trans hp6
            have hC : Below W6.heap.size W6 W6.drew := (Below.refl _ _).drew
            refine wp_region_noPanic ?_
            refine wp_region_held_drew (S := fun W => Below W6.heap.size W6 W) (by kernel_rfl) (by with_reducible assumption) (fun hHeld => ?_)
            refine wpAnyH_take (i := 0) (oi := { dst := some 19, op := Op.move (Operand.tmp 3), type := 111, pos := "node.go:130", after := #[], guard := none }) (v := ?_) rfl (by kernel_rfl) (by kernel_rfl) (by kernel_rfl) (fun _ _ _ h => h) (Or.inl ⟨by rfl, ?_⟩) (by assumption) ?_
            rotate_left
            · (intro W hW; (try dsimp only at hW); go_simp <;> (with_reducible rfl))
            try simp only [Act.put, List.setIfInBounds_toArray, List.set_cons_zero, List.set_cons_succ]
            refine wpAnyH_take (i := 1) (oi := { dst := some 20, op := Op.move (Operand.tmp 4), type := 3, pos := "node.go:130", after := #[], guard := none }) (v := ?_) rfl (by kernel_rfl) (by kernel_rfl) (by kernel_rfl) (fun _ _ _ h => h) (Or.inl ⟨by rfl, ?_⟩) (by assumption) ?_
            rotate_left
            · (intro W hW; (try dsimp only at hW); go_simp <;> (with_reducible rfl))
            try simp only [Act.put, List.setIfInBounds_toArray, List.set_cons_zero, List.set_cons_succ]
            refine wpAnyH_take (i := 2) (oi := { dst := some 21, op := Op.load 76 (Operand.tmp 5), type := 76, pos := "node.go:130", after := #[], guard := none }) (v := ?_) rfl (by kernel_rfl) (by kernel_rfl) (by kernel_rfl) (fun _ _ _ h => h) (Or.inl ⟨by rfl, ?_⟩) (by assumption) ?_
            rotate_left
            · (intro W hW; (try dsimp only at hW); go_simp <;> (with_reducible rfl))
            try simp only [Act.put, List.setIfInBounds_toArray, List.set_cons_zero, List.set_cons_succ]
            refine wpAnyH_ready (rs := [3]) (by kernel_rfl) (by simp) (AllReadyH.cons (o := { dst := some 22, op := Op.call { callee := Callee.invoke (Operand.tmp 19) "jalousie/node.may", args := #[Operand.tmp 20, Operand.tmp 21], argTypes := #[3, 76] }, type := 4, pos := "node.go:130", after := #[{ on := 0, ground := Ground.data }, { on := 1, ground := Ground.data }, { on := 2, ground := Ground.data }], guard := none }) rfl (fun K hK => ?_) AllReadyH.nil)
            rw [if_pos (by rfl)]
            go_wp2_with (first | (go_at_call 113; (with_reducible refine (M1 _).mono ?_); rintro e1 w7 ⟨rfl, hb7⟩; have hC7 := hC.trans (hb7.mono hC.size)))
            refine hK.out _ _ (by with_reducible assumption) (fun hHeld => ?_)
            clear hK K
            try simp only [Act.put, List.setIfInBounds_toArray, List.set_cons_zero, List.set_cons_succ]
            refine wpAnyH_take (i := 4) (oi := { dst := some 23, op := Op.unOp UnOp.not 4 (Operand.tmp 22), type := 4, pos := "node.go:130", after := #[{ on := 3, ground := Ground.data }], guard := none }) (v := ?_) rfl (by kernel_rfl) (by kernel_rfl) (by kernel_rfl) (fun _ _ _ h => h) (Or.inl ⟨by rfl, ?_⟩) (by assumption) ?_
            rotate_left
            · (intro W hW; (try dsimp only at hW); go_simp <;> (with_reducible rfl))
            try simp only [Act.put, List.setIfInBounds_toArray, List.set_cons_zero, List.set_cons_succ]
            refine wpAnyH_take (i := 5) (oi := { dst := some 24, op := Op.move (Operand.tmp 23), type := 4, pos := "node.go:130", after := #[{ on := 4, ground := Ground.data }, { on := 3, ground := Ground.chain }], guard := none }) (v := ?_) rfl (by kernel_rfl) (by kernel_rfl) (by kernel_rfl) (fun _ _ _ h => h) (Or.inl ⟨by rfl, ?_⟩) (by assumption) ?_
            rotate_left
            · (intro W hW; (try dsimp only at hW); go_simp <;> (with_reducible rfl))
            try simp only [Act.put, List.setIfInBounds_toArray, List.set_cons_zero, List.set_cons_succ]
            refine wpAnyH_take (i := 6) (oi := { dst := some 25, op := Op.move (Operand.tmp 4), type := 3, pos := "node.go:130", after := #[{ on := 5, ground := Ground.guard }], guard := some (5, false) }) (v := ?_) rfl (by kernel_rfl) (by kernel_rfl) (by kernel_rfl) (fun _ _ _ h => h) (Or.inl ⟨by rfl, ?_⟩) (by assumption) ?_
            rotate_left
            · (intro W hW; (try dsimp only at hW); go_simp <;> (with_reducible rfl))
            try simp only [Act.put, List.setIfInBounds_toArray, List.set_cons_zero, List.set_cons_succ]
            refine wpAnyH_take (i := 7) (oi := { dst := some 26, op := Op.binOp BinOp.gtr 3 (Operand.tmp 25) (Operand.const (Value.int IntKind.i64 0)) 3, type := 4, pos := "node.go:130", after := #[{ on := 6, ground := Ground.data }, { on := 5, ground := Ground.guard }], guard := some (5, false) }) (v := ?_) rfl (by kernel_rfl) (by kernel_rfl) (by kernel_rfl) (fun _ _ _ h => h) (Or.inl ⟨by rfl, ?_⟩) (by assumption) ?_
            rotate_left
            · (intro W hW; (try dsimp only at hW); go_simp <;> (with_reducible rfl))
            try simp only [Act.put, List.setIfInBounds_toArray, List.set_cons_zero, List.set_cons_succ]
            refine wpAnyH_take (i := 8) (oi := { dst := some 27, op := Op.move (Operand.tmp 26), type := 4, pos := "node.go:130", after := #[{ on := 7, ground := Ground.data }, { on := 5, ground := Ground.chain }, { on := 5, ground := Ground.guard }], guard := some (5, false) }) (v := ?_) rfl (by kernel_rfl) (by kernel_rfl) (by kernel_rfl) (fun _ _ _ h => h) (Or.inl ⟨by rfl, ?_⟩) (by assumption) ?_
            rotate_left
            · (intro W hW; (try dsimp only at hW); go_simp <;> (with_reducible rfl))
            try simp only [Act.put, List.setIfInBounds_toArray, List.set_cons_zero, List.set_cons_succ]
            refine wpAnyH_take (i := 9) (oi := { dst := some 28, op := Op.fieldAddr 76 (Operand.tmp 5) 0, type := 0, pos := "node.go:130", after := #[{ on := 8, ground := Ground.guard }], guard := some (8, true) }) (v := ?_) rfl (by kernel_rfl) (by kernel_rfl) (by kernel_rfl) (fun _ _ _ h => h) (Or.inl ⟨by rfl, ?_⟩) (by assumption) ?_
            rotate_left
            · (intro W hW; (try dsimp only at hW); go_simp <;> (with_reducible rfl))
            try simp only [Act.put, List.setIfInBounds_toArray, List.set_cons_zero, List.set_cons_succ]
            refine wpAnyH_take (i := 10) (oi := { dst := some 29, op := Op.load 9 (Operand.tmp 28), type := 9, pos := "node.go:130", after := #[{ on := 9, ground := Ground.data }, { on := 8, ground := Ground.guard }], guard := some (8, true) }) (v := ?_) rfl (by kernel_rfl) (by kernel_rfl) (by kernel_rfl) (fun _ _ _ h => h) (Or.inl ⟨by rfl, ?_⟩) (by assumption) ?_
            rotate_left
            · (intro W hW; (try dsimp only at hW); go_simp <;> (with_reducible rfl))
            try simp only [Act.put, List.setIfInBounds_toArray, List.set_cons_zero, List.set_cons_succ]
            refine wpAnyH_take (i := 11) (oi := { dst := some 30, op := Op.fieldAddr 52 (Operand.tmp 1) 1, type := 0, pos := "node.go:130", after := #[{ on := 8, ground := Ground.guard }], guard := some (8, true) }) (v := ?_) rfl (by kernel_rfl) (by kernel_rfl) (by kernel_rfl) (fun _ _ _ h => h) (Or.inl ⟨by rfl, ?_⟩) (by assumption) ?_
            rotate_left
            · (intro W hW; (try dsimp only at hW); go_simp <;> (with_reducible rfl))
            try simp only [Act.put, List.setIfInBounds_toArray, List.set_cons_zero, List.set_cons_succ]
            refine wpAnyH_take (i := 12) (oi := { dst := some 31, op := Op.load 50 (Operand.tmp 30), type := 50, pos := "node.go:130", after := #[{ on := 11, ground := Ground.data }, { on := 8, ground := Ground.guard }], guard := some (8, true) }) (v := ?_) rfl (by kernel_rfl) (by kernel_rfl) (by kernel_rfl) (fun _ _ _ h => h) (Or.inl ⟨by rfl, ?_⟩) (by assumption) ?_
            rotate_left
            · (intro W hW; (try dsimp only at hW); go_simp <;> (with_reducible rfl))
            try simp only [Act.put, List.setIfInBounds_toArray, List.set_cons_zero, List.set_cons_succ]
            refine wpAnyH_take (i := 13) (oi := { dst := some 32, op := Op.move (Operand.tmp 4), type := 3, pos := "node.go:130", after := #[{ on := 8, ground := Ground.guard }], guard := some (8, true) }) (v := ?_) rfl (by kernel_rfl) (by kernel_rfl) (by kernel_rfl) (fun _ _ _ h => h) (Or.inl ⟨by rfl, ?_⟩) (by assumption) ?_
            rotate_left
            · (intro W hW; (try dsimp only at hW); go_simp <;> (with_reducible rfl))
            try simp only [Act.put, List.setIfInBounds_toArray, List.set_cons_zero, List.set_cons_succ]
            refine wpAnyH_take (i := 14) (oi := { dst := some 33, op := Op.binOp BinOp.sub 3 (Operand.tmp 32) (Operand.const (Value.int IntKind.i64 1)) 3, type := 3, pos := "node.go:130", after := #[{ on := 13, ground := Ground.data }, { on := 8, ground := Ground.guard }], guard := some (8, true) }) (v := ?_) rfl (by kernel_rfl) (by kernel_rfl) (by kernel_rfl) (fun _ _ _ h => h) (Or.inl ⟨by rfl, ?_⟩) (by assumption) ?_
            rotate_left
            · (intro W hW; (try dsimp only at hW); go_simp <;> (with_reducible rfl))
            try simp only [Act.put, List.setIfInBounds_toArray, List.set_cons_zero, List.set_cons_succ]
            refine wpAnyH_take (i := 15) (oi := { dst := some 34, op := Op.indexAddr 50 (Operand.tmp 31) (Operand.tmp 33), type := 0, pos := "node.go:130", after := #[{ on := 12, ground := Ground.data }, { on := 14, ground := Ground.data }, { on := 8, ground := Ground.guard }], guard := some (8, true) }) (v := ?_) rfl (by kernel_rfl) (by kernel_rfl) (by kernel_rfl) (fun _ _ _ h => h) (Or.inl ⟨by rfl, ?_⟩) (by assumption) ?_
            rotate_left
            · (intro W hW; (try dsimp only at hW); go_simp <;> (with_reducible rfl))
            try simp only [Act.put, List.setIfInBounds_toArray, List.set_cons_zero, List.set_cons_succ]
            refine wpAnyH_take (i := 16) (oi := { dst := some 35, op := Op.fieldAddr 76 (Operand.tmp 34) 0, type := 0, pos := "node.go:130", after := #[{ on := 15, ground := Ground.data }, { on := 8, ground := Ground.guard }], guard := some (8, true) }) (v := ?_) rfl (by kernel_rfl) (by kernel_rfl) (by kernel_rfl) (fun _ _ _ h => h) (Or.inl ⟨by rfl, ?_⟩) (by assumption) ?_
            rotate_left
            · (intro W hW; (try dsimp only at hW); go_simp <;> (with_reducible rfl))
            try simp only [Act.put, List.setIfInBounds_toArray, List.set_cons_zero, List.set_cons_succ]
            refine wpAnyH_take (i := 17) (oi := { dst := some 36, op := Op.load 9 (Operand.tmp 35), type := 9, pos := "node.go:130", after := #[{ on := 16, ground := Ground.data }, { on := 8, ground := Ground.guard }], guard := some (8, true) }) (v := ?_) rfl (by kernel_rfl) (by kernel_rfl) (by kernel_rfl) (fun _ _ _ h => h) (Or.inl ⟨by rfl, ?_⟩) (by assumption) ?_
            rotate_left
            · (intro W hW; (try dsimp only at hW); go_simp <;> (with_reducible rfl))
            try simp only [Act.put, List.setIfInBounds_toArray, List.set_cons_zero, List.set_cons_succ]
            refine wpAnyH_take (i := 18) (oi := { dst := some 37, op := Op.binOp BinOp.leq 9 (Operand.tmp 29) (Operand.tmp 36) 9, type := 4, pos := "node.go:130", after := #[{ on := 10, ground := Ground.data }, { on := 17, ground := Ground.data }, { on := 8, ground := Ground.guard }], guard := some (8, true) }) (v := ?_) rfl (by kernel_rfl) (by kernel_rfl) (by kernel_rfl) (fun _ _ _ h => h) (Or.inl ⟨by rfl, ?_⟩) (by assumption) ?_
            rotate_left
            · (intro W hW; (try dsimp only at hW); go_simp <;> (with_reducible rfl))
            try simp only [Act.put, List.setIfInBounds_toArray, List.set_cons_zero, List.set_cons_succ]
            refine wpAnyH_take (i := 19) (oi := { dst := some 38, op := Op.pick (Operand.tmp 27) (Operand.tmp 37) (Operand.const (Value.bool false)), type := 4, pos := "node.go:130", after := #[{ on := 8, ground := Ground.data }, { on := 18, ground := Ground.data }, { on := 5, ground := Ground.guard }], guard := some (5, false) }) (v := ?_) rfl (by kernel_rfl) (by kernel_rfl) (by kernel_rfl) (fun _ _ _ h => h) (Or.inl ⟨by rfl, ?_⟩) (by assumption) ?_
            rotate_left
            · (intro W hW; (try dsimp only at hW); go_simp <;> (with_reducible rfl))
            try simp only [Act.put, List.setIfInBounds_toArray, List.set_cons_zero, List.set_cons_succ]
            refine wpAnyH_take (i := 20) (oi := { dst := some 39, op := Op.pick (Operand.tmp 24) (Operand.const (Value.bool true)) (Operand.tmp 38), type := 4, pos := "node.go:130", after := #[{ on := 5, ground := Ground.data }, { on := 19, ground := Ground.data }], guard := none }) (v := ?_) rfl (by kernel_rfl) (by kernel_rfl) (by kernel_rfl) (fun _ _ _ h => h) (Or.inl ⟨by rfl, ?_⟩) (by assumption) ?_
            rotate_left
            · (intro W hW; (try dsimp only at hW); go_simp <;> (with_reducible rfl))
            try simp only [Act.put, List.setIfInBounds_toArray, List.set_cons_zero, List.set_cons_succ]
            refine wpAnyH_done (by kernel_rfl) ?_ _
            refine NoPanic.normal ?_
            have hb8 := below_then hbw6 hC7
            go_wp2_with fail
            go_ret
            exact ⟨ret_bool HF.out.symm, hb8⟩
          | false =>
            have HU : Hid (upN false l (k + 1) = true) := Lib.hid (by rw [HUS.out, hst2, hke]; rfl)
            have hlq : (Op.bytesLess (strOf e.key).toList (strOf e'.key).toList || (strOf e.key).toList == (strOf e'.key).toList) = false := by rw [strOf_toList, strOf_toList, bytes_less]; exact hke
            have hlq1 := (Bool.or_eq_false_iff.1 hlq).1
            have hlq2 := (Bool.or_eq_false_iff.1 hlq).2
            clear hst2 hke HST HGD HUS HPC HSB hkp hp1 hp2 hsize
            go_wp2_with fail
            generalize wr.heap.size = bx at *
            generalize wr.alloc _ = W6 at *
            have c0 : ∀ W, Below W6.heap.size W6 W → W.cell? ⟨bx, 0, none⟩ = some (.string (strOf e.key)) := fun W hW => (B6.step hW).cell 0 0 rfl rfl
            have c1 : ∀ W, Below W6.heap.size W6 W → W.cell? ⟨bx, 1, none⟩ = some (.string (strOf e.v.data)) := fun W hW => (B6.step hW).cell 0 1 rfl rfl
            have c2 : ∀ W, Below W6.heap.size W6 W → W.cell? ⟨bx, 2, none⟩ = some (.bool e.v.far) := fun W hW => (B6.step hW).cell 0 2 rfl rfl
            have c3 : ∀ W, Below W6.heap.size W6 W → W.cell? ⟨bx, 3, none⟩ = some (.int .i64 e.v.size) := fun W hW => (B6.step hW).cell 0 3 rfl rfl
            have c4 : ∀ W, Below W6.heap.size W6 W → W.cell? ⟨bx, 4, none⟩ = some (.int .i64 e.v.page) := fun W hW => (B6.step hW).cell 0 4 rfl rfl
            have d1 : ∀ W, Below W6.heap.size W6 W → W.cell? ⟨w.heap.size, 1, none⟩ = some (.slice (some ⟨b, off, none⟩) len cap) := fun W hW => (B6.step hW).cell 1 1 rfl rfl
            have p0 : ∀ W, Below W6.heap.size W6 W → W.cell? ⟨b, off + p * 5, none⟩ = some (.string (strOf e'.key)) := fun W hW => (hW.cell (p := ⟨b, off + p * 5, none⟩) hbl6).trans hp6
            have hC : Below W6.heap.size W6 W6.drew := (Below.refl _ _).drew
            refine wp_region_noPanic ?_
            refine wp_region_held_drew (S := fun W => Below W6.heap.size W6 W) (by kernel_rfl) (by with_reducible assumption) (fun hHeld => ?_)
            refine wpAnyH_take (i := 0) (oi := { dst := some 19, op := Op.move (Operand.tmp 3), type := 111, pos := "node.go:130", after := #[], guard := none }) (v := ?_) rfl (by kernel_rfl) (by kernel_rfl) (by kernel_rfl) (fun _ _ _ h => h) (Or.inl ⟨by rfl, ?_⟩) (by assumption) ?_
            rotate_left
            · (intro W hW; (try dsimp only at hW); go_simp <;> (with_reducible rfl))
            try simp only [Act.put, List.setIfInBounds_toArray, List.set_cons_zero, List.set_cons_succ]
            refine wpAnyH_take (i := 1) (oi := { dst := some 20, op := Op.move (Operand.tmp 4), type := 3, pos := "node.go:130", after := #[], guard := none }) (v := ?_) rfl (by kernel_rfl) (by kernel_rfl) (by kernel_rfl) (fun _ _ _ h => h) (Or.inl ⟨by rfl, ?_⟩) (by assumption) ?_
            rotate_left
            · (intro W hW; (try dsimp only at hW); go_simp <;> (with_reducible rfl))
            try simp only [Act.put, List.setIfInBounds_toArray, List.set_cons_zero, List.set_cons_succ]
            refine wpAnyH_take (i := 2) (oi := { dst := some 21, op := Op.load 76 (Operand.tmp 5), type := 76, pos := "node.go:130", after := #[], guard := none }) (v := ?_) rfl (by kernel_rfl) (by kernel_rfl) (by kernel_rfl) (fun _ _ _ h => h) (Or.inl ⟨by rfl, ?_⟩) (by assumption) ?_
            rotate_left
            · (intro W hW; (try dsimp only at hW); go_simp <;> (with_reducible rfl))
            try simp only [Act.put, List.setIfInBounds_toArray, List.set_cons_zero, List.set_cons_succ]
            refine wpAnyH_ready (rs := [3]) (by kernel_rfl) (by simp) (AllReadyH.cons (o := { dst := some 22, op := Op.call { callee := Callee.invoke (Operand.tmp 19) "jalousie/node.may", args := #[Operand.tmp 20, Operand.tmp 21], argTypes := #[3, 76] }, type := 4, pos := "node.go:130", after := #[{ on := 0, ground := Ground.data }, { on := 1, ground := Ground.data }, { on := 2, ground := Ground.data }], guard := none }) rfl (fun K hK => ?_) AllReadyH.nil)
            rw [if_pos (by rfl)]
            go_wp2_with (first | (go_at_call 113; (with_reducible refine (M1 _).mono ?_); rintro e1 w7 ⟨rfl, hb7⟩; have hC7 := hC.trans (hb7.mono hC.size)))
            refine hK.out _ _ (by with_reducible assumption) (fun hHeld => ?_)
            clear hK K
            try simp only [Act.put, List.setIfInBounds_toArray, List.set_cons_zero, List.set_cons_succ]
            refine wpAnyH_take (i := 4) (oi := { dst := some 23, op := Op.unOp UnOp.not 4 (Operand.tmp 22), type := 4, pos := "node.go:130", after := #[{ on := 3, ground := Ground.data }], guard := none }) (v := ?_) rfl (by kernel_rfl) (by kernel_rfl) (by kernel_rfl) (fun _ _ _ h => h) (Or.inl ⟨by rfl, ?_⟩) (by assumption) ?_
            rotate_left
            · (intro W hW; (try dsimp only at hW); go_simp <;> (with_reducible rfl))
            try simp only [Act.put, List.setIfInBounds_toArray, List.set_cons_zero, List.set_cons_succ]
            refine wpAnyH_take (i := 5) (oi := { dst := some 24, op := Op.move (Operand.tmp 23), type := 4, pos := "node.go:130", after := #[{ on := 4, ground := Ground.data }, { on := 3, ground := Ground.chain }], guard := none }) (v := ?_) rfl (by kernel_rfl) (by kernel_rfl) (by kernel_rfl) (fun _ _ _ h => h) (Or.inl ⟨by rfl, ?_⟩) (by assumption) ?_
            rotate_left
            · (intro W hW; (try dsimp only at hW); go_simp <;> (with_reducible rfl))
            try simp only [Act.put, List.setIfInBounds_toArray, List.set_cons_zero, List.set_cons_succ]
            refine wpAnyH_take (i := 6) (oi := { dst := some 25, op := Op.move (Operand.tmp 4), type := 3, pos := "node.go:130", after := #[{ on := 5, ground := Ground.guard }], guard := some (5, false) }) (v := ?_) rfl (by kernel_rfl) (by kernel_rfl) (by kernel_rfl) (fun _ _ _ h => h) (Or.inl ⟨by rfl, ?_⟩) (by assumption) ?_
            rotate_left
            · (intro W hW; (try dsimp only at hW); go_simp <;> (with_reducible rfl))
            try simp only [Act.put, List.setIfInBounds_toArray, List.set_cons_zero, List.set_cons_succ]
            refine wpAnyH_take (i := 7) (oi := { dst := some 26, op := Op.binOp BinOp.gtr 3 (Operand.tmp 25) (Operand.const (Value.int IntKind.i64 0)) 3, type := 4, pos := "node.go:130", after := #[{ on := 6, ground := Ground.data }, { on := 5, ground := Ground.guard }], guard := some (5, false) }) (v := ?_) rfl (by kernel_rfl) (by kernel_rfl) (by kernel_rfl) (fun _ _ _ h => h) (Or.inl ⟨by rfl, ?_⟩) (by assumption) ?_
            rotate_left
            · (intro W hW; (try dsimp only at hW); go_simp <;> (with_reducible rfl))
            try simp only [Act.put, List.setIfInBounds_toArray, List.set_cons_zero, List.set_cons_succ]
            refine wpAnyH_take (i := 8) (oi := { dst := some 27, op := Op.move (Operand.tmp 26), type := 4, pos := "node.go:130", after := #[{ on := 7, ground := Ground.data }, { on := 5, ground := Ground.chain }, { on := 5, ground := Ground.guard }], guard := some (5, false) }) (v := ?_) rfl (by kernel_rfl) (by kernel_rfl) (by kernel_rfl) (fun _ _ _ h => h) (Or.inl ⟨by rfl, ?_⟩) (by assumption) ?_
            rotate_left
            · (intro W hW; (try dsimp only at hW); go_simp <;> (with_reducible rfl))
            try simp only [Act.put, List.setIfInBounds_toArray, List.set_cons_zero, List.set_cons_succ]
            refine wpAnyH_take (i := 9) (oi := { dst := some 28, op := Op.fieldAddr 76 (Operand.tmp 5) 0, type := 0, pos := "node.go:130", after := #[{ on := 8, ground := Ground.guard }], guard := some (8, true) }) (v := ?_) rfl (by kernel_rfl) (by kernel_rfl) (by kernel_rfl) (fun _ _ _ h => h) (Or.inl ⟨by rfl, ?_⟩) (by assumption) ?_
            rotate_left
            · (intro W hW; (try dsimp only at hW); go_simp <;> (with_reducible rfl))
            try simp only [Act.put, List.setIfInBounds_toArray, List.set_cons_zero, List.set_cons_succ]
            refine wpAnyH_take (i := 10) (oi := { dst := some 29, op := Op.load 9 (Operand.tmp 28), type := 9, pos := "node.go:130", after := #[{ on := 9, ground := Ground.data }, { on := 8, ground := Ground.guard }], guard := some (8, true) }) (v := ?_) rfl (by kernel_rfl) (by kernel_rfl) (by kernel_rfl) (fun _ _ _ h => h) (Or.inl ⟨by rfl, ?_⟩) (by assumption) ?_
            rotate_left
            · (intro W hW; (try dsimp only at hW); go_simp <;> (with_reducible rfl))
            try simp only [Act.put, List.setIfInBounds_toArray, List.set_cons_zero, List.set_cons_succ]
            refine wpAnyH_take (i := 11) (oi := { dst := some 30, op := Op.fieldAddr 52 (Operand.tmp 1) 1, type := 0, pos := "node.go:130", after := #[{ on := 8, ground := Ground.guard }], guard := some (8, true) }) (v := ?_) rfl (by kernel_rfl) (by kernel_rfl) (by kernel_rfl) (fun _ _ _ h => h) (Or.inl ⟨by rfl, ?_⟩) (by assumption) ?_
            rotate_left
            · (intro W hW; (try dsimp only at hW); go_simp <;> (with_reducible rfl))
            try simp only [Act.put, List.setIfInBounds_toArray, List.set_cons_zero, List.set_cons_succ]
            refine wpAnyH_take (i := 12) (oi := { dst := some 31, op := Op.load 50 (Operand.tmp 30), type := 50, pos := "node.go:130", after := #[{ on := 11, ground := Ground.data }, { on := 8, ground := Ground.guard }], guard := some (8, true) }) (v := ?_) rfl (by kernel_rfl) (by kernel_rfl) (by kernel_rfl) (fun _ _ _ h => h) (Or.inl ⟨by rfl, ?_⟩) (by assumption) ?_
            rotate_left
            · (intro W hW; (try dsimp only at hW); go_simp <;> (with_reducible rfl))
            try simp only [Act.put, List.setIfInBounds_toArray, List.set_cons_zero, List.set_cons_succ]
            refine wpAnyH_take (i := 13) (oi := { dst := some 32, op := Op.move (Operand.tmp 4), type := 3, pos := "node.go:130", after := #[{ on := 8, ground := Ground.guard }], guard := some (8, true) }) (v := ?_) rfl (by kernel_rfl) (by kernel_rfl) (by kernel_rfl) (fun _ _ _ h => h) (Or.inl ⟨by rfl, ?_⟩) (by assumption) ?_
            rotate_left
            · (intro W hW; (try dsimp only at hW); go_simp <;> (with_reducible rfl))
            try simp only [Act.put, List.setIfInBounds_toArray, List.set_cons_zero, List.set_cons_succ]
            refine wpAnyH_take (i := 14) (oi := { dst := some 33, op := Op.binOp BinOp.sub 3 (Operand.tmp 32) (Operand.const (Value.int IntKind.i64 1)) 3, type := 3, pos := "node.go:130", after := #[{ on := 13, ground := Ground.data }, { on := 8, ground := Ground.guard }], guard := some (8, true) }) (v := ?_) rfl (by kernel_rfl) (by kernel_rfl) (by kernel_rfl) (fun _ _ _ h => h) (Or.inl ⟨by rfl, ?_⟩) (by assumption) ?_
            rotate_left
            · (intro W hW; (try dsimp only at hW); go_simp <;> (with_reducible rfl))
            try simp only [Act.put, List.setIfInBounds_toArray, List.set_cons_zero, List.set_cons_succ]
            refine wpAnyH_take (i := 15) (oi := { dst := some 34, op := Op.indexAddr 50 (Operand.tmp 31) (Operand.tmp 33), type := 0, pos := "node.go:130", after := #[{ on := 12, ground := Ground.data }, { on := 14, ground := Ground.data }, { on := 8, ground := Ground.guard }], guard := some (8, true) }) (v := ?_) rfl (by kernel_rfl) (by kernel_rfl) (by kernel_rfl) (fun _ _ _ h => h) (Or.inl ⟨by rfl, ?_⟩) (by assumption) ?_
            rotate_left
            · (intro W hW; (try dsimp only at hW); go_simp <;> (with_reducible rfl))
            try simp only [Act.put, List.setIfInBounds_toArray, List.set_cons_zero, List.set_cons_succ]
            refine wpAnyH_take (i := 16) (oi := { dst := some 35, op := Op.fieldAddr 76 (Operand.tmp 34) 0, type := 0, pos := "node.go:130", after := #[{ on := 15, ground := Ground.data }, { on := 8, ground := Ground.guard }], guard := some (8, true) }) (v := ?_) rfl (by kernel_rfl) (by kernel_rfl) (by kernel_rfl) (fun _ _ _ h => h) (Or.inl ⟨by rfl, ?_⟩) (by assumption) ?_
            rotate_left
            · (intro W hW; (try dsimp only at hW); go_simp <;> (with_reducible rfl))
            try simp only [Act.put, List.setIfInBounds_toArray, List.set_cons_zero, List.set_cons_succ]
            refine wpAnyH_take (i := 17) (oi := { dst := some 36, op := Op.load 9 (Operand.tmp 35), type := 9, pos := "node.go:130", after := #[{ on := 16, ground := Ground.data }, { on := 8, ground := Ground.guard }], guard := some (8, true) }) (v := ?_) rfl (by kernel_rfl) (by kernel_rfl) (by kernel_rfl) (fun _ _ _ h => h) (Or.inl ⟨by rfl, ?_⟩) (by assumption) ?_
            rotate_left
            · (intro W hW; (try dsimp only at hW); go_simp <;> (with_reducible rfl))
            try simp only [Act.put, List.setIfInBounds_toArray, List.set_cons_zero, List.set_cons_succ]
            refine wpAnyH_take (i := 18) (oi := { dst := some 37, op := Op.binOp BinOp.leq 9 (Operand.tmp 29) (Operand.tmp 36) 9, type := 4, pos := "node.go:130", after := #[{ on := 10, ground := Ground.data }, { on := 17, ground := Ground.data }, { on := 8, ground := Ground.guard }], guard := some (8, true) }) (v := ?_) rfl (by kernel_rfl) (by kernel_rfl) (by kernel_rfl) (fun _ _ _ h => h) (Or.inl ⟨by rfl, ?_⟩) (by assumption) ?_
            rotate_left
            · (intro W hW; (try dsimp only at hW); go_simp <;> (with_reducible rfl))
            try simp only [Act.put, List.setIfInBounds_toArray, List.set_cons_zero, List.set_cons_succ]
            refine wpAnyH_take (i := 19) (oi := { dst := some 38, op := Op.pick (Operand.tmp 27) (Operand.tmp 37) (Operand.const (Value.bool false)), type := 4, pos := "node.go:130", after := #[{ on := 8, ground := Ground.data }, { on := 18, ground := Ground.data }, { on := 5, ground := Ground.guard }], guard := some (5, false) }) (v := ?_) rfl (by kernel_rfl) (by kernel_rfl) (by kernel_rfl) (fun _ _ _ h => h) (Or.inl ⟨by rfl, ?_⟩) (by assumption) ?_
            rotate_left
            · (intro W hW; (try dsimp only at hW); go_simp <;> (with_reducible rfl))
            try simp only [Act.put, List.setIfInBounds_toArray, List.set_cons_zero, List.set_cons_succ]
            refine wpAnyH_take (i := 20) (oi := { dst := some 39, op := Op.pick (Operand.tmp 24) (Operand.const (Value.bool true)) (Operand.tmp 38), type := 4, pos := "node.go:130", after := #[{ on := 5, ground := Ground.data }, { on := 19, ground := Ground.data }], guard := none }) (v := ?_) rfl (by kernel_rfl) (by kernel_rfl) (by kernel_rfl) (fun _ _ _ h => h) (Or.inl ⟨by rfl, ?_⟩) (by assumption) ?_
            rotate_left
            · (intro W hW; (try dsimp only at hW); go_simp <;> (with_reducible rfl))
            try simp only [Act.put, List.setIfInBounds_toArray, List.set_cons_zero, List.set_cons_succ]
            refine wpAnyH_done (by kernel_rfl) ?_ _
            refine NoPanic.normal ?_
            have hb8 := below_then hbw6 hC7
            have B8 := (B6.step hC7).sub (m := [(w.heap.size, [.bool false, .slice (some ⟨b, off, none⟩) len cap])]) (by intro p hp; simp at hp; subst hp; simp)
            clear c0 c1 c2 c3 c4 d1 p0 hC hC7 hb7 B6 hr6 hp6 hbl6 hlq hsub
            go_wp2_with fail
            go_roundw
            case rel => exact ⟨k + 1, by omega, by go_num, HU.out, B8, hb8⟩
            case measure => simp [intOf]; omega
    · obtain rfl : k = len := by omega
      have hup2 : upN false l l.length = true := by rw [hll.out]; exact hup
      have hsm := HI.out
      have hr := h.below (Nat.le_refl _) hbw
      have hlens := cellsN_lens false 1000000 l (fun e he => (hsm e he).2)
      rw [hll.out] at hlens
      have hlb : lens (cellsN false l) ≤ 65553104896 := by omega
      have LE := fun W => leastB_any W
      have CE : ∀ W, Below wr.heap.size wr W → Calls Tryd.prog 32 #[.agg #[.bool false, .slice a k cap]] W (BssPost W (cellsN false l)) := fun W hW => cells_any false a k cap l W (hr.below (Nat.le_refl _) hW) hlen (fun e he => by have := hsm e he; omega)
      have CS : ∀ W a2 n2 c2, n2 = (cellsN false l).length → Bss W a2 n2 c2 (cellsN false l) → Calls Tryd.prog 59 #[.slice a2 n2 c2] W fun e w' => e = .returned (.int .i64 ((k + lens (cellsN false l) : Nat) : Int)) ∧ W = w' := fun W a2 n2 c2 h1 h2 => by
        have hk2 : n2 = k := by rw [h1, cellsN_length, hll.out]
        subst hk2
        exact csize_any a2 n2 c2 (cellsN false l) W h2 (by omega)
      have d0 : ∀ W, Below wr.heap.size wr W → W.cell? ⟨w.heap.size, 0, none⟩ = some (.bool false) := fun W hW => (BX.step hW).cell 0 0 rfl rfl
      have d1 : ∀ W, Below wr.heap.size wr W → W.cell? ⟨w.heap.size, 1, none⟩ = some (.slice a k cap) := fun W hW => (BX.step hW).cell 0 1 rfl rfl
      have hC : Below wr.heap.size wr wr.drew := (Below.refl _ _).drew
      have hN : nodeB false l = (decide (2 ≤ k) && decide (k + lens (cellsN false l) ≤ 122)) := by rw [nodeB, hup2, hll.out]; rfl
      have HN := Lib.hid hN
      have hml := m_leastB
      clear hN hup hup2 hsm hlens hlb BX hr
      by_cases hge : 2 ≤ k
      · have hg1 : decide ((2 : Int) ≤ (k : Int)) = true := by simp; omega
        have hg2 : decide (2 ≤ k) = true := by simp; omega
        have hg3 : (2 : Int) ≤ (k : Int) := by omega
        go_wp2_with fail
        refine wp_region_noPanic ?_
        refine wp_region_held_drew (S := fun W => Below wr.heap.size wr W) (by kernel_rfl) (by with_reducible assumption) (fun hHeld => ?_)
        refine wpAnyH_take (i := 0) (oi := { dst := some 41, op := Op.fieldAddr 52 (Operand.tmp 1) 1, type := 0, pos := "node.go:134", after := #[], guard := none }) (v := ?_) rfl (by kernel_rfl) (by kernel_rfl) (by kernel_rfl) (fun _ _ _ h => h) (Or.inl ⟨by rfl, ?_⟩) (by assumption) ?_
        rotate_left
        · (intro W hW; (try dsimp only at hW); go_simp <;> (with_reducible rfl))
        try simp only [Act.put, List.setIfInBounds_toArray, List.set_cons_zero, List.set_cons_succ]
        refine wpAnyH_take (i := 1) (oi := { dst := some 42, op := Op.load 50 (Operand.tmp 41), type := 50, pos := "node.go:134", after := #[{ on := 0, ground := Ground.data }], guard := none }) (v := ?_) rfl (by kernel_rfl) (by kernel_rfl) (by kernel_rfl) (fun _ _ _ h => h) (Or.inl ⟨by rfl, ?_⟩) (by assumption) ?_
        rotate_left
        · (intro W hW; (try dsimp only at hW); go_simp <;> (with_reducible rfl))
        try simp only [Act.put, List.setIfInBounds_toArray, List.set_cons_zero, List.set_cons_succ]
        refine wpAnyH_take (i := 2) (oi := { dst := some 43, op := Op.call { callee := Callee.builtin Builtin.len, args := #[Operand.tmp 42], argTypes := #[50] }, type := 3, pos := "node.go:134", after := #[{ on := 1, ground := Ground.data }], guard := none }) (v := ?_) rfl (by kernel_rfl) (by kernel_rfl) (by kernel_rfl) (fun _ _ _ h => h) (Or.inl ⟨by rfl, ?_⟩) (by assumption) ?_
        rotate_left
        · (intro W hW; (try dsimp only at hW); go_simp <;> (with_reducible rfl))
        try simp only [Act.put, List.setIfInBounds_toArray, List.set_cons_zero, List.set_cons_succ]
        refine wpAnyH_take (i := 3) (oi := { dst := some 44, op := Op.move (Operand.tmp 3), type := 111, pos := "node.go:134", after := #[], guard := none }) (v := ?_) rfl (by kernel_rfl) (by kernel_rfl) (by kernel_rfl) (fun _ _ _ h => h) (Or.inl ⟨by rfl, ?_⟩) (by assumption) ?_
        rotate_left
        · (intro W hW; (try dsimp only at hW); go_simp <;> (with_reducible rfl))
        try simp only [Act.put, List.setIfInBounds_toArray, List.set_cons_zero, List.set_cons_succ]
        refine wpAnyH_ready (rs := [4]) (by kernel_rfl) (by simp) (AllReadyH.cons (o := { dst := some 45, op := Op.call { callee := Callee.invoke (Operand.tmp 44) "jalousie/node.least", args := #[], argTypes := #[] }, type := 3, pos := "node.go:134", after := #[{ on := 3, ground := Ground.data }], guard := none }) rfl (fun K hK => ?_) AllReadyH.nil)
        rw [if_pos (by rfl)]
        go_wp2_with (first | (go_at_call 112; (with_reducible refine (LE _).mono ?_); rintro e1 w7 ⟨rfl, hb7⟩; have hC7 := hC.trans (hb7.mono hC.size)))
        refine hK.out _ _ (by with_reducible assumption) (fun hHeld => ?_)
        clear hK K
        try simp only [Act.put, List.setIfInBounds_toArray, List.set_cons_zero, List.set_cons_succ]
        refine wpAnyH_take (i := 5) (oi := { dst := some 46, op := Op.binOp BinOp.geq 3 (Operand.tmp 43) (Operand.tmp 45) 3, type := 4, pos := "node.go:134", after := #[{ on := 2, ground := Ground.data }, { on := 4, ground := Ground.data }], guard := none }) (v := ?_) rfl (by kernel_rfl) (by kernel_rfl) (by kernel_rfl) (fun _ _ _ h => h) (Or.inl ⟨by rfl, ?_⟩) (by assumption) ?_
        rotate_left
        · (intro W hW; (try dsimp only at hW); go_simp <;> (with_reducible rfl))
        try simp only [Act.put, List.setIfInBounds_toArray, List.set_cons_zero, List.set_cons_succ]
        refine wpAnyH_take (i := 6) (oi := { dst := some 47, op := Op.move (Operand.tmp 46), type := 4, pos := "node.go:134", after := #[{ on := 5, ground := Ground.data }, { on := 4, ground := Ground.chain }], guard := none }) (v := ?_) rfl (by kernel_rfl) (by kernel_rfl) (by kernel_rfl) (fun _ _ _ h => h) (Or.inl ⟨by rfl, ?_⟩) (by assumption) ?_
        rotate_left
        · (intro W hW; (try dsimp only at hW); go_simp <;> (with_reducible rfl))
        try simp only [Act.put, List.setIfInBounds_toArray, List.set_cons_zero, List.set_cons_succ]
        refine wpAnyH_take (i := 7) (oi := { dst := some 48, op := Op.load 52 (Operand.tmp 1), type := 52, pos := "node.go:134", after := #[{ on := 6, ground := Ground.guard }], guard := some (6, true) }) (v := ?_) rfl (by kernel_rfl) (by kernel_rfl) (by kernel_rfl) (fun _ _ _ h => h) (Or.inl ⟨by rfl, ?_⟩) (by assumption) ?_
        rotate_left
        · (intro W hW; (try dsimp only at hW); go_simp <;> (with_reducible rfl))
        try simp only [Act.put, List.setIfInBounds_toArray, List.set_cons_zero, List.set_cons_succ]
        refine wpAnyH_ready (rs := [8]) (by kernel_rfl) (by simp) (AllReadyH.cons (o := { dst := some 49, op := Op.call { callee := Callee.value (Operand.func 32), args := #[Operand.tmp 48], argTypes := #[52] }, type := 46, pos := "node.go:134", after := #[{ on := 7, ground := Ground.data }, { on := 6, ground := Ground.chain }, { on := 6, ground := Ground.guard }], guard := some (6, true) }) rfl (fun K hK => ?_) AllReadyH.nil)
        rw [if_pos (by rfl)]
        go_wp2_with (first | (go_at_call 32; (with_reducible refine (CE _ hC7).mono ?_); rintro e1 w9 ⟨v9, rfl, ho9, hb9⟩; have hC9 := hC7.trans (hb9.mono hC7.size); obtain ⟨a9, c9, rfl, hs9⟩ := ho9.bss))
        refine hK.out _ _ (by with_reducible assumption) (fun hHeld => ?_)
        clear hK K
        try simp only [Act.put, List.setIfInBounds_toArray, List.set_cons_zero, List.set_cons_succ]
        refine wpAnyH_ready (rs := [9]) (by kernel_rfl) (by simp) (AllReadyH.cons (o := { dst := some 50, op := Op.call { callee := Callee.value (Operand.func 59), args := #[Operand.tmp 49], argTypes := #[46] }, type := 3, pos := "node.go:134", after := #[{ on := 8, ground := Ground.data }, { on := 8, ground := Ground.chain }, { on := 6, ground := Ground.guard }], guard := some (6, true) }) rfl (fun K hK => ?_) AllReadyH.nil)
        rw [if_pos (by rfl)]
        go_wp2_with (first | (go_at_call 59; (with_reducible refine (CS _ _ _ _ rfl hs9).mono ?_); rintro e1 w10 ⟨rfl, rfl⟩))
        refine hK.out _ _ (by with_reducible assumption) (fun hHeld => ?_)
        clear hK K
        try simp only [Act.put, List.setIfInBounds_toArray, List.set_cons_zero, List.set_cons_succ]
        refine wpAnyH_take (i := 10) (oi := { dst := some 51, op := Op.binOp BinOp.leq 3 (Operand.tmp 50) (Operand.const (Value.int IntKind.i64 122)) 3, type := 4, pos := "node.go:134", after := #[{ on := 9, ground := Ground.data }, { on := 6, ground := Ground.guard }], guard := some (6, true) }) (v := ?_) rfl (by kernel_rfl) (by kernel_rfl) (by kernel_rfl) (fun _ _ _ h => h) (Or.inl ⟨by rfl, ?_⟩) (by assumption) ?_
        rotate_left
        · (intro W hW; (try dsimp only at hW); go_simp <;> (with_reducible rfl))
        try simp only [Act.put, List.setIfInBounds_toArray, List.set_cons_zero, List.set_cons_succ]
        refine wpAnyH_take (i := 11) (oi := { dst := some 52, op := Op.pick (Operand.tmp 47) (Operand.tmp 51) (Operand.const (Value.bool false)), type := 4, pos := "node.go:134", after := #[{ on := 6, ground := Ground.data }, { on := 10, ground := Ground.data }], guard := none }) (v := ?_) rfl (by kernel_rfl) (by kernel_rfl) (by kernel_rfl) (fun _ _ _ h => h) (Or.inl ⟨by rfl, ?_⟩) (by assumption) ?_
        rotate_left
        · (intro W hW; (try dsimp only at hW); go_simp <;> (with_reducible rfl))
        try simp only [Act.put, List.setIfInBounds_toArray, List.set_cons_zero, List.set_cons_succ]
        refine wpAnyH_take (i := 12) (oi := { dst := some 2, op := Op.assign (Operand.tmp 52), type := 4, pos := "node.go:134", after := #[{ on := 11, ground := Ground.data }, { on := 9, ground := Ground.chain }, { on := 0, ground := Ground.phase }, { on := 1, ground := Ground.phase }, { on := 2, ground := Ground.phase }, { on := 3, ground := Ground.phase }, { on := 4, ground := Ground.phase }, { on := 5, ground := Ground.phase }, { on := 6, ground := Ground.phase }, { on := 7, ground := Ground.phase }, { on := 8, ground := Ground.phase }, { on := 9, ground := Ground.phase }, { on := 10, ground := Ground.phase }, { on := 11, ground := Ground.phase }], guard := none }) (v := ?_) rfl (by kernel_rfl) (by kernel_rfl) (by kernel_rfl) (fun _ _ _ h => h) (Or.inl ⟨by rfl, ?_⟩) (by assumption) ?_
        rotate_left
        · (intro W hW; (try dsimp only at hW); go_simp <;> (with_reducible rfl))
        try simp only [Act.put, List.setIfInBounds_toArray, List.set_cons_zero, List.set_cons_succ]
        refine wpAnyH_done (by kernel_rfl) ?_ _
        refine NoPanic.normal ?_
        have hb8 := below_then hbw hC9
        go_wp2_with fail
        go_ret
        exact ⟨ret_bool (by rw [HN.out, hg2, Bool.true_and]; exact decide_eq_decide.2 (by omega)), hb8⟩
      · have hg1 : decide ((2 : Int) ≤ (k : Int)) = false := by simp; omega
        have hg2 : decide (2 ≤ k) = false := by simp; omega
        go_wp2_with fail
        refine wp_region_noPanic ?_
        refine wp_region_held_drew (S := fun W => Below wr.heap.size wr W) (by kernel_rfl) (by with_reducible assumption) (fun hHeld => ?_)
        refine wpAnyH_take (i := 0) (oi := { dst := some 41, op := Op.fieldAddr 52 (Operand.tmp 1) 1, type := 0, pos := "node.go:134", after := #[], guard := none }) (v := ?_) rfl (by kernel_rfl) (by kernel_rfl) (by kernel_rfl) (fun _ _ _ h => h) (Or.inl ⟨by rfl, ?_⟩) (by assumption) ?_
        rotate_left
        · (intro W hW; (try dsimp only at hW); go_simp <;> (with_reducible rfl))
        try simp only [Act.put, List.setIfInBounds_toArray, List.set_cons_zero, List.set_cons_succ]
        refine wpAnyH_take (i := 1) (oi := { dst := some 42, op := Op.load 50 (Operand.tmp 41), type := 50, pos := "node.go:134", after := #[{ on := 0, ground := Ground.data }], guard := none }) (v := ?_) rfl (by kernel_rfl) (by kernel_rfl) (by kernel_rfl) (fun _ _ _ h => h) (Or.inl ⟨by rfl, ?_⟩) (by assumption) ?_
        rotate_left
        · (intro W hW; (try dsimp only at hW); go_simp <;> (with_reducible rfl))
        try simp only [Act.put, List.setIfInBounds_toArray, List.set_cons_zero, List.set_cons_succ]
        refine wpAnyH_take (i := 2) (oi := { dst := some 43, op := Op.call { callee := Callee.builtin Builtin.len, args := #[Operand.tmp 42], argTypes := #[50] }, type := 3, pos := "node.go:134", after := #[{ on := 1, ground := Ground.data }], guard := none }) (v := ?_) rfl (by kernel_rfl) (by kernel_rfl) (by kernel_rfl) (fun _ _ _ h => h) (Or.inl ⟨by rfl, ?_⟩) (by assumption) ?_
        rotate_left
        · (intro W hW; (try dsimp only at hW); go_simp <;> (with_reducible rfl))
        try simp only [Act.put, List.setIfInBounds_toArray, List.set_cons_zero, List.set_cons_succ]
        refine wpAnyH_take (i := 3) (oi := { dst := some 44, op := Op.move (Operand.tmp 3), type := 111, pos := "node.go:134", after := #[], guard := none }) (v := ?_) rfl (by kernel_rfl) (by kernel_rfl) (by kernel_rfl) (fun _ _ _ h => h) (Or.inl ⟨by rfl, ?_⟩) (by assumption) ?_
        rotate_left
        · (intro W hW; (try dsimp only at hW); go_simp <;> (with_reducible rfl))
        try simp only [Act.put, List.setIfInBounds_toArray, List.set_cons_zero, List.set_cons_succ]
        refine wpAnyH_ready (rs := [4]) (by kernel_rfl) (by simp) (AllReadyH.cons (o := { dst := some 45, op := Op.call { callee := Callee.invoke (Operand.tmp 44) "jalousie/node.least", args := #[], argTypes := #[] }, type := 3, pos := "node.go:134", after := #[{ on := 3, ground := Ground.data }], guard := none }) rfl (fun K hK => ?_) AllReadyH.nil)
        rw [if_pos (by rfl)]
        go_wp2_with (first | (go_at_call 112; (with_reducible refine (LE _).mono ?_); rintro e1 w7 ⟨rfl, hb7⟩; have hC7 := hC.trans (hb7.mono hC.size)))
        refine hK.out _ _ (by with_reducible assumption) (fun hHeld => ?_)
        clear hK K
        try simp only [Act.put, List.setIfInBounds_toArray, List.set_cons_zero, List.set_cons_succ]
        refine wpAnyH_take (i := 5) (oi := { dst := some 46, op := Op.binOp BinOp.geq 3 (Operand.tmp 43) (Operand.tmp 45) 3, type := 4, pos := "node.go:134", after := #[{ on := 2, ground := Ground.data }, { on := 4, ground := Ground.data }], guard := none }) (v := ?_) rfl (by kernel_rfl) (by kernel_rfl) (by kernel_rfl) (fun _ _ _ h => h) (Or.inl ⟨by rfl, ?_⟩) (by assumption) ?_
        rotate_left
        · (intro W hW; (try dsimp only at hW); go_simp <;> (with_reducible rfl))
        try simp only [Act.put, List.setIfInBounds_toArray, List.set_cons_zero, List.set_cons_succ]
        refine wpAnyH_take (i := 6) (oi := { dst := some 47, op := Op.move (Operand.tmp 46), type := 4, pos := "node.go:134", after := #[{ on := 5, ground := Ground.data }, { on := 4, ground := Ground.chain }], guard := none }) (v := ?_) rfl (by kernel_rfl) (by kernel_rfl) (by kernel_rfl) (fun _ _ _ h => h) (Or.inl ⟨by rfl, ?_⟩) (by assumption) ?_
        rotate_left
        · (intro W hW; (try dsimp only at hW); go_simp <;> (with_reducible rfl))
        try simp only [Act.put, List.setIfInBounds_toArray, List.set_cons_zero, List.set_cons_succ]
        refine wpAnyH_take (i := 7) (oi := { dst := some 48, op := Op.load 52 (Operand.tmp 1), type := 52, pos := "node.go:134", after := #[{ on := 6, ground := Ground.guard }], guard := some (6, true) }) rfl (by kernel_rfl) (by kernel_rfl) (by kernel_rfl) (fun _ _ _ h => h) (Or.inr ⟨by rfl, rfl⟩) (by assumption) ?_
        try simp only [Act.put, List.setIfInBounds_toArray, List.set_cons_zero, List.set_cons_succ]
        refine wpAnyH_take (i := 8) (oi := { dst := some 49, op := Op.call { callee := Callee.value (Operand.func 32), args := #[Operand.tmp 48], argTypes := #[52] }, type := 46, pos := "node.go:134", after := #[{ on := 7, ground := Ground.data }, { on := 6, ground := Ground.chain }, { on := 6, ground := Ground.guard }], guard := some (6, true) }) rfl (by kernel_rfl) (by kernel_rfl) (by kernel_rfl) (fun _ _ _ h => h) (Or.inr ⟨by rfl, rfl⟩) (by assumption) ?_
        try simp only [Act.put, List.setIfInBounds_toArray, List.set_cons_zero, List.set_cons_succ]
        refine wpAnyH_take (i := 9) (oi := { dst := some 50, op := Op.call { callee := Callee.value (Operand.func 59), args := #[Operand.tmp 49], argTypes := #[46] }, type := 3, pos := "node.go:134", after := #[{ on := 8, ground := Ground.data }, { on := 8, ground := Ground.chain }, { on := 6, ground := Ground.guard }], guard := some (6, true) }) rfl (by kernel_rfl) (by kernel_rfl) (by kernel_rfl) (fun _ _ _ h => h) (Or.inr ⟨by rfl, rfl⟩) (by assumption) ?_
        try simp only [Act.put, List.setIfInBounds_toArray, List.set_cons_zero, List.set_cons_succ]
        refine wpAnyH_take (i := 10) (oi := { dst := some 51, op := Op.binOp BinOp.leq 3 (Operand.tmp 50) (Operand.const (Value.int IntKind.i64 122)) 3, type := 4, pos := "node.go:134", after := #[{ on := 9, ground := Ground.data }, { on := 6, ground := Ground.guard }], guard := some (6, true) }) rfl (by kernel_rfl) (by kernel_rfl) (by kernel_rfl) (fun _ _ _ h => h) (Or.inr ⟨by rfl, rfl⟩) (by assumption) ?_
        try simp only [Act.put, List.setIfInBounds_toArray, List.set_cons_zero, List.set_cons_succ]
        refine wpAnyH_take (i := 11) (oi := { dst := some 52, op := Op.pick (Operand.tmp 47) (Operand.tmp 51) (Operand.const (Value.bool false)), type := 4, pos := "node.go:134", after := #[{ on := 6, ground := Ground.data }, { on := 10, ground := Ground.data }], guard := none }) (v := ?_) rfl (by kernel_rfl) (by kernel_rfl) (by kernel_rfl) (fun _ _ _ h => h) (Or.inl ⟨by rfl, ?_⟩) (by assumption) ?_
        rotate_left
        · (intro W hW; (try dsimp only at hW); go_simp <;> (with_reducible rfl))
        try simp only [Act.put, List.setIfInBounds_toArray, List.set_cons_zero, List.set_cons_succ]
        refine wpAnyH_take (i := 12) (oi := { dst := some 2, op := Op.assign (Operand.tmp 52), type := 4, pos := "node.go:134", after := #[{ on := 11, ground := Ground.data }, { on := 9, ground := Ground.chain }, { on := 0, ground := Ground.phase }, { on := 1, ground := Ground.phase }, { on := 2, ground := Ground.phase }, { on := 3, ground := Ground.phase }, { on := 4, ground := Ground.phase }, { on := 5, ground := Ground.phase }, { on := 6, ground := Ground.phase }, { on := 7, ground := Ground.phase }, { on := 8, ground := Ground.phase }, { on := 9, ground := Ground.phase }, { on := 10, ground := Ground.phase }, { on := 11, ground := Ground.phase }], guard := none }) (v := ?_) rfl (by kernel_rfl) (by kernel_rfl) (by kernel_rfl) (fun _ _ _ h => h) (Or.inl ⟨by rfl, ?_⟩) (by assumption) ?_
        rotate_left
        · (intro W hW; (try dsimp only at hW); go_simp <;> (with_reducible rfl))
        try simp only [Act.put, List.setIfInBounds_toArray, List.set_cons_zero, List.set_cons_succ]
        refine wpAnyH_done (by kernel_rfl) ?_ _
        refine NoPanic.normal ?_
        have hb8 := below_then hbw hC7
        go_wp2_with fail
        go_ret
        exact ⟨ret_bool (by rw [HN.out, hg2, Bool.false_and]), hb8⟩

theorem check_any (leaf : Bool) (a : Option Addr) (len cap : Nat) (l : List En) (w : World) (h : Ents w a len cap l) (hlen : len ≤ 65536) (hd : SmE l) :
    Calls Tryd.prog 34 #[.agg #[.bool leaf, .slice a len cap]] w fun e w' => e = .returned (.bool (nodeB leaf l)) ∧ Below w.heap.size w w' := by
  cases leaf
  · exact check_branch a len cap l w h hlen hd
  · exact check_leaf a len cap l w h hlen hd
end Go.Proofs.YtjdepdgoaopfoaaDoor
