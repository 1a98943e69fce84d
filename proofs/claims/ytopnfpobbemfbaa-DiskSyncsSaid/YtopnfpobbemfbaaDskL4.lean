/- The walk of DiskSyncs (printed by gen_dskL4.py). -/
import Derived.Test.YtopnfpobbemfbaaDskL3
namespace Go.Proofs.Ytopnfpobbemfbaa
open Go.RowKit

theorem row_two (W : World) (n m : Int) : Row .i64 (W.alloc (.cells #[.int .i64 n, .int .i64 m] 3)) (some ⟨W.heap.size, 0, none⟩) 2 2 [n, m] := Row.made .i64 W 3 [n, m] rfl (by unfold maxLen; simp)
theorem txs_two (W : World) (s t : List UInt8) : Txs (W.alloc (.cells #[.string (strOf s), .string (strOf t)] 9)) (some ⟨W.heap.size, 0, none⟩) 2 2 [s, t] := by
  have hh := World.alloc_heap_new W (.cells #[.string (strOf s), .string (strOf t)] 9)
  refine ⟨rfl, Nat.le_refl _, by unfold maxLen; omega, (fun h => by cases h), .inr ⟨W.heap.size, 0, rfl, by simp, fun i y hy => ?_⟩⟩
  have hi := (List.getElem?_eq_some_iff.1 hy).1
  simp at hi
  refine ⟨[.string (strOf y)], rfl, rfl, fun j v hv => ?_⟩
  obtain rfl : j = 0 := by have := (List.getElem?_eq_some_iff.1 hv).1; simp at this; omega
  simp at hv; subst hv
  simp only [World.cell?, hh]
  rcases (show i = 0 ∨ i = 1 by omega) with rfl | rfl
  · simp at hy; subst hy; rfl
  · simp at hy; subst hy; rfl
def SyRel (B : Nat) (w : World) (da db k : Nat) (wr : World) : Prop := ∃ M d, M ≤ 2 * k ∧ Two B wr da db M d d ∧ SyGood k d ∧ Below w.heap.size w wr
set_option maxRecDepth 100000 in
set_option maxHeartbeats 8000000 in
theorem lSyncs {w : World} {a : Option Addr} {len cap : Nat} {l : List Stp} (h : Stps w a len cap l) :
    Calls Try.prog 4 #[.slice a len cap] w fun e w' => e = .returned (.bool true) ∧ Below w.heap.size w w' := by
  have A := awake_any w
  have hm : len ≤ 9223372036854775807 := by have := h.2.1; have := h.2.2.1; unfold maxLen at this; omega
  have HL := Lib.hid h.1
  have H := Lib.hid h
  cases hs : smallB l with
  | false =>
    clear h
    go_enter Try.func4, Try.ntmps4
    go_wp2_with fail
    refine A.mono ?_
    rintro e w1 ⟨rfl, hb1⟩
    have C := small_any (H.out.below (Nat.le_refl _) hb1)
    rw [hs] at C
    clear hs
    go_wp2_with fail
    refine C.mono ?_
    rintro e w2 ⟨rfl, rfl⟩
    go_wp2_with fail
    go_ret
    exact ⟨rfl, hb1⟩
  | true =>
    have h40 : len ≤ 40 := by
      have := HL.out
      unfold smallB at hs
      simp at hs
      omega
    clear h
    go_enter Try.func4, Try.ntmps4
    go_wp2_with fail
    refine A.mono ?_
    rintro e w1 ⟨rfl, hb1⟩
    have C := small_any (H.out.below (Nat.le_refl _) hb1)
    rw [hs] at C
    have N := new_ok (row_two w1 4 4) (by decide)
    clear hs A
    go_wp2_with fail
    refine C.mono ?_
    rintro e w1' ⟨rfl, rfl⟩
    go_wp2_with fail
    refine N.mono ?_
    rintro e w2 ⟨da, rfl, hd2, hb2⟩
    generalize hB : (w1.alloc (.cells #[.int .i64 4, .int .i64 4] 3)).heap.size = B at *
    have hBw : w.heap.size ≤ B := by rw [← hB]; have := hb1.size; simp; omega
    have hw2 : Below w.heap.size w w2 := (hb1.alloc hb1.size _).trans (hb2.mono hBw)
    have N2 := new_two (hd2.below ((Below.refl _ _).alloc (Nat.le_refl _) (.cells #[.int .i64 4, .int .i64 4] 3))) (row_two w2 4 4) (by decide)
    have hsz2 := hw2.size
    clear N hB hb1 hb2 hd2 C
    go_wp2_with fail
    refine N2.mono ?_
    rintro e w3 ⟨db, rfl, hd3, hb3⟩
    have hw3 : Below w.heap.size w w3 := (hw2.alloc hsz2 _).trans (hb3.mono (by simp; omega))
    clear N2 hb3 hw2 hsz2
    go_wp2_with fail
    go_loopw [9] (fun i wr => ∃ k : Nat, k ≤ len ∧ i = .int .i64 k ∧ SyRel B w da db k wr) (fun i _ => len - (intOf i).toNat)
    case atStart => exact ⟨0, Nat.zero_le _, rfl, 0, _, Nat.le_refl _, hd3, syGood_new, hw3⟩
    case round =>
      clear hd3 hw3
      obtain ⟨k, hk, rfl, M, d, hM, hd, hg, hbw⟩ := hrel
      by_cases hlt : k < len
      · obtain ⟨b, off, y, rfl, hb, hy, _, _, hrg⟩ := H.out.stepAt hbw hlt
        have c0 : wr.cell? ⟨b, off + k * 6, none⟩ = some (.int .i64 y.kind) := hrg 0 _ rfl
        have c1 : wr.cell? ⟨b, off + k * 6 + 1, none⟩ = some (.int .i64 y.region) := hrg 1 _ rfl
        have c2 : wr.cell? ⟨b, off + k * 6 + 2, none⟩ = some (.int .i64 y.page) := hrg 2 _ rfl
        have c3 : wr.cell? ⟨b, off + k * 6 + 3, none⟩ = some (.int .u8 (y.fill.toNat : Int)) := hrg 3 _ rfl
        have c4 : wr.cell? ⟨b, off + k * 6 + 4, none⟩ = some (.bool y.short) := hrg 4 _ rfl
        have c5 : wr.cell? ⟨b, off + k * 6 + 5, none⟩ = some (.slice y.ka y.kl y.kc) := hrg 5 _ rfl
        have hsw := hbw.size
        clear hrg hy
        by_cases hkd : y.kind = 0
        · have q0 : (y.kind == 0) = true := by simp [hkd]
          have HBX : Boxes (wr.alloc (.cells #[.int .i64 y.kind, .int .i64 y.region, .int .i64 y.page, .int .u8 (y.fill.toNat : Int), .bool y.short, .slice y.ka y.kl y.kc] 33)).drew [(wr.heap.size, scells y)] := ((Boxes.nil wr).alloc _ _ rfl).drew
          have hdx := hd.k.box (.cells #[.int .i64 y.kind, .int .i64 y.region, .int .i64 y.page, .int .u8 (y.fill.toNat : Int), .bool y.short, .slice y.ka y.kl y.kc] 33)
          clear hkd
          go_wp2_with fail
          refine wp_region_noPanic ?_
          refine wp_region_held_drew (S := fun W => Boxes W [(wr.heap.size, scells y)]) (by kernel_rfl) (by exact HBX) (fun hHeld => ?_)
          refine wpAnyH_take (i := 0) (oi := { dst := some 49, op := Op.move (Operand.tmp 5), type := 24, pos := "law.go:253", after := #[], guard := none }) (v := ?_) rfl (by kernel_rfl) (by kernel_rfl) (by kernel_rfl) (fun _ _ _ h => h) (Or.inl ⟨by rfl, ?_⟩) (by assumption) ?_
          rotate_left
          · (intro W hW; obtain ⟨e0, e1, e2, e3, e4, e5⟩ := stp_cells hW; go_simp <;> (with_reducible rfl))
          try simp only [Act.put, List.setIfInBounds_toArray, List.set_cons_zero, List.set_cons_succ]
          refine wpAnyH_take (i := 1) (oi := { dst := some 50, op := Op.fieldAddr 33 (Operand.tmp 10) 1, type := 0, pos := "law.go:253", after := #[], guard := none }) (v := ?_) rfl (by kernel_rfl) (by kernel_rfl) (by kernel_rfl) (fun _ _ _ h => h) (Or.inl ⟨by rfl, ?_⟩) (by assumption) ?_
          rotate_left
          · (intro W hW; obtain ⟨e0, e1, e2, e3, e4, e5⟩ := stp_cells hW; go_simp <;> (with_reducible rfl))
          try simp only [Act.put, List.setIfInBounds_toArray, List.set_cons_zero, List.set_cons_succ]
          refine wpAnyH_take (i := 2) (oi := { dst := some 51, op := Op.load 3 (Operand.tmp 50), type := 3, pos := "law.go:253", after := #[{ on := 1, ground := Ground.data }], guard := none }) (v := ?_) rfl (by kernel_rfl) (by kernel_rfl) (by kernel_rfl) (fun _ _ _ h => h) (Or.inl ⟨by rfl, ?_⟩) (by assumption) ?_
          rotate_left
          · (intro W hW; obtain ⟨e0, e1, e2, e3, e4, e5⟩ := stp_cells hW; go_simp <;> (with_reducible rfl))
          try simp only [Act.put, List.setIfInBounds_toArray, List.set_cons_zero, List.set_cons_succ]
          refine wpAnyH_take (i := 3) (oi := { dst := some 52, op := Op.fieldAddr 33 (Operand.tmp 10) 2, type := 0, pos := "law.go:253", after := #[], guard := none }) (v := ?_) rfl (by kernel_rfl) (by kernel_rfl) (by kernel_rfl) (fun _ _ _ h => h) (Or.inl ⟨by rfl, ?_⟩) (by assumption) ?_
          rotate_left
          · (intro W hW; obtain ⟨e0, e1, e2, e3, e4, e5⟩ := stp_cells hW; go_simp <;> (with_reducible rfl))
          try simp only [Act.put, List.setIfInBounds_toArray, List.set_cons_zero, List.set_cons_succ]
          refine wpAnyH_take (i := 4) (oi := { dst := some 53, op := Op.load 3 (Operand.tmp 52), type := 3, pos := "law.go:253", after := #[{ on := 3, ground := Ground.data }], guard := none }) (v := ?_) rfl (by kernel_rfl) (by kernel_rfl) (by kernel_rfl) (fun _ _ _ h => h) (Or.inl ⟨by rfl, ?_⟩) (by assumption) ?_
          rotate_left
          · (intro W hW; obtain ⟨e0, e1, e2, e3, e4, e5⟩ := stp_cells hW; go_simp <;> (with_reducible rfl))
          try simp only [Act.put, List.setIfInBounds_toArray, List.set_cons_zero, List.set_cons_succ]
          refine wpAnyH_take (i := 5) (oi := { dst := some 54, op := Op.load 33 (Operand.tmp 10), type := 33, pos := "law.go:253", after := #[], guard := none }) (v := ?_) rfl (by kernel_rfl) (by kernel_rfl) (by kernel_rfl) (fun _ _ _ h => h) (Or.inl ⟨by rfl, ?_⟩) (by assumption) ?_
          rotate_left
          · (intro W hW; obtain ⟨e0, e1, e2, e3, e4, e5⟩ := stp_cells hW; go_simp <;> (with_reducible rfl))
          try simp only [Act.put, List.setIfInBounds_toArray, List.set_cons_zero, List.set_cons_succ]
          refine wpAnyH_ready (rs := [6]) (by kernel_rfl) (by simp) (AllReadyH.cons (o := { dst := some 55, op := Op.call { callee := Callee.value (Operand.func 11), args := #[Operand.tmp 54], argTypes := #[33] }, type := 22, pos := "law.go:253", after := #[{ on := 5, ground := Ground.data }], guard := none }) rfl (fun K hK => ?_) AllReadyH.nil)
          rw [if_pos (by rfl)]
          go_wp2_with fail
          refine (page_lit y _).mono ?_
          rintro e w6 ⟨v6, rfl, ho6, hb6⟩
          obtain ⟨a6, c6, rfl, hr6⟩ := Bs.of_own ho6
          have hg6 := own_ge ho6
          have hS6 : Boxes w6 [(wr.heap.size, scells y)] := HBX.step hb6
          have C7 := write_o (hdx.opens.below hb6) hr6 (fun g off hg => by subst hg; exact .inr (hg6 g rfl)) (by omega) y.region y.page
          refine hK.out _ _ (by exact hS6) (fun hHeld => ?_)
          clear hK K
          try simp only [Act.put, List.setIfInBounds_toArray, List.set_cons_zero, List.set_cons_succ]
          refine wpAnyH_ready (rs := [7]) (by kernel_rfl) (by simp) (AllReadyH.cons (o := { dst := some 56, op := Op.call { callee := Callee.value (Operand.func 10), args := #[Operand.tmp 49, Operand.tmp 51, Operand.tmp 53, Operand.tmp 55], argTypes := #[24, 3, 3, 22] }, type := 25, pos := "law.go:253", after := #[{ on := 0, ground := Ground.data }, { on := 2, ground := Ground.data }, { on := 4, ground := Ground.data }, { on := 6, ground := Ground.data }, { on := 6, ground := Ground.chain }], guard := none }) rfl (fun K hK => ?_) AllReadyH.nil)
          rw [if_pos (by rfl)]
          go_wp2_with fail
          refine C7.mono ?_
          rintro e w7 ⟨rfl, hd7, hb7, hk7⟩
          have hS7 : Boxes w7 [(wr.heap.size, scells y)] := hk7.boxes HBX (by simp)
          refine hK.out _ _ (by exact hS7) (fun hHeld => ?_)
          clear hK K
          try simp only [Act.put, List.setIfInBounds_toArray, List.set_cons_zero, List.set_cons_succ]
          refine wpAnyH_take (i := 8) (oi := { dst := some 11, op := Op.assign (Operand.tmp 56), type := 25, pos := "law.go:253", after := #[{ on := 7, ground := Ground.data }, { on := 7, ground := Ground.chain }, { on := 0, ground := Ground.phase }, { on := 1, ground := Ground.phase }, { on := 2, ground := Ground.phase }, { on := 3, ground := Ground.phase }, { on := 4, ground := Ground.phase }, { on := 5, ground := Ground.phase }, { on := 6, ground := Ground.phase }, { on := 7, ground := Ground.phase }], guard := none }) (v := ?_) rfl (by kernel_rfl) (by kernel_rfl) (by kernel_rfl) (fun _ _ _ h => h) (Or.inl ⟨by rfl, ?_⟩) (by assumption) ?_
          rotate_left
          · (intro W hW; obtain ⟨e0, e1, e2, e3, e4, e5⟩ := stp_cells hW; go_simp <;> (with_reducible rfl))
          try simp only [Act.put, List.setIfInBounds_toArray, List.set_cons_zero, List.set_cons_succ]
          refine wpAnyH_done (by kernel_rfl) ?_ _
          refine NoPanic.normal ?_
          clear hHeld
          have HBX2 : Boxes w7.drew [(wr.heap.size, scells y)] := hS7.drew
          have hd8 := hd7.drew
          have hw7 : Below w.heap.size w w7 := (hbw.alloc hsw _).trans (Below.mono (show Below B _ w7 from ⟨hb7.os, hb7.tape, hb7.output, hb7.size, hb7.block⟩) hBw)
          clear C7 hk7 hr6 ho6 hg6 hb6 hS6 c0 c1 c2 c3 c4 c5 HBX hd hdx hS7 hd7
          go_wp2_with fail
          refine wp_region_noPanic ?_
          refine wp_region_held_drew (S := fun W => Boxes W [(wr.heap.size, scells y)]) (by kernel_rfl) (by exact HBX2) (fun hHeld => ?_)
          refine wpAnyH_take (i := 0) (oi := { dst := some 57, op := Op.move (Operand.tmp 7), type := 24, pos := "law.go:254", after := #[], guard := none }) (v := ?_) rfl (by kernel_rfl) (by kernel_rfl) (by kernel_rfl) (fun _ _ _ h => h) (Or.inl ⟨by rfl, ?_⟩) (by assumption) ?_
          rotate_left
          · (intro W hW; obtain ⟨e0, e1, e2, e3, e4, e5⟩ := stp_cells hW; go_simp <;> (with_reducible rfl))
          try simp only [Act.put, List.setIfInBounds_toArray, List.set_cons_zero, List.set_cons_succ]
          refine wpAnyH_take (i := 1) (oi := { dst := some 58, op := Op.fieldAddr 33 (Operand.tmp 10) 1, type := 0, pos := "law.go:254", after := #[], guard := none }) (v := ?_) rfl (by kernel_rfl) (by kernel_rfl) (by kernel_rfl) (fun _ _ _ h => h) (Or.inl ⟨by rfl, ?_⟩) (by assumption) ?_
          rotate_left
          · (intro W hW; obtain ⟨e0, e1, e2, e3, e4, e5⟩ := stp_cells hW; go_simp <;> (with_reducible rfl))
          try simp only [Act.put, List.setIfInBounds_toArray, List.set_cons_zero, List.set_cons_succ]
          refine wpAnyH_take (i := 2) (oi := { dst := some 59, op := Op.load 3 (Operand.tmp 58), type := 3, pos := "law.go:254", after := #[{ on := 1, ground := Ground.data }], guard := none }) (v := ?_) rfl (by kernel_rfl) (by kernel_rfl) (by kernel_rfl) (fun _ _ _ h => h) (Or.inl ⟨by rfl, ?_⟩) (by assumption) ?_
          rotate_left
          · (intro W hW; obtain ⟨e0, e1, e2, e3, e4, e5⟩ := stp_cells hW; go_simp <;> (with_reducible rfl))
          try simp only [Act.put, List.setIfInBounds_toArray, List.set_cons_zero, List.set_cons_succ]
          refine wpAnyH_take (i := 3) (oi := { dst := some 60, op := Op.fieldAddr 33 (Operand.tmp 10) 2, type := 0, pos := "law.go:254", after := #[], guard := none }) (v := ?_) rfl (by kernel_rfl) (by kernel_rfl) (by kernel_rfl) (fun _ _ _ h => h) (Or.inl ⟨by rfl, ?_⟩) (by assumption) ?_
          rotate_left
          · (intro W hW; obtain ⟨e0, e1, e2, e3, e4, e5⟩ := stp_cells hW; go_simp <;> (with_reducible rfl))
          try simp only [Act.put, List.setIfInBounds_toArray, List.set_cons_zero, List.set_cons_succ]
          refine wpAnyH_take (i := 4) (oi := { dst := some 61, op := Op.load 3 (Operand.tmp 60), type := 3, pos := "law.go:254", after := #[{ on := 3, ground := Ground.data }], guard := none }) (v := ?_) rfl (by kernel_rfl) (by kernel_rfl) (by kernel_rfl) (fun _ _ _ h => h) (Or.inl ⟨by rfl, ?_⟩) (by assumption) ?_
          rotate_left
          · (intro W hW; obtain ⟨e0, e1, e2, e3, e4, e5⟩ := stp_cells hW; go_simp <;> (with_reducible rfl))
          try simp only [Act.put, List.setIfInBounds_toArray, List.set_cons_zero, List.set_cons_succ]
          refine wpAnyH_take (i := 5) (oi := { dst := some 62, op := Op.load 33 (Operand.tmp 10), type := 33, pos := "law.go:254", after := #[], guard := none }) (v := ?_) rfl (by kernel_rfl) (by kernel_rfl) (by kernel_rfl) (fun _ _ _ h => h) (Or.inl ⟨by rfl, ?_⟩) (by assumption) ?_
          rotate_left
          · (intro W hW; obtain ⟨e0, e1, e2, e3, e4, e5⟩ := stp_cells hW; go_simp <;> (with_reducible rfl))
          try simp only [Act.put, List.setIfInBounds_toArray, List.set_cons_zero, List.set_cons_succ]
          refine wpAnyH_ready (rs := [6]) (by kernel_rfl) (by simp) (AllReadyH.cons (o := { dst := some 63, op := Op.call { callee := Callee.value (Operand.func 11), args := #[Operand.tmp 62], argTypes := #[33] }, type := 22, pos := "law.go:254", after := #[{ on := 5, ground := Ground.data }], guard := none }) rfl (fun K hK => ?_) AllReadyH.nil)
          rw [if_pos (by rfl)]
          go_wp2_with fail
          refine (page_lit y _).mono ?_
          rintro e w8 ⟨v6, rfl, ho6, hb6⟩
          obtain ⟨a6, c6, rfl, hr6⟩ := Bs.of_own ho6
          have hg6 := own_ge ho6
          have hS6 : Boxes w8 [(wr.heap.size, scells y)] := HBX2.step hb6
          have C7 := write_o (hd8.swap.opens.below hb6) hr6 (fun g off hg => by subst hg; exact .inr (hg6 g rfl)) (by omega) y.region y.page
          refine hK.out _ _ (by exact hS6) (fun hHeld => ?_)
          clear hK K
          try simp only [Act.put, List.setIfInBounds_toArray, List.set_cons_zero, List.set_cons_succ]
          refine wpAnyH_ready (rs := [7]) (by kernel_rfl) (by simp) (AllReadyH.cons (o := { dst := some 64, op := Op.call { callee := Callee.value (Operand.func 10), args := #[Operand.tmp 57, Operand.tmp 59, Operand.tmp 61, Operand.tmp 63], argTypes := #[24, 3, 3, 22] }, type := 25, pos := "law.go:254", after := #[{ on := 0, ground := Ground.data }, { on := 2, ground := Ground.data }, { on := 4, ground := Ground.data }, { on := 6, ground := Ground.data }, { on := 6, ground := Ground.chain }], guard := none }) rfl (fun K hK => ?_) AllReadyH.nil)
          rw [if_pos (by rfl)]
          go_wp2_with fail
          refine C7.mono ?_
          rintro e w9 ⟨rfl, hd9, hb9, hk9⟩
          have hS7 : Boxes w9 [(wr.heap.size, scells y)] := hk9.boxes HBX2 (by simp)
          refine hK.out _ _ (by exact hS7) (fun hHeld => ?_)
          clear hK K
          try simp only [Act.put, List.setIfInBounds_toArray, List.set_cons_zero, List.set_cons_succ]
          refine wpAnyH_take (i := 8) (oi := { dst := some 12, op := Op.assign (Operand.tmp 64), type := 25, pos := "law.go:254", after := #[{ on := 7, ground := Ground.data }, { on := 7, ground := Ground.chain }, { on := 0, ground := Ground.phase }, { on := 1, ground := Ground.phase }, { on := 2, ground := Ground.phase }, { on := 3, ground := Ground.phase }, { on := 4, ground := Ground.phase }, { on := 5, ground := Ground.phase }, { on := 6, ground := Ground.phase }, { on := 7, ground := Ground.phase }], guard := none }) (v := ?_) rfl (by kernel_rfl) (by kernel_rfl) (by kernel_rfl) (fun _ _ _ h => h) (Or.inl ⟨by rfl, ?_⟩) (by assumption) ?_
          rotate_left
          · (intro W hW; obtain ⟨e0, e1, e2, e3, e4, e5⟩ := stp_cells hW; go_simp <;> (with_reducible rfl))
          try simp only [Act.put, List.setIfInBounds_toArray, List.set_cons_zero, List.set_cons_succ]
          refine wpAnyH_done (by kernel_rfl) ?_ _
          refine NoPanic.normal ?_
          clear hHeld
          have hw9 : Below w.heap.size w w9 := hw7.trans (Below.mono (show Below B w7 w9 from ⟨hb9.os, hb9.tape, hb9.output, hb9.size, hb9.block⟩) hBw)
          have END : SyRel B w da db (k + 1) w9 := ⟨M + 1 + 1, _, by omega, hd9.swap.two, hg.write _ _ _, hw9⟩
          have END := Lib.hid END
          clear C7 hk9 hr6 ho6 hg6 hb6 hS6 hS7 hb9 HBX2 hd8 hd9 hw7 hw9 hg hM hbw hb7
          have q1 : (writeE d y.region y.page (pageB y) == writeE d y.region y.page (pageB y)) = true := by simp
          go_wp2_with fail
          go_roundw
          case rel => exact ⟨k + 1, hlt, by go_num, END.out⟩
          case measure => simp [intOf]; omega
        · have q0 : (y.kind == 0) = false := by simp [hkd]
          have END : SyRel B w da db (k + 1) (wr.alloc (.cells #[.int .i64 y.kind, .int .i64 y.region, .int .i64 y.page, .int .u8 (y.fill.toNat : Int), .bool y.short, .slice y.ka y.kl y.kc] 33)) := ⟨M, d, by omega, hd.below ((Below.refl _ _).alloc (Nat.le_refl _) _), hg.mono (by omega), hbw.alloc hsw _⟩
          have END := Lib.hid END
          clear hkd hd hg hbw hM
          go_wp2_with fail
          go_roundw
          case rel => exact ⟨k + 1, hlt, by go_num, END.out⟩
          case measure => simp [intOf]; omega
      · obtain rfl : len = k := by omega
        have SG := hg
        have hE := syGood_sync hg
        have hC := syGood_crash hg h40
        have C := sync_o hd.opens (by omega) 0
        go_wp2_with fail
        refine C.mono ?_
        rintro e w4 ⟨rfl, hd4, hb4⟩
        have hw4 : Below w.heap.size w w4 := hbw.trans (hb4.mono hBw)
        have C := sync_o hd4.opens (by omega) 1
        clear hb4 hd hbw
        go_wp2_with fail
        refine C.mono ?_
        rintro e w5 ⟨rfl, hd5, hb5⟩
        have hw5 : Below w.heap.size w w5 := hw4.trans (hb5.mono hBw)
        rw [hE] at hd5
        have C := crash_o (hd5.swap.opens.below ((Below.refl _ _).alloc (Nat.le_refl _) (.cells #[.string (strOf ff6), .string (strOf ff6)] 9))) (by omega) (txs_two w5 ff6 ff6) (fun g off hg => by cases hg; exact .inr (Nat.le_refl _))
        clear hb5 hd4 hw4
        go_wp2_with fail
        refine C.mono ?_
        rintro e w6 ⟨rfl, hd6, hb6⟩
        have hw6 : Below w.heap.size w w6 := hw5.trans (hb6.mono hBw)
        rw [hC] at hd6
        have hd6 := hd6.swap
        have SG := Lib.hid SG
        clear C hb6 hd5 hw5 hE hC hg
        go_wp2_with fail
        go_loopw [13] (fun i wr => ∃ k : Nat, k ≤ 2 ∧ i = .int .i64 k ∧ Two B wr da db M (syEnd d) (syEnd d) ∧ Below w.heap.size w wr) (fun i _ => 2 - (intOf i).toNat)
        case atStart => exact ⟨0, by omega, rfl, hd6, hw6⟩
        case round =>
          clear hd6 hw6
          obtain ⟨r, hr, rfl, hd, hbw⟩ := hrel
          by_cases hlr : r < 2
          · have q2 : decide (r < 2) = true := by simpa using hlr
            have q2' : decide ((r : Int) < 2) = true := by simp; omega
            go_wp2_with fail
            obtain ⟨wo, hwo⟩ : ∃ wo : World, wo = wr := ⟨_, rfl⟩
            subst hwo
            go_loopw [14] (fun i wr => ∃ p : Nat, p ≤ 4 ∧ i = .int .i64 p ∧ Two B wr da db M (syEnd d) (syEnd d) ∧ Below w.heap.size w wr) (fun i _ => 4 - (intOf i).toNat)
            case atStart => exact ⟨0, by omega, rfl, hd, hbw⟩
            case round =>
              clear hd hbw
              obtain ⟨p, hp, rfl, hd, hbw⟩ := hrel
              by_cases hlp : p < 4
              · have hpe := syEnd_page SG.out r p hlr hlp
                have C := read_o hd.left r p
                obtain ⟨z, hz⟩ : ∃ z, z = readB (syEnd d) r p := ⟨_, rfl⟩
                rw [hpe, ← hz] at C
                have HZE := Lib.hid hz
                clear hz
                go_wp2_with fail
                refine C.mono ?_
                rintro e wa ⟨va, rfl, hoa, hba⟩
                obtain ⟨aa, ca, rfl, hra⟩ := Bs.of_own hoa
                have hda := hd.below hba
                have hwa : Below w.heap.size w wa := hbw.trans (hba.mono hbw.size)
                have C := read_o hda.swap.left r p
                rw [hpe, ← HZE.out] at C
                have HRA := Lib.hid hra
                have HZ := Lib.hid hda
                have HW := Lib.hid hwa
                clear hpe hoa hba hd hbw hra
                go_wp2_with fail
                refine C.mono ?_
                rintro e wb ⟨vb, rfl, hob, hbb⟩
                obtain ⟨ab, cb, rfl, hrb⟩ := Bs.of_own hob
                have hra2 := HRA.out.below (Nat.le_refl _) hbb
                have K1 := conv_string (P := Try.prog) Try.underlying22 Try.underlying5 Try.underlying9 hra2
                have K2 := conv_string (P := Try.prog) Try.underlying22 Try.underlying5 Try.underlying9 hrb
                have hst := strOf_toList z
                have hdb' := Lib.hid (HZ.out.below hbb)
                have hwb := Lib.hid (HW.out.trans (hbb.mono HW.out.size))
                clear C hra2 hrb hob hbb hda hwa HZ HW HRA
                go_wp2_with fail
                go_roundw
                case rel => exact ⟨p + 1, hlp, by go_num, hdb'.out, hwb.out⟩
                case measure => simp [intOf]; omega
              · obtain rfl : p = 4 := by omega
                obtain ⟨x, hx, hxl⟩ := syEnd_loose SG.out r hlr
                have C := loose_o hd.left (by omega) r x hx
                have HZ := Lib.hid hd
                have HW := Lib.hid hbw
                have HX := Lib.hid hx
                have HXL := Lib.hid hxl
                clear hd hbw hx hxl
                go_wp2_with fail
                refine C.mono ?_
                rintro e wa ⟨va, rfl, hoa, hba⟩
                obtain ⟨aa, ca, rfl, hca, hca'⟩ := own_len hoa HXL.out
                have hda := HZ.out.below hba
                have hwa := HW.out.trans (hba.mono HW.out.size)
                have C := loose_o hda.swap.left (by omega) r x HX.out
                have HDA := Lib.hid hda
                have HWA := Lib.hid hwa
                clear hoa hba hda hwa HZ HW
                go_wp2_with fail
                refine C.mono ?_
                rintro e wb ⟨vb, rfl, hob, hbb⟩
                obtain ⟨ab, cb, rfl, hcb, hcb'⟩ := own_len hob HXL.out
                have hdb' := Lib.hid (HDA.out.below hbb)
                have hwb := Lib.hid (HWA.out.trans (hbb.mono HWA.out.size))
                clear C hob hbb HDA HWA
                go_wp2_with fail
                go_roundw
                case rel => exact ⟨r + 1, hlr, by go_num, hdb'.out, hwb.out⟩
                case measure => simp [intOf]; omega
          · obtain rfl : r = 2 := by omega
            have END := Lib.hid hbw
            clear hd hbw
            go_wp2_with fail
            go_ret
            exact ⟨rfl, END.out⟩
end Go.Proofs.Ytopnfpobbemfbaa
