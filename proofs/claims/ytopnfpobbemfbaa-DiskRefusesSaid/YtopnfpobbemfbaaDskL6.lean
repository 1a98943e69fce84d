/- The walk of DiskRefuses (printed by gen_dskL6.py). -/
import Derived.Test.YtopnfpobbemfbaaDskL5
namespace Go.Proofs.Ytopnfpobbemfbaa
open Go.RowKit

def RfRel (B : Nat) (w : World) (da A k n : Nat) (wr : World) : Prop := n ≤ k ∧ ∃ M d, M ≤ k ∧ One B wr da M d ∧ RfGood A n d ∧ Below w.heap.size w wr
def RfX (B : Nat) (w : World) (b1 b2 da M : Nat) (d : List Rg) (ax : Option Addr) (cx : Nat) (ay : Option Addr) (cy : Nat) (z : List UInt8) (wr : World) : Prop :=
  ∃ zs : List Int, zs.length = z.length ∧ OneK B ((Value.slice ax z.length cx).ownBlock.toList ++ []) wr da M d ∧ wr.ownsRow b1 5 1 (.slice ax z.length cx) z.length (zs.map (Value.int .u8)) ∧ wr.ownsRow b2 5 1 (.slice ay z.length cy) z.length ((toI z).map (Value.int .u8)) ∧ Below w.heap.size w wr
set_option maxRecDepth 100000 in
set_option maxHeartbeats 8000000 in
theorem lRefuses {w : World} {a : Option Addr} {len cap : Nat} {l : List Stp} (h : Stps w a len cap l) (A : Nat) (hA : A < 256) :
    Calls Try.prog 5 #[.slice a len cap, .int .u8 (A : Int)] w fun e w' => e = .returned (.bool true) ∧ Below w.heap.size w w' := by
  have AW := awake_any w
  have hm : len ≤ 9223372036854775807 := by have := h.2.1; have := h.2.2.1; unfold maxLen at this; omega
  have HL := Lib.hid h.1
  have H := Lib.hid h
  cases hs : smallB l with
  | false =>
    clear h
    go_enter Try.func5, Try.ntmps5
    go_wp2_with fail
    refine AW.mono ?_
    rintro e w1 ⟨rfl, hb1⟩
    have C := small_any (H.out.below (Nat.le_refl _) hb1)
    rw [hs] at C
    clear hs
    go_wp2_with fail
    refine C.mono ?_
    rintro e w2 ⟨rfl, rfl⟩
    go_wp2_with fail
    go_ret
    exact ⟨rfl, hb1⟩
  | true =>
    have h40 : len ≤ 40 := by
      have := HL.out
      unfold smallB at hs
      simp at hs
      omega
    clear h
    go_enter Try.func5, Try.ntmps5
    go_wp2_with fail
    refine AW.mono ?_
    rintro e w1 ⟨rfl, hb1⟩
    have C := small_any (H.out.below (Nat.le_refl _) hb1)
    rw [hs] at C
    have N := new_ok (row_sole w1 4) (by decide)
    clear hs AW
    go_wp2_with fail
    refine C.mono ?_
    rintro e w1' ⟨rfl, rfl⟩
    go_wp2_with fail
    refine N.mono ?_
    rintro e w2 ⟨da, rfl, hd2, hb2⟩
    generalize hB : (w1.alloc (.cells #[.int .i64 4] 3)).heap.size = B at *
    have hBw : w.heap.size ≤ B := by rw [← hB]; have := hb1.size; simp; omega
    have hw2 : Below w.heap.size w w2 := (hb1.alloc hb1.size _).trans (hb2.mono hBw)
    have C := stop_o hd2.opens 0 (A : Int) (by omega)
    clear N hB hb1 hb2
    go_wp2_with fail
    refine C.mono ?_
    rintro e w3 ⟨rfl, hd3, hb3⟩
    have hw3 : Below w.heap.size w w3 := hw2.trans (hb3.mono hBw)
    clear C hd2 hw2 hb3
    go_wp2_with fail
    go_loopw [9, 10] (fun c i wr => ∃ k n : Nat, k ≤ len ∧ i = .int .i64 k ∧ c = .int .i64 n ∧ RfRel B w da A k n wr) (fun _ i _ => len - (intOf i).toNat)
    case atStart => exact ⟨0, 0, Nat.zero_le _, rfl, rfl, Nat.le_refl _, 0, _, Nat.le_refl _, hd3, rfGood_new A, hw3⟩
    case round =>
      clear hd3 hw3
      obtain ⟨k, n, hk, rfl, rfl, hnk, M, d, hM, hd, hg, hbw⟩ := hrel
      by_cases hlt : k < len
      · obtain ⟨b, off, y, rfl, hb, hy, _, _, hrg⟩ := H.out.stepAt hbw hlt
        have c0 : wr.cell? ⟨b, off + k * 6, none⟩ = some (.int .i64 y.kind) := hrg 0 _ rfl
        have c1 : wr.cell? ⟨b, off + k * 6 + 1, none⟩ = some (.int .i64 y.region) := hrg 1 _ rfl
        have c2 : wr.cell? ⟨b, off + k * 6 + 2, none⟩ = some (.int .i64 y.page) := hrg 2 _ rfl
        have c3 : wr.cell? ⟨b, off + k * 6 + 3, none⟩ = some (.int .u8 (y.fill.toNat : Int)) := hrg 3 _ rfl
        have c4 : wr.cell? ⟨b, off + k * 6 + 4, none⟩ = some (.bool y.short) := hrg 4 _ rfl
        have c5 : wr.cell? ⟨b, off + k * 6 + 5, none⟩ = some (.slice y.ka y.kl y.kc) := hrg 5 _ rfl
        have hsw := hbw.size
        clear hrg hy
        by_cases hkd : y.kind = 0
        · have q0 : (y.kind == 0) = true := by simp [hkd]
          clear hkd
          cases hsh : y.short with
          | false =>
            rw [hsh] at c4
            have HSH := Lib.hid hsh
            have HBX : Boxes (wr.alloc (.cells #[.int .i64 y.kind, .int .i64 y.region, .int .i64 y.page, .int .u8 (y.fill.toNat : Int), .bool false, .slice y.ka y.kl y.kc] 33)).drew [(wr.heap.size, scellsS y false)] := ((Boxes.nil wr).alloc _ _ rfl).drew
            have hdx := hd.k.box (.cells #[.int .i64 y.kind, .int .i64 y.region, .int .i64 y.page, .int .u8 (y.fill.toNat : Int), .bool false, .slice y.ka y.kl y.kc] 33)
            clear hsh
            by_cases g0 : y.region = 0
            · have q1 : (y.region == 0) = true := by simp [g0]
              by_cases g1 : 0 ≤ y.page
              · have q2 : decide (0 ≤ y.page) = true := by simpa using g1
                by_cases g2 : y.page < 4
                · have q3 : decide (y.page < 4) = true := by simpa using g2
                  have HG := Lib.hid (rf_may0 hg y.region y.page (pageB y) g0 ⟨g1, g2⟩ (by rw [pageB_length, HSH.out]; rfl))
                  clear g0 g1 g2
                  go_wp2_with fail
                  refine wp_region_noPanic ?_
                  refine wp_region_held_drew (S := fun W => Boxes W [(wr.heap.size, scellsS y false)]) (by kernel_rfl) (by exact HBX) (fun hHeld => ?_)
                  refine wpAnyH_take (i := 0) (oi := { dst := some 68, op := Op.move (Operand.tmp 7), type := 24, pos := "law.go:297", after := #[], guard := none }) (v := ?_) rfl (by kernel_rfl) (by kernel_rfl) (by kernel_rfl) (fun _ _ _ h => h) (Or.inl ⟨by rfl, ?_⟩) (by assumption) ?_
                  rotate_left
                  · (intro W hW; obtain ⟨e0, e1, e2, e3, e4, e5⟩ := stp_cellsS hW; go_simp <;> (with_reducible rfl))
                  try simp only [Act.put, List.setIfInBounds_toArray, List.set_cons_zero, List.set_cons_succ]
                  refine wpAnyH_take (i := 1) (oi := { dst := some 69, op := Op.fieldAddr 33 (Operand.tmp 11) 1, type := 0, pos := "law.go:297", after := #[], guard := none }) (v := ?_) rfl (by kernel_rfl) (by kernel_rfl) (by kernel_rfl) (fun _ _ _ h => h) (Or.inl ⟨by rfl, ?_⟩) (by assumption) ?_
                  rotate_left
                  · (intro W hW; obtain ⟨e0, e1, e2, e3, e4, e5⟩ := stp_cellsS hW; go_simp <;> (with_reducible rfl))
                  try simp only [Act.put, List.setIfInBounds_toArray, List.set_cons_zero, List.set_cons_succ]
                  refine wpAnyH_take (i := 2) (oi := { dst := some 70, op := Op.load 3 (Operand.tmp 69), type := 3, pos := "law.go:297", after := #[{ on := 1, ground := Ground.data }], guard := none }) (v := ?_) rfl (by kernel_rfl) (by kernel_rfl) (by kernel_rfl) (fun _ _ _ h => h) (Or.inl ⟨by rfl, ?_⟩) (by assumption) ?_
                  rotate_left
                  · (intro W hW; obtain ⟨e0, e1, e2, e3, e4, e5⟩ := stp_cellsS hW; go_simp <;> (with_reducible rfl))
                  try simp only [Act.put, List.setIfInBounds_toArray, List.set_cons_zero, List.set_cons_succ]
                  refine wpAnyH_take (i := 3) (oi := { dst := some 71, op := Op.fieldAddr 33 (Operand.tmp 11) 2, type := 0, pos := "law.go:297", after := #[], guard := none }) (v := ?_) rfl (by kernel_rfl) (by kernel_rfl) (by kernel_rfl) (fun _ _ _ h => h) (Or.inl ⟨by rfl, ?_⟩) (by assumption) ?_
                  rotate_left
                  · (intro W hW; obtain ⟨e0, e1, e2, e3, e4, e5⟩ := stp_cellsS hW; go_simp <;> (with_reducible rfl))
                  try simp only [Act.put, List.setIfInBounds_toArray, List.set_cons_zero, List.set_cons_succ]
                  refine wpAnyH_take (i := 4) (oi := { dst := some 72, op := Op.load 3 (Operand.tmp 71), type := 3, pos := "law.go:297", after := #[{ on := 3, ground := Ground.data }], guard := none }) (v := ?_) rfl (by kernel_rfl) (by kernel_rfl) (by kernel_rfl) (fun _ _ _ h => h) (Or.inl ⟨by rfl, ?_⟩) (by assumption) ?_
                  rotate_left
                  · (intro W hW; obtain ⟨e0, e1, e2, e3, e4, e5⟩ := stp_cellsS hW; go_simp <;> (with_reducible rfl))
                  try simp only [Act.put, List.setIfInBounds_toArray, List.set_cons_zero, List.set_cons_succ]
                  refine wpAnyH_take (i := 5) (oi := { dst := some 73, op := Op.load 33 (Operand.tmp 11), type := 33, pos := "law.go:297", after := #[], guard := none }) (v := ?_) rfl (by kernel_rfl) (by kernel_rfl) (by kernel_rfl) (fun _ _ _ h => h) (Or.inl ⟨by rfl, ?_⟩) (by assumption) ?_
                  rotate_left
                  · (intro W hW; obtain ⟨e0, e1, e2, e3, e4, e5⟩ := stp_cellsS hW; go_simp <;> (with_reducible rfl))
                  try simp only [Act.put, List.setIfInBounds_toArray, List.set_cons_zero, List.set_cons_succ]
                  refine wpAnyH_ready (rs := [6]) (by kernel_rfl) (by simp) (AllReadyH.cons (o := { dst := some 74, op := Op.call { callee := Callee.value (Operand.func 11), args := #[Operand.tmp 73], argTypes := #[33] }, type := 22, pos := "law.go:297", after := #[{ on := 5, ground := Ground.data }], guard := none }) rfl (fun K hK => ?_) AllReadyH.nil)
                  rw [if_pos (by rfl)]
                  go_wp2_with fail
                  refine (page_litS y false HSH.out _).mono ?_
                  rintro e w6 ⟨v6, rfl, ho6, hb6⟩
                  obtain ⟨a6, c6, rfl, hr6⟩ := Bs.of_own ho6
                  have hg6 := own_ge ho6
                  have hS6 : Boxes w6 [(wr.heap.size, scellsS y false)] := HBX.step hb6
                  have C7 := write_o (hdx.opens.below hb6) hr6 (fun g off hg => by subst hg; exact .inr (hg6 g rfl)) (by omega) y.region y.page
                  refine hK.out _ _ (by exact hS6) (fun hHeld => ?_)
                  clear hK K
                  try simp only [Act.put, List.setIfInBounds_toArray, List.set_cons_zero, List.set_cons_succ]
                  refine wpAnyH_ready (rs := [7]) (by kernel_rfl) (by simp) (AllReadyH.cons (o := { dst := some 75, op := Op.call { callee := Callee.value (Operand.func 10), args := #[Operand.tmp 68, Operand.tmp 70, Operand.tmp 72, Operand.tmp 74], argTypes := #[24, 3, 3, 22] }, type := 25, pos := "law.go:297", after := #[{ on := 0, ground := Ground.data }, { on := 2, ground := Ground.data }, { on := 4, ground := Ground.data }, { on := 6, ground := Ground.data }, { on := 6, ground := Ground.chain }], guard := none }) rfl (fun K hK => ?_) AllReadyH.nil)
                  rw [if_pos (by rfl)]
                  go_wp2_with fail
                  refine C7.mono ?_
                  rintro e w7 ⟨rfl, hd7, hb7, hk7⟩
                  have hS7 : Boxes w7 [(wr.heap.size, scellsS y false)] := hk7.boxes HBX (by simp)
                  refine hK.out _ _ (by exact hS7) (fun hHeld => ?_)
                  clear hK K
                  try simp only [Act.put, List.setIfInBounds_toArray, List.set_cons_zero, List.set_cons_succ]
                  refine wpAnyH_take (i := 8) (oi := { dst := some 13, op := Op.assign (Operand.tmp 75), type := 25, pos := "law.go:297", after := #[{ on := 7, ground := Ground.data }, { on := 7, ground := Ground.chain }, { on := 0, ground := Ground.phase }, { on := 1, ground := Ground.phase }, { on := 2, ground := Ground.phase }, { on := 3, ground := Ground.phase }, { on := 4, ground := Ground.phase }, { on := 5, ground := Ground.phase }, { on := 6, ground := Ground.phase }, { on := 7, ground := Ground.phase }], guard := none }) (v := ?_) rfl (by kernel_rfl) (by kernel_rfl) (by kernel_rfl) (fun _ _ _ h => h) (Or.inl ⟨by rfl, ?_⟩) (by assumption) ?_
                  rotate_left
                  · (intro W hW; obtain ⟨e0, e1, e2, e3, e4, e5⟩ := stp_cellsS hW; go_simp <;> (with_reducible rfl))
                  refine wpAnyH_done (by kernel_rfl) ?_ _
                  refine NoPanic.normal ?_
                  clear hHeld
                  have hw7 : Below w.heap.size w w7 := (hbw.alloc hsw _).trans (Below.mono (show Below B _ w7 from ⟨hb7.os, hb7.tape, hb7.output, hb7.size, hb7.block⟩) hBw)
                  have END : RfRel B w da A (k + 1) (n + 1) w7 := ⟨by omega, M + 1, _, by omega, hd7.one, HG.out.2, hw7⟩
                  have END := Lib.hid END
                  have hE := HG.out.1
                  clear C7 hk7 hr6 ho6 hg6 hb6 hS6 hS7 c0 c1 c2 c3 c4 c5 HBX hd hdx hd7 hb7 hw7 hbw hg hM HG HSH
                  by_cases hnA : n < A
                  · rw [if_pos hnA] at hE
                    rw [hE]
                    have q7 : decide (n < A) = true := by simpa using hnA
                    clear hE
                    go_wp2_with fail
                    go_roundw
                    case rel => exact ⟨k + 1, n + 1, hlt, by go_num, by go_num, END.out⟩
                    case measure => simp [intOf]; omega
                  · rw [if_neg hnA] at hE
                    rw [hE]
                    have q7 : decide (n < A) = false := by simpa using hnA
                    clear hE
                    go_wp2_with fail
                    go_roundw
                    case rel => exact ⟨k + 1, n + 1, hlt, by go_num, by go_num, END.out⟩
                    case measure => simp [intOf]; omega
                · have q3 : decide (y.page < 4) = false := by simpa using g2
                  have HG := Lib.hid (rf_not hg y.region y.page (pageB y) (fun hh => g2 hh.2.1.2))
                  clear g0 g1 g2
                  go_wp2_with fail
                  refine wp_region_noPanic ?_
                  refine wp_region_held_drew (S := fun W => Boxes W [(wr.heap.size, scellsS y false)]) (by kernel_rfl) (by exact HBX) (fun hHeld => ?_)
                  refine wpAnyH_take (i := 0) (oi := { dst := some 68, op := Op.move (Operand.tmp 7), type := 24, pos := "law.go:297", after := #[], guard := none }) (v := ?_) rfl (by kernel_rfl) (by kernel_rfl) (by kernel_rfl) (fun _ _ _ h => h) (Or.inl ⟨by rfl, ?_⟩) (by assumption) ?_
                  rotate_left
                  · (intro W hW; obtain ⟨e0, e1, e2, e3, e4, e5⟩ := stp_cellsS hW; go_simp <;> (with_reducible rfl))
                  try simp only [Act.put, List.setIfInBounds_toArray, List.set_cons_zero, List.set_cons_succ]
                  refine wpAnyH_take (i := 1) (oi := { dst := some 69, op := Op.fieldAddr 33 (Operand.tmp 11) 1, type := 0, pos := "law.go:297", after := #[], guard := none }) (v := ?_) rfl (by kernel_rfl) (by kernel_rfl) (by kernel_rfl) (fun _ _ _ h => h) (Or.inl ⟨by rfl, ?_⟩) (by assumption) ?_
                  rotate_left
                  · (intro W hW; obtain ⟨e0, e1, e2, e3, e4, e5⟩ := stp_cellsS hW; go_simp <;> (with_reducible rfl))
                  try simp only [Act.put, List.setIfInBounds_toArray, List.set_cons_zero, List.set_cons_succ]
                  refine wpAnyH_take (i := 2) (oi := { dst := some 70, op := Op.load 3 (Operand.tmp 69), type := 3, pos := "law.go:297", after := #[{ on := 1, ground := Ground.data }], guard := none }) (v := ?_) rfl (by kernel_rfl) (by kernel_rfl) (by kernel_rfl) (fun _ _ _ h => h) (Or.inl ⟨by rfl, ?_⟩) (by assumption) ?_
                  rotate_left
                  · (intro W hW; obtain ⟨e0, e1, e2, e3, e4, e5⟩ := stp_cellsS hW; go_simp <;> (with_reducible rfl))
                  try simp only [Act.put, List.setIfInBounds_toArray, List.set_cons_zero, List.set_cons_succ]
                  refine wpAnyH_take (i := 3) (oi := { dst := some 71, op := Op.fieldAddr 33 (Operand.tmp 11) 2, type := 0, pos := "law.go:297", after := #[], guard := none }) (v := ?_) rfl (by kernel_rfl) (by kernel_rfl) (by kernel_rfl) (fun _ _ _ h => h) (Or.inl ⟨by rfl, ?_⟩) (by assumption) ?_
                  rotate_left
                  · (intro W hW; obtain ⟨e0, e1, e2, e3, e4, e5⟩ := stp_cellsS hW; go_simp <;> (with_reducible rfl))
                  try simp only [Act.put, List.setIfInBounds_toArray, List.set_cons_zero, List.set_cons_succ]
                  refine wpAnyH_take (i := 4) (oi := { dst := some 72, op := Op.load 3 (Operand.tmp 71), type := 3, pos := "law.go:297", after := #[{ on := 3, ground := Ground.data }], guard := none }) (v := ?_) rfl (by kernel_rfl) (by kernel_rfl) (by kernel_rfl) (fun _ _ _ h => h) (Or.inl ⟨by rfl, ?_⟩) (by assumption) ?_
                  rotate_left
                  · (intro W hW; obtain ⟨e0, e1, e2, e3, e4, e5⟩ := stp_cellsS hW; go_simp <;> (with_reducible rfl))
                  try simp only [Act.put, List.setIfInBounds_toArray, List.set_cons_zero, List.set_cons_succ]
                  refine wpAnyH_take (i := 5) (oi := { dst := some 73, op := Op.load 33 (Operand.tmp 11), type := 33, pos := "law.go:297", after := #[], guard := none }) (v := ?_) rfl (by kernel_rfl) (by kernel_rfl) (by kernel_rfl) (fun _ _ _ h => h) (Or.inl ⟨by rfl, ?_⟩) (by assumption) ?_
                  rotate_left
                  · (intro W hW; obtain ⟨e0, e1, e2, e3, e4, e5⟩ := stp_cellsS hW; go_simp <;> (with_reducible rfl))
                  try simp only [Act.put, List.setIfInBounds_toArray, List.set_cons_zero, List.set_cons_succ]
                  refine wpAnyH_ready (rs := [6]) (by kernel_rfl) (by simp) (AllReadyH.cons (o := { dst := some 74, op := Op.call { callee := Callee.value (Operand.func 11), args := #[Operand.tmp 73], argTypes := #[33] }, type := 22, pos := "law.go:297", after := #[{ on := 5, ground := Ground.data }], guard := none }) rfl (fun K hK => ?_) AllReadyH.nil)
                  rw [if_pos (by rfl)]
                  go_wp2_with fail
                  refine (page_litS y false HSH.out _).mono ?_
                  rintro e w6 ⟨v6, rfl, ho6, hb6⟩
                  obtain ⟨a6, c6, rfl, hr6⟩ := Bs.of_own ho6
                  have hg6 := own_ge ho6
                  have hS6 : Boxes w6 [(wr.heap.size, scellsS y false)] := HBX.step hb6
                  have C7 := write_o (hdx.opens.below hb6) hr6 (fun g off hg => by subst hg; exact .inr (hg6 g rfl)) (by omega) y.region y.page
                  refine hK.out _ _ (by exact hS6) (fun hHeld => ?_)
                  clear hK K
                  try simp only [Act.put, List.setIfInBounds_toArray, List.set_cons_zero, List.set_cons_succ]
                  refine wpAnyH_ready (rs := [7]) (by kernel_rfl) (by simp) (AllReadyH.cons (o := { dst := some 75, op := Op.call { callee := Callee.value (Operand.func 10), args := #[Operand.tmp 68, Operand.tmp 70, Operand.tmp 72, Operand.tmp 74], argTypes := #[24, 3, 3, 22] }, type := 25, pos := "law.go:297", after := #[{ on := 0, ground := Ground.data }, { on := 2, ground := Ground.data }, { on := 4, ground := Ground.data }, { on := 6, ground := Ground.data }, { on := 6, ground := Ground.chain }], guard := none }) rfl (fun K hK => ?_) AllReadyH.nil)
                  rw [if_pos (by rfl)]
                  go_wp2_with fail
                  refine C7.mono ?_
                  rintro e w7 ⟨rfl, hd7, hb7, hk7⟩
                  have hS7 : Boxes w7 [(wr.heap.size, scellsS y false)] := hk7.boxes HBX (by simp)
                  refine hK.out _ _ (by exact hS7) (fun hHeld => ?_)
                  clear hK K
                  try simp only [Act.put, List.setIfInBounds_toArray, List.set_cons_zero, List.set_cons_succ]
                  refine wpAnyH_take (i := 8) (oi := { dst := some 13, op := Op.assign (Operand.tmp 75), type := 25, pos := "law.go:297", after := #[{ on := 7, ground := Ground.data }, { on := 7, ground := Ground.chain }, { on := 0, ground := Ground.phase }, { on := 1, ground := Ground.phase }, { on := 2, ground := Ground.phase }, { on := 3, ground := Ground.phase }, { on := 4, ground := Ground.phase }, { on := 5, ground := Ground.phase }, { on := 6, ground := Ground.phase }, { on := 7, ground := Ground.phase }], guard := none }) (v := ?_) rfl (by kernel_rfl) (by kernel_rfl) (by kernel_rfl) (fun _ _ _ h => h) (Or.inl ⟨by rfl, ?_⟩) (by assumption) ?_
                  rotate_left
                  · (intro W hW; obtain ⟨e0, e1, e2, e3, e4, e5⟩ := stp_cellsS hW; go_simp <;> (with_reducible rfl))
                  refine wpAnyH_done (by kernel_rfl) ?_ _
                  refine NoPanic.normal ?_
                  clear hHeld
                  have hw7 : Below w.heap.size w w7 := (hbw.alloc hsw _).trans (Below.mono (show Below B _ w7 from ⟨hb7.os, hb7.tape, hb7.output, hb7.size, hb7.block⟩) hBw)
                  have END : RfRel B w da A (k + 1) n w7 := ⟨by omega, M + 1, _, by omega, hd7.one, HG.out.2, hw7⟩
                  have END := Lib.hid END
                  have hE := HG.out.1
                  clear C7 hk7 hr6 ho6 hg6 hb6 hS6 hS7 c0 c1 c2 c3 c4 c5 HBX hd hdx hd7 hb7 hw7 hbw hg hM HG HSH
                  generalize writeE d y.region y.page (pageB y) = er at *
                  have q7 : (er == 0) = false := by simpa using hE
                  clear hE
                  go_wp2_with fail
                  go_roundw
                  case rel => exact ⟨k + 1, n, hlt, by go_num, rfl, END.out⟩
                  case measure => simp [intOf]; omega
              · have q2 : decide (0 ≤ y.page) = false := by simpa using g1
                have HG := Lib.hid (rf_not hg y.region y.page (pageB y) (fun hh => g1 hh.2.1.1))
                clear g0 g1
                go_wp2_with fail
                refine wp_region_noPanic ?_
                refine wp_region_held_drew (S := fun W => Boxes W [(wr.heap.size, scellsS y false)]) (by kernel_rfl) (by exact HBX) (fun hHeld => ?_)
                refine wpAnyH_take (i := 0) (oi := { dst := some 68, op := Op.move (Operand.tmp 7), type := 24, pos := "law.go:297", after := #[], guard := none }) (v := ?_) rfl (by kernel_rfl) (by kernel_rfl) (by kernel_rfl) (fun _ _ _ h => h) (Or.inl ⟨by rfl, ?_⟩) (by assumption) ?_
                rotate_left
                · (intro W hW; obtain ⟨e0, e1, e2, e3, e4, e5⟩ := stp_cellsS hW; go_simp <;> (with_reducible rfl))
                try simp only [Act.put, List.setIfInBounds_toArray, List.set_cons_zero, List.set_cons_succ]
                refine wpAnyH_take (i := 1) (oi := { dst := some 69, op := Op.fieldAddr 33 (Operand.tmp 11) 1, type := 0, pos := "law.go:297", after := #[], guard := none }) (v := ?_) rfl (by kernel_rfl) (by kernel_rfl) (by kernel_rfl) (fun _ _ _ h => h) (Or.inl ⟨by rfl, ?_⟩) (by assumption) ?_
                rotate_left
                · (intro W hW; obtain ⟨e0, e1, e2, e3, e4, e5⟩ := stp_cellsS hW; go_simp <;> (with_reducible rfl))
                try simp only [Act.put, List.setIfInBounds_toArray, List.set_cons_zero, List.set_cons_succ]
                refine wpAnyH_take (i := 2) (oi := { dst := some 70, op := Op.load 3 (Operand.tmp 69), type := 3, pos := "law.go:297", after := #[{ on := 1, ground := Ground.data }], guard := none }) (v := ?_) rfl (by kernel_rfl) (by kernel_rfl) (by kernel_rfl) (fun _ _ _ h => h) (Or.inl ⟨by rfl, ?_⟩) (by assumption) ?_
                rotate_left
                · (intro W hW; obtain ⟨e0, e1, e2, e3, e4, e5⟩ := stp_cellsS hW; go_simp <;> (with_reducible rfl))
                try simp only [Act.put, List.setIfInBounds_toArray, List.set_cons_zero, List.set_cons_succ]
                refine wpAnyH_take (i := 3) (oi := { dst := some 71, op := Op.fieldAddr 33 (Operand.tmp 11) 2, type := 0, pos := "law.go:297", after := #[], guard := none }) (v := ?_) rfl (by kernel_rfl) (by kernel_rfl) (by kernel_rfl) (fun _ _ _ h => h) (Or.inl ⟨by rfl, ?_⟩) (by assumption) ?_
                rotate_left
                · (intro W hW; obtain ⟨e0, e1, e2, e3, e4, e5⟩ := stp_cellsS hW; go_simp <;> (with_reducible rfl))
                try simp only [Act.put, List.setIfInBounds_toArray, List.set_cons_zero, List.set_cons_succ]
                refine wpAnyH_take (i := 4) (oi := { dst := some 72, op := Op.load 3 (Operand.tmp 71), type := 3, pos := "law.go:297", after := #[{ on := 3, ground := Ground.data }], guard := none }) (v := ?_) rfl (by kernel_rfl) (by kernel_rfl) (by kernel_rfl) (fun _ _ _ h => h) (Or.inl ⟨by rfl, ?_⟩) (by assumption) ?_
                rotate_left
                · (intro W hW; obtain ⟨e0, e1, e2, e3, e4, e5⟩ := stp_cellsS hW; go_simp <;> (with_reducible rfl))
                try simp only [Act.put, List.setIfInBounds_toArray, List.set_cons_zero, List.set_cons_succ]
                refine wpAnyH_take (i := 5) (oi := { dst := some 73, op := Op.load 33 (Operand.tmp 11), type := 33, pos := "law.go:297", after := #[], guard := none }) (v := ?_) rfl (by kernel_rfl) (by kernel_rfl) (by kernel_rfl) (fun _ _ _ h => h) (Or.inl ⟨by rfl, ?_⟩) (by assumption) ?_
                rotate_left
                · (intro W hW; obtain ⟨e0, e1, e2, e3, e4, e5⟩ := stp_cellsS hW; go_simp <;> (with_reducible rfl))
                try simp only [Act.put, List.setIfInBounds_toArray, List.set_cons_zero, List.set_cons_succ]
                refine wpAnyH_ready (rs := [6]) (by kernel_rfl) (by simp) (AllReadyH.cons (o := { dst := some 74, op := Op.call { callee := Callee.value (Operand.func 11), args := #[Operand.tmp 73], argTypes := #[33] }, type := 22, pos := "law.go:297", after := #[{ on := 5, ground := Ground.data }], guard := none }) rfl (fun K hK => ?_) AllReadyH.nil)
                rw [if_pos (by rfl)]
                go_wp2_with fail
                refine (page_litS y false HSH.out _).mono ?_
                rintro e w6 ⟨v6, rfl, ho6, hb6⟩
                obtain ⟨a6, c6, rfl, hr6⟩ := Bs.of_own ho6
                have hg6 := own_ge ho6
                have hS6 : Boxes w6 [(wr.heap.size, scellsS y false)] := HBX.step hb6
                have C7 := write_o (hdx.opens.below hb6) hr6 (fun g off hg => by subst hg; exact .inr (hg6 g rfl)) (by omega) y.region y.page
                refine hK.out _ _ (by exact hS6) (fun hHeld => ?_)
                clear hK K
                try simp only [Act.put, List.setIfInBounds_toArray, List.set_cons_zero, List.set_cons_succ]
                refine wpAnyH_ready (rs := [7]) (by kernel_rfl) (by simp) (AllReadyH.cons (o := { dst := some 75, op := Op.call { callee := Callee.value (Operand.func 10), args := #[Operand.tmp 68, Operand.tmp 70, Operand.tmp 72, Operand.tmp 74], argTypes := #[24, 3, 3, 22] }, type := 25, pos := "law.go:297", after := #[{ on := 0, ground := Ground.data }, { on := 2, ground := Ground.data }, { on := 4, ground := Ground.data }, { on := 6, ground := Ground.data }, { on := 6, ground := Ground.chain }], guard := none }) rfl (fun K hK => ?_) AllReadyH.nil)
                rw [if_pos (by rfl)]
                go_wp2_with fail
                refine C7.mono ?_
                rintro e w7 ⟨rfl, hd7, hb7, hk7⟩
                have hS7 : Boxes w7 [(wr.heap.size, scellsS y false)] := hk7.boxes HBX (by simp)
                refine hK.out _ _ (by exact hS7) (fun hHeld => ?_)
                clear hK K
                try simp only [Act.put, List.setIfInBounds_toArray, List.set_cons_zero, List.set_cons_succ]
                refine wpAnyH_take (i := 8) (oi := { dst := some 13, op := Op.assign (Operand.tmp 75), type := 25, pos := "law.go:297", after := #[{ on := 7, ground := Ground.data }, { on := 7, ground := Ground.chain }, { on := 0, ground := Ground.phase }, { on := 1, ground := Ground.phase }, { on := 2, ground := Ground.phase }, { on := 3, ground := Ground.phase }, { on := 4, ground := Ground.phase }, { on := 5, ground := Ground.phase }, { on := 6, ground := Ground.phase }, { on := 7, ground := Ground.phase }], guard := none }) (v := ?_) rfl (by kernel_rfl) (by kernel_rfl) (by kernel_rfl) (fun _ _ _ h => h) (Or.inl ⟨by rfl, ?_⟩) (by assumption) ?_
                rotate_left
                · (intro W hW; obtain ⟨e0, e1, e2, e3, e4, e5⟩ := stp_cellsS hW; go_simp <;> (with_reducible rfl))
                refine wpAnyH_done (by kernel_rfl) ?_ _
                refine NoPanic.normal ?_
                clear hHeld
                have hw7 : Below w.heap.size w w7 := (hbw.alloc hsw _).trans (Below.mono (show Below B _ w7 from ⟨hb7.os, hb7.tape, hb7.output, hb7.size, hb7.block⟩) hBw)
                have END : RfRel B w da A (k + 1) n w7 := ⟨by omega, M + 1, _, by omega, hd7.one, HG.out.2, hw7⟩
                have END := Lib.hid END
                have hE := HG.out.1
                clear C7 hk7 hr6 ho6 hg6 hb6 hS6 hS7 c0 c1 c2 c3 c4 c5 HBX hd hdx hd7 hb7 hw7 hbw hg hM HG HSH
                generalize writeE d y.region y.page (pageB y) = er at *
                have q7 : (er == 0) = false := by simpa using hE
                clear hE
                go_wp2_with fail
                go_roundw
                case rel => exact ⟨k + 1, n, hlt, by go_num, rfl, END.out⟩
                case measure => simp [intOf]; omega
            · have q1 : (y.region == 0) = false := by simp [g0]
              have HG := Lib.hid (rf_not hg y.region y.page (pageB y) (fun hh => g0 hh.1))
              clear g0
              go_wp2_with fail
              refine wp_region_noPanic ?_
              refine wp_region_held_drew (S := fun W => Boxes W [(wr.heap.size, scellsS y false)]) (by kernel_rfl) (by exact HBX) (fun hHeld => ?_)
              refine wpAnyH_take (i := 0) (oi := { dst := some 68, op := Op.move (Operand.tmp 7), type := 24, pos := "law.go:297", after := #[], guard := none }) (v := ?_) rfl (by kernel_rfl) (by kernel_rfl) (by kernel_rfl) (fun _ _ _ h => h) (Or.inl ⟨by rfl, ?_⟩) (by assumption) ?_
              rotate_left
              · (intro W hW; obtain ⟨e0, e1, e2, e3, e4, e5⟩ := stp_cellsS hW; go_simp <;> (with_reducible rfl))
              try simp only [Act.put, List.setIfInBounds_toArray, List.set_cons_zero, List.set_cons_succ]
              refine wpAnyH_take (i := 1) (oi := { dst := some 69, op := Op.fieldAddr 33 (Operand.tmp 11) 1, type := 0, pos := "law.go:297", after := #[], guard := none }) (v := ?_) rfl (by kernel_rfl) (by kernel_rfl) (by kernel_rfl) (fun _ _ _ h => h) (Or.inl ⟨by rfl, ?_⟩) (by assumption) ?_
              rotate_left
              · (intro W hW; obtain ⟨e0, e1, e2, e3, e4, e5⟩ := stp_cellsS hW; go_simp <;> (with_reducible rfl))
              try simp only [Act.put, List.setIfInBounds_toArray, List.set_cons_zero, List.set_cons_succ]
              refine wpAnyH_take (i := 2) (oi := { dst := some 70, op := Op.load 3 (Operand.tmp 69), type := 3, pos := "law.go:297", after := #[{ on := 1, ground := Ground.data }], guard := none }) (v := ?_) rfl (by kernel_rfl) (by kernel_rfl) (by kernel_rfl) (fun _ _ _ h => h) (Or.inl ⟨by rfl, ?_⟩) (by assumption) ?_
              rotate_left
              · (intro W hW; obtain ⟨e0, e1, e2, e3, e4, e5⟩ := stp_cellsS hW; go_simp <;> (with_reducible rfl))
              try simp only [Act.put, List.setIfInBounds_toArray, List.set_cons_zero, List.set_cons_succ]
              refine wpAnyH_take (i := 3) (oi := { dst := some 71, op := Op.fieldAddr 33 (Operand.tmp 11) 2, type := 0, pos := "law.go:297", after := #[], guard := none }) (v := ?_) rfl (by kernel_rfl) (by kernel_rfl) (by kernel_rfl) (fun _ _ _ h => h) (Or.inl ⟨by rfl, ?_⟩) (by assumption) ?_
              rotate_left
              · (intro W hW; obtain ⟨e0, e1, e2, e3, e4, e5⟩ := stp_cellsS hW; go_simp <;> (with_reducible rfl))
              try simp only [Act.put, List.setIfInBounds_toArray, List.set_cons_zero, List.set_cons_succ]
              refine wpAnyH_take (i := 4) (oi := { dst := some 72, op := Op.load 3 (Operand.tmp 71), type := 3, pos := "law.go:297", after := #[{ on := 3, ground := Ground.data }], guard := none }) (v := ?_) rfl (by kernel_rfl) (by kernel_rfl) (by kernel_rfl) (fun _ _ _ h => h) (Or.inl ⟨by rfl, ?_⟩) (by assumption) ?_
              rotate_left
              · (intro W hW; obtain ⟨e0, e1, e2, e3, e4, e5⟩ := stp_cellsS hW; go_simp <;> (with_reducible rfl))
              try simp only [Act.put, List.setIfInBounds_toArray, List.set_cons_zero, List.set_cons_succ]
              refine wpAnyH_take (i := 5) (oi := { dst := some 73, op := Op.load 33 (Operand.tmp 11), type := 33, pos := "law.go:297", after := #[], guard := none }) (v := ?_) rfl (by kernel_rfl) (by kernel_rfl) (by kernel_rfl) (fun _ _ _ h => h) (Or.inl ⟨by rfl, ?_⟩) (by assumption) ?_
              rotate_left
              · (intro W hW; obtain ⟨e0, e1, e2, e3, e4, e5⟩ := stp_cellsS hW; go_simp <;> (with_reducible rfl))
              try simp only [Act.put, List.setIfInBounds_toArray, List.set_cons_zero, List.set_cons_succ]
              refine wpAnyH_ready (rs := [6]) (by kernel_rfl) (by simp) (AllReadyH.cons (o := { dst := some 74, op := Op.call { callee := Callee.value (Operand.func 11), args := #[Operand.tmp 73], argTypes := #[33] }, type := 22, pos := "law.go:297", after := #[{ on := 5, ground := Ground.data }], guard := none }) rfl (fun K hK => ?_) AllReadyH.nil)
              rw [if_pos (by rfl)]
              go_wp2_with fail
              refine (page_litS y false HSH.out _).mono ?_
              rintro e w6 ⟨v6, rfl, ho6, hb6⟩
              obtain ⟨a6, c6, rfl, hr6⟩ := Bs.of_own ho6
              have hg6 := own_ge ho6
              have hS6 : Boxes w6 [(wr.heap.size, scellsS y false)] := HBX.step hb6
              have C7 := write_o (hdx.opens.below hb6) hr6 (fun g off hg => by subst hg; exact .inr (hg6 g rfl)) (by omega) y.region y.page
              refine hK.out _ _ (by exact hS6) (fun hHeld => ?_)
              clear hK K
              try simp only [Act.put, List.setIfInBounds_toArray, List.set_cons_zero, List.set_cons_succ]
              refine wpAnyH_ready (rs := [7]) (by kernel_rfl) (by simp) (AllReadyH.cons (o := { dst := some 75, op := Op.call { callee := Callee.value (Operand.func 10), args := #[Operand.tmp 68, Operand.tmp 70, Operand.tmp 72, Operand.tmp 74], argTypes := #[24, 3, 3, 22] }, type := 25, pos := "law.go:297", after := #[{ on := 0, ground := Ground.data }, { on := 2, ground := Ground.data }, { on := 4, ground := Ground.data }, { on := 6, ground := Ground.data }, { on := 6, ground := Ground.chain }], guard := none }) rfl (fun K hK => ?_) AllReadyH.nil)
              rw [if_pos (by rfl)]
              go_wp2_with fail
              refine C7.mono ?_
              rintro e w7 ⟨rfl, hd7, hb7, hk7⟩
              have hS7 : Boxes w7 [(wr.heap.size, scellsS y false)] := hk7.boxes HBX (by simp)
              refine hK.out _ _ (by exact hS7) (fun hHeld => ?_)
              clear hK K
              try simp only [Act.put, List.setIfInBounds_toArray, List.set_cons_zero, List.set_cons_succ]
              refine wpAnyH_take (i := 8) (oi := { dst := some 13, op := Op.assign (Operand.tmp 75), type := 25, pos := "law.go:297", after := #[{ on := 7, ground := Ground.data }, { on := 7, ground := Ground.chain }, { on := 0, ground := Ground.phase }, { on := 1, ground := Ground.phase }, { on := 2, ground := Ground.phase }, { on := 3, ground := Ground.phase }, { on := 4, ground := Ground.phase }, { on := 5, ground := Ground.phase }, { on := 6, ground := Ground.phase }, { on := 7, ground := Ground.phase }], guard := none }) (v := ?_) rfl (by kernel_rfl) (by kernel_rfl) (by kernel_rfl) (fun _ _ _ h => h) (Or.inl ⟨by rfl, ?_⟩) (by assumption) ?_
              rotate_left
              · (intro W hW; obtain ⟨e0, e1, e2, e3, e4, e5⟩ := stp_cellsS hW; go_simp <;> (with_reducible rfl))
              refine wpAnyH_done (by kernel_rfl) ?_ _
              refine NoPanic.normal ?_
              clear hHeld
              have hw7 : Below w.heap.size w w7 := (hbw.alloc hsw _).trans (Below.mono (show Below B _ w7 from ⟨hb7.os, hb7.tape, hb7.output, hb7.size, hb7.block⟩) hBw)
              have END : RfRel B w da A (k + 1) n w7 := ⟨by omega, M + 1, _, by omega, hd7.one, HG.out.2, hw7⟩
              have END := Lib.hid END
              have hE := HG.out.1
              clear C7 hk7 hr6 ho6 hg6 hb6 hS6 hS7 c0 c1 c2 c3 c4 c5 HBX hd hdx hd7 hb7 hw7 hbw hg hM HG HSH
              generalize writeE d y.region y.page (pageB y) = er at *
              have q7 : (er == 0) = false := by simpa using hE
              clear hE
              go_wp2_with fail
              go_roundw
              case rel => exact ⟨k + 1, n, hlt, by go_num, rfl, END.out⟩
              case measure => simp [intOf]; omega
          | true =>
            rw [hsh] at c4
            have HSH := Lib.hid hsh
            have HBX : Boxes (wr.alloc (.cells #[.int .i64 y.kind, .int .i64 y.region, .int .i64 y.page, .int .u8 (y.fill.toNat : Int), .bool true, .slice y.ka y.kl y.kc] 33)).drew [(wr.heap.size, scellsS y true)] := ((Boxes.nil wr).alloc _ _ rfl).drew
            have hdx := hd.k.box (.cells #[.int .i64 y.kind, .int .i64 y.region, .int .i64 y.page, .int .u8 (y.fill.toNat : Int), .bool true, .slice y.ka y.kl y.kc] 33)
            clear hsh
            by_cases g0 : y.region = 0
            · have q1 : (y.region == 0) = true := by simp [g0]
              by_cases g1 : 0 ≤ y.page
              · have q2 : decide (0 ≤ y.page) = true := by simpa using g1
                by_cases g2 : y.page < 4
                · have q3 : decide (y.page < 4) = true := by simpa using g2
                  have HG := Lib.hid (rf_not hg y.region y.page (pageB y) (fun hh => by have := hh.2.2; rw [pageB_length, HSH.out] at this; simp at this))
                  clear g0 g1 g2
                  go_wp2_with fail
                  refine wp_region_noPanic ?_
                  refine wp_region_held_drew (S := fun W => Boxes W [(wr.heap.size, scellsS y true)]) (by kernel_rfl) (by exact HBX) (fun hHeld => ?_)
                  refine wpAnyH_take (i := 0) (oi := { dst := some 68, op := Op.move (Operand.tmp 7), type := 24, pos := "law.go:297", after := #[], guard := none }) (v := ?_) rfl (by kernel_rfl) (by kernel_rfl) (by kernel_rfl) (fun _ _ _ h => h) (Or.inl ⟨by rfl, ?_⟩) (by assumption) ?_
                  rotate_left
                  · (intro W hW; obtain ⟨e0, e1, e2, e3, e4, e5⟩ := stp_cellsS hW; go_simp <;> (with_reducible rfl))
                  try simp only [Act.put, List.setIfInBounds_toArray, List.set_cons_zero, List.set_cons_succ]
                  refine wpAnyH_take (i := 1) (oi := { dst := some 69, op := Op.fieldAddr 33 (Operand.tmp 11) 1, type := 0, pos := "law.go:297", after := #[], guard := none }) (v := ?_) rfl (by kernel_rfl) (by kernel_rfl) (by kernel_rfl) (fun _ _ _ h => h) (Or.inl ⟨by rfl, ?_⟩) (by assumption) ?_
                  rotate_left
                  · (intro W hW; obtain ⟨e0, e1, e2, e3, e4, e5⟩ := stp_cellsS hW; go_simp <;> (with_reducible rfl))
                  try simp only [Act.put, List.setIfInBounds_toArray, List.set_cons_zero, List.set_cons_succ]
                  refine wpAnyH_take (i := 2) (oi := { dst := some 70, op := Op.load 3 (Operand.tmp 69), type := 3, pos := "law.go:297", after := #[{ on := 1, ground := Ground.data }], guard := none }) (v := ?_) rfl (by kernel_rfl) (by kernel_rfl) (by kernel_rfl) (fun _ _ _ h => h) (Or.inl ⟨by rfl, ?_⟩) (by assumption) ?_
                  rotate_left
                  · (intro W hW; obtain ⟨e0, e1, e2, e3, e4, e5⟩ := stp_cellsS hW; go_simp <;> (with_reducible rfl))
                  try simp only [Act.put, List.setIfInBounds_toArray, List.set_cons_zero, List.set_cons_succ]
                  refine wpAnyH_take (i := 3) (oi := { dst := some 71, op := Op.fieldAddr 33 (Operand.tmp 11) 2, type := 0, pos := "law.go:297", after := #[], guard := none }) (v := ?_) rfl (by kernel_rfl) (by kernel_rfl) (by kernel_rfl) (fun _ _ _ h => h) (Or.inl ⟨by rfl, ?_⟩) (by assumption) ?_
                  rotate_left
                  · (intro W hW; obtain ⟨e0, e1, e2, e3, e4, e5⟩ := stp_cellsS hW; go_simp <;> (with_reducible rfl))
                  try simp only [Act.put, List.setIfInBounds_toArray, List.set_cons_zero, List.set_cons_succ]
                  refine wpAnyH_take (i := 4) (oi := { dst := some 72, op := Op.load 3 (Operand.tmp 71), type := 3, pos := "law.go:297", after := #[{ on := 3, ground := Ground.data }], guard := none }) (v := ?_) rfl (by kernel_rfl) (by kernel_rfl) (by kernel_rfl) (fun _ _ _ h => h) (Or.inl ⟨by rfl, ?_⟩) (by assumption) ?_
                  rotate_left
                  · (intro W hW; obtain ⟨e0, e1, e2, e3, e4, e5⟩ := stp_cellsS hW; go_simp <;> (with_reducible rfl))
                  try simp only [Act.put, List.setIfInBounds_toArray, List.set_cons_zero, List.set_cons_succ]
                  refine wpAnyH_take (i := 5) (oi := { dst := some 73, op := Op.load 33 (Operand.tmp 11), type := 33, pos := "law.go:297", after := #[], guard := none }) (v := ?_) rfl (by kernel_rfl) (by kernel_rfl) (by kernel_rfl) (fun _ _ _ h => h) (Or.inl ⟨by rfl, ?_⟩) (by assumption) ?_
                  rotate_left
                  · (intro W hW; obtain ⟨e0, e1, e2, e3, e4, e5⟩ := stp_cellsS hW; go_simp <;> (with_reducible rfl))
                  try simp only [Act.put, List.setIfInBounds_toArray, List.set_cons_zero, List.set_cons_succ]
                  refine wpAnyH_ready (rs := [6]) (by kernel_rfl) (by simp) (AllReadyH.cons (o := { dst := some 74, op := Op.call { callee := Callee.value (Operand.func 11), args := #[Operand.tmp 73], argTypes := #[33] }, type := 22, pos := "law.go:297", after := #[{ on := 5, ground := Ground.data }], guard := none }) rfl (fun K hK => ?_) AllReadyH.nil)
                  rw [if_pos (by rfl)]
                  go_wp2_with fail
                  refine (page_litS y true HSH.out _).mono ?_
                  rintro e w6 ⟨v6, rfl, ho6, hb6⟩
                  obtain ⟨a6, c6, rfl, hr6⟩ := Bs.of_own ho6
                  have hg6 := own_ge ho6
                  have hS6 : Boxes w6 [(wr.heap.size, scellsS y true)] := HBX.step hb6
                  have C7 := write_o (hdx.opens.below hb6) hr6 (fun g off hg => by subst hg; exact .inr (hg6 g rfl)) (by omega) y.region y.page
                  refine hK.out _ _ (by exact hS6) (fun hHeld => ?_)
                  clear hK K
                  try simp only [Act.put, List.setIfInBounds_toArray, List.set_cons_zero, List.set_cons_succ]
                  refine wpAnyH_ready (rs := [7]) (by kernel_rfl) (by simp) (AllReadyH.cons (o := { dst := some 75, op := Op.call { callee := Callee.value (Operand.func 10), args := #[Operand.tmp 68, Operand.tmp 70, Operand.tmp 72, Operand.tmp 74], argTypes := #[24, 3, 3, 22] }, type := 25, pos := "law.go:297", after := #[{ on := 0, ground := Ground.data }, { on := 2, ground := Ground.data }, { on := 4, ground := Ground.data }, { on := 6, ground := Ground.data }, { on := 6, ground := Ground.chain }], guard := none }) rfl (fun K hK => ?_) AllReadyH.nil)
                  rw [if_pos (by rfl)]
                  go_wp2_with fail
                  refine C7.mono ?_
                  rintro e w7 ⟨rfl, hd7, hb7, hk7⟩
                  have hS7 : Boxes w7 [(wr.heap.size, scellsS y true)] := hk7.boxes HBX (by simp)
                  refine hK.out _ _ (by exact hS7) (fun hHeld => ?_)
                  clear hK K
                  try simp only [Act.put, List.setIfInBounds_toArray, List.set_cons_zero, List.set_cons_succ]
                  refine wpAnyH_take (i := 8) (oi := { dst := some 13, op := Op.assign (Operand.tmp 75), type := 25, pos := "law.go:297", after := #[{ on := 7, ground := Ground.data }, { on := 7, ground := Ground.chain }, { on := 0, ground := Ground.phase }, { on := 1, ground := Ground.phase }, { on := 2, ground := Ground.phase }, { on := 3, ground := Ground.phase }, { on := 4, ground := Ground.phase }, { on := 5, ground := Ground.phase }, { on := 6, ground := Ground.phase }, { on := 7, ground := Ground.phase }], guard := none }) (v := ?_) rfl (by kernel_rfl) (by kernel_rfl) (by kernel_rfl) (fun _ _ _ h => h) (Or.inl ⟨by rfl, ?_⟩) (by assumption) ?_
                  rotate_left
                  · (intro W hW; obtain ⟨e0, e1, e2, e3, e4, e5⟩ := stp_cellsS hW; go_simp <;> (with_reducible rfl))
                  refine wpAnyH_done (by kernel_rfl) ?_ _
                  refine NoPanic.normal ?_
                  clear hHeld
                  have hw7 : Below w.heap.size w w7 := (hbw.alloc hsw _).trans (Below.mono (show Below B _ w7 from ⟨hb7.os, hb7.tape, hb7.output, hb7.size, hb7.block⟩) hBw)
                  have END : RfRel B w da A (k + 1) n w7 := ⟨by omega, M + 1, _, by omega, hd7.one, HG.out.2, hw7⟩
                  have END := Lib.hid END
                  have hE := HG.out.1
                  clear C7 hk7 hr6 ho6 hg6 hb6 hS6 hS7 c0 c1 c2 c3 c4 c5 HBX hd hdx hd7 hb7 hw7 hbw hg hM HG HSH
                  generalize writeE d y.region y.page (pageB y) = er at *
                  have q7 : (er == 0) = false := by simpa using hE
                  clear hE
                  go_wp2_with fail
                  go_roundw
                  case rel => exact ⟨k + 1, n, hlt, by go_num, rfl, END.out⟩
                  case measure => simp [intOf]; omega
                · have q3 : decide (y.page < 4) = false := by simpa using g2
                  have HG := Lib.hid (rf_not hg y.region y.page (pageB y) (fun hh => g2 hh.2.1.2))
                  clear g0 g1 g2
                  go_wp2_with fail
                  refine wp_region_noPanic ?_
                  refine wp_region_held_drew (S := fun W => Boxes W [(wr.heap.size, scellsS y true)]) (by kernel_rfl) (by exact HBX) (fun hHeld => ?_)
                  refine wpAnyH_take (i := 0) (oi := { dst := some 68, op := Op.move (Operand.tmp 7), type := 24, pos := "law.go:297", after := #[], guard := none }) (v := ?_) rfl (by kernel_rfl) (by kernel_rfl) (by kernel_rfl) (fun _ _ _ h => h) (Or.inl ⟨by rfl, ?_⟩) (by assumption) ?_
                  rotate_left
                  · (intro W hW; obtain ⟨e0, e1, e2, e3, e4, e5⟩ := stp_cellsS hW; go_simp <;> (with_reducible rfl))
                  try simp only [Act.put, List.setIfInBounds_toArray, List.set_cons_zero, List.set_cons_succ]
                  refine wpAnyH_take (i := 1) (oi := { dst := some 69, op := Op.fieldAddr 33 (Operand.tmp 11) 1, type := 0, pos := "law.go:297", after := #[], guard := none }) (v := ?_) rfl (by kernel_rfl) (by kernel_rfl) (by kernel_rfl) (fun _ _ _ h => h) (Or.inl ⟨by rfl, ?_⟩) (by assumption) ?_
                  rotate_left
                  · (intro W hW; obtain ⟨e0, e1, e2, e3, e4, e5⟩ := stp_cellsS hW; go_simp <;> (with_reducible rfl))
                  try simp only [Act.put, List.setIfInBounds_toArray, List.set_cons_zero, List.set_cons_succ]
                  refine wpAnyH_take (i := 2) (oi := { dst := some 70, op := Op.load 3 (Operand.tmp 69), type := 3, pos := "law.go:297", after := #[{ on := 1, ground := Ground.data }], guard := none }) (v := ?_) rfl (by kernel_rfl) (by kernel_rfl) (by kernel_rfl) (fun _ _ _ h => h) (Or.inl ⟨by rfl, ?_⟩) (by assumption) ?_
                  rotate_left
                  · (intro W hW; obtain ⟨e0, e1, e2, e3, e4, e5⟩ := stp_cellsS hW; go_simp <;> (with_reducible rfl))
                  try simp only [Act.put, List.setIfInBounds_toArray, List.set_cons_zero, List.set_cons_succ]
                  refine wpAnyH_take (i := 3) (oi := { dst := some 71, op := Op.fieldAddr 33 (Operand.tmp 11) 2, type := 0, pos := "law.go:297", after := #[], guard := none }) (v := ?_) rfl (by kernel_rfl) (by kernel_rfl) (by kernel_rfl) (fun _ _ _ h => h) (Or.inl ⟨by rfl, ?_⟩) (by assumption) ?_
                  rotate_left
                  · (intro W hW; obtain ⟨e0, e1, e2, e3, e4, e5⟩ := stp_cellsS hW; go_simp <;> (with_reducible rfl))
                  try simp only [Act.put, List.setIfInBounds_toArray, List.set_cons_zero, List.set_cons_succ]
                  refine wpAnyH_take (i := 4) (oi := { dst := some 72, op := Op.load 3 (Operand.tmp 71), type := 3, pos := "law.go:297", after := #[{ on := 3, ground := Ground.data }], guard := none }) (v := ?_) rfl (by kernel_rfl) (by kernel_rfl) (by kernel_rfl) (fun _ _ _ h => h) (Or.inl ⟨by rfl, ?_⟩) (by assumption) ?_
                  rotate_left
                  · (intro W hW; obtain ⟨e0, e1, e2, e3, e4, e5⟩ := stp_cellsS hW; go_simp <;> (with_reducible rfl))
                  try simp only [Act.put, List.setIfInBounds_toArray, List.set_cons_zero, List.set_cons_succ]
                  refine wpAnyH_take (i := 5) (oi := { dst := some 73, op := Op.load 33 (Operand.tmp 11), type := 33, pos := "law.go:297", after := #[], guard := none }) (v := ?_) rfl (by kernel_rfl) (by kernel_rfl) (by kernel_rfl) (fun _ _ _ h => h) (Or.inl ⟨by rfl, ?_⟩) (by assumption) ?_
                  rotate_left
                  · (intro W hW; obtain ⟨e0, e1, e2, e3, e4, e5⟩ := stp_cellsS hW; go_simp <;> (with_reducible rfl))
                  try simp only [Act.put, List.setIfInBounds_toArray, List.set_cons_zero, List.set_cons_succ]
                  refine wpAnyH_ready (rs := [6]) (by kernel_rfl) (by simp) (AllReadyH.cons (o := { dst := some 74, op := Op.call { callee := Callee.value (Operand.func 11), args := #[Operand.tmp 73], argTypes := #[33] }, type := 22, pos := "law.go:297", after := #[{ on := 5, ground := Ground.data }], guard := none }) rfl (fun K hK => ?_) AllReadyH.nil)
                  rw [if_pos (by rfl)]
                  go_wp2_with fail
                  refine (page_litS y true HSH.out _).mono ?_
                  rintro e w6 ⟨v6, rfl, ho6, hb6⟩
                  obtain ⟨a6, c6, rfl, hr6⟩ := Bs.of_own ho6
                  have hg6 := own_ge ho6
                  have hS6 : Boxes w6 [(wr.heap.size, scellsS y true)] := HBX.step hb6
                  have C7 := write_o (hdx.opens.below hb6) hr6 (fun g off hg => by subst hg; exact .inr (hg6 g rfl)) (by omega) y.region y.page
                  refine hK.out _ _ (by exact hS6) (fun hHeld => ?_)
                  clear hK K
                  try simp only [Act.put, List.setIfInBounds_toArray, List.set_cons_zero, List.set_cons_succ]
                  refine wpAnyH_ready (rs := [7]) (by kernel_rfl) (by simp) (AllReadyH.cons (o := { dst := some 75, op := Op.call { callee := Callee.value (Operand.func 10), args := #[Operand.tmp 68, Operand.tmp 70, Operand.tmp 72, Operand.tmp 74], argTypes := #[24, 3, 3, 22] }, type := 25, pos := "law.go:297", after := #[{ on := 0, ground := Ground.data }, { on := 2, ground := Ground.data }, { on := 4, ground := Ground.data }, { on := 6, ground := Ground.data }, { on := 6, ground := Ground.chain }], guard := none }) rfl (fun K hK => ?_) AllReadyH.nil)
                  rw [if_pos (by rfl)]
                  go_wp2_with fail
                  refine C7.mono ?_
                  rintro e w7 ⟨rfl, hd7, hb7, hk7⟩
                  have hS7 : Boxes w7 [(wr.heap.size, scellsS y true)] := hk7.boxes HBX (by simp)
                  refine hK.out _ _ (by exact hS7) (fun hHeld => ?_)
                  clear hK K
                  try simp only [Act.put, List.setIfInBounds_toArray, List.set_cons_zero, List.set_cons_succ]
                  refine wpAnyH_take (i := 8) (oi := { dst := some 13, op := Op.assign (Operand.tmp 75), type := 25, pos := "law.go:297", after := #[{ on := 7, ground := Ground.data }, { on := 7, ground := Ground.chain }, { on := 0, ground := Ground.phase }, { on := 1, ground := Ground.phase }, { on := 2, ground := Ground.phase }, { on := 3, ground := Ground.phase }, { on := 4, ground := Ground.phase }, { on := 5, ground := Ground.phase }, { on := 6, ground := Ground.phase }, { on := 7, ground := Ground.phase }], guard := none }) (v := ?_) rfl (by kernel_rfl) (by kernel_rfl) (by kernel_rfl) (fun _ _ _ h => h) (Or.inl ⟨by rfl, ?_⟩) (by assumption) ?_
                  rotate_left
                  · (intro W hW; obtain ⟨e0, e1, e2, e3, e4, e5⟩ := stp_cellsS hW; go_simp <;> (with_reducible rfl))
                  refine wpAnyH_done (by kernel_rfl) ?_ _
                  refine NoPanic.normal ?_
                  clear hHeld
                  have hw7 : Below w.heap.size w w7 := (hbw.alloc hsw _).trans (Below.mono (show Below B _ w7 from ⟨hb7.os, hb7.tape, hb7.output, hb7.size, hb7.block⟩) hBw)
                  have END : RfRel B w da A (k + 1) n w7 := ⟨by omega, M + 1, _, by omega, hd7.one, HG.out.2, hw7⟩
                  have END := Lib.hid END
                  have hE := HG.out.1
                  clear C7 hk7 hr6 ho6 hg6 hb6 hS6 hS7 c0 c1 c2 c3 c4 c5 HBX hd hdx hd7 hb7 hw7 hbw hg hM HG HSH
                  generalize writeE d y.region y.page (pageB y) = er at *
                  have q7 : (er == 0) = false := by simpa using hE
                  clear hE
                  go_wp2_with fail
                  go_roundw
                  case rel => exact ⟨k + 1, n, hlt, by go_num, rfl, END.out⟩
                  case measure => simp [intOf]; omega
              · have q2 : decide (0 ≤ y.page) = false := by simpa using g1
                have HG := Lib.hid (rf_not hg y.region y.page (pageB y) (fun hh => g1 hh.2.1.1))
                clear g0 g1
                go_wp2_with fail
                refine wp_region_noPanic ?_
                refine wp_region_held_drew (S := fun W => Boxes W [(wr.heap.size, scellsS y true)]) (by kernel_rfl) (by exact HBX) (fun hHeld => ?_)
                refine wpAnyH_take (i := 0) (oi := { dst := some 68, op := Op.move (Operand.tmp 7), type := 24, pos := "law.go:297", after := #[], guard := none }) (v := ?_) rfl (by kernel_rfl) (by kernel_rfl) (by kernel_rfl) (fun _ _ _ h => h) (Or.inl ⟨by rfl, ?_⟩) (by assumption) ?_
                rotate_left
                · (intro W hW; obtain ⟨e0, e1, e2, e3, e4, e5⟩ := stp_cellsS hW; go_simp <;> (with_reducible rfl))
                try simp only [Act.put, List.setIfInBounds_toArray, List.set_cons_zero, List.set_cons_succ]
                refine wpAnyH_take (i := 1) (oi := { dst := some 69, op := Op.fieldAddr 33 (Operand.tmp 11) 1, type := 0, pos := "law.go:297", after := #[], guard := none }) (v := ?_) rfl (by kernel_rfl) (by kernel_rfl) (by kernel_rfl) (fun _ _ _ h => h) (Or.inl ⟨by rfl, ?_⟩) (by assumption) ?_
                rotate_left
                · (intro W hW; obtain ⟨e0, e1, e2, e3, e4, e5⟩ := stp_cellsS hW; go_simp <;> (with_reducible rfl))
                try simp only [Act.put, List.setIfInBounds_toArray, List.set_cons_zero, List.set_cons_succ]
                refine wpAnyH_take (i := 2) (oi := { dst := some 70, op := Op.load 3 (Operand.tmp 69), type := 3, pos := "law.go:297", after := #[{ on := 1, ground := Ground.data }], guard := none }) (v := ?_) rfl (by kernel_rfl) (by kernel_rfl) (by kernel_rfl) (fun _ _ _ h => h) (Or.inl ⟨by rfl, ?_⟩) (by assumption) ?_
                rotate_left
                · (intro W hW; obtain ⟨e0, e1, e2, e3, e4, e5⟩ := stp_cellsS hW; go_simp <;> (with_reducible rfl))
                try simp only [Act.put, List.setIfInBounds_toArray, List.set_cons_zero, List.set_cons_succ]
                refine wpAnyH_take (i := 3) (oi := { dst := some 71, op := Op.fieldAddr 33 (Operand.tmp 11) 2, type := 0, pos := "law.go:297", after := #[], guard := none }) (v := ?_) rfl (by kernel_rfl) (by kernel_rfl) (by kernel_rfl) (fun _ _ _ h => h) (Or.inl ⟨by rfl, ?_⟩) (by assumption) ?_
                rotate_left
                · (intro W hW; obtain ⟨e0, e1, e2, e3, e4, e5⟩ := stp_cellsS hW; go_simp <;> (with_reducible rfl))
                try simp only [Act.put, List.setIfInBounds_toArray, List.set_cons_zero, List.set_cons_succ]
                refine wpAnyH_take (i := 4) (oi := { dst := some 72, op := Op.load 3 (Operand.tmp 71), type := 3, pos := "law.go:297", after := #[{ on := 3, ground := Ground.data }], guard := none }) (v := ?_) rfl (by kernel_rfl) (by kernel_rfl) (by kernel_rfl) (fun _ _ _ h => h) (Or.inl ⟨by rfl, ?_⟩) (by assumption) ?_
                rotate_left
                · (intro W hW; obtain ⟨e0, e1, e2, e3, e4, e5⟩ := stp_cellsS hW; go_simp <;> (with_reducible rfl))
                try simp only [Act.put, List.setIfInBounds_toArray, List.set_cons_zero, List.set_cons_succ]
                refine wpAnyH_take (i := 5) (oi := { dst := some 73, op := Op.load 33 (Operand.tmp 11), type := 33, pos := "law.go:297", after := #[], guard := none }) (v := ?_) rfl (by kernel_rfl) (by kernel_rfl) (by kernel_rfl) (fun _ _ _ h => h) (Or.inl ⟨by rfl, ?_⟩) (by assumption) ?_
                rotate_left
                · (intro W hW; obtain ⟨e0, e1, e2, e3, e4, e5⟩ := stp_cellsS hW; go_simp <;> (with_reducible rfl))
                try simp only [Act.put, List.setIfInBounds_toArray, List.set_cons_zero, List.set_cons_succ]
                refine wpAnyH_ready (rs := [6]) (by kernel_rfl) (by simp) (AllReadyH.cons (o := { dst := some 74, op := Op.call { callee := Callee.value (Operand.func 11), args := #[Operand.tmp 73], argTypes := #[33] }, type := 22, pos := "law.go:297", after := #[{ on := 5, ground := Ground.data }], guard := none }) rfl (fun K hK => ?_) AllReadyH.nil)
                rw [if_pos (by rfl)]
                go_wp2_with fail
                refine (page_litS y true HSH.out _).mono ?_
                rintro e w6 ⟨v6, rfl, ho6, hb6⟩
                obtain ⟨a6, c6, rfl, hr6⟩ := Bs.of_own ho6
                have hg6 := own_ge ho6
                have hS6 : Boxes w6 [(wr.heap.size, scellsS y true)] := HBX.step hb6
                have C7 := write_o (hdx.opens.below hb6) hr6 (fun g off hg => by subst hg; exact .inr (hg6 g rfl)) (by omega) y.region y.page
                refine hK.out _ _ (by exact hS6) (fun hHeld => ?_)
                clear hK K
                try simp only [Act.put, List.setIfInBounds_toArray, List.set_cons_zero, List.set_cons_succ]
                refine wpAnyH_ready (rs := [7]) (by kernel_rfl) (by simp) (AllReadyH.cons (o := { dst := some 75, op := Op.call { callee := Callee.value (Operand.func 10), args := #[Operand.tmp 68, Operand.tmp 70, Operand.tmp 72, Operand.tmp 74], argTypes := #[24, 3, 3, 22] }, type := 25, pos := "law.go:297", after := #[{ on := 0, ground := Ground.data }, { on := 2, ground := Ground.data }, { on := 4, ground := Ground.data }, { on := 6, ground := Ground.data }, { on := 6, ground := Ground.chain }], guard := none }) rfl (fun K hK => ?_) AllReadyH.nil)
                rw [if_pos (by rfl)]
                go_wp2_with fail
                refine C7.mono ?_
                rintro e w7 ⟨rfl, hd7, hb7, hk7⟩
                have hS7 : Boxes w7 [(wr.heap.size, scellsS y true)] := hk7.boxes HBX (by simp)
                refine hK.out _ _ (by exact hS7) (fun hHeld => ?_)
                clear hK K
                try simp only [Act.put, List.setIfInBounds_toArray, List.set_cons_zero, List.set_cons_succ]
                refine wpAnyH_take (i := 8) (oi := { dst := some 13, op := Op.assign (Operand.tmp 75), type := 25, pos := "law.go:297", after := #[{ on := 7, ground := Ground.data }, { on := 7, ground := Ground.chain }, { on := 0, ground := Ground.phase }, { on := 1, ground := Ground.phase }, { on := 2, ground := Ground.phase }, { on := 3, ground := Ground.phase }, { on := 4, ground := Ground.phase }, { on := 5, ground := Ground.phase }, { on := 6, ground := Ground.phase }, { on := 7, ground := Ground.phase }], guard := none }) (v := ?_) rfl (by kernel_rfl) (by kernel_rfl) (by kernel_rfl) (fun _ _ _ h => h) (Or.inl ⟨by rfl, ?_⟩) (by assumption) ?_
                rotate_left
                · (intro W hW; obtain ⟨e0, e1, e2, e3, e4, e5⟩ := stp_cellsS hW; go_simp <;> (with_reducible rfl))
                refine wpAnyH_done (by kernel_rfl) ?_ _
                refine NoPanic.normal ?_
                clear hHeld
                have hw7 : Below w.heap.size w w7 := (hbw.alloc hsw _).trans (Below.mono (show Below B _ w7 from ⟨hb7.os, hb7.tape, hb7.output, hb7.size, hb7.block⟩) hBw)
                have END : RfRel B w da A (k + 1) n w7 := ⟨by omega, M + 1, _, by omega, hd7.one, HG.out.2, hw7⟩
                have END := Lib.hid END
                have hE := HG.out.1
                clear C7 hk7 hr6 ho6 hg6 hb6 hS6 hS7 c0 c1 c2 c3 c4 c5 HBX hd hdx hd7 hb7 hw7 hbw hg hM HG HSH
                generalize writeE d y.region y.page (pageB y) = er at *
                have q7 : (er == 0) = false := by simpa using hE
                clear hE
                go_wp2_with fail
                go_roundw
                case rel => exact ⟨k + 1, n, hlt, by go_num, rfl, END.out⟩
                case measure => simp [intOf]; omega
            · have q1 : (y.region == 0) = false := by simp [g0]
              have HG := Lib.hid (rf_not hg y.region y.page (pageB y) (fun hh => g0 hh.1))
              clear g0
              go_wp2_with fail
              refine wp_region_noPanic ?_
              refine wp_region_held_drew (S := fun W => Boxes W [(wr.heap.size, scellsS y true)]) (by kernel_rfl) (by exact HBX) (fun hHeld => ?_)
              refine wpAnyH_take (i := 0) (oi := { dst := some 68, op := Op.move (Operand.tmp 7), type := 24, pos := "law.go:297", after := #[], guard := none }) (v := ?_) rfl (by kernel_rfl) (by kernel_rfl) (by kernel_rfl) (fun _ _ _ h => h) (Or.inl ⟨by rfl, ?_⟩) (by assumption) ?_
              rotate_left
              · (intro W hW; obtain ⟨e0, e1, e2, e3, e4, e5⟩ := stp_cellsS hW; go_simp <;> (with_reducible rfl))
              try simp only [Act.put, List.setIfInBounds_toArray, List.set_cons_zero, List.set_cons_succ]
              refine wpAnyH_take (i := 1) (oi := { dst := some 69, op := Op.fieldAddr 33 (Operand.tmp 11) 1, type := 0, pos := "law.go:297", after := #[], guard := none }) (v := ?_) rfl (by kernel_rfl) (by kernel_rfl) (by kernel_rfl) (fun _ _ _ h => h) (Or.inl ⟨by rfl, ?_⟩) (by assumption) ?_
              rotate_left
              · (intro W hW; obtain ⟨e0, e1, e2, e3, e4, e5⟩ := stp_cellsS hW; go_simp <;> (with_reducible rfl))
              try simp only [Act.put, List.setIfInBounds_toArray, List.set_cons_zero, List.set_cons_succ]
              refine wpAnyH_take (i := 2) (oi := { dst := some 70, op := Op.load 3 (Operand.tmp 69), type := 3, pos := "law.go:297", after := #[{ on := 1, ground := Ground.data }], guard := none }) (v := ?_) rfl (by kernel_rfl) (by kernel_rfl) (by kernel_rfl) (fun _ _ _ h => h) (Or.inl ⟨by rfl, ?_⟩) (by assumption) ?_
              rotate_left
              · (intro W hW; obtain ⟨e0, e1, e2, e3, e4, e5⟩ := stp_cellsS hW; go_simp <;> (with_reducible rfl))
              try simp only [Act.put, List.setIfInBounds_toArray, List.set_cons_zero, List.set_cons_succ]
              refine wpAnyH_take (i := 3) (oi := { dst := some 71, op := Op.fieldAddr 33 (Operand.tmp 11) 2, type := 0, pos := "law.go:297", after := #[], guard := none }) (v := ?_) rfl (by kernel_rfl) (by kernel_rfl) (by kernel_rfl) (fun _ _ _ h => h) (Or.inl ⟨by rfl, ?_⟩) (by assumption) ?_
              rotate_left
              · (intro W hW; obtain ⟨e0, e1, e2, e3, e4, e5⟩ := stp_cellsS hW; go_simp <;> (with_reducible rfl))
              try simp only [Act.put, List.setIfInBounds_toArray, List.set_cons_zero, List.set_cons_succ]
              refine wpAnyH_take (i := 4) (oi := { dst := some 72, op := Op.load 3 (Operand.tmp 71), type := 3, pos := "law.go:297", after := #[{ on := 3, ground := Ground.data }], guard := none }) (v := ?_) rfl (by kernel_rfl) (by kernel_rfl) (by kernel_rfl) (fun _ _ _ h => h) (Or.inl ⟨by rfl, ?_⟩) (by assumption) ?_
              rotate_left
              · (intro W hW; obtain ⟨e0, e1, e2, e3, e4, e5⟩ := stp_cellsS hW; go_simp <;> (with_reducible rfl))
              try simp only [Act.put, List.setIfInBounds_toArray, List.set_cons_zero, List.set_cons_succ]
              refine wpAnyH_take (i := 5) (oi := { dst := some 73, op := Op.load 33 (Operand.tmp 11), type := 33, pos := "law.go:297", after := #[], guard := none }) (v := ?_) rfl (by kernel_rfl) (by kernel_rfl) (by kernel_rfl) (fun _ _ _ h => h) (Or.inl ⟨by rfl, ?_⟩) (by assumption) ?_
              rotate_left
              · (intro W hW; obtain ⟨e0, e1, e2, e3, e4, e5⟩ := stp_cellsS hW; go_simp <;> (with_reducible rfl))
              try simp only [Act.put, List.setIfInBounds_toArray, List.set_cons_zero, List.set_cons_succ]
              refine wpAnyH_ready (rs := [6]) (by kernel_rfl) (by simp) (AllReadyH.cons (o := { dst := some 74, op := Op.call { callee := Callee.value (Operand.func 11), args := #[Operand.tmp 73], argTypes := #[33] }, type := 22, pos := "law.go:297", after := #[{ on := 5, ground := Ground.data }], guard := none }) rfl (fun K hK => ?_) AllReadyH.nil)
              rw [if_pos (by rfl)]
              go_wp2_with fail
              refine (page_litS y true HSH.out _).mono ?_
              rintro e w6 ⟨v6, rfl, ho6, hb6⟩
              obtain ⟨a6, c6, rfl, hr6⟩ := Bs.of_own ho6
              have hg6 := own_ge ho6
              have hS6 : Boxes w6 [(wr.heap.size, scellsS y true)] := HBX.step hb6
              have C7 := write_o (hdx.opens.below hb6) hr6 (fun g off hg => by subst hg; exact .inr (hg6 g rfl)) (by omega) y.region y.page
              refine hK.out _ _ (by exact hS6) (fun hHeld => ?_)
              clear hK K
              try simp only [Act.put, List.setIfInBounds_toArray, List.set_cons_zero, List.set_cons_succ]
              refine wpAnyH_ready (rs := [7]) (by kernel_rfl) (by simp) (AllReadyH.cons (o := { dst := some 75, op := Op.call { callee := Callee.value (Operand.func 10), args := #[Operand.tmp 68, Operand.tmp 70, Operand.tmp 72, Operand.tmp 74], argTypes := #[24, 3, 3, 22] }, type := 25, pos := "law.go:297", after := #[{ on := 0, ground := Ground.data }, { on := 2, ground := Ground.data }, { on := 4, ground := Ground.data }, { on := 6, ground := Ground.data }, { on := 6, ground := Ground.chain }], guard := none }) rfl (fun K hK => ?_) AllReadyH.nil)
              rw [if_pos (by rfl)]
              go_wp2_with fail
              refine C7.mono ?_
              rintro e w7 ⟨rfl, hd7, hb7, hk7⟩
              have hS7 : Boxes w7 [(wr.heap.size, scellsS y true)] := hk7.boxes HBX (by simp)
              refine hK.out _ _ (by exact hS7) (fun hHeld => ?_)
              clear hK K
              try simp only [Act.put, List.setIfInBounds_toArray, List.set_cons_zero, List.set_cons_succ]
              refine wpAnyH_take (i := 8) (oi := { dst := some 13, op := Op.assign (Operand.tmp 75), type := 25, pos := "law.go:297", after := #[{ on := 7, ground := Ground.data }, { on := 7, ground := Ground.chain }, { on := 0, ground := Ground.phase }, { on := 1, ground := Ground.phase }, { on := 2, ground := Ground.phase }, { on := 3, ground := Ground.phase }, { on := 4, ground := Ground.phase }, { on := 5, ground := Ground.phase }, { on := 6, ground := Ground.phase }, { on := 7, ground := Ground.phase }], guard := none }) (v := ?_) rfl (by kernel_rfl) (by kernel_rfl) (by kernel_rfl) (fun _ _ _ h => h) (Or.inl ⟨by rfl, ?_⟩) (by assumption) ?_
              rotate_left
              · (intro W hW; obtain ⟨e0, e1, e2, e3, e4, e5⟩ := stp_cellsS hW; go_simp <;> (with_reducible rfl))
              refine wpAnyH_done (by kernel_rfl) ?_ _
              refine NoPanic.normal ?_
              clear hHeld
              have hw7 : Below w.heap.size w w7 := (hbw.alloc hsw _).trans (Below.mono (show Below B _ w7 from ⟨hb7.os, hb7.tape, hb7.output, hb7.size, hb7.block⟩) hBw)
              have END : RfRel B w da A (k + 1) n w7 := ⟨by omega, M + 1, _, by omega, hd7.one, HG.out.2, hw7⟩
              have END := Lib.hid END
              have hE := HG.out.1
              clear C7 hk7 hr6 ho6 hg6 hb6 hS6 hS7 c0 c1 c2 c3 c4 c5 HBX hd hdx hd7 hb7 hw7 hbw hg hM HG HSH
              generalize writeE d y.region y.page (pageB y) = er at *
              have q7 : (er == 0) = false := by simpa using hE
              clear hE
              go_wp2_with fail
              go_roundw
              case rel => exact ⟨k + 1, n, hlt, by go_num, rfl, END.out⟩
              case measure => simp [intOf]; omega
        · have q0 : (y.kind == 0) = false := by simp [hkd]
          have END : RfRel B w da A (k + 1) n (wr.alloc (.cells #[.int .i64 y.kind, .int .i64 y.region, .int .i64 y.page, .int .u8 (y.fill.toNat : Int), .bool y.short, .slice y.ka y.kl y.kc] 33)) := ⟨by omega, M, d, by omega, hd.below ((Below.refl _ _).alloc (Nat.le_refl _) _), hg, hbw.alloc hsw _⟩
          have END := Lib.hid END
          clear hkd hd hg hbw hM
          go_wp2_with fail
          go_roundw
          case rel => exact ⟨k + 1, n, hlt, by go_num, rfl, END.out⟩
          case measure => simp [intOf]; omega
      · obtain rfl : len = k := by omega
        have HGL := rf_loose hg
        obtain ⟨x0, hx0, hxl⟩ := HGL
        have hpe := rf_read hg
        obtain ⟨z, hz⟩ : ∃ z, z = readB d 0 0 := ⟨_, rfl⟩
        have HZE := Lib.hid hz
        have HX0 := Lib.hid hx0
        have HXL := Lib.hid hxl
        clear hz hx0 hxl hg
        obtain ⟨er, her, hcase⟩ : ∃ er : Int, pagedE d 0 0 = er ∧ ((er == 0) = decide (n ≤ A)) := ⟨_, hpe, by by_cases hnA : n ≤ A <;> simp [hnA]⟩
        have HPE := Lib.hid her
        clear hpe her
        have C := read_o hd 0 0
        rw [HPE.out, ← HZE.out] at C
        go_wp2_with fail
        refine C.mono ?_
        rintro e w8 ⟨vx, rfl, hox, hbx⟩
        obtain ⟨ax, cx, rfl, hcx1, hcx2, hcx3⟩ := own_slice hox
        have hK := hd.k.addV hbx hox (Nat.le_refl _)
        have hw8 : Below w.heap.size w w8 := hbw.trans (hbx.mono hbw.size)
        have hgx := own_ge hox
        have hgl := own_lt hox
        have hsw := hbw.size
        have hsx := hbx.size
        have C := read_o hK.one 0 0
        rw [HPE.out, ← HZE.out] at C
        clear hbx hbw hd
        go_wp2_with fail
        refine C.mono ?_
        rintro e w9 ⟨vy, rfl, hoy, hby⟩
        obtain ⟨ay, cy, rfl, hcy1, hcy2, hcy3⟩ := own_slice hoy
        have hox := own_step hox hby
        have hK := hK.below hby
        have hw9 : Below w.heap.size w w9 := hw8.trans (hby.mono hw8.size)
        have hgy := own_ge hoy
        have HOX := Lib.hid hox
        have HOY := Lib.hid hoy
        have HK := Lib.hid hK
        have HCX3 := Lib.hid hcx3
        have HGX := Lib.hid hgx
        have HGL := Lib.hid hgl
        have HGY := Lib.hid hgy
        have HSX := Lib.hid hsx
        have HSW := Lib.hid hsw
        have zl : z.length ≤ 9223372036854775807 := by unfold maxLen at hcx2; omega
        clear hby hw8 C hox hoy hK hcx3 hcy3 hgx hgl hgy hsx hsw
        unfold maxLen at hcx2 hcy2
        go_wp2_with fail
        obtain ⟨wo, hwo⟩ : ∃ wo : World, wo = wr := ⟨_, rfl⟩
        subst hwo
        go_loopw [18] (fun i wr' => ∃ k : Nat, k ≤ z.length ∧ i = .int .i64 k ∧ RfX B w wo.heap.size w8.heap.size da M d ax cx ay cy z wr') (fun i _ => z.length - (intOf i).toNat)
        case atStart => exact ⟨0, Nat.zero_le _, rfl, toI z, by rw [toI_length], HK.out, HOX.out, HOY.out, hw9⟩
        case round =>
          clear hw9 HOX HOY HK
          obtain ⟨j, hj, rfl, zs, hzl, hK, hox, hoy, hbw⟩ := hrel
          by_cases hlj : j < z.length
          · obtain ⟨g, rfl⟩ := HCX3.out (by omega)
            have hg1 := HGX.out g rfl
            have hg2 := HGL.out g rfl
            have hf := hox.frozenAt j
            have hc := hox.cellAt j (by omega)
            obtain ⟨c, hcz⟩ : ∃ c, zs[j]? = some c := ⟨_, List.getElem?_eq_getElem (by omega)⟩
            rw [List.getElem?_map, hcz] at hc
            have hc' : wr.cell? ⟨g, j, none⟩ = some (.int .u8 c) := hc
            have STEP : ∀ c', RfX B w wo.heap.size w8.heap.size da M d (some ⟨g, 0, none⟩) cx ay cy z (wr.setCell ⟨g, j, none⟩ (.int .u8 c')) := by
              intro c'
              refine ⟨zs.set j c', by rw [List.length_set]; exact hzl, hK.set _ _ (by simp [Value.ownBlock]), ?_, ?_, hbw.setCell (by show w.heap.size ≤ g; have := HSW.out; omega) _⟩
              · rw [List.map_set]; exact (hox.stored j _).1
              · exact own_set hoy _ _ (fun e => by have := HGY.out g e; omega)
            have STEP := Lib.hid STEP
            clear hK hox hoy hbw hc hcz hg1 hg2
            go_wp2_with fail
            go_roundw
            case rel => exact ⟨j + 1, hlj, by go_num, STEP.out _⟩
            case measure => simp [intOf]; omega
          · obtain rfl : j = z.length := by omega
            have C := read_o hK.one 0 0
            rw [HPE.out, ← HZE.out] at C
            have HK := Lib.hid hK
            have HOY := Lib.hid hoy
            have HW := Lib.hid hbw
            clear hK hox hoy hbw hzl
            go_wp2_with fail
            refine C.mono ?_
            rintro e w10 ⟨vz, rfl, hoz, hbz⟩
            obtain ⟨az, cz, rfl, hrz⟩ := Bs.of_own hoz
            have hry : Bs w10 ay z.length cy z := (Bs.own HOY.out).below (Nat.le_refl _) hbz
            have K1 := conv_string (P := Try.prog) Try.underlying22 Try.underlying5 Try.underlying9 hry
            have K2 := conv_string (P := Try.prog) Try.underlying22 Try.underlying5 Try.underlying9 hrz
            have hst := strOf_toList z
            have C := loose_o (HK.out.one.below hbz) (by omega) 0 x0 HX0.out
            have HW10 := Lib.hid (HW.out.trans (hbz.mono HW.out.size))
            clear hry hrz hoz hbz HK HOY HW
            have HC := Lib.hid hcase
            clear hcase
            go_wp2_with fail
            refine C.mono ?_
            rintro e wz ⟨va, rfl, hoa, hba⟩
            have END := Lib.hid (HW10.out.trans (hba.mono HW10.out.size))
            by_cases hnA : n ≤ A
            · obtain ⟨aa, ca, rfl, hca, hca'⟩ := own_len hoa (m := n) (by rw [HXL.out]; omega)
              have q8 : decide (n ≤ A) = true := by simpa using hnA
              have q9 := HC.out
              rw [q8] at q9
              clear C hoa hba K1 K2
              go_wp2_with fail
              go_ret
              exact ⟨rfl, END.out⟩
            · obtain ⟨aa, ca, rfl, hca, hca'⟩ := own_len hoa (m := A) (by rw [HXL.out]; omega)
              have q8 : decide (n ≤ A) = false := by simpa using hnA
              have q9 := HC.out
              rw [q8] at q9
              clear C hoa hba K1 K2
              go_wp2_with fail
              go_ret
              exact ⟨rfl, END.out⟩
end Go.Proofs.Ytopnfpobbemfbaa
