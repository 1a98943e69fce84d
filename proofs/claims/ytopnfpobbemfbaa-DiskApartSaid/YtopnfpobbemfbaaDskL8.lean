/- The walk of other (printed by gen_dskL8.py). -/
import Derived.Test.YtopnfpobbemfbaaDskL7
namespace Go.Proofs.Ytopnfpobbemfbaa
open Go.RowKit

def OtherPost (Q : World → Nat → List Rg → Prop) (M : Nat) (d : List Rg) (e : Ending) (w' : World) : Prop := e = .returned (.tuple #[]) ∧ ∃ M', M ≤ M' ∧ M' ≤ M + 1 ∧ Q w' M' d
set_option maxRecDepth 100000 in
set_option maxHeartbeats 4000000 in
theorem other_any {B T : Nat} {w : World} {da M : Nat} {d : List Rg} {Q : World → Nat → List Rg → Prop} (h : Opens B T w da M d Q) (hM : M ≤ 900000) (y : Stp) (hp : y.page ≤ 9223372036854775807) :
    Calls Try.prog 29 #[.pointer (some ⟨da, 0, none⟩), .agg #[.int .i64 y.kind, .int .i64 y.region, .int .i64 y.page, .int .u8 (y.fill.toNat : Int), .bool y.short, .slice y.ka y.kl y.kc]] w (OtherPost Q M (otherD d y)) := by
  have HT := Lib.hid h.le
  have HBX : Boxes (w.alloc (.cells #[.int .i64 y.kind, .int .i64 y.region, .int .i64 y.page, .int .u8 (y.fill.toNat : Int), .bool y.short, .slice y.ka y.kl y.kc] 33)).drew [(w.heap.size, scells y)] := ((Boxes.nil w).alloc _ _ rfl).drew
  have hba : Below w.heap.size w (w.alloc (.cells #[.int .i64 y.kind, .int .i64 y.region, .int .i64 y.page, .int .u8 (y.fill.toNat : Int), .bool y.short, .slice y.ka y.kl y.kc] 33)) := (Below.refl _ _).alloc (Nat.le_refl _) _
  by_cases k0 : y.kind = 0
  · have q0 : (y.kind == 0) = true := by simp [k0]
    have HD := Lib.hid (show otherD d y = writeD d y.region y.page (pageB y) by rw [otherD, if_pos k0])
    clear k0
    go_enter Try.func29, Try.ntmps29
    go_wp2_with fail
    refine wp_region_noPanic ?_
    refine wp_region_held_drew (S := fun W => Boxes W [(w.heap.size, scells y)]) (by kernel_rfl) (by exact HBX) (fun hHeld => ?_)
    refine wpAnyH_take (i := 0) (oi := { dst := some 8, op := Op.move (Operand.tmp 0), type := 24, pos := "law.go:133", after := #[], guard := none }) (v := ?_) rfl (by kernel_rfl) (by kernel_rfl) (by kernel_rfl) (fun _ _ _ h => h) (Or.inl ⟨by rfl, ?_⟩) (by assumption) ?_
    rotate_left
    · (intro W hW; obtain ⟨e0, e1, e2, e3, e4, e5⟩ := stp_cells hW; go_simp <;> (with_reducible rfl))
    try simp only [Act.put, List.setIfInBounds_toArray, List.set_cons_zero, List.set_cons_succ]
    refine wpAnyH_take (i := 1) (oi := { dst := some 9, op := Op.fieldAddr 33 (Operand.tmp 3) 1, type := 0, pos := "law.go:133", after := #[], guard := none }) (v := ?_) rfl (by kernel_rfl) (by kernel_rfl) (by kernel_rfl) (fun _ _ _ h => h) (Or.inl ⟨by rfl, ?_⟩) (by assumption) ?_
    rotate_left
    · (intro W hW; obtain ⟨e0, e1, e2, e3, e4, e5⟩ := stp_cells hW; go_simp <;> (with_reducible rfl))
    try simp only [Act.put, List.setIfInBounds_toArray, List.set_cons_zero, List.set_cons_succ]
    refine wpAnyH_take (i := 2) (oi := { dst := some 10, op := Op.load 3 (Operand.tmp 9), type := 3, pos := "law.go:133", after := #[{ on := 1, ground := Ground.data }], guard := none }) (v := ?_) rfl (by kernel_rfl) (by kernel_rfl) (by kernel_rfl) (fun _ _ _ h => h) (Or.inl ⟨by rfl, ?_⟩) (by assumption) ?_
    rotate_left
    · (intro W hW; obtain ⟨e0, e1, e2, e3, e4, e5⟩ := stp_cells hW; go_simp <;> (with_reducible rfl))
    try simp only [Act.put, List.setIfInBounds_toArray, List.set_cons_zero, List.set_cons_succ]
    refine wpAnyH_take (i := 3) (oi := { dst := some 11, op := Op.fieldAddr 33 (Operand.tmp 3) 2, type := 0, pos := "law.go:133", after := #[], guard := none }) (v := ?_) rfl (by kernel_rfl) (by kernel_rfl) (by kernel_rfl) (fun _ _ _ h => h) (Or.inl ⟨by rfl, ?_⟩) (by assumption) ?_
    rotate_left
    · (intro W hW; obtain ⟨e0, e1, e2, e3, e4, e5⟩ := stp_cells hW; go_simp <;> (with_reducible rfl))
    try simp only [Act.put, List.setIfInBounds_toArray, List.set_cons_zero, List.set_cons_succ]
    refine wpAnyH_take (i := 4) (oi := { dst := some 12, op := Op.load 3 (Operand.tmp 11), type := 3, pos := "law.go:133", after := #[{ on := 3, ground := Ground.data }], guard := none }) (v := ?_) rfl (by kernel_rfl) (by kernel_rfl) (by kernel_rfl) (fun _ _ _ h => h) (Or.inl ⟨by rfl, ?_⟩) (by assumption) ?_
    rotate_left
    · (intro W hW; obtain ⟨e0, e1, e2, e3, e4, e5⟩ := stp_cells hW; go_simp <;> (with_reducible rfl))
    try simp only [Act.put, List.setIfInBounds_toArray, List.set_cons_zero, List.set_cons_succ]
    refine wpAnyH_take (i := 5) (oi := { dst := some 13, op := Op.load 33 (Operand.tmp 3), type := 33, pos := "law.go:133", after := #[], guard := none }) (v := ?_) rfl (by kernel_rfl) (by kernel_rfl) (by kernel_rfl) (fun _ _ _ h => h) (Or.inl ⟨by rfl, ?_⟩) (by assumption) ?_
    rotate_left
    · (intro W hW; obtain ⟨e0, e1, e2, e3, e4, e5⟩ := stp_cells hW; go_simp <;> (with_reducible rfl))
    try simp only [Act.put, List.setIfInBounds_toArray, List.set_cons_zero, List.set_cons_succ]
    refine wpAnyH_ready (rs := [6]) (by kernel_rfl) (by simp) (AllReadyH.cons (o := { dst := some 14, op := Op.call { callee := Callee.value (Operand.func 11), args := #[Operand.tmp 13], argTypes := #[33] }, type := 22, pos := "law.go:133", after := #[{ on := 5, ground := Ground.data }], guard := none }) rfl (fun K hK => ?_) AllReadyH.nil)
    rw [if_pos (by rfl)]
    go_wp2_with fail
    refine (page_lit y _).mono ?_
    rintro e w6 ⟨v6, rfl, ho6, hb6⟩
    obtain ⟨a6, c6, rfl, hr6⟩ := Bs.of_own ho6
    have hg6 := own_ge ho6
    have hS6 : Boxes w6 [(w.heap.size, scells y)] := HBX.step hb6
    have hb6' : Below w.heap.size w w6 := below_abox hb6
    have C7 := write_m (h.below hb6') hr6 (fun g off hg => by subst hg; have := hg6 g rfl; rw [size_abox] at this; have := HT.out; exact .inr (by omega)) hM y.region y.page
    refine hK.out _ _ (by exact hS6) (fun hHeld => ?_)
    clear hK K
    try simp only [Act.put, List.setIfInBounds_toArray, List.set_cons_zero, List.set_cons_succ]
    refine wpAnyH_ready (rs := [7]) (by kernel_rfl) (by simp) (AllReadyH.cons (o := { dst := some 15, op := Op.call { callee := Callee.value (Operand.func 10), args := #[Operand.tmp 8, Operand.tmp 10, Operand.tmp 12, Operand.tmp 14], argTypes := #[24, 3, 3, 22] }, type := 25, pos := "law.go:133", after := #[{ on := 0, ground := Ground.data }, { on := 2, ground := Ground.data }, { on := 4, ground := Ground.data }, { on := 6, ground := Ground.data }, { on := 6, ground := Ground.chain }], guard := none }) rfl (fun K hK => ?_) AllReadyH.nil)
    rw [if_pos (by rfl)]
    go_wp2_with fail
    refine C7.mono ?_
    rintro e w7 ⟨rfl, hq7, hm7⟩
    have hS7 : Boxes w7 [(w.heap.size, scells y)] := hm7.boxes hS6 (by simp; exact HT.out)
    refine hK.out _ _ (by exact hS7) (fun hHeld => ?_)
    clear hK K
    refine wpAnyH_done (by kernel_rfl) ?_ _
    refine NoPanic.normal ?_
    clear hHeld
    have END := Lib.hid (show OtherPost Q M (otherD d y) (.returned (.tuple #[])) w7 from ⟨rfl, M + 1, by omega, Nat.le_refl _, by rw [HD.out]; exact hq7⟩)
    clear C7 hm7 hq7 hr6 ho6 hg6 hb6 hb6' hS6 hS7 HBX hba h
    go_wp2_with fail
    (first | go_end0 | refine bodyPost_end (results_none rfl _ _ _) rfl ?_)
    exact END.out
  · have q0 : (y.kind == 0) = false := by simp [k0]
    by_cases k1 : y.kind = 1
    · have q1 : (y.kind == 1) = true := by simp [k1]
      have HD := Lib.hid (show otherD d y = syncD d y.region by rw [otherD, if_neg k0, if_pos k1])
      have C := sync_o (h.below hba) hM y.region
      clear k0 k1 HBX hba
      go_enter Try.func29, Try.ntmps29
      go_wp2_with fail
      refine C.mono ?_
      rintro e w7 ⟨rfl, hq⟩
      have END := Lib.hid (show OtherPost Q M (otherD d y) (.returned (.tuple #[])) w7 from ⟨rfl, M, Nat.le_refl _, by omega, by rw [HD.out]; exact hq⟩)
      clear hq C h
      go_wp2_with fail
      (first | go_end0 | refine bodyPost_end (results_none rfl _ _ _) rfl ?_)
      exact END.out
    · have q1 : (y.kind == 1) = false := by simp [k1]
      by_cases k2 : y.kind = 2
      · have q2 : (y.kind == 2) = true := by simp [k2]
        have HD := Lib.hid (show otherD d y = stopD d y.region y.page by rw [otherD, if_neg k0, if_neg k1, if_pos k2])
        have C := stop_o (h.below hba) y.region y.page hp
        clear k0 k1 k2 HBX hba
        go_enter Try.func29, Try.ntmps29
        go_wp2_with fail
        refine C.mono ?_
        rintro e w7 ⟨rfl, hq⟩
        have END := Lib.hid (show OtherPost Q M (otherD d y) (.returned (.tuple #[])) w7 from ⟨rfl, M, Nat.le_refl _, by omega, by rw [HD.out]; exact hq⟩)
        clear hq C h
        go_wp2_with fail
        (first | go_end0 | refine bodyPost_end (results_none rfl _ _ _) rfl ?_)
        exact END.out
      · have q2 : (y.kind == 2) = false := by simp [k2]
        have HD := Lib.hid (show otherD d y = d by rw [otherD, if_neg k0, if_neg k1, if_neg k2])
        have END := Lib.hid (show OtherPost Q M (otherD d y) (.returned (.tuple #[])) (w.alloc (.cells #[.int .i64 y.kind, .int .i64 y.region, .int .i64 y.page, .int .u8 (y.fill.toNat : Int), .bool y.short, .slice y.ka y.kl y.kc] 33)) from ⟨rfl, M, Nat.le_refl _, by omega, by rw [HD.out]; exact h.same hba (Nat.le_refl M)⟩)
        clear k0 k1 k2 HBX hba h
        go_enter Try.func29, Try.ntmps29
        go_wp2_with fail
        (first | go_end0 | refine bodyPost_end (results_none rfl _ _ _) rfl ?_)
        exact END.out
end Go.Proofs.Ytopnfpobbemfbaa
