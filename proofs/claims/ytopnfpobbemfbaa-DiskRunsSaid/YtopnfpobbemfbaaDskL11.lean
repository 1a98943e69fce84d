/- The walk of DiskRuns (printed by gen_dskL11.py). -/
import Derived.Test.YtopnfpobbemfbaaDskL10
import Derived.Test.YtopnfpobbemfbaaStep
import Derived.Deep.RegionHeld3
import Derived.Deep.DeepCutAuto
import Derived.Deep.CutBlock
namespace Go.Proofs.Ytopnfpobbemfbaa
open Go.RowKit

theorem row_nat2 {w : World} {base : Nat} {e : TypeId} {a : Option Addr} {n cap : Nat} {l : List Nat} (h : w.ownsRow base e 1 (.slice a n cap) n (l.map fun n : Nat => Value.int .i64 (n : Int))) : Row .i64 w a n cap (l.map fun n : Nat => (n : Int)) := by
  obtain ⟨a', cap', e1, e2⟩ := Row.of_own (k := .i64) (l := l.map fun n : Nat => (n : Int)) (by rw [List.map_map]; exact h)
  cases e1; exact e2
theorem loose_ints {w0 wa wb : World} {l : List (Nat × P128)} {aa ab : Option Addr} {ca cb n : Nat} (h1 : wa.ownsRow w0.heap.size 3 1 (.slice aa n ca) n ((l.map (·.1)).map fun n : Nat => Value.int .i64 (n : Int))) (h2 : wb.ownsRow wa.heap.size 3 1 (.slice ab n cb) n (pgV l)) (hb : Below wa.heap.size wa wb) :
    Calls Try.prog 26 #[.slice aa n ca, .slice ab n cb] wb fun e w' => e = .returned (.bool true) ∧ ∃ j, w' = wb.drewN j := by
  have r1 := row_nat2 (own_step h1 hb)
  have r2 : Row .i64 wb ab n cb ((l.map (·.1)).map fun n : Nat => (n : Int)) := row_nat2 (by rw [List.map_map]; exact h2)
  have I := ints_any r1 r2
  rwa [decide_eq_true rfl] at I
def AfterStep (B : Nat) (w : World) (da n : Nat) (sizes : List Int) (k : Nat) (v x y : Value) (wr : World) : Prop := ∃ M d a cap er, M ≤ k + 1 ∧ v = .slice a n cap ∧ x = .int .i64 er ∧ y = .int .i64 er ∧ Both B wr da M d a n cap d ∧ Few d sizes (k + 1) ∧ Below w.heap.size w wr
def RunRel (B : Nat) (w : World) (da n : Nat) (sizes : List Int) (k : Nat) (v : Value) (wr : World) : Prop := ∃ M d a cap, M ≤ k ∧ v = .slice a n cap ∧ Both B wr da M d a n cap d ∧ Few d sizes k ∧ Below w.heap.size w wr
set_option maxRecDepth 100000 in
set_option maxHeartbeats 8000000 in
theorem lRuns {w : World} {sa : Option Addr} {n sc : Nat} {sizes : List Int} (hsz : Row .i64 w sa n sc sizes) {a : Option Addr} {len cap : Nat} {l : List Stp} (h : Stps w a len cap l) :
    Calls Try.prog 6 #[.slice sa n sc, .slice a len cap] w fun e w' => e = .returned (.bool true) ∧ Below w.heap.size w w' := by
  have AW := awake_any w
  have hm : len ≤ 9223372036854775807 := by have := h.2.1; have := h.2.2.1; unfold maxLen at this; omega
  have hsl := hsz.1
  have hs1 := hsz.2.1
  have hs2 := hsz.2.2.1
  unfold maxLen at hs2
  have HL := Lib.hid h.1
  have H := Lib.hid h
  have HSZ := Lib.hid hsz
  have HSL := Lib.hid hsl
  clear h hsz hsl
  cases hs : smallB l with
  | false =>
    go_enter Try.func6, Try.ntmps6
    go_wp2_with fail
    refine AW.mono ?_
    rintro e w1 ⟨rfl, hb1⟩
    have C := small_any (H.out.below (Nat.le_refl _) hb1)
    rw [hs] at C
    clear hs
    go_wp2_with fail
    refine C.mono ?_
    rintro e w2 ⟨rfl, rfl⟩
    go_wp2_with fail
    go_ret
    exact ⟨rfl, hb1⟩
  | true =>
    have h40 : len ≤ 40 := by
      have := HL.out
      unfold smallB at hs
      simp at hs
      omega
    by_cases h70 : 70 < n
    · have d70 : decide ((70 : Int) < n) = true := by simp; omega
      have d70' : decide (70 < n) = true := by simp; omega
      go_enter Try.func6, Try.ntmps6
      go_wp2_with fail
      refine AW.mono ?_
      rintro e w1 ⟨rfl, hb1⟩
      have C := small_any (H.out.below (Nat.le_refl _) hb1)
      rw [hs] at C
      clear hs
      go_wp2_with fail
      refine C.mono ?_
      rintro e w2 ⟨rfl, rfl⟩
      go_wp2_with fail
      go_ret
      exact ⟨rfl, hb1⟩
    have d70 : decide ((70 : Int) < n) = false := by simp; omega
    have d70' : decide (70 < n) = false := by simp; omega
    go_enter Try.func6, Try.ntmps6
    go_wp2_with fail
    refine AW.mono ?_
    rintro e w1 ⟨rfl, hb1⟩
    have C := small_any (H.out.below (Nat.le_refl _) hb1)
    rw [hs] at C
    clear hs
    have N := dnew_any (HSZ.out.below (Nat.le_refl _) hb1)
    clear AW
    go_wp2_with fail
    refine C.mono ?_
    rintro e w1' ⟨rfl, rfl⟩
    clear C
    go_wp2_with fail
    refine N.mono ?_
    rintro e w2 ⟨hb2, hp2⟩
    have hw2 := below_then hb1 hb2
    have R := rnew_any (HSZ.out.below (Nat.le_refl _) hw2) (by omega)
    clear N
    by_cases hok : newOk sizes = true
    · rw [hok, if_pos rfl] at hp2
      obtain ⟨F, da, bs, rfl, hd2, hF2⟩ := hp2
      obtain ⟨B, hB⟩ : ∃ B, w1.heap.size = B := ⟨_, rfl⟩
      have hBw : w.heap.size ≤ B := by rw [← hB]; exact hb1.size
      have hone : One B w2 da 0 (newD sizes) := ⟨F, bs, hd2, fun k hk => by have := hF2 k hk; omega, by have := hb2.size; omega⟩
      clear hd2 hF2 hB hb2 hb1
      go_wp2_with fail
      refine R.mono ?_
      rintro e w3 ⟨hb3, hp3⟩
      rw [hok, if_pos rfl, HSL.out] at hp3
      obtain ⟨a3, c3, rfl, hg3⟩ := hp3
      have hB3 : Both B w3 da 0 (newD sizes) a3 n c3 (newD sizes) := Both.mk hone hb3 (Nat.le_refl _) hg3
      have HR := Lib.hid (show RunRel B w da n sizes 0 (.slice a3 n c3) w3 from ⟨0, _, a3, c3, Nat.le_refl _, rfl, hB3, few_new hok, below_then hw2 hb3⟩)
      clear R hok hone hb3 hg3 hB3 hw2
      go_wp2_with fail
      go_loopw [9, 11] (fun s9 i wr => ∃ k : Nat, k ≤ len ∧ i = .int .i64 k ∧ RunRel B w da n sizes k s9 wr) (fun _ i _ => len - (intOf i).toNat)
      case atStart => exact ⟨0, Nat.zero_le _, rfl, HR.out⟩
      case round =>
        clear HR
        obtain ⟨k, hk, rfl, M, d, a9, c9, hM, rfl, hd, hfw, hbw⟩ := hrel
        by_cases hlt : k < len
        · obtain ⟨b, off, y, rfl, hb, hy, hks, hyp, hrg⟩ := H.out.stepAt hbw hlt
          have c0 : wr.cell? ⟨b, off + k * 6, none⟩ = some (.int .i64 y.kind) := hrg 0 _ rfl
          have c1 : wr.cell? ⟨b, off + k * 6 + 1, none⟩ = some (.int .i64 y.region) := hrg 1 _ rfl
          have c2 : wr.cell? ⟨b, off + k * 6 + 2, none⟩ = some (.int .i64 y.page) := hrg 2 _ rfl
          have c3 : wr.cell? ⟨b, off + k * 6 + 3, none⟩ = some (.int .u8 (y.fill.toNat : Int)) := hrg 3 _ rfl
          have c4 : wr.cell? ⟨b, off + k * 6 + 4, none⟩ = some (.bool y.short) := hrg 4 _ rfl
          have c5 : wr.cell? ⟨b, off + k * 6 + 5, none⟩ = some (.slice y.ka y.kl y.kc) := hrg 5 _ rfl
          have hsw := hbw.size
          have HBX : Boxes (wr.alloc (.cells #[.int .i64 y.kind, .int .i64 y.region, .int .i64 y.page, .int .u8 (y.fill.toNat : Int), .bool y.short, .slice y.ka y.kl y.kc] 33)) [(wr.heap.size, scells y)] := (Boxes.nil wr).alloc _ _ rfl
          have hdx : BothK B [wr.heap.size] (wr.alloc (.cells #[.int .i64 y.kind, .int .i64 y.region, .int .i64 y.page, .int .u8 (y.fill.toNat : Int), .bool y.short, .slice y.ka y.kl y.kc] 33)) da M d a9 n c9 d := hd.addK ((Below.refl _ _).alloc (Nat.le_refl _) _) _ (Nat.le_refl _) (by simp)
          clear hrg hy
          go_upto_block 2 with (fail)
          go_cut [9, 14, 15] (fun s9 s14 s15 wx => AfterStep B w da n sizes k s9 s14 s15 wx)
          case first =>
            by_cases k0 : y.kind = 0
            · have q0 : (y.kind == 0) = true := by simp [k0]
              clear k0 hks
              go_wp2_with fail
              refine wp_region_noPanic ?_
              refine wp_region_held_drew (S := fun W => Boxes W [(wr.heap.size, scells y)]) (by kernel_rfl) (by exact HBX.drew) (fun hHeld => ?_)
              refine wpAnyH_take (i := 0) (oi := { dst := some 76, op := Op.move (Operand.tmp 7), type := 24, pos := "law.go:93", after := #[], guard := none }) (v := ?_) rfl (by kernel_rfl) (by kernel_rfl) (by kernel_rfl) (fun _ _ _ h => h) (Or.inl ⟨by rfl, ?_⟩) (by assumption) ?_
              rotate_left
              · (intro W hW; obtain ⟨e0, e1, e2, e3, e4, e5⟩ := stp_cells hW; go_simp <;> (with_reducible rfl))
              try simp only [Act.put, List.setIfInBounds_toArray, List.set_cons_zero, List.set_cons_succ]
              refine wpAnyH_take (i := 1) (oi := { dst := some 77, op := Op.move (Operand.tmp 13), type := 3, pos := "law.go:93", after := #[], guard := none }) (v := ?_) rfl (by kernel_rfl) (by kernel_rfl) (by kernel_rfl) (fun _ _ _ h => h) (Or.inl ⟨by rfl, ?_⟩) (by assumption) ?_
              rotate_left
              · (intro W hW; obtain ⟨e0, e1, e2, e3, e4, e5⟩ := stp_cells hW; go_simp <;> (with_reducible rfl))
              try simp only [Act.put, List.setIfInBounds_toArray, List.set_cons_zero, List.set_cons_succ]
              refine wpAnyH_take (i := 2) (oi := { dst := some 78, op := Op.fieldAddr 33 (Operand.tmp 12) 2, type := 0, pos := "law.go:93", after := #[], guard := none }) (v := ?_) rfl (by kernel_rfl) (by kernel_rfl) (by kernel_rfl) (fun _ _ _ h => h) (Or.inl ⟨by rfl, ?_⟩) (by assumption) ?_
              rotate_left
              · (intro W hW; obtain ⟨e0, e1, e2, e3, e4, e5⟩ := stp_cells hW; go_simp <;> (with_reducible rfl))
              try simp only [Act.put, List.setIfInBounds_toArray, List.set_cons_zero, List.set_cons_succ]
              refine wpAnyH_take (i := 3) (oi := { dst := some 79, op := Op.load 3 (Operand.tmp 78), type := 3, pos := "law.go:93", after := #[{ on := 2, ground := Ground.data }], guard := none }) (v := ?_) rfl (by kernel_rfl) (by kernel_rfl) (by kernel_rfl) (fun _ _ _ h => h) (Or.inl ⟨by rfl, ?_⟩) (by assumption) ?_
              rotate_left
              · (intro W hW; obtain ⟨e0, e1, e2, e3, e4, e5⟩ := stp_cells hW; go_simp <;> (with_reducible rfl))
              try simp only [Act.put, List.setIfInBounds_toArray, List.set_cons_zero, List.set_cons_succ]
              refine wpAnyH_take (i := 4) (oi := { dst := some 80, op := Op.load 33 (Operand.tmp 12), type := 33, pos := "law.go:93", after := #[], guard := none }) (v := ?_) rfl (by kernel_rfl) (by kernel_rfl) (by kernel_rfl) (fun _ _ _ h => h) (Or.inl ⟨by rfl, ?_⟩) (by assumption) ?_
              rotate_left
              · (intro W hW; obtain ⟨e0, e1, e2, e3, e4, e5⟩ := stp_cells hW; go_simp <;> (with_reducible rfl))
              try simp only [Act.put, List.setIfInBounds_toArray, List.set_cons_zero, List.set_cons_succ]
              refine wpAnyH_ready (rs := [5]) (by kernel_rfl) (by simp) (AllReadyH.cons (o := { dst := some 81, op := Op.call { callee := Callee.value (Operand.func 11), args := #[Operand.tmp 80], argTypes := #[33] }, type := 22, pos := "law.go:93", after := #[{ on := 4, ground := Ground.data }], guard := none }) rfl (fun K hK => ?_) AllReadyH.nil)
              rw [if_pos (by rfl)]
              go_wp2_with fail
              refine (page_lit y _).mono ?_
              rintro e w6 ⟨v6, rfl, ho6, hb6⟩
              obtain ⟨a6, c6, rfl, hr6⟩ := Bs.of_own ho6
              have hg6 := own_ge ho6
              have hS6 : Boxes w6 [(wr.heap.size, scells y)] := HBX.drew.step hb6
              have C7 := write_o (hdx.below (below_drewN (Below.refl _ _) 1)|>.opens.below hb6) hr6 (fun g off hg => by subst hg; exact .inr (hg6 g rfl)) (by omega) y.region y.page
              refine hK.out _ _ (by exact hS6) (fun hHeld => ?_)
              clear hK K
              try simp only [Act.put, List.setIfInBounds_toArray, List.set_cons_zero, List.set_cons_succ]
              refine wpAnyH_ready (rs := [6]) (by kernel_rfl) (by simp) (AllReadyH.cons (o := { dst := some 82, op := Op.call { callee := Callee.value (Operand.func 10), args := #[Operand.tmp 76, Operand.tmp 77, Operand.tmp 79, Operand.tmp 81], argTypes := #[24, 3, 3, 22] }, type := 25, pos := "law.go:93", after := #[{ on := 0, ground := Ground.data }, { on := 1, ground := Ground.data }, { on := 3, ground := Ground.data }, { on := 5, ground := Ground.data }, { on := 5, ground := Ground.chain }], guard := none }) rfl (fun K hK => ?_) AllReadyH.nil)
              rw [if_pos (by rfl)]
              go_wp2_with fail
              refine C7.mono ?_
              rintro e w7 ⟨rfl, hd7, hb7, hk7⟩
              have hS7 : Boxes w7 [(wr.heap.size, scells y)] := hk7.boxes HBX.drew (by simp)
              clear C7 hr6 ho6 hg6 hb6 hS6 hk7
              refine hK.out _ _ (by exact hS7) (fun hHeld => ?_)
              clear hK K
              try simp only [Act.put, List.setIfInBounds_toArray, List.set_cons_zero, List.set_cons_succ]
              refine wpAnyH_take (i := 7) (oi := { dst := some 14, op := Op.assign (Operand.tmp 82), type := 25, pos := "law.go:93", after := #[{ on := 6, ground := Ground.data }, { on := 6, ground := Ground.chain }, { on := 0, ground := Ground.phase }, { on := 1, ground := Ground.phase }, { on := 2, ground := Ground.phase }, { on := 3, ground := Ground.phase }, { on := 4, ground := Ground.phase }, { on := 5, ground := Ground.phase }, { on := 6, ground := Ground.phase }], guard := none }) (v := ?_) rfl (by kernel_rfl) (by kernel_rfl) (by kernel_rfl) (fun _ _ _ h => h) (Or.inl ⟨by rfl, ?_⟩) (by assumption) ?_
              rotate_left
              · (intro W hW; obtain ⟨e0, e1, e2, e3, e4, e5⟩ := stp_cells hW; go_simp <;> (with_reducible rfl))
              refine wpAnyH_done (by kernel_rfl) ?_ _
              refine NoPanic.normal ?_
              clear hHeld
              have HS7 := Lib.hid hS7
              have HD7 := Lib.hid hd7.both
              have HFW := Lib.hid hfw
              have HB7 := Lib.hid (((hbw.alloc hsw _).trans (Below.mono (show Below B _ w7 from ⟨hb7.os, hb7.tape, hb7.output, hb7.size, hb7.block⟩) hBw)))
              clear hd hdx hfw hbw HBX hS7 hd7 hb7
              go_wp2_with fail
              refine wp_region_noPanic ?_
              refine wp_region_held_drew (S := fun W => Boxes W [(wr.heap.size, scells y)]) (by kernel_rfl) (by exact HS7.out.drew) (fun hHeld => ?_)
              refine wpAnyH_take (i := 0) (oi := { dst := some 84, op := Op.move (Operand.tmp 9), type := 46, pos := "law.go:94", after := #[], guard := none }) (v := ?_) rfl (by kernel_rfl) (by kernel_rfl) (by kernel_rfl) (fun _ _ _ h => h) (Or.inl ⟨by rfl, ?_⟩) (by assumption) ?_
              rotate_left
              · (intro W hW; obtain ⟨e0, e1, e2, e3, e4, e5⟩ := stp_cells hW; go_simp <;> (with_reducible rfl))
              try simp only [Act.put, List.setIfInBounds_toArray, List.set_cons_zero, List.set_cons_succ]
              refine wpAnyH_take (i := 1) (oi := { dst := some 85, op := Op.move (Operand.tmp 13), type := 3, pos := "law.go:94", after := #[], guard := none }) (v := ?_) rfl (by kernel_rfl) (by kernel_rfl) (by kernel_rfl) (fun _ _ _ h => h) (Or.inl ⟨by rfl, ?_⟩) (by assumption) ?_
              rotate_left
              · (intro W hW; obtain ⟨e0, e1, e2, e3, e4, e5⟩ := stp_cells hW; go_simp <;> (with_reducible rfl))
              try simp only [Act.put, List.setIfInBounds_toArray, List.set_cons_zero, List.set_cons_succ]
              refine wpAnyH_take (i := 2) (oi := { dst := some 86, op := Op.fieldAddr 33 (Operand.tmp 12) 2, type := 0, pos := "law.go:94", after := #[], guard := none }) (v := ?_) rfl (by kernel_rfl) (by kernel_rfl) (by kernel_rfl) (fun _ _ _ h => h) (Or.inl ⟨by rfl, ?_⟩) (by assumption) ?_
              rotate_left
              · (intro W hW; obtain ⟨e0, e1, e2, e3, e4, e5⟩ := stp_cells hW; go_simp <;> (with_reducible rfl))
              try simp only [Act.put, List.setIfInBounds_toArray, List.set_cons_zero, List.set_cons_succ]
              refine wpAnyH_take (i := 3) (oi := { dst := some 87, op := Op.load 3 (Operand.tmp 86), type := 3, pos := "law.go:94", after := #[{ on := 2, ground := Ground.data }], guard := none }) (v := ?_) rfl (by kernel_rfl) (by kernel_rfl) (by kernel_rfl) (fun _ _ _ h => h) (Or.inl ⟨by rfl, ?_⟩) (by assumption) ?_
              rotate_left
              · (intro W hW; obtain ⟨e0, e1, e2, e3, e4, e5⟩ := stp_cells hW; go_simp <;> (with_reducible rfl))
              try simp only [Act.put, List.setIfInBounds_toArray, List.set_cons_zero, List.set_cons_succ]
              refine wpAnyH_take (i := 4) (oi := { dst := some 88, op := Op.load 33 (Operand.tmp 12), type := 33, pos := "law.go:94", after := #[], guard := none }) (v := ?_) rfl (by kernel_rfl) (by kernel_rfl) (by kernel_rfl) (fun _ _ _ h => h) (Or.inl ⟨by rfl, ?_⟩) (by assumption) ?_
              rotate_left
              · (intro W hW; obtain ⟨e0, e1, e2, e3, e4, e5⟩ := stp_cells hW; go_simp <;> (with_reducible rfl))
              try simp only [Act.put, List.setIfInBounds_toArray, List.set_cons_zero, List.set_cons_succ]
              refine wpAnyH_ready (rs := [5]) (by kernel_rfl) (by simp) (AllReadyH.cons (o := { dst := some 89, op := Op.call { callee := Callee.value (Operand.func 11), args := #[Operand.tmp 88], argTypes := #[33] }, type := 22, pos := "law.go:94", after := #[{ on := 4, ground := Ground.data }], guard := none }) rfl (fun K hK => ?_) AllReadyH.nil)
              rw [if_pos (by rfl)]
              go_wp2_with fail
              refine (page_lit y _).mono ?_
              rintro e w8 ⟨v8, rfl, ho8, hb8⟩
              obtain ⟨a8, c8, rfl, hr8⟩ := Bs.of_own ho8
              have hS8 : Boxes w8 [(wr.heap.size, scells y)] := HS7.out.drew.step hb8
              have hcv := conv_string (P := Try.prog) Try.underlying22 Try.underlying5 Try.underlying9 hr8
              have C9 := both_write ((HD7.out.below (below_drewN (Below.refl _ _) 1)).below hb8) (by omega) (fun x hx => by have := HFW.out.2 x hx; omega) y.region y.page (pageB y)
              refine hK.out _ _ (by exact hS8) (fun hHeld => ?_)
              clear hK K
              try simp only [Act.put, List.setIfInBounds_toArray, List.set_cons_zero, List.set_cons_succ]
              refine wpAnyH_ready (rs := [6]) (by kernel_rfl) (by simp) (AllReadyH.cons (o := { dst := some 90, op := Op.convert 22 9 (Operand.tmp 89), type := 9, pos := "law.go:94", after := #[{ on := 5, ground := Ground.data }], guard := none }) rfl (fun K hK => ?_) AllReadyH.nil)
              refine step_convert_run rfl _ _ _ rfl rfl hcv ?_
              refine hK.out _ _ (by exact hS8) (fun hHeld => ?_)
              clear hK K
              try simp only [Act.put, List.setIfInBounds_toArray, List.set_cons_zero, List.set_cons_succ]
              refine wpAnyH_ready (rs := [7]) (by kernel_rfl) (by simp) (AllReadyH.cons (o := { dst := some 91, op := Op.call { callee := Callee.value (Operand.func 20), args := #[Operand.tmp 84, Operand.tmp 85, Operand.tmp 87, Operand.tmp 90], argTypes := #[46, 3, 3, 9] }, type := 47, pos := "law.go:94", after := #[{ on := 0, ground := Ground.data }, { on := 1, ground := Ground.data }, { on := 3, ground := Ground.data }, { on := 6, ground := Ground.data }, { on := 5, ground := Ground.chain }], guard := none }) rfl (fun K hK => ?_) AllReadyH.nil)
              rw [if_pos (by rfl)]
              go_wp2_with fail
              refine C9.mono ?_
              rintro e w9 ⟨a9, n9, c9, rfl, hd9, hb9⟩
              have hS9 : Boxes w9 [(wr.heap.size, scells y)] := hS8.step hb9
              have hb79 : Below w7.heap.size w7 w9 := below_then (below_then (below_drewN (Below.refl _ _) 1) hb8) hb9
              clear C9 hr8 ho8 hb8 hS8 hb9 hcv
              refine hK.out _ _ (by exact hS9) (fun hHeld => ?_)
              clear hK K
              try simp only [Act.put, List.setIfInBounds_toArray, List.set_cons_zero, List.set_cons_succ]
              refine wpAnyH_take (i := 8) (oi := { dst := some 83, op := Op.move (Operand.tmp 91), type := 47, pos := "law.go:94", after := #[{ on := 7, ground := Ground.data }], guard := none }) (v := ?_) rfl (by kernel_rfl) (by kernel_rfl) (by kernel_rfl) (fun _ _ _ h => h) (Or.inl ⟨by rfl, ?_⟩) (by assumption) ?_
              rotate_left
              · (intro W hW; obtain ⟨e0, e1, e2, e3, e4, e5⟩ := stp_cells hW; go_simp <;> (with_reducible rfl))
              try simp only [Act.put, List.setIfInBounds_toArray, List.set_cons_zero, List.set_cons_succ]
              refine wpAnyH_take (i := 9) (oi := { dst := some 92, op := Op.extract (Operand.tmp 83) 0, type := 46, pos := "law.go:94", after := #[{ on := 8, ground := Ground.data }], guard := none }) (v := ?_) rfl (by kernel_rfl) (by kernel_rfl) (by kernel_rfl) (fun _ _ _ h => h) (Or.inl ⟨by rfl, ?_⟩) (by assumption) ?_
              rotate_left
              · (intro W hW; obtain ⟨e0, e1, e2, e3, e4, e5⟩ := stp_cells hW; go_simp <;> (with_reducible rfl))
              try simp only [Act.put, List.setIfInBounds_toArray, List.set_cons_zero, List.set_cons_succ]
              refine wpAnyH_take (i := 10) (oi := { dst := some 93, op := Op.extract (Operand.tmp 83) 1, type := 25, pos := "law.go:94", after := #[{ on := 8, ground := Ground.data }, { on := 11, ground := Ground.gcOnly Departure.lateStores }], guard := none }) (v := ?_) rfl (by kernel_rfl) (by kernel_rfl) (by kernel_rfl) (fun _ _ _ h => h) (Or.inl ⟨by rfl, ?_⟩) (by assumption) ?_
              rotate_left
              · (intro W hW; obtain ⟨e0, e1, e2, e3, e4, e5⟩ := stp_cells hW; go_simp <;> (with_reducible rfl))
              try simp only [Act.put, List.setIfInBounds_toArray, List.set_cons_zero, List.set_cons_succ]
              refine wpAnyH_take (i := 11) (oi := { dst := some 9, op := Op.assign (Operand.tmp 92), type := 46, pos := "law.go:94", after := #[{ on := 9, ground := Ground.data }, { on := 7, ground := Ground.chain }, { on := 0, ground := Ground.phase }, { on := 1, ground := Ground.phase }, { on := 2, ground := Ground.phase }, { on := 3, ground := Ground.phase }, { on := 4, ground := Ground.phase }, { on := 5, ground := Ground.phase }, { on := 6, ground := Ground.phase }, { on := 7, ground := Ground.phase }, { on := 8, ground := Ground.phase }, { on := 9, ground := Ground.phase }, { on := 10, ground := Ground.textOnly Departure.lateStores }], guard := none }) (v := ?_) rfl (by kernel_rfl) (by kernel_rfl) (by kernel_rfl) (fun _ _ _ h => h) (Or.inl ⟨by rfl, ?_⟩) (by assumption) ?_
              rotate_left
              · (intro W hW; obtain ⟨e0, e1, e2, e3, e4, e5⟩ := stp_cells hW; go_simp <;> (with_reducible rfl))
              try simp only [Act.put, List.setIfInBounds_toArray, List.set_cons_zero, List.set_cons_succ]
              refine wpAnyH_take (i := 12) (oi := { dst := some 15, op := Op.assign (Operand.tmp 93), type := 25, pos := "law.go:94", after := #[{ on := 10, ground := Ground.data }, { on := 11, ground := Ground.chain }, { on := 0, ground := Ground.phase }, { on := 1, ground := Ground.phase }, { on := 2, ground := Ground.phase }, { on := 3, ground := Ground.phase }, { on := 4, ground := Ground.phase }, { on := 5, ground := Ground.phase }, { on := 6, ground := Ground.phase }, { on := 7, ground := Ground.phase }, { on := 8, ground := Ground.phase }, { on := 9, ground := Ground.phase }, { on := 10, ground := Ground.phase }, { on := 11, ground := Ground.phase }], guard := none }) (v := ?_) rfl (by kernel_rfl) (by kernel_rfl) (by kernel_rfl) (fun _ _ _ h => h) (Or.inl ⟨by rfl, ?_⟩) (by assumption) ?_
              rotate_left
              · (intro W hW; obtain ⟨e0, e1, e2, e3, e4, e5⟩ := stp_cells hW; go_simp <;> (with_reducible rfl))
              refine wpAnyH_done (by kernel_rfl) ?_ _
              refine NoPanic.normal ?_
              clear hHeld
              have hZ := hd9
              have hF := few_write HFW.out y.region y.page (pageB y)
              have hV := below_then HB7.out hb79
              have hM2 : M + 1 ≤ k + 1 := by omega
              generalize writeE d y.region y.page (pageB y) = er9 at *
              have q9' : (er9 != er9) = false := by simp
              obtain rfl : n9 = n := by have h2 := hZ.gs.1; have h3 := hF.len; have h4 := HSL.out; omega
              have HX := Lib.hid (show AfterStep B w da n9 sizes k (.slice a9 n9 c9) (.int .i64 (er9)) (.int .i64 (er9)) (w9) from ⟨(M + 1), writeD d y.region y.page (pageB y), a9, c9, er9, hM2, rfl, rfl, rfl, hZ, hF, hV⟩)
              clear hd9 hS9 hb79
              clear hZ hF hV hM2
              go_wp2_with fail
              go_meet
              exact HX.out
            · have q0 : (y.kind == 0) = false := by simp [k0]
              clear k0
              by_cases k1 : y.kind = 1
              · have q1 : (y.kind == 1) = true := by simp [k1]
                clear k1 hks
                have C := sync_o hdx.opens (by omega) y.region
                have HFW := Lib.hid hfw
                have HBW := Lib.hid (hbw.alloc hsw (.cells #[.int .i64 y.kind, .int .i64 y.region, .int .i64 y.page, .int .u8 (y.fill.toNat : Int), .bool y.short, .slice y.ka y.kl y.kc] 33))
                clear hd hdx hfw hbw HBX
                go_wp2_with fail
                refine C.mono ?_
                rintro e' w7 ⟨rfl, hd7, hb7, hk7⟩
                have C2 := both_sync hd7.both (by omega) (fun x hx => by have := HFW.out.2 x hx; omega) y.region
                have HB7 := Lib.hid (HBW.out.trans (hb7.mono hBw))
                clear C hd7 hb7 hk7 c0 c1 c2 c3 c4 c5
                go_wp2_with fail
                refine C2.mono ?_
                rintro e' w9 ⟨a8, n9, c8, rfl, hd9, hb9⟩
                have hZ := hd9
                have hF := (few_sync HFW.out y.region).more (Nat.le_succ k)
                have hV := below_then HB7.out hb9
                have hM2 : M ≤ k + 1 := by omega
                generalize syncE d y.region = er9 at *
                have q9' : (er9 != er9) = false := by simp
                clear C2
                obtain rfl : n9 = n := by have h2 := hZ.gs.1; have h3 := hF.len; have h4 := HSL.out; omega
                have HX := Lib.hid (show AfterStep B w da n9 sizes k (.slice a8 n9 c8) (.int .i64 (er9)) (.int .i64 (er9)) (w9) from ⟨M, syncD d y.region, a8, c8, er9, hM2, rfl, rfl, rfl, hZ, hF, hV⟩)
                clear hd9 hb9
                clear hZ hF hV hM2
                go_wp2_with fail
                go_meet
                exact HX.out
              · have q1 : (y.kind == 1) = false := by simp [k1]
                clear k1
                by_cases k2 : y.kind = 2
                · have q2 : (y.kind == 2) = true := by simp [k2]
                  clear k2 hks
                  have C := stop_o hdx.opens y.region y.page hyp
                  have HFW := Lib.hid hfw
                  have HBW := Lib.hid (hbw.alloc hsw (.cells #[.int .i64 y.kind, .int .i64 y.region, .int .i64 y.page, .int .u8 (y.fill.toNat : Int), .bool y.short, .slice y.ka y.kl y.kc] 33))
                  clear hd hdx hfw hbw
                  go_wp2_with fail
                  refine C.mono ?_
                  rintro e' w7 ⟨rfl, hd7, hb7, hk7⟩
                  have HS7 : Boxes w7 [(wr.heap.size, scells y)] := hk7.boxes HBX (by simp)
                  obtain ⟨_, _, b2, _⟩ := stp_cells HS7
                  have C2 := both_stop hd7.both (by omega) y.region y.page hyp
                  have HB7 := Lib.hid (HBW.out.trans (hb7.mono hBw))
                  clear C hd7 hb7 hk7 c0 c1 c2 c3 c4 c5 HS7 HBX
                  go_wp2_with fail
                  refine C2.mono ?_
                  rintro e' w9 ⟨a8, n9, c8, rfl, hd9, hb9⟩
                  have hZ := hd9
                  have hF := (few_stop HFW.out y.region y.page).more (Nat.le_succ k)
                  have hV := below_then HB7.out hb9
                  have hM2 : M ≤ k + 1 := by omega
                  clear C2 b2
                  obtain rfl : n9 = n := by have h2 := hZ.gs.1; have h3 := hF.len; have h4 := HSL.out; omega
                  have HX := Lib.hid (show AfterStep B w da n9 sizes k (.slice a8 n9 c8) (.int .i64 (0)) (.int .i64 (0)) (w9) from ⟨M, stopD d y.region y.page, a8, c8, 0, hM2, rfl, rfl, rfl, hZ, hF, hV⟩)
                  clear hd9 hb9
                  clear hZ hF hV hM2
                  go_wp2_with fail
                  go_meet
                  exact HX.out
                · have q2 : (y.kind == 2) = false := by simp [k2]
                  clear k2
                  by_cases k3 : y.kind = 3
                  · have q3 : (y.kind == 3) = true := by simp [k3]
                    clear k3
                    have hks1 : Txs (wr.alloc (.cells #[.int .i64 y.kind, .int .i64 y.region, .int .i64 y.page, .int .u8 (y.fill.toNat : Int), .bool y.short, .slice y.ka y.kl y.kc] 33)) y.ka y.kl y.kc y.keep := TabR.below (Nat.le_refl _) (hbw.alloc hsw _) hks
                    have hF0 : ∀ g off, y.kl ≠ 0 → y.ka = some ⟨g, off, none⟩ → g < w.heap.size := by
                      intro g off hne hg
                      obtain ⟨b', o', s', e1, e2, _⟩ := hks.at (k := 0) (by omega)
                      rw [hg] at e1; cases e1; exact e2
                    have C := crash_o hdx.opens (by omega) hks1 (fun g off hne hg => .inl (by have := hF0 g off hne hg; omega))
                    have HFW := Lib.hid hfw
                    have HBW := Lib.hid (hbw.alloc hsw (.cells #[.int .i64 y.kind, .int .i64 y.region, .int .i64 y.page, .int .u8 (y.fill.toNat : Int), .bool y.short, .slice y.ka y.kl y.kc] 33))
                    have HKS := Lib.hid hks
                    clear hd hdx hfw hbw hks hks1 hF0
                    go_wp2_with fail
                    refine C.mono ?_
                    rintro e' w7 ⟨rfl, hd7, hb7, hk7⟩
                    have HS7 : Boxes w7 [(wr.heap.size, scells y)] := hk7.boxes HBX (by simp)
                    obtain ⟨_, _, _, _, _, b5⟩ := stp_cells HS7
                    have HB7 := Lib.hid (HBW.out.trans (hb7.mono hBw))
                    have C2 := both_crash hd7.both (by omega) (fun x hx => by have := HFW.out.2 x hx; omega) (TabR.below (Nat.le_refl _) HB7.out HKS.out)
                    clear C hd7 hb7 hk7 c0 c1 c2 c3 c4 c5 HS7 HBX
                    go_wp2_with fail
                    refine C2.mono ?_
                    rintro e' w9 ⟨a8, n9, c8, rfl, hd9, hb9⟩
                    have hZ := hd9
                    have hF := (few_crash HFW.out y.keep).more (Nat.le_succ k)
                    have hV := below_then HB7.out hb9
                    have hM2 : M ≤ k + 1 := by omega
                    clear C2 b5
                    obtain rfl : n9 = n := by have h2 := hZ.gs.1; have h3 := hF.len; have h4 := HSL.out; omega
                    have HX := Lib.hid (show AfterStep B w da n9 sizes k (.slice a8 n9 c8) (.int .i64 (0)) (.int .i64 (0)) (w9) from ⟨M, crashD d y.keep, a8, c8, 0, hM2, rfl, rfl, rfl, hZ, hF, hV⟩)
                    clear hd9 hb9
                    clear hZ hF hV hM2
                    go_wp2_with fail
                    go_meet
                    exact HX.out
                  · have q3 : (y.kind == 3) = false := by simp [k3]
                    clear k3 hks
                    by_cases k4 : y.kind = 4
                    · have q4 : (y.kind == 4) = true := by simp [k4]
                      clear k4
                      have C := read_o hdx.both.one y.region y.page
                      have HFW := Lib.hid hfw
                      have HBW := Lib.hid (hbw.alloc hsw (.cells #[.int .i64 y.kind, .int .i64 y.region, .int .i64 y.page, .int .u8 (y.fill.toNat : Int), .bool y.short, .slice y.ka y.kl y.kc] 33))
                      have HDX := Lib.hid hdx.both
                      clear hd hdx hfw hbw
                      go_wp2_with fail
                      refine C.mono ?_
                      rintro e' w7 ⟨v7, rfl, ho7, hb7⟩
                      obtain ⟨a7, c7, rfl, hr7⟩ := Bs.of_own ho7
                      have HS7 : Boxes w7 [(wr.heap.size, scells y)] := HBX.step hb7
                      obtain ⟨_, _, b2, _⟩ := stp_cells HS7
                      have hd7 := HDX.out.below hb7
                      have C2 := rread_any hd7.gs (by omega) y.region y.page
                      have HD7 := Lib.hid hd7
                      have HR7 := Lib.hid hr7
                      have HB7 := Lib.hid (below_then HBW.out hb7)
                      clear C hd7 hb7 c0 c1 c2 c3 c4 c5 HS7 HBX ho7 hr7 HDX
                      go_wp2_with fail
                      refine C2.mono ?_
                      rintro e' w9 ⟨rfl, hb9⟩
                      have hr9 := HR7.out.below (Nat.le_refl _) hb9
                      have hcv := conv_string (P := Try.prog) Try.underlying22 Try.underlying5 Try.underlying9 hr9
                      have hZ := HD7.out.below hb9
                      have hF := HFW.out.more (Nat.le_succ k)
                      have hV := below_then HB7.out hb9
                      have hM2 : M ≤ k + 1 := by omega
                      generalize readB d y.region y.page = z at *
                      generalize pagedE d y.region y.page = er9 at *
                      have q9' : (er9 != er9) = false := by simp
                      have hst := strOf_toList z
                      clear C2 hr9 b2 HR7
                      have HX := Lib.hid (show AfterStep B w da n sizes k (.slice a9 n c9) (.int .i64 (er9)) (.int .i64 (er9)) (w9) from ⟨M, d, a9, c9, er9, hM2, rfl, rfl, rfl, hZ, hF, hV⟩)
                      clear hb9
                      clear hZ hF hV hM2
                      go_wp2_with fail
                      go_meet
                      exact HX.out
                    · have q4 : (y.kind == 4) = false := by simp [k4]
                      clear k4
                      have hZ := hd.below (w' := (wr.alloc (.cells #[.int .i64 y.kind, .int .i64 y.region, .int .i64 y.page, .int .u8 (y.fill.toNat : Int), .bool y.short, .slice y.ka y.kl y.kc] 33))) ((Below.refl _ _).alloc (Nat.le_refl _) _)
                      have hF := hfw.more (Nat.le_succ k)
                      have hV : Below w.heap.size w (wr.alloc (.cells #[.int .i64 y.kind, .int .i64 y.region, .int .i64 y.page, .int .u8 (y.fill.toNat : Int), .bool y.short, .slice y.ka y.kl y.kc] 33)) := hbw.alloc hsw _
                      have hM2 : M ≤ k + 1 := by omega
                      clear hd hdx hfw hbw hM HBX
                      have HX := Lib.hid (show AfterStep B w da n sizes k (.slice a9 n c9) (.int .i64 (0)) (.int .i64 (0)) ((wr.alloc (.cells #[.int .i64 y.kind, .int .i64 y.region, .int .i64 y.page, .int .u8 (y.fill.toNat : Int), .bool y.short, .slice y.ka y.kl y.kc] 33))) from ⟨M, d, a9, c9, 0, hM2, rfl, rfl, rfl, hZ, hF, hV⟩)

                      clear hZ hF hV hM2
                      go_wp2_with fail
                      go_meet
                      exact HX.out
          case rest =>
            clear hd hdx hfw hbw HBX c0 c1 c2 c3 c4 c5 hM
            obtain ⟨M2, D, a2, c2, er, hM2, rfl, rfl, rfl, hz, hF, hv⟩ := hcut
            have HF := Lib.hid hF
            have HZ := Lib.hid hz
            have HV := Lib.hid hv
            have q9' : (er != er) = false := by simp
            have HM2 := Lib.hid hM2
            clear hz hF hv hM2
            go_wp2_with fail
            go_loopw [20] (fun s wx => ∃ p : Nat, p ≤ n ∧ s = .int .i64 p ∧ Both B wx da M2 D a2 n c2 D ∧ Below w.heap.size w wx) (fun s _ => n - (intOf s).toNat)
            case atStart => exact ⟨0, Nat.zero_le _, rfl, HZ.out, HV.out⟩
            case round =>
              clear HZ HV
              obtain ⟨p, hp, rfl, hz, hv⟩ := hrel
              have hgs := hz.gs
              have hcap := hgs.2.choose_spec.1.2.1
              have hcapm := hgs.2.choose_spec.1.2.2.1
              unfold maxLen at hcapm
              by_cases hlp : p < n
              · obtain ⟨x, hx⟩ : ∃ x, D[p]? = some x := ⟨_, List.getElem?_eq_getElem (by have := hgs.1; omega)⟩
                obtain ⟨e1, e2, e3⟩ := few_at HF.out hx
                have hlx := HF.out.2 x (List.mem_of_getElem? hx)
                obtain ⟨b9, o9, pa, pc, la, lc, rfl, hbl, c0, c1, c2, c3, g2, g3, g4, g5, g6, g7⟩ := hgs.at hx
                obtain ⟨bs, os, rfl, hbs, hsc⟩ := HSZ.out.2.2.2.2.resolve_left (by omega)
                have cs := hsc p hlp
                rw [← e1] at cs
                have hDown : ∀ W, Below wr.heap.size wr W → Calls Try.prog 25 #[.pointer (some ⟨da, 0, none⟩), .int .i64 (p : Int)] W fun e w' => e = .returned (.bool x.down) ∧ W = w' := fun W hW => by
                  have := down_o (hz.below hW).one p; rwa [e3] at this
                have hLen : ∀ W, Below wr.heap.size wr W → Calls Try.prog 28 #[.pointer (some ⟨da, 0, none⟩), .int .i64 (p : Int)] W fun e w' => e = .returned (.int .i64 (x.size : Int)) ∧ W = w' := fun W hW => by
                  have := len_o (hz.below hW).one p; rwa [e2] at this
                have hLoose : ∀ W, Below wr.heap.size wr W → Calls Try.prog 16 #[.pointer (some ⟨da, 0, none⟩), .int .i64 (p : Int)] W (LoosePost W (x.loose.map (·.1))) := fun W hW => loose_o (hz.below hW).one (by have := HM2.out; omega) p x hx
                have hPages : ∀ W, Below wr.heap.size wr W → Calls Try.prog 27 #[.slice la x.loose.length lc] W (PagesPost W x.loose) := fun W hW => pages_any (TabR.below (Nat.le_refl _) hW g3) (by omega)
                have cD : ∀ W, Below wr.heap.size wr W → W.cell? ⟨b9, o9 + p * 4 + 3, none⟩ = some (.bool x.down) := fun W hW => (hW.cell (p := ⟨b9, o9 + p * 4 + 3, none⟩) hbl).trans c3
                have cL : ∀ W, Below wr.heap.size wr W → W.cell? ⟨b9, o9 + p * 4 + 1, none⟩ = some (.slice la x.loose.length lc) := fun W hW => (hW.cell (p := ⟨b9, o9 + p * 4 + 1, none⟩) hbl).trans c1
                have cS : ∀ W, Below wr.heap.size wr W → W.cell? ⟨bs, os + p, none⟩ = some (.int .i64 (x.size : Int)) := fun W hW => ((below_then hv hW).cell (p := ⟨bs, os + p, none⟩) hbs).trans cs
                have hb0 : Below wr.heap.size wr wr.drew := below_drewN (Below.refl _ _) 1
                have qd : (x.down != x.down) = false := by simp
                have qs : ((x.size : Int) != (x.size : Int)) = false := by simp
                have HZ := Lib.hid hz
                have HV := Lib.hid hv
                clear hz hv hgs hx e1 e2 e3 c0 c1 c2 c3 g2 g3 g5 cs hsc
                have hln : (x.loose.map (·.1)).length = x.loose.length := List.length_map _
                have HLN := Lib.hid hln
                clear hln
                go_wp2_with fail
                go_region_held3 (fun W => Below wr.heap.size wr W) (with_reducible assumption) (first
                  | (go_at_call 25; refine (hDown _ hb0).mono ?_; rintro e _ ⟨rfl, rfl⟩)
                  | (go_at_call 16; refine (hLoose _ hb0).mono ?_; rintro e wa ⟨va, rfl, hoa, hba⟩; rw [HLN.out] at hoa; obtain ⟨aa, ca, rfl, _⟩ := own_slice hoa; have hBa : Below wr.heap.size wr wa := below_then hb0 hba; have hPg := hPages wa hBa)
                  | (go_at_call 27; refine hPg.mono ?_; rintro e wb ⟨vb, rfl, hob, hbb⟩; obtain ⟨ab, cb, rfl, _⟩ := own_slice hob; have hBb : Below wr.heap.size wr wb := below_then hBa hbb; have hI := loose_ints hoa hob hbb)
                  | (go_at_call 26; refine hI.mono ?_; rintro e _ ⟨rfl, jj, rfl⟩; have hBc : Below wr.heap.size wr (wb.drewN jj) := below_drewN hBb jj)
                  | (go_at_call 28; refine (hLen _ hBc).mono ?_; rintro e _ ⟨rfl, rfl⟩))
                have HBC := Lib.hid hBc
                clear hDown hLoose hPages hLen cD cL cS hb0 hPg hI hBa hBb hBc hoa hob hba hbb
                go_wp2_with fail
                go_roundw
                case rel => exact ⟨p + 1, hlp, by go_num, HZ.out.below HBC.out, below_then HV.out HBC.out⟩
                case measure => simp [intOf]; omega
              · obtain rfl : n = p := by omega
                have HR := Lib.hid (show RunRel B w da n sizes (k + 1) (.slice a2 n c2) wr from ⟨M2, D, a2, c2, HM2.out, rfl, hz, HF.out, hv⟩)
                clear hz hv hgs
                go_wp2_with fail
                go_roundw
                case rel => exact ⟨k + 1, hlt, by go_num, HR.out⟩
                case measure => simp [intOf]; omega
        · obtain rfl : len = k := by omega
          have HE := Lib.hid hbw
          clear hd hfw hbw hM

          go_wp2_with fail
          refine (dread_nil 0 0 wr).mono ?_
          rintro e' w5 ⟨rfl, rfl⟩
          go_wp2_with fail
          refine (dstop_nil 0 0 wr).mono ?_
          rintro e' w5 ⟨rfl, rfl⟩
          go_wp2_with fail
          refine (dcrash_nil none 0 0 wr).mono ?_
          rintro e' w5 ⟨rfl, hb5⟩
          have HE5 := Lib.hid (below_then HE.out hb5)
          clear hb5
          go_wp2_with fail
          refine (dlen_nil 0 w5).mono ?_
          rintro e' w6 ⟨rfl, rfl⟩
          go_wp2_with fail
          refine (write_nil 0 0 _ w5).mono ?_
          rintro e' w6 ⟨rfl, rfl⟩
          go_wp2_with fail
          refine (dsync_nil 0 w5).mono ?_
          rintro e' w6 ⟨rfl, rfl⟩
          go_wp2_with fail
          refine (dloose_nil 0 w5).mono ?_
          rintro e' w6 ⟨rfl, rfl⟩
          go_wp2_with fail
          refine (ddown_nil 0 w5).mono ?_
          rintro e' w6 ⟨rfl, rfl⟩
          go_wp2_with fail
          go_ret
          exact ⟨rfl, HE5.out⟩
    · have hok : newOk sizes = false := by simpa using hok
      rw [hok] at hp2
      obtain rfl := (show e = .returned (.tuple #[.pointer none, .int .i64 1]) from hp2)
      go_wp2_with fail
      refine R.mono ?_
      rintro e w3 ⟨hb3, hp3⟩
      rw [hok] at hp3
      obtain rfl := (show e = .returned (.tuple #[.slice none 0 0, .int .i64 1]) from hp3)
      have HE := Lib.hid (below_then hw2 hb3)
      have hcap := H.out.2.1
      have hcapm := H.out.2.2.1
      unfold maxLen at hcapm
      clear R hb3 hp2 hp3 hb2 hw2 hok
      go_wp2_with fail
      go_loopw [9, 11] (fun s9 i wr => i = .int .i64 0 ∧ wr = w3) (fun _ _ _ => 1)
      case atStart => exact ⟨rfl, rfl⟩
      case round =>
        obtain ⟨rfl, rfl⟩ := hrel
        by_cases h0 : 0 < len
        · have d0 : decide ((0 : Int) < len) = true := by simp; omega
          go_wp2_with fail
          refine (dread_nil 0 0 wr).mono ?_
          rintro e' w5 ⟨rfl, rfl⟩
          go_wp2_with fail
          refine (dstop_nil 0 0 wr).mono ?_
          rintro e' w5 ⟨rfl, rfl⟩
          go_wp2_with fail
          refine (dcrash_nil none 0 0 wr).mono ?_
          rintro e' w5 ⟨rfl, hb5⟩
          have HE5 := Lib.hid (below_then HE.out hb5)
          clear hb5
          go_wp2_with fail
          refine (dlen_nil 0 w5).mono ?_
          rintro e' w6 ⟨rfl, rfl⟩
          go_wp2_with fail
          refine (write_nil 0 0 _ w5).mono ?_
          rintro e' w6 ⟨rfl, rfl⟩
          go_wp2_with fail
          refine (dsync_nil 0 w5).mono ?_
          rintro e' w6 ⟨rfl, rfl⟩
          go_wp2_with fail
          refine (dloose_nil 0 w5).mono ?_
          rintro e' w6 ⟨rfl, rfl⟩
          go_wp2_with fail
          refine (ddown_nil 0 w5).mono ?_
          rintro e' w6 ⟨rfl, rfl⟩
          go_wp2_with fail
          go_ret
          exact ⟨rfl, HE5.out⟩

        · have d0 : decide ((0 : Int) < len) = false := by simp; omega
          go_wp2_with fail
          refine (dread_nil 0 0 wr).mono ?_
          rintro e' w5 ⟨rfl, rfl⟩
          go_wp2_with fail
          refine (dstop_nil 0 0 wr).mono ?_
          rintro e' w5 ⟨rfl, rfl⟩
          go_wp2_with fail
          refine (dcrash_nil none 0 0 wr).mono ?_
          rintro e' w5 ⟨rfl, hb5⟩
          have HE5 := Lib.hid (below_then HE.out hb5)
          clear hb5
          go_wp2_with fail
          refine (dlen_nil 0 w5).mono ?_
          rintro e' w6 ⟨rfl, rfl⟩
          go_wp2_with fail
          refine (write_nil 0 0 _ w5).mono ?_
          rintro e' w6 ⟨rfl, rfl⟩
          go_wp2_with fail
          refine (dsync_nil 0 w5).mono ?_
          rintro e' w6 ⟨rfl, rfl⟩
          go_wp2_with fail
          refine (dloose_nil 0 w5).mono ?_
          rintro e' w6 ⟨rfl, rfl⟩
          go_wp2_with fail
          refine (ddown_nil 0 w5).mono ?_
          rintro e' w6 ⟨rfl, rfl⟩
          go_wp2_with fail
          go_ret
          exact ⟨rfl, HE5.out⟩
end Go.Proofs.Ytopnfpobbemfbaa
