/- The laws of the chapter on metas: of two versions on end the newer one is the newest; if its page is spoiled, the older one is; if both are, none. -/
import Derived.Test.YtjdepdgoaopfoaaDoorMetF
import Derived.Test.YtjdepdgoaopfoaaDoorBox
namespace Go.Proofs.YtjdepdgoaopfoaaDoor
open Go.RowKit

/-- A row of 128 bytes of the call's own, of which a byte is turned. -/
theorem turn_own {W : World} {base g c : Nat} {p : List UInt8} (h : W.ownsRow base 5 1 (.slice (some ⟨g, 0, none⟩) 128 c) 128 ((toI p).map (Value.int .u8))) (hp : p.length = 128) (k : Nat) (hk : k < 128) :
    ∃ x : Nat, x < 256 ∧ W.cell? ⟨g, k, none⟩ = some (.int .u8 (x : Int)) ∧ W.frozen? ⟨g, k, none⟩ = false ∧ bits .xor .u8 (x : Int) 8 = ((x ^^^ 8 : Nat) : Int) ∧
    (W.setCell ⟨g, k, none⟩ (.int .u8 ((x ^^^ 8 : Nat) : Int))).ownsRow base 5 1 (.slice (some ⟨g, 0, none⟩) 128 c) 128 ((toI (spoil p k)).map (Value.int .u8)) := by
  have hcell := h.cellAt k (by omega)
  have hfr := h.frozenAt k
  have hst := (h.stored k (.int .u8 (((p[k]?.getD 0).toNat ^^^ 8 : Nat) : Int))).1
  have hlist : ((toI p).map (Value.int .u8)).set k (.int .u8 (((p[k]?.getD 0).toNat ^^^ 8 : Nat) : Int)) = (toI (spoil p k)).map (Value.int .u8) := by
    simp only [toI, spoil, List.map_set, xor8_val]
  rw [hlist] at hst
  have hpg : p[k]? = some (p[k]?.getD 0) := by rw [List.getElem?_eq_getElem (by omega)]; rfl
  have hcell2 : ((toI p).map (Value.int .u8))[k]? = some (.int .u8 ((p[k]?.getD 0).toNat : Int)) := by
    rw [List.getElem?_map, toI, List.getElem?_map, hpg]; rfl
  rw [hcell2] at hcell
  exact ⟨_, (p[k]?.getD 0).toNat_lt, hcell, hfr, u8_xor_nat _ 8 (p[k]?.getD 0).toNat_lt (by decide), hst⟩

theorem make_two (w : World) : (Instr.makeSlice 46 (.int .i64 2) (.int .i64 2)).run Tryd.prog w = .ok (.slice (some ⟨w.heap.size, 0, none⟩) 2 2) (w.alloc (.cells #[.slice none 0 0, .slice none 0 0] 26)) := by kernel_rfl
theorem mneq (a b c d e : Int) (w : World) :
    (binOp .neq 24 (.agg #[.int .i64 a, .int .u64 b, .int .i64 c, .int .i64 d, .int .i64 e]) (.agg #[.int .i64 a, .int .u64 b, .int .i64 c, .int .i64 d, .int .i64 e])).run Tryd.prog w = .ok (.bool false) w := by
  simp [go_sem]

set_option maxRecDepth 100000 in
set_option maxHeartbeats 8000000 in
theorem lFalls_even (m : Mt) (at_ : Nat) (w : World) (hat : at_ < 256) (ho : metaOk m = true) (ht : m.txn ≤ 4611686018427387904) (he : m.txn % 2 = 0) (hh : Half w) :
    Calls Tryd.prog 5 #[mv m, .int .u8 (at_ : Int)] w fun e w' => e = .returned (.bool true) ∧ Below w.heap.size w w' := by
  obtain ⟨k, hk, hk2⟩ : ∃ k, k = at_ % 128 ∧ k < 128 := ⟨_, rfl, by omega⟩
  have hrem : (at_ : Int) % 128 = (k : Int) := by omega
  have hB := below_box w (.cells (mcells m) 24)
  have BX := (Boxes.nil w).alloc (mcells m) 24 rfl
  have haw := mawake_any _ (hh.below (Nat.le_refl _) hB)
  have K1 : ∀ W, Calls Tryd.prog 17 #[mv m] W fun e w' => e = .returned (.bool true) ∧ Below W.heap.size W w' := fun W => by have := mcheck_any m W; rwa [ho] at this
  have hw : m.txn < 18446744073709551616 := by omega
  have S1 : ∀ W, Calls Tryd.prog 19 #[.int .u64 (m.txn : Int)] W fun e w' => e = .returned (.int .i64 0) ∧ W = w' := fun W => by have := slot_any m.txn W hw; rwa [he] at this
  have S2 : ∀ W, Calls Tryd.prog 19 #[.int .u64 ((m.txn : Int) + 1)] W fun e w' => e = .returned (.int .i64 1) ∧ W = w' := fun W => by have := slot_any (m.txn + 1) W (by omega); rwa [show (m.txn + 1) % 2 = 1 by omega] at this
  have P1 : ∀ W, Below w.heap.size w W → Calls Tryd.prog 14 #[mv m] W (PackAny W (putV m) 0) := fun W hW => by have := mput_any m W (hh.below (Nat.le_refl _) hW) hw; rwa [(putV_ok ho).2] at this
  have P2 : ∀ W, Below w.heap.size w W → Calls Tryd.prog 14 #[mv (nextM m)] W (PackAny W (putV (nextM m)) 0) := fun W hW => by have := mput_any (nextM m) W (hh.below (Nat.le_refl _) hW) (show m.txn + 1 < 18446744073709551616 by omega); rwa [(putV_ok (nextM_ok ho)).2] at this
  have N1 : ∀ a1 c1 a2 c2 p q W, p.length = 128 → q.length = 128 → Bs W a1 128 c1 p → Bs W a2 128 c2 q → Below w.heap.size w W → Calls Tryd.prog 23 #[.slice a1 128 c1, .slice a2 128 c2, .int .i64 m.label] W (NewPost W (newM p q m.label) (newB p q m.label)) := fun a1 c1 a2 c2 p q W _ _ h1 h2 hW => newest_any a1 a2 128 128 c1 c2 p q m.label W h1 h2 (hh.below (Nat.le_refl _) hW)
  have l1 : (putV m).length = 128 := by rw [(putV_ok ho).1]; exact page_len5 m
  have l2 : (putV (nextM m)).length = 128 := by rw [(putV_ok (nextM_ok ho)).1]; exact page_len5 _
  have FT := falls_even m ho (by omega) k hk2 he
  rw [show mv (nextM m) = .agg #[.int .i64 m.label, .int .u64 ((m.txn : Int) + 1), .int .i64 0, .int .i64 m.list, .int .i64 m.high] from by simp [mv, mcells, nextM]] at P2
  generalize putV m = p1 at *
  generalize hpn : putV (nextM m) = p2 at *
  have l3 := (spoil_length p1 k).trans l1
  have l4 := (spoil_length p2 k).trans l2
  obtain ⟨f1, f2, f3, f4, f5⟩ := FT
  have FX := Lib.hid f1
  have n1 := N1
  unfold mv mcells at *
  have ht8 : ((m.txn : Nat) : Int) ≤ 4611686018427387904 := by omega
  have L1 := Lib.hid l1
  have L2 := Lib.hid l2
  have F2 := Lib.hid f2
  have F3 := Lib.hid f3
  have F4 := Lib.hid f4
  have F5 := Lib.hid f5
  have hmk := make_two
  have MN := Lib.hid mneq
  clear hw
  clear l1 l2 l3 l4 f1 f2 f3 f4 f5 N1 ho he hk hpn
  go_enter Tryd.func5, Tryd.ntmps5
  go_wp2_with fail
  refine haw.mono ?_
  rintro e w1 ⟨rfl, hb1⟩
  have BX := BX.step hb1
  have hb := below_then hB hb1
  clear hb1 hB
  have g0 := BX.cell 0 0 rfl rfl
  have g1 := BX.cell 0 1 rfl rfl
  have g2 := BX.cell 0 2 rfl rfl
  have g3 := BX.cell 0 3 rfl rfl
  have g4 := BX.cell 0 4 rfl rfl
  go_wp2_with fail
  clear g0 g1 g2 g3 g4
  refine (K1 _).mono ?_
  rintro e w2 ⟨rfl, hb2⟩
  have BX := BX.step hb2
  have hb := below_then hb hb2
  have hz1 := BX.lt 0 rfl
  have g0 := BX.cell 0 0 rfl rfl
  have g1 := BX.cell 0 1 rfl rfl
  have g2 := BX.cell 0 2 rfl rfl
  have g3 := BX.cell 0 3 rfl rfl
  have g4 := BX.cell 0 4 rfl rfl
  clear hb2
  go_wp2_with fail
  clear g0 g1 g2 g3 g4
  have BX := (BX.alloc #[.int .i64 m.label, .int .u64 ((m.txn : Int) + 1), .int .i64 0, .int .i64 m.list, .int .i64 m.high] 24 rfl).alloc #[.slice none 0 0, .slice none 0 0] 26 (by simp : _ = w2.heap.size + 1)
  have hb := (hb.alloc hb.size (.cells #[.int .i64 m.label, .int .u64 ((m.txn : Int) + 1), .int .i64 0, .int .i64 m.list, .int .i64 m.high] 24)).alloc (by have := hb.size; simp; omega) (.cells #[.slice none 0 0, .slice none 0 0] 26)
  generalize w2.heap.size = bn at *
  generalize (w2.alloc _).alloc _ = W2 at *
  have hz2 := BX.lt 0 rfl
  refine (P1 _ hb).mono ?_
  rintro e w3 ⟨v3, rfl, hown3, hb3⟩
  have BX := BX.step hb3
  have hb := below_then hb hb3
  rw [L1.out] at hown3
  obtain ⟨ap, cp, rfl, hcp1, hcp2, hap⟩ := own_slice hown3
  obtain ⟨gA, rfl⟩ := hap (by decide)
  have hgA := own_ge hown3 gA rfl
  have hgA2 := own_lt hown3 gA rfl
  clear hap hb3
  have g0 := BX.cell 1 0 rfl rfl
  have g1 := BX.cell 1 1 rfl rfl
  have g2 := BX.cell 1 2 rfl rfl
  have g3 := BX.cell 1 3 rfl rfl
  have g4 := BX.cell 1 4 rfl rfl
  go_wp2_with fail
  clear g0 g1 g2 g3 g4
  refine (P2 _ hb).mono ?_
  rintro e w4 ⟨v4, rfl, hown4, hb4⟩
  have BX := BX.step hb4
  have hb := below_then hb hb4
  have hown3 := own_below hown3 (Nat.le_refl _) hb4
  rw [L2.out] at hown4
  obtain ⟨ap4, cp4, rfl, hcp3, hcp4, hap4⟩ := own_slice hown4
  obtain ⟨gB, rfl⟩ := hap4 (by decide)
  have hgB := own_ge hown4 gB rfl
  clear hap4 hb4
  have f0 := BX.cell 0 0 rfl rfl
  have f1 := BX.frozen 0 0 rfl
  have f2 := BX.cell 0 1 rfl rfl
  have f3 := BX.frozen 0 1 rfl
  have g1 := BX.cell 2 1 rfl rfl
  have g2 := BX.cell 1 1 rfl rfl
  go_wp2_with fail
  refine (S1 _).mono ?_
  rintro e w5 ⟨rfl, rfl⟩
  go_wp2_with fail
  refine (S2 _).mono ?_
  rintro e w5 ⟨rfl, rfl⟩
  go_wp2_with fail
  clear f0 f1 f2 f3 g1 g2
  have BX := (BX.put 0 (.slice (some ⟨gA, 0, none⟩) 128 cp) (by intro p hp; simp at hp; rcases hp with rfl | rfl <;> simp; omega)).put 1 (.slice (some ⟨gB, 0, none⟩) 128 cp4) (by intro p hp; simp at hp; rcases hp with rfl | rfl <;> simp; omega)
  have hb := (hb.setCell (p := ⟨bn + 1, 0, none⟩) (by simp; omega) (.slice (some ⟨gA, 0, none⟩) 128 cp)).setCell (p := ⟨bn + 1, 1, none⟩) (by simp; omega) (.slice (some ⟨gB, 0, none⟩) 128 cp4)
  have hown3 := own_set (own_set hown3 ⟨bn + 1, 0, none⟩ (.slice (some ⟨gA, 0, none⟩) 128 cp) (by simp [Value.ownBlock]; omega)) ⟨bn + 1, 1, none⟩ (.slice (some ⟨gB, 0, none⟩) 128 cp4) (by simp [Value.ownBlock]; omega)
  have hown4 := own_set (own_set hown4 ⟨bn + 1, 0, none⟩ (.slice (some ⟨gA, 0, none⟩) 128 cp) (by simp [Value.ownBlock]; omega)) ⟨bn + 1, 1, none⟩ (.slice (some ⟨gB, 0, none⟩) 128 cp4) (by simp [Value.ownBlock]; omega)
  generalize (w4.setCell ⟨bn + 1, 0, none⟩ _).setCell ⟨bn + 1, 1, none⟩ _ = w5 at *
  have N5 : ∀ W, Below w5.heap.size w5 W → Calls Tryd.prog 23 #[.slice (some ⟨gA, 0, none⟩) 128 cp, .slice (some ⟨gB, 0, none⟩) 128 cp4, .int .i64 m.label] W (fun e w' => e = .returned (.tuple #[.agg #[.int .i64 m.label, .int .u64 ((m.txn : Int) + 1), .int .i64 0, .int .i64 m.list, .int .i64 m.high], .bool true]) ∧ Below W.heap.size W w') := fun W hW => by
    have := n1 _ _ _ _ _ _ W L1.out L2.out ((Bs.own hown3).below (Nat.le_refl _) hW) ((Bs.own hown4).below (Nat.le_refl _) hW) (below_then hb hW)
    rw [FX.out, F2.out] at this
    simp only [NewPost, mv, mcells, nextM, Int.natCast_add, Int.cast_ofNat_Int] at this
    exact this
  have c0 : ∀ W, Below w5.heap.size w5 W → W.cell? ⟨bn + 1, 0, none⟩ = some (.slice (some ⟨gA, 0, none⟩) 128 cp) := fun W hW => (BX.step hW).cell 0 0 rfl rfl
  have c1 : ∀ W, Below w5.heap.size w5 W → W.cell? ⟨bn + 1, 1, none⟩ = some (.slice (some ⟨gB, 0, none⟩) 128 cp4) := fun W hW => (BX.step hW).cell 0 1 rfl rfl
  have c2 : ∀ W, Below w5.heap.size w5 W → W.cell? ⟨w.heap.size, 0, none⟩ = some (.int .i64 m.label) := fun W hW => (BX.step hW).cell 2 0 rfl rfl
  have hC : Below w5.heap.size w5 w5.drew := (Below.refl _ _).drew
  have hCA : ∀ o, Below w5.heap.size w5 (w5.alloc o).drew := fun o => ((Below.refl _ _).alloc (Nat.le_refl _) o).drew
  go_wp2_with fail
  go_region_held3 (fun W => Below w5.heap.size w5 W) (first | assumption | (with_reducible exact hC6.alloc hC6.size _) | (with_reducible exact hCA _) | (with_reducible exact ((((hC6.setCell (Nat.le_refl _) _).setCell (Nat.le_refl _) _).setCell (Nat.le_refl _) _).setCell (Nat.le_refl _) _).setCell (Nat.le_refl _) _)) (first | (go_at_call 23; (with_reducible refine (N5 _ (by first | (with_reducible exact hC) | (with_reducible exact hCA _))).mono ?_); rintro e w6 ⟨rfl, hb6⟩; have hC6 : Below w5.heap.size w5 w6 := (by first | (with_reducible exact hC.trans (hb6.mono hC.size)) | exact (hCA _).trans (hb6.mono (by simp)))); (first | (have Z := Boxes.step (Boxes.drew ((Boxes.nil w5).alloc #[.int .i64 0, .int .u64 0, .int .i64 0, .int .i64 0, .int .i64 0] 24 (rfl : _ = w5.heap.size))) hb6; have z0 := Z.cell 0 0 rfl rfl; have z1 := Z.cell 0 1 rfl rfl; have z2 := Z.cell 0 2 rfl rfl; have z3 := Z.cell 0 3 rfl rfl; have z4 := Z.cell 0 4 rfl rfl; have y0 := Z.frozen 0 0 rfl; have y1 := Z.frozen 0 1 rfl; have y2 := Z.frozen 0 2 rfl; have y3 := Z.frozen 0 3 rfl; have y4 := Z.frozen 0 4 rfl) | (have Z := (Boxes.nil w6).alloc #[.int .i64 0, .int .u64 0, .int .i64 0, .int .i64 0, .int .i64 0] 24 rfl; have z0 := Z.cell 0 0 rfl rfl; have z1 := Z.cell 0 1 rfl rfl; have z2 := Z.cell 0 2 rfl rfl; have z3 := Z.cell 0 3 rfl rfl; have z4 := Z.cell 0 4 rfl rfl; have y0 := Z.frozen 0 0 rfl; have y1 := Z.frozen 0 1 rfl; have y2 := Z.frozen 0 2 rfl; have y3 := Z.frozen 0 3 rfl; have y4 := Z.frozen 0 4 rfl)))
  all_goals
    have q1 := BX.lt 0 rfl
    have q2 := BX.lt 2 rfl
    have q3 := own_lt hown3 gA rfl
    have q4 := own_lt hown4 gB rfl
    first
      | (have hX : Below w5.heap.size w5 (w6.alloc (.cells #[.int .i64 m.label, .int .u64 ((m.txn : Int) + 1), .int .i64 0, .int .i64 m.list, .int .i64 m.high] 24)) := (by with_reducible assumption)
         have hown3 := own_below hown3 (Nat.le_refl _) hX
         have hown4 := own_below hown4 (Nat.le_refl _) hX
         have hb := below_then hb hX
         have BY := (BX.step hC6).alloc #[.int .i64 m.label, .int .u64 ((m.txn : Int) + 1), .int .i64 0, .int .i64 m.list, .int .i64 m.high] 24 rfl
         have hbx : w5.heap.size ≤ w6.heap.size := hC6.size
         clear Z z0 z1 z2 z3 z4 y0 y1 y2 y3 y4 c0 c1 c2 N5 hX hb6 hC hCA hC6 BX
         generalize w6.heap.size = bx at *
         generalize w6.alloc _ = w7 at *)
      | (have hX := ((((hC6.setCell (p := ⟨w5.heap.size, 0, none⟩) (Nat.le_refl _) (.int .i64 m.label)).setCell (p := ⟨w5.heap.size, 1, none⟩) (Nat.le_refl _) (.int .u64 ((m.txn : Int) + 1))).setCell (p := ⟨w5.heap.size, 2, none⟩) (Nat.le_refl _) (.int .i64 0)).setCell (p := ⟨w5.heap.size, 3, none⟩) (Nat.le_refl _) (.int .i64 m.list)).setCell (p := ⟨w5.heap.size, 4, none⟩) (Nat.le_refl _) (.int .i64 m.high)
         have hown3 := own_below hown3 (Nat.le_refl _) hX
         have hown4 := own_below hown4 (Nat.le_refl _) hX
         have hb := below_then hb hX
         have BY := ((((((BX.alloc #[.int .i64 0, .int .u64 0, .int .i64 0, .int .i64 0, .int .i64 0] 24 rfl).drew.step hb6).put 0 (.int .i64 m.label) (by intro p hp; simp at hp; rcases hp with rfl | rfl | rfl <;> simp <;> omega)).put 1 (.int .u64 ((m.txn : Int) + 1)) (by intro p hp; simp at hp; rcases hp with rfl | rfl | rfl <;> simp <;> omega)).put 2 (.int .i64 0) (by intro p hp; simp at hp; rcases hp with rfl | rfl | rfl <;> simp <;> omega)).put 3 (.int .i64 m.list) (by intro p hp; simp at hp; rcases hp with rfl | rfl | rfl <;> simp <;> omega)).put 4 (.int .i64 m.high) (by intro p hp; simp at hp; rcases hp with rfl | rfl | rfl <;> simp <;> omega)
         have hbx : w5.heap.size ≤ w5.heap.size := Nat.le_refl _
         clear Z z0 z1 z2 z3 z4 y0 y1 y2 y3 y4 c0 c1 c2 N5 hX hb6 hC hCA hC6 BX
         generalize w5.heap.size = bx at *
         generalize World.setCell _ _ _ = w7 at *)
    have MN1 := MN.out
    have g0 := BY.cell 0 0 rfl rfl
    have g1 := BY.cell 0 1 rfl rfl
    have g2 := BY.cell 0 2 rfl rfl
    have g3 := BY.cell 0 3 rfl rfl
    have g4 := BY.cell 0 4 rfl rfl
    have f0 := BY.cell 2 0 rfl rfl
    have f1 := BY.cell 2 1 rfl rfl
    have f2 := BY.cell 2 2 rfl rfl
    have f3 := BY.cell 2 3 rfl rfl
    have f4 := BY.cell 2 4 rfl rfl
    obtain ⟨x, hx0, hx1, hx2, hx3, hx4⟩ := turn_own hown4 L2.out k hk2
    have HX4 := Lib.hid hx4
    clear hx4
    go_wp2_with fail
    clear g0 g1 g2 g3 g4 f0 f1 f2 f3 f4 MN1 hx1 hx2 hx3
    have BY := BY.set ⟨gB, k, none⟩ (.int .u8 ((x ^^^ 8 : Nat) : Int)) (by intro p hp; simp at hp; rcases hp with rfl | rfl | rfl | rfl <;> simp <;> omega)
    have hown3 := own_set hown3 ⟨gB, k, none⟩ (.int .u8 ((x ^^^ 8 : Nat) : Int)) (by simp [Value.ownBlock]; omega)
    have hown4 := HX4.out
    have hb := hb.setCell (p := ⟨gB, k, none⟩) (by simp; omega) (.int .u8 ((x ^^^ 8 : Nat) : Int))
    clear HX4
    generalize w7.setCell _ _ = w8 at *
    have N8 : ∀ W, Below w8.heap.size w8 W → Calls Tryd.prog 23 #[.slice (some ⟨gA, 0, none⟩) 128 cp, .slice (some ⟨gB, 0, none⟩) 128 cp4, .int .i64 m.label] W (fun e w' => e = .returned (.tuple #[.agg #[.int .i64 m.label, .int .u64 (m.txn : Int), .int .i64 m.root, .int .i64 m.list, .int .i64 m.high], .bool true]) ∧ Below W.heap.size W w') := fun W hW => by
      have := n1 _ _ _ _ _ _ W (by first | exact L1.out | exact (spoil_length _ _).trans L2.out) (by first | exact L1.out | exact (spoil_length _ _).trans L2.out) ((Bs.own hown3).below (Nat.le_refl _) hW) ((Bs.own hown4).below (Nat.le_refl _) hW) (below_then hb hW)
      rw [F3.out, F4.out] at this
      exact this
    have c0 := BY.cell 1 0 rfl rfl
    have c1 := BY.cell 1 1 rfl rfl
    have c2 := BY.cell 3 0 rfl rfl
    have hC : Below w8.heap.size w8 w8.drew := (Below.refl _ _).drew
    have e0 := (BY.step hC).cell 1 0 rfl rfl
    have e1 := (BY.step hC).cell 1 1 rfl rfl
    have e2 := (BY.step hC).cell 3 0 rfl rfl
    go_wp2_with fail
    go_region_held3 (fun W => W.cell? ⟨bn + 1, 0, none⟩ = some (.slice (some ⟨gA, 0, none⟩) 128 cp) ∧ W.cell? ⟨bn + 1, 1, none⟩ = some (.slice (some ⟨gB, 0, none⟩) 128 cp4) ∧ W.cell? ⟨w.heap.size, 0, none⟩ = some (.int .i64 m.label)) (first | (with_reducible exact ⟨c0, c1, c2⟩) | (with_reducible exact ⟨e0, e1, e2⟩) | (with_reducible exact ⟨d0, d1, d2⟩) | (with_reducible exact ⟨x0, x1, x2⟩)) (first | (go_at_call 23; (with_reducible refine (N8 _ hC).mono ?_); rintro e w9 ⟨rfl, hb9⟩; have hC9 := hC.trans (hb9.mono hC.size); have B9 := BY.step hC9; have d0 := B9.cell 1 0 rfl rfl; have d1 := B9.cell 1 1 rfl rfl; have d2 := B9.cell 3 0 rfl rfl; have z0 := B9.cell 0 0 rfl rfl; have z1 := B9.cell 0 1 rfl rfl; have z2 := B9.cell 0 2 rfl rfl; have z3 := B9.cell 0 3 rfl rfl; have z4 := B9.cell 0 4 rfl rfl; have y0 := B9.frozen 0 0 rfl; have y1 := B9.frozen 0 1 rfl; have y2 := B9.frozen 0 2 rfl; have y3 := B9.frozen 0 3 rfl; have y4 := B9.frozen 0 4 rfl; have BZ := ((((B9.put 0 (.int .i64 m.label) (by intro p hp; simp at hp; rcases hp with rfl | rfl | rfl <;> simp <;> omega)).put 1 (.int .u64 (m.txn : Int)) (by intro p hp; simp at hp; rcases hp with rfl | rfl | rfl <;> simp <;> omega)).put 2 (.int .i64 m.root) (by intro p hp; simp at hp; rcases hp with rfl | rfl | rfl <;> simp <;> omega)).put 3 (.int .i64 m.list) (by intro p hp; simp at hp; rcases hp with rfl | rfl | rfl <;> simp <;> omega)).put 4 (.int .i64 m.high) (by intro p hp; simp at hp; rcases hp with rfl | rfl | rfl <;> simp <;> omega); have x0 := BZ.cell 1 0 rfl rfl; have x1 := BZ.cell 1 1 rfl rfl; have x2 := BZ.cell 3 0 rfl rfl))
    have hgx : w9.grownBy (((((w9.setCell ⟨bx, 0, none⟩ (.int .i64 m.label)).setCell ⟨bx, 1, none⟩ (.int .u64 (m.txn : Int))).setCell ⟨bx, 2, none⟩ (.int .i64 m.root)).setCell ⟨bx, 3, none⟩ (.int .i64 m.list)).setCell ⟨bx, 4, none⟩ (.int .i64 m.high)) (some bx) :=
      grown_trans (grown_trans (grown_trans (grown_trans (grown_setCell w9 ⟨bx, 0, none⟩ _) (grown_setCell _ ⟨bx, 1, none⟩ _)) (grown_setCell _ ⟨bx, 2, none⟩ _)) (grown_setCell _ ⟨bx, 3, none⟩ _)) (grown_setCell _ ⟨bx, 4, none⟩ _)
    have hb9 := below_then hb hC9
    have hb10 := hb9.trans (below_grown hgx hb9.size (by omega))
    have hown3 := (own_below hown3 (Nat.le_refl _) hC9).kept hgx (.inr (by simp [Value.ownBlock]; omega))
    have hown4 := (own_below hown4 (Nat.le_refl _) hC9).kept hgx (.inr (by simp [Value.ownBlock]; omega))
    clear hgx hb9 hb hC9 hC d0 d1 d2 z0 z1 z2 z3 z4 y0 y1 y2 y3 y4 c0 c1 c2 e0 e1 e2 x0 x1 x2 N8 B9 BY
    generalize (((((w9.setCell ⟨bx, 0, none⟩ (.int .i64 m.label)).setCell ⟨bx, 1, none⟩ (.int .u64 (m.txn : Int))).setCell ⟨bx, 2, none⟩ (.int .i64 m.root)).setCell ⟨bx, 3, none⟩ (.int .i64 m.list)).setCell ⟨bx, 4, none⟩ (.int .i64 m.high)) = w10 at *
    have MN1 := MN.out
    have g0 := BZ.cell 0 0 rfl rfl
    have g1 := BZ.cell 0 1 rfl rfl
    have g2 := BZ.cell 0 2 rfl rfl
    have g3 := BZ.cell 0 3 rfl rfl
    have g4 := BZ.cell 0 4 rfl rfl
    have f0 := BZ.cell 3 0 rfl rfl
    have f1 := BZ.cell 3 1 rfl rfl
    have f2 := BZ.cell 3 2 rfl rfl
    have f3 := BZ.cell 3 3 rfl rfl
    have f4 := BZ.cell 3 4 rfl rfl
    obtain ⟨y, hy0, hy1, hy2, hy3, hy4⟩ := turn_own hown3 L1.out k hk2
    have HY4 := Lib.hid hy4
    clear hy4
    go_wp2_with fail
    clear g0 g1 g2 g3 g4 f0 f1 f2 f3 f4 MN1 hy1 hy2 hy3
    have BZ := BZ.set ⟨gA, k, none⟩ (.int .u8 ((y ^^^ 8 : Nat) : Int)) (by intro p hp; simp at hp; rcases hp with rfl | rfl | rfl | rfl <;> simp <;> omega)
    have hown4 := own_set hown4 ⟨gA, k, none⟩ (.int .u8 ((y ^^^ 8 : Nat) : Int)) (by simp [Value.ownBlock]; omega)
    have hown3 := HY4.out
    have hb := hb10.setCell (p := ⟨gA, k, none⟩) (by simp; omega) (.int .u8 ((y ^^^ 8 : Nat) : Int))
    clear HY4
    generalize w10.setCell _ _ = w11 at *
    have N11 : ∀ W, Below w11.heap.size w11 W → Calls Tryd.prog 23 #[.slice (some ⟨gA, 0, none⟩) 128 cp, .slice (some ⟨gB, 0, none⟩) 128 cp4, .int .i64 m.label] W (fun e w' => ∃ x, e = .returned (.tuple #[mv x, .bool false]) ∧ Below W.heap.size W w') := fun W hW => by
      have := n1 _ _ _ _ _ _ W (by first | exact (spoil_length _ _).trans L1.out | exact (spoil_length _ _).trans L2.out) (by first | exact (spoil_length _ _).trans L1.out | exact (spoil_length _ _).trans L2.out) ((Bs.own hown3).below (Nat.le_refl _) hW) ((Bs.own hown4).below (Nat.le_refl _) hW) (below_then hb hW)
      rw [F5.out] at this
      exact this.mono fun e w' h => ⟨_, h⟩
    have c0 : ∀ W, Below w11.heap.size w11 W → W.cell? ⟨bn + 1, 0, none⟩ = some (.slice (some ⟨gA, 0, none⟩) 128 cp) := fun W hW => (BZ.step hW).cell 1 0 rfl rfl
    have c1 : ∀ W, Below w11.heap.size w11 W → W.cell? ⟨bn + 1, 1, none⟩ = some (.slice (some ⟨gB, 0, none⟩) 128 cp4) := fun W hW => (BZ.step hW).cell 1 1 rfl rfl
    have c2 : ∀ W, Below w11.heap.size w11 W → W.cell? ⟨w.heap.size, 0, none⟩ = some (.int .i64 m.label) := fun W hW => (BZ.step hW).cell 3 0 rfl rfl
    have hC : Below w11.heap.size w11 w11.drew := (Below.refl _ _).drew
    go_wp2_with fail
    go_region_held3 (fun W => Below w11.heap.size w11 W) (first | with_reducible assumption) (first | (go_at_call 23; (with_reducible refine (N11 _ hC).mono ?_); rintro e w12 ⟨z, rfl, hb12⟩; have hC12 := hC.trans (hb12.mono hC.size)))
    have hbe := below_then hb hC12
    go_wp2_with fail
    go_ret
    exact ⟨rfl, hbe⟩

set_option maxRecDepth 100000 in
set_option maxHeartbeats 8000000 in
theorem lFalls_odd (m : Mt) (at_ : Nat) (w : World) (hat : at_ < 256) (ho : metaOk m = true) (ht : m.txn ≤ 4611686018427387904) (he : m.txn % 2 = 1) (hh : Half w) :
    Calls Tryd.prog 5 #[mv m, .int .u8 (at_ : Int)] w fun e w' => e = .returned (.bool true) ∧ Below w.heap.size w w' := by
  obtain ⟨k, hk, hk2⟩ : ∃ k, k = at_ % 128 ∧ k < 128 := ⟨_, rfl, by omega⟩
  have hrem : (at_ : Int) % 128 = (k : Int) := by omega
  have hB := below_box w (.cells (mcells m) 24)
  have BX := (Boxes.nil w).alloc (mcells m) 24 rfl
  have haw := mawake_any _ (hh.below (Nat.le_refl _) hB)
  have K1 : ∀ W, Calls Tryd.prog 17 #[mv m] W fun e w' => e = .returned (.bool true) ∧ Below W.heap.size W w' := fun W => by have := mcheck_any m W; rwa [ho] at this
  have hw : m.txn < 18446744073709551616 := by omega
  have S1 : ∀ W, Calls Tryd.prog 19 #[.int .u64 (m.txn : Int)] W fun e w' => e = .returned (.int .i64 1) ∧ W = w' := fun W => by have := slot_any m.txn W hw; rwa [he] at this
  have S2 : ∀ W, Calls Tryd.prog 19 #[.int .u64 ((m.txn : Int) + 1)] W fun e w' => e = .returned (.int .i64 0) ∧ W = w' := fun W => by have := slot_any (m.txn + 1) W (by omega); rwa [show (m.txn + 1) % 2 = 0 by omega] at this
  have P1 : ∀ W, Below w.heap.size w W → Calls Tryd.prog 14 #[mv m] W (PackAny W (putV m) 0) := fun W hW => by have := mput_any m W (hh.below (Nat.le_refl _) hW) hw; rwa [(putV_ok ho).2] at this
  have P2 : ∀ W, Below w.heap.size w W → Calls Tryd.prog 14 #[mv (nextM m)] W (PackAny W (putV (nextM m)) 0) := fun W hW => by have := mput_any (nextM m) W (hh.below (Nat.le_refl _) hW) (show m.txn + 1 < 18446744073709551616 by omega); rwa [(putV_ok (nextM_ok ho)).2] at this
  have N1 : ∀ a1 c1 a2 c2 p q W, p.length = 128 → q.length = 128 → Bs W a1 128 c1 p → Bs W a2 128 c2 q → Below w.heap.size w W → Calls Tryd.prog 23 #[.slice a1 128 c1, .slice a2 128 c2, .int .i64 m.label] W (NewPost W (newM p q m.label) (newB p q m.label)) := fun a1 c1 a2 c2 p q W _ _ h1 h2 hW => newest_any a1 a2 128 128 c1 c2 p q m.label W h1 h2 (hh.below (Nat.le_refl _) hW)
  have l1 : (putV m).length = 128 := by rw [(putV_ok ho).1]; exact page_len5 m
  have l2 : (putV (nextM m)).length = 128 := by rw [(putV_ok (nextM_ok ho)).1]; exact page_len5 _
  have FT := falls_odd m ho (by omega) k hk2 he
  rw [show mv (nextM m) = .agg #[.int .i64 m.label, .int .u64 ((m.txn : Int) + 1), .int .i64 0, .int .i64 m.list, .int .i64 m.high] from by simp [mv, mcells, nextM]] at P2
  generalize putV m = p1 at *
  generalize hpn : putV (nextM m) = p2 at *
  have l3 := (spoil_length p1 k).trans l1
  have l4 := (spoil_length p2 k).trans l2
  obtain ⟨f1, f2, f3, f4, f5⟩ := FT
  have FX := Lib.hid f1
  have n1 := N1
  unfold mv mcells at *
  have ht8 : ((m.txn : Nat) : Int) ≤ 4611686018427387904 := by omega
  have L1 := Lib.hid l1
  have L2 := Lib.hid l2
  have F2 := Lib.hid f2
  have F3 := Lib.hid f3
  have F4 := Lib.hid f4
  have F5 := Lib.hid f5
  have hmk := make_two
  have MN := Lib.hid mneq
  clear hw
  clear l1 l2 l3 l4 f1 f2 f3 f4 f5 N1 ho he hk hpn
  go_enter Tryd.func5, Tryd.ntmps5
  go_wp2_with fail
  refine haw.mono ?_
  rintro e w1 ⟨rfl, hb1⟩
  have BX := BX.step hb1
  have hb := below_then hB hb1
  clear hb1 hB
  have g0 := BX.cell 0 0 rfl rfl
  have g1 := BX.cell 0 1 rfl rfl
  have g2 := BX.cell 0 2 rfl rfl
  have g3 := BX.cell 0 3 rfl rfl
  have g4 := BX.cell 0 4 rfl rfl
  go_wp2_with fail
  clear g0 g1 g2 g3 g4
  refine (K1 _).mono ?_
  rintro e w2 ⟨rfl, hb2⟩
  have BX := BX.step hb2
  have hb := below_then hb hb2
  have hz1 := BX.lt 0 rfl
  have g0 := BX.cell 0 0 rfl rfl
  have g1 := BX.cell 0 1 rfl rfl
  have g2 := BX.cell 0 2 rfl rfl
  have g3 := BX.cell 0 3 rfl rfl
  have g4 := BX.cell 0 4 rfl rfl
  clear hb2
  go_wp2_with fail
  clear g0 g1 g2 g3 g4
  have BX := (BX.alloc #[.int .i64 m.label, .int .u64 ((m.txn : Int) + 1), .int .i64 0, .int .i64 m.list, .int .i64 m.high] 24 rfl).alloc #[.slice none 0 0, .slice none 0 0] 26 (by simp : _ = w2.heap.size + 1)
  have hb := (hb.alloc hb.size (.cells #[.int .i64 m.label, .int .u64 ((m.txn : Int) + 1), .int .i64 0, .int .i64 m.list, .int .i64 m.high] 24)).alloc (by have := hb.size; simp; omega) (.cells #[.slice none 0 0, .slice none 0 0] 26)
  generalize w2.heap.size = bn at *
  generalize (w2.alloc _).alloc _ = W2 at *
  have hz2 := BX.lt 0 rfl
  refine (P1 _ hb).mono ?_
  rintro e w3 ⟨v3, rfl, hown3, hb3⟩
  have BX := BX.step hb3
  have hb := below_then hb hb3
  rw [L1.out] at hown3
  obtain ⟨ap, cp, rfl, hcp1, hcp2, hap⟩ := own_slice hown3
  obtain ⟨gA, rfl⟩ := hap (by decide)
  have hgA := own_ge hown3 gA rfl
  have hgA2 := own_lt hown3 gA rfl
  clear hap hb3
  have g0 := BX.cell 1 0 rfl rfl
  have g1 := BX.cell 1 1 rfl rfl
  have g2 := BX.cell 1 2 rfl rfl
  have g3 := BX.cell 1 3 rfl rfl
  have g4 := BX.cell 1 4 rfl rfl
  go_wp2_with fail
  clear g0 g1 g2 g3 g4
  refine (P2 _ hb).mono ?_
  rintro e w4 ⟨v4, rfl, hown4, hb4⟩
  have BX := BX.step hb4
  have hb := below_then hb hb4
  have hown3 := own_below hown3 (Nat.le_refl _) hb4
  rw [L2.out] at hown4
  obtain ⟨ap4, cp4, rfl, hcp3, hcp4, hap4⟩ := own_slice hown4
  obtain ⟨gB, rfl⟩ := hap4 (by decide)
  have hgB := own_ge hown4 gB rfl
  clear hap4 hb4
  have f0 := BX.cell 0 1 rfl rfl
  have f1 := BX.frozen 0 1 rfl
  have f2 := BX.cell 0 0 rfl rfl
  have f3 := BX.frozen 0 0 rfl
  have g1 := BX.cell 2 1 rfl rfl
  have g2 := BX.cell 1 1 rfl rfl
  go_wp2_with fail
  refine (S1 _).mono ?_
  rintro e w5 ⟨rfl, rfl⟩
  go_wp2_with fail
  refine (S2 _).mono ?_
  rintro e w5 ⟨rfl, rfl⟩
  go_wp2_with fail
  clear f0 f1 f2 f3 g1 g2
  have BX := (BX.put 1 (.slice (some ⟨gA, 0, none⟩) 128 cp) (by intro p hp; simp at hp; rcases hp with rfl | rfl <;> simp; omega)).put 0 (.slice (some ⟨gB, 0, none⟩) 128 cp4) (by intro p hp; simp at hp; rcases hp with rfl | rfl <;> simp; omega)
  have hb := (hb.setCell (p := ⟨bn + 1, 1, none⟩) (by simp; omega) (.slice (some ⟨gA, 0, none⟩) 128 cp)).setCell (p := ⟨bn + 1, 0, none⟩) (by simp; omega) (.slice (some ⟨gB, 0, none⟩) 128 cp4)
  have hown3 := own_set (own_set hown3 ⟨bn + 1, 1, none⟩ (.slice (some ⟨gA, 0, none⟩) 128 cp) (by simp [Value.ownBlock]; omega)) ⟨bn + 1, 0, none⟩ (.slice (some ⟨gB, 0, none⟩) 128 cp4) (by simp [Value.ownBlock]; omega)
  have hown4 := own_set (own_set hown4 ⟨bn + 1, 1, none⟩ (.slice (some ⟨gA, 0, none⟩) 128 cp) (by simp [Value.ownBlock]; omega)) ⟨bn + 1, 0, none⟩ (.slice (some ⟨gB, 0, none⟩) 128 cp4) (by simp [Value.ownBlock]; omega)
  generalize (w4.setCell ⟨bn + 1, 1, none⟩ _).setCell ⟨bn + 1, 0, none⟩ _ = w5 at *
  have N5 : ∀ W, Below w5.heap.size w5 W → Calls Tryd.prog 23 #[.slice (some ⟨gB, 0, none⟩) 128 cp4, .slice (some ⟨gA, 0, none⟩) 128 cp, .int .i64 m.label] W (fun e w' => e = .returned (.tuple #[.agg #[.int .i64 m.label, .int .u64 ((m.txn : Int) + 1), .int .i64 0, .int .i64 m.list, .int .i64 m.high], .bool true]) ∧ Below W.heap.size W w') := fun W hW => by
    have := n1 _ _ _ _ _ _ W L2.out L1.out ((Bs.own hown4).below (Nat.le_refl _) hW) ((Bs.own hown3).below (Nat.le_refl _) hW) (below_then hb hW)
    rw [FX.out, F2.out] at this
    simp only [NewPost, mv, mcells, nextM, Int.natCast_add, Int.cast_ofNat_Int] at this
    exact this
  have c0 : ∀ W, Below w5.heap.size w5 W → W.cell? ⟨bn + 1, 0, none⟩ = some (.slice (some ⟨gB, 0, none⟩) 128 cp4) := fun W hW => (BX.step hW).cell 0 0 rfl rfl
  have c1 : ∀ W, Below w5.heap.size w5 W → W.cell? ⟨bn + 1, 1, none⟩ = some (.slice (some ⟨gA, 0, none⟩) 128 cp) := fun W hW => (BX.step hW).cell 0 1 rfl rfl
  have c2 : ∀ W, Below w5.heap.size w5 W → W.cell? ⟨w.heap.size, 0, none⟩ = some (.int .i64 m.label) := fun W hW => (BX.step hW).cell 2 0 rfl rfl
  have hC : Below w5.heap.size w5 w5.drew := (Below.refl _ _).drew
  have hCA : ∀ o, Below w5.heap.size w5 (w5.alloc o).drew := fun o => ((Below.refl _ _).alloc (Nat.le_refl _) o).drew
  go_wp2_with fail
  go_region_held3 (fun W => Below w5.heap.size w5 W) (first | assumption | (with_reducible exact hC6.alloc hC6.size _) | (with_reducible exact hCA _) | (with_reducible exact ((((hC6.setCell (Nat.le_refl _) _).setCell (Nat.le_refl _) _).setCell (Nat.le_refl _) _).setCell (Nat.le_refl _) _).setCell (Nat.le_refl _) _)) (first | (go_at_call 23; (with_reducible refine (N5 _ (by first | (with_reducible exact hC) | (with_reducible exact hCA _))).mono ?_); rintro e w6 ⟨rfl, hb6⟩; have hC6 : Below w5.heap.size w5 w6 := (by first | (with_reducible exact hC.trans (hb6.mono hC.size)) | exact (hCA _).trans (hb6.mono (by simp)))); (first | (have Z := Boxes.step (Boxes.drew ((Boxes.nil w5).alloc #[.int .i64 0, .int .u64 0, .int .i64 0, .int .i64 0, .int .i64 0] 24 (rfl : _ = w5.heap.size))) hb6; have z0 := Z.cell 0 0 rfl rfl; have z1 := Z.cell 0 1 rfl rfl; have z2 := Z.cell 0 2 rfl rfl; have z3 := Z.cell 0 3 rfl rfl; have z4 := Z.cell 0 4 rfl rfl; have y0 := Z.frozen 0 0 rfl; have y1 := Z.frozen 0 1 rfl; have y2 := Z.frozen 0 2 rfl; have y3 := Z.frozen 0 3 rfl; have y4 := Z.frozen 0 4 rfl) | (have Z := (Boxes.nil w6).alloc #[.int .i64 0, .int .u64 0, .int .i64 0, .int .i64 0, .int .i64 0] 24 rfl; have z0 := Z.cell 0 0 rfl rfl; have z1 := Z.cell 0 1 rfl rfl; have z2 := Z.cell 0 2 rfl rfl; have z3 := Z.cell 0 3 rfl rfl; have z4 := Z.cell 0 4 rfl rfl; have y0 := Z.frozen 0 0 rfl; have y1 := Z.frozen 0 1 rfl; have y2 := Z.frozen 0 2 rfl; have y3 := Z.frozen 0 3 rfl; have y4 := Z.frozen 0 4 rfl)))
  all_goals
    have q1 := BX.lt 0 rfl
    have q2 := BX.lt 2 rfl
    have q3 := own_lt hown3 gA rfl
    have q4 := own_lt hown4 gB rfl
    first
      | (have hX : Below w5.heap.size w5 (w6.alloc (.cells #[.int .i64 m.label, .int .u64 ((m.txn : Int) + 1), .int .i64 0, .int .i64 m.list, .int .i64 m.high] 24)) := (by with_reducible assumption)
         have hown3 := own_below hown3 (Nat.le_refl _) hX
         have hown4 := own_below hown4 (Nat.le_refl _) hX
         have hb := below_then hb hX
         have BY := (BX.step hC6).alloc #[.int .i64 m.label, .int .u64 ((m.txn : Int) + 1), .int .i64 0, .int .i64 m.list, .int .i64 m.high] 24 rfl
         have hbx : w5.heap.size ≤ w6.heap.size := hC6.size
         clear Z z0 z1 z2 z3 z4 y0 y1 y2 y3 y4 c0 c1 c2 N5 hX hb6 hC hCA hC6 BX
         generalize w6.heap.size = bx at *
         generalize w6.alloc _ = w7 at *)
      | (have hX := ((((hC6.setCell (p := ⟨w5.heap.size, 0, none⟩) (Nat.le_refl _) (.int .i64 m.label)).setCell (p := ⟨w5.heap.size, 1, none⟩) (Nat.le_refl _) (.int .u64 ((m.txn : Int) + 1))).setCell (p := ⟨w5.heap.size, 2, none⟩) (Nat.le_refl _) (.int .i64 0)).setCell (p := ⟨w5.heap.size, 3, none⟩) (Nat.le_refl _) (.int .i64 m.list)).setCell (p := ⟨w5.heap.size, 4, none⟩) (Nat.le_refl _) (.int .i64 m.high)
         have hown3 := own_below hown3 (Nat.le_refl _) hX
         have hown4 := own_below hown4 (Nat.le_refl _) hX
         have hb := below_then hb hX
         have BY := ((((((BX.alloc #[.int .i64 0, .int .u64 0, .int .i64 0, .int .i64 0, .int .i64 0] 24 rfl).drew.step hb6).put 0 (.int .i64 m.label) (by intro p hp; simp at hp; rcases hp with rfl | rfl | rfl <;> simp <;> omega)).put 1 (.int .u64 ((m.txn : Int) + 1)) (by intro p hp; simp at hp; rcases hp with rfl | rfl | rfl <;> simp <;> omega)).put 2 (.int .i64 0) (by intro p hp; simp at hp; rcases hp with rfl | rfl | rfl <;> simp <;> omega)).put 3 (.int .i64 m.list) (by intro p hp; simp at hp; rcases hp with rfl | rfl | rfl <;> simp <;> omega)).put 4 (.int .i64 m.high) (by intro p hp; simp at hp; rcases hp with rfl | rfl | rfl <;> simp <;> omega)
         have hbx : w5.heap.size ≤ w5.heap.size := Nat.le_refl _
         clear Z z0 z1 z2 z3 z4 y0 y1 y2 y3 y4 c0 c1 c2 N5 hX hb6 hC hCA hC6 BX
         generalize w5.heap.size = bx at *
         generalize World.setCell _ _ _ = w7 at *)
    have MN1 := MN.out
    have g0 := BY.cell 0 0 rfl rfl
    have g1 := BY.cell 0 1 rfl rfl
    have g2 := BY.cell 0 2 rfl rfl
    have g3 := BY.cell 0 3 rfl rfl
    have g4 := BY.cell 0 4 rfl rfl
    have f0 := BY.cell 2 0 rfl rfl
    have f1 := BY.cell 2 1 rfl rfl
    have f2 := BY.cell 2 2 rfl rfl
    have f3 := BY.cell 2 3 rfl rfl
    have f4 := BY.cell 2 4 rfl rfl
    obtain ⟨x, hx0, hx1, hx2, hx3, hx4⟩ := turn_own hown4 L2.out k hk2
    have HX4 := Lib.hid hx4
    clear hx4
    go_wp2_with fail
    clear g0 g1 g2 g3 g4 f0 f1 f2 f3 f4 MN1 hx1 hx2 hx3
    have BY := BY.set ⟨gB, k, none⟩ (.int .u8 ((x ^^^ 8 : Nat) : Int)) (by intro p hp; simp at hp; rcases hp with rfl | rfl | rfl | rfl <;> simp <;> omega)
    have hown3 := own_set hown3 ⟨gB, k, none⟩ (.int .u8 ((x ^^^ 8 : Nat) : Int)) (by simp [Value.ownBlock]; omega)
    have hown4 := HX4.out
    have hb := hb.setCell (p := ⟨gB, k, none⟩) (by simp; omega) (.int .u8 ((x ^^^ 8 : Nat) : Int))
    clear HX4
    generalize w7.setCell _ _ = w8 at *
    have N8 : ∀ W, Below w8.heap.size w8 W → Calls Tryd.prog 23 #[.slice (some ⟨gB, 0, none⟩) 128 cp4, .slice (some ⟨gA, 0, none⟩) 128 cp, .int .i64 m.label] W (fun e w' => e = .returned (.tuple #[.agg #[.int .i64 m.label, .int .u64 (m.txn : Int), .int .i64 m.root, .int .i64 m.list, .int .i64 m.high], .bool true]) ∧ Below W.heap.size W w') := fun W hW => by
      have := n1 _ _ _ _ _ _ W (by first | exact L1.out | exact (spoil_length _ _).trans L2.out) (by first | exact L1.out | exact (spoil_length _ _).trans L2.out) ((Bs.own hown4).below (Nat.le_refl _) hW) ((Bs.own hown3).below (Nat.le_refl _) hW) (below_then hb hW)
      rw [F3.out, F4.out] at this
      exact this
    have c0 := BY.cell 1 0 rfl rfl
    have c1 := BY.cell 1 1 rfl rfl
    have c2 := BY.cell 3 0 rfl rfl
    have hC : Below w8.heap.size w8 w8.drew := (Below.refl _ _).drew
    have e0 := (BY.step hC).cell 1 0 rfl rfl
    have e1 := (BY.step hC).cell 1 1 rfl rfl
    have e2 := (BY.step hC).cell 3 0 rfl rfl
    go_wp2_with fail
    go_region_held3 (fun W => W.cell? ⟨bn + 1, 0, none⟩ = some (.slice (some ⟨gB, 0, none⟩) 128 cp4) ∧ W.cell? ⟨bn + 1, 1, none⟩ = some (.slice (some ⟨gA, 0, none⟩) 128 cp) ∧ W.cell? ⟨w.heap.size, 0, none⟩ = some (.int .i64 m.label)) (first | (with_reducible exact ⟨c0, c1, c2⟩) | (with_reducible exact ⟨e0, e1, e2⟩) | (with_reducible exact ⟨d0, d1, d2⟩) | (with_reducible exact ⟨x0, x1, x2⟩)) (first | (go_at_call 23; (with_reducible refine (N8 _ hC).mono ?_); rintro e w9 ⟨rfl, hb9⟩; have hC9 := hC.trans (hb9.mono hC.size); have B9 := BY.step hC9; have d0 := B9.cell 1 0 rfl rfl; have d1 := B9.cell 1 1 rfl rfl; have d2 := B9.cell 3 0 rfl rfl; have z0 := B9.cell 0 0 rfl rfl; have z1 := B9.cell 0 1 rfl rfl; have z2 := B9.cell 0 2 rfl rfl; have z3 := B9.cell 0 3 rfl rfl; have z4 := B9.cell 0 4 rfl rfl; have y0 := B9.frozen 0 0 rfl; have y1 := B9.frozen 0 1 rfl; have y2 := B9.frozen 0 2 rfl; have y3 := B9.frozen 0 3 rfl; have y4 := B9.frozen 0 4 rfl; have BZ := ((((B9.put 0 (.int .i64 m.label) (by intro p hp; simp at hp; rcases hp with rfl | rfl | rfl <;> simp <;> omega)).put 1 (.int .u64 (m.txn : Int)) (by intro p hp; simp at hp; rcases hp with rfl | rfl | rfl <;> simp <;> omega)).put 2 (.int .i64 m.root) (by intro p hp; simp at hp; rcases hp with rfl | rfl | rfl <;> simp <;> omega)).put 3 (.int .i64 m.list) (by intro p hp; simp at hp; rcases hp with rfl | rfl | rfl <;> simp <;> omega)).put 4 (.int .i64 m.high) (by intro p hp; simp at hp; rcases hp with rfl | rfl | rfl <;> simp <;> omega); have x0 := BZ.cell 1 0 rfl rfl; have x1 := BZ.cell 1 1 rfl rfl; have x2 := BZ.cell 3 0 rfl rfl))
    have hgx : w9.grownBy (((((w9.setCell ⟨bx, 0, none⟩ (.int .i64 m.label)).setCell ⟨bx, 1, none⟩ (.int .u64 (m.txn : Int))).setCell ⟨bx, 2, none⟩ (.int .i64 m.root)).setCell ⟨bx, 3, none⟩ (.int .i64 m.list)).setCell ⟨bx, 4, none⟩ (.int .i64 m.high)) (some bx) :=
      grown_trans (grown_trans (grown_trans (grown_trans (grown_setCell w9 ⟨bx, 0, none⟩ _) (grown_setCell _ ⟨bx, 1, none⟩ _)) (grown_setCell _ ⟨bx, 2, none⟩ _)) (grown_setCell _ ⟨bx, 3, none⟩ _)) (grown_setCell _ ⟨bx, 4, none⟩ _)
    have hb9 := below_then hb hC9
    have hb10 := hb9.trans (below_grown hgx hb9.size (by omega))
    have hown3 := (own_below hown3 (Nat.le_refl _) hC9).kept hgx (.inr (by simp [Value.ownBlock]; omega))
    have hown4 := (own_below hown4 (Nat.le_refl _) hC9).kept hgx (.inr (by simp [Value.ownBlock]; omega))
    clear hgx hb9 hb hC9 hC d0 d1 d2 z0 z1 z2 z3 z4 y0 y1 y2 y3 y4 c0 c1 c2 e0 e1 e2 x0 x1 x2 N8 B9 BY
    generalize (((((w9.setCell ⟨bx, 0, none⟩ (.int .i64 m.label)).setCell ⟨bx, 1, none⟩ (.int .u64 (m.txn : Int))).setCell ⟨bx, 2, none⟩ (.int .i64 m.root)).setCell ⟨bx, 3, none⟩ (.int .i64 m.list)).setCell ⟨bx, 4, none⟩ (.int .i64 m.high)) = w10 at *
    have MN1 := MN.out
    have g0 := BZ.cell 0 0 rfl rfl
    have g1 := BZ.cell 0 1 rfl rfl
    have g2 := BZ.cell 0 2 rfl rfl
    have g3 := BZ.cell 0 3 rfl rfl
    have g4 := BZ.cell 0 4 rfl rfl
    have f0 := BZ.cell 3 0 rfl rfl
    have f1 := BZ.cell 3 1 rfl rfl
    have f2 := BZ.cell 3 2 rfl rfl
    have f3 := BZ.cell 3 3 rfl rfl
    have f4 := BZ.cell 3 4 rfl rfl
    obtain ⟨y, hy0, hy1, hy2, hy3, hy4⟩ := turn_own hown3 L1.out k hk2
    have HY4 := Lib.hid hy4
    clear hy4
    go_wp2_with fail
    clear g0 g1 g2 g3 g4 f0 f1 f2 f3 f4 MN1 hy1 hy2 hy3
    have BZ := BZ.set ⟨gA, k, none⟩ (.int .u8 ((y ^^^ 8 : Nat) : Int)) (by intro p hp; simp at hp; rcases hp with rfl | rfl | rfl | rfl <;> simp <;> omega)
    have hown4 := own_set hown4 ⟨gA, k, none⟩ (.int .u8 ((y ^^^ 8 : Nat) : Int)) (by simp [Value.ownBlock]; omega)
    have hown3 := HY4.out
    have hb := hb10.setCell (p := ⟨gA, k, none⟩) (by simp; omega) (.int .u8 ((y ^^^ 8 : Nat) : Int))
    clear HY4
    generalize w10.setCell _ _ = w11 at *
    have N11 : ∀ W, Below w11.heap.size w11 W → Calls Tryd.prog 23 #[.slice (some ⟨gB, 0, none⟩) 128 cp4, .slice (some ⟨gA, 0, none⟩) 128 cp, .int .i64 m.label] W (fun e w' => ∃ x, e = .returned (.tuple #[mv x, .bool false]) ∧ Below W.heap.size W w') := fun W hW => by
      have := n1 _ _ _ _ _ _ W (by first | exact (spoil_length _ _).trans L1.out | exact (spoil_length _ _).trans L2.out) (by first | exact (spoil_length _ _).trans L1.out | exact (spoil_length _ _).trans L2.out) ((Bs.own hown4).below (Nat.le_refl _) hW) ((Bs.own hown3).below (Nat.le_refl _) hW) (below_then hb hW)
      rw [F5.out] at this
      exact this.mono fun e w' h => ⟨_, h⟩
    have c0 : ∀ W, Below w11.heap.size w11 W → W.cell? ⟨bn + 1, 0, none⟩ = some (.slice (some ⟨gB, 0, none⟩) 128 cp4) := fun W hW => (BZ.step hW).cell 1 0 rfl rfl
    have c1 : ∀ W, Below w11.heap.size w11 W → W.cell? ⟨bn + 1, 1, none⟩ = some (.slice (some ⟨gA, 0, none⟩) 128 cp) := fun W hW => (BZ.step hW).cell 1 1 rfl rfl
    have c2 : ∀ W, Below w11.heap.size w11 W → W.cell? ⟨w.heap.size, 0, none⟩ = some (.int .i64 m.label) := fun W hW => (BZ.step hW).cell 3 0 rfl rfl
    have hC : Below w11.heap.size w11 w11.drew := (Below.refl _ _).drew
    go_wp2_with fail
    go_region_held3 (fun W => Below w11.heap.size w11 W) (first | with_reducible assumption) (first | (go_at_call 23; (with_reducible refine (N11 _ hC).mono ?_); rintro e w12 ⟨z, rfl, hb12⟩; have hC12 := hC.trans (hb12.mono hC.size)))
    have hbe := below_then hb hC12
    go_wp2_with fail
    go_ret
    exact ⟨rfl, hbe⟩
end Go.Proofs.YtjdepdgoaopfoaaDoor
