/- The walk of awake. -/
import Derived.Test.YtopnfpobbemfbaaDskB
namespace Go.Proofs.Ytopnfpobbemfbaa
open Go.RowKit

theorem Txs.nil (w : World) : Txs w none 0 0 [] := ⟨rfl, Nat.le_refl _, by unfold maxLen; omega, fun _ => rfl, .inl rfl⟩
theorem aw8 : ∃ x, w7a[1]? = some x ∧ (x.loose.map (·.1)).length = 1 := by
  have h := aw5
  cases hx : w7a[1]? with
  | none => rw [hx] at h; cases h
  | some x => rw [hx] at h; simp at h; exact ⟨x, rfl, by simpa using h⟩
theorem own_len {w : World} {base : Nat} {e : TypeId} {size : Nat} {v : Value} {n m : Nat} {xs : List Value} (h : w.ownsRow base e size v n xs) (hn : n = m) : ∃ a cap, v = .slice a m cap ∧ m ≤ cap ∧ cap ≤ 9223372036854775807 := by
  subst hn
  obtain ⟨a, cap, rfl, h1, h2, _⟩ := own_slice h
  exact ⟨a, cap, rfl, h1, by unfold maxLen at h2; omega⟩
set_option maxRecDepth 100000 in
set_option maxHeartbeats 8000000 in
theorem awake_any (w : World) : Calls Try.prog 8 #[] w fun e w' => e = .returned (.bool true) ∧ Below w.heap.size w w' := by
  have hb0 : Below w.heap.size w (w.alloc (.cells #[.int .i64 4, .int .i64 5] 3)) := (Below.refl _ _).alloc (Nat.le_refl _) _
  have hrow : Row .i64 (w.alloc (.cells #[.int .i64 4, .int .i64 5] 3)) (some ⟨w.heap.size, 0, none⟩) 2 2 [4, 5] := Row.made .i64 w 3 [4, 5] rfl (by unfold maxLen; simp)
  have N := new_ok hrow (by decide)
  have P7 : ∀ W, Calls Try.prog 11 #[.agg #[.int .i64 0, .int .i64 0, .int .i64 0, .int .u8 7, .bool false, .slice none 0 0]] W (OwnBytes 5 W (fillL 128 7)) := fun W => page_fill 7 W
  have P8 : ∀ W, Calls Try.prog 11 #[.agg #[.int .i64 0, .int .i64 0, .int .i64 0, .int .u8 8, .bool false, .slice none 0 0]] W (OwnBytes 5 W (fillL 128 8)) := fun W => page_fill 8 W
  obtain ⟨x5, hx5, hl5⟩ := aw8
  have HX5 := Lib.hid hx5
  have HL5 := Lib.hid hl5
  clear hrow hx5 hl5
  go_enter Try.func8, Try.ntmps8
  go_wp2_with fail
  refine N.mono ?_
  rintro e w1 ⟨db, rfl, hd1, hb1⟩
  have hd1 : OneK (w.alloc (.cells #[.int .i64 4, .int .i64 5] 3)).heap.size [] w1 db 0 w7 := hd1.k
  generalize hB : (w.alloc (.cells #[.int .i64 4, .int .i64 5] 3)).heap.size = B at *
  have hBw : w.heap.size ≤ B := by rw [← hB]; simp
  have hw1 : Below w.heap.size w w1 := hb0.trans (hb1.mono hBw)
  clear hB hb0 hb1 N
  go_wp2_with fail
  refine (P7 w1).mono ?_
  rintro e w2 ⟨v2, rfl, ho2, hb2⟩
  obtain ⟨a2, c2, rfl, hbs2⟩ := Bs.of_own ho2
  have hg2 := own_ge ho2
  have C3 := write_o (hd1.opens.below hb2) hbs2 (fun g off hg => by subst hg; exact .inr (hg2 g rfl)) (by decide) 1 4
  clear ho2 hbs2 hg2 hd1 P7
  rw [aw1] at C3
  go_wp2_with fail
  refine C3.mono ?_
  rintro e w3 ⟨rfl, hd3, hb3, _⟩
  have hd3 : OneK B [] w3 db 1 w7a := hd3
  have hw3 : Below w.heap.size w w3 := hw1.trans (hb3.mono hBw)
  have C4 := read_o hd3.one 1 4
  clear C3 hb3 hb2 hw1
  go_wp2_with fail
  refine C4.mono ?_
  rintro e w4 ⟨v4, rfl, ho4, hb4⟩
  obtain ⟨g4, c4, rfl, hc4, hc4', hge4, hlt4, hx4⟩ := read_first ho4 aw2
  have hd4 := hd3.add hb4 g4 hge4 hlt4
  have hw4 : Below w.heap.size w w4 := hw3.trans (hb4.mono hw3.size)
  have C5 := loose_o hd4.one (by decide) 1 x5 HX5.out
  have HX4 := Lib.hid hx4
  clear C4 ho4 hge4 hlt4 hb4 hw3 hd3 hx4
  go_wp2_with fail
  refine C5.mono ?_
  rintro e w5 ⟨v5, rfl, ho5, hb5⟩
  obtain ⟨a5, c5, rfl, hc5, hc5'⟩ := own_len ho5 HL5.out
  have hd5 := hd4.below hb5
  have hw5 : Below w.heap.size w w5 := hw4.trans (hb5.mono hw4.size)
  have C6 := crash_o hd5.opens (by decide) (Txs.nil w5) (fun g off _ hg => by cases hg)
  have hk5 : w5.cell? ⟨g4, 0, none⟩ = some (.int .u8 7) := (hb5.cell (p := ⟨g4, 0, none⟩) (World.block_lt_of_cell? _ _ HX4.out)).trans HX4.out
  have HX5 := Lib.hid hk5
  clear C5 ho5 hb5 hw4 hd4 HX4 hk5
  go_wp2_with fail
  refine C6.mono ?_
  rintro e w6 ⟨rfl, hd6, hb6, hk6⟩
  have hd6 : OneK B [g4] w6 db 1 w7b := hd6
  have hw6 : Below w.heap.size w w6 := hw5.trans (hb6.mono hBw)
  have HX6 := Lib.hid ((World.cell?_of_block (hk6 g4 (by simp))).trans HX5.out)
  have C7 := read_o hd6.one 1 4
  clear C6 hk6 hb6 hw5 hd5 HX5
  go_wp2_with fail
  refine C7.mono ?_
  rintro e w7 ⟨v7, rfl, ho7, hb7⟩
  obtain ⟨g7, c7, rfl, hc7, hc7', hge7, hlt7, hy7⟩ := read_first ho7 aw3
  have hd7 := hd6.add hb7 g7 hge7 hlt7
  have hw7 : Below w.heap.size w w7 := hw6.trans (hb7.mono hw6.size)
  have HX7 := Lib.hid ((hb7.cell (p := ⟨g4, 0, none⟩) (World.block_lt_of_cell? _ _ HX6.out)).trans HX6.out)
  have HY7 := Lib.hid hy7
  clear C7 ho7 hge7 hlt7 hb7 hw6 hd6 hy7 HX6
  go_wp2_with fail
  refine (P8 w7).mono ?_
  rintro e w8 ⟨v8, rfl, ho8, hb8⟩
  obtain ⟨a8, c8, rfl, hbs8⟩ := Bs.of_own ho8
  have hg8 := own_ge ho8
  have C9 := write_o (hd7.opens.below hb8) hbs8 (fun g off hg => by subst hg; exact .inr (hg8 g rfl)) (by decide) 1 4
  clear ho8 hbs8 hg8 hd7 P8 hb8
  go_wp2_with fail
  refine C9.mono ?_
  rintro e w9 ⟨rfl, hd9, hb9, hk9⟩
  have hd9 : OneK B [g7, g4] w9 db 2 w7c := hd9
  have hw9 : Below w.heap.size w w9 := hw7.trans (hb9.mono hBw)
  have HX9 := Lib.hid ((World.cell?_of_block (hk9 g4 (by simp))).trans HX7.out)
  have HY9 := Lib.hid ((World.cell?_of_block (hk9 g7 (by simp))).trans HY7.out)
  have C10 := sync_o hd9.opens (by decide) 1
  clear C9 hb9 hk9 HX7 HY7 hw7
  go_wp2_with fail
  refine C10.mono ?_
  rintro e w10 ⟨rfl, hd10, hb10, hk10⟩
  have hd10 : OneK B [g7, g4] w10 db 2 w7d := hd10
  have hw10 : Below w.heap.size w w10 := hw9.trans (hb10.mono hBw)
  have HX10 := Lib.hid ((World.cell?_of_block (hk10 g4 (by simp))).trans HX9.out)
  have HY10 := Lib.hid ((World.cell?_of_block (hk10 g7 (by simp))).trans HY9.out)
  have C11 := crash_o hd10.opens (by decide) (Txs.nil w10) (fun g off _ hg => by cases hg)
  clear C10 hb10 hk10 HX9 HY9 hw9 hd9
  go_wp2_with fail
  refine C11.mono ?_
  rintro e w11 ⟨rfl, hd11, hb11, hk11⟩
  have hd11 : OneK B [g7, g4] w11 db 2 w7e := hd11
  have hw11 : Below w.heap.size w w11 := hw10.trans (hb11.mono hBw)
  have HX11 := Lib.hid ((World.cell?_of_block (hk11 g4 (by simp))).trans HX10.out)
  have HY11 := Lib.hid ((World.cell?_of_block (hk11 g7 (by simp))).trans HY10.out)
  have C12 := read_o hd11.one 1 4
  clear C11 hb11 hk11 HX10 HY10 hw10 hd10
  go_wp2_with fail
  refine C12.mono ?_
  rintro e w12 ⟨v12, rfl, ho12, hb12⟩
  obtain ⟨g12, c12, rfl, hc12, hc12', hge12, hlt12, hz⟩ := read_first ho12 aw4
  have hd12 := hd11.below hb12
  have hw12 : Below w.heap.size w w12 := hw11.trans (hb12.mono hw11.size)
  have hx : w12.cell? ⟨g4, 0, none⟩ = some (.int .u8 7) := (hb12.cell (p := ⟨g4, 0, none⟩) (World.block_lt_of_cell? _ _ HX11.out)).trans HX11.out
  have hy : w12.cell? ⟨g7, 0, none⟩ = some (.int .u8 0) := (hb12.cell (p := ⟨g7, 0, none⟩) (World.block_lt_of_cell? _ _ HY11.out)).trans HY11.out
  have hz : w12.cell? ⟨g12, 0, none⟩ = some (.int .u8 8) := hz
  have L0 := len_o hd12.one 0
  have L2 := len_o hd12.one 2
  rw [aw6] at L0
  rw [aw7] at L2
  clear C12 ho12 hge12 hlt12 hb12 hw11 hd11 HX11 HY11 hd12
  go_wp2_with fail
  refine L0.mono ?_
  rintro e w13 ⟨rfl, rfl⟩
  go_wp2_with fail
  refine L2.mono ?_
  rintro e w13 ⟨rfl, rfl⟩
  go_wp2_with fail
  go_ret
  exact ⟨rfl, hw12⟩
end Go.Proofs.Ytopnfpobbemfbaa
