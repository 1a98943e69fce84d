/- The law RecordOthers: the walk. -/
import Derived.Test.YtpghlmcoajaiiaaDoorM13
import Derived.Test.YtpghlmcoajaiiaaDoorRecKq
import Derived.Test.YtpghlmcoajaiiaaDoorRecOq
import Derived.Test.YtpghlmcoajaiiaaDoorM9
import Derived.Test.YtpghlmcoajaiiaaDoorM3
namespace Go.Proofs.YtpghlmcoajaiiaaDoor
open Go.RowKit

/-- A record's cells in a slice that came in. -/
theorem rc_cells {w : World} {a : Option Addr} {n c : Nat} {l : List RcD} (h : TabR 6 IsRc w a n c l) {k : Nat} (hk : k < n) : ∃ b off y, a = some ⟨b, off, none⟩ ∧ b < w.heap.size ∧ l[k]? = some y ∧ y.digest < 4294967296 ∧
    w.cell? ⟨b, off + k * 6, none⟩ = some (.int .i64 y.actor) ∧ w.cell? ⟨b, off + k * 6 + 1, none⟩ = some (.int .i64 y.from_) ∧ w.cell? ⟨b, off + k * 6 + 2, none⟩ = some (.int .i64 y.to_) ∧ w.cell? ⟨b, off + k * 6 + 3, none⟩ = some (.string (strOf y.bucket)) ∧ w.cell? ⟨b, off + k * 6 + 4, none⟩ = some (.string (strOf y.key)) ∧ w.cell? ⟨b, off + k * 6 + 5, none⟩ = some (.int .u32 (y.digest : Int)) := by
  obtain ⟨b, off, y, cs, e, hb, hy, _, ⟨rfl, hd⟩, hc⟩ := TabR.at h hk
  exact ⟨b, off, y, e, hb, hy, hd, hc 0 _ rfl, hc 1 _ rfl, hc 2 _ rfl, hc 3 _ rfl, hc 4 _ rfl, hc 5 _ rfl⟩
set_option maxRecDepth 100000 in
set_option maxHeartbeats 4000000 in
set_option maxRecDepth 100000 in
theorem lOthers (s0 : ByteArray) (a1 : Int) (a : Option Addr) (n c : Nat) (l : List RcD) (w : World) (hs0 : s0.size ≤ maxLen) (hn16 : (Lit.int .u16 a1).wf = true) (hl : TabR 6 IsRc w a n c l) (hT : Half w) :
    Calls Tryd.prog 4 #[.string s0, .int .u16 a1, .slice a n c] w fun e w' => e = .returned (.bool true) ∧ Below w.heap.size w w' := by
  obtain ⟨s, rfl⟩ : ∃ s, s0 = strOf s := ⟨s0.data.toList, rfl⟩
  have hsz := strOf_size s
  rw [hsz] at hs0
  obtain ⟨m, hm⟩ : ∃ z, s.length = z := ⟨_, rfl⟩
  rw [hm] at hs0 hsz
  have AW := awake25 hT
  obtain ⟨q1, q2, q3⟩ := hl.lens
  have HS := Lib.hid hm
  clear hm
  by_cases hm6 : 60 < m
  · have d0 : decide ((60 : Int) < (m : Int)) = true := by simp; omega
    clear hl q1
    go_enter Tryd.func4, Tryd.ntmps4
    go_wp2_with fail
    refine AW.mono ?_
    rintro e w1 ⟨rfl, hb1⟩
    go_wp2_with fail
    go_ret
    exact ⟨rfl, hb1⟩
  by_cases hn2 : n < 2
  · have d0 : decide ((60 : Int) < (m : Int)) = false := by simp; omega
    have d1 : decide ((n : Int) < 2) = true := by simp; omega
    clear hl q1
    go_enter Tryd.func4, Tryd.ntmps4
    go_wp2_with fail
    refine AW.mono ?_
    rintro e w1 ⟨rfl, hb1⟩
    go_wp2_with fail
    go_ret
    exact ⟨rfl, hb1⟩
  have d0 : decide ((60 : Int) < (m : Int)) = false := by simp; omega
  have d1 : decide ((n : Int) < 2) = false := by simp; omega
  obtain ⟨b, off, A, rfl, hb, hA, hAd, p0, p1, p2, p3, p4, p5⟩ := rc_cells hl (k := 0) (by omega)
  obtain ⟨b', off', B, e', hb', hB, hBd, r0, r1, r2, r3, r4, r5⟩ := rc_cells hl (k := 1) (by omega)
  cases e'
  simp only [Nat.zero_mul, Nat.one_mul, Nat.add_zero, Nat.add_assoc, Nat.reduceAdd] at p0 p1 p2 p3 p4 p5 r0 r1 r2 r3 r4 r5
  clear hl q1
  have P0 := Lib.hid (And.intro p0 (And.intro p1 (And.intro p2 (And.intro p3 (And.intro p4 p5)))))
  have R0 := Lib.hid (And.intro r0 (And.intro r1 (And.intro r2 (And.intro r3 (And.intro r4 r5)))))
  clear p0 p1 p2 p3 p4 p5 r0 r1 r2 r3 r4 r5 hA hB
  have b0 : decide ((0 : Int) < (n : Int)) = true := by simp; omega
  have b1 : decide ((1 : Int) < (n : Int)) = true := by simp; omega
  go_enter Tryd.func4, Tryd.ntmps4
  go_wp2_with fail
  refine AW.mono ?_
  rintro e w1 ⟨rfl, hb1⟩
  obtain ⟨p0, p1, p2, p3, p4, p5⟩ := P0.out
  obtain ⟨r0, r1, r2, r3, r4, r5⟩ := R0.out
  have p0 := (hb1.cell (p := ⟨b, off, none⟩) hb).trans p0
  have p1 := (hb1.cell (p := ⟨b, off + 1, none⟩) hb).trans p1
  have p2 := (hb1.cell (p := ⟨b, off + 2, none⟩) hb).trans p2
  have p3 := (hb1.cell (p := ⟨b, off + 3, none⟩) hb).trans p3
  have p4 := (hb1.cell (p := ⟨b, off + 4, none⟩) hb).trans p4
  have p5 := (hb1.cell (p := ⟨b, off + 5, none⟩) hb).trans p5
  have hbA : Below w.heap.size w (w1.alloc (.cells #[.int .i64 A.actor, .int .i64 A.from_, .int .i64 A.to_, .string (strOf A.bucket), .string (strOf A.key), .int .u32 (A.digest : Int)] 39)) := Below.al hb1
  have r0 := (hbA.cell (p := ⟨b, off + 6, none⟩) hb).trans r0
  have r1 := (hbA.cell (p := ⟨b, off + 7, none⟩) hb).trans r1
  have r2 := (hbA.cell (p := ⟨b, off + 8, none⟩) hb).trans r2
  have r3 := (hbA.cell (p := ⟨b, off + 9, none⟩) hb).trans r3
  have r4 := (hbA.cell (p := ⟨b, off + 10, none⟩) hb).trans r4
  have r5 := (hbA.cell (p := ⟨b, off + 11, none⟩) hb).trans r5
  obtain ⟨W3, hW3⟩ : ∃ x, x = (w1.alloc (.cells #[.int .i64 A.actor, .int .i64 A.from_, .int .i64 A.to_, .string (strOf A.bucket), .string (strOf A.key), .int .u32 (A.digest : Int)] 39)).alloc (.cells #[.int .i64 B.actor, .int .i64 B.from_, .int .i64 B.to_, .string (strOf B.bucket), .string (strOf B.key), .int .u32 (B.digest : Int)] 39) := ⟨_, rfl⟩
  have hx3 : Boxes W3 [(w1.heap.size + 1, [.int .i64 B.actor, .int .i64 B.from_, .int .i64 B.to_, .string (strOf B.bucket), .string (strOf B.key), .int .u32 (B.digest : Int)]), (w1.heap.size, [.int .i64 A.actor, .int .i64 A.from_, .int .i64 A.to_, .string (strOf A.bucket), .string (strOf A.key), .int .u32 (A.digest : Int)])] := by
    rw [hW3]
    refine Boxes.alloc ?_ #[.int .i64 B.actor, .int .i64 B.from_, .int .i64 B.to_, .string (strOf B.bucket), .string (strOf B.key), .int .u32 (B.digest : Int)] 39 (by simp)
    exact (Boxes.nil w1).alloc #[.int .i64 A.actor, .int .i64 A.from_, .int .i64 A.to_, .string (strOf A.bucket), .string (strOf A.key), .int .u32 (A.digest : Int)] 39 (b := w1.heap.size) rfl
  have hb3 : Below w.heap.size w W3 := by rw [hW3]; exact Below.al hbA
  have HX3 := Lib.hid hx3
  have HB3 := Lib.hid hb3
  clear hx3 hb3
  clear AW
  go_upto_region 9 with (fail)
  rw [← hW3]
  clear hW3 p0 p1 p2 p3 p4 p5 r0 r1 r2 r3 r4 r5 hbA
  have sz1 := strOf_size A.bucket
  have sz2 := strOf_size A.key
  have sz3 := strOf_size B.bucket
  have sz4 := strOf_size B.key
  obtain ⟨z1, hz1⟩ : ∃ z, A.bucket.length = z := ⟨_, rfl⟩
  obtain ⟨z2, hz2⟩ : ∃ z, A.key.length = z := ⟨_, rfl⟩
  obtain ⟨z3, hz3⟩ : ∃ z, B.bucket.length = z := ⟨_, rfl⟩
  obtain ⟨z4, hz4⟩ : ∃ z, B.key.length = z := ⟨_, rfl⟩
  rw [hz1] at sz1
  rw [hz2] at sz2
  rw [hz3] at sz3
  rw [hz4] at sz4
  have HZ := Lib.hid (And.intro hz1 (And.intro hz2 (And.intro hz3 hz4)))
  clear hz1 hz2 hz3 hz4
  have a3 := HX3.out.cell 1 3 rfl rfl
  have a4 := HX3.out.cell 1 4 rfl rfl
  have b3 := HX3.out.cell 0 3 rfl rfl
  have b4 := HX3.out.cell 0 4 rfl rfl
  by_cases y1 : 60 < z1
  · have e1 : decide ((60 : Int) < (z1 : Int)) = true := by simp; omega
    go_wp2_with fail
    go_ret
    exact ⟨rfl, HB3.out⟩
  have e1 : decide ((60 : Int) < (z1 : Int)) = false := by simp; omega
  by_cases y2 : 60 < z2
  · have e2 : decide ((60 : Int) < (z2 : Int)) = true := by simp; omega
    go_wp2_with fail
    go_ret
    exact ⟨rfl, HB3.out⟩
  have e2 : decide ((60 : Int) < (z2 : Int)) = false := by simp; omega
  by_cases y3 : 60 < z3
  · have e3 : decide ((60 : Int) < (z3 : Int)) = true := by simp; omega
    go_wp2_with fail
    go_ret
    exact ⟨rfl, HB3.out⟩
  have e3 : decide ((60 : Int) < (z3 : Int)) = false := by simp; omega
  by_cases y4 : 60 < z4
  · have e4 : decide ((60 : Int) < (z4 : Int)) = true := by simp; omega
    go_wp2_with fail
    go_ret
    exact ⟨rfl, HB3.out⟩
  have e4 : decide ((60 : Int) < (z4 : Int)) = false := by simp; omega
  go_upto_region 11 with (fail)
  clear a3 a4 b3 b4 e1 e2 e3 e4 sz1 sz2 sz3 sz4 p0 p1 p2 p3 p4 p5 r0 r1 r2 r3 r4 r5
  obtain ⟨h1, h2, h3, h4⟩ := HZ.out
  obtain ⟨k, rfl⟩ : ∃ k : Nat, a1 = (k : Int) := by
    simp [Lit.wf, IntKind.min, IntKind.max, IntKind.signed, IntKind.bits] at hn16
    exact ⟨a1.toNat, by omega⟩
  have hk16 : k < 65536 := by
    simp [Lit.wf, IntKind.min, IntKind.max, IntKind.signed, IntKind.bits] at hn16
    omega
  have CU1 := fun W => user_any s W (by rw [HS.out]; omega)
  have CU2 := fun W => user_any A.key W (by omega)
  have CK1 := fun W => key_any (k : Int) W
  have CK2 := fun W => key_any ((k : Int) + 1) W
  have hkl : keyB (k : Int) < keyB ((k : Int) + 1) := keyB_lt (m := k) (n := k + 1) (by omega) (by omega)
  obtain ⟨B1, hB1⟩ : ∃ z, decide (s = A.key) = z := ⟨_, rfl⟩
  have u0 : ((strOf (98 :: s)).toList == [97]) = false := by rw [strOf_toList]; simp
  have u1 : ((strOf (98 :: s)).toList == (strOf (98 :: A.key)).toList) = B1 := eq_walk (by rw [← hB1]; simp)
  have u2 : ((strOf s).toList == (strOf A.key).toList) = B1 := eq_walk hB1
  have u3 : (B1 != B1) = false := by simp
  obtain ⟨u4, u5, u6, u7⟩ := cmp_lt hkl
  have hw1 : IntKind.i64.wrap (k : Int) = (k : Int) := by simp [IntKind.wrap, IntKind.signed, IntKind.bits]; omega
  have hw2 : IntKind.i64.wrap ((k : Int) + 1) = (k : Int) + 1 := by simp [IntKind.wrap, IntKind.signed, IntKind.bits]; omega
  obtain ⟨S1, hS1⟩ : ∃ z, (98 : UInt8) :: s = z := ⟨_, rfl⟩
  obtain ⟨S2, hS2⟩ : ∃ z, (98 : UInt8) :: A.key = z := ⟨_, rfl⟩
  obtain ⟨K1, hK1⟩ : ∃ z, keyB (k : Int) = z := ⟨_, rfl⟩
  obtain ⟨K2, hK2⟩ : ∃ z, keyB ((k : Int) + 1) = z := ⟨_, rfl⟩
  rw [hS1] at CU1 u0 u1
  rw [hS2] at CU2 u1
  rw [hK1] at CK1 u4 u5 u6 u7
  rw [hK2] at CK2 u4 u5 u6 u7
  clear hS1 hS2 hK1 hK2 hkl hB1 h1 h2 h3 h4 hn16
  go_wp2_with (first | (go_at_call 8; first | ((with_reducible refine (CU1 _).mono ?_); rintro e wu ⟨rfl, rfl⟩) | ((with_reducible refine (CU2 _).mono ?_); rintro e wu ⟨rfl, rfl⟩)) | (go_at_call 11; first | ((with_reducible refine (CK1 _).mono ?_); rintro e w4 ⟨rfl, hb4⟩) | ((with_reducible refine (CK2 _).mono ?_); rintro e w5 ⟨rfl, hb5⟩; have HX5 := Lib.hid (HX3.out.step (below_via hb4 hb5)); have HB5 := Lib.hid (below_via HB3.out (below_via hb4 hb5)); have p0 := HX5.out.cell 1 0 rfl rfl; have p1 := HX5.out.cell 1 1 rfl rfl; have p2 := HX5.out.cell 1 2 rfl rfl; have p3 := HX5.out.cell 1 3 rfl rfl; have p4 := HX5.out.cell 1 4 rfl rfl; have p5 := HX5.out.cell 1 5 rfl rfl)))
  clear CU1 CU2 CK1 CK2 u0 u1 u2 u3 u4 u5 u6 u7
  obtain ⟨h1, h2, h3, h4⟩ := HZ.out
  have CP1 : Calls Tryd.prog 12 #[.agg #[.int .i64 A.actor, .int .i64 A.from_, .int .i64 A.to_, .string (strOf A.bucket), .string (strOf A.key), .int .u32 (A.digest : Int)]] w5 (RetStr w5 (rcB A)) := rput_any A w5 (by omega) (by omega) hAd
  have hg1 := get_put A hAd
  have hg2 := get_put B hBd
  have hLA := rcB_len A (by omega) (by omega)
  have hLB := rcB_len B (by omega) (by omega)
  have hinj := rcB_inj A B hAd hBd
  have heA := hg1.1
  have heB := hg2.1
  have CG1 := fun W => rget_any (rcB A) W (by omega)
  have CG2 := fun W => rget_any (rcB B) W (by omega)
  have CP2 : ∀ W, Calls Tryd.prog 12 #[.agg #[.int .i64 B.actor, .int .i64 B.from_, .int .i64 B.to_, .string (strOf B.bucket), .string (strOf B.key), .int .u32 (B.digest : Int)]] W (RetStr W (rcB B)) := fun W => rput_any B W (by omega) (by omega) hBd
  have CP3 : ∀ W, Calls Tryd.prog 12 #[.agg #[.int .i64 A.actor, .int .i64 A.from_, .int .i64 A.to_, .string (strOf A.bucket), .string (strOf A.key), .int .u32 (A.digest : Int)]] W (RetStr W (rcB A)) := fun W => rput_any A W (by omega) (by omega) hAd
  rw [heA] at CG1
  rw [heB] at CG2
  obtain ⟨ga, hga⟩ : ∃ z, getR (rcB A) = z := ⟨_, rfl⟩
  obtain ⟨gb, hgb⟩ : ∃ z, getR (rcB B) = z := ⟨_, rfl⟩
  obtain ⟨RA, hRA⟩ : ∃ z, rcB A = z := ⟨_, rfl⟩
  obtain ⟨RB, hRB⟩ : ∃ z, rcB B = z := ⟨_, rfl⟩
  rw [hga] at CG1
  rw [hgb] at CG2
  rw [hga, hgb] at hinj
  rw [hRA] at CP1 CG1 CP3 hinj
  rw [hRB] at CG2 CP2 hinj
  have HINJ := Lib.hid hinj
  have va : rcV ga = .agg #[.int .i64 ga.actor, .int .i64 ga.from_, .int .i64 ga.to_, .string (strOf ga.bucket), .string (strOf ga.key), .int .u32 (ga.digest : Int)] := rfl
  have vb : rcV gb = .agg #[.int .i64 gb.actor, .int .i64 gb.from_, .int .i64 gb.to_, .string (strOf gb.bucket), .string (strOf gb.key), .int .u32 (gb.digest : Int)] := rfl
  rw [va] at CG1
  rw [vb] at CG2
  clear h1 h2 h3 h4 hg1 hg2 hLA hLB hinj heA heB hga hgb hRA hRB va vb
  go_wp2_with fail
  refine CP1.mono ?_
  rintro e w6 ⟨rfl, hb6⟩
  clear p0 p1 p2 p3 p4 p5
  go_wp2_with fail
  refine (CG1 _).mono ?_
  rintro e w7 ⟨rfl, hb7⟩
  have hb57 := below_via hb6 hb7
  have hb5a : Below w5.heap.size w5 (w7.alloc (.cells #[.int .i64 ga.actor, .int .i64 ga.from_, .int .i64 ga.to_, .string (strOf ga.bucket), .string (strOf ga.key), .int .u32 (ga.digest : Int)] 39)) := Below.al hb57
  have hx7 := HX5.out.step hb5a
  have r0 := hx7.cell 0 0 rfl rfl
  have r1 := hx7.cell 0 1 rfl rfl
  have r2 := hx7.cell 0 2 rfl rfl
  have r3 := hx7.cell 0 3 rfl rfl
  have r4 := hx7.cell 0 4 rfl rfl
  have r5 := hx7.cell 0 5 rfl rfl
  have hx8 := (HX5.out.step hb57).alloc #[.int .i64 ga.actor, .int .i64 ga.from_, .int .i64 ga.to_, .string (strOf ga.bucket), .string (strOf ga.key), .int .u32 (ga.digest : Int)] 39 (b := w7.heap.size) rfl
  have HX8 := Lib.hid hx8
  have HB8 := Lib.hid (below_via HB5.out hb5a)
  clear CP1 CG1 hx7 hx8 hb57 hb6 hb7 hb5a
  go_wp2_with fail
  refine (CP2 _).mono ?_
  rintro e w9 ⟨rfl, hb9⟩
  clear r0 r1 r2 r3 r4 r5
  go_wp2_with fail
  refine (CG2 _).mono ?_
  rintro e w10 ⟨rfl, hb10⟩
  have hb910 := below_via hb9 hb10
  obtain ⟨W, hW⟩ : ∃ x, x = w10.alloc (.cells #[.int .i64 gb.actor, .int .i64 gb.from_, .int .i64 gb.to_, .string (strOf gb.bucket), .string (strOf gb.key), .int .u32 (gb.digest : Int)] 39) := ⟨_, rfl⟩
  have hx11 := (HX8.out.step hb910).alloc #[.int .i64 gb.actor, .int .i64 gb.from_, .int .i64 gb.to_, .string (strOf gb.bucket), .string (strOf gb.key), .int .u32 (gb.digest : Int)] 39 (b := w10.heap.size) rfl
  rw [← hW] at hx11
  have hbW : Below w.heap.size w W := by rw [hW]; exact Below.al (below_via HB8.out hb910)
  have HX := Lib.hid hx11
  have HBW := Lib.hid hbW
  clear hx11 hbW hb9 hb10 hb910
  go_upto_region 17 with (fail)
  rw [← hW]
  clear hW CG2 HX8 HX5 HX3
  obtain ⟨B2, hB2⟩ : ∃ z, rcEq ga gb = z := ⟨_, rfl⟩
  have hEq : ∀ X, (binOp .eql 39 (.agg #[.int .i64 ga.actor, .int .i64 ga.from_, .int .i64 ga.to_, .string (strOf ga.bucket), .string (strOf ga.key), .int .u32 (ga.digest : Int)]) (.agg #[.int .i64 gb.actor, .int .i64 gb.from_, .int .i64 gb.to_, .string (strOf gb.bucket), .string (strOf gb.key), .int .u32 (gb.digest : Int)])).run Tryd.prog X = .ok (.bool B2) X := fun X => by rw [← hB2]; exact rcsame ga gb X
  have v1 : ((strOf RA).toList == (strOf RB).toList) = B2 := eq_walk (by
    rw [← hB2]
    by_cases h : RA = RB
    · rw [decide_eq_true h, (rcEq_iff _ _).2 (HINJ.out.2 h)]
    · rw [decide_eq_false h]
      cases hc : rcEq ga gb with
      | false => rfl
      | true => exact absurd (HINJ.out.1 ((rcEq_iff _ _).1 hc)) h)
  have v2 : (B2 == B2) = true := by simp
  have t0 : ∀ X, Below W.heap.size W X → X.cell? ⟨w1.heap.size, 0, none⟩ = some (.int .i64 A.actor) := fun X hX => (HX.out.step hX).cell 3 0 rfl rfl
  have s0 : ∀ X, Below W.heap.size W X → X.cell? ⟨w1.heap.size + 1, 0, none⟩ = some (.int .i64 B.actor) := fun X hX => (HX.out.step hX).cell 2 0 rfl rfl
  have c0 := HX.out.cell 0 0 rfl rfl
  have e0 := HX.out.cell 1 0 rfl rfl
  have t1 : ∀ X, Below W.heap.size W X → X.cell? ⟨w1.heap.size, 1, none⟩ = some (.int .i64 A.from_) := fun X hX => (HX.out.step hX).cell 3 1 rfl rfl
  have s1 : ∀ X, Below W.heap.size W X → X.cell? ⟨w1.heap.size + 1, 1, none⟩ = some (.int .i64 B.from_) := fun X hX => (HX.out.step hX).cell 2 1 rfl rfl
  have c1 := HX.out.cell 0 1 rfl rfl
  have e1 := HX.out.cell 1 1 rfl rfl
  have t2 : ∀ X, Below W.heap.size W X → X.cell? ⟨w1.heap.size, 2, none⟩ = some (.int .i64 A.to_) := fun X hX => (HX.out.step hX).cell 3 2 rfl rfl
  have s2 : ∀ X, Below W.heap.size W X → X.cell? ⟨w1.heap.size + 1, 2, none⟩ = some (.int .i64 B.to_) := fun X hX => (HX.out.step hX).cell 2 2 rfl rfl
  have c2 := HX.out.cell 0 2 rfl rfl
  have e2 := HX.out.cell 1 2 rfl rfl
  have t3 : ∀ X, Below W.heap.size W X → X.cell? ⟨w1.heap.size, 3, none⟩ = some (.string (strOf A.bucket)) := fun X hX => (HX.out.step hX).cell 3 3 rfl rfl
  have s3 : ∀ X, Below W.heap.size W X → X.cell? ⟨w1.heap.size + 1, 3, none⟩ = some (.string (strOf B.bucket)) := fun X hX => (HX.out.step hX).cell 2 3 rfl rfl
  have c3 := HX.out.cell 0 3 rfl rfl
  have e3 := HX.out.cell 1 3 rfl rfl
  have t4 : ∀ X, Below W.heap.size W X → X.cell? ⟨w1.heap.size, 4, none⟩ = some (.string (strOf A.key)) := fun X hX => (HX.out.step hX).cell 3 4 rfl rfl
  have s4 : ∀ X, Below W.heap.size W X → X.cell? ⟨w1.heap.size + 1, 4, none⟩ = some (.string (strOf B.key)) := fun X hX => (HX.out.step hX).cell 2 4 rfl rfl
  have c4 := HX.out.cell 0 4 rfl rfl
  have e4 := HX.out.cell 1 4 rfl rfl
  have t5 : ∀ X, Below W.heap.size W X → X.cell? ⟨w1.heap.size, 5, none⟩ = some (.int .u32 (A.digest : Int)) := fun X hX => (HX.out.step hX).cell 3 5 rfl rfl
  have s5 : ∀ X, Below W.heap.size W X → X.cell? ⟨w1.heap.size + 1, 5, none⟩ = some (.int .u32 (B.digest : Int)) := fun X hX => (HX.out.step hX).cell 2 5 rfl rfl
  have c5 := HX.out.cell 0 5 rfl rfl
  have e5 := HX.out.cell 1 5 rfl rfl
  have hB0 : Below W.heap.size W W.drew := Below.dr (Below.refl _ _)
  clear hB2
  go_upto_region 18 with (fail)
  go_region_held3 (fun X => Below W.heap.size W X) (first | with_reducible assumption | (repeat (with_reducible first | assumption | exact Below.refl _ _ | apply Below.al | apply Below.dr))) (first | (go_at_call 12; first | ((with_reducible refine (CP3 _).mono ?_); rintro e w11 ⟨rfl, hb11⟩; have hB11 : Below W.heap.size W w11 := below_via (by (repeat (with_reducible first | assumption | exact Below.refl _ _ | apply Below.al | apply Below.dr))) hb11) | ((with_reducible refine (CP2 _).mono ?_); rintro e w12 ⟨rfl, hb12⟩; have hB12 : Below W.heap.size W w12 := below_via (by (repeat (with_reducible first | assumption | exact Below.refl _ _ | apply Below.al | apply Below.dr))) hb12)))
  go_wp2_with fail
  go_ret
  exact ⟨rfl, below_via HBW.out hB12⟩
end Go.Proofs.YtpghlmcoajaiiaaDoor
