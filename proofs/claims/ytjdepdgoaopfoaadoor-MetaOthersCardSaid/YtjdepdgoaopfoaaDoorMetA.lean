/- The walks of the chapter on metas: the document's example. -/
import Derived.Test.YtjdepdgoaopfoaaDoorMetO2
namespace Go.Proofs.YtjdepdgoaopfoaaDoor
open Go.RowKit

theorem putV_ok {m : Mt} (h : metaOk m = true) : putV m = pageOf 5 [metaB m] ∧ putE m = 0 := by rw [putV, putE, h]; exact ⟨rfl, rfl⟩
theorem putV_bad {m : Mt} (h : metaOk m = false) : putV m = [] ∧ putE m = 1 := by rw [putV, putE, h]; exact ⟨rfl, rfl⟩
theorem counts_put (m : Mt) (h : metaOk m = true) (ht : m.txn < 18446744073709551616) (slot : Nat) (label : Int) : countsB (pageOf 5 [metaB m]) slot label = (m.label == label && decide (m.txn % 2 = slot)) := by
  obtain ⟨e, g⟩ := get_put m h ht
  rw [countsB, e, g]; rfl
def ex1 : Mt := ⟨1, 4, 2, 0, 9⟩
def ex2 : Mt := ⟨1, 5, 0, 3, 9⟩
theorem ex_newest : newM (putV ex1) (putV ex2) 1 = ex2 ∧ newB (putV ex1) (putV ex2) 1 = true ∧ newB (putV ex2) (putV ex1) 1 = false ∧ newB (putV ex1) (putV ex2) 0 = false ∧ getM (putV ex1) = ex1 ∧ getE (putV ex1) = 0 := by
  have o1 : metaOk ex1 = true := by decide
  have o2 : metaOk ex2 = true := by decide
  obtain ⟨e1, g1⟩ := get_put ex1 o1 (by decide)
  obtain ⟨e2, g2⟩ := get_put ex2 o2 (by decide)
  have c1 := counts_put ex1 o1 (by decide)
  have c2 := counts_put ex2 o2 (by decide)
  rw [(putV_ok o1).1, (putV_ok o2).1]
  refine ⟨?_, ?_, ?_, ?_, g1, e1⟩
  · rw [newM, c2, c1, g1, g2]; decide
  · rw [newB, c2, c1]; decide
  · rw [newB, c2, c1]; decide
  · rw [newB, c2, c1]; decide

set_option maxRecDepth 100000 in
set_option maxHeartbeats 8000000 in
theorem mawake_any (w : World) (hh : Half w) :
    Calls Tryd.prog 13 #[] w fun e w' => e = .returned (.bool true) ∧ Below w.heap.size w w' := by
  obtain ⟨q1, q2, q3, q4, q5, q6⟩ := ex_newest
  have hp1 : ∀ W, Below w.heap.size w W → Calls Tryd.prog 14 #[.agg #[.int .i64 1, .int .u64 4, .int .i64 2, .int .i64 0, .int .i64 9]] W (PackAny W (putV ex1) 0) := fun W hW => mput_any ex1 W (hh.below (Nat.le_refl _) hW) (by decide)
  have hp2 : ∀ W, Below w.heap.size w W → Calls Tryd.prog 14 #[.agg #[.int .i64 1, .int .u64 5, .int .i64 0, .int .i64 3, .int .i64 9]] W (PackAny W (putV ex2) 0) := fun W hW => mput_any ex2 W (hh.below (Nat.le_refl _) hW) (by decide)
  have hn : ∀ a1 n1 c1 a2 n2 c2 p q label W, Bs W a1 n1 c1 p → Bs W a2 n2 c2 q → Below w.heap.size w W → Calls Tryd.prog 23 #[.slice a1 n1 c1, .slice a2 n2 c2, .int .i64 label] W (NewPost W (newM p q label) (newB p q label)) := fun a1 n1 c1 a2 n2 c2 p q label W h1 h2 hW => newest_any a1 a2 n1 n2 c1 c2 p q label W h1 h2 (hh.below (Nat.le_refl _) hW)
  have hg : ∀ a1 n1 c1 p W, Bs W a1 n1 c1 p → Below w.heap.size w W → Calls Tryd.prog 21 #[.slice a1 n1 c1] W (GetPost W (getM p) (getE p)) := fun a1 n1 c1 p W h1 hW => mget_any a1 n1 c1 p W h1 (hh.below (Nat.le_refl _) hW)
  have hc : ∀ W, Calls Tryd.prog 17 #[.agg #[.int .i64 0, .int .u64 1, .int .i64 0, .int .i64 0, .int .i64 1]] W fun e w' => e = .returned (.bool false) ∧ Below W.heap.size W w' := fun W => mcheck_any ⟨0, 1, 0, 0, 1⟩ W
  have hs : ∀ W, Calls Tryd.prog 19 #[.int .u64 5] W fun e w' => e = .returned (.int .i64 1) ∧ W = w' := fun W => slot_any 5 W (by decide)
  generalize putV ex1 = p1 at *
  generalize putV ex2 = p2 at *
  have HP2 := Lib.hid hp2
  have HN := Lib.hid hn
  have HG := Lib.hid hg
  have HC := Lib.hid hc
  have HS := Lib.hid hs
  have Q1 := Lib.hid q1
  have Q2 := Lib.hid q2
  have Q3 := Lib.hid q3
  have Q4 := Lib.hid q4
  have Q5 := Lib.hid q5
  have Q6 := Lib.hid q6
  have h0 := hp1 w (Below.refl _ _)
  clear hp1 hp2 hn hg hc hs q1 q2 q3 q4 q5 q6 hh
  go_enter Tryd.func13, Tryd.ntmps13
  go_wp2_with fail
  refine h0.mono ?_
  rintro e w1 ⟨v1, rfl, hown1, hb⟩
  obtain ⟨a1, c1, rfl, hbs1⟩ := Bs.of_own hown1
  clear hown1 h0
  go_wp2_with fail
  refine (HP2.out w1 hb).mono ?_
  rintro e w2 ⟨v2, rfl, hown2, hb2⟩
  obtain ⟨a2, c2, rfl, hbs2⟩ := Bs.of_own hown2
  have hbs1 := hbs1.below (Nat.le_refl _) hb2
  have hb := below_then hb hb2
  clear hown2 hb2
  go_wp2_with fail
  refine (HN.out a1 _ c1 a2 _ c2 p1 p2 1 w2 hbs1 hbs2 hb).mono ?_
  rw [Q1.out, Q2.out]
  rintro e w3 ⟨rfl, hb3⟩
  unfold mv mcells
  have hx := below_then hb3 (below_box w3 (.cells #[.int .i64 ex2.label, .int .u64 ex2.txn, .int .i64 ex2.root, .int .i64 ex2.list, .int .i64 ex2.high] 24))
  have hbs1 := hbs1.below (Nat.le_refl _) hx
  have hbs2 := hbs2.below (Nat.le_refl _) hx
  have hb := below_then hb hx
  have hm3 := World.alloc_heap_new w3 (.cells #[.int .i64 ex2.label, .int .u64 ex2.txn, .int .i64 ex2.root, .int .i64 ex2.list, .int .i64 ex2.high] 24)
  have hz3 : w3.heap.size < (w3.alloc (.cells #[.int .i64 ex2.label, .int .u64 ex2.txn, .int .i64 ex2.root, .int .i64 ex2.list, .int .i64 ex2.high] 24)).heap.size := by simp
  have H1 := Lib.hid hbs1
  have H2 := Lib.hid hbs2
  have HB := Lib.hid hb
  have HM3 := Lib.hid hm3
  have HZ3 := Lib.hid hz3
  clear hx hb3 hbs1 hbs2 hb hm3 hz3
  go_wp2_with fail
  have c3 : ∀ W, Below (w3.heap.size + 1) (w3.alloc (.cells #[.int .i64 ex2.label, .int .u64 ex2.txn, .int .i64 ex2.root, .int .i64 ex2.list, .int .i64 ex2.high] 24)) W → W.cell? ⟨w3.heap.size, 1, none⟩ = some (.int .u64 5) ∧ W.cell? ⟨w3.heap.size, 3, none⟩ = some (.int .i64 3) := fun W hW => by
    have h1 := hW.cell (p := ⟨w3.heap.size, 1, none⟩) (by simp)
    have h3 := hW.cell (p := ⟨w3.heap.size, 3, none⟩) (by simp)
    have hc := mbox_cells (m := ex2) HM3.out
    exact ⟨h1.trans hc.2.1, h3.trans hc.2.2.2.1⟩
  have C3 := Lib.hid c3
  clear c3
  have hz : (w3.alloc (.cells #[.int .i64 ex2.label, .int .u64 ex2.txn, .int .i64 ex2.root, .int .i64 ex2.list, .int .i64 ex2.high] 24)).heap.size = w3.heap.size + 1 := by simp
  have HZ := Lib.hid hz
  clear hz
  clear HM3 HZ3
  generalize w3.alloc _ = W3 at *
  generalize w3.heap.size = b3 at *
  refine (HN.out a2 _ c2 a1 _ c1 p2 p1 1 _ H2.out H1.out HB.out).mono ?_
  rw [Q3.out]
  generalize newM p2 p1 1 = m4
  rintro e w4 ⟨rfl, hb4⟩
  unfold mv mcells
  have hx := below_then hb4 (below_box w4 (.cells #[.int .i64 m4.label, .int .u64 m4.txn, .int .i64 m4.root, .int .i64 m4.list, .int .i64 m4.high] 24))
  have H1 := Lib.hid (H1.out.below (Nat.le_refl _) hx)
  have H2 := Lib.hid (H2.out.below (Nat.le_refl _) hx)
  have HB := Lib.hid (below_then HB.out hx)
  have HX := Lib.hid hx
  clear hx hb4
  go_wp2_with fail
  generalize w4.alloc _ = W4 at *
  refine (HN.out a1 _ c1 a2 _ c2 p1 p2 0 _ H1.out H2.out HB.out).mono ?_
  rw [Q4.out]
  generalize newM p1 p2 0 = m5
  rintro e w5 ⟨rfl, hb5⟩
  unfold mv mcells
  have hx := below_then hb5 (below_box w5 (.cells #[.int .i64 m5.label, .int .u64 m5.txn, .int .i64 m5.root, .int .i64 m5.list, .int .i64 m5.high] 24))
  have H1 := Lib.hid (H1.out.below (Nat.le_refl _) hx)
  have H2 := Lib.hid (H2.out.below (Nat.le_refl _) hx)
  have HB := Lib.hid (below_then HB.out hx)
  have HX := Lib.hid (HX.out.trans (hx.mono HX.out.size))
  clear hx hb5
  go_wp2_with fail
  generalize w5.alloc _ = W5 at *
  refine (HG.out a1 _ c1 p1 _ H1.out HB.out).mono ?_
  rw [Q5.out, Q6.out]
  rintro e w6 ⟨rfl, hb6⟩
  unfold mv mcells
  have hx := below_then hb6 (below_box w6 (.cells #[.int .i64 ex1.label, .int .u64 ex1.txn, .int .i64 ex1.root, .int .i64 ex1.list, .int .i64 ex1.high] 24))
  have hb := below_then HB.out hx
  have HX := HX.out.trans (hx.mono HX.out.size)
  have k2 := (mbox_cells (m := ex1) (World.alloc_heap_new w6 (.cells #[.int .i64 ex1.label, .int .u64 ex1.txn, .int .i64 ex1.root, .int .i64 ex1.list, .int .i64 ex1.high] 24))).2.2.1
  have k2 := k2.trans (show some (Value.int .i64 ex1.root) = some (Value.int .i64 2) from rfl)
  obtain ⟨k1, k3⟩ := C3.out _ (by rw [← HZ.out]; exact HX)
  clear hx hb6 HX HZ C3 H1 H2
  go_wp2_with (first | (go_at_call 19; (with_reducible refine (HS.out _).mono ?_); rintro e w7 ⟨rfl, rfl⟩) | (go_at_call 17; (with_reducible refine (HC.out _).mono ?_); rintro e w7 ⟨rfl, hb7⟩; have hb8 := below_then hb hb7))
  go_ret
  exact ⟨rfl, hb8⟩
end Go.Proofs.YtjdepdgoaopfoaaDoor
