/- The walks of the chapter on metas: the document's newest one of two, whole. -/
import Derived.Test.YtjdepdgoaopfoaaDoorMetO
namespace Go.Proofs.YtjdepdgoaopfoaaDoor
open Go.RowKit

theorem cntM_new (a b : List UInt8) (label : Int) : newM a b label = (if countsB b 1 label && (!countsB a 0 label || decide ((cntM a 0 label).txn < (cntM b 1 label).txn)) then cntM b 1 label else cntM a 0 label) := by
  unfold newM cntM
  cases ha : countsB a 0 label <;> cases hb : countsB b 1 label <;> simp

set_option maxRecDepth 100000 in
set_option maxHeartbeats 8000000 in
theorem rnewest_none (a b : List UInt8) (label : Int) (x y : Mt) (ia : Bool) (w : World)
    (hc0 : ∀ W, Calls Tryd.prog 54 #[.string (strOf a), .int .i64 0, .int .i64 label] W (NewPost W x ia))
    (hc1 : ∀ W, Calls Tryd.prog 54 #[.string (strOf b), .int .i64 1, .int .i64 label] W (NewPost W y false)) :
    Calls Tryd.prog 24 #[.string (strOf a), .string (strOf b), .int .i64 label] w (NewPost w x ia) := by
  have hB := below_box w (.cells (mcells Mt.zero) 32)
  have hlt : w.heap.size < (w.alloc (.cells (mcells Mt.zero) 32)).heap.size := by simp
  have hblk := World.alloc_heap_new w (.cells (mcells Mt.zero) 32)
  have HL := Lib.hid hlt
  have HBL := Lib.hid hblk
  clear hlt hblk
  go_enter Tryd.func24, Tryd.ntmps24
  go_wp2_with fail
  refine (hc0 _).mono ?_
  rintro e w1 ⟨rfl, hb1⟩
  unfold mv mcells
  have hb2 := hb1.alloc hb1.size (.cells #[.int .i64 x.label, .int .u64 x.txn, .int .i64 x.root, .int .i64 x.list, .int .i64 x.high] 32)
  have hbl2 := (hb2.block _ HL.out).trans HBL.out
  have hx2 : (w1.alloc (.cells #[.int .i64 x.label, .int .u64 x.txn, .int .i64 x.root, .int .i64 x.list, .int .i64 x.high] 32)).heap[w1.heap.size]? = some (.cells (mcells x) 32 (0, 0)) := World.alloc_heap_new w1 _
  have hbB := below_then hB hb2
  have hz1 : w1.heap.size < (w1.alloc (.cells #[.int .i64 x.label, .int .u64 x.txn, .int .i64 x.root, .int .i64 x.list, .int .i64 x.high] 32)).heap.size := by simp
  have hw1 : w.heap.size < w1.heap.size := Nat.lt_of_lt_of_le HL.out hb1.size
  have HBL2 := Lib.hid hbl2
  have HX2 := Lib.hid hx2
  have HZ1 := Lib.hid hz1
  have HBB := Lib.hid hbB
  clear hb1 hb2 hbl2 hx2 hz1 hbB hc0 hB
  go_wp2_with fail
  refine (hc1 _).mono ?_
  rintro e w3 ⟨rfl, hb3⟩
  unfold mv mcells
  have hb4 := hb3.alloc hb3.size (.cells #[.int .i64 y.label, .int .u64 y.txn, .int .i64 y.root, .int .i64 y.list, .int .i64 y.high] 32)
  have hbl4 := (hb4.block _ (Nat.lt_trans hw1 HZ1.out)).trans HBL2.out
  have hx4 := (hb4.block _ HZ1.out).trans HX2.out
  have hbB4 := below_then HBB.out hb4
  obtain ⟨g0, g1, g2, g3, g4⟩ := rbox_cells (m := Mt.zero) hbl4
  obtain ⟨f0, f1, f2, f3, f4⟩ := mbox_frozen (m := Mt.zero) hbl4
  obtain ⟨x0, x1, x2, x3, x4⟩ := rbox_cells (m := x) hx4
  clear hb3 hb4 hbl4 hx4 hc1 HBB HX2 HBL2
  go_wp2_with fail
  refine bodyPost_ret (v := .tuple #[mv x, .bool ia]) (by simp [results, Tryd.results24, go_sem, mv, mcells, g0, g1, g2, g3, g4]) rfl ⟨rfl, put5_below (m := x) hbB4 (Nat.le_refl _)⟩

set_option maxRecDepth 100000 in
set_option maxHeartbeats 8000000 in
theorem rnewest_first (a b : List UInt8) (label : Int) (x y : Mt) (w : World)
    (hc0 : ∀ W, Calls Tryd.prog 54 #[.string (strOf a), .int .i64 0, .int .i64 label] W (NewPost W x false))
    (hc1 : ∀ W, Calls Tryd.prog 54 #[.string (strOf b), .int .i64 1, .int .i64 label] W (NewPost W y true)) :
    Calls Tryd.prog 24 #[.string (strOf a), .string (strOf b), .int .i64 label] w (NewPost w y true) := by
  have hB := below_box w (.cells (mcells Mt.zero) 32)
  have hlt : w.heap.size < (w.alloc (.cells (mcells Mt.zero) 32)).heap.size := by simp
  have hblk := World.alloc_heap_new w (.cells (mcells Mt.zero) 32)
  have HL := Lib.hid hlt
  have HBL := Lib.hid hblk
  clear hlt hblk
  go_enter Tryd.func24, Tryd.ntmps24
  go_wp2_with fail
  refine (hc0 _).mono ?_
  rintro e w1 ⟨rfl, hb1⟩
  unfold mv mcells
  have hb2 := hb1.alloc hb1.size (.cells #[.int .i64 x.label, .int .u64 x.txn, .int .i64 x.root, .int .i64 x.list, .int .i64 x.high] 32)
  have hbl2 := (hb2.block _ HL.out).trans HBL.out
  have hx2 : (w1.alloc (.cells #[.int .i64 x.label, .int .u64 x.txn, .int .i64 x.root, .int .i64 x.list, .int .i64 x.high] 32)).heap[w1.heap.size]? = some (.cells (mcells x) 32 (0, 0)) := World.alloc_heap_new w1 _
  have hbB := below_then hB hb2
  have hz1 : w1.heap.size < (w1.alloc (.cells #[.int .i64 x.label, .int .u64 x.txn, .int .i64 x.root, .int .i64 x.list, .int .i64 x.high] 32)).heap.size := by simp
  have hw1 : w.heap.size < w1.heap.size := Nat.lt_of_lt_of_le HL.out hb1.size
  have HBL2 := Lib.hid hbl2
  have HX2 := Lib.hid hx2
  have HZ1 := Lib.hid hz1
  have HBB := Lib.hid hbB
  clear hb1 hb2 hbl2 hx2 hz1 hbB hc0 hB
  go_wp2_with fail
  refine (hc1 _).mono ?_
  rintro e w3 ⟨rfl, hb3⟩
  unfold mv mcells
  have hb4 := hb3.alloc hb3.size (.cells #[.int .i64 y.label, .int .u64 y.txn, .int .i64 y.root, .int .i64 y.list, .int .i64 y.high] 32)
  have hbl4 := (hb4.block _ (Nat.lt_trans hw1 HZ1.out)).trans HBL2.out
  have hx4 := (hb4.block _ HZ1.out).trans HX2.out
  have hbB4 := below_then HBB.out hb4
  obtain ⟨g0, g1, g2, g3, g4⟩ := rbox_cells (m := Mt.zero) hbl4
  obtain ⟨f0, f1, f2, f3, f4⟩ := mbox_frozen (m := Mt.zero) hbl4
  obtain ⟨x0, x1, x2, x3, x4⟩ := rbox_cells (m := x) hx4
  clear hb3 hb4 hbl4 hx4 hc1 HBB HX2 HBL2
  go_wp2_with fail
  refine bodyPost_ret (v := .tuple #[mv y, .bool true]) (by simp [results, Tryd.results24, go_sem, mv, mcells, g0, g1, g2, g3, g4]) rfl ⟨rfl, put5_below (m := y) hbB4 (Nat.le_refl _)⟩

set_option maxRecDepth 100000 in
set_option maxHeartbeats 8000000 in
theorem rnewest_newer (a b : List UInt8) (label : Int) (x y : Mt) (w : World) (hlt2 : (x.txn : Int) < (y.txn : Int))
    (hc0 : ∀ W, Calls Tryd.prog 54 #[.string (strOf a), .int .i64 0, .int .i64 label] W (NewPost W x true))
    (hc1 : ∀ W, Calls Tryd.prog 54 #[.string (strOf b), .int .i64 1, .int .i64 label] W (NewPost W y true)) :
    Calls Tryd.prog 24 #[.string (strOf a), .string (strOf b), .int .i64 label] w (NewPost w y true) := by
  have hB := below_box w (.cells (mcells Mt.zero) 32)
  have hlt : w.heap.size < (w.alloc (.cells (mcells Mt.zero) 32)).heap.size := by simp
  have hblk := World.alloc_heap_new w (.cells (mcells Mt.zero) 32)
  have HL := Lib.hid hlt
  have HBL := Lib.hid hblk
  clear hlt hblk
  go_enter Tryd.func24, Tryd.ntmps24
  go_wp2_with fail
  refine (hc0 _).mono ?_
  rintro e w1 ⟨rfl, hb1⟩
  unfold mv mcells
  have hb2 := hb1.alloc hb1.size (.cells #[.int .i64 x.label, .int .u64 x.txn, .int .i64 x.root, .int .i64 x.list, .int .i64 x.high] 32)
  have hbl2 := (hb2.block _ HL.out).trans HBL.out
  have hx2 : (w1.alloc (.cells #[.int .i64 x.label, .int .u64 x.txn, .int .i64 x.root, .int .i64 x.list, .int .i64 x.high] 32)).heap[w1.heap.size]? = some (.cells (mcells x) 32 (0, 0)) := World.alloc_heap_new w1 _
  have hbB := below_then hB hb2
  have hz1 : w1.heap.size < (w1.alloc (.cells #[.int .i64 x.label, .int .u64 x.txn, .int .i64 x.root, .int .i64 x.list, .int .i64 x.high] 32)).heap.size := by simp
  have hw1 : w.heap.size < w1.heap.size := Nat.lt_of_lt_of_le HL.out hb1.size
  have HBL2 := Lib.hid hbl2
  have HX2 := Lib.hid hx2
  have HZ1 := Lib.hid hz1
  have HBB := Lib.hid hbB
  clear hb1 hb2 hbl2 hx2 hz1 hbB hc0 hB
  go_wp2_with fail
  refine (hc1 _).mono ?_
  rintro e w3 ⟨rfl, hb3⟩
  unfold mv mcells
  have hb4 := hb3.alloc hb3.size (.cells #[.int .i64 y.label, .int .u64 y.txn, .int .i64 y.root, .int .i64 y.list, .int .i64 y.high] 32)
  have hbl4 := (hb4.block _ (Nat.lt_trans hw1 HZ1.out)).trans HBL2.out
  have hx4 := (hb4.block _ HZ1.out).trans HX2.out
  have hbB4 := below_then HBB.out hb4
  obtain ⟨g0, g1, g2, g3, g4⟩ := rbox_cells (m := Mt.zero) hbl4
  obtain ⟨f0, f1, f2, f3, f4⟩ := mbox_frozen (m := Mt.zero) hbl4
  obtain ⟨x0, x1, x2, x3, x4⟩ := rbox_cells (m := x) hx4
  clear hb3 hb4 hbl4 hx4 hc1 HBB HX2 HBL2
  go_wp2_with fail
  refine bodyPost_ret (v := .tuple #[mv y, .bool true]) (by simp [results, Tryd.results24, go_sem, mv, mcells, g0, g1, g2, g3, g4]) rfl ⟨rfl, put5_below (m := y) hbB4 (Nat.le_refl _)⟩

set_option maxRecDepth 100000 in
set_option maxHeartbeats 8000000 in
theorem rnewest_older (a b : List UInt8) (label : Int) (x y : Mt) (w : World) (hlt2 : ¬ (x.txn : Int) < (y.txn : Int))
    (hc0 : ∀ W, Calls Tryd.prog 54 #[.string (strOf a), .int .i64 0, .int .i64 label] W (NewPost W x true))
    (hc1 : ∀ W, Calls Tryd.prog 54 #[.string (strOf b), .int .i64 1, .int .i64 label] W (NewPost W y true)) :
    Calls Tryd.prog 24 #[.string (strOf a), .string (strOf b), .int .i64 label] w (NewPost w x true) := by
  have hB := below_box w (.cells (mcells Mt.zero) 32)
  have hlt : w.heap.size < (w.alloc (.cells (mcells Mt.zero) 32)).heap.size := by simp
  have hblk := World.alloc_heap_new w (.cells (mcells Mt.zero) 32)
  have HL := Lib.hid hlt
  have HBL := Lib.hid hblk
  clear hlt hblk
  go_enter Tryd.func24, Tryd.ntmps24
  go_wp2_with fail
  refine (hc0 _).mono ?_
  rintro e w1 ⟨rfl, hb1⟩
  unfold mv mcells
  have hb2 := hb1.alloc hb1.size (.cells #[.int .i64 x.label, .int .u64 x.txn, .int .i64 x.root, .int .i64 x.list, .int .i64 x.high] 32)
  have hbl2 := (hb2.block _ HL.out).trans HBL.out
  have hx2 : (w1.alloc (.cells #[.int .i64 x.label, .int .u64 x.txn, .int .i64 x.root, .int .i64 x.list, .int .i64 x.high] 32)).heap[w1.heap.size]? = some (.cells (mcells x) 32 (0, 0)) := World.alloc_heap_new w1 _
  have hbB := below_then hB hb2
  have hz1 : w1.heap.size < (w1.alloc (.cells #[.int .i64 x.label, .int .u64 x.txn, .int .i64 x.root, .int .i64 x.list, .int .i64 x.high] 32)).heap.size := by simp
  have hw1 : w.heap.size < w1.heap.size := Nat.lt_of_lt_of_le HL.out hb1.size
  have HBL2 := Lib.hid hbl2
  have HX2 := Lib.hid hx2
  have HZ1 := Lib.hid hz1
  have HBB := Lib.hid hbB
  clear hb1 hb2 hbl2 hx2 hz1 hbB hc0 hB
  go_wp2_with fail
  refine (hc1 _).mono ?_
  rintro e w3 ⟨rfl, hb3⟩
  unfold mv mcells
  have hb4 := hb3.alloc hb3.size (.cells #[.int .i64 y.label, .int .u64 y.txn, .int .i64 y.root, .int .i64 y.list, .int .i64 y.high] 32)
  have hbl4 := (hb4.block _ (Nat.lt_trans hw1 HZ1.out)).trans HBL2.out
  have hx4 := (hb4.block _ HZ1.out).trans HX2.out
  have hbB4 := below_then HBB.out hb4
  obtain ⟨g0, g1, g2, g3, g4⟩ := rbox_cells (m := Mt.zero) hbl4
  obtain ⟨f0, f1, f2, f3, f4⟩ := mbox_frozen (m := Mt.zero) hbl4
  obtain ⟨x0, x1, x2, x3, x4⟩ := rbox_cells (m := x) hx4
  clear hb3 hb4 hbl4 hx4 hc1 HBB HX2 HBL2
  go_wp2_with fail
  refine bodyPost_ret (v := .tuple #[mv x, .bool true]) (by simp [results, Tryd.results24, go_sem, mv, mcells, g0, g1, g2, g3, g4]) rfl ⟨rfl, put5_below (m := x) hbB4 (Nat.le_refl _)⟩

theorem rnewest_any (a b : List UInt8) (label : Int) (w : World) (hl : a.length ≤ 140737488351232) (hl2 : b.length ≤ 140737488351232) :
    Calls Tryd.prog 24 #[.string (strOf a), .string (strOf b), .int .i64 label] w (NewPost w (newM a b label) (newB a b label)) := by
  have hc0 : ∀ W, Calls Tryd.prog 54 #[.string (strOf a), .int .i64 0, .int .i64 label] W (NewPost W (cntM a 0 label) (countsB a 0 label)) := fun W => counts_any a 0 label W hl (by omega)
  have hc1 : ∀ W, Calls Tryd.prog 54 #[.string (strOf b), .int .i64 1, .int .i64 label] W (NewPost W (cntM b 1 label) (countsB b 1 label)) := fun W => counts_any b 1 label W hl2 (by omega)
  rw [cntM_new, newB]
  cases hib : countsB b 1 label
  · rw [hib] at hc1
    simpa using rnewest_none a b label _ _ _ w hc0 hc1
  · rw [hib] at hc1
    cases hia : countsB a 0 label
    · rw [hia] at hc0
      simpa using rnewest_first a b label _ _ w hc0 hc1
    · rw [hia] at hc0
      by_cases hlt : (cntM a 0 label).txn < (cntM b 1 label).txn
      · simpa [hlt] using rnewest_newer a b label _ _ w (by omega) hc0 hc1
      · simpa [hlt] using rnewest_older a b label _ _ w (by omega) hc0 hc1
end Go.Proofs.YtjdepdgoaopfoaaDoor
