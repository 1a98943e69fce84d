/- The walks of the chapter on metas: the document's newest one of two. -/
import Derived.Test.YtjdepdgoaopfoaaDoorMetN
namespace Go.Proofs.YtjdepdgoaopfoaaDoor
open Go.RowKit

def cntM (b : List UInt8) (slot : Nat) (label : Int) : Mt := if countsB b slot label then getM b else Mt.zero

set_option maxRecDepth 100000 in
set_option maxHeartbeats 8000000 in
theorem counts_any (b : List UInt8) (slot : Nat) (label : Int) (w : World) (hl : b.length ≤ 140737488351232) (_hs : slot < 2) :
    Calls Tryd.prog 54 #[.string (strOf b), .int .i64 slot, .int .i64 label] w (NewPost w (cntM b slot label) (countsB b slot label)) := by
  have hB := below_box w (.cells (mcells Mt.zero) 32)
  have hget := rget_any b (w.alloc (.cells (mcells Mt.zero) 32)) hl
  have hlt : w.heap.size < (w.alloc (.cells (mcells Mt.zero) 32)).heap.size := by simp
  have hblk := World.alloc_heap_new w (.cells (mcells Mt.zero) 32)
  change Calls Tryd.prog 22 #[.string (strOf b)] (w.alloc (.cells #[.int .i64 0, .int .u64 0, .int .i64 0, .int .i64 0, .int .i64 0] 32)) _ at hget
  have hC : countsB b slot label = (getE b == 0 && ((getM b).label == label && decide ((getM b).txn % 2 = slot))) := rfl
  have hwf := getM_wf b
  have HC := Lib.hid hC
  have HD : Hid (cntM b slot label = if countsB b slot label then getM b else Mt.zero) := Lib.hid rfl
  clear hC
  generalize getM b = m at *
  generalize getE b = er at *
  have hslot := fun W => rslot_any m.txn W hwf.2.1
  clear hwf
  by_cases e0 : er = 0
  · by_cases e1 : m.label = label
    · by_cases e2 : m.txn % 2 = slot
      · have HF : Hid (countsB b slot label = true ∧ cntM b slot label = m) := Lib.hid (by rw [HD.out, HC.out]; simp [e0, e1, e2])
        have b0 : (er != 0) = false := by simpa using e0
        have b1 : (m.label != label) = false := by simpa using e1
        have b2 : (((m.txn % 2 : Nat) : Int) != (slot : Int)) = false := by simp; omega
        clear e0 e1 e2 HC HD
        generalize m.txn % 2 = q at *
        go_enter Tryd.func54, Tryd.ntmps54
        go_wp2_with fail
        refine hget.mono ?_
        rintro e w1 ⟨rfl, hb1⟩
        unfold mv mcells
        have hb2 := hb1.alloc hb1.size (.cells #[.int .i64 m.label, .int .u64 m.txn, .int .i64 m.root, .int .i64 m.list, .int .i64 m.high] 32)
        have hbl1 := (hb2.block _ hlt).trans hblk
        have hbB := below_then hB hb2
        obtain ⟨g0, g1, g2, g3, g4⟩ := rbox_cells (m := Mt.zero) hbl1
        obtain ⟨f0, f1, f2, f3, f4⟩ := mbox_frozen (m := Mt.zero) hbl1
        clear hget hb1 hb2
        go_wp2_with (go_at_call 20; refine (hslot _).mono ?_; rintro e w9 ⟨rfl, rfl⟩)
        refine bodyPost_ret (v := .tuple #[mv m, .bool true]) (by simp [results, Tryd.results54, go_sem, mv, mcells, g0, g1, g2, g3, g4]) rfl ?_
        rw [HF.out.1, HF.out.2]
        exact ⟨rfl, put5_below (m := m) hbB (Nat.le_refl _)⟩
      · have HF : Hid (countsB b slot label = false ∧ cntM b slot label = Mt.zero) := Lib.hid (by rw [HD.out, HC.out]; simp [e2])
        have b0 : (er != 0) = false := by simpa using e0
        have b1 : (m.label != label) = false := by simpa using e1
        have b2 : (((m.txn % 2 : Nat) : Int) != (slot : Int)) = true := by simp; omega
        clear e0 e1 e2 HC HD
        generalize m.txn % 2 = q at *
        go_enter Tryd.func54, Tryd.ntmps54
        go_wp2_with fail
        refine hget.mono ?_
        rintro e w1 ⟨rfl, hb1⟩
        unfold mv mcells
        have hb2 := hb1.alloc hb1.size (.cells #[.int .i64 m.label, .int .u64 m.txn, .int .i64 m.root, .int .i64 m.list, .int .i64 m.high] 32)
        have hbl1 := (hb2.block _ hlt).trans hblk
        have hbB := below_then hB hb2
        obtain ⟨g0, g1, g2, g3, g4⟩ := rbox_cells (m := Mt.zero) hbl1
        obtain ⟨f0, f1, f2, f3, f4⟩ := mbox_frozen (m := Mt.zero) hbl1
        clear hget hb1 hb2
        go_wp2_with (go_at_call 20; refine (hslot _).mono ?_; rintro e w9 ⟨rfl, rfl⟩)
        refine bodyPost_ret (v := .tuple #[mv Mt.zero, .bool false]) (by simp [results, Tryd.results54, go_sem, mv, mcells, Mt.zero, g0, g1, g2, g3, g4]) rfl ?_
        rw [HF.out.1, HF.out.2]
        exact ⟨rfl, put5_below (m := Mt.zero) hbB (Nat.le_refl _)⟩
    · have HF : Hid (countsB b slot label = false ∧ cntM b slot label = Mt.zero) := Lib.hid (by rw [HD.out, HC.out]; simp [e1])
      have b0 : (er != 0) = false := by simpa using e0
      have b1 : (m.label != label) = true := by simpa using e1
      clear e0 e1 HC HD
      go_enter Tryd.func54, Tryd.ntmps54
      go_wp2_with fail
      refine hget.mono ?_
      rintro e w1 ⟨rfl, hb1⟩
      unfold mv mcells
      have hb2 := hb1.alloc hb1.size (.cells #[.int .i64 m.label, .int .u64 m.txn, .int .i64 m.root, .int .i64 m.list, .int .i64 m.high] 32)
      have hbl1 := (hb2.block _ hlt).trans hblk
      have hbB := below_then hB hb2
      obtain ⟨g0, g1, g2, g3, g4⟩ := rbox_cells (m := Mt.zero) hbl1
      obtain ⟨f0, f1, f2, f3, f4⟩ := mbox_frozen (m := Mt.zero) hbl1
      clear hget hb1 hb2
      go_wp2_with (go_at_call 20; refine (hslot _).mono ?_; rintro e w9 ⟨rfl, rfl⟩)
      refine bodyPost_ret (v := .tuple #[mv Mt.zero, .bool false]) (by simp [results, Tryd.results54, go_sem, mv, mcells, Mt.zero, g0, g1, g2, g3, g4]) rfl ?_
      rw [HF.out.1, HF.out.2]
      exact ⟨rfl, put5_below (m := Mt.zero) hbB (Nat.le_refl _)⟩
  · have HF : Hid (countsB b slot label = false ∧ cntM b slot label = Mt.zero) := Lib.hid (by rw [HD.out, HC.out]; simp [e0])
    have b0 : (er != 0) = true := by simpa using e0
    clear e0 HC HD
    go_enter Tryd.func54, Tryd.ntmps54
    go_wp2_with fail
    refine hget.mono ?_
    rintro e w1 ⟨rfl, hb1⟩
    unfold mv mcells
    have hb2 := hb1.alloc hb1.size (.cells #[.int .i64 m.label, .int .u64 m.txn, .int .i64 m.root, .int .i64 m.list, .int .i64 m.high] 32)
    have hbl1 := (hb2.block _ hlt).trans hblk
    have hbB := below_then hB hb2
    obtain ⟨g0, g1, g2, g3, g4⟩ := rbox_cells (m := Mt.zero) hbl1
    obtain ⟨f0, f1, f2, f3, f4⟩ := mbox_frozen (m := Mt.zero) hbl1
    clear hget hb1 hb2
    go_wp2_with (go_at_call 20; refine (hslot _).mono ?_; rintro e w9 ⟨rfl, rfl⟩)
    refine bodyPost_ret (v := .tuple #[mv Mt.zero, .bool false]) (by simp [results, Tryd.results54, go_sem, mv, mcells, Mt.zero, g0, g1, g2, g3, g4]) rfl ?_
    rw [HF.out.1, HF.out.2]
    exact ⟨rfl, put5_below (m := Mt.zero) hbB (Nat.le_refl _)⟩

end Go.Proofs.YtjdepdgoaopfoaaDoor
