/- The walks of the chapter on metas: the document's meta of a page. -/
import Derived.Test.YtjdepdgoaopfoaaDoorMetS
namespace Go.Proofs.YtjdepdgoaopfoaaDoor
open Go.RowKit

set_option maxRecDepth 100000 in
set_option maxHeartbeats 2000000 in
theorem rget_err (b : List UInt8) (w : World) (hE : unpE b ≠ 0) (hl : b.length ≤ 140737488351232) :
    Calls Tryd.prog 22 #[.string (strOf b)] w (GetPost w Mt.zero (unpE b)) := by
  have hB := below_box w (.cells (mcells Mt.zero) 32)
  have hun := runpack_any b (w.alloc (.cells (mcells Mt.zero) 32)) hl
  have hne : ((unpE b : Int) != 0) = true := by simpa using hE
  have hne2 : ((unpE b : Int) == 0) = false := by simpa using hE
  have hlt : w.heap.size < (w.alloc (.cells (mcells Mt.zero) 32)).heap.size := by simp
  have hblk := World.alloc_heap_new w (.cells (mcells Mt.zero) 32)
  generalize unpE b = er at *
  generalize unpK b = k at *
  generalize unpL b = l at *
  clear hE
  change Calls Tryd.prog 52 #[.string (strOf b)] (w.alloc (.cells #[.int .i64 0, .int .u64 0, .int .i64 0, .int .i64 0, .int .i64 0] 32)) _ at hun
  go_enter Tryd.func22, Tryd.ntmps22
  go_wp2_with fail
  refine hun.mono ?_
  rintro e w1 ⟨v1, rfl, _, hb1⟩
  have hbl1 := (hb1.block _ hlt).trans hblk
  obtain ⟨g0, g1, g2, g3, g4⟩ := rbox_cells (m := Mt.zero) hbl1
  obtain ⟨f0, f1, f2, f3, f4⟩ := mbox_frozen (m := Mt.zero) hbl1
  go_wp2_with fail
  refine bodyPost_ret (v := .tuple #[mv Mt.zero, .int .i64 er]) (by simp [results, Tryd.results22, go_sem, mv, mcells, Mt.zero, g0, g1, g2, g3, g4]) rfl ⟨rfl, ?_⟩
  exact (((((below_then hB hb1).setCell (Nat.le_refl _) _).setCell (Nat.le_refl _) _).setCell (Nat.le_refl _) _).setCell (Nat.le_refl _) _).setCell (Nat.le_refl _) _

set_option maxRecDepth 100000 in
set_option maxHeartbeats 2000000 in
theorem rget_kind (b : List UInt8) (w : World) (hE : unpE b = 0) (hl : b.length ≤ 140737488351232) (hk : ¬ ((unpL b).length = 1 ∧ (cellM b).length = 19)) :
    Calls Tryd.prog 22 #[.string (strOf b)] w (GetPost w Mt.zero 11) := by
  have hB := below_box w (.cells (mcells Mt.zero) 32)
  have hun := runpack_any b (w.alloc (.cells (mcells Mt.zero) 32)) hl
  have hlt : w.heap.size < (w.alloc (.cells (mcells Mt.zero) 32)).heap.size := by simp
  have hblk := World.alloc_heap_new w (.cells (mcells Mt.zero) 32)
  rw [hE] at hun
  have hll := unpL_length b
  have hcell := unpL_cell b hE
  rw [cellM] at hk
  generalize unpK b = k at *
  generalize unpL b = l at *
  clear hE
  change Calls Tryd.prog 52 #[.string (strOf b)] (w.alloc (.cells #[.int .i64 0, .int .u64 0, .int .i64 0, .int .i64 0, .int .i64 0] 32)) _ at hun
  by_cases h1 : l.length = 1
  · have hk2 : (l[0]?.getD []).length ≠ 19 := fun e => hk ⟨h1, e⟩
    have hmem : (l[0]?.getD []).length ≤ 128 := hcell _ (by rw [List.getElem?_eq_getElem (by omega)]; exact List.getElem_mem _)
    clear hk hcell hll
    go_enter Tryd.func22, Tryd.ntmps22
    go_wp2_with fail
    refine hun.mono ?_
    rintro e w1 ⟨v1, rfl, hob, hb1⟩
    obtain ⟨av, cv, rfl, hss⟩ := Strs.of_own hob
    obtain ⟨bb, off, rfl, hbb, hc0⟩ := hss.at (k := 0) (by omega)
    rw [Nat.add_zero] at hc0
    have hsz := strOf_size (l[0]?.getD [])
    generalize l[0]?.getD [] = c at *
    rw [h1] at hss ⊢
    have hne : ((c.length : Int) != 19) = true := by simp; omega
    have HK := Lib.hid hk2
    have hbl1 := (hb1.block _ hlt).trans hblk
    obtain ⟨g0, g1, g2, g3, g4⟩ := rbox_cells (m := Mt.zero) hbl1
    obtain ⟨f0, f1, f2, f3, f4⟩ := mbox_frozen (m := Mt.zero) hbl1
    clear hob hun hss hk2 h1
    generalize c.length = cl at *
    go_wp2_with fail
    refine bodyPost_ret (v := .tuple #[mv Mt.zero, .int .i64 11]) (by simp [results, Tryd.results22, go_sem, mv, mcells, Mt.zero, g0, g1, g2, g3, g4]) rfl ⟨rfl, ?_⟩
    exact (((((below_then hB hb1).setCell (Nat.le_refl _) _).setCell (Nat.le_refl _) _).setCell (Nat.le_refl _) _).setCell (Nat.le_refl _) _).setCell (Nat.le_refl _) _
  · have hne : ((l.length : Int) != 1) = true := by simp; omega
    clear hk hcell
    go_enter Tryd.func22, Tryd.ntmps22
    go_wp2_with fail
    refine hun.mono ?_
    rintro e w1 ⟨v1, rfl, hob, hb1⟩
    obtain ⟨av, cv, rfl, hss⟩ := Strs.of_own hob
    have hbl1 := (hb1.block _ hlt).trans hblk
    obtain ⟨g0, g1, g2, g3, g4⟩ := rbox_cells (m := Mt.zero) hbl1
    obtain ⟨f0, f1, f2, f3, f4⟩ := mbox_frozen (m := Mt.zero) hbl1
    clear hob hun hss
    generalize l.length = cl at *
    go_wp2_with fail
    refine bodyPost_ret (v := .tuple #[mv Mt.zero, .int .i64 11]) (by simp [results, Tryd.results22, go_sem, mv, mcells, Mt.zero, g0, g1, g2, g3, g4]) rfl ⟨rfl, ?_⟩
    exact (((((below_then hB hb1).setCell (Nat.le_refl _) _).setCell (Nat.le_refl _) _).setCell (Nat.le_refl _) _).setCell (Nat.le_refl _) _).setCell (Nat.le_refl _) _

/-- What the document's way gives, a cell of nineteen bytes. -/
def RGetForm (w : World) (b r : List UInt8) (e : Ending) (w' : World) : Prop :=
  if metaOk (decM r) && pageOf 5 [metaB (decM r)] == b then GetPost w (decM r) 0 e w' else GetPost w Mt.zero 11 e w'

set_option maxRecDepth 100000 in
set_option maxHeartbeats 16000000 in
theorem rget_form (b : List UInt8) (w : World) (hE : unpE b = 0) (hl : b.length ≤ 140737488351232) (c : List UInt8) (hc : unpL b = [c]) (h19 : c.length = 19) :
    Calls Tryd.prog 22 #[.string (strOf b)] w (RGetForm w b (c.drop 4)) := by
  have hB := below_box w (.cells (mcells Mt.zero) 32)
  have hun := runpack_any b (w.alloc (.cells (mcells Mt.zero) 32)) hl
  have hlt : w.heap.size < (w.alloc (.cells (mcells Mt.zero) 32)).heap.size := by simp
  have hblk := World.alloc_heap_new w (.cells (mcells Mt.zero) 32)
  rw [hE, hc] at hun
  change Calls Tryd.prog 52 #[.string (strOf b)] (w.alloc (.cells #[.int .i64 0, .int .u64 0, .int .i64 0, .int .i64 0, .int .i64 0] 32)) _ at hun
  have hr15 : (c.drop 4).length = 15 := by simp [h19]
  have t0 : tNum ⟨c, 0⟩ 4 = (beVal (c.take 4), ⟨c.drop 4, 0⟩) := tNum_take c 4 (by omega) (by omega) (by omega)
  have hsz : (strOf c).size = 19 := by rw [strOf_size, h19]
  have hN0 : ∀ t W, Rt W t ⟨c, 0⟩ → Calls Tryd.prog 53 #[.pointer (some ⟨t, 0, none⟩), .int .i64 4] W (RtPost W t (.int .u64 (beVal (c.take 4) : Int)) ⟨c.drop 4, 0⟩) := fun t W hW => by
    have := rNum_any t ⟨c, 0⟩ 4 W hW (by simp only; omega); rwa [t0] at this
  generalize beVal (c.take 4) = x0 at *
  generalize hrr : c.drop 4 = r at *
  clear hE hc h19 t0 hrr
  have t1 : tNum ⟨r, 0⟩ 1 = (beVal (r.take 1), ⟨r.drop 1, 0⟩) := tNum_take r 1 (by omega) (by omega) (by omega)
  have t2 : tNum ⟨r.drop 1, 0⟩ 8 = (beVal ((r.drop 1).take 8), ⟨r.drop 9, 0⟩) := by
    have := tNum_take (r.drop 1) 8 (by omega) (by omega) (by simp; omega); rwa [List.drop_drop] at this
  have t3 : tNum ⟨r.drop 9, 0⟩ 2 = (beVal ((r.drop 9).take 2), ⟨r.drop 11, 0⟩) := by
    have := tNum_take (r.drop 9) 2 (by omega) (by omega) (by simp; omega); rwa [List.drop_drop] at this
  have t4 : tNum ⟨r.drop 11, 0⟩ 2 = (beVal ((r.drop 11).take 2), ⟨r.drop 13, 0⟩) := by
    have := tNum_take (r.drop 11) 2 (by omega) (by omega) (by simp; omega); rwa [List.drop_drop] at this
  have t5 : tNum ⟨r.drop 13, 0⟩ 2 = (beVal ((r.drop 13).take 2), ⟨r.drop 15, 0⟩) := by
    have := tNum_take (r.drop 13) 2 (by omega) (by omega) (by simp; omega); rwa [List.drop_drop] at this
  have HDEC := Lib.hid (show decM r = ⟨beVal (r.take 1), beVal ((r.drop 1).take 8), beVal ((r.drop 9).take 2), beVal ((r.drop 11).take 2), beVal ((r.drop 13).take 2)⟩ from rfl)
  have hwf := decM_wf r
  have y1 : beVal (r.take 1) < 256 := by have := tNum_lt ⟨r, 0⟩ 1; rw [show ((1 : Nat) : Int) = 1 from rfl, t1] at this; exact this
  have y3 : beVal ((r.drop 9).take 2) < 65536 := by have := tNum_lt ⟨r.drop 9, 0⟩ 2; rw [show ((2 : Nat) : Int) = 2 from rfl, t3] at this; exact this
  have y4 : beVal ((r.drop 11).take 2) < 65536 := by have := tNum_lt ⟨r.drop 11, 0⟩ 2; rw [show ((2 : Nat) : Int) = 2 from rfl, t4] at this; exact this
  have y5 : beVal ((r.drop 13).take 2) < 65536 := by have := tNum_lt ⟨r.drop 13, 0⟩ 2; rw [show ((2 : Nat) : Int) = 2 from rfl, t5] at this; exact this
  have hN1 : ∀ t W, Rt W t ⟨r, 0⟩ → Calls Tryd.prog 53 #[.pointer (some ⟨t, 0, none⟩), .int .i64 1] W (RtPost W t (.int .u64 (beVal (r.take 1) : Int)) ⟨r.drop 1, 0⟩) := fun t W hW => by
    have := rNum_any t ⟨r, 0⟩ 1 W hW (by simp only [List.length_drop]; omega); rwa [t1] at this
  have hN2 : ∀ t W, Rt W t ⟨r.drop 1, 0⟩ → Calls Tryd.prog 53 #[.pointer (some ⟨t, 0, none⟩), .int .i64 8] W (RtPost W t (.int .u64 (beVal ((r.drop 1).take 8) : Int)) ⟨r.drop 9, 0⟩) := fun t W hW => by
    have := rNum_any t ⟨r.drop 1, 0⟩ 8 W hW (by simp only [List.length_drop]; omega); rwa [t2] at this
  have hN3 : ∀ t W, Rt W t ⟨r.drop 9, 0⟩ → Calls Tryd.prog 53 #[.pointer (some ⟨t, 0, none⟩), .int .i64 2] W (RtPost W t (.int .u64 (beVal ((r.drop 9).take 2) : Int)) ⟨r.drop 11, 0⟩) := fun t W hW => by
    have := rNum_any t ⟨r.drop 9, 0⟩ 2 W hW (by simp only [List.length_drop]; omega); rwa [t3] at this
  have hN4 : ∀ t W, Rt W t ⟨r.drop 11, 0⟩ → Calls Tryd.prog 53 #[.pointer (some ⟨t, 0, none⟩), .int .i64 2] W (RtPost W t (.int .u64 (beVal ((r.drop 11).take 2) : Int)) ⟨r.drop 13, 0⟩) := fun t W hW => by
    have := rNum_any t ⟨r.drop 11, 0⟩ 2 W hW (by simp only [List.length_drop]; omega); rwa [t4] at this
  have hN5 : ∀ t W, Rt W t ⟨r.drop 13, 0⟩ → Calls Tryd.prog 53 #[.pointer (some ⟨t, 0, none⟩), .int .i64 2] W (RtPost W t (.int .u64 (beVal ((r.drop 13).take 2) : Int)) ⟨r.drop 15, 0⟩) := fun t W hW => by
    have := rNum_any t ⟨r.drop 13, 0⟩ 2 W hW (by simp only [List.length_drop]; omega); rwa [t5] at this
  generalize beVal (r.take 1) = x1 at *
  generalize beVal ((r.drop 1).take 8) = x2 at *
  generalize beVal ((r.drop 9).take 2) = x3 at *
  generalize beVal ((r.drop 11).take 2) = x4 at *
  generalize beVal ((r.drop 13).take 2) = x5 at *
  clear t1 t2 t3 t4 t5
  generalize r.drop 1 = r1 at *
  generalize r.drop 9 = r2 at *
  generalize r.drop 11 = r3 at *
  generalize r.drop 13 = r4 at *
  generalize r.drop 15 = r5 at *
  have HW := Lib.hid hwf
  have H15 := Lib.hid hr15
  clear hwf hr15
  go_enter Tryd.func22, Tryd.ntmps22
  go_wp2_with fail
  refine hun.mono ?_
  rintro e w1 ⟨v1, rfl, hob, hb1⟩
  obtain ⟨av, cv, rfl, hss⟩ := Strs.of_own hob
  obtain ⟨bb, off, rfl, hbb, hc0⟩ := hss.at (k := 0) (by simp)
  have hc0 : w1.cell? ⟨bb, off + 0, none⟩ = some (.string (strOf c)) := hc0
  rw [Nat.add_zero] at hc0
  have hz1 := (hb1.block _ hlt).trans hblk
  have hbB := below_then hB hb1
  have hw1 : w.heap.size < w1.heap.size := (Array.getElem?_eq_some_iff.1 hz1).1
  have hll : (([c].length : Nat) : Int) = 1 := rfl
  have hrt := World.alloc_heap_new w1 (.cells #[.string (strOf c), .int .i64 0] 104)
  have hzA := (Below.heap_alloc w1 (.cells #[.string (strOf c), .int .i64 0] 104) w.heap.size hw1).trans hz1
  have hbA := hbB.alloc hbB.size (.cells #[.string (strOf c), .int .i64 0] 104)
  have HRT := Lib.hid hrt
  have HZA := Lib.hid hzA
  have HBA := Lib.hid hbA
  have HSA : Hid ((w1.alloc (.cells #[.string (strOf c), .int .i64 0] 104)).heap.size = w1.heap.size + 1) := Lib.hid (by simp)
  clear hob hun hss hblk hlt hb1 hbB hrt hzA hbA hz1 hB
  go_wp2_with fail
  generalize w1.alloc (.cells #[.string (strOf c), .int .i64 0] 104) = w2 at *
  have hts := HSA.out
  refine (hN0 w1.heap.size w2 HRT.out).mono ?_
  rintro e w3 ⟨rfl, hg3, hr3⟩
  have hz3 := (hg3.block w.heap.size (by omega) (by intro e; have := Option.some.inj e; omega)).trans HZA.out
  have hb3 := below_take HBA.out (by omega) hg3
  have hs3 := hg3.size
  generalize w1.heap.size = t at *
  have htl : t < w3.heap.size := by omega
  have hwt : w.heap.size < t := hw1
  clear HRT HZA HBA HSA hN0 hg3 hc0 hbb hts hs3 hw1
  have hmA := World.alloc_heap_new w3 (.cells (mcells Mt.zero) 32)
  have hrA : Rt (w3.alloc (.cells (mcells Mt.zero) 32)) t ⟨r, 0⟩ := hr3.below (Nat.le_refl _) (below_box _ _)
  have hzA := (Below.heap_alloc w3 (.cells (mcells Mt.zero) 32) w.heap.size (by omega)).trans hz3
  have hbA := hb3.alloc hb3.size (.cells (mcells Mt.zero) 32)
  have hsA : w3.heap.size < (w3.alloc (.cells (mcells Mt.zero) 32)).heap.size := by simp
  have HM0 : Hid ((w3.alloc (.cells (mcells Mt.zero) 32)).heap[w3.heap.size]? = some (.cells #[.int .i64 0, .int .u64 0, .int .i64 0, .int .i64 0, .int .i64 0] 32 (0, 0))) := Lib.hid hmA
  have HR0 := Lib.hid hrA
  have HZ0 := Lib.hid hzA
  have HB0 := Lib.hid hbA
  have HS0 := Lib.hid hsA
  clear hmA hrA hzA hbA hsA hr3 hz3 hb3
  go_wp2_with fail
  unfold mcells Mt.zero at HR0 HB0 HS0
  have HM0 : Hid ((w3.alloc (.cells #[.int .i64 0, .int .u64 0, .int .i64 0, .int .i64 0, .int .i64 0] 32)).heap[w3.heap.size]? = some (.cells #[.int .i64 0, .int .u64 0, .int .i64 0, .int .i64 0, .int .i64 0] 32 (0, 0))) := HM0
  have HZ0 : Hid ((w3.alloc (.cells #[.int .i64 0, .int .u64 0, .int .i64 0, .int .i64 0, .int .i64 0] 32)).heap[w.heap.size]? = some (.cells (mcells Mt.zero) 32 (0, 0))) := HZ0
  have HR0 : Hid (Rt (w3.alloc (.cells #[.int .i64 0, .int .u64 0, .int .i64 0, .int .i64 0, .int .i64 0] 32)) t ⟨r, 0⟩) := HR0
  have HB0 : Hid (Below w.heap.size w (w3.alloc (.cells #[.int .i64 0, .int .u64 0, .int .i64 0, .int .i64 0, .int .i64 0] 32))) := HB0
  have HS0 : Hid (w3.heap.size < (w3.alloc (.cells #[.int .i64 0, .int .u64 0, .int .i64 0, .int .i64 0, .int .i64 0] 32)).heap.size) := HS0
  generalize w3.alloc (.cells #[.int .i64 0, .int .u64 0, .int .i64 0, .int .i64 0, .int .i64 0] 32) = wa0 at *
  generalize w3.heap.size = g at *
  have hs0' := HS0.out
  refine (hN1 t wa0 HR0.out).mono ?_
  rintro e wb0 ⟨rfl, hg, hr⟩
  have hm := (hg.block g (by omega) (by intro e; have := Option.some.inj e; omega)).trans HM0.out
  have hz := (hg.block w.heap.size (by omega) (by intro e; have := Option.some.inj e; omega)).trans HZ0.out
  have hb := below_take HB0.out (by omega) hg
  have hs := hg.size
  have hcm : wb0.cell? ⟨g, 0, none⟩ = some (.int .i64 0) := by simp [World.cell?, hm]
  have hfm : wb0.frozen? ⟨g, 0, none⟩ = false := by simp [World.frozen?, hm]
  have HM1 : Hid ((wb0.setCell ⟨g, 0, none⟩ (.int .i64 x1)).heap[g]? = some (.cells #[.int .i64 x1, .int .u64 0, .int .i64 0, .int .i64 0, .int .i64 0] 32 (0, 0))) := Lib.hid (heap_setCell_at 0 (.int .i64 x1) hm)
  have HR1 : Hid (Rt (wb0.setCell ⟨g, 0, none⟩ (.int .i64 x1)) t ⟨r1, 0⟩) := Lib.hid ((Below.heap_setCell wb0 ⟨g, 0, none⟩ _ t (by simp; omega)).trans hr)
  have HZ1 : Hid ((wb0.setCell ⟨g, 0, none⟩ (.int .i64 x1)).heap[w.heap.size]? = some (.cells (mcells Mt.zero) 32 (0, 0))) := Lib.hid ((Below.heap_setCell wb0 ⟨g, 0, none⟩ _ w.heap.size (by simp; omega)).trans hz)
  have HB1 : Hid (Below w.heap.size w (wb0.setCell ⟨g, 0, none⟩ (.int .i64 x1))) := Lib.hid (hb.setCell (p := ⟨g, 0, none⟩) (by simp; omega) _)
  have HS1 : Hid (g < (wb0.setCell ⟨g, 0, none⟩ (.int .i64 x1)).heap.size) := Lib.hid (by simp; omega)
  clear HM0 HR0 HZ0 HB0 HS0 hN1 hg hr hm hz hb hs hs0'
  go_wp2_with fail
  generalize wb0.setCell ⟨g, 0, none⟩ (.int .i64 x1) = wa1 at *
  clear hcm hfm
  have hs1' := HS1.out
  refine (hN2 t wa1 HR1.out).mono ?_
  rintro e wb1 ⟨rfl, hg, hr⟩
  have hm := (hg.block g (by omega) (by intro e; have := Option.some.inj e; omega)).trans HM1.out
  have hz := (hg.block w.heap.size (by omega) (by intro e; have := Option.some.inj e; omega)).trans HZ1.out
  have hb := below_take HB1.out (by omega) hg
  have hs := hg.size
  have hcm : wb1.cell? ⟨g, 1, none⟩ = some (.int .u64 0) := by simp [World.cell?, hm]
  have hfm : wb1.frozen? ⟨g, 1, none⟩ = false := by simp [World.frozen?, hm]
  have HM2 : Hid ((wb1.setCell ⟨g, 1, none⟩ (.int .u64 x2)).heap[g]? = some (.cells #[.int .i64 x1, .int .u64 x2, .int .i64 0, .int .i64 0, .int .i64 0] 32 (0, 0))) := Lib.hid (heap_setCell_at 1 (.int .u64 x2) hm)
  have HR2 : Hid (Rt (wb1.setCell ⟨g, 1, none⟩ (.int .u64 x2)) t ⟨r2, 0⟩) := Lib.hid ((Below.heap_setCell wb1 ⟨g, 1, none⟩ _ t (by simp; omega)).trans hr)
  have HZ2 : Hid ((wb1.setCell ⟨g, 1, none⟩ (.int .u64 x2)).heap[w.heap.size]? = some (.cells (mcells Mt.zero) 32 (0, 0))) := Lib.hid ((Below.heap_setCell wb1 ⟨g, 1, none⟩ _ w.heap.size (by simp; omega)).trans hz)
  have HB2 : Hid (Below w.heap.size w (wb1.setCell ⟨g, 1, none⟩ (.int .u64 x2))) := Lib.hid (hb.setCell (p := ⟨g, 1, none⟩) (by simp; omega) _)
  have HS2 : Hid (g < (wb1.setCell ⟨g, 1, none⟩ (.int .u64 x2)).heap.size) := Lib.hid (by simp; omega)
  clear HM1 HR1 HZ1 HB1 HS1 hN2 hg hr hm hz hb hs hs1'
  go_wp2_with fail
  generalize wb1.setCell ⟨g, 1, none⟩ (.int .u64 x2) = wa2 at *
  clear hcm hfm
  have hs2' := HS2.out
  refine (hN3 t wa2 HR2.out).mono ?_
  rintro e wb2 ⟨rfl, hg, hr⟩
  have hm := (hg.block g (by omega) (by intro e; have := Option.some.inj e; omega)).trans HM2.out
  have hz := (hg.block w.heap.size (by omega) (by intro e; have := Option.some.inj e; omega)).trans HZ2.out
  have hb := below_take HB2.out (by omega) hg
  have hs := hg.size
  have hcm : wb2.cell? ⟨g, 2, none⟩ = some (.int .i64 0) := by simp [World.cell?, hm]
  have hfm : wb2.frozen? ⟨g, 2, none⟩ = false := by simp [World.frozen?, hm]
  have HM3 : Hid ((wb2.setCell ⟨g, 2, none⟩ (.int .i64 x3)).heap[g]? = some (.cells #[.int .i64 x1, .int .u64 x2, .int .i64 x3, .int .i64 0, .int .i64 0] 32 (0, 0))) := Lib.hid (heap_setCell_at 2 (.int .i64 x3) hm)
  have HR3 : Hid (Rt (wb2.setCell ⟨g, 2, none⟩ (.int .i64 x3)) t ⟨r3, 0⟩) := Lib.hid ((Below.heap_setCell wb2 ⟨g, 2, none⟩ _ t (by simp; omega)).trans hr)
  have HZ3 : Hid ((wb2.setCell ⟨g, 2, none⟩ (.int .i64 x3)).heap[w.heap.size]? = some (.cells (mcells Mt.zero) 32 (0, 0))) := Lib.hid ((Below.heap_setCell wb2 ⟨g, 2, none⟩ _ w.heap.size (by simp; omega)).trans hz)
  have HB3 : Hid (Below w.heap.size w (wb2.setCell ⟨g, 2, none⟩ (.int .i64 x3))) := Lib.hid (hb.setCell (p := ⟨g, 2, none⟩) (by simp; omega) _)
  have HS3 : Hid (g < (wb2.setCell ⟨g, 2, none⟩ (.int .i64 x3)).heap.size) := Lib.hid (by simp; omega)
  clear HM2 HR2 HZ2 HB2 HS2 hN3 hg hr hm hz hb hs hs2'
  go_wp2_with fail
  generalize wb2.setCell ⟨g, 2, none⟩ (.int .i64 x3) = wa3 at *
  clear hcm hfm
  have hs3' := HS3.out
  refine (hN4 t wa3 HR3.out).mono ?_
  rintro e wb3 ⟨rfl, hg, hr⟩
  have hm := (hg.block g (by omega) (by intro e; have := Option.some.inj e; omega)).trans HM3.out
  have hz := (hg.block w.heap.size (by omega) (by intro e; have := Option.some.inj e; omega)).trans HZ3.out
  have hb := below_take HB3.out (by omega) hg
  have hs := hg.size
  have hcm : wb3.cell? ⟨g, 3, none⟩ = some (.int .i64 0) := by simp [World.cell?, hm]
  have hfm : wb3.frozen? ⟨g, 3, none⟩ = false := by simp [World.frozen?, hm]
  have HM4 : Hid ((wb3.setCell ⟨g, 3, none⟩ (.int .i64 x4)).heap[g]? = some (.cells #[.int .i64 x1, .int .u64 x2, .int .i64 x3, .int .i64 x4, .int .i64 0] 32 (0, 0))) := Lib.hid (heap_setCell_at 3 (.int .i64 x4) hm)
  have HR4 : Hid (Rt (wb3.setCell ⟨g, 3, none⟩ (.int .i64 x4)) t ⟨r4, 0⟩) := Lib.hid ((Below.heap_setCell wb3 ⟨g, 3, none⟩ _ t (by simp; omega)).trans hr)
  have HZ4 : Hid ((wb3.setCell ⟨g, 3, none⟩ (.int .i64 x4)).heap[w.heap.size]? = some (.cells (mcells Mt.zero) 32 (0, 0))) := Lib.hid ((Below.heap_setCell wb3 ⟨g, 3, none⟩ _ w.heap.size (by simp; omega)).trans hz)
  have HB4 : Hid (Below w.heap.size w (wb3.setCell ⟨g, 3, none⟩ (.int .i64 x4))) := Lib.hid (hb.setCell (p := ⟨g, 3, none⟩) (by simp; omega) _)
  have HS4 : Hid (g < (wb3.setCell ⟨g, 3, none⟩ (.int .i64 x4)).heap.size) := Lib.hid (by simp; omega)
  clear HM3 HR3 HZ3 HB3 HS3 hN4 hg hr hm hz hb hs hs3'
  go_wp2_with fail
  generalize wb3.setCell ⟨g, 3, none⟩ (.int .i64 x4) = wa4 at *
  clear hcm hfm
  have hs4' := HS4.out
  refine (hN5 t wa4 HR4.out).mono ?_
  rintro e wb4 ⟨rfl, hg, hr⟩
  have hm := (hg.block g (by omega) (by intro e; have := Option.some.inj e; omega)).trans HM4.out
  have hz := (hg.block w.heap.size (by omega) (by intro e; have := Option.some.inj e; omega)).trans HZ4.out
  have hb := below_take HB4.out (by omega) hg
  have hs := hg.size
  have hcm : wb4.cell? ⟨g, 4, none⟩ = some (.int .i64 0) := by simp [World.cell?, hm]
  have hfm : wb4.frozen? ⟨g, 4, none⟩ = false := by simp [World.frozen?, hm]
  have HM5 : Hid ((wb4.setCell ⟨g, 4, none⟩ (.int .i64 x5)).heap[g]? = some (.cells #[.int .i64 x1, .int .u64 x2, .int .i64 x3, .int .i64 x4, .int .i64 x5] 32 (0, 0))) := Lib.hid (heap_setCell_at 4 (.int .i64 x5) hm)
  have HR5 : Hid (Rt (wb4.setCell ⟨g, 4, none⟩ (.int .i64 x5)) t ⟨r5, 0⟩) := Lib.hid ((Below.heap_setCell wb4 ⟨g, 4, none⟩ _ t (by simp; omega)).trans hr)
  have HZ5 : Hid ((wb4.setCell ⟨g, 4, none⟩ (.int .i64 x5)).heap[w.heap.size]? = some (.cells (mcells Mt.zero) 32 (0, 0))) := Lib.hid ((Below.heap_setCell wb4 ⟨g, 4, none⟩ _ w.heap.size (by simp; omega)).trans hz)
  have HB5 : Hid (Below w.heap.size w (wb4.setCell ⟨g, 4, none⟩ (.int .i64 x5))) := Lib.hid (hb.setCell (p := ⟨g, 4, none⟩) (by simp; omega) _)
  have HS5 : Hid (g < (wb4.setCell ⟨g, 4, none⟩ (.int .i64 x5)).heap.size) := Lib.hid (by simp; omega)
  have c0 : wb4.cell? ⟨g, 0, none⟩ = some (.int .i64 x1) := by simp [World.cell?, hm]
  have c1 : wb4.cell? ⟨g, 1, none⟩ = some (.int .u64 x2) := by simp [World.cell?, hm]
  have c2 : wb4.cell? ⟨g, 2, none⟩ = some (.int .i64 x3) := by simp [World.cell?, hm]
  have c3 : wb4.cell? ⟨g, 3, none⟩ = some (.int .i64 x4) := by simp [World.cell?, hm]
  clear HM4 HR4 HZ4 HB4 HS4 hN5 hg hr hm hz hb hs hs4'
  go_wp2_with fail
  generalize wb4.setCell ⟨g, 4, none⟩ (.int .i64 x5) = wa5 at *
  clear hcm hfm
  clear c0 c1 c2 c3 HR5
  have HMV : Hid (mv (decM r) = .agg #[.int .i64 x1, .int .u64 x2, .int .i64 x3, .int .i64 x4, .int .i64 x5]) := Lib.hid (by rw [HDEC.out]; rfl)
  have HF : Hid (mcells (decM r) = #[.int .i64 x1, .int .u64 x2, .int .i64 x3, .int .i64 x4, .int .i64 x5]) := Lib.hid (by rw [HDEC.out]; rfl)
  have HDF : Hid (RGetForm w b r = fun e w' => if metaOk (decM r) && pageOf 5 [metaB (decM r)] == b then GetPost w (decM r) 0 e w' else GetPost w Mt.zero 11 e w') := Lib.hid rfl
  clear HDEC
  generalize decM r = m at *
  have hput := rput_any m wa5 HW.out.2.1
  rw [HMV.out] at hput
  have hsl := HS5.out
  have hwl : w.heap.size < wa5.heap.size := by omega
  cases hok : metaOk m
  · have hE : putE m = 1 := by rw [putE, hok]; rfl
    rw [hE] at hput
    generalize putV m = pv at *
    have HD := Lib.hid (show RGetForm w b r = GetPost w Mt.zero 11 by rw [HDF.out]; funext e w'; simp [hok])
    clear HDF hok hE
    refine hput.mono ?_
    rintro e w7 ⟨rfl, hb7⟩
    have hz7 := (hb7.block _ hwl).trans HZ5.out
    have hb8 := below_then HB5.out hb7
    obtain ⟨g0, g1, g2, g3, g4⟩ := rbox_cells (m := Mt.zero) hz7
    obtain ⟨f0, f1, f2, f3, f4⟩ := mbox_frozen (m := Mt.zero) hz7
    clear hput hb7
    go_wp2_with fail
    refine bodyPost_ret (v := .tuple #[mv Mt.zero, .int .i64 11]) (by simp [results, Tryd.results22, go_sem, mv, mcells, Mt.zero, g0, g1, g2, g3, g4]) rfl ?_
    rw [HD.out]
    exact ⟨rfl, ((((hb8.setCell (Nat.le_refl _) _).setCell (Nat.le_refl _) _).setCell (Nat.le_refl _) _).setCell (Nat.le_refl _) _).setCell (Nat.le_refl _) _⟩
  · have hE : putE m = 0 := by rw [putE, hok]; rfl
    have hV : putV m = pageOf 5 [metaB m] := by rw [putV, hok]; rfl
    rw [hE, hV] at hput
    have HD := Lib.hid (show RGetForm w b r = fun e w' => if pageOf 5 [metaB m] == b then GetPost w m 0 e w' else GetPost w Mt.zero 11 e w' by rw [HDF.out, hok]; simp)
    clear HDF hok hE hV
    have hst := strOf_toList
    generalize pageOf 5 [metaB m] = pg at *
    cases hq : (pg == b)
    · have hq2 : (pg != b) = true := by rw [bne, hq]; rfl
      refine hput.mono ?_
      rintro e w7 ⟨rfl, hb7⟩
      have hz7 := (hb7.block _ hwl).trans HZ5.out
      have hb8 := below_then HB5.out hb7
      obtain ⟨g0, g1, g2, g3, g4⟩ := rbox_cells (m := Mt.zero) hz7
      obtain ⟨f0, f1, f2, f3, f4⟩ := mbox_frozen (m := Mt.zero) hz7
      have HD2 := Lib.hid (show RGetForm w b r = GetPost w Mt.zero 11 by rw [HD.out]; funext e w'; simp [hq])
      clear hput hb7 HD
      go_wp2_with fail
      refine bodyPost_ret (v := .tuple #[mv Mt.zero, .int .i64 11]) (by simp [results, Tryd.results22, go_sem, mv, mcells, Mt.zero, g0, g1, g2, g3, g4]) rfl ?_
      rw [HD2.out]
      exact ⟨rfl, ((((hb8.setCell (Nat.le_refl _) _).setCell (Nat.le_refl _) _).setCell (Nat.le_refl _) _).setCell (Nat.le_refl _) _).setCell (Nat.le_refl _) _⟩
    · have hq2 : (pg != b) = false := by rw [bne, hq]; rfl
      refine hput.mono ?_
      rintro e w7 ⟨rfl, hb7⟩
      have hz7 := (hb7.block _ hwl).trans HZ5.out
      have hm7 := (hb7.block _ hsl).trans HM5.out
      have hb8 := below_then HB5.out hb7
      obtain ⟨g0, g1, g2, g3, g4⟩ := rbox_cells (m := Mt.zero) hz7
      obtain ⟨f0, f1, f2, f3, f4⟩ := mbox_frozen (m := Mt.zero) hz7
      have d0 : w7.cell? ⟨g, 0, none⟩ = some (.int .i64 x1) := by simp [World.cell?, hm7]
      have d1 : w7.cell? ⟨g, 1, none⟩ = some (.int .u64 x2) := by simp [World.cell?, hm7]
      have d2 : w7.cell? ⟨g, 2, none⟩ = some (.int .i64 x3) := by simp [World.cell?, hm7]
      have d3 : w7.cell? ⟨g, 3, none⟩ = some (.int .i64 x4) := by simp [World.cell?, hm7]
      have d4 : w7.cell? ⟨g, 4, none⟩ = some (.int .i64 x5) := by simp [World.cell?, hm7]
      have HD2 := Lib.hid (show RGetForm w b r = GetPost w m 0 by rw [HD.out]; funext e w'; simp [hq])
      clear hput hb7 HD hm7 hz7
      go_wp2_with fail
      refine bodyPost_ret (v := .tuple #[mv m, .int .i64 0]) (by rw [HMV.out]; simp [results, Tryd.results22, go_sem, g0, g1, g2, g3, g4]) rfl ?_
      rw [HD2.out]
      exact ⟨rfl, ((((hb8.setCell (Nat.le_refl _) _).setCell (Nat.le_refl _) _).setCell (Nat.le_refl _) _).setCell (Nat.le_refl _) _).setCell (Nat.le_refl _) _⟩

theorem rget_any (b : List UInt8) (w : World) (hl : b.length ≤ 140737488351232) :
    Calls Tryd.prog 22 #[.string (strOf b)] w (GetPost w (getM b) (getE b)) := by
  by_cases hE : unpE b = 0
  · by_cases hk : (unpL b).length = 1 ∧ (cellM b).length = 19
    · obtain ⟨h1, h19⟩ := hk
      obtain ⟨c, hc⟩ : ∃ c, unpL b = [c] := by
        match hx : unpL b, h1 with
        | [c], _ => exact ⟨c, rfl⟩
      have hcm : cellM b = c := by rw [cellM, hc]; rfl
      rw [hcm] at h19
      refine (rget_form b w hE hl c hc h19).mono ?_
      intro e w' hp
      unfold RGetForm at hp
      have hgb : getB b = (metaOk (decM (c.drop 4)) && (pageOf 5 [metaB (decM (c.drop 4))] == b)) := by
        cases hok : metaOk (decM (c.drop 4))
        · rw [getB, hcm, hok]; simp
        · rw [getB_page b c hE hc h19 hok]; simp
      by_cases hB : getB b = true
      · have hB' := hB
        rw [hgb] at hB'
        rw [if_pos hB'] at hp
        have hE2 : getE b = 0 := by rw [getE, if_neg (by rw [hE]; simp), if_pos hB]
        rw [getM, hE2, hcm]; exact hp
      · have hB' := hB
        rw [hgb] at hB'
        rw [if_neg hB'] at hp
        have hE2 : getE b = 11 := by rw [getE, if_neg (by rw [hE]; simp), if_neg hB]
        rw [getM, hE2]; exact hp
    · refine (rget_kind b w hE hl hk).mono ?_
      intro e w' hp
      have hB : getB b = false := by
        rw [getB]
        by_cases h1 : (unpL b).length = 1
        · have h2 : ¬ (cellM b).length = 19 := fun e => hk ⟨h1, e⟩
          simp [h2]
        · simp [h1]
      have hE2 : getE b = 11 := by rw [getE, if_neg (by rw [hE]; simp), hB]; rfl
      rw [getM, hE2]; exact hp
  · refine (rget_err b w hE hl).mono ?_
    intro e w' hp
    have hE2 : getE b = unpE b := by rw [getE, if_pos hE]
    rw [getM, hE2, if_neg hE]; exact hp
end Go.Proofs.YtjdepdgoaopfoaaDoor
