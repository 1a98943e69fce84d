/- The walks of the chapter on metas: the document's. -/
import Derived.Test.YtjdepdgoaopfoaaDoorMetP
import Derived.Deep.RegionHeld3
import Derived.Outline
namespace Go.Proofs.YtjdepdgoaopfoaaDoor
open Go.RowKit

set_option maxRecDepth 100000 in
set_option maxHeartbeats 1000000 in
theorem rplace_any (m : Mt) (n : Int) (w : World) :
    Calls Tryd.prog 46 #[mv m, .int .i64 n] w fun e w' => e = .returned (.bool (placeB m n)) ∧ Below w.heap.size w w' := by
  unfold mv mcells
  go_enter Tryd.func46, Tryd.ntmps46
  go_wp2
  all_goals
    go_ret
    exact ⟨ret_bool (by first | (simp only [placeB]; done) | (simp only [placeB]; simp [*]; done) | (simp only [placeB]; simp [*]; omega)), below_box _ _⟩

set_option maxRecDepth 100000 in
set_option maxHeartbeats 1000000 in
theorem rslot_any (n : Nat) (w : World) (hn : n < 18446744073709551616) :
    Calls Tryd.prog 20 #[.int .u64 n] w fun e w' => e = .returned (.int .i64 ((n % 2 : Nat) : Int)) ∧ w = w' := by
  go_enter Tryd.func20, Tryd.ntmps20
  go_wp2
  go_ret
  exact ⟨ret_int (by first | rfl | omega | (simp [IntKind.wrap, IntKind.signed, IntKind.bits]; omega)), rfl⟩
set_option maxRecDepth 100000 in
set_option maxHeartbeats 1000000 in
theorem slot_any (n : Nat) (w : World) (hn : n < 18446744073709551616) :
    Calls Tryd.prog 19 #[.int .u64 n] w fun e w' => e = .returned (.int .i64 ((n % 2 : Nat) : Int)) ∧ w = w' := by
  have h := u64_and_nat n 1 hn (by decide)
  have e2 : n &&& 1 = n % 2 := Nat.and_two_pow_sub_one_eq_mod n 1
  rw [e2] at h
  have h : bits .and .u64 (n : Int) 1 = ((n % 2 : Nat) : Int) := h
  generalize hq : n % 2 = q at *
  have hq2 : q < 2 := by omega
  clear hq
  go_enter Tryd.func19, Tryd.ntmps19
  go_wp2
  go_ret
  exact ⟨rfl, rfl⟩

theorem rbox_cells {w : World} {b : Nat} {m : Mt} {t : TypeId} (h : w.heap[b]? = some (.cells (mcells m) t (0, 0))) :
    w.cell? ⟨b, 0, none⟩ = some (.int .i64 m.label) ∧ w.cell? ⟨b, 1, none⟩ = some (.int .u64 m.txn) ∧ w.cell? ⟨b, 2, none⟩ = some (.int .i64 m.root) ∧ w.cell? ⟨b, 3, none⟩ = some (.int .i64 m.list) ∧ w.cell? ⟨b, 4, none⟩ = some (.int .i64 m.high) := by
  simp [World.cell?, h, mcells]

set_option maxRecDepth 100000 in
set_option maxHeartbeats 4000000 in
theorem rcheck_any (m : Mt) (w : World) :
    Calls Tryd.prog 18 #[mv m] w fun e w' => e = .returned (.bool (metaOk m)) ∧ Below w.heap.size w w' := by
  have hB := below_box w (.cells (mcells m) 32)
  have hblk := World.alloc_heap_new w (.cells (mcells m) 32)
  have hlt : w.heap.size < (w.alloc (.cells (mcells m) 32)).heap.size := by simp
  have hp1 := rplace_any m m.root (w.alloc (.cells (mcells m) 32))
  have hp2 := fun W => rplace_any m m.list W
  have HBLK := Lib.hid hblk
  have HLT := Lib.hid hlt
  clear hblk hlt
  unfold mv mcells at *
  by_cases h1 : 0 ≤ m.label
  · by_cases h2 : m.label < 64
    · by_cases h3 : 0 < m.txn
      · by_cases h4 : 2 ≤ m.high
        · by_cases h5 : m.high ≤ 1000
          · have HR := Lib.hid (show metaOk m = (placeB m m.root && (placeB m m.list && (m.root == 0 || m.root != m.list))) by simp [metaOk, h1, h2, h3, h4, h5])
            cases hx : placeB m m.root
            · rw [hx] at hp1 HR
              go_enter Tryd.func18, Tryd.ntmps18
              go_wp2_with fail
              refine hp1.mono ?_
              rintro e w1 ⟨rfl, hb1⟩
              have hb1' := below_then hB hb1
              go_wp2_with fail
              go_ret
              exact ⟨ret_bool (by rw [HR.out]; rfl), hb1'⟩
            · rw [hx] at hp1 HR
              go_enter Tryd.func18, Tryd.ntmps18
              go_wp2_with fail
              refine hp1.mono ?_
              rintro e w1 ⟨rfl, hb1⟩
              have hb1' := below_then hB hb1
              obtain ⟨g0, g1, g2, g3, g4⟩ := rbox_cells (m := m) ((hb1.block _ HLT.out).trans HBLK.out)
              have hbl := (hb1.block _ HLT.out).trans HBLK.out
              have HB1 := Lib.hid hbl
              have hlt1 : w.heap.size < w1.heap.size := (Array.getElem?_eq_some_iff.1 hbl).1
              have hp2 := hp2 w1
              clear hp1 hbl
              cases hy : placeB m m.list
              · rw [hy] at hp2 HR
                go_wp2_with fail
                refine hp2.mono ?_
                rintro e w2 ⟨rfl, hb2⟩
                have hb2' := below_then hb1' hb2
                go_wp2_with fail
                go_ret
                exact ⟨ret_bool (by rw [HR.out]; rfl), hb2'⟩
              · rw [hy] at hp2 HR
                go_wp2_with fail
                refine hp2.mono ?_
                rintro e w2 ⟨rfl, hb2⟩
                have hb2' := below_then hb1' hb2
                clear g0 g1 g2 g3 g4
                obtain ⟨g0, g1, g2, g3, g4⟩ := rbox_cells (m := m) ((hb2.block _ hlt1).trans HB1.out)
                go_wp2_with fail
                all_goals
                  go_ret
                  exact ⟨ret_bool (by rw [HR.out]; first | (simp; done) | (simp [*]; done) | (simp [*]; omega)), hb2'⟩
          · have h5' : 1000 < m.high := by omega
            have HR := Lib.hid (show metaOk m = false by rw [← Bool.not_eq_true, metaOk_iff]; omega)
            clear hp1 hp2
            go_enter Tryd.func18, Tryd.ntmps18
            go_wp2_with fail
            go_ret
            exact ⟨ret_bool HR.out.symm, below_box _ _⟩
        · have h4' : m.high < 2 := by omega
          have HR := Lib.hid (show metaOk m = false by rw [← Bool.not_eq_true, metaOk_iff]; omega)
          clear hp1 hp2
          go_enter Tryd.func18, Tryd.ntmps18
          go_wp2_with fail
          go_ret
          exact ⟨ret_bool HR.out.symm, below_box _ _⟩
      · have h3' : m.txn = 0 := by omega
        have HR := Lib.hid (show metaOk m = false by rw [← Bool.not_eq_true, metaOk_iff]; omega)
        clear hp1 hp2
        have H3 := Lib.hid h3'
        have h3'' : ¬ (0 : Int) < (m.txn : Int) := by omega
        go_enter Tryd.func18, Tryd.ntmps18
        go_wp2_with fail
        go_ret
        exact ⟨ret_bool HR.out.symm, below_box _ _⟩
    · have h2' : 64 ≤ m.label := by omega
      have HR := Lib.hid (show metaOk m = false by rw [← Bool.not_eq_true, metaOk_iff]; omega)
      clear hp1 hp2
      go_enter Tryd.func18, Tryd.ntmps18
      go_wp2_with fail
      go_ret
      exact ⟨ret_bool HR.out.symm, below_box _ _⟩
  · have h1' : m.label < 0 := by omega
    have HR := Lib.hid (show metaOk m = false by rw [← Bool.not_eq_true, metaOk_iff]; omega)
    clear hp1 hp2
    go_enter Tryd.func18, Tryd.ntmps18
    go_wp2_with fail
    go_ret
    exact ⟨ret_bool HR.out.symm, below_box _ _⟩
end Go.Proofs.YtjdepdgoaopfoaaDoor
