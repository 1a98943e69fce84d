/- The walks of the chapter on nodes: the reference's entry of a cell. -/
import Derived.Test.YtjdepdgoaopfoaaDoorNodS
import Derived.Test.YtjdepdgoaopfoaaDoorNodG
import Derived.Test.YtjdepdgoaopfoaaDoorCelY
import Derived.Test.YtjdepdgoaopfoaaDoorOctR
namespace Go.Proofs.YtjdepdgoaopfoaaDoor
open Go.RowKit

/-- An entry, whether it is one. -/
def OneOf (o : Option En) (x : En) (is : Bool) : Prop := match o with | some y => is = true ∧ x = y | none => is = false
def OnePost (w : World) (o : Option En) (e : Ending) (w' : World) : Prop := ∃ (x : En) (is : Bool), e = .returned (.tuple #[ev x, .bool is]) ∧ OneOf o x is ∧ Below w.heap.size w w'
theorem Rt.new {w : World} (l : List UInt8) : Rt (w.alloc (.cells #[.string (strOf l), .int .i64 0] 104)) w.heap.size ⟨l, 0⟩ := World.alloc_heap_new w _
theorem Rt.boxed {w w' : World} {t b : Nat} {s : TSt} (h : Rt w t s) (hg : w.grownBy w' (some b)) (hne : t ≠ b) : Rt w' t s := h.grown hg (fun e => hne (by cases e; rfl))

/-- A box of five cells, written over. -/
theorem box_five {w : World} {b : Nat} {x0 x1 x2 x3 x4 : Value} {B : Nat} {w0 : World} (h : Boxes w [(b, [x0, x1, x2, x3, x4])]) (hb : Below B w0 w) (hB : B ≤ b) (y0 y1 y2 y3 y4 : Value) :
    ∃ w', w' = ((((w.setCell ⟨b, 0, none⟩ y0).setCell ⟨b, 1, none⟩ y1).setCell ⟨b, 2, none⟩ y2).setCell ⟨b, 3, none⟩ y3).setCell ⟨b, 4, none⟩ y4 ∧ Boxes w' [(b, [y0, y1, y2, y3, y4])] ∧ Below B w0 w' :=
  ⟨_, rfl, (((((h.put 0 y0 (by simp)).put 1 y1 (by simp)).put 2 y2 (by simp)).put 3 y3 (by simp)).put 4 y4 (by simp)), ((((hb.setCell hB _).setCell hB _).setCell hB _).setCell hB _).setCell hB _⟩

set_option maxRecDepth 100000 in
set_option maxHeartbeats 8000000 in
theorem one_branch (c : List UInt8) (w : World) (hl : c.length ≤ 1000000) :
    Calls Tryd.prog 64 #[.bool false, .string (strOf c)] w (OnePost w (decE false c)) := by
  have hB := below_two' w (.cells #[.string ⟨#[]⟩, .string ⟨#[]⟩, .bool false, .int .i64 0, .int .i64 0] 108) (.cells #[.string (strOf c), .int .i64 0] 104)
  have BX := (Boxes.nil w).alloc #[.string ⟨#[]⟩, .string ⟨#[]⟩, .bool false, .int .i64 0, .int .i64 0] 108 rfl
  have HR := Rt.new (w := w.alloc (.cells #[.string ⟨#[]⟩, .string ⟨#[]⟩, .bool false, .int .i64 0, .int .i64 0] 108)) c
  rw [show (w.alloc (.cells #[.string ⟨#[]⟩, .string ⟨#[]⟩, .bool false, .int .i64 0, .int .i64 0] 108)).heap.size = w.heap.size + 1 from by simp] at HR
  have BX := BX.step (below_one _ (.cells #[.string (strOf c), .int .i64 0] 104))
  have hde : decE false c = if tDone (tNum (tText ⟨c, 0⟩).2 2).2 = 0 then some ⟨(tText ⟨c, 0⟩).1, [], false, 0, ((tNum (tText ⟨c, 0⟩).2 2).1 : Int)⟩ else none := by
    rw [decE, decV, if_neg (by decide)]; split <;> rfl
  have hl1 : (tText ⟨c, 0⟩).2.l.length ≤ 1000000 := Nat.le_trans (tText_len ⟨c, 0⟩) hl
  have TT := fun t W (h : Rt W t ⟨c, 0⟩) => rText_any t ⟨c, 0⟩ W h (Nat.le_trans hl (by decide))
  generalize (tText ⟨c, 0⟩).1 = key at *
  generalize (tText ⟨c, 0⟩).2 = s1 at *
  have TN := fun t W (h : Rt W t s1) => rNum_any t s1 2 W h (Nat.le_trans hl1 (by decide))
  have hn2 : (tNum s1 2).1 < 65536 := tNum_lt s1 2
  generalize (tNum s1 2).1 = n at *
  generalize (tNum s1 2).2 = s2 at *
  have TD := fun t W (h : Rt W t s2) => rDone_any t s2 W h
  generalize tDone s2 = d at *
  have hn3 : ((n : Nat) : Int) < 65536 := by omega
  have HDE := Lib.hid hde
  clear hde hl1 hn2
  generalize decE false c = o at *
  go_enter Tryd.func64, Tryd.ntmps64
  go_wp2_with fail
  refine (TT _ _ HR).mono ?_
  rintro e w3 ⟨rfl, hg3, hr3⟩
  have hb3 := below_take hB (by omega) hg3
  have BX := BX.grown hg3 (fun p hp => by simp at hp; subst hp; simp)
  go_wp2_with fail
  have BX := BX.alloc #[.string (strOf key), .string ⟨#[]⟩, .bool false, .int .i64 0, .int .i64 0] 108 rfl
  have hb3' := below_one w3 (.cells #[.string (strOf key), .string ⟨#[]⟩, .bool false, .int .i64 0, .int .i64 0] 108)
  have hr3 := hr3.below (Nat.le_refl _) hb3'
  have hlt3 := hr3.lt
  have hz3 := hb3.size
  have hlt1 : w.heap.size + 1 < w3.heap.size := by have := hg3.size; simp at this; omega
  refine (TN _ _ hr3).mono ?_
  rintro e w4 ⟨rfl, hg4, hr4⟩
  have hb4 := below_take (below_then hb3 hb3') (by omega) hg4
  have BX := BX.grown hg4 (fun p hp => by simp at hp; rcases hp with rfl | rfl <;> simp <;> omega)
  have g4 := BX.cell 0 4 rfl rfl
  have f4 := BX.frozen 0 4 rfl
  go_wp2_with fail
  have BY := BX.put 4 (.int .i64 (n : Int)) (fun p hp => by simp at hp; subst hp; simp; omega)
  have hr5 := hr4.boxed (grown_setCell w4 ⟨w3.heap.size, 4, none⟩ (.int .i64 (n : Int))) (show w.heap.size + 1 ≠ w3.heap.size by omega)
  have hb5 := hb4.setCell (p := ⟨w3.heap.size, 4, none⟩) (by simp; omega) (.int .i64 (n : Int))
  generalize w4.setCell ⟨w3.heap.size, 4, none⟩ (.int .i64 (n : Int)) = w5 at *
  clear g4 f4 BX hr4 hb4 hg4 hr3 hb3' hg3 hB HR
  simp only [List.set_cons_succ, List.set_cons_zero] at BY
  have e0 := BY.cell 0 0 rfl rfl
  have e1 := BY.cell 0 1 rfl rfl
  have e2 := BY.cell 0 2 rfl rfl
  have e3 := BY.cell 0 3 rfl rfl
  have e4 := BY.cell 0 4 rfl rfl
  have r0 := BY.cell 1 0 rfl rfl
  have r1 := BY.cell 1 1 rfl rfl
  have r2 := BY.cell 1 2 rfl rfl
  have r3 := BY.cell 1 3 rfl rfl
  have r4 := BY.cell 1 4 rfl rfl
  have q0 := BY.frozen 1 0 rfl
  have q1 := BY.frozen 1 1 rfl
  have q2 := BY.frozen 1 2 rfl
  have q3 := BY.frozen 1 3 rfl
  have q4 := BY.frozen 1 4 rfl
  have hr6 : Rt w5.drew (w.heap.size + 1) s2 := hr5
  have TD6 := TD _ _ hr6
  go_region_with (go_at_call 84; (with_reducible refine TD6.mono ?_); rintro e w6 ⟨rfl, rfl⟩)
  all_goals
    go_wp2_with fail
    obtain ⟨w9, hw9, BZ, hb9⟩ := box_five (w := w5) (b := w.heap.size) (BY.sub (m := [(w.heap.size, [.string ⟨#[]⟩, .string ⟨#[]⟩, .bool false, .int .i64 0, .int .i64 0])]) (by simp)) hb5 (Nat.le_refl _) (.string (strOf key)) (.string ⟨#[]⟩) (.bool false) (.int .i64 0) (.int .i64 (n : Int))
    rw [← hw9]
    clear hw9
    have z0 := BZ.cell 0 0 rfl rfl
    have z1 := BZ.cell 0 1 rfl rfl
    have z2 := BZ.cell 0 2 rfl rfl
    have z3 := BZ.cell 0 3 rfl rfl
    have z4 := BZ.cell 0 4 rfl rfl
    refine bodyPost_ret (v := .tuple #[ev ⟨key, [], false, 0, (n : Int)⟩, .bool (d == 0)]) (by simp [results, Tryd.results64, go_sem, ev, strOf, z0, z1, z2, z3, z4]) rfl ⟨_, _, rfl, ?_, ?_⟩
    · rw [HDE.out]; by_cases hd : d = 0
      · rw [if_pos hd]; exact ⟨by simpa using hd, rfl⟩
      · rw [if_neg hd]; show (d == 0) = false; simpa using hd
    · exact hb9.drew

theorem tDone_rest (s : TSt) : tDone (tRest s).2 = (tRest s).2.e := by
  unfold tRest takeF tDone
  by_cases h : s.e = 0
  · simp [h]
  · simp [h]
def leafHead (s1 : TSt) (key : List UInt8) : Option En := (decV true s1).map fun v => ⟨key, v⟩
set_option maxRecDepth 100000 in
set_option maxHeartbeats 8000000 in
theorem one_far (c : List UInt8) (w : World) (hl : c.length ≤ 1000000) (h1 : (tNum (tText ⟨c, 0⟩).2 1).1 = 1) :
    Calls Tryd.prog 64 #[.bool true, .string (strOf c)] w (OnePost w (decE true c)) := by
  have hB := below_two' w (.cells #[.string ⟨#[]⟩, .string ⟨#[]⟩, .bool false, .int .i64 0, .int .i64 0] 108) (.cells #[.string (strOf c), .int .i64 0] 104)
  have BX := (Boxes.nil w).alloc #[.string ⟨#[]⟩, .string ⟨#[]⟩, .bool false, .int .i64 0, .int .i64 0] 108 rfl
  have HR := Rt.new (w := w.alloc (.cells #[.string ⟨#[]⟩, .string ⟨#[]⟩, .bool false, .int .i64 0, .int .i64 0] 108)) c
  rw [show (w.alloc (.cells #[.string ⟨#[]⟩, .string ⟨#[]⟩, .bool false, .int .i64 0, .int .i64 0] 108)).heap.size = w.heap.size + 1 from by simp] at HR
  have BX := BX.step (below_one _ (.cells #[.string (strOf c), .int .i64 0] 104))
  have hde : decE true c = if tDone (tNum (tNum (tNum (tText ⟨c, 0⟩).2 1).2 2).2 2).2 = 0 then some ⟨(tText ⟨c, 0⟩).1, [], true, ((tNum (tNum (tText ⟨c, 0⟩).2 1).2 2).1 : Int), ((tNum (tNum (tNum (tText ⟨c, 0⟩).2 1).2 2).2 2).1 : Int)⟩ else none := by
    rw [decE, decV_leaf, if_neg (by rw [h1]; decide), if_pos h1]; split <;> rfl
  have hl1 : (tText ⟨c, 0⟩).2.l.length ≤ 1000000 := Nat.le_trans (tText_len ⟨c, 0⟩) hl
  have TT := fun t W (h : Rt W t ⟨c, 0⟩) => rText_any t ⟨c, 0⟩ W h (Nat.le_trans hl (by decide))
  generalize (tText ⟨c, 0⟩).1 = key at *
  generalize (tText ⟨c, 0⟩).2 = s1 at *
  have TN := fun t W (h : Rt W t s1) => rNum_any t s1 1 W h (Nat.le_trans hl1 (by decide))
  have hl2 := Nat.le_trans (tNum_len s1 1) hl1
  rw [h1] at TN
  generalize (tNum s1 1).2 = s2 at *
  have TN2 := fun t W (h : Rt W t s2) => rNum_any t s2 2 W h (Nat.le_trans hl2 (by decide))
  have hl3 := Nat.le_trans (tNum_len s2 2) hl2
  have hn2 : (tNum s2 2).1 < 65536 := tNum_lt s2 2
  generalize (tNum s2 2).1 = n2 at *
  generalize (tNum s2 2).2 = s3 at *
  have TN3 := fun t W (h : Rt W t s3) => rNum_any t s3 2 W h (Nat.le_trans hl3 (by decide))
  have hn3 : (tNum s3 2).1 < 65536 := tNum_lt s3 2
  generalize (tNum s3 2).1 = n3 at *
  generalize (tNum s3 2).2 = s4 at *
  have TD := fun t W (h : Rt W t s4) => rDone_any t s4 W h
  generalize tDone s4 = d at *
  have hc2 : ((n2 : Nat) : Int) < 65536 := by omega
  have hc3 : ((n3 : Nat) : Int) < 65536 := by omega
  have HDE := Lib.hid hde
  clear hde hl1 hl2 hl3 hn2 hn3 h1
  generalize decE true c = o at *
  go_enter Tryd.func64, Tryd.ntmps64
  go_wp2_with fail
  refine (TT _ _ HR).mono ?_
  rintro e w3 ⟨rfl, hg3, hr3⟩
  have hb3 := below_take hB (by omega) hg3
  have BX := BX.grown hg3 (fun p hp => by simp at hp; subst hp; simp)
  have BX := BX.alloc #[.string (strOf key), .string ⟨#[]⟩, .bool false, .int .i64 0, .int .i64 0] 108 rfl
  have hb3' := below_one w3 (.cells #[.string (strOf key), .string ⟨#[]⟩, .bool false, .int .i64 0, .int .i64 0] 108)
  go_wp2_with fail
  have hr3 := hr3.below (Nat.le_refl _) hb3'
  have hlt3 := hr3.lt
  have hz3 := hb3.size
  have hlt1 : w.heap.size + 1 < w3.heap.size := by have := hg3.size; simp at this; omega
  have hne : ∀ (vs us : List Value), ∀ p ∈ [(w3.heap.size, vs), (w.heap.size, us)], (some (w.heap.size + 1) : Option Nat) ≠ some p.1 := by intro vs us p hp; simp at hp; rcases hp with rfl | rfl <;> simp <;> omega
  have HNE := Lib.hid hne
  clear hne
  have hb3 := below_then hb3 hb3'
  refine (TN _ _ hr3).mono ?_
  rintro e w4 ⟨rfl, hg4, hr4⟩
  have hb4 := below_take hb3 (by omega) hg4
  have BX := BX.grown hg4 (HNE.out _ _)
  have g2 := BX.cell 0 2 rfl rfl
  have f2 := BX.frozen 0 2 rfl
  have BX := BX.put 2 (.bool true) (fun p hp => by simp at hp; subst hp; simp; omega)
  have hr4 := hr4.boxed (grown_setCell w4 ⟨w3.heap.size, 2, none⟩ (.bool true)) (show w.heap.size + 1 ≠ w3.heap.size by omega)
  have hb4 := hb4.setCell (p := ⟨w3.heap.size, 2, none⟩) (by simp; omega) (.bool true)
  go_wp2_with fail
  generalize w4.setCell ⟨w3.heap.size, 2, none⟩ (.bool true) = w5 at *
  clear g2 f2
  refine (TN2 _ _ hr4).mono ?_
  rintro e w6 ⟨rfl, hg6, hr6⟩
  have hb6 := below_take hb4 (by omega) hg6
  have BX := BX.grown hg6 (HNE.out _ _)
  have g2 := BX.cell 0 3 rfl rfl
  have f2 := BX.frozen 0 3 rfl
  have BX := BX.put 3 (.int .i64 (n2 : Int)) (fun p hp => by simp at hp; subst hp; simp; omega)
  have hr6 := hr6.boxed (grown_setCell w6 ⟨w3.heap.size, 3, none⟩ (.int .i64 (n2 : Int))) (show w.heap.size + 1 ≠ w3.heap.size by omega)
  have hb6 := hb6.setCell (p := ⟨w3.heap.size, 3, none⟩) (by simp; omega) (.int .i64 (n2 : Int))
  go_wp2_with fail
  generalize w6.setCell ⟨w3.heap.size, 3, none⟩ (.int .i64 (n2 : Int)) = w7 at *
  clear g2 f2
  refine (TN3 _ _ hr6).mono ?_
  rintro e w8 ⟨rfl, hg8, hr8⟩
  have hb8 := below_take hb6 (by omega) hg8
  have BX := BX.grown hg8 (HNE.out _ _)
  have g2 := BX.cell 0 4 rfl rfl
  have f2 := BX.frozen 0 4 rfl
  have BY := BX.put 4 (.int .i64 (n3 : Int)) (fun p hp => by simp at hp; subst hp; simp; omega)
  have hr5 := hr8.boxed (grown_setCell w8 ⟨w3.heap.size, 4, none⟩ (.int .i64 (n3 : Int))) (show w.heap.size + 1 ≠ w3.heap.size by omega)
  have hb5 := hb8.setCell (p := ⟨w3.heap.size, 4, none⟩) (by simp; omega) (.int .i64 (n3 : Int))
  go_wp2_with fail
  clear BX hr8 hb8 hg8 g2 f2 hr6 hb6 hg6 hr4 hb4 hg4 hr3 hb3 hb3' hg3 hB HR
  generalize w8.setCell ⟨w3.heap.size, 4, none⟩ (.int .i64 (n3 : Int)) = w5 at *
  simp only [List.set_cons_succ, List.set_cons_zero] at BY
  have e0 := BY.cell 0 0 rfl rfl
  have e1 := BY.cell 0 1 rfl rfl
  have e2 := BY.cell 0 2 rfl rfl
  have e3 := BY.cell 0 3 rfl rfl
  have e4 := BY.cell 0 4 rfl rfl
  have r0 := BY.cell 1 0 rfl rfl
  have r1 := BY.cell 1 1 rfl rfl
  have r2 := BY.cell 1 2 rfl rfl
  have r3 := BY.cell 1 3 rfl rfl
  have r4 := BY.cell 1 4 rfl rfl
  have q0 := BY.frozen 1 0 rfl
  have q1 := BY.frozen 1 1 rfl
  have q2 := BY.frozen 1 2 rfl
  have q3 := BY.frozen 1 3 rfl
  have q4 := BY.frozen 1 4 rfl
  have hr6 : Rt w5.drew (w.heap.size + 1) s4 := hr5
  have TD6 := TD _ _ hr6
  go_region_with (go_at_call 84; (with_reducible refine TD6.mono ?_); rintro e w6 ⟨rfl, rfl⟩)
  all_goals
    go_wp2_with fail
    obtain ⟨w9, hw9, BZ, hb9⟩ := box_five (w := w5) (b := w.heap.size) (BY.sub (m := [(w.heap.size, [.string ⟨#[]⟩, .string ⟨#[]⟩, .bool false, .int .i64 0, .int .i64 0])]) (by simp)) hb5 (Nat.le_refl _) (.string (strOf key)) (.string ⟨#[]⟩) (.bool true) (.int .i64 (n2 : Int)) (.int .i64 (n3 : Int))
    rw [← hw9]
    clear hw9
    have z0 := BZ.cell 0 0 rfl rfl
    have z1 := BZ.cell 0 1 rfl rfl
    have z2 := BZ.cell 0 2 rfl rfl
    have z3 := BZ.cell 0 3 rfl rfl
    have z4 := BZ.cell 0 4 rfl rfl
    refine bodyPost_ret (v := .tuple #[ev ⟨key, [], true, (n2 : Int), (n3 : Int)⟩, .bool (d == 0)]) (by simp [results, Tryd.results64, go_sem, ev, strOf, z0, z1, z2, z3, z4]) rfl ⟨_, _, rfl, ?_, hb9.drew⟩
    rw [HDE.out]; by_cases hd : d = 0
    · rw [if_pos hd]; exact ⟨by simpa using hd, rfl⟩
    · rw [if_neg hd]; show (d == 0) = false; simpa using hd

set_option maxRecDepth 100000 in
set_option maxHeartbeats 8000000 in
theorem one_near (c : List UInt8) (w : World) (hl : c.length ≤ 1000000) (h1 : (tNum (tText ⟨c, 0⟩).2 1).1 ≠ 1) :
    Calls Tryd.prog 64 #[.bool true, .string (strOf c)] w (OnePost w (decE true c)) := by
  have hB := below_two' w (.cells #[.string ⟨#[]⟩, .string ⟨#[]⟩, .bool false, .int .i64 0, .int .i64 0] 108) (.cells #[.string (strOf c), .int .i64 0] 104)
  have BX := (Boxes.nil w).alloc #[.string ⟨#[]⟩, .string ⟨#[]⟩, .bool false, .int .i64 0, .int .i64 0] 108 rfl
  have HR := Rt.new (w := w.alloc (.cells #[.string ⟨#[]⟩, .string ⟨#[]⟩, .bool false, .int .i64 0, .int .i64 0] 108)) c
  rw [show (w.alloc (.cells #[.string ⟨#[]⟩, .string ⟨#[]⟩, .bool false, .int .i64 0, .int .i64 0] 108)).heap.size = w.heap.size + 1 from by simp] at HR
  have BX := BX.step (below_one _ (.cells #[.string (strOf c), .int .i64 0] 104))
  have hde : decE true c = if (tNum (tText ⟨c, 0⟩).2 1).1 = 0 ∧ (tRest (tNum (tText ⟨c, 0⟩).2 1).2).2.e = 0 then some ⟨(tText ⟨c, 0⟩).1, (tRest (tNum (tText ⟨c, 0⟩).2 1).2).1, false, 0, 0⟩ else none := by
    rw [decE, decV_leaf]
    by_cases h0 : (tNum (tText ⟨c, 0⟩).2 1).1 = 0
    · rw [if_pos h0, tDone_rest]; simp only [h0, true_and]; split <;> rfl
    · rw [if_neg h0, if_neg h1, if_neg (fun h => h0 h.1)]; rfl
  have hl1 : (tText ⟨c, 0⟩).2.l.length ≤ 1000000 := Nat.le_trans (tText_len ⟨c, 0⟩) hl
  have TT := fun t W (h : Rt W t ⟨c, 0⟩) => rText_any t ⟨c, 0⟩ W h (Nat.le_trans hl (by decide))
  generalize (tText ⟨c, 0⟩).1 = key at *
  generalize (tText ⟨c, 0⟩).2 = s1 at *
  have TN := fun t W (h : Rt W t s1) => rNum_any t s1 1 W h (Nat.le_trans hl1 (by decide))
  have hl2 := Nat.le_trans (tNum_len s1 1) hl1
  have hk : (tNum s1 1).1 < 256 := tNum_lt s1 1
  generalize (tNum s1 1).1 = k1 at *
  generalize (tNum s1 1).2 = s2 at *
  have TR := fun t W (h : Rt W t s2) => rRest_any t s2 W h (Nat.le_trans hl2 (by decide))
  generalize (tRest s2).1 = r at *
  generalize (tRest s2).2 = s3 at *
  have hk1 : ((k1 : Nat) : Int) < 256 := by omega
  have q1 : ((k1 : Int) == 1) = false := by simp; omega
  have HDE := Lib.hid hde
  clear hde hl1 hl2 h1 hk
  generalize decE true c = o at *
  go_enter Tryd.func64, Tryd.ntmps64
  go_wp2_with fail
  refine (TT _ _ HR).mono ?_
  rintro e w3 ⟨rfl, hg3, hr3⟩
  have hb3 := below_take hB (by omega) hg3
  have BX := BX.grown hg3 (fun p hp => by simp at hp; subst hp; simp)
  have BX := BX.alloc #[.string (strOf key), .string ⟨#[]⟩, .bool false, .int .i64 0, .int .i64 0] 108 rfl
  have hb3' := below_one w3 (.cells #[.string (strOf key), .string ⟨#[]⟩, .bool false, .int .i64 0, .int .i64 0] 108)
  go_wp2_with fail
  have hr3 := hr3.below (Nat.le_refl _) hb3'
  have hlt3 := hr3.lt
  have hz3 := hb3.size
  have hlt1 : w.heap.size + 1 < w3.heap.size := by have := hg3.size; simp at this; omega
  have hne : ∀ (vs us : List Value), ∀ p ∈ [(w3.heap.size, vs), (w.heap.size, us)], (some (w.heap.size + 1) : Option Nat) ≠ some p.1 := by intro vs us p hp; simp at hp; rcases hp with rfl | rfl <;> simp <;> omega
  have HNE := Lib.hid hne
  clear hne
  have hb3 := below_then hb3 hb3'
  refine (TN _ _ hr3).mono ?_
  rintro e w4 ⟨rfl, hg4, hr4⟩
  have hb4 := below_take hb3 (by omega) hg4
  have BX := BX.grown hg4 (HNE.out _ _)
  go_wp2_with fail
  refine (TR _ _ hr4).mono ?_
  rintro e w6 ⟨rfl, hg6, hr6⟩
  have hb6 := below_take hb4 (by omega) hg6
  have BX := BX.grown hg6 (HNE.out _ _)
  have g2 := BX.cell 0 1 rfl rfl
  have f2 := BX.frozen 0 1 rfl
  have BY := BX.put 1 (.string (strOf r)) (fun p hp => by simp at hp; subst hp; simp; omega)
  have hr5 := hr6.boxed (grown_setCell w6 ⟨w3.heap.size, 1, none⟩ (.string (strOf r))) (show w.heap.size + 1 ≠ w3.heap.size by omega)
  have hb5 := hb6.setCell (p := ⟨w3.heap.size, 1, none⟩) (by simp; omega) (.string (strOf r))
  go_wp2_with fail
  clear BX g2 f2 hr6 hb6 hg6 hr4 hb4 hg4 hr3 hb3 hb3' hg3 hB HR
  generalize w6.setCell ⟨w3.heap.size, 1, none⟩ (.string (strOf r)) = w5 at *
  simp only [List.set_cons_succ, List.set_cons_zero] at BY
  have e0 := BY.cell 0 0 rfl rfl
  have e1 := BY.cell 0 1 rfl rfl
  have e2 := BY.cell 0 2 rfl rfl
  have e3 := BY.cell 0 3 rfl rfl
  have e4 := BY.cell 0 4 rfl rfl
  have r0 := BY.cell 1 0 rfl rfl
  have r1 := BY.cell 1 1 rfl rfl
  have r2 := BY.cell 1 2 rfl rfl
  have r3 := BY.cell 1 3 rfl rfl
  have r4 := BY.cell 1 4 rfl rfl
  have q0 := BY.frozen 1 0 rfl
  have q1 := BY.frozen 1 1 rfl
  have q2 := BY.frozen 1 2 rfl
  have q3 := BY.frozen 1 3 rfl
  have q4 := BY.frozen 1 4 rfl
  have t1 := hr5.err
  generalize s3.e = er at *
  by_cases he : er = 0
  · subst he
    by_cases hk0 : k1 = 0
    · subst hk0
      go_region_with (fail)
      all_goals
        go_wp2_with fail
        obtain ⟨w9, hw9, BZ, hb9⟩ := box_five (w := w5) (b := w.heap.size) (BY.sub (m := [(w.heap.size, [.string ⟨#[]⟩, .string ⟨#[]⟩, .bool false, .int .i64 0, .int .i64 0])]) (by simp)) hb5 (Nat.le_refl _) (.string (strOf key)) (.string (strOf r)) (.bool false) (.int .i64 0) (.int .i64 0)
        rw [← hw9]
        clear hw9
        have z0 := BZ.cell 0 0 rfl rfl
        have z1 := BZ.cell 0 1 rfl rfl
        have z2 := BZ.cell 0 2 rfl rfl
        have z3 := BZ.cell 0 3 rfl rfl
        have z4 := BZ.cell 0 4 rfl rfl
        refine bodyPost_ret (v := .tuple #[ev ⟨key, r, false, 0, 0⟩, .bool true]) (by simp [results, Tryd.results64, go_sem, ev, strOf, z0, z1, z2, z3, z4]) rfl ⟨_, _, rfl, ?_, hb9.drew⟩
        rw [HDE.out, if_pos (by simp)]; exact ⟨rfl, rfl⟩
    · have q0 : ((k1 : Int) == 0) = false := by simp; omega
      go_region_with (fail)
      all_goals
        go_wp2_with fail
        obtain ⟨w9, hw9, BZ, hb9⟩ := box_five (w := w5) (b := w.heap.size) (BY.sub (m := [(w.heap.size, [.string ⟨#[]⟩, .string ⟨#[]⟩, .bool false, .int .i64 0, .int .i64 0])]) (by simp)) hb5 (Nat.le_refl _) (.string (strOf key)) (.string (strOf r)) (.bool false) (.int .i64 0) (.int .i64 0)
        rw [← hw9]
        clear hw9
        have z0 := BZ.cell 0 0 rfl rfl
        have z1 := BZ.cell 0 1 rfl rfl
        have z2 := BZ.cell 0 2 rfl rfl
        have z3 := BZ.cell 0 3 rfl rfl
        have z4 := BZ.cell 0 4 rfl rfl
        refine bodyPost_ret (v := .tuple #[ev ⟨key, r, false, 0, 0⟩, .bool false]) (by simp [results, Tryd.results64, go_sem, ev, strOf, z0, z1, z2, z3, z4]) rfl ⟨_, _, rfl, ?_, hb9.drew⟩
        rw [HDE.out, if_neg (fun h => hk0 h.1)]; rfl
  · have qe : (er == 0) = false := by simpa using he
    have qr : ∀ W, (binOp .eql 27 (.int .i64 er) (.int .i64 0)).run Tryd.prog W = .ok (.bool false) W := fun W => by simp [go_sem, he]
    go_region
    all_goals
      go_wp2_with fail
      obtain ⟨w9, hw9, BZ, hb9⟩ := box_five (w := w5) (b := w.heap.size) (BY.sub (m := [(w.heap.size, [.string ⟨#[]⟩, .string ⟨#[]⟩, .bool false, .int .i64 0, .int .i64 0])]) (by simp)) hb5 (Nat.le_refl _) (.string (strOf key)) (.string (strOf r)) (.bool false) (.int .i64 0) (.int .i64 0)
      rw [← hw9]
      clear hw9
      have z0 := BZ.cell 0 0 rfl rfl
      have z1 := BZ.cell 0 1 rfl rfl
      have z2 := BZ.cell 0 2 rfl rfl
      have z3 := BZ.cell 0 3 rfl rfl
      have z4 := BZ.cell 0 4 rfl rfl
      refine bodyPost_ret (v := .tuple #[ev ⟨key, r, false, 0, 0⟩, .bool false]) (by simp [results, Tryd.results64, go_sem, ev, strOf, z0, z1, z2, z3, z4]) rfl ⟨_, _, rfl, ?_, hb9.drew⟩
      rw [HDE.out, if_neg (fun h => he h.2)]; rfl
theorem one_any (leaf : Bool) (c : List UInt8) (w : World) (hl : c.length ≤ 1000000) :
    Calls Tryd.prog 64 #[.bool leaf, .string (strOf c)] w (OnePost w (decE leaf c)) := by
  cases leaf
  · exact one_branch c w hl
  · by_cases h1 : (tNum (tText ⟨c, 0⟩).2 1).1 = 1
    · exact one_far c w hl h1
    · exact one_near c w hl h1
end Go.Proofs.YtjdepdgoaopfoaaDoor
