/- The walks of the chapter on metas: may a meta be? -/
import Derived.Test.YtjdepdgoaopfoaaDoorMetSpec
import Derived.Outline
import Derived.Laws.EntriesVeiled
namespace Go.Proofs.YtjdepdgoaopfoaaDoor
open Go.RowKit

def mcells (m : Mt) : Array Value := #[.int .i64 m.label, .int .u64 m.txn, .int .i64 m.root, .int .i64 m.list, .int .i64 m.high]
def mv (m : Mt) : Value := .agg (mcells m)

/-- The rules, one by one. -/
def ruleB (m : Mt) : Nat → Bool
  | 0 => decide (0 ≤ m.label) && decide (m.label < 64)
  | 1 => decide (0 < m.txn)
  | 2 => decide (2 ≤ m.high) && decide (m.high ≤ 1000)
  | 3 => placeB m m.root && placeB m m.list
  | _ => m.root == 0 || m.root != m.list
theorem ruleB_all (m : Mt) : metaOk m = (ruleB m 0 && (ruleB m 1 && (ruleB m 2 && (ruleB m 3 && ruleB m 4)))) := by
  simp only [metaOk, ruleB, Bool.and_assoc]

set_option maxRecDepth 100000 in
set_option maxHeartbeats 1000000 in
theorem place_any (m : Mt) (n : Int) (w : World) :
    Calls Tryd.prog 68 #[mv m, .int .i64 n] w fun e w' => e = .returned (.bool (placeB m n)) ∧ Below w.heap.size w w' := by
  unfold mv mcells
  go_enter Tryd.func68, Tryd.ntmps68
  go_wp2
  all_goals
    go_ret
    exact ⟨ret_bool (by first | (simp only [placeB]; done) | (simp only [placeB]; simp [*]; done) | (simp only [placeB]; simp [*]; omega)), (Below.refl _ _).alloc (Nat.le_refl _) _⟩

/-- A boxed meta. -/
theorem mbox_cells {w : World} {b : Nat} {m : Mt} (h : w.heap[b]? = some (.cells (mcells m) 24 (0, 0))) :
    w.cell? ⟨b, 0, none⟩ = some (.int .i64 m.label) ∧ w.cell? ⟨b, 1, none⟩ = some (.int .u64 m.txn) ∧ w.cell? ⟨b, 2, none⟩ = some (.int .i64 m.root) ∧ w.cell? ⟨b, 3, none⟩ = some (.int .i64 m.list) ∧ w.cell? ⟨b, 4, none⟩ = some (.int .i64 m.high) := by
  simp [World.cell?, h, mcells]
theorem below_box (w : World) (o : Obj) : Below w.heap.size w (w.alloc o) := (Below.refl _ _).alloc (Nat.le_refl _) o

set_option maxRecDepth 100000 in
set_option maxHeartbeats 1000000 in
theorem rule0_any (m : Mt) (w : World) :
    Calls Tryd.prog 69 #[mv m] w fun e w' => e = .returned (.bool (ruleB m 0)) ∧ Below w.heap.size w w' := by
  unfold mv mcells
  go_enter Tryd.func69, Tryd.ntmps69
  go_wp2
  all_goals
    go_ret
    exact ⟨ret_bool (by first | (simp only [ruleB]; done) | (simp only [ruleB]; simp [*]; done) | (simp only [ruleB]; simp [*]; omega)), below_box _ _⟩
set_option maxRecDepth 100000 in
set_option maxHeartbeats 1000000 in
theorem rule1_any (m : Mt) (w : World) :
    Calls Tryd.prog 70 #[mv m] w fun e w' => e = .returned (.bool (ruleB m 1)) ∧ Below w.heap.size w w' := by
  unfold mv mcells
  go_enter Tryd.func70, Tryd.ntmps70
  go_wp2
  all_goals
    go_ret
    exact ⟨ret_bool (by first | (simp only [ruleB]; done) | (simp only [ruleB]; simp [*]; done) | (simp only [ruleB]; simp [*]; omega)), below_box _ _⟩
set_option maxRecDepth 100000 in
set_option maxHeartbeats 1000000 in
theorem rule2_any (m : Mt) (w : World) :
    Calls Tryd.prog 71 #[mv m] w fun e w' => e = .returned (.bool (ruleB m 2)) ∧ Below w.heap.size w w' := by
  unfold mv mcells
  go_enter Tryd.func71, Tryd.ntmps71
  go_wp2
  all_goals
    go_ret
    exact ⟨ret_bool (by first | (simp only [ruleB]; done) | (simp only [ruleB]; simp [*]; done) | (simp only [ruleB]; simp [*]; omega)), below_box _ _⟩
set_option maxRecDepth 100000 in
set_option maxHeartbeats 1000000 in
theorem rule4_any (m : Mt) (w : World) :
    Calls Tryd.prog 73 #[mv m] w fun e w' => e = .returned (.bool (ruleB m 4)) ∧ Below w.heap.size w w' := by
  unfold mv mcells
  go_enter Tryd.func73, Tryd.ntmps73
  go_wp2
  all_goals
    go_ret
    exact ⟨ret_bool (by first | (simp only [ruleB]; done) | (simp only [ruleB]; simp [*]; done) | (simp only [ruleB]; simp [*]; omega)), below_box _ _⟩
set_option maxRecDepth 100000 in
set_option maxHeartbeats 1000000 in
theorem rule3_any (m : Mt) (p : Nat) (w : World) (hp : p < w.heap.size) (hc : w.cell? ⟨p, 0, none⟩ = some (.func (.func 68) #[] #[])) :
    Calls Tryd.prog 72 #[mv m, .pointer (some ⟨p, 0, none⟩)] w fun e w' => e = .returned (.bool (ruleB m 3)) ∧ Below w.heap.size w w' := by
  have hb := below_box w (.cells (mcells m) 24)
  have hp1 := place_any m m.root (w.alloc (.cells (mcells m) 24))
  have hp2 := fun W => place_any m m.list W
  have hc1 := (hb.cell (p := ⟨p, 0, none⟩) hp).trans hc
  have hblk := World.alloc_heap_new w (.cells (mcells m) 24)
  have hlt : w.heap.size < (w.alloc (.cells (mcells m) 24)).heap.size := by simp
  have hpl : p < (w.alloc (.cells (mcells m) 24)).heap.size := by simp; omega
  have hr : ruleB m 3 = (placeB m m.root && placeB m m.list) := rfl
  have HR := Lib.hid hr
  have HBLK := Lib.hid hblk
  have HLT := Lib.hid hlt
  have HPL := Lib.hid hpl
  clear hr hblk hlt hpl
  unfold mv mcells at *
  cases hx : placeB m m.root
  · rw [hx] at hp1 HR
    go_enter Tryd.func72, Tryd.ntmps72
    go_wp2_with fail
    refine hp1.mono ?_
    rintro e w1 ⟨rfl, hb1⟩
    have hb1' := below_then hb hb1
    go_wp2_with fail
    go_ret
    exact ⟨ret_bool (by rw [HR.out]; rfl), hb1'⟩
  · rw [hx] at hp1 HR
    go_enter Tryd.func72, Tryd.ntmps72
    go_wp2_with fail
    refine hp1.mono ?_
    rintro e w1 ⟨rfl, hb1⟩
    have hb1' := below_then hb hb1
    obtain ⟨g0, g1, g2, g3, g4⟩ := mbox_cells (m := m) ((hb1.block _ HLT.out).trans HBLK.out)
    have hp2 := hp2 w1
    have hc1 := (hb1.cell (p := ⟨p, 0, none⟩) HPL.out).trans hc1
    clear hp1
    go_wp2_with fail
    refine hp2.mono ?_
    rintro e w2 ⟨rfl, hb2⟩
    have hb2' := below_then hb1' hb2
    go_wp2_with fail
    go_ret
    exact ⟨ret_bool (by rw [HR.out]; rfl), hb2'⟩

/-- A rule's function. -/
def ruleV (p : Nat) : Nat → Value
  | 0 => .func (.func 69) #[] #[]
  | 1 => .func (.func 70) #[] #[]
  | 2 => .func (.func 71) #[] #[]
  | 3 => .func (.func 72) #[] #[.pointer (some ⟨p, 0, none⟩)]
  | _ => .func (.func 73) #[] #[]

/-- The rules, and what they lean on. -/
def Rules (w : World) (b p : Nat) : Prop :=
  b < w.heap.size ∧ p < w.heap.size ∧ w.cell? ⟨p, 0, none⟩ = some (.func (.func 68) #[] #[]) ∧ ∀ k, k < 5 → w.cell? ⟨b, k, none⟩ = some (ruleV p k)
theorem Rules.below {w w' : World} {b p B : Nat} (h : Rules w b p) (hB : w.heap.size ≤ B) (hb : Below B w w') : Rules w' b p :=
  ⟨Nat.lt_of_lt_of_le h.1 hb.size, Nat.lt_of_lt_of_le h.2.1 hb.size, (hb.cell (p := ⟨p, 0, none⟩) (Nat.lt_of_lt_of_le h.2.1 hB)).trans h.2.2.1, fun k hk => (hb.cell (p := ⟨b, k, none⟩) (Nat.lt_of_lt_of_le h.1 hB)).trans (h.2.2.2 k hk)⟩

def RulesPost (w : World) (e : Ending) (w' : World) : Prop := ∃ b p, e = .returned (.slice (some ⟨b, 0, none⟩) 5 5) ∧ Rules w' b p ∧ Below w.heap.size w w'

theorem alloc_two_old (w : World) (o1 o2 : Obj) : ((w.alloc o1).alloc o2).heap[w.heap.size]? = some o1 := by
  rw [Below.heap_alloc _ _ _ (by simp)]; exact World.alloc_heap_new w o1
theorem alloc_two_new (w : World) (o1 o2 : Obj) : ((w.alloc o1).alloc o2).heap[w.heap.size + 1]? = some o2 := by
  have := World.alloc_heap_new (w.alloc o1) o2
  simpa using this
theorem alloc_two_size (w : World) (o1 o2 : Obj) : ((w.alloc o1).alloc o2).heap.size = w.heap.size + 2 := by simp
theorem below_two (w : World) (o1 o2 : Obj) : Below w.heap.size w ((w.alloc o1).alloc o2) := (below_box w o1).alloc (by simp) o2

set_option maxRecDepth 100000 in
set_option maxHeartbeats 1000000 in
theorem rules_any (w : World) : Calls Tryd.prog 44 #[] w (RulesPost w) := by
  go_enter Tryd.func44, Tryd.ntmps44
  go_wp2
  go_ret
  refine ⟨w.heap.size + 1, w.heap.size, rfl, ⟨by simp, by simp; omega, by simp only [World.cell?, alloc_two_old]; rfl, fun k hk => ?_⟩, below_two _ _ _⟩
  simp only [World.cell?, alloc_two_new]
  match k, hk with
  | 0, _ => rfl
  | 1, _ => rfl
  | 2, _ => rfl
  | 3, _ => rfl
  | 4, _ => rfl

set_option maxRecDepth 100000 in
set_option maxHeartbeats 2000000 in
theorem check1_any (m : Mt) (q p k b : Nat) (hk : k < 5) (w : World) (hr : Rules w b p) (hq : w.heap[q]? = some (.cells (mcells m) 24 (0, 0))) :
    Calls Tryd.prog 45 #[.agg #[ruleV p k], .pointer (some ⟨q, 0, none⟩)] w fun e w' => e = .returned (.bool (!ruleB m k)) ∧ Below w.heap.size w w' := by
  have hql : q < w.heap.size := (Array.getElem?_eq_some_iff.1 hq).1
  have hB := below_box w (.cells #[ruleV p k] 87)
  obtain ⟨g0, g1, g2, g3, g4⟩ := mbox_cells ((hB.block q hql).trans hq)
  have hr' := hr.below (Nat.le_refl _) hB
  have hp := hr'.2.1
  have hpc := hr'.2.2.1
  have c0 := rule0_any m (w.alloc (.cells #[ruleV p k] 87))
  have c1 := rule1_any m (w.alloc (.cells #[ruleV p k] 87))
  have c2 := rule2_any m (w.alloc (.cells #[ruleV p k] 87))
  have c3 := rule3_any m p (w.alloc (.cells #[ruleV p k] 87)) hp hpc
  have c4 := rule4_any m (w.alloc (.cells #[ruleV p k] 87))
  clear hr hr' hpc hp hq
  unfold mv mcells at *
  match k, hk with
  | 0, _ =>
    clear c1 c2 c3 c4
    simp only [ruleV] at *
    generalize ruleB m 0 = bb at *
    go_enter Tryd.func45, Tryd.ntmps45
    go_wp2_with fail
    refine c0.mono ?_
    rintro e w1 ⟨rfl, hb1⟩
    go_wp2_with fail
    go_ret
    exact ⟨rfl, below_then hB hb1⟩
  | 1, _ =>
    clear c0 c2 c3 c4
    simp only [ruleV] at *
    generalize ruleB m 1 = bb at *
    go_enter Tryd.func45, Tryd.ntmps45
    go_wp2_with fail
    refine c1.mono ?_
    rintro e w1 ⟨rfl, hb1⟩
    go_wp2_with fail
    go_ret
    exact ⟨rfl, below_then hB hb1⟩
  | 2, _ =>
    clear c0 c1 c3 c4
    simp only [ruleV] at *
    generalize ruleB m 2 = bb at *
    go_enter Tryd.func45, Tryd.ntmps45
    go_wp2_with fail
    refine c2.mono ?_
    rintro e w1 ⟨rfl, hb1⟩
    go_wp2_with fail
    go_ret
    exact ⟨rfl, below_then hB hb1⟩
  | 3, _ =>
    clear c0 c1 c2 c4
    simp only [ruleV] at *
    generalize ruleB m 3 = bb at *
    go_enter Tryd.func45, Tryd.ntmps45
    go_wp2_with fail
    refine c3.mono ?_
    rintro e w1 ⟨rfl, hb1⟩
    go_wp2_with fail
    go_ret
    exact ⟨rfl, below_then hB hb1⟩
  | 4, _ =>
    clear c0 c1 c2 c3
    simp only [ruleV] at *
    generalize ruleB m 4 = bb at *
    go_enter Tryd.func45, Tryd.ntmps45
    go_wp2_with fail
    refine c4.mono ?_
    rintro e w1 ⟨rfl, hb1⟩
    go_wp2_with fail
    go_ret
    exact ⟨rfl, below_then hB hb1⟩

/-- All of the first so many rules hold. -/
def ruleAll (m : Mt) (k : Nat) : Bool := (List.range k).all fun i => ruleB m i
theorem ruleAll_succ (m : Mt) (k : Nat) : ruleAll m (k + 1) = (ruleAll m k && ruleB m k) := by simp [ruleAll, List.range_succ]
theorem ruleAll_five (m : Mt) : ruleAll m 5 = metaOk m := by
  rw [ruleB_all]; simp [ruleAll, List.range_succ]
theorem ruleAll_not (m : Mt) (k : Nat) (hk : k < 5) (h : ruleB m k = false) : metaOk m = false := by
  rw [← ruleAll_five, ruleAll, List.all_eq_false]
  exact ⟨k, by simp; omega, by simp [h]⟩

def IdxPost (w : World) (m : Mt) (e : Ending) (w' : World) : Prop := ∃ n : Int, e = .returned (.int .i64 n) ∧ decide (0 ≤ n) = !metaOk m ∧ Below w.heap.size w w'

set_option maxRecDepth 100000 in
set_option maxHeartbeats 2000000 in
theorem index_any (m : Mt) (q p b : Nat) (w : World) (hr : Rules w b p) (hq : w.heap[q]? = some (.cells (mcells m) 24 (0, 0))) :
    Calls Tryd.prog 67 #[.slice (some ⟨b, 0, none⟩) 5 5, .func (.func 45) #[] #[.pointer (some ⟨q, 0, none⟩)]] w (IdxPost w m) := by
  have hql : q < w.heap.size := (Array.getElem?_eq_some_iff.1 hq).1
  go_enter Tryd.func67, Tryd.ntmps67
  go_wp2_with fail
  go_loopw [8] (fun i wr => ∃ k : Nat, k ≤ 5 ∧ i = .int .i64 k ∧ ruleAll m k = true ∧ Below w.heap.size w wr) (fun i _ => 5 - (intOf i).toNat)
  case atStart => exact ⟨0, Nat.zero_le _, rfl, rfl, Below.refl _ _⟩
  case round =>
    obtain ⟨k, hk, rfl, hall, hb⟩ := hrel
    by_cases hlt : k < 5
    · have hr' := hr.below (Nat.le_refl _) hb
      have hcell := hr'.2.2.2 k hlt
      have hcall := check1_any m q p k b hlt wr hr' ((hb.block q hql).trans hq)
      have hs := ruleAll_succ m k
      rw [hall, Bool.true_and] at hs
      have HN := Lib.hid (ruleAll_not m k hlt)
      clear hr' hall
      generalize hv : ruleV p k = v at *
      cases hbk : ruleB m k
      · rw [hbk] at hcall
        have HN2 : Hid (metaOk m = false) := Lib.hid (ruleAll_not m k hlt hbk)
        clear hs hbk hv HN
        go_wp2_with fail
        refine hcall.mono ?_
        rintro e w1 ⟨rfl, hb1⟩
        have hb2 := below_then hb hb1
        go_wp2_with fail
        go_ret
        exact ⟨k, rfl, by rw [HN2.out]; simp, hb2⟩
      · rw [hbk] at hcall hs
        have HS := Lib.hid hs
        clear hs hbk hv HN
        go_wp2_with fail
        refine hcall.mono ?_
        rintro e w1 ⟨rfl, hb1⟩
        have hb2 := below_then hb hb1
        go_wp2_with fail
        go_roundw
        case rel => exact ⟨k + 1, by omega, by go_num, HS.out, hb2⟩
        case measure => simp [intOf]; omega
    · obtain rfl : k = 5 := by omega
      rw [ruleAll_five] at hall
      have HALL := Lib.hid hall
      clear hall
      go_wp2_with fail
      go_ret
      exact ⟨-1, rfl, by rw [HALL.out]; rfl, hb⟩

set_option maxRecDepth 100000 in
set_option maxHeartbeats 2000000 in
theorem contains_any (m : Mt) (q p b : Nat) (w : World) (hr : Rules w b p) (hq : w.heap[q]? = some (.cells (mcells m) 24 (0, 0))) :
    Calls Tryd.prog 43 #[.slice (some ⟨b, 0, none⟩) 5 5, .func (.func 45) #[] #[.pointer (some ⟨q, 0, none⟩)]] w fun e w' => e = .returned (.bool (!metaOk m)) ∧ Below w.heap.size w w' := by
  have hcall := index_any m q p b w hr hq
  go_enter Tryd.func43, Tryd.ntmps43
  go_wp2_with fail
  refine hcall.mono ?_
  rintro e w1 ⟨n, rfl, hn, hb⟩
  go_wp2_with fail
  go_ret
  exact ⟨ret_bool rfl, hb⟩

set_option maxRecDepth 100000 in
set_option maxHeartbeats 2000000 in
theorem mcheck_any (m : Mt) (w : World) :
    Calls Tryd.prog 17 #[mv m] w fun e w' => e = .returned (.bool (metaOk m)) ∧ Below w.heap.size w w' := by
  have hB := below_box w (.cells (mcells m) 24)
  have hblk := World.alloc_heap_new w (.cells (mcells m) 24)
  have hlt : w.heap.size < (w.alloc (.cells (mcells m) 24)).heap.size := by simp
  have hcont := fun b p W h1 h2 => contains_any m w.heap.size p b W h1 h2
  have HBLK := Lib.hid hblk
  have HLT := Lib.hid hlt
  have hrules := rules_any (w.alloc (.cells (mcells m) 24))
  clear hblk hlt
  unfold mv mcells at *
  go_enter Tryd.func17, Tryd.ntmps17
  go_wp2_with fail
  refine hrules.mono ?_
  rintro e w1 ⟨b, p, rfl, hr, hb1⟩
  have hbl := (hb1.block _ HLT.out).trans HBLK.out
  have hB1 := below_then hB hb1
  have hcall := hcont b p w1 hr hbl
  clear hcont hrules hbl
  go_wp2_with fail
  refine hcall.mono ?_
  rintro e w2 ⟨rfl, hb2⟩
  go_wp2_with fail
  go_ret
  exact ⟨ret_bool (by simp), below_then hB1 hb2⟩
end Go.Proofs.YtjdepdgoaopfoaaDoor
