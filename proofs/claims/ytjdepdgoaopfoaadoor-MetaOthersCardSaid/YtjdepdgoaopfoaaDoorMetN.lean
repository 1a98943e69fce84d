/- The walks of the chapter on metas: the newest one of two. -/
import Derived.Test.YtjdepdgoaopfoaaDoorMetT
import Derived.RegionTactic
namespace Go.Proofs.YtjdepdgoaopfoaaDoor
open Go.RowKit

/-- A whole meta, stored. -/
def put5 (W : World) (b : Nat) (m : Mt) : World :=
  ((((W.setCell ⟨b, 0, none⟩ (.int .i64 m.label)).setCell ⟨b, 1, none⟩ (.int .u64 m.txn)).setCell ⟨b, 2, none⟩ (.int .i64 m.root)).setCell ⟨b, 3, none⟩ (.int .i64 m.list)).setCell ⟨b, 4, none⟩ (.int .i64 m.high)
theorem put5_at {W : World} {b : Nat} {o m : Mt} {t : TypeId} (h : W.heap[b]? = some (.cells (mcells o) t (0, 0))) : (put5 W b m).heap[b]? = some (.cells (mcells m) t (0, 0)) := by
  have h1 := heap_setCell_at 0 (.int .i64 m.label) h
  have h2 := heap_setCell_at 1 (.int .u64 m.txn) h1
  have h3 := heap_setCell_at 2 (.int .i64 m.root) h2
  have h4 := heap_setCell_at 3 (.int .i64 m.list) h3
  have h5 := heap_setCell_at 4 (.int .i64 m.high) h4
  unfold put5
  rw [h5]
  simp [mcells]
theorem put5_other {W : World} {b k : Nat} {m : Mt} (h : k ≠ b) : (put5 W b m).heap[k]? = W.heap[k]? := by
  unfold put5
  rw [Below.heap_setCell _ _ _ _ (by simpa using h), Below.heap_setCell _ _ _ _ (by simpa using h), Below.heap_setCell _ _ _ _ (by simpa using h), Below.heap_setCell _ _ _ _ (by simpa using h), Below.heap_setCell _ _ _ _ (by simpa using h)]
theorem put5_below {B : Nat} {a W : World} {b : Nat} {m : Mt} (h : Below B a W) (hb : B ≤ b) : Below B a (put5 W b m) :=
  ((((h.setCell (p := ⟨b, 0, none⟩) hb _).setCell (p := ⟨b, 1, none⟩) hb _).setCell (p := ⟨b, 2, none⟩) hb _).setCell (p := ⟨b, 3, none⟩) hb _).setCell (p := ⟨b, 4, none⟩) hb _

/-- A meta, whether it counts. -/
def NewPost (w : World) (m : Mt) (is : Bool) (e : Ending) (w' : World) : Prop := e = .returned (.tuple #[mv m, .bool is]) ∧ Below w.heap.size w w'
/-- The newest one behind one page more. -/
def updM (out : Mt) (p : List UInt8) (slot : Nat) (label : Int) : Mt := if countsB p slot label && decide (out.txn < (getM p).txn) then getM p else out
def outM (a b : List UInt8) (label : Int) : Nat → Mt
  | 0 => Mt.zero
  | 1 => updM Mt.zero a 0 label
  | _ => updM (updM Mt.zero a 0 label) b 1 label
theorem newM_upd (a b : List UInt8) (label : Int) : newM a b label = updM (updM Mt.zero a 0 label) b 1 label ∧ newB a b label = decide (0 < (newM a b label).txn) := by
  have pos : ∀ p s, countsB p s label = true → 0 < (getM p).txn := by
    intro p s h
    simp only [countsB, Bool.and_eq_true, beq_iff_eq] at h
    have := getM_ok p h.1
    rw [metaOk_iff] at this
    exact this.2.2.1
  cases ha : countsB a 0 label
  · cases hb : countsB b 1 label
    · simp [newM, newB, updM, ha, hb, Mt.zero]
    · have h2 := pos b 1 hb
      simp [newM, newB, updM, ha, hb, Mt.zero, h2]
  · have h1 := pos a 0 ha
    cases hb : countsB b 1 label
    · simp [newM, newB, updM, ha, hb, Mt.zero, h1]
    · have h2 := pos b 1 hb
      by_cases hlt : (getM a).txn < (getM b).txn
      · simp [newM, newB, updM, ha, hb, Mt.zero, h1, h2, hlt]
      · simp [newM, newB, updM, ha, hb, Mt.zero, h1, hlt]

set_option maxRecDepth 100000 in
set_option maxHeartbeats 16000000 in
theorem newest_any (a1 a2 : Option Addr) (n1 n2 c1 c2 : Nat) (a b : List UInt8) (label : Int) (w : World) (h1 : Bs w a1 n1 c1 a) (h2 : Bs w a2 n2 c2 b) (hh : Half w) :
    Calls Tryd.prog 23 #[.slice a1 n1 c1, .slice a2 n2 c2, .int .i64 label] w (NewPost w (newM a b label) (newB a b label)) := by
  obtain ⟨q1, q2⟩ := newM_upd a b label
  rw [q2, q1]
  have hB := (below_two w (.cells #[.int .i64 0, .int .u64 0, .int .i64 0, .int .i64 0, .int .i64 0] 24) (.cells #[.int .i64 0, .int .u64 0, .int .i64 0, .int .i64 0, .int .i64 0] 24)).alloc (by simp; omega) (.cells #[.slice a1 n1 c1, .slice a2 n2 c2] 26)
  have hz := (Below.heap_alloc ((w.alloc (.cells #[.int .i64 0, .int .u64 0, .int .i64 0, .int .i64 0, .int .i64 0] 24)).alloc (.cells #[.int .i64 0, .int .u64 0, .int .i64 0, .int .i64 0, .int .i64 0] 24)) (.cells #[.slice a1 n1 c1, .slice a2 n2 c2] 26) w.heap.size (by simp; omega)).trans (alloc_two_old w _ _)
  have ho := (Below.heap_alloc ((w.alloc (.cells #[.int .i64 0, .int .u64 0, .int .i64 0, .int .i64 0, .int .i64 0] 24)).alloc (.cells #[.int .i64 0, .int .u64 0, .int .i64 0, .int .i64 0, .int .i64 0] 24)) (.cells #[.slice a1 n1 c1, .slice a2 n2 c2] 26) (w.heap.size + 1) (by simp)).trans (alloc_two_new w _ _)
  have hq := World.alloc_heap_new ((w.alloc (.cells #[.int .i64 0, .int .u64 0, .int .i64 0, .int .i64 0, .int .i64 0] 24)).alloc (.cells #[.int .i64 0, .int .u64 0, .int .i64 0, .int .i64 0, .int .i64 0] 24)) (.cells #[.slice a1 n1 c1, .slice a2 n2 c2] 26)
  rw [alloc_two_size] at hq
  have HB := Lib.hid hB
  have HZ := Lib.hid hz
  have HO := Lib.hid ho
  have HQ := Lib.hid hq
  have HG : Hid (∀ x n c p W, Bs w x n c p → Below w.heap.size w W → Calls Tryd.prog 21 #[.slice x n c] W (GetPost W (getM p) (getE p))) := Lib.hid fun x n c p W hp hW => mget_any x n c p W (hp.below (Nat.le_refl _) hW) (hh.below (Nat.le_refl _) hW)
  clear q1 q2 hh hB hz ho hq
  go_enter Tryd.func23, Tryd.ntmps23
  go_wp2_with fail
  generalize ((w.alloc (.cells #[.int .i64 0, .int .u64 0, .int .i64 0, .int .i64 0, .int .i64 0] 24)).alloc (.cells #[.int .i64 0, .int .u64 0, .int .i64 0, .int .i64 0, .int .i64 0] 24)).alloc (.cells #[.slice a1 n1 c1, .slice a2 n2 c2] 26) = w3 at *
  go_loopw [17] (fun i wr => ∃ k : Nat, k ≤ 2 ∧ i = .int .i64 k ∧ wr.heap[w.heap.size]? = some (.cells (mcells Mt.zero) 24 (0, 0)) ∧ wr.heap[w.heap.size + 1]? = some (.cells (mcells (outM a b label k)) 24 (0, 0)) ∧ wr.heap[w.heap.size + 2]? = some (.cells #[.slice a1 n1 c1, .slice a2 n2 c2] 26 (0, 0)) ∧ Below w.heap.size w wr) (fun i _ => 2 - (intOf i).toNat)
  case atStart => exact ⟨0, Nat.zero_le _, rfl, HZ.out, HO.out, HQ.out, HB.out⟩
  case round =>
    obtain ⟨k, hk, rfl, hz, ho, hq, hbr⟩ := hrel
    have hzl : w.heap.size + 2 < wr.heap.size := (Array.getElem?_eq_some_iff.1 hq).1
    by_cases hlt : k < 2
    · have hkk : ∃ (x : Option Addr) (n c : Nat) (p : List UInt8), wr.cell? ⟨w.heap.size + 1 + 1, k, none⟩ = some (.slice x n c) ∧ Bs w x n c p ∧ outM a b label (k + 1) = updM (outM a b label k) p k label := by
        match k, hlt with
        | 0, _ => exact ⟨a1, n1, c1, a, by simp only [World.cell?, hq]; rfl, h1, rfl⟩
        | 1, _ => exact ⟨a2, n2, c2, b, by simp only [World.cell?, hq]; rfl, h2, rfl⟩
      obtain ⟨x, n, c, p, hcp, hbp, hupd⟩ := hkk
      have hget := HG.out x n c p wr hbp hbr
      have hm := getM_wf p
      have HU := Lib.hid hupd
      generalize outM a b label k = out at *
      have hup : updM out p k label = if getE p == 0 && ((getM p).label == label && (decide ((getM p).txn % 2 = k) && decide (out.txn < (getM p).txn))) then getM p else out := by
        rw [updM, countsB, Bool.and_assoc, Bool.and_assoc]
      have HUP := Lib.hid hup
      clear hup hupd hbp
      generalize getE p = er at *
      generalize getM p = m at *
      have hmt := hm.2.1
      have hslot := fun W => slot_any m.txn W hmt
      have hbox : ∀ W, Below wr.heap.size wr W → Hid (W.heap[w.heap.size]? = some (.cells (mcells Mt.zero) 24 (0, 0))) ∧ Hid (W.heap[w.heap.size + 1]? = some (.cells (mcells out) 24 (0, 0))) ∧ Hid (W.heap[w.heap.size + 2]? = some (.cells #[.slice a1 n1 c1, .slice a2 n2 c2] 26 (0, 0))) := fun W hW => ⟨Lib.hid ((hW.block _ (by omega)).trans hz), Lib.hid ((hW.block _ (by omega)).trans ho), Lib.hid ((hW.block _ (by omega)).trans hq)⟩
      have HBOX := Lib.hid hbox
      clear hz ho hq hbox hm
      go_wp2_with fail
      refine hget.mono ?_
      rintro e w7 ⟨rfl, hb7⟩
      unfold mv mcells
      have hb8 := hb7.alloc hb7.size (.cells #[.int .i64 m.label, .int .u64 m.txn, .int .i64 m.root, .int .i64 m.list, .int .i64 m.high] 24)
      have hnew := World.alloc_heap_new w7 (.cells #[.int .i64 m.label, .int .u64 m.txn, .int .i64 m.root, .int .i64 m.list, .int .i64 m.high] 24)
      obtain ⟨H1, H2, H3⟩ := HBOX.out _ hb8
      have hbr8 := below_then hbr hb8
      have hz7 := hb7.size
      obtain ⟨o0, o1, o2, o3, o4⟩ := mbox_cells H2.out
      obtain ⟨f0, f1, f2, f3, f4⟩ := mbox_frozen H2.out
      clear hget hb7 hb8 hcp
      by_cases e0 : er = 0
      · by_cases e1 : m.label = label
        · by_cases e2 : m.txn % 2 = k
          · by_cases e3 : out.txn < m.txn
            · have HF : Hid (updM out p k label = m) := Lib.hid (by rw [HUP.out]; simp [e0, e1, e2, e3])
              have b0 : (er == 0) = true := by simpa using e0
              have b1 : (m.label == label) = true := by simpa using e1
              have b2 : (((m.txn % 2 : Nat) : Int) == (k : Int)) = true := by simp; omega
              clear e0 e1 e2 HUP
              generalize m.txn % 2 = q at *
              go_wp2_with (go_at_call 19; refine (hslot _).mono ?_; rintro e w9 ⟨rfl, rfl⟩)
              go_roundw
              case rel => exact ⟨k + 1, by omega, by go_num, (put5_other (m := m) (by omega)).trans H1.out, by rw [HU.out, HF.out]; exact put5_at (m := m) H2.out, (put5_other (m := m) (by omega)).trans H3.out, put5_below (m := m) hbr8 (by omega)⟩
              case measure => simp [intOf]; omega
            · have HF : Hid (updM out p k label = out) := Lib.hid (by rw [HUP.out]; simp [e3])
              have b0 : (er == 0) = true := by simpa using e0
              have b1 : (m.label == label) = true := by simpa using e1
              have b2 : (((m.txn % 2 : Nat) : Int) == (k : Int)) = true := by simp; omega
              have b3 : ¬ (out.txn : Int) < (m.txn : Int) := by omega
              clear e0 e1 e2 HUP hnew
              generalize m.txn % 2 = q at *
              go_wp2_with (go_at_call 19; refine (hslot _).mono ?_; rintro e w9 ⟨rfl, rfl⟩)
              go_roundw
              case rel => exact ⟨k + 1, by omega, by go_num, H1.out, by rw [HU.out, HF.out]; exact H2.out, H3.out, hbr8⟩
              case measure => simp [intOf]; omega
          · have HF : Hid (updM out p k label = out) := Lib.hid (by rw [HUP.out]; simp [e2])
            have b0 : (er == 0) = true := by simpa using e0
            have b1 : (m.label == label) = true := by simpa using e1
            have b2 : (((m.txn % 2 : Nat) : Int) == (k : Int)) = false := by simp; omega
            clear e0 e1 e2 HUP hnew
            generalize m.txn % 2 = q at *
            go_wp2_with (go_at_call 19; refine (hslot _).mono ?_; rintro e w9 ⟨rfl, rfl⟩)
            go_roundw
            case rel => exact ⟨k + 1, by omega, by go_num, H1.out, by rw [HU.out, HF.out]; exact H2.out, H3.out, hbr8⟩
            case measure => simp [intOf]; omega
        · have HF : Hid (updM out p k label = out) := Lib.hid (by rw [HUP.out]; simp [e1])
          have b0 : (er == 0) = true := by simpa using e0
          have b1 : (m.label == label) = false := by simpa using e1
          clear e0 e1 HUP hnew
          go_wp2_with (go_at_call 19; refine (hslot _).mono ?_; rintro e w9 ⟨rfl, rfl⟩)
          go_roundw
          case rel => exact ⟨k + 1, by omega, by go_num, H1.out, by rw [HU.out, HF.out]; exact H2.out, H3.out, hbr8⟩
          case measure => simp [intOf]; omega
      · have HF : Hid (updM out p k label = out) := Lib.hid (by rw [HUP.out]; simp [e0])
        have b0 : (er == 0) = false := by simpa using e0
        clear e0 HUP hnew
        go_wp2_with (go_at_call 19; refine (hslot _).mono ?_; rintro e w9 ⟨rfl, rfl⟩)
        go_roundw
        case rel => exact ⟨k + 1, by omega, by go_num, H1.out, by rw [HU.out, HF.out]; exact H2.out, H3.out, hbr8⟩
        case measure => simp [intOf]; omega
    · obtain rfl : k = 2 := by omega
      have hout : outM a b label 2 = updM (updM Mt.zero a 0 label) b 1 label := rfl
      rw [hout] at ho
      generalize updM (updM Mt.zero a 0 label) b 1 label = m at *
      obtain ⟨g0, g1, g2, g3, g4⟩ := mbox_cells (m := m) ho
      obtain ⟨r0, r1, r2, r3, r4⟩ := mbox_cells (m := Mt.zero) hz
      obtain ⟨f0, f1, f2, f3, f4⟩ := mbox_frozen (m := Mt.zero) hz
      clear hz ho hq hout
      go_wp2_with fail
      go_region
      all_goals
        go_wp2_with fail
        refine bodyPost_ret (v := .tuple #[mv m, .bool (decide (0 < m.txn))]) (by simp [results, Tryd.results23, go_sem, mv, mcells, r0, r1, r2, r3, r4]) rfl ⟨rfl, ?_⟩
        exact (put5_below (m := m) hbr (Nat.le_refl _)).drew
end Go.Proofs.YtjdepdgoaopfoaaDoor
