/- The laws of the chapter on nodes: few and short entries; the document's example. -/
import Derived.Test.YtjdepdgoaopfoaaDoorNodL
import Derived.Test.YtjdepdgoaopfoaaDoorNodQ
import Derived.Test.YtjdepdgoaopfoaaDoorNodU
import Derived.Deep.QuietTactic
import Derived.BigQuiet
namespace Go.Proofs.YtjdepdgoaopfoaaDoor
open Go.RowKit

/-- Few and short entries. -/
def shortE (e : En) : Bool := decide (e.key.length ≤ 300) && decide (e.v.data.length ≤ 300)
def smallN (l : List En) : Bool := l.all shortE && decide (l.length ≤ 40)
theorem smallN_true {l : List En} (h : smallN l = true) : l.length ≤ 40 ∧ SmE l := by
  simp only [smallN, Bool.and_eq_true, decide_eq_true_eq, List.all_eq_true, shortE] at h
  exact ⟨h.2, fun e he => by have := h.1 e he; omega⟩
set_option maxRecDepth 100000 in
set_option maxHeartbeats 4000000 in
theorem nsmall_any (leaf : Bool) (a : Option Addr) (len cap : Nat) (l : List En) (w : World) (h : Ents w a len cap l) :
    Calls Tryd.prog 26 #[.agg #[.bool leaf, .slice a len cap]] w fun e w' => e = .returned (.bool (smallN l)) ∧ Below w.heap.size w w' := by
  have hB := below_one w (.cells #[.bool leaf, .slice a len cap] 52)
  have BX := (Boxes.nil w).alloc #[.bool leaf, .slice a len cap] 52 rfl
  have hll := Lib.hid h.len
  have hm := h.2.2.1
  have hc := h.2.1
  unfold maxLen at hm
  go_enter Tryd.func26, Tryd.ntmps26
  go_wp2_with fail
  have HX := Lib.hid BX
  have HB := Lib.hid hB
  clear BX hB
  go_loopw [2, 3] (fun r i wr => ∃ (k : Nat), k ≤ len ∧ i = .int .i64 k ∧ r = .bool false ∧ (l.take k).all shortE = true ∧ Boxes wr [(w.heap.size, [.bool leaf, .slice a len cap])] ∧ Below w.heap.size w wr) (fun _ i _ => len - (intOf i).toNat)
  case atStart => exact ⟨0, Nat.zero_le _, rfl, rfl, rfl, HX.out, HB.out⟩
  case round =>
    obtain ⟨k, hk, rfl, rfl, hall, BX, hbw⟩ := hrel
    have d1 := BX.cell 0 1 rfl rfl
    by_cases hlt : k < len
    · obtain ⟨b, off, e, rfl, hbb, hy, e0, e1, e2, e3, e4⟩ := (h.below (Nat.le_refl _) hbw).at hlt
      have hst := take_cells l k e hy
      have hmem := List.mem_of_getElem? hy
      have hs0 := strOf_size e.key
      have hs1 := strOf_size e.v.data
      have HX2 := Lib.hid BX
      clear BX
      by_cases h3 : e.key.length ≤ 300
      · have h3' : decide ((300 : Int) < (e.key.length : Int)) = false := by simp; omega
        have h3n : decide (300 < e.key.length) = false := by simp; omega
        by_cases h4 : e.v.data.length ≤ 300
        · have h4' : decide ((300 : Int) < (e.v.data.length : Int)) = false := by simp; omega
          have h4n : decide (300 < e.v.data.length) = false := by simp; omega
          have HA : Hid ((l.take (k + 1)).all shortE = true) := Lib.hid (by rw [hst, List.all_append, hall]; simp [shortE, h3, h4])
          clear hst hall hmem h3 h4
          go_wp2_with fail
          go_roundw
          case rel => exact ⟨k + 1, by omega, by go_num, rfl, HA.out, HX2.out, hbw⟩
          case measure => simp [intOf]; omega
        · have h4' : decide ((300 : Int) < (e.v.data.length : Int)) = true := by simp; omega
          have h4n : decide (300 < e.v.data.length) = true := by simp; omega
          have HR : Hid (smallN l = false) := Lib.hid (by
            rw [smallN, Bool.and_eq_false_iff]; left; rw [List.all_eq_false]; exact ⟨e, hmem, by simp [shortE]; omega⟩)
          clear hst hall hmem h3 h4
          go_wp2_with fail
          go_ret
          exact ⟨by rw [HR.out]; rfl, hbw⟩
      · have h3' : decide ((300 : Int) < (e.key.length : Int)) = true := by simp; omega
        have h3n : decide (300 < e.key.length) = true := by simp; omega
        have HR : Hid (smallN l = false) := Lib.hid (by
          rw [smallN, Bool.and_eq_false_iff]; left; rw [List.all_eq_false]; exact ⟨e, hmem, by simp [shortE]; omega⟩)
        clear hst hall hmem h3
        go_wp2_with fail
        go_ret
        exact ⟨by rw [HR.out]; rfl, hbw⟩
    · obtain rfl : k = len := by omega
      rw [List.take_of_length_le (by rw [hll.out]; exact Nat.le_refl _)] at hall
      have hres : smallN l = decide ((k : Int) ≤ 40) := by
        rw [smallN, hall, Bool.true_and, hll.out]; apply decide_eq_decide.2; omega
      have HR := Lib.hid hres
      clear hall hres
      go_wp2
      go_ret
      exact ⟨by rw [HR.out]; rfl, hbw⟩

theorem ents_box {w : World} {b : Nat} {l : List En} {bs : List (Nat × List Value)} (n : Nat) (h : Boxes w bs) (hn : bs[n]? = some (b, l.flatMap ecells)) (hl : l.length ≤ 1000) : Ents w (some ⟨b, 0, none⟩) l.length l.length l :=
  ⟨rfl, Nat.le_refl _, by unfold maxLen; omega, (fun h => by cases h), .inr ⟨b, 0, rfl, h.lt n hn, fun i y hy => ⟨ecells y, rfl, rfl, fun j v hv => by
    rw [Nat.zero_add]; exact h.cell n (i * 5 + j) hn (flat_get ecells 5 (fun _ => rfl) l i y j v hy hv)⟩⟩⟩
theorem ents_nil (w : World) : Ents w none 0 0 [] := ⟨rfl, Nat.le_refl _, Nat.zero_le _, fun _ => rfl, .inl rfl⟩
def exL : List En := [⟨[107], ⟨[118], false, 0, 0⟩⟩]
def exB : List En := [⟨[], ⟨[], false, 0, 2⟩⟩, ⟨[109], ⟨[], false, 0, 3⟩⟩]
theorem ex_facts : cellsN true exL = [[1, 107, 0, 118]] ∧ nodeB true exL = true ∧ nodeB true [] = false ∧ nodeB false [] = false ∧ nodeB false exB = true := by decide
set_option maxRecDepth 100000 in
set_option maxHeartbeats 16000000 in
theorem nawake_any (w : World) (hh : Half w) :
    Calls Tryd.prog 25 #[] w fun e w' => e = .returned (.bool true) ∧ Below w.heap.size w w' := by
  obtain ⟨q1, q2, q3, q4, q5⟩ := ex_facts
  have p1 : putNE false exB = 0 := by rw [putNE, q5]; rfl
  obtain ⟨g1, g2, g3⟩ := get_putN q5
  have hB := below_two' w (.cells #[.string ⟨#[107]⟩, .string ⟨#[118]⟩, .bool false, .int .i64 0, .int .i64 0] 76) (.cells #[.bool true, .slice (some ⟨w.heap.size, 0, none⟩) 1 1] 52)
  have BX := ((Boxes.nil w).alloc #[.string ⟨#[107]⟩, .string ⟨#[118]⟩, .bool false, .int .i64 0, .int .i64 0] 76 rfl).alloc #[.bool true, .slice (some ⟨w.heap.size, 0, none⟩) 1 1] 52 (by simp : _ = w.heap.size + 1)
  have CE : ∀ W, Boxes W [(w.heap.size + 1, [.bool true, .slice (some ⟨w.heap.size, 0, none⟩) 1 1]), (w.heap.size, [.string ⟨#[107]⟩, .string ⟨#[118]⟩, .bool false, .int .i64 0, .int .i64 0])] → Calls Tryd.prog 32 #[.agg #[.bool true, .slice (some ⟨w.heap.size, 0, none⟩) 1 1]] W (BssPost W [[1, 107, 0, 118]]) := fun W hW => by
    have := cells_any true (some ⟨w.heap.size, 0, none⟩) 1 1 exL W (ents_box 1 hW rfl (by decide)) (by decide) (by decide)
    rwa [q1] at this
  have CK : ∀ W, Boxes W [(w.heap.size + 1, [.bool true, .slice (some ⟨w.heap.size, 0, none⟩) 1 1]), (w.heap.size, [.string ⟨#[107]⟩, .string ⟨#[118]⟩, .bool false, .int .i64 0, .int .i64 0])] → Calls Tryd.prog 34 #[.agg #[.bool true, .slice (some ⟨w.heap.size, 0, none⟩) 1 1]] W fun e w' => e = .returned (.bool true) ∧ Below W.heap.size W w' := fun W hW => by
    have := check_any true (some ⟨w.heap.size, 0, none⟩) 1 1 exL W (ents_box 1 hW rfl (by decide)) (by decide) (by unfold SmE; decide)
    rwa [q2] at this
  have C1 : ∀ W, Calls Tryd.prog 34 #[.agg #[.bool true, .slice none 0 0]] W fun e w' => e = .returned (.bool false) ∧ Below W.heap.size W w' := fun W => by
    have := check_any true none 0 0 [] W (ents_nil W) (by decide) (by unfold SmE; simp)
    rwa [q3] at this
  have C2 : ∀ W, Calls Tryd.prog 34 #[.agg #[.bool false, .slice none 0 0]] W fun e w' => e = .returned (.bool false) ∧ Below W.heap.size W w' := fun W => by
    have := check_any false none 0 0 [] W (ents_nil W) (by decide) (by unfold SmE; simp)
    rwa [q4] at this
  have PU : ∀ W b, Below w.heap.size w W → Boxes W [(b, exB.flatMap ecells)] → Calls Tryd.prog 28 #[.agg #[.bool false, .slice (some ⟨b, 0, none⟩) 2 2]] W (PackAny W (putN false exB) 0) := fun W b hW hx => by
    have := nput_any false (some ⟨b, 0, none⟩) 2 2 exB W (ents_box 0 hx rfl (by decide)) (by decide) (by unfold SmE; decide) (hh.below (Nat.le_refl _) hW)
    rwa [p1] at this
  have GE : ∀ W a n c, Below w.heap.size w W → Bs W a n c (putN false exB) → Calls Tryd.prog 37 #[.slice a n c] W (GetNPost W false exB 0) := fun W a n c hW hb => by
    have := nget_any a n c (putN false exB) W hb (hh.below (Nat.le_refl _) hW)
    rwa [g1, g2, g3] at this
  generalize putN false exB = pb at *
  have HCK := Lib.hid CK
  have HC1 := Lib.hid C1
  have HC2 := Lib.hid C2
  have HPU := Lib.hid PU
  have HGE := Lib.hid GE
  clear q1 q2 q3 q4 q5 p1 g1 g2 g3 hh CK C1 C2 PU GE
  go_enter Tryd.func25, Tryd.ntmps25
  go_wp2_with fail
  refine (CE _ BX).mono ?_
  rintro e w2 ⟨v2, rfl, ho2, hb2⟩
  have BX := BX.step hb2
  have hb := below_then hB hb2
  obtain ⟨a2, k2, rfl, hs2⟩ := ho2.bss
  clear ho2 hb2 CE hB
  go_wp2_with fail
  have hx2 := below_one w2 (.cells #[.string ⟨#[]⟩, .string ⟨#[]⟩, .bool false, .int .i64 0, .int .i64 2, .string ⟨#[109]⟩, .string ⟨#[]⟩, .bool false, .int .i64 0, .int .i64 3] 76)
  have BE := (Boxes.nil w2).alloc #[.string ⟨#[]⟩, .string ⟨#[]⟩, .bool false, .int .i64 0, .int .i64 2, .string ⟨#[109]⟩, .string ⟨#[]⟩, .bool false, .int .i64 0, .int .i64 3] 76 rfl
  have BX := BX.step hx2
  have hb := below_then hb hx2
  have hs2 := hs2.below (Nat.le_refl _) hx2
  refine (HPU.out _ _ hb BE).mono ?_
  rintro e w3 ⟨v3, rfl, ho3, hb3⟩
  obtain ⟨a3, k3, rfl, hs3⟩ := Bs.of_own ho3
  have BX := BX.step hb3
  have hb := below_then hb hb3
  have hs2 := hs2.below (Nat.le_refl _) hb3
  clear ho3 hb3 BE hx2
  go_wp2_with fail
  refine (HGE.out _ _ _ _ hb hs3).mono ?_
  rintro e w4 ⟨v4, rfl, ho4, hb4⟩
  obtain ⟨a4, k4, rfl, hs4⟩ := ho4.ents
  rw [show exB.length = 2 from rfl] at hs4 ⊢
  have hx4 := below_one w4 (.cells #[.bool false, .slice a4 2 k4] 52)
  have BX := (BX.step hb4).step hx4
  have hb := below_then (below_then hb hb4) hx4
  have hs2 := (hs2.below (Nat.le_refl _) hb4).below (Nat.le_refl _) hx4
  have hs4 := hs4.below (Nat.le_refl _) hx4
  have BN := (Boxes.nil w4).alloc #[.bool false, .slice a4 2 k4] 52 rfl
  obtain ⟨b2, off2, a2', n2', c2', rfl, hbb2, hcell2, hbs2⟩ := hs2.at (k := 0) (by decide)
  have hbs2 : Bs _ a2' n2' c2' [1, 107, 0, 118] := hbs2
  rw [Nat.add_zero] at hcell2
  have hcv2 := conv_string Tryd.underlying26 Tryd.underlying5 Tryd.underlying9 hbs2
  obtain ⟨b4, off4, e4, rfl, hbb4, hy4, f0, f1, f2, f3, f4⟩ := hs4.at (k := 1) (by decide)
  have he4 : e4 = ⟨[109], ⟨[], false, 0, 3⟩⟩ := by
    have := hy4; simp [exB] at this; exact this.symm
  subst he4
  have hst := strOf_toList
  have n0 := BN.cell 0 0 rfl rfl
  have n1 := BN.cell 0 1 rfl rfl
  have x0 := BX.cell 0 0 rfl rfl
  have x1 := BX.cell 0 1 rfl rfl
  clear hs2 hs4 hbs2 ho4 hb4 hx4 hy4 hs3 f0 f1 f2 f3 HPU HGE BN
  go_wp2_with fail
  refine (HCK.out _ BX).mono ?_
  rintro e w5 ⟨rfl, hb5⟩
  have hb := below_then hb hb5
  clear n0 n1 x0 x1 hcell2 hcv2 f4
  go_wp2_with fail
  refine (HC1.out _).mono ?_
  rintro e w6 ⟨rfl, hb6⟩
  have hb := below_then hb hb6
  go_wp2_with fail
  refine (HC2.out _).mono ?_
  rintro e w7 ⟨rfl, hb7⟩
  have hb := below_then hb hb7
  go_wp2_with fail
  go_ret
  exact ⟨rfl, hb⟩
end Go.Proofs.YtjdepdgoaopfoaaDoor
