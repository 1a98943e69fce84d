/- The walks of the chapter on nodes: are two nodes the same? -/
import Derived.Test.YtjdepdgoaopfoaaDoorNodT
import Derived.Deep.QuietTactic
import Derived.BigQuiet
namespace Go.Proofs.YtjdepdgoaopfoaaDoor
open Go.RowKit

def reV (v : Vv) : Value := .agg #[.string (strOf v.data), .bool v.far, .int .i64 v.size, .int .i64 v.page]
theorem eneq_any (e u : En) (w : World) :
    (binOp .neq 108 (.agg #[.string (strOf e.key), .string (strOf e.v.data), .bool e.v.far, .int .i64 e.v.size, .int .i64 e.v.page]) (.agg #[.string (strOf u.key), .string (strOf u.v.data), .bool u.v.far, .int .i64 u.v.size, .int .i64 u.v.page])).run Tryd.prog w = .ok (.bool (e != u)) w := by
  obtain ⟨k, a, b, c, d⟩ := e
  obtain ⟨k', a', b', c', d'⟩ := u
  by_cases h0 : k = k' <;> by_cases h1 : a = a' <;> by_cases h2 : b = b' <;> by_cases h3 : c = c' <;> by_cases h4 : d = d' <;> simp [go_sem, strOf_toList, h0, h1, h2, h3, h4, bne]

/-- Are two nodes the same? -/
def sameB (f g : Bool) (l m : List En) : Bool := f == g && l == m
/-- .. their first so many entries? -/
def fromE (l m : List En) (k : Nat) : Prop := l.take k = m.take k
theorem take_succ_eq {l m : List En} {k : Nat} {x y : En} (h : l.take k = m.take k) (hx : l[k]? = some x) (hy : m[k]? = some y) (he : x = y) : l.take (k + 1) = m.take (k + 1) := by
  rw [List.take_add_one, List.take_add_one, h, hx, hy, he]
set_option maxRecDepth 100000 in
set_option maxHeartbeats 8000000 in
theorem nsame_any (f g : Bool) (a a2 : Option Addr) (n c n2 c2 : Nat) (l m : List En) (w : World) (h : Ents w a n c l) (h2 : Ents w a2 n2 c2 m) (hn : n ≤ 65536) :
    Calls Tryd.prog 39 #[.agg #[.bool f, .slice a n c], .agg #[.bool g, .slice a2 n2 c2]] w fun e w' => e = .returned (.bool (sameB f g l m)) ∧ Below w.heap.size w w' := by
  have hl := h.len
  have hm := h2.len
  by_cases hfg : f = g
  · subst hfg
    by_cases hnn : n = n2
    · subst hnn
      have hq : ((n : Int) != (n : Int)) = false := by simp
      have hB := below_two' w (.cells #[.bool f, .slice a n c] 56) (.cells #[.bool f, .slice a2 n c2] 56)
      have BX := ((Boxes.nil w).alloc #[.bool f, .slice a n c] 56 rfl).alloc #[.bool f, .slice a2 n c2] 56 (by simp : _ = w.heap.size + 1)
      have HX := Lib.hid BX
      have HB := Lib.hid hB
      have HL := Lib.hid hl
      have HM := Lib.hid hm
      clear BX hB hl hm
      have hff : (f != f) = false := by simp
      go_enter Tryd.func39, Tryd.ntmps39
      go_wp2_with fail
      go_loopw [5] (fun i wr => ∃ (k : Nat), k ≤ n ∧ i = .int .i64 k ∧ fromE l m k ∧ Boxes wr [(w.heap.size + 1, [.bool f, .slice a2 n c2]), (w.heap.size, [.bool f, .slice a n c])] ∧ Below w.heap.size w wr) (fun i _ => n - (intOf i).toNat)
      case atStart => exact ⟨0, Nat.zero_le _, rfl, rfl, HX.out, HB.out⟩
      case round =>
        obtain ⟨k, hk, rfl, hfr, BX, hbw⟩ := hrel
        have d1 := BX.cell 1 1 rfl rfl
        have d3 := BX.cell 0 1 rfl rfl
        by_cases hlt : k < n
        · obtain ⟨b, off, e, rfl, hbb, hy, e0, e1, e2, e3, e4⟩ := (h.below (Nat.le_refl _) hbw).at hlt
          obtain ⟨b2, off2, u, rfl, hbb2, hy2, u0, u1, u2, u3, u4⟩ := (h2.below (Nat.le_refl _) hbw).at hlt
          have hE := fun W => eneq_any e u W
          by_cases heu : e = u
          · have hne : (e != u) = false := by simpa using heu
            simp only [hne] at hE
            have HF := Lib.hid (take_succ_eq hfr hy hy2 heu)
            clear hne heu
            go_wp2_with fail
            go_quiet (fail)
            have HBX := Lib.hid (show Boxes (wr.drewN nq) _ from BX)
            have HBW := Lib.hid (below_drewN hbw nq)
            clear BX hbw d1 d3 e0 e1 e2 e3 e4 u0 u1 u2 u3 u4
            go_wp2_with fail
            go_roundw
            case rel => exact ⟨k + 1, by omega, by go_num, HF.out, HBX.out, HBW.out⟩
            case measure => simp [intOf]; omega
          · have hne : (e != u) = true := by simpa using heu
            simp only [hne] at hE
            have HF : Hid (sameB f f l m = false) := Lib.hid (by
              have : l ≠ m := fun q => by rw [q, hy2] at hy; exact heu (Option.some.inj hy).symm
              simp [sameB, this])
            clear hne heu
            go_wp2_with fail
            go_quiet (fail)
            have HBW := Lib.hid (below_drewN hbw nq)
            go_wp2_with fail
            go_ret
            exact ⟨ret_bool HF.out.symm, HBW.out⟩
        · obtain rfl : k = n := by omega
          have HF : Hid (sameB f f l m = true) := Lib.hid (by
            have h1 : l.take k = m.take k := hfr
            rw [List.take_of_length_le (by rw [HL.out]; exact Nat.le_refl _), List.take_of_length_le (by rw [HM.out]; exact Nat.le_refl _)] at h1
            simp [sameB, h1])
          go_wp2_with fail
          go_ret
          exact ⟨ret_bool HF.out.symm, hbw⟩
    · have hq : ((n : Int) != (n2 : Int)) = true := by simp; omega
      have hB := below_two' w (.cells #[.bool f, .slice a n c] 56) (.cells #[.bool f, .slice a2 n2 c2] 56)
      have HF : Hid (sameB f f l m = false) := Lib.hid (by
        have : l ≠ m := fun q => by rw [q] at hl; omega
        simp [sameB, this])
      have hff : (f != f) = false := by simp
      clear hl hm
      go_enter Tryd.func39, Tryd.ntmps39
      go_wp2_with fail
      go_ret
      exact ⟨ret_bool HF.out.symm, hB⟩
  · have hB := below_two' w (.cells #[.bool f, .slice a n c] 56) (.cells #[.bool g, .slice a2 n2 c2] 56)
    have HF : Hid (sameB f g l m = false) := Lib.hid (by simp [sameB, hfg])
    clear hl hm
    cases f <;> cases g
    · exact absurd rfl hfg
    · go_enter Tryd.func39, Tryd.ntmps39
      go_wp2_with fail
      go_ret
      exact ⟨ret_bool HF.out.symm, hB⟩
    · go_enter Tryd.func39, Tryd.ntmps39
      go_wp2_with fail
      go_ret
      exact ⟨ret_bool HF.out.symm, hB⟩
    · exact absurd rfl hfg
end Go.Proofs.YtjdepdgoaopfoaaDoor
