/- The reference's regions: Read. -/
import Derived.Test.YtopnfpobbemfbaaRgZ
namespace Go.Proofs.Ytopnfpobbemfbaa
open Go.RowKit

theorem Ls.at {w : World} {a : Option Addr} {len cap : Nat} {l : List (Nat × P128)} (h : Ls w a len cap l) {k : Nat} (hk : k < len) :
    ∃ b off y, a = some ⟨b, off, none⟩ ∧ b < w.heap.size ∧ l[k]? = some y ∧ w.cell? ⟨b, off + k * 2, none⟩ = some (.int .i64 (y.1 : Int)) ∧ w.cell? ⟨b, off + k * 2 + 1, none⟩ = some (.string (strOf y.2.1)) := by
  obtain ⟨b, off, y, cs, e1, e2, e3, _, e5, e6⟩ := TabR.at h hk
  have e7 : cs = lcells y := e5
  subst e7
  exact ⟨b, off, y, e1, e2, e3, by simpa using e6 0 _ rfl, e6 1 _ rfl⟩
def RReadPost (w : World) (l : List UInt8) (er : Int) (e : Ending) (w' : World) : Prop := e = .returned (.tuple #[.string (strOf l), .int .i64 er]) ∧ Below w.heap.size w w'
set_option maxRecDepth 100000 in
set_option maxHeartbeats 3000000 in
theorem rread_any {w : World} {a : Option Addr} {len cap : Nat} {d : List Rg} (h : Gs w a len cap d) (hlen : len ≤ 1000) (r p : Int) :
    Calls Try.prog 24 #[.slice a len cap, .int .i64 r, .int .i64 p] w (RReadPost w (readB d r p) (pagedE d r p)) := by
  have U := rup_any h (by omega) r p true
  have hre : refE d r p true = pagedE d r p := rfl
  rw [hre] at U
  by_cases hu : pagedE d r p = 0
  · obtain ⟨i, pn, x, rfl, rfl, hx, hdn, hpn⟩ := pagedE_zero hu
    have hi : i < len := by have := (List.getElem?_eq_some_iff.1 hx).1; have := h.1; omega
    obtain ⟨b, off, pa, pc, la, lc, rfl, hb, c0, c1, c2, c3, g2, g3, g4, g5, g6, g7⟩ := h.at hx
    have e1 : readB d i pn = (seen x pn).1 := by rw [readB, if_pos hu, atR_of hx, Int.toNat_natCast]
    rw [hu] at U
    rw [hu, e1]
    have q1 : decide ((i : Int) < len) = true := by simp; omega
    have hbb : Below w.heap.size w (w.alloc (.cells #[.slice pa x.size pc, .slice la x.loose.length lc, .int .i64 x.left, .bool x.down] 58)) := (Below.refl _ _).alloc (Nat.le_refl _) _
    have G3 := Lib.hid (show Ls (w.alloc (.cells #[.slice pa x.size pc, .slice la x.loose.length lc, .int .i64 x.left, .bool x.down] 58)) la x.loose.length lc x.loose from TabR.below (Nat.le_refl _) hbb g3)
    have G2 := Lib.hid (show Txs (w.alloc (.cells #[.slice pa x.size pc, .slice la x.loose.length lc, .int .i64 x.left, .bool x.down] 58)) pa x.size pc (pagesL x) from TabR.below (Nat.le_refl _) hbb g2)
    have hll : x.loose.length ≤ 9223372036854775807 := by have := g3.2.1; have := g3.2.2.1; unfold maxLen at this; omega
    have HPN := Lib.hid hpn
    have HBB := Lib.hid hbb
    have HS := Lib.hid (show lastW pn (x.pages pn) (x.loose.take x.loose.length) = seen x pn by rw [List.take_length]; rfl)
    clear h hx hu hdn e1 g2 g3 g5 hre hbb
    go_enter Try.func24, Try.ntmps24
    go_wp2_with fail
    refine U.mono ?_
    rintro e w9 ⟨rfl, rfl⟩
    clear U
    go_wp2_with fail
    go_loop [10] (fun v => ∃ j : Nat, j ≤ x.loose.length ∧ v = .int .i64 ((j : Int) - 1) ∧ lastW pn (x.pages pn) (x.loose.take j) = seen x pn) (fun v => (intOf v + 1).toNat)
    case atStart => exact ⟨x.loose.length, Nat.le_refl _, rfl, HS.out⟩
    case round =>
      obtain ⟨j, hj, rfl, hlw⟩ := hrel
      cases j with
      | zero =>
        obtain ⟨b9, o9, s9, rfl, _, hs9, hc9⟩ := G2.out.at HPN.out
        have hse : s9 = (seen x pn).1 := by
          rw [← hlw]
          simp only [pagesL, List.getElem?_map] at hs9
          rw [List.getElem?_range HPN.out] at hs9
          simp at hs9
          rw [← hs9]; rfl
        have HSE := Lib.hid hse
        have q2 : decide ((0 : Int) ≤ ((0 : Nat) : Int) - 1) = false := by decide
        have q3 := Lib.hid HPN.out
        have q4 : pn < x.size := HPN.out
        clear hlw hs9 hse
        go_wp2_with fail
        go_ret2
        have END : RReadPost w (seen x pn).1 0 (.returned (.tuple #[.string (strOf s9), .int .i64 0])) _ := ⟨by rw [HSE.out], HBB.out⟩
        exact END
      | succ m =>
        obtain ⟨b9, o9, y, rfl, _, hy, d0, d1⟩ := G3.out.at (k := m) (by omega)
        have hlt := lastW_take pn (x.pages pn) x.loose m y hy
        rw [hlw] at hlt
        have em : (((m + 1 : Nat) : Int) - 1) = (m : Int) := by omega
        by_cases hyp : y.1 = pn
        · rw [if_pos hyp] at hlt
          have HLT := Lib.hid hlt
          have q2 : ((y.1 : Int) == (pn : Int)) = true := by simp [hyp]
          have q3 : (y.1 == pn) = true := by simp [hyp]
          rw [em]
          clear hlw hlt hyp hy em
          go_wp2_with fail
          go_ret2
          have END : RReadPost w (seen x pn).1 0 (.returned (.tuple #[.string (strOf y.2.1), .int .i64 0])) _ := ⟨by rw [HLT.out], HBB.out⟩
          exact END
        · rw [if_neg hyp] at hlt
          have HLT := Lib.hid hlt
          have q2 : ((y.1 : Int) == (pn : Int)) = false := by simp; omega
          have q3 : (y.1 == pn) = false := by simp [hyp]
          rw [em]
          clear hlw hlt hyp hy em
          go_wp2_with fail
          go_round
          case rel => exact ⟨m, by omega, rfl, HLT.out.symm⟩
          case measure => simp [intOf]
  · have e1 : readB d r p = [] := by rw [readB, if_neg hu]
    rw [e1]
    have q0 : (pagedE d r p == 0) = false := by simpa using hu
    generalize pagedE d r p = er at *
    clear hu e1 h hre
    go_enter Try.func24, Try.ntmps24
    go_wp2_with fail
    refine U.mono ?_
    rintro e w0 ⟨rfl, rfl⟩
    go_wp2_with fail
    go_ret2
    exact ⟨rfl, Below.refl _ _⟩
end Go.Proofs.Ytopnfpobbemfbaa
