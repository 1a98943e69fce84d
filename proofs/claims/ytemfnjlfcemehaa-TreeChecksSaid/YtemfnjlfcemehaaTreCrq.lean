/- The document's node and Check. -/
import Derived.Test.YtemfnjlfcemehaaTreCkq
import Derived.Test.YtemfnjlfcemehaaTreCbq
namespace Go.Proofs.Ytemfnjlfcemehaa
open Go.RowKit

theorem rnode_any : ∀ {n : Nat} {w : World} {cs : List Value} {t : Tr} {F : Nat → Prop}, RNodeOn F n w cs t → Bnd n t → n ≤ 1000 → ∀ (lo hi : List UInt8) (root : Bool), lo.length ≤ 1000 → hi.length ≤ 1000 →
    Calls Try.prog 62 #[.agg cs.toArray, .string (strOf lo), .string (strOf hi), .bool root] w fun e w' => e = .returned (.int .i64 (depI (depthT n t lo hi root))) ∧ Below w.heap.size w w'
  | 0, _, _, _, _, h, _, _, _, _, _, _, _ => h.elim
  | _n + 1, _, _, .leaf _p _l, _, h, hb, hn, lo, hi, root, hlo, hhi => rnode_leaf h hb (by omega) lo hi root hlo hhi
  | _n + 1, _, _, .node _p _l, _, h, hb, hn, lo, hi, root, hlo, hhi => rnode_branch (fun h hb lo hi hlo hhi => rnode_any h hb (by omega) lo hi false hlo hhi) h hb (by omega) lo hi root hlo hhi
set_option maxRecDepth 100000 in
set_option maxHeartbeats 2000000 in
theorem rcheck_any {n : Nat} {F : Nat → Prop} {w : World} {cs : List Value} {t : Tr} (h : RNodeOn F n w cs t) (hb : Bnd n t) (hn : n ≤ 1000) :
    Calls Try.prog 41 #[.agg cs.toArray] w fun e w' => e = .returned (.bool (checkT n t)) ∧ Below w.heap.size w w' := by
  cases n with
  | zero => exact h.elim
  | succ n =>
  have hh := h
  obtain ⟨a, c, rfl, h1, _⟩ := h.at
  obtain ⟨lf, hlf⟩ : ∃ x, t.isLeaf = x := ⟨_, rfl⟩
  obtain ⟨m, hm⟩ : ∃ x, cntT t = x := ⟨_, rfl⟩
  obtain ⟨pg, hpg⟩ : ∃ x, t.page = x := ⟨_, rfl⟩
  have hm9 : m ≤ 1000 := by rw [← hm]; exact hb.cnt
  rw [hlf, hm, hpg] at hh
  have hB0 : Below w.heap.size w (w.alloc (.cells #[.int .i64 pg, .bool lf, .slice a m c] 26)) := Below.al (Below.refl _ _)
  have hX0 : Boxes _ [(w.heap.size, [.int .i64 pg, .bool lf, .slice a m c])] := ((Boxes.nil w).alloc #[.int .i64 pg, .bool lf, .slice a m c] 26 rfl)
  obtain ⟨wA, hwA⟩ : ∃ wA, w.alloc (.cells #[.int .i64 pg, .bool lf, .slice a m c] 26) = wA := ⟨_, rfl⟩
  rw [hwA] at hB0 hX0
  rw [hlf, hm, hpg]
  have CF := rnode_any (hh.below hB0) hb hn [] [] true (by decide) (by decide)
  have hck : checkT (n + 1) t = (emptyB t || (depthT (n + 1) t [] [] true).isSome) := rfl
  obtain ⟨D, hD⟩ : ∃ D, depthT (n + 1) t [] [] true = D := ⟨_, rfl⟩
  rw [hD] at CF hck
  have hem : emptyB t = (lf && (pg == 0 && m == 0)) := by
    rw [← hlf, ← hpg, ← hm]
    cases t with
    | leaf p l => cases l <;> rfl
    | node p l => rfl
  have h0 := depI_nn D
  have hs0 : strOf [] = ⟨#[]⟩ := rfl
  rw [hs0] at CF
  have HCK : Hid (checkT (n + 1) t = (lf && (pg == 0 && m == 0) || D.isSome)) := Lib.hid (by rw [hck, hem])
  have HB := Lib.hid hB0
  have n0 := hX0.cell 0 0 rfl rfl
  have n1 := hX0.cell 0 1 rfl rfl
  have n2 := hX0.cell 0 2 rfl rfl
  generalize depI D = di at *
  generalize D.isSome = ds at *
  generalize checkT (n + 1) t = ck at *
  clear hh h h1 hlf hm hpg hB0 hX0 hb hck hem hD
  cases lf with
  | false =>
    go_enter Try.func41, Try.ntmps41
    go_wp2_with fail
    try rw [hwA]
    refine CF.mono ?_
    rintro e w2 ⟨rfl, hb2⟩
    have HB2 := Lib.hid (HB.out.trans (hb2.mono HB.out.size))
    clear CF hb2
    go_wp2_with fail
    go_ret
    exact ⟨by rw [HCK.out]; rfl, HB2.out⟩
  | true =>
    by_cases hm0 : m = 0
    · subst hm0
      by_cases hp : pg = 0
      · subst hp
        have HE : Hid (ck = true) := Lib.hid (by rw [HCK.out]; rfl)
        go_enter Try.func41, Try.ntmps41
        go_wp2_with fail
        go_ret
        exact ⟨by rw [HE.out]; rfl, HB.out⟩
      · have HE : Hid (ck = ds) := Lib.hid (by rw [HCK.out]; simp [hp])
        have q1 : (pg == 0) = false := beq_eq_false_iff_ne.2 hp
        have HM0 := Lib.hid hp
        clear hp
        go_enter Try.func41, Try.ntmps41
        go_wp2_with fail
        try rw [hwA]
        refine CF.mono ?_
        rintro e w2 ⟨rfl, hb2⟩
        have HB2 := Lib.hid (HB.out.trans (hb2.mono HB.out.size))
        clear CF hb2
        go_wp2_with fail
        go_ret
        exact ⟨by rw [HE.out]; rfl, HB2.out⟩
    · have HE : Hid (ck = ds) := Lib.hid (by rw [HCK.out]; simp [hm0])
      have q1 : ((m : Int) == 0) = false := beq_eq_false_iff_ne.2 (by omega)
      have HM0 := Lib.hid hm0
      clear hm0
      go_enter Try.func41, Try.ntmps41
      go_wp2_with fail
      try rw [hwA]
      refine CF.mono ?_
      rintro e w2 ⟨rfl, hb2⟩
      have HB2 := Lib.hid (HB.out.trans (hb2.mono HB.out.size))
      clear CF hb2
      go_wp2_with fail
      go_ret
      exact ⟨by rw [HE.out]; rfl, HB2.out⟩
end Go.Proofs.Ytemfnjlfcemehaa
