/- Texts that other texts of this claim lean on, one behind the other. -/
import Derived.Test.YtpghlmcoajaiiaaGreatDoorM11
import Derived.Deep.LoopGhost
import Derived.WalkMore
import Derived.Deep.QuietTactic
import Derived.BigQuiet
import Derived.Deep.RegionHeld3
import Derived.Deep.DeepCutAuto
import Derived.Deep.CutBlock
/- A cursor settles: the walk (printed by gen_treKs.py). -/
namespace Go.Proofs.YtpghlmcoajaiiaaGreatDoor
open Go.RowKit

/-- The nodes under the top: each at a kid of its. -/
def ValidB : Nat → List (Tr × Nat) → Prop
  | _, [] => True
  | g, (t, k) :: r => (∃ lo hi, Shape g lo hi t ∧ sumT t ≤ 200) ∧ k < cntT t ∧ ValidB (g + 1) r
/-- A path that may be. -/
def ValidC : Nat → List (Tr × Nat) → Prop
  | _, [] => True
  | g, (t, k) :: r => (∃ lo hi, Shape g lo hi t ∧ sumT t ≤ 200) ∧ k ≤ cntT t ∧ ValidB (g + 1) r
/-- A cursor that stands on an entry, or nowhere. -/
def Settled (N : Nat) (r : List (Tr × Nat)) : Prop := r = [] ∨ ∃ p l k q, r = (.leaf p l, k) :: q ∧ k < l.length ∧ r.length = N ∧ ValidC 1 r
def SettleTo (E : TypeId) (F : Nat → Prop) (N B b : Nat) (R : List (List UInt8 × Tv)) (v : Value) (w : World) (e : Ending) (w' : World) : Prop :=
  e = .returned (.tuple #[]) ∧ ∃ v' r', CurAt E F N B b w' v' r' ∧ Settled N r' ∧ restC 1 r' = R ∧ CurStay b v w w' v'
theorem info_step : RowInfo Tryz.prog 301 6 96 := row_info (by kernel_rfl)
theorem kid_good {g : Nat} {lo hi : List UInt8} {p : Int} {l : List (List UInt8 × Tr)} {k : Nat} (h : Shape (g + 1) lo hi (.node p l)) (hk : k < l.length) : ∃ lo' hi', Shape g lo' hi' (kidAt l k) ∧ sumT (kidAt l k) ≤ 200 := by
  have e : l = l.take k ++ l[k] :: l.drop (k + 1) := by simp
  have h1 := (shape_kids h).1
  rw [e] at h1
  obtain ⟨lo', hi', _, h2⟩ := kids_focus h1
  have : kidAt l k = l[k].2 := by simp [kidAt, hk]
  rw [this]
  exact ⟨lo', hi', h2.1, by have := h2.2.2; omega⟩
set_option maxRecDepth 100000 in
set_option maxHeartbeats 3000000 in
theorem settle_any {F : Nat → Prop} {N B b : Nat} {w : World} {v : Value} {g : Nat} {r : List (Tr × Nat)} (h : CurAt 301 F N B b w v r) (hB : B ≤ w.heap.size) (hv : ValidC g r) (hl : r = [] ∨ g + r.length = N + 1) (hN : N ≤ 200) :
    Calls Tryz.prog 162 #[.pointer (some ⟨b, 0, none⟩)] w (SettleTo 301 F N B b (restC g r) v w) := by
  obtain ⟨R, hR⟩ : ∃ R, restC g r = R := ⟨_, rfl⟩
  rw [hR]
  have HH := Lib.hid h
  have HV := Lib.hid hv
  have HL := Lib.hid hl
  have HR := Lib.hid hR
  clear h hv hl hR
  go_enter Tryz.func162, Tryz.ntmps162
  go_wp2
  go_step3
  go_wp2
  go_step3
  go_wp2
  go_loopg [2] (workC g r + 1) (fun gk s2 wr => ∃ (g : Nat) (r : List (Tr × Nat)) (v' : Value), workC g r < gk ∧ CurAt 301 F N B b wr v' r ∧ B ≤ wr.heap.size ∧ ValidC g r ∧ (r = [] ∨ g + r.length = N + 1) ∧ restC g r = R ∧ CurStay b v w wr v')
  case atStart => exact ⟨g, r, v, Nat.lt_succ_self _, HH.out, hB, HV.out, HL.out, HR.out, CurStay.refl _ _ _⟩
  case round =>
    clear HH HV HL HR
    obtain ⟨g, r, v', hgk, hc, hB', hv, hl, hr, hst⟩ := hrel
    obtain ⟨a, c, rfl, hac, hcm, hg0⟩ := hc.sl
    have f0 := hc.1.cell 0 0 rfl rfl
    cases r with
    | nil =>
      have hrn : R = [] := by rw [← hr]; rfl
      have HE : Hid (SettleTo 301 F N B b R v w (.returned (.tuple #[])) wr) := Lib.hid ⟨rfl, _, [], hc, .inl rfl, by rw [hrn]; rfl, hst⟩
      clear hc hst hr hg0 hv hl
      go_wp2
      rw [Exit.noGoto_normal]
      go_end0
      exact HE.out
    | cons s r =>
    obtain ⟨t, k⟩ := s
    obtain ⟨gb, rfl, hgB, hgw, hfz⟩ := hg0 (by simp)
    obtain ⟨a1, c1, a2, n2, c2, a3, n3, c3, hn, hnode, hcells⟩ := hc.top
    obtain ⟨n, hnl⟩ : ∃ n, r.length = n := ⟨_, rfl⟩
    have hlen : ((t, k) :: r).length = n + 1 := by simp [hnl]
    rw [hlen] at f0
    rw [hnl] at hcells
    have hgl : g + (n + 1) = N + 1 := by
      rcases hl with hl | hl
      · cases hl
      · rw [hlen] at hl; exact hl
    obtain ⟨⟨lo, hi, hsh, hsum⟩, hkc, hvb⟩ := hv
    have hcnt := shape_cnt hsh hsum
    have hw1 : IntKind.i64.wrap ((n + 1 : Nat) - 1 : Int) = (n : Int) := by rw [IntWalk.i64_in _ (by omega)]; omega
    have hw1' : IntKind.i64.wrap ((n : Int) + 1 - 1) = (n : Int) := by rw [IntWalk.i64_in _ (by omega)]; omega
    have hnn : (n : Int) < ((n + 1 : Nat) : Int) := by omega
    have hwn : IntKind.i64.wrap (n : Int) = (n : Int) := IntWalk.i64_in _ (by omega)
    have h0n : (0 : Int) ≤ (n : Int) := by omega
    have hnc : (n : Int) ≤ (c : Int) := by have := hac; rw [hlen] at this; omega
    have d0 := hcells 5 _ rfl
    have d1 := hcells 1 _ rfl
    have d2 := hcells 2 _ rfl
    have d4 := hcells 4 _ rfl
    have HC := Lib.hid hc
    have HST := Lib.hid hst
    have HVB := Lib.hid hvb
    have HRR := Lib.hid hr
    have HND := Lib.hid hnode
    have HSH := Lib.hid hsh
    have HNL := Lib.hid hnl
    clear hc hst hvb hr hnode hsh hnl hl hg0 hcells hac hlen hn
    go_upto_region 1 with (fail)
    go_quiet (fail)
    obtain ⟨wy, hwy⟩ : ∃ x, x = wr.drewN nq := ⟨_, rfl⟩
    rw [← hwy]
    have hby : Below wr.heap.size wr wy := by rw [hwy]; exact below_drewN (Below.refl _ _) _
    have hcy := HC.out.below hby
    have hsty := HST.out.trans (CurStay.below hby)
    clear hwy f0 d0 d1 d2 d4 HND HC HST
    obtain ⟨a1, c1, a2, n2, c2, a3, n3, c3, _, hnode, hcells⟩ := hcy.top
    rw [HNL.out] at hcells
    have f0 := hcy.1.cell 0 0 rfl rfl
    rw [show ((t, k) :: r).length = n + 1 by simp [HNL.out]] at f0
    have d0 := hcells 5 _ rfl
    have d1 := hcells 1 _ rfl
    have d2 := hcells 2 _ rfl
    have d4 := hcells 4 _ rfl
    have HC := Lib.hid hcy
    have HST := Lib.hid hsty
    have HND := Lib.hid hnode
    have hgw' := Nat.lt_of_lt_of_le hgw hby.size
    clear hcy hsty hnode hcells hby
    by_cases hend : cntT t ≤ k
    · have hge : ((cntT t : Nat) : Int) ≤ (k : Int) := by omega
      have hge' : decide (((cntT t : Nat) : Int) ≤ (k : Int)) = true := by simpa using hge
      go_wp2
      go_quiet (fail)
      go_upto_region 4 with (fail)
      obtain ⟨wx, hwx⟩ : ∃ x, x = wy.drewN nq := ⟨_, rfl⟩
      rw [← hwx]
      have hbx : Below wy.heap.size wy wx := by rw [hwx]; exact below_drewN (Below.refl _ _) _
      have hcx := HC.out.below hbx
      have hstx := HST.out.trans (CurStay.below hbx)
      clear hwx f0 d0 d1 d2 d4 HND HC HST hbx
      obtain ⟨hpop, hpst⟩ := hcx.pop
      rw [HNL.out] at hpop hpst
      have f0 := hcx.1.cell 0 0 rfl rfl
      have f0' := hcx.1.frozen 0 0 rfl
      rw [show ((t, k) :: r).length = n + 1 by simp [HNL.out]] at f0
      have hA00 : AgreeF (fun x => x ≠ b) wx wx.drew := AgreeF.refl _
      have HPOP := Lib.hid (hpop.below (Below.dr (Below.refl _ _)))
      have HPST := Lib.hid (hstx.trans (hpst.trans (CurStay.below (Below.dr (Below.refl _ _)))))
      clear hcx hstx hpop hpst
      refine wp_region_noPanic ?_
      refine wp_region_held_drew (S := (fun W => AgreeF (fun x => x ≠ b) wx W)) (by kernel_rfl) (by (repeat (with_reducible first | assumption | exact AgreeF.refl _ | apply AgreeF.al | apply AgreeF.dr | apply AgreeF.st))) (fun hHeld => ?_)
      refine wpAnyH_take (i := 0) (v := ?_) rfl (by kernel_rfl) (by kernel_rfl) (by kernel_rfl) (fun _ _ _ h => h) (Or.inl ⟨by rfl, ?_⟩) (by assumption) ?_
      rotate_left
      · (intro W hW; (try dsimp only at hW); go_simp <;> (with_reducible rfl))
      try simp only [Act.put]
      try simp only [List.setIfInBounds_toArray, List.set_cons_zero, List.set_cons_succ]
      refine wpAnyH_take (i := 1) (v := ?_) rfl (by kernel_rfl) (by kernel_rfl) (by kernel_rfl) (fun _ _ _ h => h) (Or.inl ⟨by rfl, ?_⟩) (by assumption) ?_
      rotate_left
      · (intro W hW; (try dsimp only at hW); go_simp <;> (with_reducible rfl))
      try simp only [Act.put]
      try simp only [List.setIfInBounds_toArray, List.set_cons_zero, List.set_cons_succ]
      refine wpAnyH_take (i := 2) (v := ?_) rfl (by kernel_rfl) (by kernel_rfl) (by kernel_rfl) (fun _ _ _ h => h) (Or.inl ⟨by rfl, ?_⟩) (by assumption) ?_
      rotate_left
      · (intro W hW; (try dsimp only at hW); go_simp <;> (with_reducible rfl))
      try simp only [Act.put]
      try simp only [List.setIfInBounds_toArray, List.set_cons_zero, List.set_cons_succ]
      refine wpAnyH_take (i := 3) (v := ?_) rfl (by kernel_rfl) (by kernel_rfl) (by kernel_rfl) (fun _ _ _ h => h) (Or.inl ⟨by rfl, ?_⟩) (by assumption) ?_
      rotate_left
      · (intro W hW; (try dsimp only at hW); go_simp <;> (with_reducible rfl))
      try simp only [Act.put]
      try simp only [List.setIfInBounds_toArray, List.set_cons_zero, List.set_cons_succ]
      refine wpAnyH_take (i := 5) (v := ?_) rfl (by kernel_rfl) (by kernel_rfl) (by kernel_rfl) (fun _ _ _ h => h) (Or.inl ⟨by rfl, ?_⟩) (by assumption) ?_
      rotate_left
      · (intro W hW; (try dsimp only at hW); go_simp <;> (with_reducible rfl))
      try simp only [Act.put]
      try simp only [List.setIfInBounds_toArray, List.set_cons_zero, List.set_cons_succ]
      refine wpAnyH_take (i := 6) (v := ?_) rfl (by kernel_rfl) (by kernel_rfl) (by kernel_rfl) (fun _ _ _ h => h) (Or.inl ⟨by rfl, ?_⟩) (by assumption) ?_
      rotate_left
      · (intro W hW; (try dsimp only at hW); go_simp <;> (with_reducible rfl))
      try simp only [Act.put]
      try simp only [List.setIfInBounds_toArray, List.set_cons_zero, List.set_cons_succ]
      refine wpAnyH_take (i := 7) (v := ?_) rfl (by kernel_rfl) (by kernel_rfl) (by kernel_rfl) (fun _ _ _ h => h) (Or.inl ⟨by rfl, ?_⟩) (by assumption) ?_
      rotate_left
      · (intro W hW; (try dsimp only at hW); go_simp <;> (with_reducible rfl))
      try simp only [Act.put]
      try simp only [List.setIfInBounds_toArray, List.set_cons_zero, List.set_cons_succ]
      refine wpAnyH_ready (rs := [4, 8]) (by kernel_rfl) (by simp) (AllReadyH.cons rfl (fun K hK => ?_) (AllReadyH.cons rfl (fun K hK => ?_) AllReadyH.nil))
      · (rw [if_pos (by rfl)]; go_wp2_with (fail))
        refine hK.out _ _ (by (repeat (with_reducible first | assumption | exact AgreeF.refl _ | apply AgreeF.al | apply AgreeF.dr | apply AgreeF.st))) (fun hHeld => ?_)
        clear hK K
        try simp only [Act.put]
        try simp only [List.setIfInBounds_toArray, List.set_cons_zero, List.set_cons_succ]
        refine wpAnyH_ready (rs := [8]) (by kernel_rfl) (by simp) (AllReadyH.cons rfl (fun K hK => ?_) AllReadyH.nil)
        (rw [if_pos (by rfl)]; go_wp2_with (fail))
        refine hK.out _ _ (by (repeat (with_reducible first | assumption | exact AgreeF.refl _ | apply AgreeF.al | apply AgreeF.dr | apply AgreeF.st))) (fun hHeld => ?_)
        clear hK K
        try simp only [Act.put]
        try simp only [List.setIfInBounds_toArray, List.set_cons_zero, List.set_cons_succ]
        refine wpAnyH_take (i := 9) (v := ?_) rfl (by kernel_rfl) (by kernel_rfl) (by kernel_rfl) (fun _ _ _ h => h) (Or.inl ⟨by rfl, ?_⟩) (by assumption) ?_
        rotate_left
        · (intro W hW; (try dsimp only at hW); go_simp <;> (with_reducible rfl))
        try simp only [Act.put]
        try simp only [List.setIfInBounds_toArray, List.set_cons_zero, List.set_cons_succ]
        refine wpAnyH_take (i := 10) (v := ?_) rfl (by kernel_rfl) (by kernel_rfl) (by kernel_rfl) (fun _ _ _ h => h) (Or.inl ⟨by rfl, ?_⟩) (by assumption) ?_
        rotate_left
        · (intro W hW; (try dsimp only at hW); go_simp <;> (with_reducible rfl))
        try simp only [Act.put]
        try simp only [List.setIfInBounds_toArray, List.set_cons_zero, List.set_cons_succ]
        refine wpAnyH_take (i := 11) (v := ?_) rfl (by kernel_rfl) (by kernel_rfl) (by kernel_rfl) (fun _ _ _ h => h) (Or.inl ⟨by rfl, ?_⟩) (by assumption) ?_
        rotate_left
        · (intro W hW; (try dsimp only at hW); go_simp <;> (with_reducible rfl))
        try simp only [Act.put]
        try simp only [List.setIfInBounds_toArray, List.set_cons_zero, List.set_cons_succ]
        refine wpAnyH_take (i := 12) (v := ?_) rfl (by kernel_rfl) (by kernel_rfl) (by kernel_rfl) (fun _ _ _ h => h) (Or.inl ⟨by rfl, ?_⟩) (by assumption) ?_
        rotate_left
        · (intro W hW; (try dsimp only at hW); go_simp <;> (with_reducible rfl))
        try simp only [Act.put]
        try simp only [List.setIfInBounds_toArray, List.set_cons_zero, List.set_cons_succ]
        refine wpAnyH_take (i := 13) (v := ?_) rfl (by kernel_rfl) (by kernel_rfl) (by kernel_rfl) (fun _ _ _ h => h) (Or.inl ⟨by rfl, ?_⟩) (by assumption) ?_
        rotate_left
        · (intro W hW; (try dsimp only at hW); go_simp <;> (with_reducible rfl))
        try simp only [Act.put]
        try simp only [List.setIfInBounds_toArray, List.set_cons_zero, List.set_cons_succ]
        refine wpAnyH_ready (rs := [14]) (by kernel_rfl) (by simp) (AllReadyH.cons rfl (fun K hK => ?_) AllReadyH.nil)
        (rw [if_pos (by rfl)]; go_wp2_with (fail))
        refine hK.out _ _ (by (repeat (with_reducible first | assumption | exact AgreeF.refl _ | apply AgreeF.al | apply AgreeF.dr | apply AgreeF.st))) (fun hHeld => ?_)
        clear hK K
        try simp only [Act.put]
        try simp only [List.setIfInBounds_toArray, List.set_cons_zero, List.set_cons_succ]
        refine wpAnyH_done (by kernel_rfl) ?_ _
        refine NoPanic.normal ?_
        obtain ⟨wz, hwz⟩ : ∃ x, x = (wx.setCell ⟨b, 0, none⟩ (.slice (some ⟨gb, 0, none⟩) n c)).drew := ⟨_, rfl⟩
        rw [← hwz] at HPOP HPST ⊢
        clear hwz f0 f0' hA00 hHeld
        have hcz := HPOP.out
        have hstz := HPST.out
        clear HPOP HPST
        have hwp := work_pop (g := g) hend r
        have hrp := rest_pop (g := g) hend r
        rw [HRR.out] at hrp
        cases r with
        | nil =>
          obtain rfl : n = 0 := HNL.out.symm
          have f0 := hcz.1.cell 0 0 rfl rfl
          have HREL : Hid (∃ (g' : Nat) (r' : List (Tr × Nat)) (v' : Value), workC g' r' < workC g [(t, k)] ∧ CurAt 301 F N B b wz v' r' ∧ B ≤ wz.heap.size ∧ ValidC g' r' ∧ (r' = [] ∨ g' + r'.length = N + 1) ∧ restC g' r' = R ∧ CurStay b v w wz v') := Lib.hid ⟨g + 1, [], _, hwp, hcz, Nat.le_trans hB hstz.1.1, trivial, .inl rfl, hrp.symm, hstz⟩
          clear hcz hstz hwp hrp HRR
          go_wp2
          go_roundg (workC g [(t, k)])
          case rel => exact HREL.out
          case measure => exact hgk
        | cons s r =>
          obtain ⟨t', k'⟩ := s
          obtain ⟨n', hnl'⟩ : ∃ n', r.length = n' := ⟨_, rfl⟩
          obtain rfl : n = n' + 1 := by have := HNL.out; simp at this; omega
          obtain ⟨⟨lo', hi', hsh', hsum'⟩, hkc', hvb'⟩ := HVB.out
          have hcnt' := shape_cnt hsh' hsum'
          obtain ⟨_, _, _, _, _, _, _, _, _, _, hcells⟩ := hcz.top
          rw [hnl'] at hcells
          have f0 := hcz.1.cell 0 0 rfl rfl
          have d5 := hcells 5 _ rfl
          obtain ⟨az, cz, ee, _, _, hg0⟩ := hcz.sl
          simp only [Value.slice.injEq] at ee
          obtain ⟨ea, _, _⟩ := ee
          subst ea
          obtain ⟨_, eg, _, hgz, hfz'⟩ := hg0 (by simp)
          cases eg
          have d5' := hfz' (n' * 6 + 5)
          obtain ⟨hbump, hbst⟩ := hcz.bump (k' + 1)
          rw [hnl'] at hbump hbst
          have hbgb : b ≠ gb := by have := hcz.2.1; omega
          have hlb : b < wz.heap.size := hcz.1.lt 0 rfl
          have hw2 : IntKind.i64.wrap (((n' + 1 : Nat) : Int) - 1) = (n' : Int) := by rw [IntWalk.i64_in _ (by omega)]; omega
          have hw2' : IntKind.i64.wrap ((n' : Int) + 1 - 1) = (n' : Int) := by rw [IntWalk.i64_in _ (by omega)]; omega
          have hwn' : IntKind.i64.wrap (n' : Int) = (n' : Int) := IntWalk.i64_in _ (by omega)
          have hnn' : (n' : Int) < (n' : Int) + 1 := by omega
          have h0n' : (0 : Int) ≤ (n' : Int) := by omega
          have htn' : (n' : Int).toNat = n' := rfl
          have hw3 : IntKind.i64.wrap ((k' : Int) + 1) = (k' : Int) + 1 := IntWalk.i64_in _ (by omega)
          have hcast : ((k' + 1 : Nat) : Int) = (k' : Int) + 1 := by omega
          rw [hcast] at hbump hbst
          have l0 : ∀ W, AgreeF (fun x => x ≠ gb) wz W → W.cell? ⟨b, 0, none⟩ = some (.slice (some ⟨gb, 0, none⟩) (n' + 1) c) := fun W hW => (hW.cell hbgb hlb).trans f0
          have hA00 : AgreeF (fun x => x ≠ gb) wz wz.drew := AgreeF.refl _
          have HREL : Hid (∃ (g' : Nat) (r' : List (Tr × Nat)) (v' : Value), workC g' r' < workC g ((t, k) :: (t', k') :: r) ∧ CurAt 301 F N B b ((wz.setCell ⟨gb, n' * 6 + 5, none⟩ (.int .i64 ((k' : Int) + 1))).drew) v' r' ∧ B ≤ ((wz.setCell ⟨gb, n' * 6 + 5, none⟩ (.int .i64 ((k' : Int) + 1))).drew).heap.size ∧ ValidC g' r' ∧ (r' = [] ∨ g' + r'.length = N + 1) ∧ restC g' r' = R ∧ CurStay b v w ((wz.setCell ⟨gb, n' * 6 + 5, none⟩ (.int .i64 ((k' : Int) + 1))).drew) v') := Lib.hid
            ⟨g + 1, (t', k' + 1) :: r, _, hwp, hbump.below (Below.dr (Below.refl _ _)), Nat.le_trans hB (Nat.le_trans hstz.1.1 hbst.1.1), ⟨⟨lo', hi', hsh', hsum'⟩, by omega, hvb'⟩, .inr (by simp [hnl']; omega), hrp.symm, hstz.trans (hbst.trans (CurStay.below (Below.dr (Below.refl _ _))))⟩
          clear hcz hstz hwp hrp HRR hcells hg0 hbump hbst hsh' hvb'
          go_upto_region 6 with (fail)
          refine wp_region_noPanic ?_
          refine wp_region_held_drew (S := (fun W => AgreeF (fun x => x ≠ gb) wz W)) (by kernel_rfl) (by (repeat (with_reducible first | assumption | exact AgreeF.refl _ | apply AgreeF.al | apply AgreeF.dr | apply AgreeF.st))) (fun hHeld => ?_)
          refine wpAnyH_take (i := 0) (v := ?_) rfl (by kernel_rfl) (by kernel_rfl) (by kernel_rfl) (fun _ _ _ h => h) (Or.inl ⟨by rfl, ?_⟩) (by assumption) ?_
          rotate_left
          · (intro W hW; (try dsimp only at hW); go_simp <;> (with_reducible rfl))
          try simp only [Act.put]
          try simp only [List.setIfInBounds_toArray, List.set_cons_zero, List.set_cons_succ]
          refine wpAnyH_take (i := 1) (v := ?_) rfl (by kernel_rfl) (by kernel_rfl) (by kernel_rfl) (fun _ _ _ h => h) (Or.inl ⟨by rfl, ?_⟩) (by assumption) ?_
          rotate_left
          · (intro W hW; (try dsimp only at hW); go_simp <;> (with_reducible rfl))
          try simp only [Act.put]
          try simp only [List.setIfInBounds_toArray, List.set_cons_zero, List.set_cons_succ]
          refine wpAnyH_take (i := 2) (v := ?_) rfl (by kernel_rfl) (by kernel_rfl) (by kernel_rfl) (fun _ _ _ h => h) (Or.inl ⟨by rfl, ?_⟩) (by assumption) ?_
          rotate_left
          · (intro W hW; (try dsimp only at hW); go_simp <;> (with_reducible rfl))
          try simp only [Act.put]
          try simp only [List.setIfInBounds_toArray, List.set_cons_zero, List.set_cons_succ]
          refine wpAnyH_take (i := 3) (v := ?_) rfl (by kernel_rfl) (by kernel_rfl) (by kernel_rfl) (fun _ _ _ h => h) (Or.inl ⟨by rfl, ?_⟩) (by assumption) ?_
          rotate_left
          · (intro W hW; (try dsimp only at hW); go_simp <;> (with_reducible rfl))
          try simp only [Act.put]
          try simp only [List.setIfInBounds_toArray, List.set_cons_zero, List.set_cons_succ]
          refine wpAnyH_take (i := 4) (v := ?_) rfl (by kernel_rfl) (by kernel_rfl) (by kernel_rfl) (fun _ _ _ h => h) (Or.inl ⟨by rfl, ?_⟩) (by assumption) ?_
          rotate_left
          · (intro W hW; (try dsimp only at hW); go_simp <;> (with_reducible rfl))
          try simp only [Act.put]
          try simp only [List.setIfInBounds_toArray, List.set_cons_zero, List.set_cons_succ]
          refine wpAnyH_take (i := 5) (v := ?_) rfl (by kernel_rfl) (by kernel_rfl) (by kernel_rfl) (fun _ _ _ h => h) (Or.inl ⟨by rfl, ?_⟩) (by assumption) ?_
          rotate_left
          · (intro W hW; (try dsimp only at hW); go_simp <;> (with_reducible rfl))
          try simp only [Act.put]
          try simp only [List.setIfInBounds_toArray, List.set_cons_zero, List.set_cons_succ]
          refine wpAnyH_take (i := 6) (v := ?_) rfl (by kernel_rfl) (by kernel_rfl) (by kernel_rfl) (fun _ _ _ h => h) (Or.inl ⟨by rfl, ?_⟩) (by assumption) ?_
          rotate_left
          · (intro W hW; (try dsimp only at hW); go_simp <;> (with_reducible rfl))
          try simp only [Act.put]
          try simp only [List.setIfInBounds_toArray, List.set_cons_zero, List.set_cons_succ]
          refine wpAnyH_take (i := 7) (v := ?_) rfl (by kernel_rfl) (by kernel_rfl) (by kernel_rfl) (fun _ _ _ h => h) (Or.inl ⟨by rfl, ?_⟩) (by assumption) ?_
          rotate_left
          · (intro W hW; (try dsimp only at hW); go_simp <;> (with_reducible rfl))
          try simp only [Act.put]
          try simp only [List.setIfInBounds_toArray, List.set_cons_zero, List.set_cons_succ]
          refine wpAnyH_take (i := 8) (v := ?_) rfl (by kernel_rfl) (by kernel_rfl) (by kernel_rfl) (fun _ _ _ h => h) (Or.inl ⟨by rfl, ?_⟩) (by assumption) ?_
          rotate_left
          · (intro W hW; (try dsimp only at hW); go_simp <;> (with_reducible rfl))
          try simp only [Act.put]
          try simp only [List.setIfInBounds_toArray, List.set_cons_zero, List.set_cons_succ]
          refine wpAnyH_take (i := 9) (v := ?_) rfl (by kernel_rfl) (by kernel_rfl) (by kernel_rfl) (fun _ _ _ h => h) (Or.inl ⟨by rfl, ?_⟩) (by assumption) ?_
          rotate_left
          · (intro W hW; (try dsimp only at hW); go_simp <;> (with_reducible rfl))
          try simp only [Act.put]
          try simp only [List.setIfInBounds_toArray, List.set_cons_zero, List.set_cons_succ]
          refine wpAnyH_take (i := 10) (v := ?_) rfl (by kernel_rfl) (by kernel_rfl) (by kernel_rfl) (fun _ _ _ h => h) (Or.inl ⟨by rfl, ?_⟩) (by assumption) ?_
          rotate_left
          · (intro W hW; (try dsimp only at hW); go_simp <;> (with_reducible rfl))
          try simp only [Act.put]
          try simp only [List.setIfInBounds_toArray, List.set_cons_zero, List.set_cons_succ]
          refine wpAnyH_take (i := 11) (v := ?_) rfl (by kernel_rfl) (by kernel_rfl) (by kernel_rfl) (fun _ _ _ h => h) (Or.inl ⟨by rfl, ?_⟩) (by assumption) ?_
          rotate_left
          · (intro W hW; (try dsimp only at hW); go_simp <;> (with_reducible rfl))
          try simp only [Act.put]
          try simp only [List.setIfInBounds_toArray, List.set_cons_zero, List.set_cons_succ]
          refine wpAnyH_ready (rs := [12]) (by kernel_rfl) (by simp) (AllReadyH.cons rfl (fun K hK => ?_) AllReadyH.nil)
          (rw [if_pos (by rfl)]; go_wp2_with (fail))
          refine hK.out _ _ (by (repeat (with_reducible first | assumption | exact AgreeF.refl _ | apply AgreeF.al | apply AgreeF.dr | apply AgreeF.st))) (fun hHeld => ?_)
          clear hK K
          try simp only [Act.put]
          try simp only [List.setIfInBounds_toArray, List.set_cons_zero, List.set_cons_succ]
          refine wpAnyH_take (i := 13) (v := ?_) rfl (by kernel_rfl) (by kernel_rfl) (by kernel_rfl) (fun _ _ _ h => h) (Or.inl ⟨by rfl, ?_⟩) (by assumption) ?_
          rotate_left
          · (intro W hW; (try dsimp only at hW); go_simp <;> (with_reducible rfl))
          try simp only [Act.put]
          try simp only [List.setIfInBounds_toArray, List.set_cons_zero, List.set_cons_succ]
          refine wpAnyH_take (i := 14) (v := ?_) rfl (by kernel_rfl) (by kernel_rfl) (by kernel_rfl) (fun _ _ _ h => h) (Or.inl ⟨by rfl, ?_⟩) (by assumption) ?_
          rotate_left
          · (intro W hW; (try dsimp only at hW); go_simp <;> (with_reducible rfl))
          try simp only [Act.put]
          try simp only [List.setIfInBounds_toArray, List.set_cons_zero, List.set_cons_succ]
          refine wpAnyH_take (i := 15) (v := ?_) rfl (by kernel_rfl) (by kernel_rfl) (by kernel_rfl) (fun _ _ _ h => h) (Or.inl ⟨by rfl, ?_⟩) (by assumption) ?_
          rotate_left
          · (intro W hW; (try dsimp only at hW); go_simp <;> (with_reducible rfl))
          try simp only [Act.put]
          try simp only [List.setIfInBounds_toArray, List.set_cons_zero, List.set_cons_succ]
          refine wpAnyH_ready (rs := [16]) (by kernel_rfl) (by simp) (AllReadyH.cons rfl (fun K hK => ?_) AllReadyH.nil)
          (rw [if_pos (by rfl)]; go_wp2_with (fail))
          refine hK.out _ _ (by (repeat (with_reducible first | assumption | exact AgreeF.refl _ | apply AgreeF.al | apply AgreeF.dr | apply AgreeF.st))) (fun hHeld => ?_)
          clear hK K
          try simp only [Act.put]
          try simp only [List.setIfInBounds_toArray, List.set_cons_zero, List.set_cons_succ]
          refine wpAnyH_done (by kernel_rfl) ?_ _
          refine NoPanic.normal ?_
          go_wp2
          go_roundg (workC g ((t, k) :: (t', k') :: r))
          case measure => exact hgk
          case rel => exact HREL.out
      · (rw [if_pos (by rfl)]; go_wp2_with (fail))
        refine hK.out _ _ (by (repeat (with_reducible first | assumption | exact AgreeF.refl _ | apply AgreeF.al | apply AgreeF.dr | apply AgreeF.st))) (fun hHeld => ?_)
        clear hK K
        try simp only [Act.put]
        try simp only [List.setIfInBounds_toArray, List.set_cons_zero, List.set_cons_succ]
        refine wpAnyH_take (i := 9) (v := ?_) rfl (by kernel_rfl) (by kernel_rfl) (by kernel_rfl) (fun _ _ _ h => h) (Or.inl ⟨by rfl, ?_⟩) (by assumption) ?_
        rotate_left
        · (intro W hW; (try dsimp only at hW); go_simp <;> (with_reducible rfl))
        try simp only [Act.put]
        try simp only [List.setIfInBounds_toArray, List.set_cons_zero, List.set_cons_succ]
        refine wpAnyH_take (i := 10) (v := ?_) rfl (by kernel_rfl) (by kernel_rfl) (by kernel_rfl) (fun _ _ _ h => h) (Or.inl ⟨by rfl, ?_⟩) (by assumption) ?_
        rotate_left
        · (intro W hW; (try dsimp only at hW); go_simp <;> (with_reducible rfl))
        try simp only [Act.put]
        try simp only [List.setIfInBounds_toArray, List.set_cons_zero, List.set_cons_succ]
        refine wpAnyH_ready (rs := [4]) (by kernel_rfl) (by simp) (AllReadyH.cons rfl (fun K hK => ?_) AllReadyH.nil)
        (rw [if_pos (by rfl)]; go_wp2_with (fail))
        refine hK.out _ _ (by (repeat (with_reducible first | assumption | exact AgreeF.refl _ | apply AgreeF.al | apply AgreeF.dr | apply AgreeF.st))) (fun hHeld => ?_)
        clear hK K
        try simp only [Act.put]
        try simp only [List.setIfInBounds_toArray, List.set_cons_zero, List.set_cons_succ]
        refine wpAnyH_take (i := 11) (v := ?_) rfl (by kernel_rfl) (by kernel_rfl) (by kernel_rfl) (fun _ _ _ h => h) (Or.inl ⟨by rfl, ?_⟩) (by assumption) ?_
        rotate_left
        · (intro W hW; (try dsimp only at hW); go_simp <;> (with_reducible rfl))
        try simp only [Act.put]
        try simp only [List.setIfInBounds_toArray, List.set_cons_zero, List.set_cons_succ]
        refine wpAnyH_take (i := 12) (v := ?_) rfl (by kernel_rfl) (by kernel_rfl) (by kernel_rfl) (fun _ _ _ h => h) (Or.inl ⟨by rfl, ?_⟩) (by assumption) ?_
        rotate_left
        · (intro W hW; (try dsimp only at hW); go_simp <;> (with_reducible rfl))
        try simp only [Act.put]
        try simp only [List.setIfInBounds_toArray, List.set_cons_zero, List.set_cons_succ]
        refine wpAnyH_take (i := 13) (v := ?_) rfl (by kernel_rfl) (by kernel_rfl) (by kernel_rfl) (fun _ _ _ h => h) (Or.inl ⟨by rfl, ?_⟩) (by assumption) ?_
        rotate_left
        · (intro W hW; (try dsimp only at hW); go_simp <;> (with_reducible rfl))
        try simp only [Act.put]
        try simp only [List.setIfInBounds_toArray, List.set_cons_zero, List.set_cons_succ]
        refine wpAnyH_ready (rs := [14]) (by kernel_rfl) (by simp) (AllReadyH.cons rfl (fun K hK => ?_) AllReadyH.nil)
        (rw [if_pos (by rfl)]; go_wp2_with (fail))
        refine hK.out _ _ (by (repeat (with_reducible first | assumption | exact AgreeF.refl _ | apply AgreeF.al | apply AgreeF.dr | apply AgreeF.st))) (fun hHeld => ?_)
        clear hK K
        try simp only [Act.put]
        try simp only [List.setIfInBounds_toArray, List.set_cons_zero, List.set_cons_succ]
        refine wpAnyH_done (by kernel_rfl) ?_ _
        refine NoPanic.normal ?_
        obtain ⟨wz, hwz⟩ : ∃ x, x = (wx.setCell ⟨b, 0, none⟩ (.slice (some ⟨gb, 0, none⟩) n c)).drew := ⟨_, rfl⟩
        rw [← hwz] at HPOP HPST ⊢
        clear hwz f0 f0' hA00 hHeld
        have hcz := HPOP.out
        have hstz := HPST.out
        clear HPOP HPST
        have hwp := work_pop (g := g) hend r
        have hrp := rest_pop (g := g) hend r
        rw [HRR.out] at hrp
        cases r with
        | nil =>
          obtain rfl : n = 0 := HNL.out.symm
          have f0 := hcz.1.cell 0 0 rfl rfl
          have HREL : Hid (∃ (g' : Nat) (r' : List (Tr × Nat)) (v' : Value), workC g' r' < workC g [(t, k)] ∧ CurAt 301 F N B b wz v' r' ∧ B ≤ wz.heap.size ∧ ValidC g' r' ∧ (r' = [] ∨ g' + r'.length = N + 1) ∧ restC g' r' = R ∧ CurStay b v w wz v') := Lib.hid ⟨g + 1, [], _, hwp, hcz, Nat.le_trans hB hstz.1.1, trivial, .inl rfl, hrp.symm, hstz⟩
          clear hcz hstz hwp hrp HRR
          go_wp2
          go_roundg (workC g [(t, k)])
          case rel => exact HREL.out
          case measure => exact hgk
        | cons s r =>
          obtain ⟨t', k'⟩ := s
          obtain ⟨n', hnl'⟩ : ∃ n', r.length = n' := ⟨_, rfl⟩
          obtain rfl : n = n' + 1 := by have := HNL.out; simp at this; omega
          obtain ⟨⟨lo', hi', hsh', hsum'⟩, hkc', hvb'⟩ := HVB.out
          have hcnt' := shape_cnt hsh' hsum'
          obtain ⟨_, _, _, _, _, _, _, _, _, _, hcells⟩ := hcz.top
          rw [hnl'] at hcells
          have f0 := hcz.1.cell 0 0 rfl rfl
          have d5 := hcells 5 _ rfl
          obtain ⟨az, cz, ee, _, _, hg0⟩ := hcz.sl
          simp only [Value.slice.injEq] at ee
          obtain ⟨ea, _, _⟩ := ee
          subst ea
          obtain ⟨_, eg, _, hgz, hfz'⟩ := hg0 (by simp)
          cases eg
          have d5' := hfz' (n' * 6 + 5)
          obtain ⟨hbump, hbst⟩ := hcz.bump (k' + 1)
          rw [hnl'] at hbump hbst
          have hbgb : b ≠ gb := by have := hcz.2.1; omega
          have hlb : b < wz.heap.size := hcz.1.lt 0 rfl
          have hw2 : IntKind.i64.wrap (((n' + 1 : Nat) : Int) - 1) = (n' : Int) := by rw [IntWalk.i64_in _ (by omega)]; omega
          have hw2' : IntKind.i64.wrap ((n' : Int) + 1 - 1) = (n' : Int) := by rw [IntWalk.i64_in _ (by omega)]; omega
          have hwn' : IntKind.i64.wrap (n' : Int) = (n' : Int) := IntWalk.i64_in _ (by omega)
          have hnn' : (n' : Int) < (n' : Int) + 1 := by omega
          have h0n' : (0 : Int) ≤ (n' : Int) := by omega
          have htn' : (n' : Int).toNat = n' := rfl
          have hw3 : IntKind.i64.wrap ((k' : Int) + 1) = (k' : Int) + 1 := IntWalk.i64_in _ (by omega)
          have hcast : ((k' + 1 : Nat) : Int) = (k' : Int) + 1 := by omega
          rw [hcast] at hbump hbst
          have l0 : ∀ W, AgreeF (fun x => x ≠ gb) wz W → W.cell? ⟨b, 0, none⟩ = some (.slice (some ⟨gb, 0, none⟩) (n' + 1) c) := fun W hW => (hW.cell hbgb hlb).trans f0
          have hA00 : AgreeF (fun x => x ≠ gb) wz wz.drew := AgreeF.refl _
          have HREL : Hid (∃ (g' : Nat) (r' : List (Tr × Nat)) (v' : Value), workC g' r' < workC g ((t, k) :: (t', k') :: r) ∧ CurAt 301 F N B b ((wz.setCell ⟨gb, n' * 6 + 5, none⟩ (.int .i64 ((k' : Int) + 1))).drew) v' r' ∧ B ≤ ((wz.setCell ⟨gb, n' * 6 + 5, none⟩ (.int .i64 ((k' : Int) + 1))).drew).heap.size ∧ ValidC g' r' ∧ (r' = [] ∨ g' + r'.length = N + 1) ∧ restC g' r' = R ∧ CurStay b v w ((wz.setCell ⟨gb, n' * 6 + 5, none⟩ (.int .i64 ((k' : Int) + 1))).drew) v') := Lib.hid
            ⟨g + 1, (t', k' + 1) :: r, _, hwp, hbump.below (Below.dr (Below.refl _ _)), Nat.le_trans hB (Nat.le_trans hstz.1.1 hbst.1.1), ⟨⟨lo', hi', hsh', hsum'⟩, by omega, hvb'⟩, .inr (by simp [hnl']; omega), hrp.symm, hstz.trans (hbst.trans (CurStay.below (Below.dr (Below.refl _ _))))⟩
          clear hcz hstz hwp hrp HRR hcells hg0 hbump hbst hsh' hvb'
          go_upto_region 6 with (fail)
          refine wp_region_noPanic ?_
          refine wp_region_held_drew (S := (fun W => AgreeF (fun x => x ≠ gb) wz W)) (by kernel_rfl) (by (repeat (with_reducible first | assumption | exact AgreeF.refl _ | apply AgreeF.al | apply AgreeF.dr | apply AgreeF.st))) (fun hHeld => ?_)
          refine wpAnyH_take (i := 0) (v := ?_) rfl (by kernel_rfl) (by kernel_rfl) (by kernel_rfl) (fun _ _ _ h => h) (Or.inl ⟨by rfl, ?_⟩) (by assumption) ?_
          rotate_left
          · (intro W hW; (try dsimp only at hW); go_simp <;> (with_reducible rfl))
          try simp only [Act.put]
          try simp only [List.setIfInBounds_toArray, List.set_cons_zero, List.set_cons_succ]
          refine wpAnyH_take (i := 1) (v := ?_) rfl (by kernel_rfl) (by kernel_rfl) (by kernel_rfl) (fun _ _ _ h => h) (Or.inl ⟨by rfl, ?_⟩) (by assumption) ?_
          rotate_left
          · (intro W hW; (try dsimp only at hW); go_simp <;> (with_reducible rfl))
          try simp only [Act.put]
          try simp only [List.setIfInBounds_toArray, List.set_cons_zero, List.set_cons_succ]
          refine wpAnyH_take (i := 2) (v := ?_) rfl (by kernel_rfl) (by kernel_rfl) (by kernel_rfl) (fun _ _ _ h => h) (Or.inl ⟨by rfl, ?_⟩) (by assumption) ?_
          rotate_left
          · (intro W hW; (try dsimp only at hW); go_simp <;> (with_reducible rfl))
          try simp only [Act.put]
          try simp only [List.setIfInBounds_toArray, List.set_cons_zero, List.set_cons_succ]
          refine wpAnyH_take (i := 3) (v := ?_) rfl (by kernel_rfl) (by kernel_rfl) (by kernel_rfl) (fun _ _ _ h => h) (Or.inl ⟨by rfl, ?_⟩) (by assumption) ?_
          rotate_left
          · (intro W hW; (try dsimp only at hW); go_simp <;> (with_reducible rfl))
          try simp only [Act.put]
          try simp only [List.setIfInBounds_toArray, List.set_cons_zero, List.set_cons_succ]
          refine wpAnyH_take (i := 4) (v := ?_) rfl (by kernel_rfl) (by kernel_rfl) (by kernel_rfl) (fun _ _ _ h => h) (Or.inl ⟨by rfl, ?_⟩) (by assumption) ?_
          rotate_left
          · (intro W hW; (try dsimp only at hW); go_simp <;> (with_reducible rfl))
          try simp only [Act.put]
          try simp only [List.setIfInBounds_toArray, List.set_cons_zero, List.set_cons_succ]
          refine wpAnyH_take (i := 5) (v := ?_) rfl (by kernel_rfl) (by kernel_rfl) (by kernel_rfl) (fun _ _ _ h => h) (Or.inl ⟨by rfl, ?_⟩) (by assumption) ?_
          rotate_left
          · (intro W hW; (try dsimp only at hW); go_simp <;> (with_reducible rfl))
          try simp only [Act.put]
          try simp only [List.setIfInBounds_toArray, List.set_cons_zero, List.set_cons_succ]
          refine wpAnyH_take (i := 6) (v := ?_) rfl (by kernel_rfl) (by kernel_rfl) (by kernel_rfl) (fun _ _ _ h => h) (Or.inl ⟨by rfl, ?_⟩) (by assumption) ?_
          rotate_left
          · (intro W hW; (try dsimp only at hW); go_simp <;> (with_reducible rfl))
          try simp only [Act.put]
          try simp only [List.setIfInBounds_toArray, List.set_cons_zero, List.set_cons_succ]
          refine wpAnyH_take (i := 7) (v := ?_) rfl (by kernel_rfl) (by kernel_rfl) (by kernel_rfl) (fun _ _ _ h => h) (Or.inl ⟨by rfl, ?_⟩) (by assumption) ?_
          rotate_left
          · (intro W hW; (try dsimp only at hW); go_simp <;> (with_reducible rfl))
          try simp only [Act.put]
          try simp only [List.setIfInBounds_toArray, List.set_cons_zero, List.set_cons_succ]
          refine wpAnyH_take (i := 8) (v := ?_) rfl (by kernel_rfl) (by kernel_rfl) (by kernel_rfl) (fun _ _ _ h => h) (Or.inl ⟨by rfl, ?_⟩) (by assumption) ?_
          rotate_left
          · (intro W hW; (try dsimp only at hW); go_simp <;> (with_reducible rfl))
          try simp only [Act.put]
          try simp only [List.setIfInBounds_toArray, List.set_cons_zero, List.set_cons_succ]
          refine wpAnyH_take (i := 9) (v := ?_) rfl (by kernel_rfl) (by kernel_rfl) (by kernel_rfl) (fun _ _ _ h => h) (Or.inl ⟨by rfl, ?_⟩) (by assumption) ?_
          rotate_left
          · (intro W hW; (try dsimp only at hW); go_simp <;> (with_reducible rfl))
          try simp only [Act.put]
          try simp only [List.setIfInBounds_toArray, List.set_cons_zero, List.set_cons_succ]
          refine wpAnyH_take (i := 10) (v := ?_) rfl (by kernel_rfl) (by kernel_rfl) (by kernel_rfl) (fun _ _ _ h => h) (Or.inl ⟨by rfl, ?_⟩) (by assumption) ?_
          rotate_left
          · (intro W hW; (try dsimp only at hW); go_simp <;> (with_reducible rfl))
          try simp only [Act.put]
          try simp only [List.setIfInBounds_toArray, List.set_cons_zero, List.set_cons_succ]
          refine wpAnyH_take (i := 11) (v := ?_) rfl (by kernel_rfl) (by kernel_rfl) (by kernel_rfl) (fun _ _ _ h => h) (Or.inl ⟨by rfl, ?_⟩) (by assumption) ?_
          rotate_left
          · (intro W hW; (try dsimp only at hW); go_simp <;> (with_reducible rfl))
          try simp only [Act.put]
          try simp only [List.setIfInBounds_toArray, List.set_cons_zero, List.set_cons_succ]
          refine wpAnyH_ready (rs := [12]) (by kernel_rfl) (by simp) (AllReadyH.cons rfl (fun K hK => ?_) AllReadyH.nil)
          (rw [if_pos (by rfl)]; go_wp2_with (fail))
          refine hK.out _ _ (by (repeat (with_reducible first | assumption | exact AgreeF.refl _ | apply AgreeF.al | apply AgreeF.dr | apply AgreeF.st))) (fun hHeld => ?_)
          clear hK K
          try simp only [Act.put]
          try simp only [List.setIfInBounds_toArray, List.set_cons_zero, List.set_cons_succ]
          refine wpAnyH_take (i := 13) (v := ?_) rfl (by kernel_rfl) (by kernel_rfl) (by kernel_rfl) (fun _ _ _ h => h) (Or.inl ⟨by rfl, ?_⟩) (by assumption) ?_
          rotate_left
          · (intro W hW; (try dsimp only at hW); go_simp <;> (with_reducible rfl))
          try simp only [Act.put]
          try simp only [List.setIfInBounds_toArray, List.set_cons_zero, List.set_cons_succ]
          refine wpAnyH_take (i := 14) (v := ?_) rfl (by kernel_rfl) (by kernel_rfl) (by kernel_rfl) (fun _ _ _ h => h) (Or.inl ⟨by rfl, ?_⟩) (by assumption) ?_
          rotate_left
          · (intro W hW; (try dsimp only at hW); go_simp <;> (with_reducible rfl))
          try simp only [Act.put]
          try simp only [List.setIfInBounds_toArray, List.set_cons_zero, List.set_cons_succ]
          refine wpAnyH_take (i := 15) (v := ?_) rfl (by kernel_rfl) (by kernel_rfl) (by kernel_rfl) (fun _ _ _ h => h) (Or.inl ⟨by rfl, ?_⟩) (by assumption) ?_
          rotate_left
          · (intro W hW; (try dsimp only at hW); go_simp <;> (with_reducible rfl))
          try simp only [Act.put]
          try simp only [List.setIfInBounds_toArray, List.set_cons_zero, List.set_cons_succ]
          refine wpAnyH_ready (rs := [16]) (by kernel_rfl) (by simp) (AllReadyH.cons rfl (fun K hK => ?_) AllReadyH.nil)
          (rw [if_pos (by rfl)]; go_wp2_with (fail))
          refine hK.out _ _ (by (repeat (with_reducible first | assumption | exact AgreeF.refl _ | apply AgreeF.al | apply AgreeF.dr | apply AgreeF.st))) (fun hHeld => ?_)
          clear hK K
          try simp only [Act.put]
          try simp only [List.setIfInBounds_toArray, List.set_cons_zero, List.set_cons_succ]
          refine wpAnyH_done (by kernel_rfl) ?_ _
          refine NoPanic.normal ?_
          go_wp2
          go_roundg (workC g ((t, k) :: (t', k') :: r))
          case measure => exact hgk
          case rel => exact HREL.out
    · have hlt : ¬ ((cntT t : Nat) : Int) ≤ (k : Int) := by omega
      have hlt' : decide (((cntT t : Nat) : Int) ≤ (k : Int)) = false := by simpa using hlt
      cases t with
      | leaf p l =>
        have hE : g = 1 := by
          cases g with
          | zero => exact HSH.out.elim
          | succ g => obtain ⟨rfl, _⟩ := HSH.out; rfl
        subst hE
        simp only [Tr.isLeaf] at d1
        go_wp2
        go_quiet (fail)
        go_wp2
        rw [Exit.noGoto_normal]
        go_end0
        have hby : Below wy.heap.size wy (wy.drewN nq) := below_drewN (Below.refl _ _) _
        have hN' : ((Tr.leaf p l, k) :: r).length = N := by simp [HNL.out]; omega
        exact ⟨rfl, _, (.leaf p l, k) :: r, HC.out.below hby, .inr ⟨p, l, k, r, rfl, Nat.lt_of_not_le hend, hN', ⟨⟨lo, hi, HSH.out, hsum⟩, hkc, HVB.out⟩⟩, HRR.out, HST.out.trans (CurStay.below hby)⟩
      | node p l =>
        simp only [Tr.isLeaf] at d1
        go_wp2
        go_quiet (fail)
        go_wp2
        obtain ⟨wx, hwx⟩ : ∃ x, x = wy.drewN nq := ⟨_, rfl⟩
        rw [← hwx]
        have hbx : Below wy.heap.size wy wx := by rw [hwx]; exact below_drewN (Below.refl _ _) _
        have hcx := HC.out.below hbx
        have hstx := HST.out.trans (CurStay.below hbx)
        clear hwx f0 d0 d1 d2 d4 HND HC HST hbx
        obtain ⟨a1, c1, a2, n2, c2, a3, n3, c3, _, hnode, hcells⟩ := hcx.top
        rw [HNL.out] at hcells
        have hFb := hcx.2.2.1
        have hbB := hcx.2.1
        obtain ⟨M, rfl⟩ : ∃ M, N = M + 1 := by
          cases N with
          | zero => exact hnode.elim
          | succ M => exact ⟨M, rfl⟩
        obtain ⟨ka, kc, va, vn, vc, ca, cn, cc, V, C, e5, h1, h2, h3, h4, q1, q2, q3⟩ := hnode.lt.open
        obtain ⟨_, r1, r2⟩ := h4.toR.lens
        have hcn : cn = l.length := by rw [← h3.1, r2]; rfl
        have hk : k < l.length := Nat.lt_of_not_le hend
        subst hcn
        simp only [List.cons.injEq, Value.slice.injEq] at e5
        obtain ⟨_, _, ⟨_, _, _⟩, ⟨_, _, _⟩, ⟨e6, e7, e8⟩, _⟩ := e5
        obtain ⟨bc, oc, y, yc, eca, hbc, hy, _, hyc, hcell⟩ := TabR.at h3 hk
        have hyc : yc = y.1 := hyc
        subst hyc eca e6 e7 e8
        have hkid := kid_tells h4.2.2 hy
        obtain ⟨u1, u2, u3, u4, u5, u6, u7, u8, _, _, ey, _⟩ := NodeOn.open_pos hkid
        rw [ey] at hcell hkid
        have hcbc : F bc := by
          rcases q3 with h | h
          · omega
          · exact (h _ _ rfl).1
        have hbcb : bc < b := hFb _ hcbc
        have hBx : B ≤ wx.heap.size := Nat.le_trans hB hstx.1.1
        have hlr : ((Tr.node p l, k) :: r).length = n + 1 := by simp [HNL.out]
        have hkid2 : NodeOn F (M + 1) wx.drew [.int .i64 (kidAt l k).page, .bool (kidAt l k).isLeaf, .slice u1 (cntT (kidAt l k)) u2, .slice u3 u4 u5, .slice u6 u7 u8] (kidAt l k) := ((hkid.mono (fun _ h => h.1)).more (Nat.le_succ M)).below (Below.dr (Below.refl _ _))
        have hcd := hcx.below (Below.dr (Below.refl _ _))
        obtain ⟨a', c', w', hrun, hx', hcP, hstP, hgP⟩ := hcd.push (P := Tryz.prog) (t := 297) rfl info_step (by simpa using hBx) (by rw [hlr]; omega) (cs := [.int .i64 (kidAt l k).page, .bool (kidAt l k).isLeaf, .slice u1 (cntT (kidAt l k)) u2, .slice u3 u4 u5, .slice u6 u7 u8, .int .i64 ((0 : Nat) : Int)]) (s := (kidAt l k, 0)) ⟨_, rfl, hkid2⟩
        rw [hlr] at hrun hcP hstP hx'
        obtain ⟨g0, rfl⟩ : ∃ g0, g = g0 + 1 := by
          cases g with
          | zero => exact HSH.out.elim
          | succ g => exact ⟨g, rfl⟩
        have hvk := kid_good HSH.out hk
        have hwk := work_push (g := g0) (p := p) hk r
        have hrk := rest_push (g := g0) (p := p) hk r
        have HREL : Hid (∃ (g' : Nat) (r' : List (Tr × Nat)) (v' : Value), workC g' r' < workC (g0 + 1) ((.node p l, k) :: r) ∧ CurAt 301 F (M + 1) B b (w'.setCell ⟨b, 0, none⟩ (.slice a' (n + 1 + 1) c')) v' r' ∧ B ≤ (w'.setCell ⟨b, 0, none⟩ (.slice a' (n + 1 + 1) c')).heap.size ∧ ValidC g' r' ∧ (r' = [] ∨ g' + r'.length = M + 1 + 1) ∧ restC g' r' = R ∧ CurStay b v w (w'.setCell ⟨b, 0, none⟩ (.slice a' (n + 1 + 1) c')) v') := Lib.hid
          ⟨g0, (kidAt l k, 0) :: (.node p l, k) :: r, _, hwk, hcP, Nat.le_trans hB (Nat.le_trans hstx.1.1 (by have := hstP.1.1; simpa using this)), ⟨hvk, Nat.zero_le _, ⟨⟨lo, hi, HSH.out, hsum⟩, hk, HVB.out⟩⟩, .inr (by simp [HNL.out]; omega), by rw [← hrk]; exact HRR.out, (by rw [hlr] at hstx; exact hstx.trans ((CurStay.below (Below.dr (Below.refl _ _))).trans hstP))⟩
        have f0 := hcx.1.cell 0 0 rfl rfl
        rw [hlr] at f0
        have hlb : b < wx.heap.size := hcx.1.lt 0 rfl
        have d4 := hcells 4 _ rfl
        have d5 := hcells 5 _ rfl
        have hbgb : b ≠ gb := by have := hcx.2.1; omega
        have hbcgb : bc ≠ gb := by omega
        have hbcn : bc ≠ b := by omega
        have hkl : (k : Int) < (l.length : Int) := by omega
        have h0k : (0 : Int) ≤ (k : Int) := by omega
        have e0 : ∀ W, AgreeF (fun x => x ≠ gb ∧ x ≠ b) wx W → W.cell? ⟨bc, oc + k * 5, none⟩ = _ := fun W hW => (hW.cell ⟨hbcgb, hbcn⟩ hbc).trans (hcell 0 _ rfl)
        have e1 : ∀ W, AgreeF (fun x => x ≠ gb ∧ x ≠ b) wx W → W.cell? ⟨bc, oc + k * 5 + 1, none⟩ = _ := fun W hW => (hW.cell ⟨hbcgb, hbcn⟩ hbc).trans (hcell 1 _ rfl)
        have e2 : ∀ W, AgreeF (fun x => x ≠ gb ∧ x ≠ b) wx W → W.cell? ⟨bc, oc + k * 5 + 2, none⟩ = _ := fun W hW => (hW.cell ⟨hbcgb, hbcn⟩ hbc).trans (hcell 2 _ rfl)
        have e3 : ∀ W, AgreeF (fun x => x ≠ gb ∧ x ≠ b) wx W → W.cell? ⟨bc, oc + k * 5 + 3, none⟩ = _ := fun W hW => (hW.cell ⟨hbcgb, hbcn⟩ hbc).trans (hcell 3 _ rfl)
        have e4 : ∀ W, AgreeF (fun x => x ≠ gb ∧ x ≠ b) wx W → W.cell? ⟨bc, oc + k * 5 + 4, none⟩ = _ := fun W hW => (hW.cell ⟨hbcgb, hbcn⟩ hbc).trans (hcell 4 _ rfl)
        have hA00 : AgreeF (fun x => x ≠ gb ∧ x ≠ b) wx wx.drew := AgreeF.refl _
        have hA18 : AgreeF (fun x => x ≠ gb ∧ x ≠ b) wx w' := ⟨hgP.size, fun x hx hlt => hgP.block x hlt (fun e => hx.1 (Option.some.inj e))⟩
        have hA21 : AgreeF (fun x => x ≠ gb ∧ x ≠ b) wx (w'.setCell ⟨b, 0, none⟩ (.slice a' (n + 1 + 1) c')) := AgreeF.set hA18 (.inl fun h => h.2 rfl)
        have f8 := hx'.cell 0 0 rfl rfl
        have f9 := hx'.frozen 0 0 rfl
        clear hcell hcells hkid hkid2 hcx hcd hcP hstP hgP hx' hvk hwk hrk hstx h1 h2 h3 h4 q1 q2 q3 hFb hy ey
        generalize (kidAt l k).page = kp at *
        generalize (kidAt l k).isLeaf = kl at *
        generalize cntT (kidAt l k) = km at *
        go_upto_region 2 with (fail)
        refine wp_region_noPanic ?_
        refine wp_region_held_drew (S := (fun W => AgreeF (fun x => x ≠ gb ∧ x ≠ b) wx W)) (by kernel_rfl) (by (repeat (with_reducible first | assumption | exact AgreeF.refl _ | apply AgreeF.al | apply AgreeF.dr))) (fun hHeld => ?_)
        refine wpAnyH_take (i := 0) (v := ?_) rfl (by kernel_rfl) (by kernel_rfl) (by kernel_rfl) (fun _ _ _ h => h) (Or.inl ⟨by rfl, ?_⟩) (by assumption) ?_
        rotate_left
        · (intro W hW; (try dsimp only at hW); go_simp <;> (with_reducible rfl))
        try simp only [Act.put]
        try simp only [List.setIfInBounds_toArray, List.set_cons_zero, List.set_cons_succ]
        refine wpAnyH_take (i := 1) (v := ?_) rfl (by kernel_rfl) (by kernel_rfl) (by kernel_rfl) (fun _ _ _ h => h) (Or.inl ⟨by rfl, ?_⟩) (by assumption) ?_
        rotate_left
        · (intro W hW; (try dsimp only at hW); go_simp <;> (with_reducible rfl))
        try simp only [Act.put]
        try simp only [List.setIfInBounds_toArray, List.set_cons_zero, List.set_cons_succ]
        refine wpAnyH_take (i := 2) (v := ?_) rfl (by kernel_rfl) (by kernel_rfl) (by kernel_rfl) (fun _ _ _ h => h) (Or.inl ⟨by rfl, ?_⟩) (by assumption) ?_
        rotate_left
        · (intro W hW; (try dsimp only at hW); go_simp <;> (with_reducible rfl))
        try simp only [Act.put]
        try simp only [List.setIfInBounds_toArray, List.set_cons_zero, List.set_cons_succ]
        refine wpAnyH_take (i := 3) (v := ?_) rfl (by kernel_rfl) (by kernel_rfl) (by kernel_rfl) (fun _ _ _ h => h) (Or.inl ⟨by rfl, ?_⟩) (by assumption) ?_
        rotate_left
        · (intro W hW; (try dsimp only at hW); go_simp <;> (with_reducible rfl))
        try simp only [Act.put]
        try simp only [List.setIfInBounds_toArray, List.set_cons_zero, List.set_cons_succ]
        refine wpAnyH_take (i := 5) (v := ?_) rfl (by kernel_rfl) (by kernel_rfl) (by kernel_rfl) (fun _ _ _ h => h) (Or.inl ⟨by rfl, ?_⟩) (by assumption) ?_
        rotate_left
        · (intro W hW; (try dsimp only at hW); go_simp <;> (with_reducible rfl))
        try simp only [Act.put]
        try simp only [List.setIfInBounds_toArray, List.set_cons_zero, List.set_cons_succ]
        refine wpAnyH_take (i := 6) (v := ?_) rfl (by kernel_rfl) (by kernel_rfl) (by kernel_rfl) (fun _ _ _ h => h) (Or.inl ⟨by rfl, ?_⟩) (by assumption) ?_
        rotate_left
        · (intro W hW; (try dsimp only at hW); go_simp <;> (with_reducible rfl))
        try simp only [Act.put]
        try simp only [List.setIfInBounds_toArray, List.set_cons_zero, List.set_cons_succ]
        refine wpAnyH_take (i := 7) (v := ?_) rfl (by kernel_rfl) (by kernel_rfl) (by kernel_rfl) (fun _ _ _ h => h) (Or.inl ⟨by rfl, ?_⟩) (by assumption) ?_
        rotate_left
        · (intro W hW; (try dsimp only at hW); go_simp <;> (with_reducible rfl))
        try simp only [Act.put]
        try simp only [List.setIfInBounds_toArray, List.set_cons_zero, List.set_cons_succ]
        refine wpAnyH_take (i := 8) (v := ?_) rfl (by kernel_rfl) (by kernel_rfl) (by kernel_rfl) (fun _ _ _ h => h) (Or.inl ⟨by rfl, ?_⟩) (by assumption) ?_
        rotate_left
        · (intro W hW; (try dsimp only at hW); go_simp <;> (with_reducible rfl))
        try simp only [Act.put]
        try simp only [List.setIfInBounds_toArray, List.set_cons_zero, List.set_cons_succ]
        refine wpAnyH_take (i := 10) (v := ?_) rfl (by kernel_rfl) (by kernel_rfl) (by kernel_rfl) (fun _ _ _ h => h) (Or.inl ⟨by rfl, ?_⟩) (by assumption) ?_
        rotate_left
        · (intro W hW; (try dsimp only at hW); go_simp <;> (with_reducible rfl))
        try simp only [Act.put]
        try simp only [List.setIfInBounds_toArray, List.set_cons_zero, List.set_cons_succ]
        refine wpAnyH_take (i := 11) (v := ?_) rfl (by kernel_rfl) (by kernel_rfl) (by kernel_rfl) (fun _ _ _ h => h) (Or.inl ⟨by rfl, ?_⟩) (by assumption) ?_
        rotate_left
        · (intro W hW; (try dsimp only at hW); go_simp <;> (with_reducible rfl))
        try simp only [Act.put]
        try simp only [List.setIfInBounds_toArray, List.set_cons_zero, List.set_cons_succ]
        refine wpAnyH_take (i := 12) (v := ?_) rfl (by kernel_rfl) (by kernel_rfl) (by kernel_rfl) (fun _ _ _ h => h) (Or.inl ⟨by rfl, ?_⟩) (by assumption) ?_
        rotate_left
        · (intro W hW; (try dsimp only at hW); go_simp <;> (with_reducible rfl))
        try simp only [Act.put]
        try simp only [List.setIfInBounds_toArray, List.set_cons_zero, List.set_cons_succ]
        refine wpAnyH_ready (rs := [4, 9, 13]) (by kernel_rfl) (by simp) (AllReadyH.cons rfl (fun K hK => ?_) (AllReadyH.cons rfl (fun K hK => ?_) (AllReadyH.cons rfl (fun K hK => ?_) AllReadyH.nil)))
        · (rw [if_pos (by rfl)]; go_wp2_with (fail))
          refine hK.out _ _ (by (repeat (with_reducible first | assumption | exact AgreeF.refl _ | apply AgreeF.al | apply AgreeF.dr))) (fun hHeld => ?_)
          clear hK K
          try simp only [Act.put]
          try simp only [List.setIfInBounds_toArray, List.set_cons_zero, List.set_cons_succ]
          refine wpAnyH_ready (rs := [9, 13]) (by kernel_rfl) (by simp) (AllReadyH.cons rfl (fun K hK => ?_) (AllReadyH.cons rfl (fun K hK => ?_) AllReadyH.nil))
          · (rw [if_pos (by rfl)]; go_wp2_with (fail))
            refine hK.out _ _ (by (repeat (with_reducible first | assumption | exact AgreeF.refl _ | apply AgreeF.al | apply AgreeF.dr))) (fun hHeld => ?_)
            clear hK K
            try simp only [Act.put]
            try simp only [List.setIfInBounds_toArray, List.set_cons_zero, List.set_cons_succ]
            refine wpAnyH_ready (rs := [13]) (by kernel_rfl) (by simp) (AllReadyH.cons rfl (fun K hK => ?_) AllReadyH.nil)
            (rw [if_pos (by rfl)]; go_wp2_with (fail))
            refine hK.out _ _ (by (repeat (with_reducible first | assumption | exact AgreeF.refl _ | apply AgreeF.al | apply AgreeF.dr))) (fun hHeld => ?_)
            clear hK K
            try simp only [Act.put]
            try simp only [List.setIfInBounds_toArray, List.set_cons_zero, List.set_cons_succ]
            refine wpAnyH_take (i := 14) (v := ?_) rfl (by kernel_rfl) (by kernel_rfl) (by kernel_rfl) (fun _ _ _ h => h) (Or.inl ⟨by rfl, ?_⟩) (by assumption) ?_
            rotate_left
            · (intro W hW; (try dsimp only at hW); go_simp <;> (with_reducible rfl))
            try simp only [Act.put]
            try simp only [List.setIfInBounds_toArray, List.set_cons_zero, List.set_cons_succ]
            refine wpAnyH_take (i := 15) (v := ?_) rfl (by kernel_rfl) (by kernel_rfl) (by kernel_rfl) (fun _ _ _ h => h) (Or.inl ⟨by rfl, ?_⟩) (by assumption) ?_
            rotate_left
            · (intro W hW; (try dsimp only at hW); go_simp <;> (with_reducible rfl))
            try simp only [Act.put]
            try simp only [List.setIfInBounds_toArray, List.set_cons_zero, List.set_cons_succ]
            refine wpAnyH_take (i := 16) (v := ?_) rfl (by kernel_rfl) (by kernel_rfl) (by kernel_rfl) (fun _ _ _ h => h) (Or.inl ⟨by rfl, ?_⟩) (by assumption) ?_
            rotate_left
            · (intro W hW; (try dsimp only at hW); go_simp <;> (with_reducible rfl))
            try simp only [Act.put]
            try simp only [List.setIfInBounds_toArray, List.set_cons_zero, List.set_cons_succ]
            refine wpAnyH_ready (rs := [17]) (by kernel_rfl) (by simp) (AllReadyH.cons rfl (fun K hK => ?_) AllReadyH.nil)
            (rw [if_pos (by rfl)]; go_wp2_with (fail))
            refine hK.out _ _ (by (repeat (with_reducible first | assumption | exact AgreeF.refl _ | apply AgreeF.al | apply AgreeF.dr))) (fun hHeld => ?_)
            clear hK K
            try simp only [Act.put]
            try simp only [List.setIfInBounds_toArray, List.set_cons_zero, List.set_cons_succ]
            refine wpAnyH_ready (rs := [18]) (by kernel_rfl) (by simp) (AllReadyH.cons rfl (fun K hK => ?_) AllReadyH.nil)
            (refine step_append_run rfl _ _ _ _ rfl rfl rfl hrun ?_)
            refine hK.out _ _ (by (repeat (with_reducible first | assumption | exact AgreeF.refl _ | apply AgreeF.al | apply AgreeF.dr))) (fun hHeld => ?_)
            clear hK K
            try simp only [Act.put]
            try simp only [List.setIfInBounds_toArray, List.set_cons_zero, List.set_cons_succ]
            refine wpAnyH_take (i := 19) (v := ?_) rfl (by kernel_rfl) (by kernel_rfl) (by kernel_rfl) (fun _ _ _ h => h) (Or.inl ⟨by rfl, ?_⟩) (by assumption) ?_
            rotate_left
            · (intro W hW; (try dsimp only at hW); go_simp <;> (with_reducible rfl))
            try simp only [Act.put]
            try simp only [List.setIfInBounds_toArray, List.set_cons_zero, List.set_cons_succ]
            refine wpAnyH_take (i := 20) (v := ?_) rfl (by kernel_rfl) (by kernel_rfl) (by kernel_rfl) (fun _ _ _ h => h) (Or.inl ⟨by rfl, ?_⟩) (by assumption) ?_
            rotate_left
            · (intro W hW; (try dsimp only at hW); go_simp <;> (with_reducible rfl))
            try simp only [Act.put]
            try simp only [List.setIfInBounds_toArray, List.set_cons_zero, List.set_cons_succ]
            refine wpAnyH_ready (rs := [21]) (by kernel_rfl) (by simp) (AllReadyH.cons rfl (fun K hK => ?_) AllReadyH.nil)
            (rw [if_pos (by rfl)]; go_wp2_with (fail))
            refine hK.out _ _ (by (repeat (with_reducible first | assumption | exact AgreeF.refl _ | apply AgreeF.al | apply AgreeF.dr))) (fun hHeld => ?_)
            clear hK K
            try simp only [Act.put]
            try simp only [List.setIfInBounds_toArray, List.set_cons_zero, List.set_cons_succ]
            refine wpAnyH_done (by kernel_rfl) ?_ _
            refine NoPanic.normal ?_
            go_wp2
            go_roundg (workC (g0 + 1) ((.node p l, k) :: r))
            case measure => exact hgk
            case rel => exact HREL.out
          · (rw [if_pos (by rfl)]; go_wp2_with (fail))
            refine hK.out _ _ (by (repeat (with_reducible first | assumption | exact AgreeF.refl _ | apply AgreeF.al | apply AgreeF.dr))) (fun hHeld => ?_)
            clear hK K
            try simp only [Act.put]
            try simp only [List.setIfInBounds_toArray, List.set_cons_zero, List.set_cons_succ]
            refine wpAnyH_ready (rs := [9]) (by kernel_rfl) (by simp) (AllReadyH.cons rfl (fun K hK => ?_) AllReadyH.nil)
            (rw [if_pos (by rfl)]; go_wp2_with (fail))
            refine hK.out _ _ (by (repeat (with_reducible first | assumption | exact AgreeF.refl _ | apply AgreeF.al | apply AgreeF.dr))) (fun hHeld => ?_)
            clear hK K
            try simp only [Act.put]
            try simp only [List.setIfInBounds_toArray, List.set_cons_zero, List.set_cons_succ]
            refine wpAnyH_take (i := 14) (v := ?_) rfl (by kernel_rfl) (by kernel_rfl) (by kernel_rfl) (fun _ _ _ h => h) (Or.inl ⟨by rfl, ?_⟩) (by assumption) ?_
            rotate_left
            · (intro W hW; (try dsimp only at hW); go_simp <;> (with_reducible rfl))
            try simp only [Act.put]
            try simp only [List.setIfInBounds_toArray, List.set_cons_zero, List.set_cons_succ]
            refine wpAnyH_take (i := 15) (v := ?_) rfl (by kernel_rfl) (by kernel_rfl) (by kernel_rfl) (fun _ _ _ h => h) (Or.inl ⟨by rfl, ?_⟩) (by assumption) ?_
            rotate_left
            · (intro W hW; (try dsimp only at hW); go_simp <;> (with_reducible rfl))
            try simp only [Act.put]
            try simp only [List.setIfInBounds_toArray, List.set_cons_zero, List.set_cons_succ]
            refine wpAnyH_take (i := 16) (v := ?_) rfl (by kernel_rfl) (by kernel_rfl) (by kernel_rfl) (fun _ _ _ h => h) (Or.inl ⟨by rfl, ?_⟩) (by assumption) ?_
            rotate_left
            · (intro W hW; (try dsimp only at hW); go_simp <;> (with_reducible rfl))
            try simp only [Act.put]
            try simp only [List.setIfInBounds_toArray, List.set_cons_zero, List.set_cons_succ]
            refine wpAnyH_ready (rs := [17]) (by kernel_rfl) (by simp) (AllReadyH.cons rfl (fun K hK => ?_) AllReadyH.nil)
            (rw [if_pos (by rfl)]; go_wp2_with (fail))
            refine hK.out _ _ (by (repeat (with_reducible first | assumption | exact AgreeF.refl _ | apply AgreeF.al | apply AgreeF.dr))) (fun hHeld => ?_)
            clear hK K
            try simp only [Act.put]
            try simp only [List.setIfInBounds_toArray, List.set_cons_zero, List.set_cons_succ]
            refine wpAnyH_ready (rs := [18]) (by kernel_rfl) (by simp) (AllReadyH.cons rfl (fun K hK => ?_) AllReadyH.nil)
            (refine step_append_run rfl _ _ _ _ rfl rfl rfl hrun ?_)
            refine hK.out _ _ (by (repeat (with_reducible first | assumption | exact AgreeF.refl _ | apply AgreeF.al | apply AgreeF.dr))) (fun hHeld => ?_)
            clear hK K
            try simp only [Act.put]
            try simp only [List.setIfInBounds_toArray, List.set_cons_zero, List.set_cons_succ]
            refine wpAnyH_take (i := 19) (v := ?_) rfl (by kernel_rfl) (by kernel_rfl) (by kernel_rfl) (fun _ _ _ h => h) (Or.inl ⟨by rfl, ?_⟩) (by assumption) ?_
            rotate_left
            · (intro W hW; (try dsimp only at hW); go_simp <;> (with_reducible rfl))
            try simp only [Act.put]
            try simp only [List.setIfInBounds_toArray, List.set_cons_zero, List.set_cons_succ]
            refine wpAnyH_take (i := 20) (v := ?_) rfl (by kernel_rfl) (by kernel_rfl) (by kernel_rfl) (fun _ _ _ h => h) (Or.inl ⟨by rfl, ?_⟩) (by assumption) ?_
            rotate_left
            · (intro W hW; (try dsimp only at hW); go_simp <;> (with_reducible rfl))
            try simp only [Act.put]
            try simp only [List.setIfInBounds_toArray, List.set_cons_zero, List.set_cons_succ]
            refine wpAnyH_ready (rs := [21]) (by kernel_rfl) (by simp) (AllReadyH.cons rfl (fun K hK => ?_) AllReadyH.nil)
            (rw [if_pos (by rfl)]; go_wp2_with (fail))
            refine hK.out _ _ (by (repeat (with_reducible first | assumption | exact AgreeF.refl _ | apply AgreeF.al | apply AgreeF.dr))) (fun hHeld => ?_)
            clear hK K
            try simp only [Act.put]
            try simp only [List.setIfInBounds_toArray, List.set_cons_zero, List.set_cons_succ]
            refine wpAnyH_done (by kernel_rfl) ?_ _
            refine NoPanic.normal ?_
            go_wp2
            go_roundg (workC (g0 + 1) ((.node p l, k) :: r))
            case measure => exact hgk
            case rel => exact HREL.out
        · (rw [if_pos (by rfl)]; go_wp2_with (fail))
          refine hK.out _ _ (by (repeat (with_reducible first | assumption | exact AgreeF.refl _ | apply AgreeF.al | apply AgreeF.dr))) (fun hHeld => ?_)
          clear hK K
          try simp only [Act.put]
          try simp only [List.setIfInBounds_toArray, List.set_cons_zero, List.set_cons_succ]
          refine wpAnyH_ready (rs := [4, 13]) (by kernel_rfl) (by simp) (AllReadyH.cons rfl (fun K hK => ?_) (AllReadyH.cons rfl (fun K hK => ?_) AllReadyH.nil))
          · (rw [if_pos (by rfl)]; go_wp2_with (fail))
            refine hK.out _ _ (by (repeat (with_reducible first | assumption | exact AgreeF.refl _ | apply AgreeF.al | apply AgreeF.dr))) (fun hHeld => ?_)
            clear hK K
            try simp only [Act.put]
            try simp only [List.setIfInBounds_toArray, List.set_cons_zero, List.set_cons_succ]
            refine wpAnyH_ready (rs := [13]) (by kernel_rfl) (by simp) (AllReadyH.cons rfl (fun K hK => ?_) AllReadyH.nil)
            (rw [if_pos (by rfl)]; go_wp2_with (fail))
            refine hK.out _ _ (by (repeat (with_reducible first | assumption | exact AgreeF.refl _ | apply AgreeF.al | apply AgreeF.dr))) (fun hHeld => ?_)
            clear hK K
            try simp only [Act.put]
            try simp only [List.setIfInBounds_toArray, List.set_cons_zero, List.set_cons_succ]
            refine wpAnyH_take (i := 14) (v := ?_) rfl (by kernel_rfl) (by kernel_rfl) (by kernel_rfl) (fun _ _ _ h => h) (Or.inl ⟨by rfl, ?_⟩) (by assumption) ?_
            rotate_left
            · (intro W hW; (try dsimp only at hW); go_simp <;> (with_reducible rfl))
            try simp only [Act.put]
            try simp only [List.setIfInBounds_toArray, List.set_cons_zero, List.set_cons_succ]
            refine wpAnyH_take (i := 15) (v := ?_) rfl (by kernel_rfl) (by kernel_rfl) (by kernel_rfl) (fun _ _ _ h => h) (Or.inl ⟨by rfl, ?_⟩) (by assumption) ?_
            rotate_left
            · (intro W hW; (try dsimp only at hW); go_simp <;> (with_reducible rfl))
            try simp only [Act.put]
            try simp only [List.setIfInBounds_toArray, List.set_cons_zero, List.set_cons_succ]
            refine wpAnyH_take (i := 16) (v := ?_) rfl (by kernel_rfl) (by kernel_rfl) (by kernel_rfl) (fun _ _ _ h => h) (Or.inl ⟨by rfl, ?_⟩) (by assumption) ?_
            rotate_left
            · (intro W hW; (try dsimp only at hW); go_simp <;> (with_reducible rfl))
            try simp only [Act.put]
            try simp only [List.setIfInBounds_toArray, List.set_cons_zero, List.set_cons_succ]
            refine wpAnyH_ready (rs := [17]) (by kernel_rfl) (by simp) (AllReadyH.cons rfl (fun K hK => ?_) AllReadyH.nil)
            (rw [if_pos (by rfl)]; go_wp2_with (fail))
            refine hK.out _ _ (by (repeat (with_reducible first | assumption | exact AgreeF.refl _ | apply AgreeF.al | apply AgreeF.dr))) (fun hHeld => ?_)
            clear hK K
            try simp only [Act.put]
            try simp only [List.setIfInBounds_toArray, List.set_cons_zero, List.set_cons_succ]
            refine wpAnyH_ready (rs := [18]) (by kernel_rfl) (by simp) (AllReadyH.cons rfl (fun K hK => ?_) AllReadyH.nil)
            (refine step_append_run rfl _ _ _ _ rfl rfl rfl hrun ?_)
            refine hK.out _ _ (by (repeat (with_reducible first | assumption | exact AgreeF.refl _ | apply AgreeF.al | apply AgreeF.dr))) (fun hHeld => ?_)
            clear hK K
            try simp only [Act.put]
            try simp only [List.setIfInBounds_toArray, List.set_cons_zero, List.set_cons_succ]
            refine wpAnyH_take (i := 19) (v := ?_) rfl (by kernel_rfl) (by kernel_rfl) (by kernel_rfl) (fun _ _ _ h => h) (Or.inl ⟨by rfl, ?_⟩) (by assumption) ?_
            rotate_left
            · (intro W hW; (try dsimp only at hW); go_simp <;> (with_reducible rfl))
            try simp only [Act.put]
            try simp only [List.setIfInBounds_toArray, List.set_cons_zero, List.set_cons_succ]
            refine wpAnyH_take (i := 20) (v := ?_) rfl (by kernel_rfl) (by kernel_rfl) (by kernel_rfl) (fun _ _ _ h => h) (Or.inl ⟨by rfl, ?_⟩) (by assumption) ?_
            rotate_left
            · (intro W hW; (try dsimp only at hW); go_simp <;> (with_reducible rfl))
            try simp only [Act.put]
            try simp only [List.setIfInBounds_toArray, List.set_cons_zero, List.set_cons_succ]
            refine wpAnyH_ready (rs := [21]) (by kernel_rfl) (by simp) (AllReadyH.cons rfl (fun K hK => ?_) AllReadyH.nil)
            (rw [if_pos (by rfl)]; go_wp2_with (fail))
            refine hK.out _ _ (by (repeat (with_reducible first | assumption | exact AgreeF.refl _ | apply AgreeF.al | apply AgreeF.dr))) (fun hHeld => ?_)
            clear hK K
            try simp only [Act.put]
            try simp only [List.setIfInBounds_toArray, List.set_cons_zero, List.set_cons_succ]
            refine wpAnyH_done (by kernel_rfl) ?_ _
            refine NoPanic.normal ?_
            go_wp2
            go_roundg (workC (g0 + 1) ((.node p l, k) :: r))
            case measure => exact hgk
            case rel => exact HREL.out
          · (rw [if_pos (by rfl)]; go_wp2_with (fail))
            refine hK.out _ _ (by (repeat (with_reducible first | assumption | exact AgreeF.refl _ | apply AgreeF.al | apply AgreeF.dr))) (fun hHeld => ?_)
            clear hK K
            try simp only [Act.put]
            try simp only [List.setIfInBounds_toArray, List.set_cons_zero, List.set_cons_succ]
            refine wpAnyH_take (i := 14) (v := ?_) rfl (by kernel_rfl) (by kernel_rfl) (by kernel_rfl) (fun _ _ _ h => h) (Or.inl ⟨by rfl, ?_⟩) (by assumption) ?_
            rotate_left
            · (intro W hW; (try dsimp only at hW); go_simp <;> (with_reducible rfl))
            try simp only [Act.put]
            try simp only [List.setIfInBounds_toArray, List.set_cons_zero, List.set_cons_succ]
            refine wpAnyH_take (i := 15) (v := ?_) rfl (by kernel_rfl) (by kernel_rfl) (by kernel_rfl) (fun _ _ _ h => h) (Or.inl ⟨by rfl, ?_⟩) (by assumption) ?_
            rotate_left
            · (intro W hW; (try dsimp only at hW); go_simp <;> (with_reducible rfl))
            try simp only [Act.put]
            try simp only [List.setIfInBounds_toArray, List.set_cons_zero, List.set_cons_succ]
            refine wpAnyH_take (i := 16) (v := ?_) rfl (by kernel_rfl) (by kernel_rfl) (by kernel_rfl) (fun _ _ _ h => h) (Or.inl ⟨by rfl, ?_⟩) (by assumption) ?_
            rotate_left
            · (intro W hW; (try dsimp only at hW); go_simp <;> (with_reducible rfl))
            try simp only [Act.put]
            try simp only [List.setIfInBounds_toArray, List.set_cons_zero, List.set_cons_succ]
            refine wpAnyH_ready (rs := [4, 17]) (by kernel_rfl) (by simp) (AllReadyH.cons rfl (fun K hK => ?_) (AllReadyH.cons rfl (fun K hK => ?_) AllReadyH.nil))
            · (rw [if_pos (by rfl)]; go_wp2_with (fail))
              refine hK.out _ _ (by (repeat (with_reducible first | assumption | exact AgreeF.refl _ | apply AgreeF.al | apply AgreeF.dr))) (fun hHeld => ?_)
              clear hK K
              try simp only [Act.put]
              try simp only [List.setIfInBounds_toArray, List.set_cons_zero, List.set_cons_succ]
              refine wpAnyH_ready (rs := [17]) (by kernel_rfl) (by simp) (AllReadyH.cons rfl (fun K hK => ?_) AllReadyH.nil)
              (rw [if_pos (by rfl)]; go_wp2_with (fail))
              refine hK.out _ _ (by (repeat (with_reducible first | assumption | exact AgreeF.refl _ | apply AgreeF.al | apply AgreeF.dr))) (fun hHeld => ?_)
              clear hK K
              try simp only [Act.put]
              try simp only [List.setIfInBounds_toArray, List.set_cons_zero, List.set_cons_succ]
              refine wpAnyH_ready (rs := [18]) (by kernel_rfl) (by simp) (AllReadyH.cons rfl (fun K hK => ?_) AllReadyH.nil)
              (refine step_append_run rfl _ _ _ _ rfl rfl rfl hrun ?_)
              refine hK.out _ _ (by (repeat (with_reducible first | assumption | exact AgreeF.refl _ | apply AgreeF.al | apply AgreeF.dr))) (fun hHeld => ?_)
              clear hK K
              try simp only [Act.put]
              try simp only [List.setIfInBounds_toArray, List.set_cons_zero, List.set_cons_succ]
              refine wpAnyH_take (i := 19) (v := ?_) rfl (by kernel_rfl) (by kernel_rfl) (by kernel_rfl) (fun _ _ _ h => h) (Or.inl ⟨by rfl, ?_⟩) (by assumption) ?_
              rotate_left
              · (intro W hW; (try dsimp only at hW); go_simp <;> (with_reducible rfl))
              try simp only [Act.put]
              try simp only [List.setIfInBounds_toArray, List.set_cons_zero, List.set_cons_succ]
              refine wpAnyH_take (i := 20) (v := ?_) rfl (by kernel_rfl) (by kernel_rfl) (by kernel_rfl) (fun _ _ _ h => h) (Or.inl ⟨by rfl, ?_⟩) (by assumption) ?_
              rotate_left
              · (intro W hW; (try dsimp only at hW); go_simp <;> (with_reducible rfl))
              try simp only [Act.put]
              try simp only [List.setIfInBounds_toArray, List.set_cons_zero, List.set_cons_succ]
              refine wpAnyH_ready (rs := [21]) (by kernel_rfl) (by simp) (AllReadyH.cons rfl (fun K hK => ?_) AllReadyH.nil)
              (rw [if_pos (by rfl)]; go_wp2_with (fail))
              refine hK.out _ _ (by (repeat (with_reducible first | assumption | exact AgreeF.refl _ | apply AgreeF.al | apply AgreeF.dr))) (fun hHeld => ?_)
              clear hK K
              try simp only [Act.put]
              try simp only [List.setIfInBounds_toArray, List.set_cons_zero, List.set_cons_succ]
              refine wpAnyH_done (by kernel_rfl) ?_ _
              refine NoPanic.normal ?_
              go_wp2
              go_roundg (workC (g0 + 1) ((.node p l, k) :: r))
              case measure => exact hgk
              case rel => exact HREL.out
            · (rw [if_pos (by rfl)]; go_wp2_with (fail))
              refine hK.out _ _ (by (repeat (with_reducible first | assumption | exact AgreeF.refl _ | apply AgreeF.al | apply AgreeF.dr))) (fun hHeld => ?_)
              clear hK K
              try simp only [Act.put]
              try simp only [List.setIfInBounds_toArray, List.set_cons_zero, List.set_cons_succ]
              refine wpAnyH_ready (rs := [4]) (by kernel_rfl) (by simp) (AllReadyH.cons rfl (fun K hK => ?_) AllReadyH.nil)
              (rw [if_pos (by rfl)]; go_wp2_with (fail))
              refine hK.out _ _ (by (repeat (with_reducible first | assumption | exact AgreeF.refl _ | apply AgreeF.al | apply AgreeF.dr))) (fun hHeld => ?_)
              clear hK K
              try simp only [Act.put]
              try simp only [List.setIfInBounds_toArray, List.set_cons_zero, List.set_cons_succ]
              refine wpAnyH_ready (rs := [18]) (by kernel_rfl) (by simp) (AllReadyH.cons rfl (fun K hK => ?_) AllReadyH.nil)
              (refine step_append_run rfl _ _ _ _ rfl rfl rfl hrun ?_)
              refine hK.out _ _ (by (repeat (with_reducible first | assumption | exact AgreeF.refl _ | apply AgreeF.al | apply AgreeF.dr))) (fun hHeld => ?_)
              clear hK K
              try simp only [Act.put]
              try simp only [List.setIfInBounds_toArray, List.set_cons_zero, List.set_cons_succ]
              refine wpAnyH_take (i := 19) (v := ?_) rfl (by kernel_rfl) (by kernel_rfl) (by kernel_rfl) (fun _ _ _ h => h) (Or.inl ⟨by rfl, ?_⟩) (by assumption) ?_
              rotate_left
              · (intro W hW; (try dsimp only at hW); go_simp <;> (with_reducible rfl))
              try simp only [Act.put]
              try simp only [List.setIfInBounds_toArray, List.set_cons_zero, List.set_cons_succ]
              refine wpAnyH_take (i := 20) (v := ?_) rfl (by kernel_rfl) (by kernel_rfl) (by kernel_rfl) (fun _ _ _ h => h) (Or.inl ⟨by rfl, ?_⟩) (by assumption) ?_
              rotate_left
              · (intro W hW; (try dsimp only at hW); go_simp <;> (with_reducible rfl))
              try simp only [Act.put]
              try simp only [List.setIfInBounds_toArray, List.set_cons_zero, List.set_cons_succ]
              refine wpAnyH_ready (rs := [21]) (by kernel_rfl) (by simp) (AllReadyH.cons rfl (fun K hK => ?_) AllReadyH.nil)
              (rw [if_pos (by rfl)]; go_wp2_with (fail))
              refine hK.out _ _ (by (repeat (with_reducible first | assumption | exact AgreeF.refl _ | apply AgreeF.al | apply AgreeF.dr))) (fun hHeld => ?_)
              clear hK K
              try simp only [Act.put]
              try simp only [List.setIfInBounds_toArray, List.set_cons_zero, List.set_cons_succ]
              refine wpAnyH_done (by kernel_rfl) ?_ _
              refine NoPanic.normal ?_
              go_wp2
              go_roundg (workC (g0 + 1) ((.node p l, k) :: r))
              case measure => exact hgk
              case rel => exact HREL.out
        · (rw [if_pos (by rfl)]; go_wp2_with (fail))
          refine hK.out _ _ (by (repeat (with_reducible first | assumption | exact AgreeF.refl _ | apply AgreeF.al | apply AgreeF.dr))) (fun hHeld => ?_)
          clear hK K
          try simp only [Act.put]
          try simp only [List.setIfInBounds_toArray, List.set_cons_zero, List.set_cons_succ]
          refine wpAnyH_ready (rs := [4, 9]) (by kernel_rfl) (by simp) (AllReadyH.cons rfl (fun K hK => ?_) (AllReadyH.cons rfl (fun K hK => ?_) AllReadyH.nil))
          · (rw [if_pos (by rfl)]; go_wp2_with (fail))
            refine hK.out _ _ (by (repeat (with_reducible first | assumption | exact AgreeF.refl _ | apply AgreeF.al | apply AgreeF.dr))) (fun hHeld => ?_)
            clear hK K
            try simp only [Act.put]
            try simp only [List.setIfInBounds_toArray, List.set_cons_zero, List.set_cons_succ]
            refine wpAnyH_ready (rs := [9]) (by kernel_rfl) (by simp) (AllReadyH.cons rfl (fun K hK => ?_) AllReadyH.nil)
            (rw [if_pos (by rfl)]; go_wp2_with (fail))
            refine hK.out _ _ (by (repeat (with_reducible first | assumption | exact AgreeF.refl _ | apply AgreeF.al | apply AgreeF.dr))) (fun hHeld => ?_)
            clear hK K
            try simp only [Act.put]
            try simp only [List.setIfInBounds_toArray, List.set_cons_zero, List.set_cons_succ]
            refine wpAnyH_take (i := 14) (v := ?_) rfl (by kernel_rfl) (by kernel_rfl) (by kernel_rfl) (fun _ _ _ h => h) (Or.inl ⟨by rfl, ?_⟩) (by assumption) ?_
            rotate_left
            · (intro W hW; (try dsimp only at hW); go_simp <;> (with_reducible rfl))
            try simp only [Act.put]
            try simp only [List.setIfInBounds_toArray, List.set_cons_zero, List.set_cons_succ]
            refine wpAnyH_take (i := 15) (v := ?_) rfl (by kernel_rfl) (by kernel_rfl) (by kernel_rfl) (fun _ _ _ h => h) (Or.inl ⟨by rfl, ?_⟩) (by assumption) ?_
            rotate_left
            · (intro W hW; (try dsimp only at hW); go_simp <;> (with_reducible rfl))
            try simp only [Act.put]
            try simp only [List.setIfInBounds_toArray, List.set_cons_zero, List.set_cons_succ]
            refine wpAnyH_take (i := 16) (v := ?_) rfl (by kernel_rfl) (by kernel_rfl) (by kernel_rfl) (fun _ _ _ h => h) (Or.inl ⟨by rfl, ?_⟩) (by assumption) ?_
            rotate_left
            · (intro W hW; (try dsimp only at hW); go_simp <;> (with_reducible rfl))
            try simp only [Act.put]
            try simp only [List.setIfInBounds_toArray, List.set_cons_zero, List.set_cons_succ]
            refine wpAnyH_ready (rs := [17]) (by kernel_rfl) (by simp) (AllReadyH.cons rfl (fun K hK => ?_) AllReadyH.nil)
            (rw [if_pos (by rfl)]; go_wp2_with (fail))
            refine hK.out _ _ (by (repeat (with_reducible first | assumption | exact AgreeF.refl _ | apply AgreeF.al | apply AgreeF.dr))) (fun hHeld => ?_)
            clear hK K
            try simp only [Act.put]
            try simp only [List.setIfInBounds_toArray, List.set_cons_zero, List.set_cons_succ]
            refine wpAnyH_ready (rs := [18]) (by kernel_rfl) (by simp) (AllReadyH.cons rfl (fun K hK => ?_) AllReadyH.nil)
            (refine step_append_run rfl _ _ _ _ rfl rfl rfl hrun ?_)
            refine hK.out _ _ (by (repeat (with_reducible first | assumption | exact AgreeF.refl _ | apply AgreeF.al | apply AgreeF.dr))) (fun hHeld => ?_)
            clear hK K
            try simp only [Act.put]
            try simp only [List.setIfInBounds_toArray, List.set_cons_zero, List.set_cons_succ]
            refine wpAnyH_take (i := 19) (v := ?_) rfl (by kernel_rfl) (by kernel_rfl) (by kernel_rfl) (fun _ _ _ h => h) (Or.inl ⟨by rfl, ?_⟩) (by assumption) ?_
            rotate_left
            · (intro W hW; (try dsimp only at hW); go_simp <;> (with_reducible rfl))
            try simp only [Act.put]
            try simp only [List.setIfInBounds_toArray, List.set_cons_zero, List.set_cons_succ]
            refine wpAnyH_take (i := 20) (v := ?_) rfl (by kernel_rfl) (by kernel_rfl) (by kernel_rfl) (fun _ _ _ h => h) (Or.inl ⟨by rfl, ?_⟩) (by assumption) ?_
            rotate_left
            · (intro W hW; (try dsimp only at hW); go_simp <;> (with_reducible rfl))
            try simp only [Act.put]
            try simp only [List.setIfInBounds_toArray, List.set_cons_zero, List.set_cons_succ]
            refine wpAnyH_ready (rs := [21]) (by kernel_rfl) (by simp) (AllReadyH.cons rfl (fun K hK => ?_) AllReadyH.nil)
            (rw [if_pos (by rfl)]; go_wp2_with (fail))
            refine hK.out _ _ (by (repeat (with_reducible first | assumption | exact AgreeF.refl _ | apply AgreeF.al | apply AgreeF.dr))) (fun hHeld => ?_)
            clear hK K
            try simp only [Act.put]
            try simp only [List.setIfInBounds_toArray, List.set_cons_zero, List.set_cons_succ]
            refine wpAnyH_done (by kernel_rfl) ?_ _
            refine NoPanic.normal ?_
            go_wp2
            go_roundg (workC (g0 + 1) ((.node p l, k) :: r))
            case measure => exact hgk
            case rel => exact HREL.out
          · (rw [if_pos (by rfl)]; go_wp2_with (fail))
            refine hK.out _ _ (by (repeat (with_reducible first | assumption | exact AgreeF.refl _ | apply AgreeF.al | apply AgreeF.dr))) (fun hHeld => ?_)
            clear hK K
            try simp only [Act.put]
            try simp only [List.setIfInBounds_toArray, List.set_cons_zero, List.set_cons_succ]
            refine wpAnyH_take (i := 14) (v := ?_) rfl (by kernel_rfl) (by kernel_rfl) (by kernel_rfl) (fun _ _ _ h => h) (Or.inl ⟨by rfl, ?_⟩) (by assumption) ?_
            rotate_left
            · (intro W hW; (try dsimp only at hW); go_simp <;> (with_reducible rfl))
            try simp only [Act.put]
            try simp only [List.setIfInBounds_toArray, List.set_cons_zero, List.set_cons_succ]
            refine wpAnyH_take (i := 15) (v := ?_) rfl (by kernel_rfl) (by kernel_rfl) (by kernel_rfl) (fun _ _ _ h => h) (Or.inl ⟨by rfl, ?_⟩) (by assumption) ?_
            rotate_left
            · (intro W hW; (try dsimp only at hW); go_simp <;> (with_reducible rfl))
            try simp only [Act.put]
            try simp only [List.setIfInBounds_toArray, List.set_cons_zero, List.set_cons_succ]
            refine wpAnyH_take (i := 16) (v := ?_) rfl (by kernel_rfl) (by kernel_rfl) (by kernel_rfl) (fun _ _ _ h => h) (Or.inl ⟨by rfl, ?_⟩) (by assumption) ?_
            rotate_left
            · (intro W hW; (try dsimp only at hW); go_simp <;> (with_reducible rfl))
            try simp only [Act.put]
            try simp only [List.setIfInBounds_toArray, List.set_cons_zero, List.set_cons_succ]
            refine wpAnyH_ready (rs := [4, 17]) (by kernel_rfl) (by simp) (AllReadyH.cons rfl (fun K hK => ?_) (AllReadyH.cons rfl (fun K hK => ?_) AllReadyH.nil))
            · (rw [if_pos (by rfl)]; go_wp2_with (fail))
              refine hK.out _ _ (by (repeat (with_reducible first | assumption | exact AgreeF.refl _ | apply AgreeF.al | apply AgreeF.dr))) (fun hHeld => ?_)
              clear hK K
              try simp only [Act.put]
              try simp only [List.setIfInBounds_toArray, List.set_cons_zero, List.set_cons_succ]
              refine wpAnyH_ready (rs := [17]) (by kernel_rfl) (by simp) (AllReadyH.cons rfl (fun K hK => ?_) AllReadyH.nil)
              (rw [if_pos (by rfl)]; go_wp2_with (fail))
              refine hK.out _ _ (by (repeat (with_reducible first | assumption | exact AgreeF.refl _ | apply AgreeF.al | apply AgreeF.dr))) (fun hHeld => ?_)
              clear hK K
              try simp only [Act.put]
              try simp only [List.setIfInBounds_toArray, List.set_cons_zero, List.set_cons_succ]
              refine wpAnyH_ready (rs := [18]) (by kernel_rfl) (by simp) (AllReadyH.cons rfl (fun K hK => ?_) AllReadyH.nil)
              (refine step_append_run rfl _ _ _ _ rfl rfl rfl hrun ?_)
              refine hK.out _ _ (by (repeat (with_reducible first | assumption | exact AgreeF.refl _ | apply AgreeF.al | apply AgreeF.dr))) (fun hHeld => ?_)
              clear hK K
              try simp only [Act.put]
              try simp only [List.setIfInBounds_toArray, List.set_cons_zero, List.set_cons_succ]
              refine wpAnyH_take (i := 19) (v := ?_) rfl (by kernel_rfl) (by kernel_rfl) (by kernel_rfl) (fun _ _ _ h => h) (Or.inl ⟨by rfl, ?_⟩) (by assumption) ?_
              rotate_left
              · (intro W hW; (try dsimp only at hW); go_simp <;> (with_reducible rfl))
              try simp only [Act.put]
              try simp only [List.setIfInBounds_toArray, List.set_cons_zero, List.set_cons_succ]
              refine wpAnyH_take (i := 20) (v := ?_) rfl (by kernel_rfl) (by kernel_rfl) (by kernel_rfl) (fun _ _ _ h => h) (Or.inl ⟨by rfl, ?_⟩) (by assumption) ?_
              rotate_left
              · (intro W hW; (try dsimp only at hW); go_simp <;> (with_reducible rfl))
              try simp only [Act.put]
              try simp only [List.setIfInBounds_toArray, List.set_cons_zero, List.set_cons_succ]
              refine wpAnyH_ready (rs := [21]) (by kernel_rfl) (by simp) (AllReadyH.cons rfl (fun K hK => ?_) AllReadyH.nil)
              (rw [if_pos (by rfl)]; go_wp2_with (fail))
              refine hK.out _ _ (by (repeat (with_reducible first | assumption | exact AgreeF.refl _ | apply AgreeF.al | apply AgreeF.dr))) (fun hHeld => ?_)
              clear hK K
              try simp only [Act.put]
              try simp only [List.setIfInBounds_toArray, List.set_cons_zero, List.set_cons_succ]
              refine wpAnyH_done (by kernel_rfl) ?_ _
              refine NoPanic.normal ?_
              go_wp2
              go_roundg (workC (g0 + 1) ((.node p l, k) :: r))
              case measure => exact hgk
              case rel => exact HREL.out
            · (rw [if_pos (by rfl)]; go_wp2_with (fail))
              refine hK.out _ _ (by (repeat (with_reducible first | assumption | exact AgreeF.refl _ | apply AgreeF.al | apply AgreeF.dr))) (fun hHeld => ?_)
              clear hK K
              try simp only [Act.put]
              try simp only [List.setIfInBounds_toArray, List.set_cons_zero, List.set_cons_succ]
              refine wpAnyH_ready (rs := [4]) (by kernel_rfl) (by simp) (AllReadyH.cons rfl (fun K hK => ?_) AllReadyH.nil)
              (rw [if_pos (by rfl)]; go_wp2_with (fail))
              refine hK.out _ _ (by (repeat (with_reducible first | assumption | exact AgreeF.refl _ | apply AgreeF.al | apply AgreeF.dr))) (fun hHeld => ?_)
              clear hK K
              try simp only [Act.put]
              try simp only [List.setIfInBounds_toArray, List.set_cons_zero, List.set_cons_succ]
              refine wpAnyH_ready (rs := [18]) (by kernel_rfl) (by simp) (AllReadyH.cons rfl (fun K hK => ?_) AllReadyH.nil)
              (refine step_append_run rfl _ _ _ _ rfl rfl rfl hrun ?_)
              refine hK.out _ _ (by (repeat (with_reducible first | assumption | exact AgreeF.refl _ | apply AgreeF.al | apply AgreeF.dr))) (fun hHeld => ?_)
              clear hK K
              try simp only [Act.put]
              try simp only [List.setIfInBounds_toArray, List.set_cons_zero, List.set_cons_succ]
              refine wpAnyH_take (i := 19) (v := ?_) rfl (by kernel_rfl) (by kernel_rfl) (by kernel_rfl) (fun _ _ _ h => h) (Or.inl ⟨by rfl, ?_⟩) (by assumption) ?_
              rotate_left
              · (intro W hW; (try dsimp only at hW); go_simp <;> (with_reducible rfl))
              try simp only [Act.put]
              try simp only [List.setIfInBounds_toArray, List.set_cons_zero, List.set_cons_succ]
              refine wpAnyH_take (i := 20) (v := ?_) rfl (by kernel_rfl) (by kernel_rfl) (by kernel_rfl) (fun _ _ _ h => h) (Or.inl ⟨by rfl, ?_⟩) (by assumption) ?_
              rotate_left
              · (intro W hW; (try dsimp only at hW); go_simp <;> (with_reducible rfl))
              try simp only [Act.put]
              try simp only [List.setIfInBounds_toArray, List.set_cons_zero, List.set_cons_succ]
              refine wpAnyH_ready (rs := [21]) (by kernel_rfl) (by simp) (AllReadyH.cons rfl (fun K hK => ?_) AllReadyH.nil)
              (rw [if_pos (by rfl)]; go_wp2_with (fail))
              refine hK.out _ _ (by (repeat (with_reducible first | assumption | exact AgreeF.refl _ | apply AgreeF.al | apply AgreeF.dr))) (fun hHeld => ?_)
              clear hK K
              try simp only [Act.put]
              try simp only [List.setIfInBounds_toArray, List.set_cons_zero, List.set_cons_succ]
              refine wpAnyH_done (by kernel_rfl) ?_ _
              refine NoPanic.normal ?_
              go_wp2
              go_roundg (workC (g0 + 1) ((.node p l, k) :: r))
              case measure => exact hgk
              case rel => exact HREL.out
end Go.Proofs.YtpghlmcoajaiiaaGreatDoor
