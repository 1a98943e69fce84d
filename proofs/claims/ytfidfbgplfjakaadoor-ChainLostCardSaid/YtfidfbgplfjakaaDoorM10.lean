/- Texts that other texts of this claim lean on, one behind the other. -/
import Derived.Test.YtfidfbgplfjakaaDoorM9
import Derived.Test.YtfidfbgplfjakaaDoorM1
import Derived.Test.YtfidfbgplfjakaaDoorM5
import Derived.Test.YtfidfbgplfjakaaDoorM6
import Derived.Test.YtfidfbgplfjakaaDoorM7
/- The reference's regions: one is another one. -/
namespace Go.Proofs.YtfidfbgplfjakaaDoor
open Go.RowKit

theorem info_G : (Tryd.prog.info? 87).map (fun i => (i.zero, i.size, i.bytes)) = some (some (.agg #[.slice none 0 0, .slice none 0 0, .int .i64 0, .bool false]), 4, 64) := by kernel_rfl
theorem size_G : (Tryd.prog.info? 87).map (·.size) = some 4 := by
  obtain ⟨i, hi, _, hs, _⟩ := info_parts info_G
  rw [hi, Option.map_some, hs]
theorem load_G {W : World} {g o : Nat} {y : C4} (h : W.rangeAt g o y.1) : (Instr.loadAt 87 (.pointer (some ⟨g, o, none⟩))).run Tryd.prog W = .ok (.agg y.1.toArray) W :=
  run_loadAt_mid W g o 87 y.1 _ h Tryd.underlying87 rfl (by rw [size_G, y.2.1])
/-- A record of a row of the call's own is written. -/
theorem tab_set {w : World} {base : Nat} {e : TypeId} {g n cap : Nat} {l : List C4} (h : w.ownsRow base e 4 (.slice (some ⟨g, 0, none⟩) n cap) n (l.flatMap (·.1))) (hl : l.length = n) {i : Nat} (hi : i < n) (y : C4) :
    (∃ z : C4, ∀ j v, z.1[j]? = some v → w.cell? ⟨g, i * 4 + j, none⟩ = some v) ∧ w.grownBy (w.setCells g (i * 4) y.1) (some g) ∧ TabR 4 (fun cs (y : C4) => cs = y.1) (w.setCells g (i * 4) y.1) (some ⟨g, 0, none⟩) n cap (l.set i y) := by
  have hf : ∀ z : C4, z.1.length = 4 := fun z => z.2.1
  obtain ⟨a', cap', e1, ht⟩ := TabR.of_own (fun z : C4 => z.1) hf (R := fun cs (z : C4) => cs = z.1) (fun _ => rfl) (by rw [hl]; exact h)
  rw [hl] at e1 ht
  cases e1
  have hfro : ∀ j, w.frozen? ⟨g, j, none⟩ = false := fun j => h.frozenAt j
  obtain ⟨h1, h2, h3, hn, h4⟩ := ht
  obtain ⟨b, off, e2, hb, hcells⟩ := h4.resolve_left (by omega)
  cases e2
  have cell : ∀ (k : Nat) (z : C4), l[k]? = some z → ∀ j v, z.1[j]? = some v → w.cell? ⟨g, k * 4 + j, none⟩ = some v := by
    intro k z hz j v hv
    obtain ⟨cs, _, c2, c3⟩ := hcells k z hz
    have := c3 j v (by rw [c2]; exact hv)
    simpa using this
  obtain ⟨z, hz⟩ : ∃ z, l[i]? = some z := ⟨_, List.getElem?_eq_getElem (by omega)⟩
  have hsome : ∀ j, j < y.1.length → (w.cell? ⟨g, i * 4 + 0 + j, none⟩).isSome = true := by
    intro j hj
    have hj' : j < z.1.length := by rw [hf]; rw [hf] at hj; exact hj
    rw [Nat.add_zero, cell i z hz j _ (List.getElem?_eq_getElem hj')]; rfl
  have hbel : w.grownBy (w.setCells g (i * 4) y.1) (some g) := by
    have : ∀ (vs : List Value) (o : Nat) (w0 : World), w0.grownBy (w0.setCells g o vs) (some g) := by
      intro vs
      induction vs with
      | nil => intro o w0; exact grown_refl _ _
      | cons v vs ih => intro o w0; exact grown_trans (grown_setCell w0 ⟨g, o, none⟩ v) (ih (o + 1) _)
    exact this _ _ _
  refine ⟨⟨z, cell i z hz⟩, hbel, by simpa using h1, h2, h3, (fun e => by cases e), .inr ⟨g, 0, rfl, Nat.lt_of_lt_of_le hb hbel.size, fun k u hu => ?_⟩⟩
  have hk : k < n := by have := (List.getElem?_eq_some_iff.1 hu).1; simp at this; omega
  refine ⟨u.1, hf u, rfl, fun j v hv => ?_⟩
  have hj : j < 4 := by rw [← hf u]; exact (List.getElem?_eq_some_iff.1 hv).1
  rw [Nat.zero_add]
  by_cases e : k = i
  · subst e
    rw [List.getElem?_set_self (by omega)] at hu
    cases hu
    have := World.rangeAt_setCells_same w g (k * 4) y.1 (fun j hj => ⟨by have := hsome j hj; simpa using this, hfro _⟩)
    exact this j v hv
  · rw [List.getElem?_set_ne (fun h => e h.symm)] at hu
    rw [World.cell?_setCells_out g y.1 (i * 4) w ⟨g, k * 4 + j, none⟩ (fun _ _ => by
      have := hf y
      show k * 4 + j < i * 4 ∨ i * 4 + y.1.length ≤ k * 4 + j
      omega)]
    exact cell k u hu j v hv
def GsPost (K : Nat → Prop) (w : World) (d : List Rg) (e : Ending) (w' : World) : Prop := ∃ a n cap, e = .returned (.slice a n cap) ∧ GsK (From K w.heap.size) w' a n cap d ∧ Below w.heap.size w w'
set_option maxRecDepth 100000 in
set_option maxHeartbeats 2000000 in
theorem with_any {K : Nat → Prop} {w : World} {a : Option Addr} {len cap : Nat} {d : List Rg} (h : GsK K w a len cap d) (hlen : len ≤ 1000) (i : Nat) (hi : i < len) (g : C4) (x : Rg) (hx : ∀ W, Agree K w W → IsG W g.1 x) :
    Calls Tryd.prog 39 #[.slice a len cap, .int .i64 (i : Int), .agg g.1.toArray] w (GsPost K w (d.set i x)) := by
  obtain ⟨hdl, gs, htK, hg⟩ := h
  have ht := htK w (Agree.refl _ _)
  have hb0 : Below w.heap.size w (w.alloc (.cells g.1.toArray 87)) := (Below.refl _ _).alloc (Nat.le_refl _) _
  obtain ⟨i0, hi0, hz0, hz1, hz2⟩ := info_parts info_G
  have ht0 := TabR.below (Nat.le_refl _) hb0 ht
  obtain ⟨v', w2, hr9, ho9, hg9, _⟩ := run_append_tab (P := Tryd.prog) (w := w.alloc (.cells g.1.toArray 87)) w.heap.size 39 87 i0 _ 4 64 Tryd.underlying39 hi0 hz0 hz1 hz2 rfl (by decide) (World.ownsRow_nil _ _ _ _) (fun cs (y : C4) => cs = y.1) (fun y : C4 => y.1) (fun _ _ h => h) (fun y => y.2.1) (fun y => y.2.2) ht0 (by unfold maxLen; omega) (by omega) (by simp)
  simp only [Nat.zero_add, List.nil_append] at ho9
  obtain ⟨a', c', rfl, hc1, hc2, hc3⟩ := own_slice ho9
  obtain ⟨gb, rfl⟩ := hc3 (by omega)
  have hgs : gs.length = len := ht.1
  obtain ⟨⟨z, hz⟩, hg3, ht3⟩ := tab_set ho9 hgs hi g
  have hfro := fun j => ho9.frozenAt j
  obtain ⟨w3, hw3⟩ : ∃ w3, w3 = w2.setCells gb (i * 4) g.1 := ⟨_, rfl⟩
  rw [← hw3] at hg3 ht3
  have hge := own_ge ho9 gb rfl
  have hb2 : Below w.heap.size w w2 := hb0.grown hg9 (by simp) (fun k hk => by cases hk)
  have hb3 : Below w.heap.size w w3 := hb2.grown hg3 hb2.size (fun k hk => by cases hk; exact hge)
  have hbx : w2.rangeAt w.heap.size 0 g.1 := fun j v hv => by
    rw [World.cell?_of_block (hg9.block w.heap.size (by simp) (fun e => by cases e))]
    simp only [World.cell?, World.alloc_heap_new w (.cells g.1.toArray 87)]
    simpa using hv
  have END : GsPost K w (d.set i x) (.returned (.slice (some ⟨gb, 0, none⟩) len c')) w3 := by
    refine ⟨_, len, c', rfl, ?_, hb3⟩
    refine ⟨by simp [hdl], _, ht3.agree (fun b off e => by cases e; exact .inr hge), fun j u y hu hy W hW => ?_⟩
    by_cases e : j = i
    · subst e
      rw [List.getElem?_set_self (by omega)] at hu hy
      cases hu; cases hy
      exact hx W (Agree.step hb3 hW)
    · rw [List.getElem?_set_ne (fun h => e h.symm)] at hu hy
      exact hg j u y hu hy W (Agree.step hb3 hW)
  have END := Lib.hid END
  have q1 : decide ((i : Int) < len) = true := by simp; omega
  have q2 : decide (i < len) = true := by simpa using hi
  unfold maxLen at hc2
  clear ht ht0 htK hg hgs ho9 hg9 hg3 ht3 hb0 hb2 hb3 hge hx hdl hi0 hz0 hz1 hz2 hc3
  obtain ⟨gl, gl1, gl2⟩ := g
  obtain ⟨zl, zl1, zl2⟩ := z
  match gl, gl1, zl, zl1 with
  | [g0, g1, g2, g3], _, [z0, z1, z2, z3], _ =>
    have r0 : ∀ a m W, (store a g0 m).run Tryd.prog W = stored Tryd.prog W a g0 m := fun a m W => run_store Tryd.prog W a g0 m (gl2 g0 (by simp))
    have r1 : ∀ a m W, (store a g1 m).run Tryd.prog W = stored Tryd.prog W a g1 m := fun a m W => run_store Tryd.prog W a g1 m (gl2 g1 (by simp))
    have r2 : ∀ a m W, (store a g2 m).run Tryd.prog W = stored Tryd.prog W a g2 m := fun a m W => run_store Tryd.prog W a g2 m (gl2 g2 (by simp))
    have r3 : ∀ a m W, (store a g3 m).run Tryd.prog W = stored Tryd.prog W a g3 m := fun a m W => run_store Tryd.prog W a g3 m (gl2 g3 (by simp))
    have b0 := hbx 0 g0 rfl
    have b1 := hbx 1 g1 rfl
    have b2 := hbx 2 g2 rfl
    have b3 := hbx 3 g3 rfl
    have d0 := hz 0 z0 rfl
    have d1 := hz 1 z1 rfl
    have d2 := hz 2 z2 rfl
    have d3 := hz 3 z3 rfl
    have f0 := hfro (i * 4)
    have f1 := hfro (i * 4 + 1)
    have f2 := hfro (i * 4 + 2)
    have f3 := hfro (i * 4 + 3)
    simp only [Nat.zero_add, Nat.add_zero] at b0 b1 b2 b3 d0 d1 d2 d3
    have HW3 : Hid (w3 = (((w2.setCell ⟨gb, i * 4, none⟩ g0).setCell ⟨gb, i * 4 + 1, none⟩ g1).setCell ⟨gb, i * 4 + 2, none⟩ g2).setCell ⟨gb, i * 4 + 3, none⟩ g3) := Lib.hid hw3
    clear hbx hz hfro hw3
    go_enter Tryd.func39, Tryd.ntmps39
    go_wp2_with (at_builtin; refine wpList_append_run rfl _ _ _ _ rfl rfl rfl hr9 ?_)
    go_ret
    rw [← HW3.out]
    exact END.out
end Go.Proofs.YtfidfbgplfjakaaDoor

/- The reference's regions: Stop. -/
namespace Go.Proofs.YtfidfbgplfjakaaDoor
open Go.RowKit

theorem from_up {K : Nat → Prop} {w w1 : World} (hb : Below w.heap.size w w1) : ∀ k, From K w1.heap.size k → From K w.heap.size k := fun _ hk => hk.imp id (fun h => Nat.le_trans hb.size h)
theorem from_up2 {K : Nat → Prop} {w w1 : World} (hb : Below w.heap.size w w1) : ∀ k, From (From K w.heap.size) w1.heap.size k → From K w.heap.size k := fun _ hk => hk.elim id (fun h => .inr (Nat.le_trans hb.size h))
/-- The record of a region. -/
def gcells (pa : Option Addr) (pc : Nat) (la : Option Addr) (lc : Nat) (x : Rg) : C4 := ⟨[.slice pa x.size pc, .slice la x.loose.length lc, .int .i64 x.left, .bool x.down], rfl, by
  intro v hv
  simp only [List.mem_cons, List.not_mem_nil, or_false] at hv
  rcases hv with rfl | rfl | rfl | rfl <;> rfl⟩
theorem with_rg {K : Nat → Prop} {w : World} {a : Option Addr} {len cap : Nat} {d : List Rg} (h : GsK K w a len cap d) (hlen : len ≤ 1000) (i : Nat) (hi : i < len) (x : Rg) {pa : Option Addr} {pc : Nat} {la : Option Addr} {lc : Nat} (hp : ∀ W, Agree K w W → Txs W pa x.size pc (pagesL x)) (hl : ∀ W, Agree K w W → Ls W la x.loose.length lc x.loose) (hs : x.size ≤ 1000) (hs2 : ∀ p ∈ x.loose, p.1 < x.size) (h1 : -1 ≤ x.left) (h2 : x.left ≤ 9223372036854775807) :
    Calls Tryd.prog 39 #[.slice a len cap, .int .i64 (i : Int), .agg #[.slice pa x.size pc, .slice la x.loose.length lc, .int .i64 x.left, .bool x.down]] w (GsPost K w (d.set i x)) :=
  with_any h hlen i hi (gcells pa pc la lc x) x (fun W hW => ⟨pa, pc, la, lc, rfl, hp W hW, hl W hW, hs, hs2, h1, h2⟩)
end Go.Proofs.YtfidfbgplfjakaaDoor

/- The reference's regions: Read. -/
namespace Go.Proofs.YtfidfbgplfjakaaDoor
open Go.RowKit

theorem Ls.at {w : World} {a : Option Addr} {len cap : Nat} {l : List (Nat × P128)} (h : Ls w a len cap l) {k : Nat} (hk : k < len) :
    ∃ b off y, a = some ⟨b, off, none⟩ ∧ b < w.heap.size ∧ l[k]? = some y ∧ w.cell? ⟨b, off + k * 2, none⟩ = some (.int .i64 (y.1 : Int)) ∧ w.cell? ⟨b, off + k * 2 + 1, none⟩ = some (.string (strOf y.2.1)) := by
  obtain ⟨b, off, y, cs, e1, e2, e3, _, e5, e6⟩ := TabR.at h hk
  have e7 : cs = lcells y := e5
  subst e7
  exact ⟨b, off, y, e1, e2, e3, by simpa using e6 0 _ rfl, e6 1 _ rfl⟩
def RReadPost (w : World) (l : List UInt8) (er : Int) (e : Ending) (w' : World) : Prop := e = .returned (.tuple #[.string (strOf l), .int .i64 er]) ∧ Below w.heap.size w w'
set_option maxRecDepth 100000 in
set_option maxHeartbeats 3000000 in
theorem rread_any {w : World} {a : Option Addr} {len cap : Nat} {d : List Rg} (h : Gs w a len cap d) (hlen : len ≤ 1000) (r p : Int) :
    Calls Tryd.prog 41 #[.slice a len cap, .int .i64 r, .int .i64 p] w (RReadPost w (readB d r p) (pagedE d r p)) := by
  have U := rup_any h (by omega) r p true
  have hre : refE d r p true = pagedE d r p := rfl
  rw [hre] at U
  by_cases hu : pagedE d r p = 0
  · obtain ⟨i, pn, x, rfl, rfl, hx, hdn, hpn⟩ := pagedE_zero hu
    have hi : i < len := by have := (List.getElem?_eq_some_iff.1 hx).1; have := h.1; omega
    obtain ⟨b, off, pa, pc, la, lc, rfl, hb, c0, c1, c2, c3, g2, g3, g4, g5, g6, g7⟩ := h.at hx
    have e1 : readB d i pn = (seen x pn).1 := by rw [readB, if_pos hu, atR_of hx, Int.toNat_natCast]
    rw [hu] at U
    rw [hu, e1]
    have q1 : decide ((i : Int) < len) = true := by simp; omega
    have hbb : Below w.heap.size w (w.alloc (.cells #[.slice pa x.size pc, .slice la x.loose.length lc, .int .i64 x.left, .bool x.down] 87)) := (Below.refl _ _).alloc (Nat.le_refl _) _
    have G3 := Lib.hid (show Ls (w.alloc (.cells #[.slice pa x.size pc, .slice la x.loose.length lc, .int .i64 x.left, .bool x.down] 87)) la x.loose.length lc x.loose from TabR.below (Nat.le_refl _) hbb g3)
    have G2 := Lib.hid (show Txs (w.alloc (.cells #[.slice pa x.size pc, .slice la x.loose.length lc, .int .i64 x.left, .bool x.down] 87)) pa x.size pc (pagesL x) from TabR.below (Nat.le_refl _) hbb g2)
    have hll : x.loose.length ≤ 9223372036854775807 := by have := g3.2.1; have := g3.2.2.1; unfold maxLen at this; omega
    have HPN := Lib.hid hpn
    have HBB := Lib.hid hbb
    have HS := Lib.hid (show lastW pn (x.pages pn) (x.loose.take x.loose.length) = seen x pn by rw [List.take_length]; rfl)
    clear h hx hu hdn e1 g2 g3 g5 hre hbb
    go_enter Tryd.func41, Tryd.ntmps41
    go_wp2_with fail
    refine U.mono ?_
    rintro e w9 ⟨rfl, rfl⟩
    clear U
    go_wp2_with fail
    go_loop [10] (fun v => ∃ j : Nat, j ≤ x.loose.length ∧ v = .int .i64 ((j : Int) - 1) ∧ lastW pn (x.pages pn) (x.loose.take j) = seen x pn) (fun v => (intOf v + 1).toNat)
    case atStart => exact ⟨x.loose.length, Nat.le_refl _, rfl, HS.out⟩
    case round =>
      obtain ⟨j, hj, rfl, hlw⟩ := hrel
      cases j with
      | zero =>
        obtain ⟨b9, o9, s9, rfl, _, hs9, hc9⟩ := G2.out.at HPN.out
        have hse : s9 = (seen x pn).1 := by
          rw [← hlw]
          simp only [pagesL, List.getElem?_map] at hs9
          rw [List.getElem?_range HPN.out] at hs9
          simp at hs9
          rw [← hs9]; rfl
        have HSE := Lib.hid hse
        have q2 : decide ((0 : Int) ≤ ((0 : Nat) : Int) - 1) = false := by decide
        have q3 := Lib.hid HPN.out
        have q4 : pn < x.size := HPN.out
        clear hlw hs9 hse
        go_wp2_with fail
        go_ret2
        have END : RReadPost w (seen x pn).1 0 (.returned (.tuple #[.string (strOf s9), .int .i64 0])) _ := ⟨by rw [HSE.out], HBB.out⟩
        exact END
      | succ m =>
        obtain ⟨b9, o9, y, rfl, _, hy, d0, d1⟩ := G3.out.at (k := m) (by omega)
        have hlt := lastW_take pn (x.pages pn) x.loose m y hy
        rw [hlw] at hlt
        have em : (((m + 1 : Nat) : Int) - 1) = (m : Int) := by omega
        by_cases hyp : y.1 = pn
        · rw [if_pos hyp] at hlt
          have HLT := Lib.hid hlt
          have q2 : ((y.1 : Int) == (pn : Int)) = true := by simp [hyp]
          have q3 : (y.1 == pn) = true := by simp [hyp]
          rw [em]
          clear hlw hlt hyp hy em
          go_wp2_with fail
          go_ret2
          have END : RReadPost w (seen x pn).1 0 (.returned (.tuple #[.string (strOf y.2.1), .int .i64 0])) _ := ⟨by rw [HLT.out], HBB.out⟩
          exact END
        · rw [if_neg hyp] at hlt
          have HLT := Lib.hid hlt
          have q2 : ((y.1 : Int) == (pn : Int)) = false := by simp; omega
          have q3 : (y.1 == pn) = false := by simp [hyp]
          rw [em]
          clear hlw hlt hyp hy em
          go_wp2_with fail
          go_round
          case rel => exact ⟨m, by omega, rfl, HLT.out.symm⟩
          case measure => simp [intOf]
  · have e1 : readB d r p = [] := by rw [readB, if_neg hu]
    rw [e1]
    have q0 : (pagedE d r p == 0) = false := by simpa using hu
    generalize pagedE d r p = er at *
    clear hu e1 h hre
    go_enter Tryd.func41, Tryd.ntmps41
    go_wp2_with fail
    refine U.mono ?_
    rintro e w0 ⟨rfl, rfl⟩
    go_wp2_with fail
    go_ret2
    exact ⟨rfl, Below.refl _ _⟩
end Go.Proofs.YtfidfbgplfjakaaDoor

/- The walks of the chapter on numbers and texts as bytes: the reference's taker. -/
namespace Go.Proofs.YtfidfbgplfjakaaDoor
open Go.RowKit

/-- The reference's taker stands there, in such a state. -/
def Rt (w : World) (t : Nat) (s : TSt) : Prop := w.heap[t]? = some (.cells #[.string (strOf s.l), .int .i64 s.e] 106 (0, 0))
theorem Rt.lt {w : World} {t : Nat} {s : TSt} (h : Rt w t s) : t < w.heap.size := (Array.getElem?_eq_some_iff.1 h).1
theorem Rt.grown {w w' : World} {t : Nat} {s : TSt} {row : Option Nat} (h : Rt w t s) (hg : w.grownBy w' row) (hne : row ≠ some t) : Rt w' t s := (hg.block t h.lt (fun e => hne e.symm)).trans h
theorem Rt.below {w w' : World} {t : Nat} {s : TSt} {B : Nat} (hB : w.heap.size ≤ B) (hb : Below B w w') (h : Rt w t s) : Rt w' t s := (hb.block t (Nat.lt_of_lt_of_le h.lt hB)).trans h
theorem Rt.drewN {w : World} {t : Nat} {s : TSt} (h : Rt w t s) (n : Nat) : Rt (w.drewN n) t s := h
theorem Rt.drew {w : World} {t : Nat} {s : TSt} (h : Rt w t s) : Rt w.drew t s := h
theorem Tk.drewN {w : World} {t : Nat} {s : TSt} (h : Tk w t s) (n : Nat) : Tk (w.drewN n) t s := h
theorem Tk.drew {w : World} {t : Nat} {s : TSt} (h : Tk w t s) : Tk w.drew t s := h
theorem Rt.err {w : World} {t : Nat} {s : TSt} (h : Rt w t s) : w.cell? ⟨t, 1, none⟩ = some (.int .i64 s.e) := by
  have h' : w.heap[t]? = _ := h
  simp [World.cell?, h']
/-- What turns the one taker leaves the other one. -/
theorem Tk.other {w w' : World} {t r : Nat} {s s' : TSt} (h : Tk w t s) (hr : Rt w r s') (hg : w.grownBy w' (some r)) (hne : r ≠ t) : Tk w' t s :=
  h.grown hg (fun e => hne (by cases e; rfl)) (fun a n m b off h1 h0 ha e => by
    cases e
    obtain ⟨a', cap', g1, g2⟩ := h
    rw [g1] at h1
    cases h1
    obtain ⟨b', off', e1, _, h7⟩ := g2.cell (k := 0) (by omega)
    rw [ha] at e1
    cases e1
    have h8 := h7 0 (by omega)
    have hr' : w.heap[r]? = _ := hr
    simp only [World.cell?, hr', Nat.add_zero] at h8
    match off, h8 with
    | 0, h8 => simp at h8
    | 1, h8 => simp at h8
    | n + 2, h8 => simp at h8)
def RtPost (w : World) (t : Nat) (v : Value) (s' : TSt) (e : Ending) (w' : World) : Prop :=
  e = .returned v ∧ w.grownBy w' (some t) ∧ Rt w' t s'

set_option maxRecDepth 100000 in
set_option maxHeartbeats 1000000 in
theorem rSome_any (t : Nat) (s : TSt) (n : Nat) (w : World) (h : Rt w t s) (hreach : s.l.length ≤ 140737488351232) :
    Calls Tryd.prog 58 #[.pointer (some ⟨t, 0, none⟩), .int .i64 n] w (RtPost w t (.string (strOf (takeF s n).1)) (takeF s n).2) := by
  obtain ⟨l, er⟩ := s
  have hblk : w.heap[t]? = some (.cells #[.string (strOf l), .int .i64 er] 106 (0, 0)) := h
  have hc0 : w.cell? ⟨t, 0, none⟩ = some (.string (strOf l)) := by simp [World.cell?, hblk]
  have hc1 : w.cell? ⟨t, 1, none⟩ = some (.int .i64 er) := by simp [World.cell?, hblk]
  have hf0 : w.frozen? ⟨t, 0, none⟩ = false := by simp [World.frozen?, hblk]
  have hf1 : w.frozen? ⟨t, 1, none⟩ = false := by simp [World.frozen?, hblk]
  have hsz := strOf_size l
  dsimp only at hreach
  by_cases he : er = 0
  · subst he
    by_cases hlt : l.length < n
    · have hts : takeF ⟨l, 0⟩ n = ([], ⟨l, 10⟩) := by simp [takeF, hlt]
      rw [hts]
      have hnew : Rt (w.setCell ⟨t, 1, none⟩ (.int .i64 10)) t ⟨l, 10⟩ := heap_setCell_at 1 (.int .i64 10) hblk
      have hgr := grown_setCell w ⟨t, 1, none⟩ (.int .i64 10)
      clear hts hblk h
      go_enter Tryd.func58, Tryd.ntmps58
      go_wp2
      go_ret
      exact ⟨rfl, hgr, hnew⟩
    · have hts : takeF ⟨l, 0⟩ n = (l.take n, ⟨l.drop n, 0⟩) := by simp [takeF, hlt]
      rw [hts]
      have hx0 : (strOf l).extract 0 n = strOf (l.take n) := by rw [strOf_extract]; simp
      have hx1 : (strOf l).extract n l.length = strOf (l.drop n) := by rw [strOf_extract, List.take_of_length_le (by simp)]
      have hgr := grown_setCell w ⟨t, 0, none⟩ (.string (strOf (l.drop n)))
      have hnew : Rt (w.setCell ⟨t, 0, none⟩ (.string (strOf (l.drop n)))) t ⟨l.drop n, 0⟩ := heap_setCell_at 0 (.string (strOf (l.drop n))) hblk
      clear hts hblk h
      go_enter Tryd.func58, Tryd.ntmps58
      go_wp2
      go_ret
      exact ⟨rfl, hgr, hnew⟩
  · have hts : takeF ⟨l, er⟩ n = ([], ⟨l, er⟩) := by simp [takeF, he]
    rw [hts]
    have hne : (er == 0) = false := by simpa using he
    have hne' : (er != 0) = true := by simpa using he
    clear he hts hblk
    go_enter Tryd.func58, Tryd.ntmps58
    go_wp2
    go_ret
    exact ⟨rfl, grown_below (Below.refl _ _) _, h⟩

set_option maxRecDepth 100000 in
set_option maxHeartbeats 1000000 in
theorem rNum_any (t : Nat) (s : TSt) (size : Int) (w : World) (h : Rt w t s) (hreach : s.l.length ≤ 140737488351232) :
    Calls Tryd.prog 42 #[.pointer (some ⟨t, 0, none⟩), .int .i64 size] w (RtPost w t (.int .u64 ((tNum s size).1 : Int)) (tNum s size).2) := by
  obtain ⟨l, er⟩ := s
  have hblk : w.heap[t]? = some (.cells #[.string (strOf l), .int .i64 er] 106 (0, 0)) := h
  have hc1 : w.cell? ⟨t, 1, none⟩ = some (.int .i64 er) := by simp [World.cell?, hblk]
  have hf1 : w.frozen? ⟨t, 1, none⟩ = false := by simp [World.frozen?, hblk]
  dsimp only at hreach
  by_cases he : er = 0
  · subst he
    by_cases hsz : size < 1 ∨ 8 < size
    · have hr : tNum ⟨l, 0⟩ size = (0, ⟨l, 1⟩) := by simp [tNum, hsz]
      rw [hr]
      have hnew : Rt (w.setCell ⟨t, 1, none⟩ (.int .i64 1)) t ⟨l, 1⟩ := heap_setCell_at 1 (.int .i64 1) hblk
      have hgr := grown_setCell w ⟨t, 1, none⟩ (.int .i64 1)
      clear hr hblk h
      rcases hsz with hsz | hsz
      · go_enter Tryd.func42, Tryd.ntmps42
        go_wp2
        go_ret
        exact ⟨rfl, hgr, hnew⟩
      · have hsz' : ¬ size < 1 := by omega
        go_enter Tryd.func42, Tryd.ntmps42
        go_wp2
        go_ret
        exact ⟨rfl, hgr, hnew⟩
    · obtain ⟨n, rfl⟩ := Int.eq_ofNat_of_zero_le (show 0 ≤ size by omega)
      have hr : tNum ⟨l, 0⟩ (n : Int) = (beVal (takeF ⟨l, 0⟩ n).1, (takeF ⟨l, 0⟩ n).2) := by simp only [tNum]; rw [if_neg (fun h => hsz h.2)]; rfl
      rw [hr]
      have hs1 : ¬ (n : Int) < 1 := by omega
      have hs2 : ¬ (8 : Int) < (n : Int) := by omega
      have hcall := rSome_any t ⟨l, 0⟩ n w h hreach
      have hle := takeF_le ⟨l, 0⟩ n
      obtain ⟨b, s1, hs⟩ : ∃ b s1, takeF ⟨l, 0⟩ n = (b, s1) := ⟨_, _, rfl⟩
      rw [hs] at hcall hle ⊢
      dsimp only at hcall hle ⊢
      clear hr hblk h hsz hs
      have hbs := strOf_size b
      go_enter Tryd.func42, Tryd.ntmps42
      go_wp2_with fail
      refine hcall.mono ?_
      rintro e w1 ⟨rfl, hgr, hnew⟩
      go_wp2
      go_loop [6, 7] (fun x i => ∃ k : Nat, k ≤ b.length ∧ i = .int .i64 k ∧ x = .int .u64 (beVal (b.take k))) (fun _ i => b.length - (intOf i).toNat)
      case atStart => exact ⟨0, Nat.zero_le _, rfl, rfl⟩
      case round =>
        obtain ⟨k, hk, rfl, rfl⟩ := hrel
        by_cases hlt : k < b.length
        · have hst := beVal_step b k hlt
          have hbd : beVal (b.take k) < 72057594037927936 := by
            have h1 := beVal_lt (b.take k)
            have h2 : (b.take k).length ≤ 7 := by simp; omega
            have h3 : 256 ^ (b.take k).length ≤ 256 ^ 7 := Nat.pow_le_pow_right (by decide) h2
            omega
          have hcb : (b[k]?.getD 0).toNat < 256 := (b[k]?.getD 0).toNat_lt
          have hget := strOf_get b k hlt
          generalize b[k]?.getD 0 = x at *
          generalize beVal (b.take k) = y at *
          have H := Lib.hid hst
          clear hst
          go_wp2
          go_round
          case rel => exact ⟨k + 1, by omega, by go_num, by rw [H.out]; go_num⟩
          case measure => simp [intOf]; omega
        · obtain rfl : k = b.length := by omega
          rw [List.take_length]
          go_wp2
          go_ret
          exact ⟨rfl, hgr, hnew⟩
  · have hr : tNum ⟨l, er⟩ size = (0, ⟨l, er⟩) := by simp [tNum, takeF, he, beVal_nil]
    rw [hr]
    have hne : (er == 0) = false := by simpa using he
    have hne' : (er != 0) = true := by simpa using he
    clear he hr hblk
    go_enter Tryd.func42, Tryd.ntmps42
    go_wp2
    go_ret
    exact ⟨rfl, grown_below (Below.refl _ _) _, h⟩

end Go.Proofs.YtfidfbgplfjakaaDoor

/- The walks of the chapter on pages of cells: the document's pages, unpacked. -/
namespace Go.Proofs.YtfidfbgplfjakaaDoor
open Go.RowKit

theorem pageOf_five (kind : UInt8) (c : List (List UInt8)) : (pageOf kind c)[5]? = some (UInt8.ofNat c.length) := by
  rw [pageOf, List.getElem?_append_right (by rw [beBytes_length]; omega), beBytes_length]; rfl
theorem unpB_big (l : List UInt8) (h : 122 < numS l) : unpB l = false := by
  rw [unpB, Nat.min_eq_right (by omega)]
  have : pageOf (kindS l) (cutS l 122) ≠ l := by
    intro e
    have h5 := pageOf_five (kindS l) (cutS l 122)
    rw [e, cutS_length] at h5
    rw [numS, h5] at h
    simp at h
  rw [beq_eq_false_iff_ne.2 this]; simp
theorem unpB_slot (l : List UInt8) (k : Nat) (h : okS l (k + 1) = false) (hk : k < min (numS l) 122) : unpB l = false := by
  rw [unpB, okS_mono l h hk, Bool.false_and]

def RUnpPost (w : World) (k : UInt8) (l : List (List UInt8)) (er : Int) (e : Ending) (w' : World) : Prop :=
  ∃ v, e = .returned (.tuple #[.int .u8 (k.toNat : Int), v, .int .i64 er]) ∧ w'.ownsRow w.heap.size 9 1 v l.length (l.map sv) ∧ Below w.heap.size w w'

def RUnpOk (w : World) (l : List UInt8) (e : Ending) (w' : World) : Prop := if unpB l then RUnpPost w (kindS l) (cutS l (min (numS l) 122)) 0 e w' else RUnpPost w 0 [] 11 e w'

set_option maxRecDepth 100000 in
set_option maxHeartbeats 1000000 in
theorem runpack_len (l : List UInt8) (w : World) (hl : l.length ≠ 128) (_hb : l.length ≤ 140737488351232) :
    Calls Tryd.prog 21 #[.string (strOf l)] w fun e w' => e = .returned (.tuple #[.int .u8 0, .slice none 0 0, .int .i64 1]) ∧ w = w' := by
  have hsz := strOf_size l
  generalize l.length = n at *
  have hne : ((n : Int) != 128) = true := by simp; omega
  have hne2 : ((n : Int) == 128) = false := by simp; omega
  go_enter Tryd.func21, Tryd.ntmps21
  go_wp2
  go_ret3
  exact ⟨rfl, rfl⟩

set_option maxRecDepth 100000 in
set_option maxHeartbeats 1000000 in
theorem runpack_sum (l : List UInt8) (w : World) (hl : l.length = 128) (hs : beVal (l.take 4) ≠ crcOf (l.drop 4)) :
    Calls Tryd.prog 21 #[.string (strOf l)] w (RUnpPost w 0 [] 12) := by
  have hsz : (strOf l).size = 128 := by rw [strOf_size, hl]
  have hx1 : (strOf l).extract 4 128 = strOf (l.drop 4) := by rw [strOf_extract, List.take_of_length_le (by simp [hl])]
  have hx2 : (strOf l).extract 0 4 = strOf (l.take 4) := by rw [strOf_extract]; rfl
  have hc := refOf_any (l.drop 4) w.drew (by simp [hl])
  have hx := crcOn_lt 0 (l.drop 4)
  change crcOf _ < _ at hx
  have hbe := be_iff (l.take 4) (crcOf (l.drop 4)) (by simp [hl]; omega)
  rw [show (l.take 4).length = 4 by simp [hl], decide_eq_false hs] at hbe
  generalize crcOf (l.drop 4) = s at *
  have hne : (beBytes s 4 != l.take 4) = true := by simpa using hbe
  have hw64 : (s : Int) % 18446744073709551616 = (s : Int) := by omega
  have hw64' : IntKind.u64.wrap (s : Int) = (s : Int) := by simp [IntKind.wrap, IntKind.signed, IntKind.bits]; omega
  have hn := refNum_ok s 4 w.drew (by omega) (by omega) (by omega)
  have hst := strOf_toList
  clear hl hs
  go_enter Tryd.func21, Tryd.ntmps21
  go_wp2_with fail
  go_region_with (first | (go_at_call 43; refine hc.mono ?_; rintro e w1 ⟨rfl, rfl⟩) | (go_at_call 33; refine hn.mono ?_; rintro e w2 ⟨rfl, hb2⟩))
  all_goals
    have hB := ((Below.refl w.heap.size w).drew).trans hb2
    go_wp2
    go_ret3
    exact ⟨_, rfl, World.ownsRow_nil _ _ _ _, hB⟩

set_option maxRecDepth 100000 in
set_option maxHeartbeats 4000000 in
theorem runpack_ok (l : List UInt8) (w : World) (hl : l.length = 128) (hs : beVal (l.take 4) = crcOf (l.drop 4)) :
    Calls Tryd.prog 21 #[.string (strOf l)] w (RUnpOk w l) := by
  have hsz : (strOf l).size = 128 := by rw [strOf_size, hl]
  have hx1 : (strOf l).extract 4 128 = strOf (l.drop 4) := by rw [strOf_extract, List.take_of_length_le (by simp [hl])]
  have hx2 : (strOf l).extract 0 4 = strOf (l.take 4) := by rw [strOf_extract]; rfl
  have hc := refOf_any (l.drop 4) w.drew (by simp [hl])
  have hx := crcOn_lt 0 (l.drop 4)
  change crcOf _ < _ at hx
  have hbe := be_iff (l.take 4) (crcOf (l.drop 4)) (by simp [hl]; omega)
  rw [show (l.take 4).length = 4 by simp [hl], decide_eq_true hs] at hbe
  generalize crcOf (l.drop 4) = s at *
  have hne : (beBytes s 4 != l.take 4) = false := by simpa using hbe
  have hw64 : (s : Int) % 18446744073709551616 = (s : Int) := by omega
  have hw64' : IntKind.u64.wrap (s : Int) = (s : Int) := by simp [IntKind.wrap, IntKind.signed, IntKind.bits]; omega
  have hn := refNum_ok s 4 w.drew (by omega) (by omega) (by omega)
  have hst := strOf_toList
  have HL := Lib.hid hl
  have h5 := strOf_get l 5 (by rw [HL.out]; omega)
  have h4 := strOf_get l 4 (by rw [HL.out]; omega)
  change _ = kindS l at h4
  have hn5 : (l[5]?.getD 0).toNat = numS l := rfl
  have hn256 : numS l < 256 := (l[5]?.getD 0).toNat_lt
  have hn0 : IntKind.i64.wrap ((numS l : Nat) : Int) = ((numS l : Nat) : Int) := IntWalk.i64_in _ (by omega)
  have HCUT := Lib.hid (show ∀ k, (strOf l).extract (slotS l k) (endS l k) = strOf (cellS l k) from fun k => strOf_extract _ _ _)
  have HGET := Lib.hid (show ∀ k (h : k < 122), (strOf l)[6 + k]'(by rw [strOf_size, HL.out]; omega) = l[6 + k]?.getD 0 from fun k h => strOf_get l (6 + k) (by rw [HL.out]; omega))
  obtain ⟨i0, hi, hz0, hz1, hz2⟩ := info_parts info_str
  clear hl hs
  go_enter Tryd.func21, Tryd.ntmps21
  go_wp2_with fail
  go_region_with (first | (go_at_call 43; refine hc.mono ?_; rintro e w1 ⟨rfl, rfl⟩) | (go_at_call 33; refine hn.mono ?_; rintro e w2 ⟨rfl, hb2⟩))
  all_goals
    have hB := ((Below.refl w.heap.size w).drew).trans hb2
    clear hc hn hb2 hx1 hx2 hbe
    go_wp2_with fail
    clear hn0
    go_loopw [6, 7, 8] (fun e v i wr => ∃ k : Nat, k ≤ numS l ∧ k ≤ 122 ∧ i = .int .i64 k ∧ e = .int .i64 ((endS l k : Nat) : Int) ∧ okS l k = true ∧ wr.ownsRow w.heap.size 9 1 v k ((cutS l k).map sv) ∧ Below w.heap.size w wr) (fun _ _ i _ => numS l - (intOf i).toNat)
    case atStart => exact ⟨0, Nat.zero_le _, by omega, rfl, rfl, rfl, World.ownsRow_nil _ _ _ _, hB⟩
    case round =>
      obtain ⟨k, hk, hk2, rfl, rfl, hok, hown, hb⟩ := hrel
      by_cases hlt : k < numS l
      · by_cases hlt2 : k < 122
        · have hget := HGET.out k hlt2
          have hq : slotS l k = (l[6 + k]?.getD 0).toNat := rfl
          have hend := okS_end l k hok
          have hsl := slotS_lt l k
          have hes : endS l (k + 1) = slotS l k := rfl
          have hok1 := okS_succ l k
          rw [hok, Bool.true_and] at hok1
          by_cases hle : slotS l k ≤ endS l k
          · have hcc := HCUT.out k
            have hcut := Lib.hid (cutS_succ l k)
            have HES := Lib.hid hes
            have HOK : Hid (okS l (k + 1) = true) := Lib.hid (by rw [hok1]; simpa using hle)
            clear hes hok1 hok
            generalize slotS l k = q at *
            generalize endS l k = e at *
            generalize cellS l k = c at *
            have hle2 : ¬ (e : Int) < (q : Int) := by omega
            have hqq : (l[6 + k]?.getD 0).toNat = q := hq.symm
            clear hq
            generalize l[6 + k]?.getD 0 = by1 at *
            have hown1 := hown.alloc (.cells #[.string (strOf c)] 9)
            have hcl : (wr.alloc (.cells #[.string (strOf c)] 9)).cell? ⟨wr.heap.size, 0, none⟩ = some (sv c) := by
              simp only [World.cell?, World.alloc_heap_new]; rfl
            have HSZ := Lib.hid hb.size
            have hB1 := Lib.hid (hb.alloc hb.size (.cells #[.string (strOf c)] 9))
            have HG := Lib.hid (own_ge hown)
            have hwq : IntKind.i64.wrap (q : Int) = (q : Int) := IntWalk.i64_in _ (by omega)
            clear hown hb
            go_wp2_with (at_builtin; refine wpList_append_one rfl _ _ 28 rfl w.heap.size 9 i0 _ 16 Tryd.underlying28 hi hz0 hz1 hz2 rfl _ k _ rfl hown1 wr.heap.size rfl (sv c) hcl rfl (by unfold maxLen; omega) (by omega) (by have := HSZ.out; simp; omega) ?_)
            intro v2 w5 hown2 hg
            have HB := Lib.hid (hB1.out.grown hg (by have := HSZ.out; simp; omega) (fun j e => HG.out j e))
            clear hg
            go_wp2
            go_roundw
            case rel => exact ⟨k + 1, by omega, by omega, by go_num, by rw [HES.out], HOK.out, by rw [hcut.out, List.map_append]; exact hown2, HB.out⟩
            case measure => simp [intOf]; omega
          · have hq' : (l[6 + k]?.getD 0).toNat = slotS l k := rfl
            have HR := Lib.hid (unpB_slot l k (by rw [hok1]; simpa using hle) (by omega))
            clear hes hok1 hok hown hend hq
            generalize slotS l k = q at *
            generalize endS l k = e at *
            generalize l[6 + k]?.getD 0 = by1 at *
            have hle2 : (e : Int) < (q : Int) := by omega
            have hwq : IntKind.i64.wrap (q : Int) = (q : Int) := IntWalk.i64_in _ (by omega)
            go_wp2_with fail
            go_ret3
            rw [RUnpOk, HR.out]
            exact ⟨_, rfl, World.ownsRow_nil _ _ _ _, hb⟩
        · have HR := Lib.hid (unpB_big l (by omega))
          obtain rfl : k = 122 := by omega
          go_wp2_with fail
          go_ret3
          rw [RUnpOk, HR.out]
          exact ⟨_, rfl, World.ownsRow_nil _ _ _ _, hb⟩
      · obtain rfl : k = numS l := by omega
        have HMIN := Lib.hid (show min (numS l) 122 = numS l from Nat.min_eq_left hk2)
        have hcl := cutS_lens l (numS l) HL.out hok
        have hcn := cutS_length l (numS l)
        have hgen := hown
        obtain ⟨ao, co, rfl, hss⟩ := Strs.of_own hown
        have hpk := rpack_any (kindS l) ao (numS l) co (cutS l (numS l)) wr hss (by omega)
        have hout := Lib.hid (show wr.ownsRow w.heap.size 9 1 (.slice ao (numS l) co) (cutS l (numS l)).length ((cutS l (numS l)).map sv) by rw [hcn]; exact hgen)
        have HOKK := Lib.hid hok
        clear hcl hcn hok hown hgen hss
        by_cases hf : fits (kindS l) (cutS l (numS l)) = true
        · have hpv : packV (kindS l) (cutS l (numS l)) = pageOf (kindS l) (cutS l (numS l)) := by rw [packV, if_pos hf]
          have hpe : packE (kindS l) (cutS l (numS l)) = 0 := by rw [packE, if_pos hf]
          rw [hpv, hpe] at hpk
          have HR := Lib.hid (show unpB l = (pageOf (kindS l) (cutS l (numS l)) == l) by rw [unpB, HMIN.out, HOKK.out, hf, Bool.true_and, Bool.true_and])
          clear hpv hpe hf
          go_wp2_with fail
          refine hpk.mono ?_
          rintro e w5 ⟨rfl, hb5⟩
          have hB5 := below_then hb hb5
          have HOUT5 := Lib.hid (own_below hout.out (Nat.le_refl _) hb5)
          cases hq : (pageOf (kindS l) (cutS l (numS l)) == l)
          · have hq2 : (pageOf (kindS l) (cutS l (numS l)) != l) = true := by rw [bne, hq]; rfl
            have HQ := Lib.hid (HR.out.trans hq)
            clear hpk hb hb5 HR
            generalize pageOf (kindS l) (cutS l (numS l)) = pg at *
            go_wp2_with fail
            go_ret3
            rw [RUnpOk, HQ.out]
            exact ⟨_, rfl, World.ownsRow_nil _ _ _ _, hB5⟩
          · have hq2 : (pageOf (kindS l) (cutS l (numS l)) != l) = false := by rw [bne, hq]; rfl
            have HQ := Lib.hid (HR.out.trans hq)
            clear hpk hb hb5 HR
            generalize pageOf (kindS l) (cutS l (numS l)) = pg at *
            go_wp2_with fail
            go_ret3
            rw [RUnpOk, HQ.out, HMIN.out]
            exact ⟨_, rfl, HOUT5.out, hB5⟩
        · have hpe : packE (kindS l) (cutS l (numS l)) = 1 := by rw [packE, if_neg hf]
          have hpv : packV (kindS l) (cutS l (numS l)) = [] := by rw [packV, if_neg hf]
          have HR := Lib.hid (show unpB l = false by rw [unpB, HMIN.out, Bool.eq_false_iff.2 hf, Bool.false_and, Bool.and_false])
          rw [hpv, hpe] at hpk
          clear hpv hpe hf
          go_wp2_with fail
          refine hpk.mono ?_
          rintro e w5 ⟨rfl, hb5⟩
          have hB5 := below_then hb hb5
          clear hpk hb hb5
          go_wp2_with fail
          go_ret3
          rw [RUnpOk, HR.out]
          exact ⟨_, rfl, World.ownsRow_nil _ _ _ _, hB5⟩

theorem runpack_any (l : List UInt8) (w : World) (hl : l.length ≤ 140737488351232) :
    Calls Tryd.prog 21 #[.string (strOf l)] w (RUnpPost w (unpK l) (unpL l) (unpE l)) := by
  by_cases h1 : l.length = 128
  · by_cases h2 : beVal (l.take 4) = crcOf (l.drop 4)
    · refine (runpack_ok l w h1 h2).mono ?_
      intro e w' hp
      unfold RUnpOk at hp
      have hE : unpE l = if unpB l then 0 else 11 := by rw [unpE, if_neg (by omega), if_neg (by simpa using h2)]
      by_cases hB : unpB l = true
      · rw [if_pos hB] at hp
        rw [if_pos hB] at hE
        rw [unpK, unpL, hE]; exact hp
      · rw [if_neg hB] at hp
        rw [if_neg hB] at hE
        rw [unpK, unpL, hE]; exact hp
    · refine (runpack_sum l w h1 h2).mono ?_
      intro e w' hp
      have hE : unpE l = 12 := by rw [unpE, if_neg (by omega), if_pos h2]
      rw [unpK, unpL, hE]; exact hp
  · refine (runpack_len l w h1 hl).mono ?_
    rintro e w' ⟨rfl, rfl⟩
    have hE : unpE l = 1 := by rw [unpE, if_pos h1]
    rw [unpK, unpL, hE]
    exact ⟨_, rfl, World.ownsRow_nil _ _ _ _, Below.refl _ _⟩
end Go.Proofs.YtfidfbgplfjakaaDoor

/- The walks of the chapter on long values: the document's answer, a value is got (printed by gen_chnY.py). -/
namespace Go.Proofs.YtfidfbgplfjakaaDoor
open Go.RowKit

theorem tNumC_two (l : List UInt8) (h : 2 ≤ l.length) : tNum ⟨l, 0⟩ 2 = (beVal (l.take 2), ⟨l.drop 2, 0⟩) := by
  rw [tNum, if_neg (by simp)]
  simp [takeF, show ¬ l.length < 2 by omega]
theorem beValC_take2 (l : List UInt8) : beVal (l.take 2) < 65536 := by
  have := beVal_lt (l.take 2)
  have h : (l.take 2).length ≤ 2 := by simp; omega
  have h3 : (256 : Nat) ^ (l.take 2).length ≤ 256 ^ 2 := Nat.pow_le_pow_right (by omega) h
  omega
theorem readBC_len (d : List Rg) (r p : Int) : (readB d r p).length ≤ 128 := by
  unfold readB
  split
  · exact Nat.le_of_eq (seen _ _).2
  · simp
theorem upE_ne (d : List Rg) (r : Int) : upE d r ≠ 10 := by unfold upE; split <;> (try split) <;> simp
theorem pagedE_ne (d : List Rg) (r p : Int) : pagedE d r p ≠ 10 := by
  have := upE_ne d r
  unfold pagedE
  split
  · split <;> simp
  · exact this
theorem unpE_ne (b : List UInt8) : unpE b ≠ 10 := by unfold unpE; split <;> (try split) <;> (try split) <;> simp
/-- What the rounds so far have got. -/
structure GRelY (w : World) (d : List Rg) (r : Int) (n sz : Nat) (R : List UInt8 × List Int × Int) (i : Nat) (s : List UInt8) (at_ : List Int) (first : Int) (v : Value) (wr : World) : Prop where
  le : i ≤ n
  al : at_.length = i
  sl : s.length ≤ 119 * i
  fin : if i < n then getFC (rdC d r) (4 - i) s (at_ ++ [first]) ((sz : Int) - 119 * i) = R else R = (s, at_, 0)
  own : wr.ownsRow w.heap.size 3 1 v i (at_.map (Value.int .i64))
  bl : Below w.heap.size w wr
theorem GRelY.drewN {w : World} {d : List Rg} {r : Int} {n sz : Nat} {R : List UInt8 × List Int × Int} {i : Nat} {s : List UInt8} {at_ : List Int} {first : Int} {v : Value} {wr : World} (h : GRelY w d r n sz R i s at_ first v wr) (k : Nat) : GRelY w d r n sz R i s at_ first v (wr.drewN k) :=
  ⟨h.le, h.al, h.sl, h.fin, h.own, below_drewN h.bl k⟩
/-- One round of getFC, as the document walks it. -/
theorem getFC_round {d : List Rg} {r : Int} {n sz i : Nat} {s : List UInt8} {at_ : List Int} {first : Int} {R : List UInt8 × List Int × Int} (hn : n = needC (sz : Int)) (hi : i < n) (h : getFC (rdC d r) (4 - i) s (at_ ++ [first]) ((sz : Int) - 119 * i) = R) :
    ∃ m : Nat, min ((sz : Int) - 119 * i) 119 = m ∧ m ≤ 119 ∧ (i + 1 < n → m = 119) ∧
    (pagedE d r first ≠ 0 → R = ([], [], pagedE d r first)) ∧
    (pagedE d r first = 0 → unpE (readB d r first) ≠ 0 → R = ([], [], unpE (readB d r first))) ∧
    (pagedE d r first = 0 → unpE (readB d r first) = 0 → (unpK (readB d r first) ≠ 3 ∨ (unpL (readB d r first)).length ≠ 1 ∨ ((unpL (readB d r first))[0]?.getD []).length ≠ 2 + m) → R = ([], [], 11)) ∧
    (pagedE d r first = 0 → unpE (readB d r first) = 0 → unpK (readB d r first) = 3 → (unpL (readB d r first)).length = 1 → ((unpL (readB d r first))[0]?.getD []).length = 2 + m →
      ∀ C, (unpL (readB d r first))[0]?.getD [] = C → ∀ N : Nat, beVal (C.take 2) = N →
      (i + 1 = n → N = 0 → R = (s ++ C.drop 2, at_ ++ [first], 0)) ∧ (i + 1 = n → N ≠ 0 → R = ([], [], 11)) ∧
      (i + 1 < n → (pgC N = false ∨ (N : Int) ∈ at_ ++ [first]) → R = ([], [], 11)) ∧
      (i + 1 < n → pgC N = true → (N : Int) ∉ at_ ++ [first] → getFC (rdC d r) (4 - (i + 1)) (s ++ C.drop 2) (at_ ++ [first] ++ [(N : Int)]) ((sz : Int) - 119 * (i + 1 : Nat)) = R)) := by
  have h0 : needC (sz : Int) ≠ 0 := by omega
  have hf := needC_fit h0
  have hp := needC_pos h0
  have h4 := needC_le (sz : Int)
  rw [← hn] at hf h4
  obtain ⟨m, hm⟩ : ∃ m : Nat, min (sz - 119 * i) 119 = m := ⟨_, rfl⟩
  have hmi : min ((sz : Int) - 119 * i) 119 = (m : Int) := by omega
  obtain ⟨k, hk⟩ : ∃ k, 4 - i = k + 1 := ⟨3 - i, by omega⟩
  have hk2 : 4 - (i + 1) = k := by omega
  rw [hk, getFC, List.getLastD_concat] at h
  try simp only at h
  rw [hmi] at h
  refine ⟨m, hmi, by omega, by omega, fun hP => ?_, fun hP hU => ?_, fun hP hU hc => ?_, fun hP hU hK hL hC C eC N eN => ?_⟩
  · have e1 : (rdC d r first).1 = pagedE d r first := by show oneFEC d r first = _; rw [oneFEC, if_pos hP]
    rw [e1, if_neg (by rintro (h1 | ⟨h1, _⟩); exact pagedE_ne _ _ _ h1; exact hP h1), if_pos hP] at h
    exact h.symm
  · have e1 : (rdC d r first).1 = unpE (readB d r first) := by show oneFEC d r first = _; rw [oneFEC, if_neg (by rw [hP]; simp), oneEC, if_pos hU]
    rw [e1, if_neg (by rintro (h1 | ⟨h1, _⟩); exact unpE_ne _ h1; exact hU h1), if_pos hU] at h
    exact h.symm
  · by_cases hc1 : unpK (readB d r first) ≠ 3 ∨ (unpL (readB d r first)).length ≠ 1
    · have e1 : (rdC d r first).1 = 11 := by show oneFEC d r first = _; rw [oneFEC, if_neg (by rw [hP]; simp), oneEC, if_neg (by rw [hU]; simp), if_pos hc1]
      rw [e1, if_neg (by rintro (h1 | ⟨h1, _⟩) <;> exact absurd h1 (by decide)), if_pos (by decide)] at h
      exact h.symm
    · by_cases hc2 : ((unpL (readB d r first))[0]?.getD []).length < 2
      · have e1 : (rdC d r first).1 = 10 := by show oneFEC d r first = _; rw [oneFEC, if_neg (by rw [hP]; simp), oneEC, if_neg (by rw [hU]; simp), if_neg hc1, if_pos hc2]
        rw [e1, if_pos (.inl rfl)] at h
        exact h.symm
      · have e0 : oneEC (readB d r first) = 0 := by rw [oneEC, if_neg (by rw [hU]; simp), if_neg hc1, if_neg hc2]
        have e1 : (rdC d r first).1 = 0 := by show oneFEC d r first = _; rw [oneFEC, if_neg (by rw [hP]; simp), e0]
        have e2 : (rdC d r first).2.2 = ((unpL (readB d r first))[0]?.getD []).drop 2 := by show oneFPC d r first = _; rw [oneFPC, if_neg (by rw [hP]; simp), onePC, if_pos e0]
        rw [e1, e2, if_pos (.inr ⟨rfl, by rw [List.length_drop]; rcases hc with h1 | h1 | h1; exact absurd (.inl h1) hc1; exact absurd (.inr h1) hc1; omega⟩)] at h
        exact h.symm
  · rw [eC] at hC
    have e0 : oneEC (readB d r first) = 0 := by rw [oneEC, if_neg (by rw [hU]; simp), if_neg (by rw [hK, hL]; simp), eC, if_neg (by omega)]
    have e1 : (rdC d r first).1 = 0 := by show oneFEC d r first = _; rw [oneFEC, if_neg (by rw [hP]; simp), e0]
    have e2 : (rdC d r first).2.2 = C.drop 2 := by show oneFPC d r first = _; rw [oneFPC, if_neg (by rw [hP]; simp), onePC, if_pos e0, eC]
    have e3 : (rdC d r first).2.1 = (N : Int) := by show oneFNC d r first = _; rw [oneFNC, if_neg (by rw [hP]; simp), oneNC, if_pos e0, eC, eN]
    have hdl : (C.drop 2).length = m := by rw [List.length_drop]; omega
    rw [e1, e2, e3, hdl, if_neg (by rintro (h1 | ⟨_, h1⟩); exact absurd h1 (by decide); exact h1 rfl), if_neg (by simp)] at h
    refine ⟨fun h1 h2 => ?_, fun h1 h2 => ?_, fun h1 h2 => ?_, fun h1 h2 h3 => ?_⟩
    · rw [if_pos ⟨by omega, by omega⟩] at h; exact h.symm
    · rw [if_neg (by omega), if_pos (.inl (by omega))] at h; exact h.symm
    · rw [if_neg (by omega), if_pos (.inr h2)] at h; exact h.symm
    · rw [if_neg (by omega), if_neg (by rintro (h4 | h4 | h4); omega; rw [h2] at h4; cases h4; exact h3 h4)] at h
      rw [hk2, ← h]
      congr 1
      omega

set_option maxRecDepth 100000 in
set_option maxHeartbeats 4000000 in
theorem crget_any {w : World} {a : Option Addr} {len cap : Nat} {d : List Rg} (h : Gs w a len cap d) (hlen : len ≤ 1000) (r first size : Int) :
    Calls Tryd.prog 19 #[.slice a len cap, .int .i64 r, .int .i64 first, .int .i64 size] w (GetPostC w (getDC d r first size)) := by
  have C := crneed_any size w
  by_cases h0 : needC size = 0
  · have HR : Hid (getDC d r first size = ([], [], 1)) := Lib.hid (by unfold getDC getC; rw [if_pos h0])
    rw [h0] at C
    clear h0
    go_enter Tryd.func19, Tryd.ntmps19
    go_wp2_with fail
    refine C.mono ?_
    rintro e w1 ⟨rfl, rfl⟩
    go_wp2_with fail
    go_ret3
    rw [HR.out]
    exact getPostC_bad (Below.refl _ _)
  have hsz := needC_pos h0
  obtain ⟨sz, rfl⟩ := Int.eq_ofNat_of_zero_le (show 0 ≤ size by omega)
  obtain ⟨R, hR⟩ : ∃ R, getDC d r first (sz : Int) = R := ⟨_, rfl⟩
  have hR0 := hR
  unfold getDC getC at hR0
  rw [if_neg h0] at hR0
  obtain ⟨n, hn⟩ : ∃ n, needC (sz : Int) = n := ⟨_, rfl⟩
  have hn4 := needC_le (sz : Int)
  rw [hn] at C hn4 h0
  have HN := Lib.hid hn.symm
  have HS := Lib.hid (show GRelY w d r n sz R 0 [] [] first (.slice none 0 0) w from ⟨Nat.zero_le _, rfl, by simp, by rw [if_pos (by omega)]; simpa using hR0, World.ownsRow_nil _ _ _ _, Below.refl _ _⟩)
  rw [hR]
  have q0 : ((n : Int) == 0) = false := by rw [beq_eq_false_iff_ne]; omega
  have q0' : (n == 0) = false := by simpa using h0
  have HG := Lib.hid h
  have HLEN := Lib.hid hlen
  clear hR hR0 hn h hlen
  go_enter Tryd.func19, Tryd.ntmps19
  go_wp2_with fail
  refine C.mono ?_
  rintro e w1 ⟨rfl, rfl⟩
  clear C
  go_wp2_with fail
  go_loopw [2, 12, 13, 14] (fun s2 s12 s13 s14 wr => ∃ (i : Nat) (s : List UInt8) (at_ : List Int) (first : Int), s14 = .int .i64 i ∧ s2 = .int .i64 first ∧ s12 = .string (strOf s) ∧ GRelY w d r n sz R i s at_ first s13 wr) (fun _ _ _ s14 _ => n - (intOf s14).toNat)
  case atStart => exact ⟨0, [], [], first, rfl, rfl, rfl, HS.out⟩
  case round =>
    clear HS
    obtain ⟨i, s, at_, first, rfl, rfl, rfl, hrel⟩ := hrel
    have hle := hrel.le
    have hsl := hrel.sl
    by_cases hi : i < n
    · have hfin := hrel.fin
      rw [if_pos hi] at hfin
      obtain ⟨m, hmi, hm9, hm1, F1, F2, F3, F4⟩ := getFC_round HN.out hi hfin
      have HREL := Lib.hid hrel
      obtain ⟨aa, ca, hea, hca, hcam, _⟩ := own_slice hrel.own
      subst hea
      unfold maxLen at hcam
      have hrd := rread_any (HG.out.below (Nat.le_refl _) hrel.bl) HLEN.out r first
      have HB3 : Hid (∀ w3, Below wr.heap.size wr w3 → Below w.heap.size w w3) := Lib.hid fun w3 h3 => below_then hrel.bl h3
      have hrl := readBC_len d r first
      have hun := runpack_any (readB d r first)
      clear hrel hfin
      by_cases hP : pagedE d r first = 0
      · have F2 := F2 hP
        replace F3 := F3 hP
        replace F4 := F4 hP
        rw [hP] at hrd
        clear F1 hP
        generalize readB d r first = b at *
        by_cases hU : unpE b = 0
        · rw [hU] at hun
          have HF3 := Lib.hid (F3 hU)
          have HF4 := Lib.hid (F4 hU)
          have hL128 := unpLC_len b 0
          clear F2 F3 F4 hU
          generalize unpK b = K at *
          generalize unpL b = L at *
          obtain ⟨C, hC⟩ : ∃ C, L[0]?.getD [] = C := ⟨_, rfl⟩
          rw [hC] at HF3 HF4 hL128
          have HC := Lib.hid hC
          have HBAD : Hid (∀ w3, Below w.heap.size w w3 → (K ≠ 3 ∨ L.length ≠ 1 ∨ C.length ≠ 2 + m) → GetPostC w R (.returned (.tuple #[.string ⟨#[]⟩, .slice none 0 0, .int .i64 11])) w3) := Lib.hid (fun w3 h3 h4 => by
            rw [HF3.out h4]; exact getPostC_bad h3)
          go_wp2_with fail
          refine hrd.mono ?_
          rintro e w3 ⟨rfl, hb3⟩
          clear hrd
          have hb3' := HB3.out w3 hb3
          go_wp2_with fail
          refine (hun w3 (by omega)).mono ?_
          rintro e w4 ⟨v4, rfl, ho4, hb4⟩
          clear hun
          obtain ⟨av, cv, rfl, hss⟩ := Strs.of_own ho4
          have HB4 := Lib.hid (below_then hb3' hb4)
          have HB34 := Lib.hid (below_then hb3 hb4)
          have hls := hss.2.1
          have hls2 := hss.2.2.1
          unfold maxLen at hls2
          have HGE := Lib.hid (show ∀ k, (Value.slice av L.length cv).ownBlock = some k → wr.heap.size ≤ k from fun k e => Nat.le_trans hb3.size (own_ge ho4 k e))
          clear hb3 hb4 hb3' ho4
          by_cases hk : K = 3
          · by_cases hl : L.length = 1
            · rw [hl] at hss hls ⊢
              obtain ⟨bb, off, rfl, hbb, hc0⟩ := hss.at (k := 0) (by omega)
              rw [hC, Nat.add_zero] at hc0
              subst hk
              have hsz := strOf_size C
              have PA : ∀ W, Calls Tryd.prog 34 #[.int .i64 (sz : Int), .int .i64 (i : Int)] W fun e w' => e = .returned (.int .i64 (m : Int)) ∧ W = w' := fun W => by
                have := cpart_any sz i (by omega) (by omega) W
                rwa [hmi] at this
              have HL1 := Lib.hid hl
              clear hC hl hmi
              by_cases hcl : C.length = 2 + m
              · have HF5 := Lib.hid (HF4.out rfl HL1.out hcl C rfl _ rfl)
                have hx0 := beValC_take2 C
                have HCL := Lib.hid hcl
                rw [hcl] at hsz
                have hnum := fun W t (hr : Rt W t ⟨C, 0⟩) => rNum_any t ⟨C, 0⟩ 2 W hr (by simp only; omega)
                rw [tNumC_two C (by omega)] at hnum
                have z0 : ((2 + m : Nat) != 2 + m) = false := by simp
                have hdr : (strOf C).extract 2 (2 + m) = strOf (C.drop 2) := by
                  rw [strOf_extract, List.take_of_length_le (by simp; omega)]
                have hdl : (C.drop 2).length = m := by rw [List.length_drop]; omega
                have hap := strOf_append s (C.drop 2)
                have hbn : (strOf s).size + (strOf (C.drop 2)).size ≤ 9223372036854775807 := by rw [strOf_size, strOf_size, hdl]; omega
                obtain ⟨N, hN⟩ : ∃ N, beVal (C.take 2) = N := ⟨_, rfl⟩
                rw [hN] at HF5 hx0 hnum
                have HNN := Lib.hid hN
                obtain ⟨i0, hi0, hz0, hz1, hz2⟩ := info_parts info_i64C
                have HDL := Lib.hid hdl
                have z4 : ((2 : Int) + (m : Int) != 2 + (m : Int)) = false := by simp
                have z5 : ((2 : Int) + (m : Int) == 2 + (m : Int)) = true := by simp
                clear hcl hN HF3 HF4 hdl
                generalize C.drop 2 = D at *
                go_wp2_with fail
                go_quiet (first | (go_at_call 34; (with_reducible exact quiet_same (PA _))))
                have ho4 := own_below HREL.out.own (Nat.le_refl _) HB34.out
                have hb4q : Below w.heap.size w (w4.drewN nq) := below_drewN HB4.out nq
                have hb34q : Below wr.heap.size wr (w4.drewN nq) := below_drewN HB34.out nq
                obtain ⟨v5, w5, hr5, ho5, hg5, hv5⟩ := run_append_new (P := Tryd.prog) (w := w4.drewN nq) w.heap.size 22 3 i0 _ 1 8 Tryd.underlying22 hi0 hz0 hz1 hz2 rfl (by decide) (show (w4.drewN nq).ownsRow w.heap.size 3 1 (.slice aa i ca) i (at_.map (Value.int .i64)) from ho4) #[.int .i64 first] rfl (by intro u hu; simp at hu; subst hu; rfl) (by unfold maxLen; omega) (by omega) hb4q.size
                have hb5 := hb4q.grown hg5 hb4q.size (own_ge ho4)
                have c5 : w5.cell? ⟨bb, off, none⟩ = some (.string (strOf C)) := by
                  have c4 : (w4.drewN nq).cell? ⟨bb, off, none⟩ = some (.string (strOf C)) := hc0
                  have hbq : bb < (w4.drewN nq).heap.size := hbb
                  refine (World.cell?_of_block (hg5.block bb hbq (fun e => ?_))).trans c4
                  have := HGE.out bb rfl
                  have := own_lt HREL.out.own bb e.symm
                  omega
                have ho5' : w5.ownsRow w.heap.size 3 1 v5 (i + 1) ((at_ ++ [first]).map (Value.int .i64)) := by
                  rw [List.map_append]; exact ho5
                obtain ⟨a5, k5, rfl, row5⟩ := Row.of_own ho5'
                have HO5 := Lib.hid ho5'
                have HB5 := Lib.hid hb5
                have HA5 := Lib.hid (show Below w.heap.size w (w5.alloc (.cells #[.string (strOf C), .int .i64 0] 106)) from hb5.alloc hb5.size _)
                have HL5 := Lib.hid hb5.size
                clear ho4 hb4q hb34q hg5 hv5 ho5 ho5' hb5 hc0 hss
                go_wp2_with (at_builtin; refine wpList_append_run rfl _ _ _ _ rfl rfl rfl hr5 ?_)
                refine (hnum _ _ (World.alloc_heap_new w5 _)).mono ?_
                rintro e w6 ⟨rfl, hg6, _⟩
                have hb6 : Below w.heap.size w w6 := HA5.out.grown hg6 HA5.out.size (fun k e => by cases e; exact HL5.out)
                have ho6 : w6.ownsRow w.heap.size 3 1 (.slice a5 (i + 1) k5) (i + 1) ((at_ ++ [first]).map (Value.int .i64)) := (own_below HO5.out (Nat.le_refl _) ((Below.refl _ _).alloc (Nat.le_refl _) _)).kept hg6 (by
                  right; intro e
                  have := own_lt HO5.out _ e
                  omega)
                have hrow6 := Row.of_own ho6
                obtain ⟨a6, k6, e6, row6⟩ := hrow6
                cases e6
                have HB6 := Lib.hid hb6
                have HO6 := Lib.hid ho6
                have hm6 := row6.lensC
                have hw6 : IntKind.i64.wrap (N : Int) = (N : Int) := by simp [IntKind.wrap, IntKind.signed, IntKind.bits]; omega
                have HASK := Lib.hid (fun k => chas_any (row6.drewN k) (N : Int))
                clear hnum hg6 hb6 ho6 row6 c5 hr5
                have hsd : (s ++ D).length ≤ 119 * (i + 1) := by rw [List.length_append, HDL.out]; omega
                have HSD := Lib.hid hsd
                clear hsd
                by_cases hlast : i + 1 = n
                · have e1 : ((i : Int) + 1 == n) = true := by rw [beq_iff_eq]; omega
                  have e2 : decide ((i : Int) + 1 < n) = false := by simp; omega
                  by_cases hN0 : N = 0
                  · subst hN0
                    have HE : Hid (GRelY w d r n sz R (i + 1) (s ++ D) (at_ ++ [first]) 0 (.slice a5 (i + 1) k5) w6) := Lib.hid ⟨by omega, by rw [List.length_append, HREL.out.al]; rfl, HSD.out, by rw [if_neg (by omega)]; exact HF5.out.1 hlast rfl, HO6.out, HB6.out⟩
                    clear hlast
                    go_wp2_with fail
                    go_roundw
                    case rel => exact ⟨i + 1, _, _, 0, by go_num, rfl, rfl, HE.out⟩
                    case measure => simp [intOf]; omega
                  · have e3 : ((N : Int) != 0) = true := by rw [bne_iff_ne]; omega
                    have e4 : ((N : Int) == 0) = false := by rw [beq_eq_false_iff_ne]; omega
                    have HBD := Lib.hid (show GetPostC w R (.returned (.tuple #[.string ⟨#[]⟩, .slice none 0 0, .int .i64 11])) w6 from by rw [HF5.out.2.1 hlast hN0]; exact getPostC_bad HB6.out)
                    clear hlast hN0
                    go_wp2_with fail
                    go_ret3
                    exact HBD.out
                · have hlt1 : i + 1 < n := by omega
                  have e1 : ((i : Int) + 1 == n) = false := by rw [beq_eq_false_iff_ne]; omega
                  have e2 : decide ((i : Int) + 1 < n) = true := by simp; omega
                  have HLT1 := Lib.hid hlt1
                  have HBDF : Hid (∀ W, Below w.heap.size w W → (pgC N = false ∨ (N : Int) ∈ at_ ++ [first]) → GetPostC w R (.returned (.tuple #[.string ⟨#[]⟩, .slice none 0 0, .int .i64 11])) W) := Lib.hid (fun W hW hx => by
                    rw [HF5.out.2.2.1 HLT1.out hx]; exact getPostC_bad hW)
                  clear hlast hlt1
                  by_cases h2 : N < 2
                  · have e3 : decide ((N : Int) < 2) = true := by simp; omega
                    have e3' : decide (N < 2) = true := by simp; omega
                    have HBD := Lib.hid (HBDF.out w6 HB6.out (.inl (by simp [pgC]; omega)))
                    clear HBDF
                    go_wp2_with fail
                    go_ret3
                    exact HBD.out
                  · have e3 : decide ((N : Int) < 2) = false := by simp; omega
                    have e3' : decide (N < 2) = false := by simp; omega
                    by_cases h9 : 999 < N
                    · have e4 : decide ((999 : Int) < N) = true := by simp; omega
                      have e4' : decide (999 < N) = true := by simp; omega
                      have HBD := Lib.hid (HBDF.out w6 HB6.out (.inl (by simp [pgC]; omega)))
                      clear HBDF
                      go_wp2_with fail
                      go_ret3
                      exact HBD.out
                    · have e4 : decide ((999 : Int) < N) = false := by simp; omega
                      have e4' : decide (999 < N) = false := by simp; omega
                      have hpg : pgC (N : Int) = true := by simp [pgC]; omega
                      by_cases hm : (N : Int) ∈ at_ ++ [first]
                      · have dm : decide ((N : Int) ∈ at_ ++ [first]) = true := by simpa using hm
                        have HBD := Lib.hid (HBDF.out w6 HB6.out (.inr hm))
                        have hask := HASK.out 0
                        rw [dm] at hask
                        clear HBDF hm dm hpg
                        go_wp2_with fail
                        refine hask.mono ?_
                        rintro e w7 ⟨rfl, rfl⟩
                        go_wp2_with fail
                        go_ret3
                        exact HBD.out
                      · have dm : decide ((N : Int) ∈ at_ ++ [first]) = false := by simpa using hm
                        have HE : Hid (GRelY w d r n sz R (i + 1) (s ++ D) (at_ ++ [first]) (N : Int) (.slice a5 (i + 1) k5) w6) := Lib.hid ⟨by have := HLT1.out; omega, by rw [List.length_append, HREL.out.al]; rfl, HSD.out, by rw [if_pos HLT1.out]; exact HF5.out.2.2.2 HLT1.out hpg hm, HO6.out, HB6.out⟩
                        have hask := HASK.out 0
                        rw [dm] at hask
                        clear HBDF hm dm hpg
                        go_wp2_with fail
                        refine hask.mono ?_
                        rintro e w7 ⟨rfl, rfl⟩
                        go_wp2_with fail
                        go_roundw
                        case rel => exact ⟨i + 1, _, _, _, by go_num, rfl, rfl, HE.out⟩
                        case measure => simp [intOf]; omega
              · have z0 : ((C.length : Int) != 2 + (m : Int)) = true := by rw [bne_iff_ne]; omega
                have z1 : ((C.length : Int) == 2 + (m : Int)) = false := by rw [beq_eq_false_iff_ne]; omega
                have HW := Lib.hid (fun k => HBAD.out (w4.drewN k) (below_drewN HB4.out k) (.inr (.inr hcl)))
                have hcl8 : C.length ≤ 128 := hL128
                clear HF3 HF4 HBAD hss hcl
                go_wp2_with fail
                go_quiet (first | (go_at_call 34; (with_reducible exact quiet_same (PA _))))
                go_wp2_with fail
                go_ret3
                exact HW.out nq
            · have z0 : ((L.length : Int) != 1) = true := by rw [bne_iff_ne]; omega
              have z1 : ((L.length : Int) == 1) = false := by rw [beq_eq_false_iff_ne]; omega
              have z2 : (L.length == 1) = false := by simpa using hl
              have HW := Lib.hid (fun k => HBAD.out (w4.drewN k) (below_drewN HB4.out k) (.inr (.inl hl)))
              clear HF3 HF4 HBAD hss hl hC
              subst hk
              go_wp2_with fail
              go_quiet (fail)
              go_wp2_with fail
              go_ret3
              exact HW.out nq
          · have z0 : ((K.toNat : Int) == 3) = false := by
              rw [beq_eq_false_iff_ne]
              intro e
              exact hk (UInt8.toNat_inj.1 (by show K.toNat = 3; omega))
            have z1 : ((K.toNat : Int) != 3) = true := by rw [bne_iff_ne]; exact beq_eq_false_iff_ne.1 z0
            have HW := Lib.hid (fun k => HBAD.out (w4.drewN k) (below_drewN HB4.out k) (.inl hk))
            clear HF3 HF4 HBAD hss hk hC
            go_wp2_with fail
            go_quiet (fail)
            go_wp2_with fail
            go_ret3
            exact HW.out nq
        · have HE : Hid (∀ w3, Below w.heap.size w w3 → GetPostC w R (.returned (.tuple #[.string ⟨#[]⟩, .slice none 0 0, .int .i64 (unpE b)])) w3) := Lib.hid (fun w3 h3 => by
            rw [F2 hU]; exact getPostC_bad h3)
          have hb1 := neqC_true hU
          have hb2 : (unpE b == 0) = false := by simpa using hU
          clear F2 F3 F4 hU
          generalize unpE b = er at *
          go_wp2_with fail
          refine hrd.mono ?_
          rintro e w3 ⟨rfl, hb3⟩
          have hb3' := HB3.out w3 hb3
          clear hrd
          go_wp2_with fail
          refine (hun w3 (by omega)).mono ?_
          rintro e w4 ⟨v4, rfl, ho4, hb4⟩
          have HW := Lib.hid (HE.out w4 (below_then hb3' hb4))
          clear hun hb3 hb3' hb4 ho4 HE
          go_wp2_with fail
          go_ret3
          exact HW.out
      · have HE : Hid (∀ w3, Below w.heap.size w w3 → GetPostC w R (.returned (.tuple #[.string ⟨#[]⟩, .slice none 0 0, .int .i64 (pagedE d r first)])) w3) := Lib.hid (fun w3 h3 => by
          rw [F1 hP]; exact getPostC_bad h3)
        have hb := neqC_true hP
        have hb2 : (pagedE d r first == 0) = false := by simpa using hP
        generalize pagedE d r first = er at *
        clear hP F1 F2 F3 F4
        go_wp2_with fail
        refine hrd.mono ?_
        rintro e w3 ⟨rfl, hb3⟩
        clear hrd
        have HW := Lib.hid (HE.out w3 (HB3.out w3 hb3))
        clear hb3
        go_wp2_with fail
        go_ret3
        exact HW.out
    · obtain rfl : i = n := by omega
      have hfin := hrel.fin
      rw [if_neg hi] at hfin
      have HE : Hid (GetPostC w R (.returned (.tuple #[.string (strOf s), u13, .int .i64 0])) wr) := Lib.hid (by
        rw [hfin]
        exact ⟨_, rfl, by rw [hrel.al]; exact hrel.own, hrel.bl⟩)
      clear hrel hfin
      go_wp2_with fail
      go_ret3
      exact HE.out
end Go.Proofs.YtfidfbgplfjakaaDoor
