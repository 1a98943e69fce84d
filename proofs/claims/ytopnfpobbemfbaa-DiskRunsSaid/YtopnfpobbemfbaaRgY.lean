/- The reference's regions: one is another one. -/
import Derived.Test.YtopnfpobbemfbaaRgX
import Derived.Test.YtopnfpobbemfbaaOwn2
namespace Go.Proofs.Ytopnfpobbemfbaa
open Go.RowKit

theorem info_G : (Try.prog.info? 58).map (fun i => (i.zero, i.size, i.bytes)) = some (some (.agg #[.slice none 0 0, .slice none 0 0, .int .i64 0, .bool false]), 4, 64) := by kernel_rfl
theorem size_G : (Try.prog.info? 58).map (·.size) = some 4 := by
  obtain ⟨i, hi, _, hs, _⟩ := info_parts info_G
  rw [hi, Option.map_some, hs]
theorem load_G {W : World} {g o : Nat} {y : C4} (h : W.rangeAt g o y.1) : (Instr.loadAt 58 (.pointer (some ⟨g, o, none⟩))).run Try.prog W = .ok (.agg y.1.toArray) W :=
  run_loadAt_mid W g o 58 y.1 _ h Try.underlying58 rfl (by rw [size_G, y.2.1])
/-- A record of a row of the call's own is written. -/
theorem tab_set {w : World} {base : Nat} {e : TypeId} {g n cap : Nat} {l : List C4} (h : w.ownsRow base e 4 (.slice (some ⟨g, 0, none⟩) n cap) n (l.flatMap (·.1))) (hl : l.length = n) {i : Nat} (hi : i < n) (y : C4) :
    (∃ z : C4, ∀ j v, z.1[j]? = some v → w.cell? ⟨g, i * 4 + j, none⟩ = some v) ∧ w.grownBy (w.setCells g (i * 4) y.1) (some g) ∧ TabR 4 (fun cs (y : C4) => cs = y.1) (w.setCells g (i * 4) y.1) (some ⟨g, 0, none⟩) n cap (l.set i y) := by
  have hf : ∀ z : C4, z.1.length = 4 := fun z => z.2.1
  obtain ⟨a', cap', e1, ht⟩ := TabR.of_own (fun z : C4 => z.1) hf (R := fun cs (z : C4) => cs = z.1) (fun _ => rfl) (by rw [hl]; exact h)
  rw [hl] at e1 ht
  cases e1
  have hfro : ∀ j, w.frozen? ⟨g, j, none⟩ = false := fun j => h.frozenAt j
  obtain ⟨h1, h2, h3, hn, h4⟩ := ht
  obtain ⟨b, off, e2, hb, hcells⟩ := h4.resolve_left (by omega)
  cases e2
  have cell : ∀ (k : Nat) (z : C4), l[k]? = some z → ∀ j v, z.1[j]? = some v → w.cell? ⟨g, k * 4 + j, none⟩ = some v := by
    intro k z hz j v hv
    obtain ⟨cs, _, c2, c3⟩ := hcells k z hz
    have := c3 j v (by rw [c2]; exact hv)
    simpa using this
  obtain ⟨z, hz⟩ : ∃ z, l[i]? = some z := ⟨_, List.getElem?_eq_getElem (by omega)⟩
  have hsome : ∀ j, j < y.1.length → (w.cell? ⟨g, i * 4 + 0 + j, none⟩).isSome = true := by
    intro j hj
    have hj' : j < z.1.length := by rw [hf]; rw [hf] at hj; exact hj
    rw [Nat.add_zero, cell i z hz j _ (List.getElem?_eq_getElem hj')]; rfl
  have hbel : w.grownBy (w.setCells g (i * 4) y.1) (some g) := by
    have : ∀ (vs : List Value) (o : Nat) (w0 : World), w0.grownBy (w0.setCells g o vs) (some g) := by
      intro vs
      induction vs with
      | nil => intro o w0; exact grown_refl _ _
      | cons v vs ih => intro o w0; exact grown_trans (grown_setCell w0 ⟨g, o, none⟩ v) (ih (o + 1) _)
    exact this _ _ _
  refine ⟨⟨z, cell i z hz⟩, hbel, by simpa using h1, h2, h3, (fun e => by cases e), .inr ⟨g, 0, rfl, Nat.lt_of_lt_of_le hb hbel.size, fun k u hu => ?_⟩⟩
  have hk : k < n := by have := (List.getElem?_eq_some_iff.1 hu).1; simp at this; omega
  refine ⟨u.1, hf u, rfl, fun j v hv => ?_⟩
  have hj : j < 4 := by rw [← hf u]; exact (List.getElem?_eq_some_iff.1 hv).1
  rw [Nat.zero_add]
  by_cases e : k = i
  · subst e
    rw [List.getElem?_set_self (by omega)] at hu
    cases hu
    have := World.rangeAt_setCells_same w g (k * 4) y.1 (fun j hj => ⟨by have := hsome j hj; simpa using this, hfro _⟩)
    exact this j v hv
  · rw [List.getElem?_set_ne (fun h => e h.symm)] at hu
    rw [World.cell?_setCells_out g y.1 (i * 4) w ⟨g, k * 4 + j, none⟩ (fun _ _ => by
      have := hf y
      show k * 4 + j < i * 4 ∨ i * 4 + y.1.length ≤ k * 4 + j
      omega)]
    exact cell k u hu j v hv
def GsPost (K : Nat → Prop) (w : World) (d : List Rg) (e : Ending) (w' : World) : Prop := ∃ a n cap, e = .returned (.slice a n cap) ∧ GsK (From K w.heap.size) w' a n cap d ∧ Below w.heap.size w w'
set_option maxRecDepth 100000 in
set_option maxHeartbeats 2000000 in
theorem with_any {K : Nat → Prop} {w : World} {a : Option Addr} {len cap : Nat} {d : List Rg} (h : GsK K w a len cap d) (hlen : len ≤ 1000) (i : Nat) (hi : i < len) (g : C4) (x : Rg) (hx : ∀ W, Agree K w W → IsG W g.1 x) :
    Calls Try.prog 39 #[.slice a len cap, .int .i64 (i : Int), .agg g.1.toArray] w (GsPost K w (d.set i x)) := by
  obtain ⟨hdl, gs, htK, hg⟩ := h
  have ht := htK w (Agree.refl _ _)
  have hb0 : Below w.heap.size w (w.alloc (.cells g.1.toArray 58)) := (Below.refl _ _).alloc (Nat.le_refl _) _
  obtain ⟨i0, hi0, hz0, hz1, hz2⟩ := info_parts info_G
  have ht0 := TabR.below (Nat.le_refl _) hb0 ht
  obtain ⟨v', w2, hr9, ho9, hg9, _⟩ := run_append_tab (P := Try.prog) (w := w.alloc (.cells g.1.toArray 58)) w.heap.size 46 58 i0 _ 4 64 Try.underlying46 hi0 hz0 hz1 hz2 rfl (by decide) (World.ownsRow_nil _ _ _ _) (fun cs (y : C4) => cs = y.1) (fun y : C4 => y.1) (fun _ _ h => h) (fun y => y.2.1) (fun y => y.2.2) ht0 (by unfold maxLen; omega) (by omega) (by simp)
  simp only [Nat.zero_add, List.nil_append] at ho9
  obtain ⟨a', c', rfl, hc1, hc2, hc3⟩ := own_slice ho9
  obtain ⟨gb, rfl⟩ := hc3 (by omega)
  have hgs : gs.length = len := ht.1
  obtain ⟨⟨z, hz⟩, hg3, ht3⟩ := tab_set ho9 hgs hi g
  have hfro := fun j => ho9.frozenAt j
  obtain ⟨w3, hw3⟩ : ∃ w3, w3 = w2.setCells gb (i * 4) g.1 := ⟨_, rfl⟩
  rw [← hw3] at hg3 ht3
  have hge := own_ge ho9 gb rfl
  have hb2 : Below w.heap.size w w2 := hb0.grown hg9 (by simp) (fun k hk => by cases hk)
  have hb3 : Below w.heap.size w w3 := hb2.grown hg3 hb2.size (fun k hk => by cases hk; exact hge)
  have hbx : w2.rangeAt w.heap.size 0 g.1 := fun j v hv => by
    rw [World.cell?_of_block (hg9.block w.heap.size (by simp) (fun e => by cases e))]
    simp only [World.cell?, World.alloc_heap_new w (.cells g.1.toArray 58)]
    simpa using hv
  have END : GsPost K w (d.set i x) (.returned (.slice (some ⟨gb, 0, none⟩) len c')) w3 := by
    refine ⟨_, len, c', rfl, ?_, hb3⟩
    refine ⟨by simp [hdl], _, ht3.agree (fun b off e => by cases e; exact .inr hge), fun j u y hu hy W hW => ?_⟩
    by_cases e : j = i
    · subst e
      rw [List.getElem?_set_self (by omega)] at hu hy
      cases hu; cases hy
      exact hx W (Agree.step hb3 hW)
    · rw [List.getElem?_set_ne (fun h => e h.symm)] at hu hy
      exact hg j u y hu hy W (Agree.step hb3 hW)
  have END := Lib.hid END
  have q1 : decide ((i : Int) < len) = true := by simp; omega
  have q2 : decide (i < len) = true := by simpa using hi
  unfold maxLen at hc2
  clear ht ht0 htK hg hgs ho9 hg9 hg3 ht3 hb0 hb2 hb3 hge hx hdl hi0 hz0 hz1 hz2 hc3
  obtain ⟨gl, gl1, gl2⟩ := g
  obtain ⟨zl, zl1, zl2⟩ := z
  match gl, gl1, zl, zl1 with
  | [g0, g1, g2, g3], _, [z0, z1, z2, z3], _ =>
    have r0 : ∀ a m W, (store a g0 m).run Try.prog W = stored Try.prog W a g0 m := fun a m W => run_store Try.prog W a g0 m (gl2 g0 (by simp))
    have r1 : ∀ a m W, (store a g1 m).run Try.prog W = stored Try.prog W a g1 m := fun a m W => run_store Try.prog W a g1 m (gl2 g1 (by simp))
    have r2 : ∀ a m W, (store a g2 m).run Try.prog W = stored Try.prog W a g2 m := fun a m W => run_store Try.prog W a g2 m (gl2 g2 (by simp))
    have r3 : ∀ a m W, (store a g3 m).run Try.prog W = stored Try.prog W a g3 m := fun a m W => run_store Try.prog W a g3 m (gl2 g3 (by simp))
    have b0 := hbx 0 g0 rfl
    have b1 := hbx 1 g1 rfl
    have b2 := hbx 2 g2 rfl
    have b3 := hbx 3 g3 rfl
    have d0 := hz 0 z0 rfl
    have d1 := hz 1 z1 rfl
    have d2 := hz 2 z2 rfl
    have d3 := hz 3 z3 rfl
    have f0 := hfro (i * 4)
    have f1 := hfro (i * 4 + 1)
    have f2 := hfro (i * 4 + 2)
    have f3 := hfro (i * 4 + 3)
    simp only [Nat.zero_add, Nat.add_zero] at b0 b1 b2 b3 d0 d1 d2 d3
    have HW3 : Hid (w3 = (((w2.setCell ⟨gb, i * 4, none⟩ g0).setCell ⟨gb, i * 4 + 1, none⟩ g1).setCell ⟨gb, i * 4 + 2, none⟩ g2).setCell ⟨gb, i * 4 + 3, none⟩ g3) := Lib.hid hw3
    clear hbx hz hfro hw3
    go_enter Try.func39, Try.ntmps39
    go_wp2_with (at_builtin; refine wpList_append_run rfl _ _ _ _ rfl rfl rfl hr9 ?_)
    go_ret
    rw [← HW3.out]
    exact END.out
end Go.Proofs.Ytopnfpobbemfbaa
