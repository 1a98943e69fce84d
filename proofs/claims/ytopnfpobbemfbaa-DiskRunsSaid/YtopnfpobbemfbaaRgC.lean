/- The reference's regions: rows of fresh regions (New, Crash). -/
import Derived.Test.YtopnfpobbemfbaaRgT
namespace Go.Proofs.Ytopnfpobbemfbaa
open Go.RowKit

/-- A fresh region's record: its pages are a row of the call's own, nothing is loose. -/
def IsGo (B : Nat) (w : World) (g : List Value) (x : Rg) : Prop := ∃ pa pc, g = [.slice pa x.size pc, .slice none 0 0, .int .i64 x.left, .bool x.down] ∧ w.ownsRow B 9 1 (.slice pa x.size pc) x.size ((pagesL x).map strV) ∧ x.loose = [] ∧ x.size ≤ 1000 ∧ -1 ≤ x.left ∧ x.left ≤ 9223372036854775807
theorem IsGo.isG {B : Nat} {w : World} {g : List Value} {x : Rg} (h : IsGo B w g x) : IsG w g x := by
  obtain ⟨pa, pc, h1, h2, h3, h4, h5⟩ := h
  obtain ⟨a, cap, e, ht⟩ := txs_own2 (ks := pagesL x) (by rw [pagesL_length]; exact h2)
  rw [pagesL_length] at e ht
  cases e
  refine ⟨pa, pc, none, 0, by rw [h1, h3]; rfl, ht, ?_, h4, by rw [h3]; simp, h5⟩
  rw [h3]
  exact ⟨rfl, Nat.le_refl _, by unfold maxLen; simp, fun _ => rfl, .inl rfl⟩
/-- Rows of two element types lie apart. -/
theorem own_apart_types {w : World} {b1 b2 : Nat} {e1 e2 : TypeId} {s1 s2 : Nat} {v1 v2 : Value} {n1 n2 : Nat} {xs ys : List Value} (h1 : w.ownsRow b1 e1 s1 v1 n1 xs) (h2 : w.ownsRow b2 e2 s2 v2 n2 ys) (hne : e1 ≠ e2) : ∀ k, v1.ownBlock = some k → v2.ownBlock ≠ some k := by
  intro k hk hk2
  rcases h1.2 with ⟨e, _⟩ | ⟨g, cap, cur, e, _, hg, _⟩
  · rw [e] at hk; cases hk
  · rcases h2.2 with ⟨e', _⟩ | ⟨g', cap', cur', e', _, hg', _⟩
    · rw [e'] at hk2; cases hk2
    · rw [e] at hk; rw [e'] at hk2
      cases hk; cases hk2
      rw [hg] at hg'
      simp only [Option.some.injEq, Obj.cells.injEq] at hg'
      exact hne hg'.2.1
theorem own_grown {w w' : World} {base : Nat} {e : TypeId} {size : Nat} {v : Value} {n : Nat} {xs : List Value} {row : Option Nat} (h : w.ownsRow base e size v n xs) (hg : w.grownBy w' row) (hne : ∀ k, v.ownBlock = some k → row ≠ some k) : w'.ownsRow base e size v n xs := by
  refine ⟨h.1, h.2.imp id fun ⟨g, cap, cur, e1, hg1, hh, r⟩ => ⟨g, cap, cur, e1, hg1, ?_, r⟩⟩
  subst e1
  rw [hg.block g (Array.getElem?_eq_some_iff.1 hh).1 (fun e => hne g rfl e.symm)]; exact hh
/-- A row of fresh regions of the call's own. -/
def GOwn (B : Nat) (wr : World) (v : Value) (dd : List Rg) : Prop := ∃ gs : List C4, gs.length = dd.length ∧ wr.ownsRow B 58 4 v dd.length (gs.flatMap (·.1)) ∧ ∀ (i : Nat) (g : C4) (x : Rg), gs[i]? = some g → dd[i]? = some x → IsGo B wr g.1 x
theorem GOwn.nil (B : Nat) (w : World) : GOwn B w (.slice none 0 0) [] := ⟨[], rfl, World.ownsRow_nil _ _ _ _, fun i g x h => by simp at h⟩
theorem GOwn.below {B : Nat} {w w' : World} {v : Value} {dd : List Rg} (h : GOwn B w v dd) (hb : Below w.heap.size w w') : GOwn B w' v dd := by
  obtain ⟨gs, h1, h2, h3⟩ := h
  refine ⟨gs, h1, own_step h2 hb, fun i g x hg hx => ?_⟩
  obtain ⟨pa, pc, e1, e2, e3⟩ := h3 i g x hg hx
  exact ⟨pa, pc, e1, own_step e2 hb, e3⟩
theorem GOwn.gs {B : Nat} {w : World} {v : Value} {dd : List Rg} (h : GOwn B w v dd) : ∃ a cap, v = .slice a dd.length cap ∧ Gs w a dd.length cap dd := by
  obtain ⟨gs, h1, h2, h3⟩ := h
  obtain ⟨a, cap, e, ht⟩ := TabR.of_own (fun z : C4 => z.1) (fun z => z.2.1) (R := fun cs (z : C4) => cs = z.1) (fun _ => rfl) (l := gs) (by rw [h1]; exact h2)
  rw [h1] at e ht
  exact ⟨a, cap, e, rfl, gs, ht, fun i g x hg hx => (h3 i g x hg hx).isG⟩
theorem own_agree {w W : World} {B : Nat} {e : TypeId} {size : Nat} {v : Value} {n : Nat} {xs : List Value} (h : w.ownsRow B e size v n xs) (hA : Agree (From (fun _ => False) B) w W) : W.ownsRow B e size v n xs :=
  ⟨h.1, h.2.imp id fun ⟨g, cap, cur, e1, hg1, hh, r⟩ => ⟨g, cap, cur, e1, hg1, hA.2 g _ (.inr hg1) hh, r⟩⟩
/-- It stands on the call's own blocks. -/
theorem GOwn.gsK {B : Nat} {w : World} {v : Value} {dd : List Rg} (h : GOwn B w v dd) : ∃ a cap, v = .slice a dd.length cap ∧ GsK (From (fun _ => False) B) w a dd.length cap dd := by
  obtain ⟨gs, h1, h2, h3⟩ := h
  obtain ⟨a, cap, e, _⟩ := TabR.of_own (fun z : C4 => z.1) (fun z => z.2.1) (R := fun cs (z : C4) => cs = z.1) (fun _ => rfl) (l := gs) (by rw [h1]; exact h2)
  rw [h1] at e
  refine ⟨a, cap, e, rfl, gs, fun W hW => ?_, fun i g x hg hx W hW => ?_⟩
  · obtain ⟨a', cap', e', ht⟩ := TabR.of_own (fun z : C4 => z.1) (fun z => z.2.1) (R := fun cs (z : C4) => cs = z.1) (fun _ => rfl) (l := gs) (by rw [h1]; exact own_agree h2 hW)
    rw [h1] at e' ht
    rw [e] at e'
    cases e'
    exact ht
  · obtain ⟨pa, pc, k1, k2, k3⟩ := h3 i g x hg hx
    exact IsGo.isG (B := B) ⟨pa, pc, k1, own_agree k2 hW, k3⟩
/-- One region more. -/
theorem GOwn.push {w : World} {B : Nat} {v : Value} {dd : List Rg} (h : GOwn B w v dd) (hdd : dd.length ≤ 1000) (hB : B ≤ w.heap.size) (g : C4) (x : Rg) (hg : IsGo B w g.1 x) :
    ∃ v' w', (Builtin.append_ #[46, 46] 46 #[v, .slice (some ⟨w.heap.size, 0, none⟩) 1 1]).run Try.prog (w.alloc (.cells g.1.toArray 58)) = .ok v' w' ∧ GOwn B w' v' (dd ++ [x]) ∧ w.grownBy w' v.ownBlock ∧ ∀ k, v.ownBlock = some k → B ≤ k := by
  obtain ⟨gs, h1, h2, h3⟩ := h
  obtain ⟨i0, hi0, hz0, hz1, hz2⟩ := info_parts info_G
  obtain ⟨v', w', hr, ho, hgr, _⟩ := run_append_new (P := Try.prog) (w := w) B 46 58 i0 _ 4 64 Try.underlying46 hi0 hz0 hz1 hz2 rfl (by decide) h2 g.1.toArray (by simp [g.2.1]) (fun u hu => g.2.2 u (by simpa using hu)) (by unfold maxLen; omega) (by omega) hB
  have hge := own_ge h2
  have keep : ∀ (g : List Value) (x : Rg), IsGo B w g x → IsGo B w' g x := by
    rintro g x ⟨pa, pc, e1, e2, e3⟩
    exact ⟨pa, pc, e1, own_grown e2 hgr (own_apart_types e2 h2 (by decide)), e3⟩
  refine ⟨v', w', hr, ⟨gs ++ [g], by simp [h1], ?_, fun i g' x' hg' hx' => ?_⟩, hgr, hge⟩
  · rw [List.flatMap_append, List.length_append]
    simpa using ho
  · by_cases hi : i < gs.length
    · rw [List.getElem?_append_left hi] at hg'
      rw [List.getElem?_append_left (by omega)] at hx'
      exact keep _ _ (h3 i g' x' hg' hx')
    · have hil : i = gs.length := by
        have := (List.getElem?_eq_some_iff.1 hg').1; simp at this; omega
      subst hil
      rw [List.getElem?_append_right (Nat.le_refl _), Nat.sub_self] at hg'
      rw [h1, List.getElem?_append_right (Nat.le_refl _), Nat.sub_self] at hx'
      simp at hg' hx'
      subst hg' hx'
      exact keep _ _ hg
end Go.Proofs.Ytopnfpobbemfbaa
