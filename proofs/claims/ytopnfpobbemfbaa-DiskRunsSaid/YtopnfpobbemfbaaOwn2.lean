/- Rows of records of the call's own: appended to by rows, written into. -/
import Derived.Test.YtopnfpobbemfbaaOwn
namespace Go.Proofs.Ytopnfpobbemfbaa
open Go.RowKit

section
variable {P : Program}
/-- 'append' of a row of records to one of the call's own. -/
theorem run_append_tab {α : Type} {w : World} (base : Nat) (t e : TypeId) (i : TypeInfo) (z : Value) (sz bytes : Nat) (ht : P.underlying t = some (.slice e)) (hi : P.info? e = some i) (hz : i.zero = some z)
    (hsize : i.size = sz) (hby : i.bytes = bytes) (hzs : z.cells.size = sz) (hsz : 0 < sz) {v : Value} {n : Nat} {xs : List Value} (hown : w.ownsRow base e sz v n xs)
    (R : List Value → α → Prop) (f : α → List Value) (hR : ∀ cs y, R cs y → cs = f y) (hf : ∀ y, (f y).length = sz) (h1 : ∀ y, ∀ u ∈ f y, u.oneCell' = true)
    {a : Option Addr} {m c : Nat} {l : List α} (hrow : TabR sz R w a m c l) (h63 : n + m ≤ maxLen) (hbytes : (n + m) * bytes ≤ 140737488355328) (hbase : base ≤ w.heap.size) :
    ∃ v' w', (Builtin.append_ #[t, t] t #[v, .slice a m c]).run P w = .ok v' w' ∧ AppOut w base e sz v (n + m) (xs ++ l.flatMap f) w.heap.size v' w' := by
  obtain ⟨g1, g2, g3, hn, g4⟩ := hrow
  cases a with
  | none =>
    have hc := hn rfl
    have hm : m = 0 := by omega
    subst hc hm
    obtain rfl : l = [] := List.eq_nil_of_length_eq_zero g1
    exact ⟨v, w, run_append_owned_none w base t t e i sz ht hi v n xs hown, by simpa using hown, World.grownBy.refl w _, .inl rfl⟩
  | some ad =>
    have hlen := flat_len f sz hf l
    obtain ⟨v', w', hr, h5, h6, _, h7⟩ := run_append_own_at (P := P) w base t t e i z sz bytes ht hi hz hsize hby hzs hsz v n xs hown ad m c (l.flatMap f) (by rw [hlen, g1]) (by
      intro j u hj
      have hjl := (List.getElem?_eq_some_iff.1 hj).1
      rw [hlen] at hjl
      rcases g4 with g4 | ⟨b, off, h5, h6, h7⟩
      · rw [g1, g4] at hjl; omega
      · cases h5
        have ea : (⟨b, off, none⟩ : Addr).add j = ⟨b, off + j, none⟩ := by
          unfold Addr.add; split <;> simp_all
        have hq : j / sz < l.length := Nat.div_lt_of_lt_mul (by rw [Nat.mul_comm]; exact hjl)
        obtain ⟨y, hy⟩ : ∃ y, l[j / sz]? = some y := ⟨_, List.getElem?_eq_getElem hq⟩
        obtain ⟨cs, c1, c2, c3⟩ := h7 _ y hy
        have hcs := hR _ _ c2
        subst hcs
        have hm : j % sz < sz := Nat.mod_lt _ hsz
        obtain ⟨u', hu'⟩ : ∃ u', (f y)[j % sz]? = some u' := ⟨_, List.getElem?_eq_getElem (by rw [hf]; exact hm)⟩
        have hx := flat_get f sz hf l _ y _ u' hy hu'
        have hdm : j / sz * sz + j % sz = j := by rw [Nat.mul_comm]; exact Nat.div_add_mod j sz
        rw [hdm, hj] at hx
        cases hx
        rw [ea]
        have := c3 _ u hu'
        rwa [Nat.add_assoc, hdm] at this) (fun u hu => by
          obtain ⟨y, _, hy⟩ := List.mem_flatMap.1 hu
          exact h1 y u hy) h63 hbytes hbase
    exact ⟨v', w', hr, h5, h6, h7⟩
end

/-- A cell of a row of the call's own is written. -/
theorem own_put {w : World} {base : Nat} {e : TypeId} {size : Nat} {g n cap : Nat} {xs : List Value} (h : w.ownsRow base e size (.slice (some ⟨g, 0, none⟩) n cap) n xs) (j : Nat) (u : Value) (_hj : j < n * size) :
    (w.setCell ⟨g, j, none⟩ u).ownsRow base e size (.slice (some ⟨g, 0, none⟩) n cap) n (xs.set j u) := by
  obtain ⟨h1, h2⟩ := h
  refine ⟨by rw [List.length_set]; exact h1, .inr ?_⟩
  rcases h2 with ⟨hv, _⟩ | ⟨g', cap', cur, hv, hb, hg, hn, hm, hc, ht⟩
  · cases hv
  · cases hv
    refine ⟨g, cap, cur.setIfInBounds j u, rfl, hb, heap_setCell_at j u hg, hn, hm, by simpa using hc, ?_⟩
    rw [← ht, Array.toList_setIfInBounds, List.take_set]
theorem flat_parts {α β : Type} (f : α → List β) (sz : Nat) (hf : ∀ y, (f y).length = sz) {l : List α} {k : Nat} {x : α} (h : l[k]? = some x) :
    ∃ p s, p.length = k * sz ∧ l.flatMap f = p ++ (f x ++ s) ∧ ∀ y, (l.set k y).flatMap f = p ++ (f y ++ s) := by
  have hk := (List.getElem?_eq_some_iff.1 h).1
  have hl : l = l.take k ++ x :: l.drop (k + 1) := by
    have hx := (List.getElem?_eq_some_iff.1 h).2
    rw [← hx]; simp
  refine ⟨(l.take k).flatMap f, (l.drop (k + 1)).flatMap f, by rw [flat_len f sz hf, List.length_take, Nat.min_eq_left (by omega)], ?_, fun y => ?_⟩
  · conv => lhs; rw [hl]
    rw [List.flatMap_append, List.flatMap_cons]
  · rw [List.set_eq_take_append_cons_drop, if_pos hk, List.flatMap_append, List.flatMap_cons]
theorem set_five {β : Type} {p s : List β} {n : Nat} (hp : p.length = n) (a0 a1 a2 a3 a4 b0 b1 b2 b3 b4 : β) :
    (((((p ++ ([a0, a1, a2, a3, a4] ++ s)).set n b0).set (n + 1) b1).set (n + 2) b2).set (n + 3) b3).set (n + 4) b4 = p ++ ([b0, b1, b2, b3, b4] ++ s) := by
  subst hp
  simp
end Go.Proofs.Ytopnfpobbemfbaa
