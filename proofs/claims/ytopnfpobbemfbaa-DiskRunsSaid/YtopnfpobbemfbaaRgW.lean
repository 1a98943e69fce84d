/- The reference's regions: rows of records that never turn. -/
import Derived.Test.YtopnfpobbemfbaaDskG
namespace Go.Proofs.Ytopnfpobbemfbaa
open Go.RowKit

/-- The cells of a region's record. -/
abbrev C4 := { l : List Value // l.length = 4 ∧ ∀ v ∈ l, v.oneCell' = true }
/-- A loose write's cells, as the reference has it. -/
def lcells (y : Nat × P128) : List Value := [.int .i64 (y.1 : Int), .string (strOf y.2.1)]
theorem lcells_length (y : Nat × P128) : (lcells y).length = 2 := rfl
def Ls (w : World) (a : Option Addr) (len cap : Nat) (l : List (Nat × P128)) : Prop := TabR 2 (fun cs y => cs = lcells y) w a len cap l
/-- All pages, as texts. -/
def pagesL (x : Rg) : List (List UInt8) := (List.range x.size).map fun p => (x.pages p).1
theorem pagesL_length (x : Rg) : (pagesL x).length = x.size := by simp [pagesL]
def IsG (w : World) (g : List Value) (x : Rg) : Prop := ∃ pa pc la lc, g = [.slice pa x.size pc, .slice la x.loose.length lc, .int .i64 x.left, .bool x.down] ∧ Txs w pa x.size pc (pagesL x) ∧ Ls w la x.loose.length lc x.loose ∧ x.size ≤ 1000 ∧ (∀ p ∈ x.loose, p.1 < x.size) ∧ -1 ≤ x.left ∧ x.left ≤ 9223372036854775807
theorem IsG.below {B : Nat} {w w' : World} {g : List Value} {x : Rg} (h : IsG w g x) (hB : w.heap.size ≤ B) (hb : Below B w w') : IsG w' g x := by
  obtain ⟨pa, pc, la, lc, h1, h2, h3, h4⟩ := h
  exact ⟨pa, pc, la, lc, h1, TabR.below hB hb h2, TabR.below hB hb h3, h4⟩
/-- A row of regions. -/
def Gs (w : World) (a : Option Addr) (len cap : Nat) (d : List Rg) : Prop := d.length = len ∧ ∃ gs : List C4, TabR 4 (fun cs (y : C4) => cs = y.1) w a len cap gs ∧ ∀ (i : Nat) (g : C4) (x : Rg), gs[i]? = some g → d[i]? = some x → IsG w g.1 x
theorem Gs.below {B : Nat} {w w' : World} {a : Option Addr} {len cap : Nat} {d : List Rg} (h : Gs w a len cap d) (hB : w.heap.size ≤ B) (hb : Below B w w') : Gs w' a len cap d := by
  obtain ⟨h1, gs, h2, h3⟩ := h
  exact ⟨h1, gs, TabR.below hB hb h2, fun i g x hg hx => (h3 i g x hg hx).below hB hb⟩
theorem Gs.at {w : World} {a : Option Addr} {len cap : Nat} {d : List Rg} (h : Gs w a len cap d) {i : Nat} {x : Rg} (hx : d[i]? = some x) :
    ∃ b off pa pc la lc, a = some ⟨b, off, none⟩ ∧ b < w.heap.size ∧ w.cell? ⟨b, off + i * 4, none⟩ = some (.slice pa x.size pc) ∧ w.cell? ⟨b, off + i * 4 + 1, none⟩ = some (.slice la x.loose.length lc) ∧ w.cell? ⟨b, off + i * 4 + 2, none⟩ = some (.int .i64 x.left) ∧ w.cell? ⟨b, off + i * 4 + 3, none⟩ = some (.bool x.down) ∧
      Txs w pa x.size pc (pagesL x) ∧ Ls w la x.loose.length lc x.loose ∧ x.size ≤ 1000 ∧ (∀ p ∈ x.loose, p.1 < x.size) ∧ -1 ≤ x.left ∧ x.left ≤ 9223372036854775807 := by
  obtain ⟨h1, gs, h2, h3⟩ := h
  have hi : i < len := by rw [← h1]; exact (List.getElem?_eq_some_iff.1 hx).1
  obtain ⟨b, off, y, cs, e1, e2, e3, _, e5, e6⟩ := TabR.at h2 hi
  obtain ⟨pa, pc, la, lc, g1, g2, g3, g4, g5, g6⟩ := h3 i y x e3 hx
  have e7 : cs = [.slice pa x.size pc, .slice la x.loose.length lc, .int .i64 x.left, .bool x.down] := e5.trans g1
  subst e7
  exact ⟨b, off, pa, pc, la, lc, e1, e2, by simpa using e6 0 _ rfl, e6 1 _ rfl, e6 2 _ rfl, e6 3 _ rfl, g2, g3, g4, g5, g6⟩
/-- Worlds that agree on some blocks. -/
def Agree (K : Nat → Prop) (w W : World) : Prop := w.heap.size ≤ W.heap.size ∧ ∀ k o, K k → w.heap[k]? = some o → W.heap[k]? = some o
theorem Agree.refl (K : Nat → Prop) (w : World) : Agree K w w := ⟨Nat.le_refl _, fun _ _ _ h => h⟩
theorem Agree.trans {K : Nat → Prop} {w1 w2 w3 : World} (h : Agree K w1 w2) (h2 : Agree K w2 w3) : Agree K w1 w3 := ⟨Nat.le_trans h.1 h2.1, fun k o hk ho => h2.2 k o hk (h.2 k o hk ho)⟩
theorem Agree.mono {K K2 : Nat → Prop} {w W : World} (h : Agree K2 w W) (hK : ∀ k, K k → K2 k) : Agree K w W := ⟨h.1, fun k o hk ho => h.2 k o (hK k hk) ho⟩
theorem agree_below {K : Nat → Prop} {w w' : World} (hb : Below w.heap.size w w') : Agree K w w' :=
  ⟨hb.size, fun k o _ ho => by rw [hb.block k (Array.getElem?_eq_some_iff.1 ho).1]; exact ho⟩
/-- Some blocks, and all from one on. -/
def From (K : Nat → Prop) (B : Nat) (k : Nat) : Prop := K k ∨ B ≤ k
theorem Agree.step {K : Nat → Prop} {w w' W : World} (hb : Below w.heap.size w w') (h : Agree (From K w.heap.size) w' W) : Agree K w W := (agree_below hb).trans (h.mono fun _ hk => .inl hk)
theorem TabR.agree {α : Type} {sz : Nat} {R : List Value → α → Prop} {w : World} {a : Option Addr} {len cap : Nat} {l : List α} (h : TabR sz R w a len cap l) {K : Nat → Prop} (hK : ∀ b off, a = some ⟨b, off, none⟩ → K b) : ∀ W, Agree K w W → TabR sz R W a len cap l := by
  intro W hW
  obtain ⟨h1, h2, h3, hn, h4⟩ := h
  refine ⟨h1, h2, h3, hn, ?_⟩
  rcases h4 with h4 | ⟨b, off, h5, h6, h7⟩
  · exact .inl h4
  · have hbk : W.heap[b]? = w.heap[b]? := by
      rw [Array.getElem?_eq_getElem h6]
      exact hW.2 b _ (hK b off h5) (Array.getElem?_eq_getElem h6)
    exact .inr ⟨b, off, h5, by have := hW.1; omega, fun i y hy => by
      obtain ⟨cs, c1, c2, c3⟩ := h7 i y hy
      exact ⟨cs, c1, c2, fun j v hv => (World.cell?_of_block hbk).trans (c3 j v hv)⟩⟩
/-- A row of regions that stands on some blocks alone. -/
def GsK (K : Nat → Prop) (w : World) (a : Option Addr) (len cap : Nat) (d : List Rg) : Prop := d.length = len ∧ ∃ gs : List C4, (∀ W, Agree K w W → TabR 4 (fun cs (y : C4) => cs = y.1) W a len cap gs) ∧ ∀ (i : Nat) (g : C4) (x : Rg), gs[i]? = some g → d[i]? = some x → ∀ W, Agree K w W → IsG W g.1 x
theorem GsK.gs {K : Nat → Prop} {w : World} {a : Option Addr} {len cap : Nat} {d : List Rg} (h : GsK K w a len cap d) : Gs w a len cap d := by
  obtain ⟨h1, gs, h2, h3⟩ := h
  exact ⟨h1, gs, h2 w (Agree.refl _ _), fun i g x hg hx => h3 i g x hg hx w (Agree.refl _ _)⟩
theorem GsK.agree {K : Nat → Prop} {w w' : World} {a : Option Addr} {len cap : Nat} {d : List Rg} (h : GsK K w a len cap d) (hA : Agree K w w') : GsK K w' a len cap d := by
  obtain ⟨h1, gs, h2, h3⟩ := h
  exact ⟨h1, gs, fun W hW => h2 W (hA.trans hW), fun i g x hg hx W hW => h3 i g x hg hx W (hA.trans hW)⟩
theorem GsK.below {K : Nat → Prop} {w w' : World} {a : Option Addr} {len cap : Nat} {d : List Rg} (h : GsK K w a len cap d) (hb : Below w.heap.size w w') : GsK K w' a len cap d := h.agree (agree_below hb)
theorem GsK.mono {K K2 : Nat → Prop} {w : World} {a : Option Addr} {len cap : Nat} {d : List Rg} (h : GsK K w a len cap d) (hK : ∀ k, K k → K2 k) : GsK K2 w a len cap d := by
  obtain ⟨h1, gs, h2, h3⟩ := h
  exact ⟨h1, gs, fun W hW => h2 W (hW.mono hK), fun i g x hg hx W hW => h3 i g x hg hx W (hW.mono hK)⟩
theorem GsK.at {K : Nat → Prop} {w : World} {a : Option Addr} {len cap : Nat} {d : List Rg} (h : GsK K w a len cap d) {i : Nat} {x : Rg} (hx : d[i]? = some x) :
    ∃ b off pa pc la lc, a = some ⟨b, off, none⟩ ∧ b < w.heap.size ∧ w.cell? ⟨b, off + i * 4, none⟩ = some (.slice pa x.size pc) ∧ w.cell? ⟨b, off + i * 4 + 1, none⟩ = some (.slice la x.loose.length lc) ∧ w.cell? ⟨b, off + i * 4 + 2, none⟩ = some (.int .i64 x.left) ∧ w.cell? ⟨b, off + i * 4 + 3, none⟩ = some (.bool x.down) ∧
      (∀ W, Agree K w W → Txs W pa x.size pc (pagesL x)) ∧ (∀ W, Agree K w W → Ls W la x.loose.length lc x.loose) ∧ x.size ≤ 1000 ∧ (∀ p ∈ x.loose, p.1 < x.size) ∧ -1 ≤ x.left ∧ x.left ≤ 9223372036854775807 := by
  obtain ⟨h1, gs, h2, h3⟩ := h
  have hi : i < len := by rw [← h1]; exact (List.getElem?_eq_some_iff.1 hx).1
  obtain ⟨b, off, y, cs, e1, e2, e3, _, e5, e6⟩ := TabR.at (h2 w (Agree.refl _ _)) hi
  obtain ⟨pa, pc, la, lc, g1, g2, g3, g4, g5, g6⟩ := h3 i y x e3 hx w (Agree.refl _ _)
  have e7 : cs = [.slice pa x.size pc, .slice la x.loose.length lc, .int .i64 x.left, .bool x.down] := e5.trans g1
  have hW : ∀ W, Agree K w W → Txs W pa x.size pc (pagesL x) ∧ Ls W la x.loose.length lc x.loose := by
    intro W hW
    obtain ⟨pa', pc', la', lc', k1, k2, k3, _⟩ := h3 i y x e3 hx W hW
    have := g1.symm.trans k1
    simp only [List.cons.injEq, Value.slice.injEq] at this
    obtain ⟨⟨rfl, _, rfl⟩, ⟨rfl, _, rfl⟩, _⟩ := this
    exact ⟨k2, k3⟩
  subst e7
  exact ⟨b, off, pa, pc, la, lc, e1, e2, by simpa using e6 0 _ rfl, e6 1 _ rfl, e6 2 _ rfl, e6 3 _ rfl, fun W h => (hW W h).1, fun W h => (hW W h).2, g4, g5, g6⟩
/-- What may not be asked. -/
def refE (d : List Rg) (r p : Int) (asked : Bool) : Int := if asked then pagedE d r p else upE d r
set_option maxRecDepth 100000 in
set_option maxHeartbeats 2000000 in
theorem rup_any {w : World} {a : Option Addr} {len cap : Nat} {d : List Rg} (h : Gs w a len cap d) (hlen : len ≤ 9223372036854775807) (r p : Int) (asked : Bool) :
    Calls Try.prog 37 #[.slice a len cap, .int .i64 r, .int .i64 p, .bool asked] w fun e w' => e = .returned (.int .i64 (refE d r p asked)) ∧ w = w' := by
  have hl := h.1
  by_cases h0 : r < 0
  · have q0 : decide (r < 0) = true := by simpa using h0
    have HE : Hid (refE d r p asked = 2) := Lib.hid (by
      have hu : upE d r = 2 := by unfold upE; rw [if_neg (by omega)]
      unfold refE pagedE; rw [hu]; simp)
    clear h0 h hl
    go_enter Try.func37, Try.ntmps37
    go_wp2_with fail
    go_ret
    exact ⟨ret_int HE.out.symm, rfl⟩
  · obtain ⟨i, rfl⟩ := Int.eq_ofNat_of_zero_le (show 0 ≤ r by omega)
    have q0 : decide ((i : Int) < 0) = false := by simp
    by_cases h1 : i < len
    · obtain ⟨x, hx⟩ : ∃ x, d[i]? = some x := ⟨_, List.getElem?_eq_getElem (by omega)⟩
      obtain ⟨b, off, pa, pc, la, lc, rfl, hb, c0, c1, c2, c3, g2, g3, g4, g5, g6⟩ := h.at hx
      have q1 : decide (len ≤ i) = false := by simp; omega
      have hu : upE d (i : Int) = if x.down then 3 else 0 := by
        unfold upE; rw [if_pos (by omega), Int.toNat_natCast, hx]; rfl
      have hp : pagedE d (i : Int) p = if x.down then 3 else if 0 ≤ p ∧ p < x.size then 0 else 2 := by
        unfold pagedE; rw [hu, atR_of hx]
        cases x.down <;> simp
      cases hd : x.down with
      | true =>
        rw [hd] at c3
        have HE : Hid (refE d (i : Int) p asked = 3) := Lib.hid (by unfold refE; rw [hu, hp, hd]; simp)
        clear hu hp hd h hl hx g2 g3 g5 g6 h0
        go_enter Try.func37, Try.ntmps37
        go_wp2_with fail
        go_ret
        exact ⟨ret_int HE.out.symm, rfl⟩
      | false =>
        rw [hd] at c3
        cases asked with
        | false =>
          have HE : Hid (refE d (i : Int) p false = 0) := Lib.hid (by unfold refE; rw [hu, hd]; simp)
          clear hu hp hd h hl hx g2 g3 g5 g6 h0
          go_enter Try.func37, Try.ntmps37
          go_wp2_with fail
          go_ret
          exact ⟨ret_int HE.out.symm, rfl⟩
        | true =>
          by_cases p0 : p < 0
          · have q2 : decide (p < 0) = true := by simpa using p0
            have HE : Hid (refE d (i : Int) p true = 2) := Lib.hid (by unfold refE; rw [hp, hd]; simp; omega)
            clear hu hp hd h hl hx g2 g3 g5 g6 h0
            go_enter Try.func37, Try.ntmps37
            go_wp2_with fail
            go_ret
            exact ⟨ret_int HE.out.symm, rfl⟩
          · have q2 : decide (p < 0) = false := by simpa using p0
            by_cases p1 : p < x.size
            · have q3 : decide ((x.size : Int) ≤ p) = false := by simpa using p1
              have HE : Hid (refE d (i : Int) p true = 0) := Lib.hid (by unfold refE; rw [hp, hd]; simp; omega)
              clear hu hp hd h hl hx g2 g3 g5 g6 h0
              go_enter Try.func37, Try.ntmps37
              go_wp2_with fail
              go_ret
              exact ⟨ret_int HE.out.symm, rfl⟩
            · have q3 : decide ((x.size : Int) ≤ p) = true := by simp; omega
              have HE : Hid (refE d (i : Int) p true = 2) := Lib.hid (by unfold refE; rw [hp, hd]; simp; omega)
              clear hu hp hd h hl hx g2 g3 g5 g6 h0
              go_enter Try.func37, Try.ntmps37
              go_wp2_with fail
              go_ret
              exact ⟨ret_int HE.out.symm, rfl⟩
    · have q1 : decide (len ≤ i) = true := by simp; omega
      have HE : Hid (refE d (i : Int) p asked = 2) := Lib.hid (by
        have hu : upE d (i : Int) = 2 := by unfold upE; rw [if_neg (by omega)]
        unfold refE pagedE; rw [hu]; simp)
      clear h0 h hl
      go_enter Try.func37, Try.ntmps37
      go_wp2_with fail
      go_ret
      exact ⟨ret_int HE.out.symm, rfl⟩
end Go.Proofs.Ytopnfpobbemfbaa
