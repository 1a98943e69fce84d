/- The law DiskRefuses: plain. -/
import Derived.Test.YtopnfpobbemfbaaDskG
namespace Go.Proofs.Ytopnfpobbemfbaa
open Go.RowKit

/-- A region that stops behind so many writes, of which so many came. -/
def RfGood (A n : Nat) (d : List Rg) : Prop := ∃ x : Rg, d = [x] ∧ x.size = 4 ∧ (n ≤ A → x.down = false ∧ x.left = ((A - n : Nat) : Int) ∧ x.loose.length = n) ∧ (A < n → x.down = true ∧ x.loose.length = A)
theorem rfGood_new (A : Nat) : RfGood A 0 (stopD (newD [4]) 0 (A : Int)) := by
  refine ⟨{ Rg.new 4 with left := max (A : Int) (-1) }, rfl, rfl, fun _ => ⟨rfl, ?_, rfl⟩, fun h => by omega⟩
  show max (A : Int) (-1) = _
  omega
theorem rf_may {A n : Nat} {d : List Rg} (h : RfGood A n d) (p : Int) (b : List UInt8) (hp : 0 ≤ p ∧ p < 4) (hb : b.length = 128) : (writeE d 0 p b = if n < A then 0 else 3) ∧ RfGood A (n + 1) (writeD d 0 p b) := by
  obtain ⟨x, rfl, hs, h1, h2⟩ := h
  by_cases hn : n ≤ A
  · obtain ⟨g1, g2, g3⟩ := h1 hn
    have hu : pagedE [x] 0 p = 0 := by
      simp [pagedE, upE, atR, g1, hs]; omega
    have hE : writeE [x] 0 p b = cntE x := by rw [writeE, if_pos hu, if_pos hb]; simp [atR]
    have hD : writeD [x] 0 p b = [wroteR x p.toNat (toP b)] := by
      rw [writeD, if_pos ⟨hu, hb⟩]; simp [atR]
    rw [hE, hD]
    by_cases hA : n < A
    · have hc : cntE x = 0 := by rw [cntE, if_neg (by omega)]
      have hw : wroteR x p.toNat (toP b) = { x with left := x.left - 1, loose := x.loose ++ [(p.toNat, toP b)] } := by
        rw [wroteR, if_pos hc, cntR, if_neg (by omega), if_pos (by omega)]
      rw [hc, if_pos hA, hw]
      exact ⟨rfl, _, rfl, hs, fun h => ⟨g1, by simp only; omega, by simp; omega⟩, fun h => by omega⟩
    · have hc : cntE x = 3 := by rw [cntE, if_pos (by omega)]
      have hw : wroteR x p.toNat (toP b) = { x with down := true } := by
        rw [wroteR, if_neg (by omega), cntR, if_pos (by omega)]
      rw [hc, if_neg hA, hw]
      exact ⟨rfl, _, rfl, hs, fun h => by omega, fun h => ⟨rfl, by simp only; omega⟩⟩
  · obtain ⟨g1, g2⟩ := h2 (by omega)
    have hu : pagedE [x] 0 p = 3 := by
      simp [pagedE, upE, g1]
    have hE : writeE [x] 0 p b = 3 := by rw [writeE, if_neg (by omega), hu]
    have hD : writeD [x] 0 p b = [x] := by rw [writeD, if_neg (by omega)]
    rw [hE, hD, if_neg (by omega)]
    exact ⟨rfl, x, rfl, hs, fun h => by omega, fun h => ⟨g1, g2⟩⟩
theorem rf_not {A n : Nat} {d : List Rg} (h : RfGood A n d) (r p : Int) (b : List UInt8) (hn : ¬ (r = 0 ∧ (0 ≤ p ∧ p < 4) ∧ b.length = 128)) : writeE d r p b ≠ 0 ∧ RfGood A n (writeD d r p b) := by
  have hg := h
  obtain ⟨x, rfl, hs, h1, h2⟩ := h
  have hD : writeD [x] r p b = [x] := by
    unfold writeD
    rw [if_neg]
    rintro ⟨hu, hb⟩
    obtain ⟨i, pn, x', rfl, rfl, hx, _, hpn⟩ := pagedE_zero hu
    have hi := (List.getElem?_eq_some_iff.1 hx).1
    simp at hi; subst hi
    simp at hx; subst hx
    exact hn ⟨rfl, ⟨by omega, by omega⟩, hb⟩
  refine ⟨fun hE => ?_, by rw [hD]; exact hg⟩
  unfold writeE at hE
  split at hE
  · rename_i hu
    split at hE
    · rename_i hb
      obtain ⟨i, pn, x', rfl, rfl, hx, _, hpn⟩ := pagedE_zero hu
      have hi := (List.getElem?_eq_some_iff.1 hx).1
      simp at hi; subst hi
      simp at hx; subst hx
      exact hn ⟨rfl, ⟨by omega, by omega⟩, hb⟩
    · cases hE
  · rename_i hu; exact hu hE
theorem pageB_length (y : Stp) : (pageB y).length = if y.short then 127 else 128 := by unfold pageB; rw [fillL_length]
theorem rf_read {A n : Nat} {d : List Rg} (h : RfGood A n d) : pagedE d 0 0 = if n ≤ A then 0 else 3 := by
  obtain ⟨x, rfl, hs, h1, h2⟩ := h
  by_cases hn : n ≤ A
  · obtain ⟨g1, g2, g3⟩ := h1 hn
    rw [if_pos hn]; simp [pagedE, upE, atR, g1, hs]
  · obtain ⟨g1, g2⟩ := h2 (by omega)
    rw [if_neg hn]; simp [pagedE, upE, g1]
theorem rf_loose {A n : Nat} {d : List Rg} (h : RfGood A n d) : ∃ x, d[0]? = some x ∧ (x.loose.map (·.1)).length = min n A := by
  obtain ⟨x, rfl, hs, h1, h2⟩ := h
  refine ⟨x, rfl, ?_⟩
  rw [List.length_map]
  by_cases hn : n ≤ A
  · rw [(h1 hn).2.2]; omega
  · rw [(h2 (by omega)).2]; omega
theorem OneK.addV {B : Nat} {K : List Nat} {w w' : World} {da M : Nat} {d : List Rg} (h : OneK B K w da M d) (hb : Below w.heap.size w w') {base : Nat} {e : TypeId} {v : Value} {n : Nat} {xs : List Value} (ho : w'.ownsRow base e 1 v n xs) (hB : w.heap.size ≤ base) : OneK B (v.ownBlock.toList ++ K) w' da M d := by
  cases hv : v.ownBlock with
  | none => exact h.below hb
  | some g => exact h.add hb g (Nat.le_trans hB (own_ge ho g hv)) (own_lt ho g hv)
/-- A cell of a block that is another's is written. -/
theorem OneK.set {B : Nat} {K : List Nat} {w : World} {da M : Nat} {d : List Rg} (h : OneK B K w da M d) (a : Addr) (u : Value) (ha : a.block ∈ K) : OneK B K (w.setCell a u) da M d := by
  obtain ⟨F, bs, h1, h2, h3, h4⟩ := h
  have ho : Only [a.block] w (w.setCell a u) := (Only.refl _ _).set a u (by simp)
  exact ⟨F, bs, h1.only ho (fun k hk hk2 => by simp at hk2; subst hk2; exact (h2 _ hk).2 ha), h2, by simpa [World.setCell] using h3, fun k hk => by simpa [World.setCell] using h4 k hk⟩
/-- A step's cells, its flag told. -/
def scellsS (y : Stp) (sh : Bool) : List Value := [.int .i64 y.kind, .int .i64 y.region, .int .i64 y.page, .int .u8 (y.fill.toNat : Int), .bool sh, .slice y.ka y.kl y.kc]
theorem stp_cellsS {W : World} {bx : Nat} {y : Stp} {sh : Bool} {l : List (Nat × List Value)} (h : Boxes W ((bx, scellsS y sh) :: l)) : W.cell? ⟨bx, 0, none⟩ = some (.int .i64 y.kind) ∧ W.cell? ⟨bx, 1, none⟩ = some (.int .i64 y.region) ∧ W.cell? ⟨bx, 2, none⟩ = some (.int .i64 y.page) ∧ W.cell? ⟨bx, 3, none⟩ = some (.int .u8 (y.fill.toNat : Int)) ∧ W.cell? ⟨bx, 4, none⟩ = some (.bool sh) ∧ W.cell? ⟨bx, 5, none⟩ = some (.slice y.ka y.kl y.kc) :=
  ⟨h.cell 0 0 rfl rfl, h.cell 0 1 rfl rfl, h.cell 0 2 rfl rfl, h.cell 0 3 rfl rfl, h.cell 0 4 rfl rfl, h.cell 0 5 rfl rfl⟩
theorem page_litS (y : Stp) (sh : Bool) (h : y.short = sh) (W : World) : Calls Try.prog 11 #[.agg #[.int .i64 y.kind, .int .i64 y.region, .int .i64 y.page, .int .u8 (y.fill.toNat : Int), .bool sh, .slice y.ka y.kl y.kc]] W (OwnBytes 5 W (pageB y)) := by subst h; exact page_any y W
theorem rf_may0 {A n : Nat} {d : List Rg} (h : RfGood A n d) (r p : Int) (b : List UInt8) (hr : r = 0) (hp : 0 ≤ p ∧ p < 4) (hb : b.length = 128) : (writeE d r p b = if n < A then 0 else 3) ∧ RfGood A (n + 1) (writeD d r p b) := by subst hr; exact rf_may h p b hp hb
theorem row_sole (W : World) (n : Int) : Row .i64 (W.alloc (.cells #[.int .i64 n] 3)) (some ⟨W.heap.size, 0, none⟩) 1 1 [n] := Row.made .i64 W 3 [n] rfl (by unfold maxLen; simp)
end Go.Proofs.Ytopnfpobbemfbaa
