/- The walks of the chapter on disks: pages asked for; calls that count; a region stopped. -/
import Derived.Test.YtopnfpobbemfbaaDskM
namespace Go.Proofs.Ytopnfpobbemfbaa
open Go.RowKit

/-- A region's box, its map and its row are apart. -/
theorem reg_apart {w : World} {b mb n : Nat} {v : Value} {c0 c1 c2 c3 c4 : Value} {f : Nat → P128} {m : Nat} {xs : List Value} (h1 : w.heap[b]? = some (.cells #[c0, c1, c2, c3, c4] 71 (0, 0))) (h2 : PgMap w mb n f) (h3 : w.ownsRow 0 78 129 v m xs) :
    mb ≠ b ∧ ∀ k, v.ownBlock = some k → k ≠ b ∧ k ≠ mb := by
  obtain ⟨D, ⟨es, c, hm, _⟩, _⟩ := h2
  refine ⟨(fun e => by rw [e, h1] at hm; cases hm), fun k hk => ?_⟩
  rcases h3.2 with ⟨rfl, _⟩ | ⟨g, cap, cur, rfl, _, hg, _⟩
  · cases hk
  · cases hk
    refine ⟨fun e => ?_, fun e => ?_⟩
    · have e' : g = b := e
      rw [e', h1] at hg
      simp only [Option.some.injEq, Obj.cells.injEq] at hg
      exact absurd hg.2.1 (by decide)
    · have e' : g = mb := e
      rw [e', hm] at hg; cases hg
theorem RegIn.left {w : World} {fp : List Nat} {b M : Nat} {x : Rg} (h : RegIn w fp b M x) : x.left ≤ 9223372036854775807 := by
  obtain ⟨_, _, _, _, _, _, _, _, _, _, _, _, _, h⟩ := h; exact h
/-- A region's box is written over. -/
theorem RegIn.box {w : World} {fp : List Nat} {b M : Nat} {x : Rg} (h : RegIn w fp b M x) (l : Int) (hl : l ≤ 9223372036854775807) (dn : Bool) (w' : World) (ho : Only [b] w w') (hb : ∀ mb v, w.heap[b]? = some (.cells #[.int .i64 (x.size : Int), .map (some mb), v, .int .i64 x.left, .bool x.down] 71 (0, 0)) → w'.heap[b]? = some (.cells #[.int .i64 (x.size : Int), .map (some mb), v, .int .i64 l, .bool dn] 71 (0, 0))) :
    RegIn w' fp b M { x with left := l, down := dn } ∧ Only fp w w' := by
  obtain ⟨mb, n, v, h1, h2, h3, h4, h5, h6, h7, h8, h9, h10, _⟩ := h
  obtain ⟨a1, a2⟩ := reg_apart h1 h2 h3
  refine ⟨⟨mb, n, v, hb mb v h1, h2.kept (ho.block h2.lt (by simpa using a1)), own_only h3 ho (fun k hk => by simpa using (a2 k hk).1), h4, h5, h6, h7, fun k hk => Nat.lt_of_lt_of_le (h8 k hk) ho.size, h9, h10, hl⟩, ho.mono (fun k hk => by simp at hk; subst hk; exact h5)⟩
theorem RegIn.setLeft {w : World} {fp : List Nat} {b M : Nat} {x : Rg} (h : RegIn w fp b M x) (l : Int) (hl : l ≤ 9223372036854775807) :
    RegIn (w.setCell ⟨b, 3, none⟩ (.int .i64 l)) fp b M { x with left := l } ∧ Only fp w (w.setCell ⟨b, 3, none⟩ (.int .i64 l)) :=
  h.box l hl x.down _ ((Only.refl _ w).set _ _ (by simp)) (fun mb v hh => by rw [heap_setCell_at 3 _ hh]; rfl)
theorem RegIn.setDown {w : World} {fp : List Nat} {b M : Nat} {x : Rg} (h : RegIn w fp b M x) (dn : Bool) :
    RegIn (w.setCell ⟨b, 4, none⟩ (.bool dn)) fp b M { x with down := dn } ∧ Only fp w (w.setCell ⟨b, 4, none⟩ (.bool dn)) :=
  h.box x.left h.left dn _ ((Only.refl _ w).set _ _ (by simp)) (fun mb v hh => by rw [heap_setCell_at 4 _ hh]; rfl)

def CountPost (w : World) (fp : List Nat) (b M : Nat) (x : Rg) (e : Ending) (w' : World) : Prop := e = .returned (.int .i64 (cntE x)) ∧ Only fp w w' ∧ RegIn w' fp b M (cntR x)
set_option maxRecDepth 100000 in
set_option maxHeartbeats 1000000 in
theorem count_any {w : World} {fp : List Nat} {b M : Nat} {x : Rg} (h : RegIn w fp b M x) :
    Calls Try.prog 31 #[.pointer (some ⟨b, 0, none⟩)] w (CountPost w fp b M x) := by
  obtain ⟨mb, a, cap, c0, c1, c2, c3, c4, hf⟩ := h.cells
  have f3 := hf 3
  have f4 := hf 4
  have H := Lib.hid h
  have h' := h.left
  clear hf h
  by_cases h0 : x.left = 0
  · have HE := Lib.hid (show cntE x = 3 by rw [cntE, if_pos h0])
    have HR := Lib.hid (show cntR x = { x with down := true } by rw [cntR, if_pos h0])
    have q0 : (x.left == 0) = true := by simpa using h0
    clear h0
    go_enter Try.func31, Try.ntmps31
    go_wp2
    go_ret
    obtain ⟨g1, g2⟩ := H.out.setDown true
    exact ⟨by rw [HE.out]; rfl, g2, by rw [HR.out]; exact g1⟩
  · have q0 : (x.left == 0) = false := by simpa using h0
    by_cases h1 : 0 < x.left
    · have HE := Lib.hid (show cntE x = 0 by rw [cntE, if_neg h0])
      have HR := Lib.hid (show cntR x = { x with left := x.left - 1 } by rw [cntR, if_neg h0, if_pos h1])
      have q1 : decide (0 < x.left) = true := by simpa using h1
      have hbig := h'
      clear h0
      go_enter Try.func31, Try.ntmps31
      go_wp2
      go_ret
      obtain ⟨g1, g2⟩ := H.out.setLeft (x.left - 1) (by omega)
      exact ⟨by rw [HE.out]; rfl, g2, by rw [HR.out]; exact g1⟩
    · have HE := Lib.hid (show cntE x = 0 by rw [cntE, if_neg h0])
      have HR := Lib.hid (show cntR x = x by rw [cntR, if_neg h0, if_neg h1])
      have q1 : decide (0 < x.left) = false := by simpa using h1
      clear h0
      go_enter Try.func31, Try.ntmps31
      go_wp2
      go_ret
      exact ⟨by rw [HE.out]; rfl, Only.refl _ _, by rw [HR.out]; exact H.out⟩
set_option maxRecDepth 100000 in
set_option maxHeartbeats 1000000 in
theorem paged_any {w : World} {F : List Nat} {db M : Nat} {bs : List (Nat × List Nat)} {d : List Rg} (h : DskIn w F db M bs d) (r p : Int) :
    Calls Try.prog 30 #[.pointer (some ⟨db, 0, none⟩), .int .i64 r, .int .i64 p] w fun e w' => UpPost bs r (pagedE d r p) e ∧ w = w' := by
  have U := up_any h r
  by_cases hu : upE d r = 0
  · have hr : 0 ≤ r ∧ r < d.length := by
      unfold upE at hu; split at hu
      · assumption
      · simp at hu
    obtain ⟨i, rfl⟩ := Int.eq_ofNat_of_zero_le hr.1
    have hi : i < d.length := by omega
    obtain ⟨q, hq⟩ : ∃ q, bs[i]? = some q := ⟨_, List.getElem?_eq_getElem (by rw [h.len]; exact hi)⟩
    obtain ⟨x, hx⟩ : ∃ x, d[i]? = some x := ⟨_, List.getElem?_eq_getElem hi⟩
    have hs : pagedE d (i : Int) p = if 0 ≤ p ∧ p < x.size then 0 else 2 := by rw [pagedE, if_pos hu, atR, Int.toNat_natCast, hx]; rfl
    obtain ⟨mb, a, cap, c0, c1, c2, c3, c4, _⟩ := (h.reg i q x hq hx).cells
    rw [hu] at U
    rw [hs]
    have HQ := Lib.hid hq
    have U : Calls Try.prog 32 #[.pointer (some ⟨db, 0, none⟩), .int .i64 (i : Int)] w fun e w' => e = .returned (.tuple #[.pointer (some ⟨q.1, 0, none⟩), .int .i64 0]) ∧ w = w' := U.mono fun e w' ⟨h1, h2⟩ => by
      refine ⟨?_, h2⟩
      rcases h1 with ⟨_, q', hq', he⟩ | ⟨h0, _⟩
      · rw [Int.toNat_natCast, hq] at hq'; cases hq'; exact he
      · exact absurd rfl h0
    clear hs hq hx h hr hu
    by_cases h1 : p < 0
    · have q1 : decide (p < 0) = true := by simpa using h1
      rw [if_neg (by omega)]
      go_enter Try.func30, Try.ntmps30
      go_wp2_with fail
      refine U.mono ?_
      rintro e w' ⟨rfl, rfl⟩
      go_wp2
      go_ret2
      exact ⟨.inr ⟨by decide, rfl⟩, rfl⟩
    · have q1 : decide (p < 0) = false := by simpa using h1
      by_cases h2 : (x.size : Int) ≤ p
      · have q2 : decide ((x.size : Int) ≤ p) = true := by simpa using h2
        rw [if_neg (by omega)]
        go_enter Try.func30, Try.ntmps30
        go_wp2_with fail
        refine U.mono ?_
        rintro e w' ⟨rfl, rfl⟩
        go_wp2
        go_ret2
        exact ⟨.inr ⟨by decide, rfl⟩, rfl⟩
      · have q2 : decide ((x.size : Int) ≤ p) = false := by simpa using h2
        rw [if_pos (by omega)]
        go_enter Try.func30, Try.ntmps30
        go_wp2_with fail
        refine U.mono ?_
        rintro e w' ⟨rfl, rfl⟩
        go_wp2
        go_ret2
        exact ⟨.inl ⟨rfl, q, by rw [Int.toNat_natCast]; exact HQ.out, rfl⟩, rfl⟩
  · have hs : pagedE d r p = upE d r := by rw [pagedE, if_neg hu]
    have q0 : (upE d r == 0) = false := by simpa using hu
    rw [hs]
    generalize upE d r = er at *
    have U : Calls Try.prog 32 #[.pointer (some ⟨db, 0, none⟩), .int .i64 r] w fun e w' => e = .returned (.tuple #[.pointer none, .int .i64 er]) ∧ w = w' := U.mono fun e w' ⟨h1, h2⟩ => by
      refine ⟨?_, h2⟩
      rcases h1 with ⟨h0, _⟩ | ⟨_, he⟩
      · exact absurd h0 hu
      · exact he
    have HU := Lib.hid hu
    clear hs hu h
    go_enter Try.func30, Try.ntmps30
    go_wp2_with fail
    refine U.mono ?_
    rintro e w' ⟨rfl, rfl⟩
    go_wp2
    go_ret2
    exact ⟨.inr ⟨HU.out, rfl⟩, rfl⟩
end Go.Proofs.Ytopnfpobbemfbaa
