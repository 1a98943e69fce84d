/- The walks of the chapter on free pages: the document's answer, a list is got. -/
import Derived.Test.YtopnfpobbemfbaaDoorM7
import Derived.Test.YtopnfpobbemfbaaDoorM8
import Derived.Test.YtopnfpobbemfbaaDoorRgRq
import Derived.Test.YtopnfpobbemfbaaDoorOctRq
import Derived.Test.YtopnfpobbemfbaaDoorCelYq
namespace Go.Proofs.YtopnfpobbemfbaaDoor
open Go.RowKit

theorem tNum_two (l : List UInt8) (h : 2 ≤ l.length) : tNum ⟨l, 0⟩ 2 = (beVal (l.take 2), ⟨l.drop 2, 0⟩) := by
  rw [tNum, if_neg (by simp)]
  simp [takeF, show ¬ l.length < 2 by omega]
theorem beVal_two (a b : UInt8) : beVal [a, b] = a.toNat * 256 + b.toNat := by simp [beVal]
theorem words_cons {l : List UInt8} (h : 2 ≤ l.length) : wordsOf l = (beVal (l.take 2) : Int) :: wordsOf (l.drop 2) := by
  match l, h with
  | a :: b :: r, _ => simp [wordsOf, beVal_two]
  | [_], h => simp at h
  | [], h => simp at h
theorem words_drop (j : Nat) : ∀ l : List UInt8, (wordsOf l).drop j = wordsOf (l.drop (2 * j)) := by
  induction j with
  | zero => intro l; simp
  | succ j ih =>
    intro l
    match l with
    | [] => simp [wordsOf]
    | [a] => rw [show 2 * (j + 1) = 2 * j + 1 + 1 by omega]; simp [wordsOf]
    | a :: b :: r =>
      rw [show 2 * (j + 1) = 2 * j + 1 + 1 by omega]
      simp only [wordsOf, List.drop_succ_cons]
      exact ih r
/-- One word more. -/
theorem words_next {C : List UInt8} {j : Nat} (h : 4 + 2 * j ≤ C.length) : ((wordsOf C).drop 1).take (j + 1) = ((wordsOf C).drop 1).take j ++ [(beVal ((C.drop (2 + 2 * j)).take 2) : Int)] := by
  have h1 := words_drop (1 + j) C
  have h3 : wordsOf (C.drop (2 + 2 * j)) = (beVal ((C.drop (2 + 2 * j)).take 2) : Int) :: wordsOf ((C.drop (2 + 2 * j)).drop 2) := words_cons (by simp; omega)
  rw [show 2 * (1 + j) = 2 + 2 * j by omega, h3] at h1
  rw [List.take_add_one, List.getElem?_drop]
  congr 1
  have h2 : (wordsOf C)[1 + j]? = some (beVal ((C.drop (2 + 2 * j)).take 2) : Int) := by
    have := congrArg (fun l => l[0]?) h1
    simpa only [List.getElem?_drop, Nat.add_zero, List.getElem?_cons_zero] using this
  rw [h2]; rfl
theorem beVal_take2 (l : List UInt8) : beVal (l.take 2) < 65536 := by
  have := beVal_lt (l.take 2)
  have h : (l.take 2).length ≤ 2 := by simp; omega
  have h3 : (256 : Nat) ^ (l.take 2).length ≤ 256 ^ 2 := Nat.pow_le_pow_right (by omega) h
  omega
theorem AtOk.last {at_ : List Int} {next : Int} (h : AtOk at_ next) (h0 : next ≠ 0) : AtOk (at_ ++ [next]) 0 := by
  obtain ⟨h1, h2, h3⟩ := h
  obtain ⟨h4, h5⟩ := h3 h0
  refine ⟨?_, ?_, fun h => absurd rfl h⟩
  · rw [List.nodup_append]
    exact ⟨h1, by simp, fun a ha b hb e => by simp at hb; subst hb; subst e; exact h4 ha⟩
  · intro x hx
    cases at_ with
    | nil => simp at hx
    | cons a r =>
      simp only [List.cons_append, List.drop_succ_cons, List.drop_zero, List.mem_append, List.mem_singleton] at hx
      rcases hx with hx | rfl
      · exact h2 x (by simpa using hx)
      · exact h5 (by simp)

/-- The inner loop: so many words are told. -/
structure InRel (w : World) (t : Nat) (C : List UInt8) (l at_ : List Int) (j : Nat) (v9 v10 : Value) (wx : World) : Prop where
  le : 2 + 2 * j ≤ C.length
  o9 : OwnInts wx w.heap.size v9 (l ++ ((wordsOf C).drop 1).take j)
  o10 : OwnInts wx w.heap.size v10 at_
  ap : v9.ownBlock = none ∨ v9.ownBlock ≠ v10.ownBlock
  rt : Rt wx t ⟨C.drop (2 + 2 * j), 0⟩
  n9 : v9.ownBlock ≠ some t
  n10 : v10.ownBlock ≠ some t
  lo : w.heap.size ≤ t
  bl : Below w.heap.size w wx
theorem ownInts_kept {w w' : World} {base : Nat} {v : Value} {l : List Int} {row : Option Nat} (h : OwnInts w base v l) (hg : w.grownBy w' row) (hn : v.ownBlock = none ∨ v.ownBlock ≠ row) : OwnInts w' base v l := by
  unfold OwnInts at h ⊢
  exact h.kept hg hn
theorem InRel.cell {w : World} {t : Nat} {C : List UInt8} {l at_ : List Int} {j : Nat} {v9 v10 : Value} {wx : World} (h : InRel w t C l at_ j v9 v10 wx) : wx.cell? ⟨t, 0, none⟩ = some (.string (strOf (C.drop (2 + 2 * j)))) := by
  have : wx.heap[t]? = _ := h.rt
  simp [World.cell?, this]
theorem InRel.num {w : World} {t : Nat} {C : List UInt8} {l at_ : List Int} {j : Nat} {v9 v10 : Value} {wx : World} (h : InRel w t C l at_ j v9 v10 wx) (hj : 4 + 2 * j ≤ C.length) (hC : C.length ≤ 128) (W : World) (hW : Rt W t ⟨C.drop (2 + 2 * j), 0⟩) :
    Calls Tryd.prog 41 #[.pointer (some ⟨t, 0, none⟩), .int .i64 2] W (RtPost W t (.int .u64 (beVal ((C.drop (2 + 2 * j)).take 2) : Int)) ⟨C.drop (2 + 2 * (j + 1)), 0⟩) := by
  have := rNum_any t ⟨C.drop (2 + 2 * j), 0⟩ 2 W hW (by simp only [List.length_drop]; omega)
  rwa [tNum_two _ (by simp; omega), List.drop_drop, show 2 + 2 * j + 2 = 2 + 2 * (j + 1) by omega] at this
theorem InRel.next {w : World} {t : Nat} {C : List UInt8} {l at_ : List Int} {j : Nat} {v9 v10 : Value} {wx w3 : World} (h : InRel w t C l at_ j v9 v10 wx) (hj : 4 + 2 * j ≤ C.length) (hC : C.length ≤ 128) (hl : l.length ≤ 998) (hg : wx.grownBy w3 (some t)) (hr : Rt w3 t ⟨C.drop (2 + 2 * (j + 1)), 0⟩) :
    ∃ v9' w4, (Builtin.append_ #[22, 22] 22 #[v9, .slice (some ⟨w3.heap.size, 0, none⟩) 1 1]).run Tryd.prog (w3.alloc (.cells #[.int .i64 (beVal ((C.drop (2 + 2 * j)).take 2) : Int)] 3)) = .ok v9' w4 ∧ InRel w t C l at_ (j + 1) v9' v10 w4 := by
  obtain ⟨i0, hi, hz0, hz1, hz2⟩ := info_parts info_i64O
  have k9 := ownInts_kept h.o9 hg (.inr h.n9)
  have k10 := ownInts_kept h.o10 hg (.inr h.n10)
  have hb3 := below_take h.bl h.lo hg
  have hs3 := hb3.size
  have hwl : (((wordsOf C).drop 1).take j).length ≤ 64 := by rw [List.length_take, List.length_drop, wordsOf_length]; omega
  obtain ⟨v9', w4, hr4, ho4, hg4, hv4⟩ := run_append_new (P := Tryd.prog) (w := w3) w.heap.size 22 3 i0 _ 1 8 Tryd.underlying22 hi hz0 hz1 hz2 rfl (by decide) k9 #[.int .i64 (beVal ((C.drop (2 + 2 * j)).take 2) : Int)] rfl (by intro u hu; simp at hu; subst hu; rfl) (by rw [List.length_append]; unfold maxLen; simp; omega) (by rw [List.length_append]; simp; omega) hs3
  have ht3 := hr.lt
  refine ⟨v9', w4, hr4, ⟨by omega, ?_, ownInts_kept k10 hg4 ?_, ?_, hr.grown hg4 h.n9, ?_, h.n10, h.lo, hb3.grown hg4 hs3 (own_ge k9)⟩⟩
  · unfold OwnInts
    rw [words_next hj, ← List.append_assoc, List.length_append, List.map_append]; exact ho4
  · cases hv : v10.ownBlock with
    | none => exact .inl rfl
    | some g =>
      right
      intro e
      rcases h.ap with h1 | h1
      · rw [h1] at e; cases e
      · exact h1 (by rw [hv]; exact e.symm)
  · rcases hv4 with h1 | h1
    · rw [h1]; exact h.ap
    · right
      intro e
      rw [h1] at e
      have := own_lt k10 _ e.symm
      omega
  · rcases hv4 with h1 | h1
    · rw [h1]; exact h.n9
    · rw [h1]; intro e; have := Option.some.inj e; omega
/-- The inner loop starts. -/
theorem in_start {w : World} {d : List Rg} {r : Int} {R : List Int × List Int × Int} {l at_ : List Int} {next : Int} {v9 v10 : Value} {wr w2 w3 : World} (hrel : GetRel w d r R l at_ next v9 v10 wr) {C : List UInt8} (hC2 : 2 ≤ C.length) {t : Nat} (hb2 : Below wr.heap.size wr w2) (ht : wr.heap.size ≤ t) (hg : w2.grownBy w3 (some t)) (hr : Rt w3 t ⟨C.drop 2, 0⟩) :
    ∃ v10' w4, (Builtin.append_ #[22, 22] 22 #[v10, .slice (some ⟨w3.heap.size, 0, none⟩) 1 1]).run Tryd.prog (w3.alloc (.cells #[.int .i64 next] 3)) = .ok v10' w4 ∧ InRel w t C l (at_ ++ [next]) 0 v9 v10' w4 := by
  obtain ⟨hR, hat, hl, h9, h10, hap, hb⟩ := hrel
  obtain ⟨i0, hi, hz0, hz1, hz2⟩ := info_parts info_i64O
  have hle := hat.le
  have hs := hb.size
  have hb3 := below_take hb2 ht hg
  have hw3 := below_then hb hb3
  have k9 := own_below h9 (Nat.le_refl _) hb3
  have k10 := own_below h10 (Nat.le_refl _) hb3
  have n9 : v9.ownBlock ≠ some t := fun e => by have := own_lt h9 _ e; omega
  have n10 : v10.ownBlock ≠ some t := fun e => by have := own_lt h10 _ e; omega
  obtain ⟨v10', w4, hr4, ho4, hg4, hv4⟩ := run_append_new (P := Tryd.prog) (w := w3) w.heap.size 22 3 i0 _ 1 8 Tryd.underlying22 hi hz0 hz1 hz2 rfl (by decide) k10 #[.int .i64 next] rfl (by intro u hu; simp at hu; subst hu; rfl) (by unfold maxLen; omega) (by omega) hw3.size
  have ht3 := hr.lt
  have hap2 : v9.ownBlock = none ∨ v9.ownBlock ≠ v10.ownBlock := hap
  refine ⟨v10', w4, hr4, ⟨by omega, ?_, ?_, ?_, hr.grown hg4 n10, n9, ?_, by omega, hw3.grown hg4 hw3.size (own_ge k10)⟩⟩
  · have : OwnInts w4 w.heap.size v9 l := ownInts_kept (show OwnInts w3 w.heap.size v9 l from k9) hg4 hap2
    simpa using this
  · unfold OwnInts
    rw [List.length_append, List.map_append]; simpa using ho4
  · rcases hv4 with h1 | h1
    · rw [h1]; exact hap
    · by_cases hn : v9.ownBlock = none
      · exact .inl hn
      · right
        intro e
        rw [h1] at e
        have := own_lt k9 _ e
        omega
  · rcases hv4 with h1 | h1
    · rw [h1]; exact n10
    · rw [h1]; intro e; have := Option.some.inj e; omega
/-- The inner loop's end. -/
theorem InRel.full {w : World} {t : Nat} {C : List UInt8} {l at_ : List Int} {j : Nat} {v9 v10 : Value} {wx : World} (h : InRel w t C l at_ j v9 v10 wx) (hj : C.length = 2 + 2 * j) : OwnInts wx w.heap.size v9 (l ++ (wordsOf C).drop 1) := by
  have := h.o9
  rwa [List.take_of_length_le (by rw [List.length_drop, wordsOf_length]; omega)] at this
theorem GetRel.drewN {w : World} {d : List Rg} {r : Int} {R : List Int × List Int × Int} {l at_ : List Int} {next : Int} {v9 v10 : Value} {wr : World} (h : GetRel w d r R l at_ next v9 v10 wr) (n : Nat) : GetRel w d r R l at_ next v9 v10 (wr.drewN n) := by
  obtain ⟨hR, hat, hl, h9, h10, hap, hb⟩ := h
  exact ⟨hR, hat, hl, h9, h10, hap, below_drewN hb n⟩
theorem getPost_drewN {w w' : World} {R : List Int × List Int × Int} {e : Ending} (h : GetPost w R e w') (n : Nat) : GetPost w R e (w'.drewN n) := by
  obtain ⟨v1, v2, e1, h1, h2, h3⟩ := h
  exact ⟨v1, v2, e1, h1, h2, below_drewN h3 n⟩
theorem readB_len (d : List Rg) (r p : Int) : (readB d r p).length ≤ 128 := by
  unfold readB
  split
  · exact Nat.le_of_eq (seen _ _).2
  · simp

set_option maxRecDepth 100000 in
set_option maxHeartbeats 8000000 in
theorem rget_any {w : World} {a : Option Addr} {len cap : Nat} {d : List Rg} (h : Gs w a len cap d) (hlen : len ≤ 1000) (r first : Int) :
    Calls Tryd.prog 21 #[.slice a len cap, .int .i64 r, .int .i64 first] w (GetPost w (getD d r first)) := by
  have HS : Hid (GetRel w d r (getD d r first) [] [] first (.slice none 0 0) (.slice none 0 0) w) := Lib.hid ⟨rfl, AtOk.start _, Nat.zero_le _, World.ownsRow_nil _ _ _ _, World.ownsRow_nil _ _ _ _, .inl rfl, Below.refl _ _⟩
  generalize getD d r first = R at *
  have HG := Lib.hid h
  have HLEN := Lib.hid hlen
  clear h hlen
  go_enter Tryd.func21, Tryd.ntmps21
  go_wp2_with fail
  go_loopw [2, 9, 10] (fun s2 s9 s10 wr => ∃ (l at_ : List Int) (next : Int), s2 = .int .i64 next ∧ GetRel w d r R l at_ next s9 s10 wr) (fun _ _ s10 _ => 1000 - lenSl s10)
  case atStart => exact ⟨[], [], first, rfl, HS.out⟩
  case round =>
    clear HS
    obtain ⟨l, at_, next, rfl, hrel⟩ := hrel
    by_cases hn0 : next = 0
    · subst hn0
      obtain ⟨hR, hat, hl, h9, h10, hap, hb⟩ := hrel
      obtain ⟨k, hk⟩ : ∃ k, 1000 - at_.length = k + 1 := ⟨999 - at_.length, by have := hat.le; omega⟩
      rw [hk, getF_start] at hR
      have HE : Hid (GetPost w R (.returned (.tuple #[u9, u10, .int .i64 0])) wr) := Lib.hid (by rw [← hR]; exact ⟨_, _, rfl, h9, h10, hb⟩)
      clear hR hk h9 h10 hap hat hl
      go_wp2_with fail
      go_ret3
      exact HE.out
    · have hne : (next != 0) = true := neq_true hn0
      have hne2 : (next == 0) = false := by simpa using hn0
      have HREL := Lib.hid hrel
      obtain ⟨k, hk⟩ : ∃ k, 1000 - at_.length = k + 1 := ⟨999 - at_.length, by have := hrel.2.1.le; omega⟩
      have hR := hrel.1
      rw [hk, getF, if_neg hn0] at hR
      have HAT := Lib.hid hrel.2.1
      have HK := Lib.hid hk
      have hbw := hrel.2.2.2.2.2.2
      have hrd := rread_any (HG.out.below (Nat.le_refl _) hbw) HLEN.out r next
      obtain ⟨aa, ca, hea, hca, hcam, _⟩ := own_slice hrel.2.2.2.1
      obtain ⟨ab, cb, heb, hcb, hcbm, _⟩ := own_slice hrel.2.2.2.2.1
      have hll := hrel.2.2.1
      have hal := hrel.2.1.le
      subst hea heb
      unfold maxLen at hcam hcbm
      have HB3 : Hid (∀ w3, Below wr.heap.size wr w3 → Below w.heap.size w w3) := Lib.hid fun w3 h3 => below_then hbw h3
      clear hrel hk hbw
      by_cases hP : pagedE d r next = 0
      · rw [hP] at hrd
        have hun := runpack_any (readB d r next)
        have hrl := readB_len d r next
        by_cases hU : unpE (readB d r next) = 0
        · rw [hU] at hun
          have HF0 := Lib.hid (show oneFE d r next = if unpK (readB d r next) ≠ 4 ∨ (unpL (readB d r next)).length ≠ 1 ∨ ((unpL (readB d r next))[0]?.getD []).length % 2 ≠ 0 then 11 else if ((unpL (readB d r next))[0]?.getD []).length = 0 ∨ 120 < ((unpL (readB d r next))[0]?.getD []).length then 11 else 0 by
            rw [oneFE, if_neg (by rw [hP]; simp), oneE, if_neg (by rw [hU]; simp)])
          have HL0 := Lib.hid (show oneFE d r next = 0 → oneFL d r next = wordsOf ((unpL (readB d r next))[0]?.getD []) from fun h0 => by
            rw [oneFL, if_pos h0, oneL, if_pos (by rw [oneFE, if_neg (by rw [hP]; simp)] at h0; exact h0)])
          have HBAD : Hid (∀ w3, Below w.heap.size w w3 → oneFE d r next = 11 → GetPost w R (.returned (.tuple #[.slice none 0 0, .slice none 0 0, .int .i64 11])) w3) := Lib.hid (fun w3 h3 h0 => by
            have e1 : (rdD d r next).1 = 11 := h0
            rw [e1, if_pos (by decide)] at hR
            rw [← hR]; exact getPost_bad h3)
          have HR := Lib.hid hR
          have hL128 := unpL_len (readB d r next)
          clear hR hP hU
          generalize readB d r next = b at *
          generalize unpK b = K at *
          generalize unpL b = L at *
          obtain ⟨C, hC⟩ : ∃ C, L[0]?.getD [] = C := ⟨_, rfl⟩
          rw [hC] at HF0 HL0 hL128
          go_wp2_with fail
          refine hrd.mono ?_
          rintro e w3 ⟨rfl, hb3⟩
          clear hrd
          have hb3' := HB3.out w3 hb3
          go_wp2_with fail
          refine (hun w3 (by omega)).mono ?_
          rintro e w4 ⟨v4, rfl, ho4, hb4⟩
          clear hun
          obtain ⟨av, cv, rfl, hss⟩ := Strs.of_own ho4
          have HB4 := Lib.hid (below_then hb3' hb4)
          have HB34 := Lib.hid (below_then hb3 hb4)
          have hls := hss.2.1
          have hls2 := hss.2.2.1
          unfold maxLen at hls2
          clear hb3 hb4 hb3' ho4
          by_cases hk : K = 4
          · by_cases hl : L.length = 1
            · rw [hl] at hss hls ⊢
              obtain ⟨bb, off, rfl, hbb, hc0⟩ := hss.at (k := 0) (by omega)
              rw [hC, Nat.add_zero] at hc0
              subst hk
              have hsz := strOf_size C
              obtain ⟨n, hn⟩ : ∃ n, C.length = n := ⟨_, rfl⟩
              rw [hn] at hsz HF0 hL128
              have HN := Lib.hid hn
              have HL1 := Lib.hid hl
              have HC := Lib.hid hC
              have hm := Int.tmod_eq_emod_of_nonneg (a := (n : Int)) (b := 2) (by omega)
              clear hss hn hl hC
              by_cases h2 : n < 2
              · have a1 : decide ((n : Int) < 2) = true := by simp; omega
                have a1' : decide (n < 2) = true := by simp; omega
                go_wp2_with fail
                go_ret3
                exact HBAD.out _ HB4.out (by rw [HF0.out]; split; rfl; rename_i h9; rw [if_pos (by omega)])
              · have a1 : decide ((n : Int) < 2) = false := by simp; omega
                have a1' : decide (n < 2) = false := by simp; omega
                by_cases h3 : n % 2 = 1
                · have a2 : ((n : Int) % 2 == 1) = true := by rw [beq_iff_eq]; omega
                  have a3 : ((n : Int).tmod 2 == 1) = true := by rw [beq_iff_eq, hm]; omega
                  go_wp2_with fail
                  go_ret3
                  exact HBAD.out _ HB4.out (by rw [HF0.out]; rw [if_pos (.inr (.inr (by omega)))])
                · have a2 : ((n : Int) % 2 == 1) = false := by rw [beq_eq_false_iff_ne]; omega
                  have a3 : ((n : Int).tmod 2 == 1) = false := by rw [beq_eq_false_iff_ne, hm]; omega
                  by_cases h4 : 120 < n
                  · have a4 : decide ((120 : Int) < n) = true := by simp; omega
                    have a4' : decide (120 < n) = true := by simp; omega
                    go_wp2_with fail
                    go_ret3
                    exact HBAD.out _ HB4.out (by rw [HF0.out]; split; rfl; rw [if_pos (.inr (by omega))])
                  · have a4 : decide ((120 : Int) < n) = false := by simp; omega
                    have a4' : decide (120 < n) = false := by simp; omega
                    have HFE : Hid (oneFE d r next = 0) := Lib.hid (by rw [HF0.out, if_neg (by rintro (h | h | h); exact h rfl; exact h HL1.out; omega), if_neg (by omega)])
                    have HFL : Hid (oneFL d r next = wordsOf C) := Lib.hid (HL0.out HFE.out)
                    have hwl : (wordsOf C).length = n / 2 := by rw [wordsOf_length, HN.out]
                    have hR := HR.out
                    rw [show (rdD d r next).1 = 0 from HFE.out, show (rdD d r next).2 = wordsOf C from HFL.out] at hR
                    simp only [ne_eq, not_true, if_false] at hR
                    have hwc := words_cons (l := C) (by have := HN.out; omega)
                    have ha0 : atI (wordsOf C) 0 = (beVal (C.take 2) : Int) := by rw [hwc]; rfl
                    rw [ha0] at hR
                    have HCAP := Lib.hid hca
                    clear hwc ha0 HF0 HL0 HFE HFL
                    by_cases h5 : 2 < n ∧ l.length < 59 * at_.length
                    · obtain ⟨h5, h6⟩ := h5
                      have HB11 : Hid (GetPost w R (.returned (.tuple #[.slice none 0 0, .slice none 0 0, .int .i64 11])) w4) := Lib.hid (by
                        rw [if_pos (.inr ⟨h6, by omega⟩)] at hR
                        rw [← hR]; exact getPost_bad HB4.out)
                      have a5 : decide ((2 : Int) < n) = true := by simp; omega
                      have a5' : decide (2 < n) = true := by simp; omega
                      have a6 : decide ((l.length : Int) < 59 * (at_.length : Int)) = true := by simp; omega
                      have a6' : decide (l.length < 59 * at_.length) = true := by simp; omega
                      clear hR hwl HAT
                      go_wp2_with fail
                      go_ret3
                      exact HB11.out
                    · have h5' : (n ≤ 2) ∨ (2 < n ∧ ¬ l.length < 59 * at_.length) := by omega
                      have hRIS : ¬ (l.length < 59 * at_.length ∧ 1 < (wordsOf C).length) := by omega
                      have HRIS := Lib.hid hRIS
                      have HR2 := Lib.hid hR
                      have hdd : (decide ((2 : Int) < n) = false ∧ decide (2 < n) = false ∧ n ≤ 2) ∨ (decide ((2 : Int) < n) = true ∧ decide (2 < n) = true ∧ decide ((l.length : Int) < 59 * (at_.length : Int)) = false ∧ decide (l.length < 59 * at_.length) = false) := by
                        rcases h5' with h6 | ⟨h6, h7⟩
                        · left; exact ⟨by simp; omega, by simp; omega, h6⟩
                        · right; exact ⟨by simp; omega, by simp; omega, by simp; omega, by simp; omega⟩
                      clear h5 h5' hRIS hR
                      have hrt := World.alloc_heap_new w4 (.cells #[.string (strOf C), .int .i64 0] 97)
                      have HRT := Lib.hid hrt
                      have HBA := Lib.hid (HB34.out.alloc HB34.out.size (.cells #[.string (strOf C), .int .i64 0] 97))
                      have HLO := Lib.hid HB34.out.size
                      clear hrt
                      have hx0 := beVal_take2 C
                      rcases hdd with ⟨a5, a5', _⟩ | ⟨a5, a5', a6, a6'⟩
                      · go_wp2_with fail
                        generalize w4.alloc (.cells #[.string (strOf C), .int .i64 0] 97) = w5 at *
                        generalize w4.heap.size = t at *
                        have hnum := rNum_any t ⟨C, 0⟩ 2 w5 HRT.out (by simp only; have := HN.out; omega)
                        rw [tNum_two C (by have := HN.out; omega)] at hnum
                        refine hnum.mono ?_
                        rintro e w6 ⟨rfl, hg6, hr6⟩
                        obtain ⟨v10, w7, hr7, hin7⟩ := in_start HREL.out (C := C) (by have := HN.out; omega) HBA.out HLO.out hg6 hr6
                        obtain ⟨a10, c10, rfl, hc10, hc10m, _⟩ := own_slice hin7.o10
                        have hla : (at_ ++ [next]).length = at_.length + 1 := by simp
                        rw [hla] at hr7 hin7
                        unfold maxLen at hc10m
                        have HIN7 := Lib.hid hin7
                        obtain ⟨x0, hx⟩ : ∃ x0, beVal (C.take 2) = x0 := ⟨_, rfl⟩
                        rw [hx] at hx0 HR2 ⊢
                        clear hnum hg6 hr6 hin7 hx hla hc0
                        go_wp2_with (at_builtin; refine wpList_append_run rfl _ _ _ _ rfl rfl rfl hr7 ?_)
                        go_loopw [9] (fun s wx => ∃ j, InRel w t C l (at_ ++ [next]) j s (.slice a10 (at_.length + 1) c10) wx) (fun s _ => l.length + 64 - lenSl s)
                        case atStart => exact ⟨0, HIN7.out⟩
                        case round =>
                          obtain ⟨j, hin⟩ := hrel
                          have hcj := hin.le
                          rw [HN.out] at hcj
                          have c0 := hin.cell
                          obtain ⟨a9, c9, e9, hc9, hc9m, _⟩ := own_slice hin.o9
                          have hl9 : (l ++ ((wordsOf C).drop 1).take j).length = l.length + j := by simp [wordsOf_length, HN.out]; omega
                          rw [hl9] at e9 hc9
                          subst e9
                          unfold maxLen at hc9m
                          clear hl9
                          have HJ := Lib.hid hcj
                          by_cases hj : n = 2 + 2 * j
                          · have HFU := Lib.hid (hin.full (by rw [HN.out]; exact hj))
                            have hS : C.drop (2 + 2 * j) = [] := List.drop_eq_nil_of_le (by rw [HN.out]; omega)
                            rw [hS] at c0
                            have hem : (!(strOf []).toList.isEmpty) = false := by rw [strOf_toList]; rfl
                            have hfl : (l ++ (wordsOf C).drop 1).length = l.length + j := by simp [wordsOf_length, HN.out]; omega
                            obtain ⟨a9', c9', e9', row9⟩ := Row.of_own HFU.out
                            rw [hfl] at e9' row9
                            cases e9'
                            obtain ⟨a10', c10', e10', row10⟩ := Row.of_own hin.o10
                            rw [List.length_append, List.length_singleton] at e10' row10
                            cases e10'
                            have HIN := Lib.hid hin
                            have hli := rlisted_any row9
                            have HBA2 := Lib.hid (getPost_bad (E := 11) hin.bl)
                            have HIR : Hid (∀ nx : Int, getF (rdD d r) k (l ++ (wordsOf C).drop 1) (at_ ++ [next]) nx = R → AtOk (at_ ++ [next]) nx → risB (l ++ (wordsOf C).drop 1) = true → GetRel w d r R (l ++ (wordsOf C).drop 1) (at_ ++ [next]) nx (.slice a9 (l.length + j) c9) (.slice a10 (at_.length + 1) c10) wr) := Lib.hid (fun nx h1 h2 h3 => by
                              refine ⟨?_, h2, ris_le h3, HFU.out, HIN.out.o10, HIN.out.ap, HIN.out.bl⟩
                              rw [← h1, List.length_append, List.length_singleton]
                              congr 1
                              have := HK.out
                              omega)
                            have HLA := Lib.hid hal
                            clear hin hcj hS hfl
                            subst hj
                            go_wp2_with fail
                            refine hli.mono ?_
                            rintro e w9 ⟨rfl, q, rfl⟩
                            have HBQ := Lib.hid (getPost_drewN HBA2.out q)
                            cases hri : risB (l ++ (wordsOf C).drop 1)
                            · have HE : Hid (GetPost w R (.returned (.tuple #[.slice none 0 0, .slice none 0 0, .int .i64 11])) (wr.drewN q)) := Lib.hid (by
                                have := HR2.out
                                rw [if_pos (.inl hri)] at this
                                rw [← this]; exact HBQ.out)
                              clear hri hli HR2
                              go_wp2_with fail
                              go_ret3
                              exact HE.out
                            · have HRI := Lib.hid hri
                              have hR3 := HR2.out
                              rw [if_neg (by rintro (h | h); rw [hri] at h; cases h; exact HRIS.out h)] at hR3
                              have row10q : Row .i64 (wr.drewN q) a10 (at_.length + 1) c10 (at_ ++ [next]) := row10
                              clear hri hli HR2
                              by_cases hx : x0 = 0
                              · subst hx
                                have HE : Hid (GetRel w d r R (l ++ (wordsOf C).drop 1) (at_ ++ [next]) 0 (.slice a9 (l.length + j) c9) (.slice a10 (at_.length + 1) c10) (wr.drewN q)) := Lib.hid ((HIR.out 0 (by
                                  rw [if_pos (by rfl)] at hR3
                                  rw [← hR3]
                                  obtain ⟨k', hk'⟩ : ∃ k', k = k' + 1 := ⟨k - 1, by have := (HAT.out.last hn0).le; simp at this; have := HK.out; omega⟩
                                  rw [hk', getF_start]) (HAT.out.last hn0) HRI.out).drewN q)
                                clear hR3
                                go_wp2_with fail
                                go_roundw
                                case rel => exact ⟨_, _, 0, rfl, HE.out⟩
                                case measure => simp [lenSl]; omega
                              · rw [if_neg (by omega)] at hR3
                                have z1 : ((x0 : Int) != 0) = true := by rw [bne_iff_ne]; omega
                                have z2 : ((x0 : Int) == 0) = false := by rw [beq_eq_false_iff_ne]; omega
                                have HPB : Hid (pgB (x0 : Int) = false → GetPost w R (.returned (.tuple #[.slice none 0 0, .slice none 0 0, .int .i64 11])) (wr.drewN q)) := Lib.hid (fun h => by
                                  have := hR3
                                  rw [if_pos (.inl h)] at this
                                  rw [← this]; exact HBQ.out)
                                have HR3 := Lib.hid hR3
                                clear hR3
                                by_cases h2 : x0 < 2
                                · have z3 : decide ((x0 : Int) < 2) = true := by simp; omega
                                  have z3' : decide (x0 < 2) = true := by simp; omega
                                  have HE := Lib.hid (HPB.out (by simp [pgB]; omega))
                                  go_wp2_with fail
                                  go_ret3
                                  exact HE.out
                                · have z3 : decide ((x0 : Int) < 2) = false := by simp; omega
                                  have z3' : decide (x0 < 2) = false := by simp; omega
                                  by_cases h9 : 999 < x0
                                  · have z4 : decide ((999 : Int) < x0) = true := by simp; omega
                                    have z4' : decide (999 < x0) = true := by simp; omega
                                    have HE := Lib.hid (HPB.out (by simp [pgB]; omega))
                                    go_wp2_with fail
                                    go_ret3
                                    exact HE.out
                                  · have z4 : decide ((999 : Int) < x0) = false := by simp; omega
                                    have z4' : decide (999 < x0) = false := by simp; omega
                                    have hpg : pgB (x0 : Int) = true := by simp [pgB]; omega
                                    go_wp2_with fail
                                    refine (rhas_any row10q x0).mono ?_
                                    rintro e w10 ⟨rfl, rfl⟩
                                    by_cases hm : (x0 : Int) ∈ at_ ++ [next]
                                    · have dm : decide ((x0 : Int) ∈ at_ ++ [next]) = true := by simpa using hm
                                      have HE : Hid (GetPost w R (.returned (.tuple #[.slice none 0 0, .slice none 0 0, .int .i64 11])) (wr.drewN q)) := Lib.hid (by
                                        have := HR3.out
                                        rw [if_pos (.inr hm)] at this
                                        rw [← this]; exact HBQ.out)
                                      rw [dm]
                                      clear hm dm
                                      go_wp2_with fail
                                      go_ret3
                                      exact HE.out
                                    · have dm : decide ((x0 : Int) ∈ at_ ++ [next]) = false := by simpa using hm
                                      have HE : Hid (GetRel w d r R (l ++ (wordsOf C).drop 1) (at_ ++ [next]) x0 (.slice a9 (l.length + j) c9) (.slice a10 (at_.length + 1) c10) (wr.drewN q)) := Lib.hid ((HIR.out x0 (by
                                        have := HR3.out
                                        rw [if_neg (by rintro (h | h); rw [hpg] at h; cases h; exact hm h)] at this
                                        exact this) (HAT.out.push hn0 hpg hm) HRI.out).drewN q)
                                      rw [dm]
                                      clear hm dm
                                      go_wp2_with fail
                                      go_roundw
                                      case rel => exact ⟨_, _, x0, rfl, HE.out⟩
                                      case measure => simp [lenSl]; omega
                          · have h4j : 4 + 2 * j ≤ C.length := by rw [HN.out]; omega
                            obtain ⟨S, hS⟩ : ∃ S, C.drop (2 + 2 * j) = S := ⟨_, rfl⟩
                            have hnum := hin.num h4j (by rw [HN.out]; exact hL128) _ hin.rt
                            have hem : (!(strOf S).toList.isEmpty) = true := by
                              rw [strOf_toList]
                              have : 0 < S.length := by rw [← hS, List.length_drop]; omega
                              cases S with
                              | nil => simp at this
                              | cons => rfl
                            rw [hS] at c0
                            have HIN := Lib.hid hin
                            have HJ4 := Lib.hid h4j
                            have hy0 := beVal_take2 (C.drop (2 + 2 * j))
                            clear hin h4j hcj hj hS hx0
                            go_wp2_with fail
                            refine hnum.mono ?_
                            rintro e w8 ⟨rfl, hg8, hr8⟩
                            obtain ⟨v9, w9, hr9, hin9⟩ := HIN.out.next HJ4.out (by rw [HN.out]; exact hL128) hll hg8 hr8
                            have HIN9 := Lib.hid hin9
                            obtain ⟨a9', c9', e9, _⟩ := own_slice hin9.o9
                            have hl9 : (l ++ ((wordsOf C).drop 1).take (j + 1)).length = l.length + (j + 1) := by have := HJ4.out; have := HN.out; simp [wordsOf_length, HN.out]; omega
                            rw [hl9] at e9
                            subst e9
                            generalize beVal ((C.drop (2 + 2 * j)).take 2) = y0 at *
                            clear hin9 hg8 hr8 hl9 hnum
                            go_wp2_with (at_builtin; refine wpList_append_run rfl _ _ _ _ rfl rfl rfl hr9 ?_)
                            go_roundw
                            case rel => exact ⟨j + 1, HIN9.out⟩
                            case measure => have := HJ4.out; have := HN.out; simp [lenSl]; omega
                      · go_wp2_with fail
                        generalize w4.alloc (.cells #[.string (strOf C), .int .i64 0] 97) = w5 at *
                        generalize w4.heap.size = t at *
                        have hnum := rNum_any t ⟨C, 0⟩ 2 w5 HRT.out (by simp only; have := HN.out; omega)
                        rw [tNum_two C (by have := HN.out; omega)] at hnum
                        refine hnum.mono ?_
                        rintro e w6 ⟨rfl, hg6, hr6⟩
                        obtain ⟨v10, w7, hr7, hin7⟩ := in_start HREL.out (C := C) (by have := HN.out; omega) HBA.out HLO.out hg6 hr6
                        obtain ⟨a10, c10, rfl, hc10, hc10m, _⟩ := own_slice hin7.o10
                        have hla : (at_ ++ [next]).length = at_.length + 1 := by simp
                        rw [hla] at hr7 hin7
                        unfold maxLen at hc10m
                        have HIN7 := Lib.hid hin7
                        obtain ⟨x0, hx⟩ : ∃ x0, beVal (C.take 2) = x0 := ⟨_, rfl⟩
                        rw [hx] at hx0 HR2 ⊢
                        clear hnum hg6 hr6 hin7 hx hla hc0
                        go_wp2_with (at_builtin; refine wpList_append_run rfl _ _ _ _ rfl rfl rfl hr7 ?_)
                        go_loopw [9] (fun s wx => ∃ j, InRel w t C l (at_ ++ [next]) j s (.slice a10 (at_.length + 1) c10) wx) (fun s _ => l.length + 64 - lenSl s)
                        case atStart => exact ⟨0, HIN7.out⟩
                        case round =>
                          obtain ⟨j, hin⟩ := hrel
                          have hcj := hin.le
                          rw [HN.out] at hcj
                          have c0 := hin.cell
                          obtain ⟨a9, c9, e9, hc9, hc9m, _⟩ := own_slice hin.o9
                          have hl9 : (l ++ ((wordsOf C).drop 1).take j).length = l.length + j := by simp [wordsOf_length, HN.out]; omega
                          rw [hl9] at e9 hc9
                          subst e9
                          unfold maxLen at hc9m
                          clear hl9
                          have HJ := Lib.hid hcj
                          by_cases hj : n = 2 + 2 * j
                          · have HFU := Lib.hid (hin.full (by rw [HN.out]; exact hj))
                            have hS : C.drop (2 + 2 * j) = [] := List.drop_eq_nil_of_le (by rw [HN.out]; omega)
                            rw [hS] at c0
                            have hem : (!(strOf []).toList.isEmpty) = false := by rw [strOf_toList]; rfl
                            have hfl : (l ++ (wordsOf C).drop 1).length = l.length + j := by simp [wordsOf_length, HN.out]; omega
                            obtain ⟨a9', c9', e9', row9⟩ := Row.of_own HFU.out
                            rw [hfl] at e9' row9
                            cases e9'
                            obtain ⟨a10', c10', e10', row10⟩ := Row.of_own hin.o10
                            rw [List.length_append, List.length_singleton] at e10' row10
                            cases e10'
                            have HIN := Lib.hid hin
                            have hli := rlisted_any row9
                            have HBA2 := Lib.hid (getPost_bad (E := 11) hin.bl)
                            have HIR : Hid (∀ nx : Int, getF (rdD d r) k (l ++ (wordsOf C).drop 1) (at_ ++ [next]) nx = R → AtOk (at_ ++ [next]) nx → risB (l ++ (wordsOf C).drop 1) = true → GetRel w d r R (l ++ (wordsOf C).drop 1) (at_ ++ [next]) nx (.slice a9 (l.length + j) c9) (.slice a10 (at_.length + 1) c10) wr) := Lib.hid (fun nx h1 h2 h3 => by
                              refine ⟨?_, h2, ris_le h3, HFU.out, HIN.out.o10, HIN.out.ap, HIN.out.bl⟩
                              rw [← h1, List.length_append, List.length_singleton]
                              congr 1
                              have := HK.out
                              omega)
                            have HLA := Lib.hid hal
                            clear hin hcj hS hfl
                            subst hj
                            go_wp2_with fail
                            refine hli.mono ?_
                            rintro e w9 ⟨rfl, q, rfl⟩
                            have HBQ := Lib.hid (getPost_drewN HBA2.out q)
                            cases hri : risB (l ++ (wordsOf C).drop 1)
                            · have HE : Hid (GetPost w R (.returned (.tuple #[.slice none 0 0, .slice none 0 0, .int .i64 11])) (wr.drewN q)) := Lib.hid (by
                                have := HR2.out
                                rw [if_pos (.inl hri)] at this
                                rw [← this]; exact HBQ.out)
                              clear hri hli HR2
                              go_wp2_with fail
                              go_ret3
                              exact HE.out
                            · have HRI := Lib.hid hri
                              have hR3 := HR2.out
                              rw [if_neg (by rintro (h | h); rw [hri] at h; cases h; exact HRIS.out h)] at hR3
                              have row10q : Row .i64 (wr.drewN q) a10 (at_.length + 1) c10 (at_ ++ [next]) := row10
                              clear hri hli HR2
                              by_cases hx : x0 = 0
                              · subst hx
                                have HE : Hid (GetRel w d r R (l ++ (wordsOf C).drop 1) (at_ ++ [next]) 0 (.slice a9 (l.length + j) c9) (.slice a10 (at_.length + 1) c10) (wr.drewN q)) := Lib.hid ((HIR.out 0 (by
                                  rw [if_pos (by rfl)] at hR3
                                  rw [← hR3]
                                  obtain ⟨k', hk'⟩ : ∃ k', k = k' + 1 := ⟨k - 1, by have := (HAT.out.last hn0).le; simp at this; have := HK.out; omega⟩
                                  rw [hk', getF_start]) (HAT.out.last hn0) HRI.out).drewN q)
                                clear hR3
                                go_wp2_with fail
                                go_roundw
                                case rel => exact ⟨_, _, 0, rfl, HE.out⟩
                                case measure => simp [lenSl]; omega
                              · rw [if_neg (by omega)] at hR3
                                have z1 : ((x0 : Int) != 0) = true := by rw [bne_iff_ne]; omega
                                have z2 : ((x0 : Int) == 0) = false := by rw [beq_eq_false_iff_ne]; omega
                                have HPB : Hid (pgB (x0 : Int) = false → GetPost w R (.returned (.tuple #[.slice none 0 0, .slice none 0 0, .int .i64 11])) (wr.drewN q)) := Lib.hid (fun h => by
                                  have := hR3
                                  rw [if_pos (.inl h)] at this
                                  rw [← this]; exact HBQ.out)
                                have HR3 := Lib.hid hR3
                                clear hR3
                                by_cases h2 : x0 < 2
                                · have z3 : decide ((x0 : Int) < 2) = true := by simp; omega
                                  have z3' : decide (x0 < 2) = true := by simp; omega
                                  have HE := Lib.hid (HPB.out (by simp [pgB]; omega))
                                  go_wp2_with fail
                                  go_ret3
                                  exact HE.out
                                · have z3 : decide ((x0 : Int) < 2) = false := by simp; omega
                                  have z3' : decide (x0 < 2) = false := by simp; omega
                                  by_cases h9 : 999 < x0
                                  · have z4 : decide ((999 : Int) < x0) = true := by simp; omega
                                    have z4' : decide (999 < x0) = true := by simp; omega
                                    have HE := Lib.hid (HPB.out (by simp [pgB]; omega))
                                    go_wp2_with fail
                                    go_ret3
                                    exact HE.out
                                  · have z4 : decide ((999 : Int) < x0) = false := by simp; omega
                                    have z4' : decide (999 < x0) = false := by simp; omega
                                    have hpg : pgB (x0 : Int) = true := by simp [pgB]; omega
                                    go_wp2_with fail
                                    refine (rhas_any row10q x0).mono ?_
                                    rintro e w10 ⟨rfl, rfl⟩
                                    by_cases hm : (x0 : Int) ∈ at_ ++ [next]
                                    · have dm : decide ((x0 : Int) ∈ at_ ++ [next]) = true := by simpa using hm
                                      have HE : Hid (GetPost w R (.returned (.tuple #[.slice none 0 0, .slice none 0 0, .int .i64 11])) (wr.drewN q)) := Lib.hid (by
                                        have := HR3.out
                                        rw [if_pos (.inr hm)] at this
                                        rw [← this]; exact HBQ.out)
                                      rw [dm]
                                      clear hm dm
                                      go_wp2_with fail
                                      go_ret3
                                      exact HE.out
                                    · have dm : decide ((x0 : Int) ∈ at_ ++ [next]) = false := by simpa using hm
                                      have HE : Hid (GetRel w d r R (l ++ (wordsOf C).drop 1) (at_ ++ [next]) x0 (.slice a9 (l.length + j) c9) (.slice a10 (at_.length + 1) c10) (wr.drewN q)) := Lib.hid ((HIR.out x0 (by
                                        have := HR3.out
                                        rw [if_neg (by rintro (h | h); rw [hpg] at h; cases h; exact hm h)] at this
                                        exact this) (HAT.out.push hn0 hpg hm) HRI.out).drewN q)
                                      rw [dm]
                                      clear hm dm
                                      go_wp2_with fail
                                      go_roundw
                                      case rel => exact ⟨_, _, x0, rfl, HE.out⟩
                                      case measure => simp [lenSl]; omega
                          · have h4j : 4 + 2 * j ≤ C.length := by rw [HN.out]; omega
                            obtain ⟨S, hS⟩ : ∃ S, C.drop (2 + 2 * j) = S := ⟨_, rfl⟩
                            have hnum := hin.num h4j (by rw [HN.out]; exact hL128) _ hin.rt
                            have hem : (!(strOf S).toList.isEmpty) = true := by
                              rw [strOf_toList]
                              have : 0 < S.length := by rw [← hS, List.length_drop]; omega
                              cases S with
                              | nil => simp at this
                              | cons => rfl
                            rw [hS] at c0
                            have HIN := Lib.hid hin
                            have HJ4 := Lib.hid h4j
                            have hy0 := beVal_take2 (C.drop (2 + 2 * j))
                            clear hin h4j hcj hj hS hx0
                            go_wp2_with fail
                            refine hnum.mono ?_
                            rintro e w8 ⟨rfl, hg8, hr8⟩
                            obtain ⟨v9, w9, hr9, hin9⟩ := HIN.out.next HJ4.out (by rw [HN.out]; exact hL128) hll hg8 hr8
                            have HIN9 := Lib.hid hin9
                            obtain ⟨a9', c9', e9, _⟩ := own_slice hin9.o9
                            have hl9 : (l ++ ((wordsOf C).drop 1).take (j + 1)).length = l.length + (j + 1) := by have := HJ4.out; have := HN.out; simp [wordsOf_length, HN.out]; omega
                            rw [hl9] at e9
                            subst e9
                            generalize beVal ((C.drop (2 + 2 * j)).take 2) = y0 at *
                            clear hin9 hg8 hr8 hl9 hnum
                            go_wp2_with (at_builtin; refine wpList_append_run rfl _ _ _ _ rfl rfl rfl hr9 ?_)
                            go_roundw
                            case rel => exact ⟨j + 1, HIN9.out⟩
                            case measure => have := HJ4.out; have := HN.out; simp [lenSl]; omega
            · have d1 : ((L.length : Int) == 1) = false := by rw [beq_eq_false_iff_ne]; omega
              have d2 : ((L.length : Int) != 1) = true := by rw [bne_iff_ne]; omega
              subst hk
              clear hC hss
              go_wp2_with fail
              go_ret3
              exact HBAD.out _ HB4.out (by rw [HF0.out, if_pos (.inr (.inl hl))])
          · have d1 : ((K.toNat : Int) == 4) = false := by
              rw [beq_eq_false_iff_ne]
              intro e
              exact hk (UInt8.toNat_inj.1 (by show K.toNat = 4; omega))
            have d2 : ((K.toNat : Int) != 4) = true := by rw [bne_iff_ne]; exact beq_eq_false_iff_ne.1 d1
            have HK4 := Lib.hid hk
            clear hC hss hk
            go_wp2_with fail
            go_ret3
            exact HBAD.out _ HB4.out (by rw [HF0.out, if_pos (.inl HK4.out)])
        · have HE : Hid (∀ w3, Below w.heap.size w w3 → GetPost w R (.returned (.tuple #[.slice none 0 0, .slice none 0 0, .int .i64 (unpE (readB d r next))])) w3) := Lib.hid (fun w3 h3 => by
            have e1 : (rdD d r next).1 = unpE (readB d r next) := by show oneFE d r next = _; rw [oneFE, if_neg (by rw [hP]; simp), oneE, if_pos hU]
            rw [e1, if_pos hU] at hR
            rw [← hR]; exact getPost_bad h3)
          have hb := neq_true hU
          generalize readB d r next = b at *
          generalize unpE b = er at *
          clear hU hP hR
          go_wp2_with fail
          refine hrd.mono ?_
          rintro e w3 ⟨rfl, hb3⟩
          clear hrd
          go_wp2_with fail
          refine (hun w3 (by omega)).mono ?_
          rintro e w4 ⟨v4, rfl, _, hb4⟩
          have HW := Lib.hid (HE.out w4 (below_then (HB3.out w3 hb3) hb4))
          clear hun hb3 hb4
          go_wp2_with fail
          go_ret3
          exact HW.out
      · have HE : Hid (∀ w3, Below w.heap.size w w3 → GetPost w R (.returned (.tuple #[.slice none 0 0, .slice none 0 0, .int .i64 (pagedE d r next)])) w3) := Lib.hid (fun w3 h3 => by
          have e1 : (rdD d r next).1 = pagedE d r next := by show oneFE d r next = _; rw [oneFE, if_pos hP]
          rw [e1, if_pos hP] at hR
          rw [← hR]; exact getPost_bad h3)
        have hb := neq_true hP
        generalize pagedE d r next = er at *
        clear hP hR
        go_wp2_with fail
        refine hrd.mono ?_
        rintro e w3 ⟨rfl, hb3⟩
        clear hrd
        have HW := Lib.hid (HE.out w3 (HB3.out w3 hb3))
        clear hb3
        go_wp2_with fail
        go_ret3
        exact HW.out
end Go.Proofs.YtopnfpobbemfbaaDoor
