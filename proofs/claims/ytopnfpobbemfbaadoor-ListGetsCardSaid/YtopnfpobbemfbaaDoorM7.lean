/- Texts that other texts of this claim lean on, one behind the other. -/
import Derived.Test.YtopnfpobbemfbaaDoorM3
import Derived.Test.YtopnfpobbemfbaaDoorM4
import Derived.Test.YtopnfpobbemfbaaDoorM6
import Derived.WalkMore
import Derived.Test.YtopnfpobbemfbaaDoorM2
/- The walks of the chapter on free pages: what a page has. -/
namespace Go.Proofs.YtopnfpobbemfbaaDoor
open Go.RowKit Go.Shelf
attribute [local go_sem] Oper.semAt_some

def oneFE (d : List Rg) (r p : Int) : Int := if pagedE d r p ≠ 0 then pagedE d r p else oneE (readB d r p)
def oneFL (d : List Rg) (r p : Int) : List Int := if oneFE d r p = 0 then oneL (readB d r p) else []
def OneG (w : World) (E : Int) (l : List Int) (e : Ending) (w' : World) : Prop :=
  ∃ v, e = .returned (.tuple #[v, .int .i64 E]) ∧ w'.ownsRow w.heap.size 3 1 v l.length (l.map (Value.int .i64)) ∧ Below w.heap.size w w'
theorem oneG_nil {w w' : World} {E : Int} (h : Below w.heap.size w w') : OneG w E [] (.returned (.tuple #[.slice none 0 0, .int .i64 E])) w' := ⟨_, rfl, World.ownsRow_nil _ _ _ _, h⟩
theorem neq_true {E : Int} (h : E ≠ 0) : (E != 0) = true := by simpa using h

set_option maxRecDepth 100000 in
set_option maxHeartbeats 4000000 in
theorem lone_page {w : World} {B da M : Nat} {d : List Rg} (h : One B w da M d) (r p : Int) (hE : pagedE d r p ≠ 0) :
    Calls Tryd.prog 36 #[.pointer (some ⟨da, 0, none⟩), .int .i64 r, .int .i64 p] w (OneG w (oneFE d r p) (oneFL d r p)) := by
  have hr := read_o h r p
  have HF := Lib.hid (show oneFE d r p = pagedE d r p by rw [oneFE, if_pos hE])
  have HL := Lib.hid (show oneFL d r p = [] by rw [oneFL, HF.out, if_neg hE])
  have hb := neq_true hE
  generalize pagedE d r p = E at *
  clear hE
  go_enter Tryd.func36, Tryd.ntmps36
  go_wp2_with fail
  refine hr.mono ?_
  rintro e w1 ⟨v1, rfl, ho1, hb1⟩
  clear hr
  go_wp2_with fail
  go_ret2
  rw [HF.out, HL.out]
  exact oneG_nil hb1

set_option maxRecDepth 100000 in
set_option maxHeartbeats 4000000 in
theorem lone_bad {w : World} {B da M : Nat} {d : List Rg} (h : One B w da M d) (hh : Half w) (r p : Int) (hE : pagedE d r p = 0) (hU : unpE (readB d r p) ≠ 0) :
    Calls Tryd.prog 36 #[.pointer (some ⟨da, 0, none⟩), .int .i64 r, .int .i64 p] w (OneG w (oneFE d r p) (oneFL d r p)) := by
  have hr := read_o h r p
  rw [hE] at hr
  have HF := Lib.hid (show oneFE d r p = unpE (readB d r p) by rw [oneFE, if_neg (by rw [hE]; simp), oneE, if_pos hU])
  have HL := Lib.hid (show oneFL d r p = [] by rw [oneFL, HF.out, if_neg hU])
  have hb := neq_true hU
  generalize readB d r p = b at *
  generalize hUE : unpE b = E at *
  have HUE := Lib.hid hUE
  clear hE hU hUE
  go_enter Tryd.func36, Tryd.ntmps36
  go_wp2_with fail
  refine hr.mono ?_
  rintro e w1 ⟨v1, rfl, ho1, hb1⟩
  obtain ⟨a1, c1, rfl, hbs1⟩ := Bs.of_own ho1
  have hu := unpack_any a1 b.length c1 b w1 hbs1 (hh.below (Nat.le_refl _) hb1)
  rw [HUE.out] at hu
  clear hr ho1 hbs1
  go_wp2_with fail
  refine hu.mono ?_
  rintro e w2 ⟨v2, rfl, ho2, hb2⟩
  have hB := below_then hb1 hb2
  clear hu ho2 hb1 hb2
  go_wp2_with fail
  go_ret2
  rw [HF.out, HL.out]
  exact oneG_nil hB

set_option maxRecDepth 100000 in
set_option maxHeartbeats 4000000 in
theorem lone_form {w : World} {B da M : Nat} {d : List Rg} (h : One B w da M d) (hh : Half w) (r p : Int) (hE : pagedE d r p = 0) (hU : unpE (readB d r p) = 0) (hC : unpK (readB d r p) ≠ 4 ∨ (unpL (readB d r p)).length ≠ 1 ∨ ((unpL (readB d r p))[0]?.getD []).length % 2 ≠ 0) :
    Calls Tryd.prog 36 #[.pointer (some ⟨da, 0, none⟩), .int .i64 r, .int .i64 p] w (OneG w (oneFE d r p) (oneFL d r p)) := by
  have hr := read_o h r p
  rw [hE] at hr
  have HF := Lib.hid (show oneFE d r p = 11 by rw [oneFE, if_neg (by rw [hE]; simp), oneE, if_neg (by rw [hU]; simp), if_pos hC])
  have HL := Lib.hid (show oneFL d r p = [] by rw [oneFL, HF.out]; rfl)
  generalize readB d r p = b at *
  have HUE := Lib.hid hU
  clear hE hU
  have main : ∀ (w1 : World) (a1 : Option Addr) (c1 : Nat), Bs w1 a1 b.length c1 b → Below w.heap.size w w1 → Calls Tryd.prog 49 #[.slice a1 b.length c1] w1 (UnpPost w1 (unpK b) (unpL b) 0) := fun w1 a1 c1 hbs hb => by
    have hu := unpack_any a1 b.length c1 b w1 hbs (hh.below (Nat.le_refl _) hb)
    rwa [HUE.out] at hu
  generalize unpK b = k at *
  generalize unpL b = L at *
  by_cases hk : k = 4
  · subst hk
    by_cases hl : L.length = 1
    · have hpar : (L[0]?.getD []).length % 2 ≠ 0 := by
        rcases hC with h | h | h
        · exact absurd rfl h
        · exact absurd hl h
        · exact h
      obtain ⟨x, hx⟩ : ∃ x, L[0]?.getD [] = x := ⟨_, rfl⟩
      rw [hx] at hpar
      have HX := Lib.hid hx
      have HLL := Lib.hid hl
      clear hC hx hl
      go_enter Tryd.func36, Tryd.ntmps36
      go_wp2_with fail
      refine hr.mono ?_
      rintro e w1 ⟨v1, rfl, ho1, hb1⟩
      obtain ⟨a1, c1, rfl, hbs1⟩ := Bs.of_own ho1
      have hu := main w1 a1 c1 hbs1 hb1
      clear hr ho1 hbs1
      go_wp2_with fail
      refine hu.mono ?_
      rintro e w2 ⟨v2, rfl, ho2, hb2⟩
      have hB := below_then hb1 hb2
      obtain ⟨a2, c2, rfl, hbss⟩ := ho2.bss
      rw [HLL.out] at hbss
      have hll : ((L.length : Nat) : Int) = 1 := by rw [HLL.out]; rfl
      obtain ⟨b3, o3, a3, n3, c3, rfl, hb3, hcell, hbs3⟩ := hbss.at (k := 0) (by omega)
      rw [HX.out] at hbs3
      have hn3 := hbs3.len
      rw [Nat.add_zero] at hcell
      have hcc := hbss.2.1
      have q1 : ((n3 : Int) % 2 == 0) = false := by rw [beq_eq_false_iff_ne]; omega
      have q2 : ((n3 : Int) % 2 != 0) = true := by rw [bne_iff_ne]; omega
      have q3 : ((n3 : Int).tmod 2 != 0) = true := by rw [bne_iff_ne, Int.tmod_eq_emod_of_nonneg (by omega)]; omega
      have d0 : ((1 : Int) != 1) = false := by simp
      have hn3' := hbs3.cap
      unfold maxLen at hn3'
      rw [HLL.out]
      clear hu ho2 hb1 hb2 hbs3 hbss hll
      have HN3 := Lib.hid hn3
      clear hn3 hpar
      go_wp2_with fail
      go_ret2
      rw [HF.out, HL.out]
      exact oneG_nil hB
    · have d1 : ((L.length : Int) == 1) = false := by rw [beq_eq_false_iff_ne]; omega
      have d2 : ((L.length : Int) != 1) = true := by rw [bne_iff_ne]; omega
      clear hC
      go_enter Tryd.func36, Tryd.ntmps36
      go_wp2_with fail
      refine hr.mono ?_
      rintro e w1 ⟨v1, rfl, ho1, hb1⟩
      obtain ⟨a1, c1, rfl, hbs1⟩ := Bs.of_own ho1
      have hu := main w1 a1 c1 hbs1 hb1
      clear hr ho1 hbs1
      go_wp2_with fail
      refine hu.mono ?_
      rintro e w2 ⟨v2, rfl, ho2, hb2⟩
      have hB := below_then hb1 hb2
      obtain ⟨a2, c2, rfl, hbss⟩ := ho2.bss
      have hl := hbss.2.1
      have hl2 := hbss.2.2.1
      unfold maxLen at hl2
      clear hu ho2 hb1 hb2 hbss
      go_wp2_with fail
      go_ret2
      rw [HF.out, HL.out]
      exact oneG_nil hB
  · have d1 : ((k.toNat : Int) == 4) = false := by
      rw [beq_eq_false_iff_ne]
      intro e
      exact hk (UInt8.toNat_inj.1 (by show k.toNat = 4; omega))
    have d2 : ((k.toNat : Int) != 4) = true := by rw [bne_iff_ne]; exact beq_eq_false_iff_ne.1 d1
    clear hC
    go_enter Tryd.func36, Tryd.ntmps36
    go_wp2_with fail
    refine hr.mono ?_
    rintro e w1 ⟨v1, rfl, ho1, hb1⟩
    obtain ⟨a1, c1, rfl, hbs1⟩ := Bs.of_own ho1
    have hu := main w1 a1 c1 hbs1 hb1
    clear hr ho1 hbs1
    go_wp2_with fail
    refine hu.mono ?_
    rintro e w2 ⟨v2, rfl, ho2, hb2⟩
    have hB := below_then hb1 hb2
    obtain ⟨a2, c2, rfl, hbss⟩ := ho2.bss
    clear hu ho2 hb1 hb2 hbss
    go_wp2_with fail
    go_ret2
    rw [HF.out, HL.out]
    exact oneG_nil hB

/-! the words of a page, one by one -/
def wordAt (c : List UInt8) (k : Nat) : Int := (((c[2 * k]?.getD 0).toNat * 256 + (c[2 * k + 1]?.getD 0).toNat : Nat) : Int)
theorem wordAt_cons (a b : UInt8) (r : List UInt8) (k : Nat) : wordAt (a :: b :: r) (k + 1) = wordAt r k := by
  unfold wordAt
  rw [show 2 * (k + 1) = 2 * k + 1 + 1 by omega]
  simp
theorem words_at (N : Nat) : ∀ c : List UInt8, c.length = 2 * N → (List.range N).map (wordAt c) = wordsOf c := by
  induction N with
  | zero => intro c h; rw [List.eq_nil_of_length_eq_zero h]; rfl
  | succ N ih =>
    intro c h
    match c, h with
    | a :: b :: r, h =>
      have h2 : r.length = 2 * N := by simp at h; omega
      rw [List.range_succ_eq_map, List.map_cons, List.map_map, wordsOf]
      congr 1
      rw [← ih r h2]
      apply List.map_congr_left
      intro k _
      exact wordAt_cons a b r k
    | [_], h => simp at h; omega
    | [], h => simp at h
theorem or256i (x c : Nat) (hx : x < 256) (hc : c < 256) : bits .or .i64 ((x : Int) * 256) (c : Int) = ((x * 256 + c : Nat) : Int) := by
  have e : x * 256 ||| c = x * 256 + c := by
    have := Nat.shiftLeft_add_eq_or_of_lt (i := 8) (b := c) (by omega) x
    rw [Nat.shiftLeft_eq] at this
    exact this.symm
  have e2 : ((x : Int) * 256) = ((x * 256 : Nat) : Int) := by omega
  show IntKind.i64.wrap ((BitVec.ofInt 64 ((x : Int) * 256) ||| BitVec.ofInt 64 (c : Int)).toNat : Int) = _
  rw [e2, BitVec.toNat_or, ofInt_u64 (x * 256) (by omega), ofInt_u64 c (by omega), e]
  simp [IntKind.wrap, IntKind.signed, IntKind.bits]
  omega
theorem keeps_own {W W' : World} {base : Nat} {e : TypeId} {size : Nat} {v : Value} {n : Nat} {xs : List Value} (h : W.ownsRow base e size v n xs) (hg : W.grownBy W' v.ownBlock) (B : Nat) : KeepsFrom B W W' := by
  refine ⟨hg.size, fun k o _ hk hc => ?_⟩
  rw [hg.block k (Array.getElem?_eq_some_iff.1 hk).1 (fun e => ?_)]
  · exact hk
  · rcases h.2 with ⟨rfl, _⟩ | ⟨g, cap, cur, rfl, _, hh, _⟩
    · cases e
    · cases e
      rw [hh] at hk; cases hk; cases hc
theorem info_i64O : (Tryd.prog.info? 3).map (fun i => (i.zero, i.size, i.bytes)) = some (some (.int .i64 0), 1, 8) := by kernel_rfl
/-- What the rounds so far have laid. -/
def OutI (c : List UInt8) (B0 : Nat) (w2 : World) (N : Nat) (pre : List (Fin N)) (W : World) : Prop :=
  (∃ v, W.heap[w2.heap.size]? = some (.cells #[v] 22 (0, 0)) ∧ W.ownsRow B0 3 1 v pre.length ((pre.map fun x => wordAt c x.1).map (Value.int .i64))) ∧ Below w2.heap.size w2 W ∧ B0 ≤ W.heap.size
theorem outI_own (c : List UInt8) (B0 : Nat) (w2 : World) (N B : Nat) (hB : w2.heap.size ≤ B) : OwnFrom B (OutI c B0 w2 N) := by
  rintro pre X Y row ⟨⟨v, h1, h2⟩, h3, h4⟩ hg hr
  refine ⟨⟨v, ?_, ?_⟩, h3.grown hg h3.size (fun k e => Nat.le_trans hB (hr k e).1), Nat.le_trans h4 hg.size⟩
  · rw [hg.block _ (Array.getElem?_eq_some_iff.1 h1).1 (fun e => ?_)]
    · exact h1
    · obtain ⟨_, o, ho, hc⟩ := hr _ e.symm
      rw [h1] at ho; cases ho; cases hc
  · refine h2.kept hg ?_
    cases hv : v.ownBlock with
    | none => exact .inl rfl
    | some g =>
      right
      intro e
      obtain ⟨_, o, ho, hc⟩ := hr g e.symm
      rcases h2.2 with ⟨rfl, _⟩ | ⟨g', cap, cur, rfl, _, hh, _⟩
      · cases hv
      · cases hv
        rw [hh] at ho; cases ho; cases hc
def TwoAt (b o : Nat) (y0 y1 : Nat) (W : World) : Prop := W.cell? ⟨b, o, none⟩ = some (.int .u8 (y0 : Int)) ∧ W.cell? ⟨b, o + 1, none⟩ = some (.int .u8 (y1 : Int))
theorem TwoAt.below {b o y0 y1 : Nat} {W W' : World} (h : TwoAt b o y0 y1 W) (hb : Below W.heap.size W W') : TwoAt b o y0 y1 W' :=
  ⟨(hb.cell (p := ⟨b, o, none⟩) (World.block_lt_of_cell? _ _ h.1)).trans h.1, (hb.cell (p := ⟨b, o + 1, none⟩) (World.block_lt_of_cell? _ _ h.2)).trans h.2⟩
theorem TwoAt.block {b o y0 y1 : Nat} {W W' : World} (h : TwoAt b o y0 y1 W) (hb : W'.heap[b]? = W.heap[b]?) : TwoAt b o y0 y1 W' :=
  ⟨(World.cell?_of_block hb).trans h.1, (World.cell?_of_block hb).trans h.2⟩

theorem unpL_len (b : List UInt8) (i : Nat := 0) : ((unpL b)[i]?.getD []).length ≤ 128 := by
  unfold unpL
  split
  · rename_i h0
    have hb : b.length = 128 := by
      unfold unpE at h0
      split at h0
      · cases h0
      · omega
    cases hx : (cutS b (min (numS b) 122))[i]? with
    | none => simp
    | some c =>
      have hm := List.mem_of_getElem? hx
      unfold cutS at hm
      obtain ⟨k, _, rfl⟩ := List.mem_map.1 hm
      simp [cellS]; omega
  · simp

set_option maxRecDepth 100000 in
set_option maxHeartbeats 4000000 in
theorem lone_loop {w : World} {B da M : Nat} {d : List Rg} (h : One B w da M d) (hh : Half w) (r p : Int) (hE : pagedE d r p = 0) (hU : unpE (readB d r p) = 0) (hk : unpK (readB d r p) = 4) (hl : (unpL (readB d r p)).length = 1) (hpar : ((unpL (readB d r p))[0]?.getD []).length % 2 = 0) :
    Calls Tryd.prog 36 #[.pointer (some ⟨da, 0, none⟩), .int .i64 r, .int .i64 p] w (OneG w (oneFE d r p) (oneFL d r p)) := by
  have hr := read_o h r p
  rw [hE] at hr
  have HF0 := Lib.hid (show oneFE d r p = if ((unpL (readB d r p))[0]?.getD []).length = 0 ∨ 120 < ((unpL (readB d r p))[0]?.getD []).length then 11 else 0 by rw [oneFE, if_neg (by rw [hE]; simp), oneE, if_neg (by rw [hU]; simp), if_neg (by rw [hk, hl, hpar]; simp)])
  have HL0 := Lib.hid (show oneFL d r p = if oneFE d r p = 0 then wordsOf ((unpL (readB d r p))[0]?.getD []) else [] by
    rw [oneFL, oneL]
    by_cases h0 : oneFE d r p = 0
    · rw [if_pos h0, if_pos h0, if_pos (by rw [oneFE, if_neg (by rw [hE]; simp)] at h0; exact h0)]
    · rw [if_neg h0, if_neg h0])
  generalize readB d r p = b at *
  have HUE := Lib.hid hU
  have HK := Lib.hid hk
  have main : ∀ (w1 : World) (a1 : Option Addr) (c1 : Nat), Bs w1 a1 b.length c1 b → Below w.heap.size w w1 → Calls Tryd.prog 49 #[.slice a1 b.length c1] w1 (UnpPost w1 4 (unpL b) 0) := fun w1 a1 c1 hbs hb => by
    have hu := unpack_any a1 b.length c1 b w1 hbs (hh.below (Nat.le_refl _) hb)
    rwa [HUE.out, HK.out] at hu
  clear hE hU hk
  have hL128 := unpL_len b
  generalize unpL b = L at *
  obtain ⟨c, hc⟩ : ∃ c, L[0]?.getD [] = c := ⟨_, rfl⟩
  rw [hc] at HF0 HL0 hpar
  have HC := Lib.hid hc
  have HLL := Lib.hid hl
  generalize oneFE d r p = FE at *
  generalize oneFL d r p = FL at *
  have hN128 : c.length ≤ 128 := by rw [← HC.out]; exact hL128
  obtain ⟨N, hN⟩ : ∃ N, c.length = 2 * N := ⟨c.length / 2, by omega⟩
  have HN := Lib.hid hN
  have hN64 : N ≤ 64 := by omega
  clear hc hl hpar hN hL128
  refine (callsIn_wide (n := 8)).1 ?_
  refine callsIn_of_wp_marks Tryd.func36 rfl trivial ?_ rfl
  simp only [Tryd.ntmps36, List.size_toArray, List.length_cons, List.length_nil, Nat.reduceAdd, Nat.reduceSub, Array.replicate_succ, Array.replicate_zero, List.push_toArray, List.append_toArray, List.nil_append, List.cons_append]
  gi_wp2_with (first
    | (refine ⟨trivial, ?_⟩; gi_at_call 48; refine (callsIn_wide.2 hr).mono ?_; rintro e w1 ⟨v1, rfl, ho1, hb1⟩; obtain ⟨a1, c1, rfl, hbs1⟩ := Bs.of_own ho1; have hu := main w1 a1 c1 hbs1 hb1; clear ho1 hbs1)
    | (refine ⟨trivial, ?_⟩; gi_at_call 49; refine (callsIn_wide.2 hu).mono ?_; rintro e w2 ⟨v2, rfl, ho2, hb2⟩; have hB := below_then hb1 hb2; obtain ⟨a2, c2, rfl, hbss⟩ := ho2.bss; rw [HLL.out] at hbss ⊢; obtain ⟨b3, o3, a3, n3, c3, rfl, hb3, hcell, hbs3⟩ := hbss.at (k := 0) (by omega); rw [HC.out] at hbs3; have hn3 : 2 * N = n3 := by { have := hbs3.len; rw [HN.out] at this; exact this }; subst hn3; rw [Nat.add_zero] at hcell; have hcc := hbss.2.1; have hcc3 := hbs3.cap; unfold maxLen at hcc3; clear ho2 hb1 hb2 hbss hu))
  have hch : Calls Tryd.prog 50 #[.slice a3 (2 * N) c3, .int .i64 2] (w2.alloc (.cells #[.slice none 0 0] 22)) fun e w' => e = .returned (.func (.func 59) #[] #[.pointer (some ⟨w2.heap.size + 1, 0, none⟩), .pointer (some ⟨w2.heap.size + 1 + 1, 0, none⟩)]) ∧
      ((w2.alloc (.cells #[.slice none 0 0] 22)).alloc (.cells #[.slice a3 (2 * N) c3] 32)).alloc (.cells #[.int .i64 2] 3) = w' := by
    have := chunk_any a3 (2 * N) c3 2 (w2.alloc (.cells #[.slice none 0 0] 22)) (by omega)
    rw [World.size_alloc] at this
    exact this
  refine ⟨trivial, (callsIn_wide.2 hch).mono ?_⟩
  rintro e w3 ⟨rfl, rfl⟩
  have hsz : (((w2.alloc (.cells #[.slice none 0 0] 22)).alloc (.cells #[.slice a3 (2 * N) c3] 32)).alloc (.cells #[.int .i64 2] 3)).heap.size = w2.heap.size + 3 := by simp
  have hw0 : Below w2.heap.size w2 (((w2.alloc (.cells #[.slice none 0 0] 22)).alloc (.cells #[.slice a3 (2 * N) c3] 32)).alloc (.cells #[.int .i64 2] 3)) := (((Below.refl _ _).alloc (Nat.le_refl _) _).alloc (by simp) _).alloc (by simp; omega) _
  have hx0 : (((w2.alloc (.cells #[.slice none 0 0] 22)).alloc (.cells #[.slice a3 (2 * N) c3] 32)).alloc (.cells #[.int .i64 2] 3)).heap[w2.heap.size]? = some (.cells #[.slice none 0 0] 22 (0, 0)) := by
    rw [Below.heap_alloc _ _ _ (by simp; omega), Below.heap_alloc _ _ _ (by simp)]; exact World.alloc_heap_new w2 _
  have hx1 : (((w2.alloc (.cells #[.slice none 0 0] 22)).alloc (.cells #[.slice a3 (2 * N) c3] 32)).alloc (.cells #[.int .i64 2] 3)).heap[w2.heap.size + 1]? = some (.cells #[.slice a3 (2 * N) c3] 32 (0, 0)) := by
    rw [Below.heap_alloc _ _ _ (by simp)]
    have := World.alloc_heap_new (w2.alloc (.cells #[.slice none 0 0] 22)) (.cells #[.slice a3 (2 * N) c3] 32)
    rwa [World.size_alloc] at this
  have hx2 : (((w2.alloc (.cells #[.slice none 0 0] 22)).alloc (.cells #[.slice a3 (2 * N) c3] 32)).alloc (.cells #[.int .i64 2] 3)).heap[w2.heap.size + 1 + 1]? = some (.cells #[.int .i64 2] 3 (0, 0)) := by
    have := World.alloc_heap_new ((w2.alloc (.cells #[.slice none 0 0] 22)).alloc (.cells #[.slice a3 (2 * N) c3] 32)) (.cells #[.int .i64 2] 3)
    rwa [World.size_alloc, World.size_alloc] at this
  generalize (((w2.alloc (.cells #[.slice none 0 0] 22)).alloc (.cells #[.slice a3 (2 * N) c3] 32)).alloc (.cells #[.int .i64 2] 3)) = wC at *
  clear hch hcell hr main
  gi_wp2
  obtain ⟨bb, oo, hbb⟩ : ∃ bb oo, 0 < 2 * N → a3 = some ⟨bb, oo, none⟩ := by
    by_cases h0 : 0 < 2 * N
    · obtain ⟨bb, oo, e, _⟩ := hbs3.cell (k := 0) h0
      exact ⟨bb, oo, fun _ => e⟩
    · exact ⟨0, 0, fun h => absurd h h0⟩
  have HX1 := Lib.hid hx1
  have HX2 := Lib.hid hx2
  have hCN : chunkN (2 * N) 2 = N := by unfold chunkN; omega
  have HCN := Lib.hid hCN
  clear hx1 hx2 hCN
  refine wpIn_range_one rfl (by omega) (gf := 59) (lb := #[.pointer (some ⟨w2.heap.size + 1, 0, none⟩), .pointer (some ⟨w2.heap.size + 1 + 1, 0, none⟩)]) rfl trivial (enters_of Tryd.func59 (by kernel_rfl) rfl)
    (chunk_stops 7 (by omega) (w2.heap.size + 1) (w2.heap.size + 1 + 1) w2.heap.size a3 bb oo (2 * N) c3 2 hbb (by omega) (by omega) hcc3.1 (by omega) wC HX1.out HX2.out) keepC_t (keepC_b (by omega)) (fun W => KeepC.refl _ _ W) (Below.refl _ _) (fun _ => rfl)
    (OutI c (w2.heap.size + 3) w2 (chunkN (2 * N) 2)) (fun _ _ _ => False) (outI_own _ _ _ _ _ (by omega)) (fun _ _ _ _ _ hs _ _ => hs)
    ⟨⟨_, hx0, World.ownsRow_nil _ _ _ _⟩, hw0, by omega⟩ ?round ?done ?stop
  case round =>
    intro l x W K hK
    have hxl := x.2
    have hNN := HCN.out
    have hxN : x.1 < N := by omega
    obtain ⟨q, hq⟩ : ∃ q, oo + 2 * x.1 = q := ⟨_, rfl⟩
    have hcv : chunkV bb oo (2 * N) 2 x.1 = .slice (some ⟨bb, q, none⟩) 2 2 := by
      rw [chunkV, hq, show min 2 (2 * N - 2 * x.1) = 2 by omega]
    rw [hcv]
    obtain rfl := hbb (by omega)
    obtain ⟨b9, o9, e9, hbl, hc9⟩ := hbs3.cell (k := 0) (by omega)
    cases e9
    have k0 := hc9 (2 * x.1) (by omega)
    have k1 := hc9 (2 * x.1 + 1) (by omega)
    rw [hq] at k0
    rw [← Nat.add_assoc, hq] at k1
    have hT : TwoAt bb q (c[2 * x.1]?.getD 0).toNat (c[2 * x.1 + 1]?.getD 0).toNat w2 := ⟨k0, k1⟩
    have HWA := Lib.hid (show wordAt c x.1 = (((c[2 * x.1]?.getD 0).toNat * 256 + (c[2 * x.1 + 1]?.getD 0).toNat : Nat) : Int) from rfl)
    have l0 := (c[2 * x.1]?.getD 0).toNat_lt
    have l1 := (c[2 * x.1 + 1]?.getD 0).toNat_lt
    generalize (c[2 * x.1]?.getD 0).toNat = y0 at *
    generalize (c[2 * x.1 + 1]?.getD 0).toNat = y1 at *
    have HWB : Hid (wordAt c x.1 = bits .or .i64 ((y0 : Int) * 256) (y1 : Int)) := Lib.hid (HWA.out.trans (or256i y0 y1 (by omega) (by omega)).symm)
    clear HWA
    have l0' : y0 < 256 := by omega
    have l1' : y1 < 256 := by omega
    have f0 : ∀ W, TwoAt bb q y0 y1 W → W.cell? ⟨bb, q, none⟩ = some (.int .u8 (y0 : Int)) := fun W h => h.1
    have f1 : ∀ W, TwoAt bb q y0 y1 W → W.cell? ⟨bb, q + 1, none⟩ = some (.int .u8 (y1 : Int)) := fun W h => h.2
    clear hxl hNN hq hcv hc9 k0 k1 l0 l1
    gi_wp2
    intro l' pre W' hI hlt
    obtain ⟨⟨v, g1, g2⟩, g3, g4⟩ := hI
    have hTW : TwoAt bb q y0 y1 W'.drew := hT.below g3.drew
    obtain ⟨i0, hi0, hz0, hz1, hz2⟩ := info_parts info_i64O
    have hNN := HCN.out
    have g2' : W'.drew.ownsRow (w2.heap.size + 3) 3 1 v pre.length ((pre.map fun x => wordAt c x.1).map (Value.int .i64)) := g2
    obtain ⟨v9, w9, hr9, ho9, hg9, _⟩ := run_append_new (P := Tryd.prog) (w := W'.drew) (w2.heap.size + 3) 22 3 i0 _ 1 8 Tryd.underlying22 hi0 hz0 hz1 hz2 rfl (by decide) g2' #[.int .i64 (bits .or .i64 ((y0 : Int) * 256) (y1 : Int))] rfl (by intro u hu; simp at hu; subst hu; rfl) (by unfold maxLen; omega) (by omega) g4
    have hge := own_ge g2'
    have hlt0 : w2.heap.size < W'.drew.heap.size := (Array.getElem?_eq_some_iff.1 g1).1
    have hA0 : Below W'.drew.heap.size W'.drew (W'.drew.alloc (.cells #[.int .i64 (bits .or .i64 ((y0 : Int) * 256) (y1 : Int))] 3)) := (Below.refl _ _).alloc (Nat.le_refl _) _
    have g1d : W'.drew.heap[w2.heap.size]? = some (.cells #[v] 22 (0, 0)) := g1
    have hneB : some w2.heap.size ≠ v.ownBlock := fun e => by have := hge _ e.symm; omega
    have g19 : w9.heap[w2.heap.size]? = some (.cells #[v] 22 (0, 0)) := (hg9.block _ hlt0 hneB).trans g1d
    have b0 : W'.drew.cell? ⟨w2.heap.size, 0, none⟩ = some v := by simp [World.cell?, g1d]
    have b1 : (W'.drew.alloc (.cells #[.int .i64 (bits .or .i64 ((y0 : Int) * 256) (y1 : Int))] 3)).cell? ⟨w2.heap.size, 0, none⟩ = some v := (hA0.cell (p := ⟨w2.heap.size, 0, none⟩) hlt0).trans b0
    have b9 : w9.cell? ⟨w2.heap.size, 0, none⟩ = some v := by simp [World.cell?, g19]
    have bf : w9.frozen? ⟨w2.heap.size, 0, none⟩ = false := by simp [World.frozen?, g19]
    have hTA : TwoAt bb q y0 y1 (W'.drew.alloc (.cells #[.int .i64 (bits .or .i64 ((y0 : Int) * 256) (y1 : Int))] 3)) := hTW.below hA0
    have hbW : bb < W'.drew.heap.size := World.block_lt_of_cell? _ _ hTW.1
    have hT9 : TwoAt bb q y0 y1 w9 := hTW.block (hg9.block bb hbW (fun e => by have := hge bb e.symm; omega))
    have hTS : TwoAt bb q y0 y1 (w9.setCell ⟨w2.heap.size, 0, none⟩ v9) := hT9.block (Below.heap_setCell _ _ _ bb (by simp; omega))
    obtain ⟨a4, k4, rfl, _⟩ := own_slice g2'
    obtain ⟨a5, k5, rfl, _⟩ := own_slice ho9
    have hr8 : (Builtin.append_ #[22, 22] 22 #[.slice a4 pre.length k4, .slice (some ⟨W'.heap.size, 0, none⟩) 1 1]).run Tryd.prog (W'.alloc (.cells #[.int .i64 (bits .or .i64 ((y0 : Int) * 256) (y1 : Int))] 3)).drew = .ok (.slice a5 (pre.length + 1) k5) w9 := hr9
    have hTB : TwoAt bb q y0 y1 (W'.alloc (.cells #[.int .i64 (bits .or .i64 ((y0 : Int) * 256) (y1 : Int))] 3)).drew := hTA
    have b2 : (W'.alloc (.cells #[.int .i64 (bits .or .i64 ((y0 : Int) * 256) (y1 : Int))] 3)).drew.cell? ⟨w2.heap.size, 0, none⟩ = some (.slice a4 pre.length k4) := b1
    have b3 : (W'.alloc (.cells #[.int .i64 (bits .or .i64 ((y0 : Int) * 256) (y1 : Int))] 3)).cell? ⟨w2.heap.size, 0, none⟩ = some (.slice a4 pre.length k4) := b1
    have b4 : W'.cell? ⟨w2.heap.size, 0, none⟩ = some (.slice a4 pre.length k4) := b0
    clear hr9 hTA
    have ENDP : KeepsFrom (w2.heap.size + 3) W' (w9.setCell ⟨w2.heap.size, 0, none⟩ (.slice a5 (pre.length + 1) k5)) ∧ KeepC w2.heap.size [w2.heap.size + 1, w2.heap.size + 1 + 1] W' (w9.setCell ⟨w2.heap.size, 0, none⟩ (.slice a5 (pre.length + 1) k5)) ∧ OutI c (w2.heap.size + 3) w2 (chunkN (2 * N) 2) (pre ++ [x]) (w9.setCell ⟨w2.heap.size, 0, none⟩ (.slice a5 (pre.length + 1) k5)) := by
      have hk8 := keeps_own g2' hg9 (w2.heap.size + 3)
      have hk9 : KeepsFrom (w2.heap.size + 3) W' w9 := ⟨hk8.size, hk8.same⟩
      have hB9 : Below w2.heap.size W' w9 := ((Below.refl w2.heap.size W').drew).grown hg9 (Nat.le_of_lt hlt0) (fun k e => by have := hge k e; omega)
      have hkS : KeepsFrom (w2.heap.size + 3) w9 (w9.setCell ⟨w2.heap.size, 0, none⟩ (.slice a5 (pre.length + 1) k5)) := (KeepsOthers.setCell w9 ⟨w2.heap.size, 0, none⟩ (.slice a5 (pre.length + 1) k5)).from _
      refine ⟨hk9.trans hkS, ⟨hB9.setCell (Nat.le_refl _) _, fun k hk o ho hc => ?_⟩, ⟨.slice a5 (pre.length + 1) k5, ?_, ?_⟩, (g3.trans hB9).setCell (Nat.le_refl _) _, ?_⟩
      · rw [Below.heap_setCell _ _ _ k (by simp at hk; simp; omega), hg9.block k (Array.getElem?_eq_some_iff.1 ho).1 (fun e => by have := hge k e.symm; simp at hk; omega)]
        exact ho
      · rw [heap_setCell_at 0 _ g19]; rfl
      · have := own_set ho9 ⟨w2.heap.size, 0, none⟩ (.slice a5 (pre.length + 1) k5) (fun e => by have := own_ge ho9 _ e; simp at this; omega)
        rw [List.length_append, List.map_append, List.map_append]
        simp only [List.map_cons, List.map_nil, HWB.out]
        exact this
      · have := hg9.size
        simp [World.setCell]
        exact Nat.le_trans g4 this
    have END := Lib.hid ENDP
    clear ENDP g1 g2 g2' g3 g1d g19 ho9 hg9 hge hA0 hneB hlt0 hbW hT hNN hi0 hz0 hz1 hz2 hlt
    gi_wp2_with fail
    refine region_round_held (S := (TwoAt bb q y0 y1)) (by kernel_rfl) (by kernel_rfl) (by exact hTW) (fun hHeld => ?_)
    refine wpAnyH_take (i := 1) (oi := { dst := some 56, op := Op.move (Operand.tmp 13), type := 32, pos := "list.go:96", after := #[], guard := none }) (v := ?_) rfl (by kernel_rfl) (by kernel_rfl) (by kernel_rfl) (fun _ _ _ h => h) (Or.inl ⟨by rfl, ?_⟩) (by assumption) ?_
    rotate_left
    · (intro W hW; (try dsimp only at hW); go_simp <;> (with_reducible rfl))
    try simp only [Act.put, List.setIfInBounds_toArray, List.set_cons_zero, List.set_cons_succ]
    refine wpAnyH_take (i := 2) (oi := { dst := some 57, op := Op.indexAddr 32 (Operand.tmp 56) (Operand.const (Value.int IntKind.i64 0)), type := 0, pos := "list.go:96", after := #[{ on := 1, ground := Ground.data }], guard := none }) (v := ?_) rfl (by kernel_rfl) (by kernel_rfl) (by kernel_rfl) (fun _ _ _ h => h) (Or.inl ⟨by rfl, ?_⟩) (by assumption) ?_
    rotate_left
    · (intro W hW; (try dsimp only at hW); go_simp <;> (with_reducible rfl))
    try simp only [Act.put, List.setIfInBounds_toArray, List.set_cons_zero, List.set_cons_succ]
    refine wpAnyH_take (i := 3) (oi := { dst := some 58, op := Op.load 5 (Operand.tmp 57), type := 5, pos := "list.go:96", after := #[{ on := 2, ground := Ground.data }], guard := none }) (v := ?_) rfl (by kernel_rfl) (by kernel_rfl) (by kernel_rfl) (fun _ _ _ h => h) (Or.inl ⟨by rfl, ?_⟩) (by assumption) ?_
    rotate_left
    · (intro W hW; (try dsimp only at hW); go_simp <;> (with_reducible rfl))
    try simp only [Act.put, List.setIfInBounds_toArray, List.set_cons_zero, List.set_cons_succ]
    refine wpAnyH_take (i := 4) (oi := { dst := some 59, op := Op.convert 5 3 (Operand.tmp 58), type := 3, pos := "list.go:96", after := #[{ on := 3, ground := Ground.data }], guard := none }) (v := ?_) rfl (by kernel_rfl) (by kernel_rfl) (by kernel_rfl) (fun _ _ _ h => h) (Or.inl ⟨by rfl, ?_⟩) (by assumption) ?_
    rotate_left
    · (intro W hW; (try dsimp only at hW); go_simp <;> (with_reducible rfl))
    try simp only [Act.put, List.setIfInBounds_toArray, List.set_cons_zero, List.set_cons_succ]
    refine wpAnyH_take (i := 5) (oi := { dst := some 60, op := Op.binOp BinOp.shl 3 (Operand.tmp 59) (Operand.const (Value.int IntKind.u64 8)) 112, type := 3, pos := "list.go:96", after := #[{ on := 4, ground := Ground.data }], guard := none }) (v := ?_) rfl (by kernel_rfl) (by kernel_rfl) (by kernel_rfl) (fun _ _ _ h => h) (Or.inl ⟨by rfl, ?_⟩) (by assumption) ?_
    rotate_left
    · (intro W hW; (try dsimp only at hW); go_simp <;> (with_reducible rfl))
    try simp only [Act.put, List.setIfInBounds_toArray, List.set_cons_zero, List.set_cons_succ]
    refine wpAnyH_take (i := 6) (oi := { dst := some 61, op := Op.move (Operand.tmp 13), type := 32, pos := "list.go:96", after := #[], guard := none }) (v := ?_) rfl (by kernel_rfl) (by kernel_rfl) (by kernel_rfl) (fun _ _ _ h => h) (Or.inl ⟨by rfl, ?_⟩) (by assumption) ?_
    rotate_left
    · (intro W hW; (try dsimp only at hW); go_simp <;> (with_reducible rfl))
    try simp only [Act.put, List.setIfInBounds_toArray, List.set_cons_zero, List.set_cons_succ]
    refine wpAnyH_take (i := 7) (oi := { dst := some 62, op := Op.indexAddr 32 (Operand.tmp 61) (Operand.const (Value.int IntKind.i64 1)), type := 0, pos := "list.go:96", after := #[{ on := 6, ground := Ground.data }], guard := none }) (v := ?_) rfl (by kernel_rfl) (by kernel_rfl) (by kernel_rfl) (fun _ _ _ h => h) (Or.inl ⟨by rfl, ?_⟩) (by assumption) ?_
    rotate_left
    · (intro W hW; (try dsimp only at hW); go_simp <;> (with_reducible rfl))
    try simp only [Act.put, List.setIfInBounds_toArray, List.set_cons_zero, List.set_cons_succ]
    refine wpAnyH_take (i := 8) (oi := { dst := some 63, op := Op.load 5 (Operand.tmp 62), type := 5, pos := "list.go:96", after := #[{ on := 7, ground := Ground.data }], guard := none }) (v := ?_) rfl (by kernel_rfl) (by kernel_rfl) (by kernel_rfl) (fun _ _ _ h => h) (Or.inl ⟨by rfl, ?_⟩) (by assumption) ?_
    rotate_left
    · (intro W hW; (try dsimp only at hW); go_simp <;> (with_reducible rfl))
    try simp only [Act.put, List.setIfInBounds_toArray, List.set_cons_zero, List.set_cons_succ]
    refine wpAnyH_take (i := 9) (oi := { dst := some 64, op := Op.convert 5 3 (Operand.tmp 63), type := 3, pos := "list.go:96", after := #[{ on := 8, ground := Ground.data }], guard := none }) (v := ?_) rfl (by kernel_rfl) (by kernel_rfl) (by kernel_rfl) (fun _ _ _ h => h) (Or.inl ⟨by rfl, ?_⟩) (by assumption) ?_
    rotate_left
    · (intro W hW; (try dsimp only at hW); go_simp <;> (with_reducible rfl))
    try simp only [Act.put, List.setIfInBounds_toArray, List.set_cons_zero, List.set_cons_succ]
    refine wpAnyH_take (i := 10) (oi := { dst := some 65, op := Op.binOp BinOp.or 3 (Operand.tmp 60) (Operand.tmp 64) 3, type := 3, pos := "list.go:96", after := #[{ on := 5, ground := Ground.data }, { on := 9, ground := Ground.data }], guard := none }) (v := ?_) rfl (by kernel_rfl) (by kernel_rfl) (by kernel_rfl) (fun _ _ _ h => h) (Or.inl ⟨by rfl, ?_⟩) (by assumption) ?_
    rotate_left
    · (intro W hW; (try dsimp only at hW); go_simp <;> (with_reducible rfl))
    try simp only [Act.put, List.setIfInBounds_toArray, List.set_cons_zero, List.set_cons_succ]
    refine wpAnyH_ready (rs := [0, 11]) (by kernel_rfl) (by simp) (AllReadyH.cons (o := { dst := some 55, op := Op.load 22 (Operand.tmp 12), type := 22, pos := "list.go:96", after := #[], guard := none }) rfl (fun K hK => ?_) (AllReadyH.cons (o := { dst := some 66, op := Op.buildSlice 22 1 #[(0, Operand.tmp 65)], type := 22, pos := "list.go:96", after := #[{ on := 10, ground := Ground.data }], guard := none }) rfl (fun K hK => ?_) AllReadyH.nil))
    · rw [if_pos (by rfl)]
      go_wp2_with (fail)
      refine hK.out _ _ (by with_reducible assumption) (fun hHeld => ?_)
      clear hK K
      try simp only [Act.put, List.setIfInBounds_toArray, List.set_cons_zero, List.set_cons_succ]
      refine wpAnyH_ready (rs := [11]) (by kernel_rfl) (by simp) (AllReadyH.cons (o := { dst := some 66, op := Op.buildSlice 22 1 #[(0, Operand.tmp 65)], type := 22, pos := "list.go:96", after := #[{ on := 10, ground := Ground.data }], guard := none }) rfl (fun K hK => ?_) AllReadyH.nil)
      rw [if_pos (by rfl)]
      go_wp2_with (fail)
      refine hK.out _ _ (by exact hTB) (fun hHeld => ?_)
      clear hK K
      try simp only [Act.put, List.setIfInBounds_toArray, List.set_cons_zero, List.set_cons_succ]
      refine wpAnyH_ready (rs := [12]) (by kernel_rfl) (by simp) (AllReadyH.cons (o := { dst := some 67, op := Op.call { callee := Callee.builtin Builtin.append, args := #[Operand.tmp 55, Operand.tmp 66], argTypes := #[22, 22] }, type := 22, pos := "list.go:96", after := #[{ on := 0, ground := Ground.data }, { on := 11, ground := Ground.data }], guard := none }) rfl (fun K hK => ?_) AllReadyH.nil)
      refine step_append_run rfl _ _ _ _ rfl rfl rfl hr8 ?_
      refine hK.out _ _ (by exact hT9) (fun hHeld => ?_)
      clear hK K
      try simp only [Act.put, List.setIfInBounds_toArray, List.set_cons_zero, List.set_cons_succ]
      refine wpAnyH_ready (rs := [13]) (by kernel_rfl) (by simp) (AllReadyH.cons (o := { dst := none, op := Op.store 22 (Operand.tmp 12) (Operand.tmp 67), type := 0, pos := "list.go:96", after := #[{ on := 12, ground := Ground.data }, { on := 12, ground := Ground.chain }, { on := 0, ground := Ground.phase }, { on := 1, ground := Ground.phase }, { on := 2, ground := Ground.phase }, { on := 3, ground := Ground.phase }, { on := 4, ground := Ground.phase }, { on := 5, ground := Ground.phase }, { on := 6, ground := Ground.phase }, { on := 7, ground := Ground.phase }, { on := 8, ground := Ground.phase }, { on := 9, ground := Ground.phase }, { on := 10, ground := Ground.phase }, { on := 11, ground := Ground.phase }, { on := 12, ground := Ground.phase }], guard := none }) rfl (fun K hK => ?_) AllReadyH.nil)
      rw [if_pos (by rfl)]
      go_wp2_with (fail)
      refine hK.out _ _ (by exact hTS) (fun hHeld => ?_)
      clear hK K
      try simp only [Act.put, List.setIfInBounds_toArray, List.set_cons_zero, List.set_cons_succ]
      refine wpAnyH_done (by kernel_rfl) ?_ _
      refine Calm.normal ?_
      clear f0 f1 hHeld hTB hT9 hTS
      gi_wp2_with fail
      exact END.out
    · rw [if_pos (by rfl)]
      go_wp2_with (fail)
      refine hK.out _ _ (by exact hTB) (fun hHeld => ?_)
      clear hK K
      try simp only [Act.put, List.setIfInBounds_toArray, List.set_cons_zero, List.set_cons_succ]
      refine wpAnyH_ready (rs := [0]) (by kernel_rfl) (by simp) (AllReadyH.cons (o := { dst := some 55, op := Op.load 22 (Operand.tmp 12), type := 22, pos := "list.go:96", after := #[], guard := none }) rfl (fun K hK => ?_) AllReadyH.nil)
      rw [if_pos (by rfl)]
      go_wp2_with (fail)
      refine hK.out _ _ (by with_reducible assumption) (fun hHeld => ?_)
      clear hK K
      try simp only [Act.put, List.setIfInBounds_toArray, List.set_cons_zero, List.set_cons_succ]
      refine wpAnyH_ready (rs := [12]) (by kernel_rfl) (by simp) (AllReadyH.cons (o := { dst := some 67, op := Op.call { callee := Callee.builtin Builtin.append, args := #[Operand.tmp 55, Operand.tmp 66], argTypes := #[22, 22] }, type := 22, pos := "list.go:96", after := #[{ on := 0, ground := Ground.data }, { on := 11, ground := Ground.data }], guard := none }) rfl (fun K hK => ?_) AllReadyH.nil)
      refine step_append_run rfl _ _ _ _ rfl rfl rfl hr8 ?_
      refine hK.out _ _ (by exact hT9) (fun hHeld => ?_)
      clear hK K
      try simp only [Act.put, List.setIfInBounds_toArray, List.set_cons_zero, List.set_cons_succ]
      refine wpAnyH_ready (rs := [13]) (by kernel_rfl) (by simp) (AllReadyH.cons (o := { dst := none, op := Op.store 22 (Operand.tmp 12) (Operand.tmp 67), type := 0, pos := "list.go:96", after := #[{ on := 12, ground := Ground.data }, { on := 12, ground := Ground.chain }, { on := 0, ground := Ground.phase }, { on := 1, ground := Ground.phase }, { on := 2, ground := Ground.phase }, { on := 3, ground := Ground.phase }, { on := 4, ground := Ground.phase }, { on := 5, ground := Ground.phase }, { on := 6, ground := Ground.phase }, { on := 7, ground := Ground.phase }, { on := 8, ground := Ground.phase }, { on := 9, ground := Ground.phase }, { on := 10, ground := Ground.phase }, { on := 11, ground := Ground.phase }, { on := 12, ground := Ground.phase }], guard := none }) rfl (fun K hK => ?_) AllReadyH.nil)
      rw [if_pos (by rfl)]
      go_wp2_with (fail)
      refine hK.out _ _ (by exact hTS) (fun hHeld => ?_)
      clear hK K
      try simp only [Act.put, List.setIfInBounds_toArray, List.set_cons_zero, List.set_cons_succ]
      refine wpAnyH_done (by kernel_rfl) ?_ _
      refine Calm.normal ?_
      clear f0 f1 hHeld hTB hT9 hTS
      gi_wp2_with fail
      exact END.out
  case done =>
    rintro D ys W hD hS ⟨⟨v, g1, g2⟩, g3, g4⟩ hKK
    have hS : ys.map Fin.val = List.range N := hS.trans (by rw [HCN.out])
    have hyl : ys.length = N := by have := congrArg List.length hS; simpa using this
    have hmap : (ys.map fun x => wordAt c x.1) = wordsOf c := by
      rw [← words_at N c HN.out, ← hS, List.map_map]; rfl
    rw [hyl, hmap] at g2
    obtain ⟨a4, k4, rfl, hk4, hk4m, _⟩ := own_slice g2
    unfold maxLen at hk4m
    have c12 : W.cell? ⟨w2.heap.size, 0, none⟩ = some (.slice a4 N k4) := by simp [World.cell?, g1]
    have hBW : Below w.heap.size w W := below_then hB g3
    have hWD : Below w.heap.size w (W.putObj D (.deferred none)) := hBW.trans (belowK_b (w := w) (Nat.le_refl _) W D _ _ (by have := hB.size; omega) hKK rfl rfl)
    have hown : (W.putObj D (.deferred none)).ownsRow w.heap.size 3 1 (.slice a4 N k4) N ((wordsOf c).map (Value.int .i64)) := by
      refine own_base ?_ (show w.heap.size ≤ w2.heap.size + 3 by have := hB.size; omega)
      refine ⟨g2.1, g2.2.imp id fun ⟨g, cap, cur, e1, hg, hh', rr⟩ => ⟨g, cap, cur, e1, hg, ?_, rr⟩⟩
      rw [World.putObj_heap_other (fun e => by rw [e] at hh'; rw [hh'] at hKK; cases hKK)]
      exact hh'
    have HOWN := Lib.hid hown
    have HWD := Lib.hid hWD
    have hwl : (wordsOf c).length = N := by rw [wordsOf_length, HN.out]; omega
    have HWL := Lib.hid hwl
    have HG1 := Lib.hid hKK
    clear hyl hmap hS g1 g2 g3 hBW hWD hown hwl hKK
    by_cases h0 : N = 0
    · subst h0
      have HFE : Hid (FE = 11) := Lib.hid (by rw [HF0.out, if_pos (.inl (by rw [HN.out]))])
      have HFL : Hid (FL = []) := Lib.hid (by rw [HL0.out, HFE.out]; rfl)
      gi_wp2
      refine ⟨by simp, .inl ⟨_, _, rfl, run_takeDeferred HG1.out, ?_⟩⟩
      refine ⟨.tuple #[.slice none 0 0, .int .i64 11], ?_, ?_⟩
      · exact (results_tmp2 rfl _ _ _).trans rfl
      · rw [HFE.out, HFL.out]; exact oneG_nil HWD.out
    · have e0 : ((N : Int) == 0) = false := by rw [beq_eq_false_iff_ne]; omega
      by_cases h6 : 60 < N
      · have HFE : Hid (FE = 11) := Lib.hid (by rw [HF0.out, if_pos (.inr (by rw [HN.out]; omega))])
        have HFL : Hid (FL = []) := Lib.hid (by rw [HL0.out, HFE.out]; rfl)
        have e1 : decide ((60 : Int) < N) = true := by simp; omega
        gi_wp2
        refine ⟨by simp, .inl ⟨_, _, rfl, run_takeDeferred HG1.out, ?_⟩⟩
        refine ⟨.tuple #[.slice none 0 0, .int .i64 11], ?_, ?_⟩
        · exact (results_tmp2 rfl _ _ _).trans rfl
        · rw [HFE.out, HFL.out]; exact oneG_nil HWD.out
      · have HFE : Hid (FE = 0) := Lib.hid (by rw [HF0.out, if_neg (by rw [HN.out]; omega)])
        have HFL : Hid (FL = wordsOf c) := Lib.hid (by rw [HL0.out, HFE.out]; rfl)
        have e1 : decide ((60 : Int) < N) = false := by simp; omega
        gi_wp2
        refine ⟨by simp, .inl ⟨_, _, rfl, run_takeDeferred HG1.out, ?_⟩⟩
        refine ⟨.tuple #[.slice a4 N k4, .int .i64 0], ?_, ?_⟩
        · exact (results_tmp2 rfl _ _ _).trans rfl
        · rw [HFE.out, HFL.out]; exact ⟨_, rfl, by rw [HWL.out]; exact HOWN.out, HWD.out⟩
  case stop =>
    rintro D c pre W _ _ h _
    exact h.elim

theorem lone_any {w : World} {B da M : Nat} {d : List Rg} (h : One B w da M d) (hh : Half w) (r p : Int) :
    Calls Tryd.prog 36 #[.pointer (some ⟨da, 0, none⟩), .int .i64 r, .int .i64 p] w (OneG w (oneFE d r p) (oneFL d r p)) := by
  by_cases hE : pagedE d r p = 0
  · by_cases hU : unpE (readB d r p) = 0
    · by_cases hC : unpK (readB d r p) ≠ 4 ∨ (unpL (readB d r p)).length ≠ 1 ∨ ((unpL (readB d r p))[0]?.getD []).length % 2 ≠ 0
      · exact lone_form h hh r p hE hU hC
      · simp only [not_or, ne_eq, Decidable.not_not] at hC
        exact lone_loop h hh r p hE hU hC.1 hC.2.1 hC.2.2
    · exact lone_bad h hh r p hE hU
  · exact lone_page h r p hE
end Go.Proofs.YtopnfpobbemfbaaDoor

/- The walks of the chapter on free pages: a list is got. -/
namespace Go.Proofs.YtopnfpobbemfbaaDoor
open Go.RowKit

def rdD (d : List Rg) (r : Int) (p : Int) : Int × List Int := (oneFE d r p, oneFL d r p)
def getD (d : List Rg) (r first : Int) : List Int × List Int × Int := getF (rdD d r) 1000 [] [] first
def OwnInts (w : World) (base : Nat) (v : Value) (l : List Int) : Prop := w.ownsRow base 3 1 v l.length (l.map (Value.int .i64))
def GetPost (w : World) (R : List Int × List Int × Int) (e : Ending) (w' : World) : Prop :=
  ∃ v1 v2, e = .returned (.tuple #[v1, v2, .int .i64 R.2.2]) ∧ OwnInts w' w.heap.size v1 R.1 ∧ OwnInts w' w.heap.size v2 R.2.1 ∧ Below w.heap.size w w'
theorem getPost_bad {w w' : World} {E : Int} (h : Below w.heap.size w w') : GetPost w ([], [], E) (.returned (.tuple #[.slice none 0 0, .slice none 0 0, .int .i64 E])) w' :=
  ⟨_, _, rfl, World.ownsRow_nil _ _ _ _, World.ownsRow_nil _ _ _ _, h⟩
theorem oneFL_len {d : List Rg} {r p : Int} (h : oneFE d r p = 0) : 1 ≤ (oneFL d r p).length ∧ (oneFL d r p).length ≤ 60 := by
  rw [oneFL, if_pos h]
  refine oneL_len ?_
  unfold oneFE at h
  split at h
  · rename_i h1; exact absurd h h1
  · exact h
/-- What the rounds so far have got. -/
def GetRel (w : World) (d : List Rg) (r : Int) (R : List Int × List Int × Int) (l at_ : List Int) (next : Int) (v9 v10 : Value) (wr : World) : Prop :=
  getF (rdD d r) (1000 - at_.length) l at_ next = R ∧ AtOk at_ next ∧ l.length ≤ 998 ∧ OwnInts wr w.heap.size v9 l ∧ OwnInts wr w.heap.size v10 at_ ∧ (v9.ownBlock = none ∨ v9.ownBlock ≠ v10.ownBlock) ∧ Below w.heap.size w wr
def lenSl : Value → Nat | .slice _ n _ => n | _ => 0

/-- One round: what is told is put behind the numbers, its place behind the places. -/
theorem get_round {w : World} {d : List Rg} {r : Int} {R : List Int × List Int × Int} {l at_ : List Int} {next : Int} {v9 v10 : Value} {wr w3 : World} (hrel : GetRel w d r R l at_ next v9 v10 wr) (h0 : next ≠ 0) (_hE : (rdD d r next).1 = 0) {X : List Int} (hX : (rdD d r next).2 = X) (hX1 : 1 ≤ X.length) (hX2 : X.length ≤ 60)
    {a : Option Addr} {n c : Nat} (hb3 : Below wr.heap.size wr w3) (hx : w3.ownsRow wr.heap.size 3 1 (.slice a n c) X.length (X.map (Value.int .i64))) (hn : n = X.length) {a2 : Option Addr} (ha2 : a2 = if c = 1 then a else a.map (·.add (1 * 1))) :
    ∃ v9' w4 v10' w5, (Builtin.append_ #[22, 22] 22 #[v9, .slice a2 (n - 1) (c - 1)]).run Tryd.prog w3 = .ok v9' w4 ∧
      (Builtin.append_ #[22, 22] 22 #[v10, .slice (some ⟨w4.heap.size, 0, none⟩) 1 1]).run Tryd.prog (w4.alloc (.cells #[.int .i64 next] 3)) = .ok v10' w5 ∧
      OwnInts w5 w.heap.size v9' (l ++ X.drop 1) ∧ OwnInts w5 w.heap.size v10' (at_ ++ [next]) ∧ (v9'.ownBlock = none ∨ v9'.ownBlock ≠ v10'.ownBlock) ∧ Below w.heap.size w w5 ∧ Row .i64 w5 a n c X := by
  obtain ⟨hR, hat, hl, h9, h10, hap, hb⟩ := hrel
  obtain ⟨i0, hi, hz0, hz1, hz2⟩ := info_parts info_i64O
  have hle := hat.le
  have hw3 := below_then hb hb3
  have hs3 := hw3.size
  have k9 := own_below h9 (Nat.le_refl _) hb3
  have k10 := own_below h10 (Nat.le_refl _) hb3
  obtain ⟨a', c', e', hrow⟩ := Row.of_own hx
  cases e'
  have hrow1 := hrow.drop 1 hX1
  clear hn
  rw [← ha2] at hrow1
  obtain ⟨v9', w4, hr4, ho4, hg4, hv4⟩ := run_append_row (P := Tryd.prog) (w := w3) w.heap.size 22 3 i0 _ 8 Tryd.underlying22 hi hz0 hz1 hz2 rfl k9 hrow1 (by unfold maxLen; omega) (by omega) hs3
  have hw4 := hw3.grown hg4 hs3 (own_ge k9)
  have hs4 := hw4.size
  have k10' : w4.ownsRow w.heap.size 3 1 v10 at_.length (at_.map (Value.int .i64)) := k10.kept hg4 (by
    cases hv : v10.ownBlock with
    | none => exact .inl rfl
    | some g =>
      right
      intro e
      rcases hap with h | h
      · rw [h] at e; cases e
      · exact h (by rw [hv]; exact e.symm))
  obtain ⟨v10', w5, hr5, ho5, hg5, hv5⟩ := run_append_new (P := Tryd.prog) (w := w4) w.heap.size 22 3 i0 _ 1 8 Tryd.underlying22 hi hz0 hz1 hz2 rfl (by decide) k10' #[.int .i64 next] rfl (by intro u hu; simp at hu; subst hu; rfl) (by unfold maxLen; omega) (by omega) hs4
  have hap4 : v9'.ownBlock = none ∨ v9'.ownBlock ≠ v10.ownBlock := by
    rcases hv4 with h | h
    · rw [h]; exact hap
    · right
      intro e
      rw [h] at e
      have := own_lt k10 _ e.symm
      omega
  have hw5 := hw4.grown hg5 hs4 (own_ge k10')
  have k9' : w5.ownsRow w.heap.size 3 1 v9' (l.length + (X.length - 1)) (l.map (Value.int .i64) ++ (X.drop 1).map (Value.int .i64)) := ho4.kept hg5 hap4
  have hge10 : ∀ k, v10.ownBlock = some k → k < wr.heap.size := own_lt h10
  have hge9 : ∀ k, v9.ownBlock = some k → k < wr.heap.size := own_lt h9
  have hgx : ∀ b off, X.length ≠ 0 → a = some ⟨b, off, none⟩ → wr.heap.size ≤ b := fun b off _ e => own_ge hx b (by rw [e]; rfl)
  refine ⟨v9', w4, v10', w5, hr4, hr5, ?_, ?_, ?_, hw5, ?_⟩
  · unfold OwnInts
    rw [List.length_append, List.length_drop, List.map_append]; exact k9'
  · unfold OwnInts
    rw [List.length_append, List.map_append]; simpa using ho5
  · rcases hv5 with h | h
    · rw [h]; exact hap4
    · by_cases hn : v9'.ownBlock = none
      · exact .inl hn
      · right
        intro e
        rw [h] at e
        have := own_lt ho4 _ e
        omega
  · refine (hrow.grown hg4 ?_).grown hg5 ?_
    · intro b off h1 h2 e
      have := hgx b off h1 h2; have := hge9 b e; omega
    · intro b off h1 h2 e
      have := hgx b off h1 h2; have := hge10 b e; omega

set_option maxRecDepth 100000 in
set_option maxHeartbeats 8000000 in
theorem lget_any {w : World} {B da M : Nat} {d : List Rg} (h : One B w da M d) (hh : Half w) (r first : Int) :
    Calls Tryd.prog 20 #[.pointer (some ⟨da, 0, none⟩), .int .i64 r, .int .i64 first] w (GetPost w (getD d r first)) := by
  have HS : Hid (GetRel w d r (getD d r first) [] [] first (.slice none 0 0) (.slice none 0 0) w) := Lib.hid ⟨rfl, AtOk.start _, Nat.zero_le _, World.ownsRow_nil _ _ _ _, World.ownsRow_nil _ _ _ _, .inl rfl, Below.refl _ _⟩
  generalize getD d r first = R at *
  go_enter Tryd.func20, Tryd.ntmps20
  go_wp2
  go_step3
  go_wp2
  go_step3
  go_wp2
  go_loopw [9, 10, 11] (fun s9 s10 s11 wr => ∃ (l at_ : List Int) (next : Int), s11 = .int .i64 next ∧ GetRel w d r R l at_ next s9 s10 wr) (fun _ s10 _ _ => 1000 - lenSl s10)
  case atStart => exact ⟨[], [], first, rfl, HS.out⟩
  case round =>
    clear HS
    obtain ⟨l, at_, next, rfl, hrel⟩ := hrel
    by_cases hn0 : next = 0
    · subst hn0
      obtain ⟨hR, hat, hl, h9, h10, hap, hb⟩ := hrel
      obtain ⟨k, hk⟩ : ∃ k, 1000 - at_.length = k + 1 := ⟨999 - at_.length, by have := hat.le; omega⟩
      rw [hk, getF_start] at hR
      have HE : Hid (GetPost w R (.returned (.tuple #[u9, u10, .int .i64 0])) wr) := Lib.hid (by rw [← hR]; exact ⟨_, _, rfl, h9, h10, hb⟩)
      clear hR hk h9 h10 hap hat hl
      go_wp2_with fail
      go_ret3
      exact HE.out
    · have hne : (next != 0) = true := neq_true hn0
      have hne2 : (next == 0) = false := by simpa using hn0
      have hone := lone_any (h.below hrel.2.2.2.2.2.2) (hh.below (Nat.le_refl _) hrel.2.2.2.2.2.2) r next
      have HREL := Lib.hid hrel
      obtain ⟨k, hk⟩ : ∃ k, 1000 - at_.length = k + 1 := ⟨999 - at_.length, by have := hrel.2.1.le; omega⟩
      have hR := hrel.1
      rw [hk, getF, if_neg hn0] at hR
      have HAT := Lib.hid hrel.2.1
      have HK := Lib.hid hk
      have hbw := hrel.2.2.2.2.2.2
      obtain ⟨aa, ca, hea, hca, hcam, _⟩ := own_slice hrel.2.2.2.1
      obtain ⟨ab, cb, heb, hcb, hcbm, _⟩ := own_slice hrel.2.2.2.2.1
      have hll := hrel.2.2.1
      have hal := hrel.2.1.le
      subst hea heb
      unfold maxLen at hcam hcbm
      clear hrel hk
      go_wp2_with fail
      refine hone.mono ?_
      rintro e w3 ⟨v3, rfl, ho3, hb3⟩
      clear hone
      by_cases hE : oneFE d r next = 0
      · obtain ⟨X, hX⟩ : ∃ X, oneFL d r next = X := ⟨_, rfl⟩
        have hXl := oneFL_len hE
        rw [hX] at hXl ho3
        rw [show (rdD d r next).1 = 0 from hE, show (rdD d r next).2 = X from hX] at hR
        simp only [ne_eq, not_true, if_false] at hR
        obtain ⟨a3, c3, rfl, hc3, hc3m, _⟩ := own_slice ho3
        obtain ⟨a2, ha2, hsl⟩ := slice_from elem_ints size_ints a3 X.length c3 1 hXl.1
        rw [hE]
        have hsl1 : ∀ W, (Instr.slice 22 (.slice a3 X.length c3) (some (.int .i64 1)) none none).run Tryd.prog W = .ok (.slice a2 (X.length - 1) (c3 - 1)) W := hsl .i64
        obtain ⟨v9, w4, v10, w5, hr4, hr5, ho9, ho10, hap, hb5, hrow⟩ := get_round HREL.out hn0 hE hX hXl.1 hXl.2 hb3 ho3 rfl ha2
        obtain ⟨a9, c9, rfl, row9⟩ := Row.of_own ho9
        obtain ⟨a10, c10, rfl, row10⟩ := Row.of_own ho10
        obtain ⟨b3, o3, e3, _, hcell⟩ := hrow.cellI (k := 0) (by omega)
        subst e3
        have cx := hcell 0 (by omega)
        rw [Nat.add_zero] at cx
        obtain ⟨nx, hnx⟩ : ∃ nx, atI X 0 = nx := ⟨_, rfl⟩
        rw [hnx] at cx
        have HNX := Lib.hid hnx
        have HR := Lib.hid hR
        have HO9 := Lib.hid ho9
        have HO10 := Lib.hid ho10
        have HAP := Lib.hid hap
        have HB5 := Lib.hid hb5
        have hris := rising_any row9
        have HX := Lib.hid hX
        have HE0 := Lib.hid hE
        have hXc := hrow.lens
        have row9l := row9.lens.2
        have row10l := row10.lens.2
        generalize hn9 : (l ++ X.drop 1).length = n9 at *
        generalize hn10 : (at_ ++ [next]).length = n10 at *
        generalize hnX : X.length = nX at *
        have HN9 := Lib.hid hn9
        have HN10 := Lib.hid hn10
        have HNX' := Lib.hid hnX
        clear hX hE hR ho3 hb3 ha2 hsl hcell hrow hnx ho9 ho10 hap hb5 hbw hn9 hn10 hnX
        generalize hnl : l.length = nl at *
        generalize hna : at_.length = na at *
        have HNL := Lib.hid hnl
        have HNA := Lib.hid hna
        clear hnl hna
        go_wp2_with (first | (at_builtin; refine wpList_append_run rfl _ _ _ _ rfl rfl rfl hr4 ?_) | (at_builtin; refine wpList_append_run rfl _ _ _ _ rfl rfl rfl hr5 ?_))
        have HBB : Hid (risB (l ++ X.drop 1) = false ∨ nl < 59 * na ∧ 1 < nX → GetPost w R (.returned (.tuple #[.slice none 0 0, .slice none 0 0, .int .i64 11])) w5) := Lib.hid (fun hbad => by
          have := HR.out
          rw [if_pos hbad] at this
          rw [← this]
          exact getPost_bad HB5.out)
        refine hris.mono ?_
        rintro e w6 ⟨rfl, rfl⟩
        cases hri : risB (l ++ X.drop 1)
        · have HE := Lib.hid (HBB.out (.inl hri))
          clear hri HBB
          go_wp2_with fail
          rw [Exit.noGoto_ret]
          go_ret3
          exact HE.out
        · have HRI := Lib.hid hri
          by_cases hs : nl < 59 * na
          · have ds : decide ((nl : Int) < 59 * (na : Int)) = true := by simp; omega
            by_cases h1 : 1 < nX
            · have d1 : decide ((1 : Int) < nX) = true := by simp; omega
              have HE := Lib.hid (HBB.out (.inr ⟨hs, h1⟩))
              clear hri HBB
              go_wp2_with fail
              rw [Exit.noGoto_ret]
              go_ret3
              exact HE.out
            · have d1 : decide ((1 : Int) < nX) = false := by simp; omega
              have HNB : Hid (¬ (risB (l ++ X.drop 1) = false ∨ nl < 59 * na ∧ 1 < nX)) := Lib.hid (by rintro (h | ⟨_, h⟩); rw [hri] at h; cases h; exact h1 h)
              clear hri HBB
              by_cases hx0 : nx = 0
              · have z0 : (nx == 0) = true := by simpa using hx0
                have HE : Hid (GetPost w R (.returned (.tuple #[.slice a9 n9 c9, .slice a10 n10 c10, .int .i64 0])) w5) := Lib.hid (by
                  have := HR.out
                  rw [if_neg HNB.out, HNX.out, if_pos hx0] at this
                  rw [← this]
                  exact ⟨_, _, rfl, HO9.out, HO10.out, HB5.out⟩)
                go_wp2_with fail
                rw [Exit.noGoto_ret]
                go_ret3
                exact HE.out
              · have z0 : (nx == 0) = false := by simpa using hx0
                have z1 : (nx != 0) = true := by simpa using hx0
                have HX0 := Lib.hid hx0
                go_wp2_with fail
                refine (lpage_any nx w5).mono ?_
                rintro e w6 ⟨rfl, rfl⟩
                cases hp : pgB nx
                · have HE : Hid (GetPost w R (.returned (.tuple #[.slice none 0 0, .slice none 0 0, .int .i64 11])) w5) := Lib.hid (by
                    have := HR.out
                    rw [if_neg HNB.out, HNX.out, if_neg HX0.out, if_pos (.inl hp)] at this
                    rw [← this]
                    exact getPost_bad HB5.out)
                  clear hp
                  go_wp2_with fail
                  rw [Exit.noGoto_ret]
                  go_ret3
                  exact HE.out
                · have HP := Lib.hid hp
                  clear hp
                  go_wp2_with fail
                  refine (contains_any row10 nx).mono ?_
                  rintro e w6 ⟨rfl, rfl⟩
                  by_cases hm : nx ∈ at_ ++ [next]
                  · have dm : decide (nx ∈ at_ ++ [next]) = true := by simpa using hm
                    have HE : Hid (GetPost w R (.returned (.tuple #[.slice none 0 0, .slice none 0 0, .int .i64 11])) w5) := Lib.hid (by
                      have := HR.out
                      rw [if_neg HNB.out, HNX.out, if_neg HX0.out, if_pos (.inr hm)] at this
                      rw [← this]
                      exact getPost_bad HB5.out)
                    have HM := Lib.hid hm
                    rw [dm]
                    clear hm dm
                    go_wp2_with fail
                    rw [Exit.noGoto_ret]
                    go_ret3
                    exact HE.out
                  · have dm : decide (nx ∈ at_ ++ [next]) = false := by simpa using hm
                    have HE : Hid (GetRel w d r R (l ++ X.drop 1) (at_ ++ [next]) nx (.slice a9 n9 c9) (.slice a10 n10 c10) w5) := Lib.hid (by
                      have := HR.out
                      rw [if_neg HNB.out, HNX.out, if_neg HX0.out, if_neg (by rintro (h | h); rw [HP.out] at h; cases h; exact hm h)] at this
                      refine ⟨?_, HAT.out.push hn0 HP.out hm, ris_le HRI.out, HO9.out, HO10.out, HAP.out, HB5.out⟩
                      rw [← this, List.length_append]
                      congr 1
                      have := HK.out
                      have := HNA.out
                      simp; omega)
                    have HL10 : Hid (n10 = at_.length + 1) := Lib.hid (by have := HN10.out; simp at this; omega)
                    have HLE := Lib.hid HAT.out.le
                    have HN0 := Lib.hid hn0
                    rw [dm]
                    clear hm dm
                    go_wp2_with fail
                    go_roundw
                    case rel => exact ⟨_, _, nx, rfl, HE.out⟩
                    case measure => have := HL10.out; have := HLE.out; have := HNA.out; simp [lenSl]; omega
          · have ds : decide ((nl : Int) < 59 * (na : Int)) = false := by simp; omega
            have HNB : Hid (¬ (risB (l ++ X.drop 1) = false ∨ nl < 59 * na ∧ 1 < nX)) := Lib.hid (by rintro (h | ⟨h, _⟩); rw [hri] at h; cases h; exact hs h)
            clear hri HBB
            by_cases hx0 : nx = 0
            · have z0 : (nx == 0) = true := by simpa using hx0
              have HE : Hid (GetPost w R (.returned (.tuple #[.slice a9 n9 c9, .slice a10 n10 c10, .int .i64 0])) w5) := Lib.hid (by
                have := HR.out
                rw [if_neg HNB.out, HNX.out, if_pos hx0] at this
                rw [← this]
                exact ⟨_, _, rfl, HO9.out, HO10.out, HB5.out⟩)
              go_wp2_with fail
              rw [Exit.noGoto_ret]
              go_ret3
              exact HE.out
            · have z0 : (nx == 0) = false := by simpa using hx0
              have z1 : (nx != 0) = true := by simpa using hx0
              have HX0 := Lib.hid hx0
              go_wp2_with fail
              refine (lpage_any nx w5).mono ?_
              rintro e w6 ⟨rfl, rfl⟩
              cases hp : pgB nx
              · have HE : Hid (GetPost w R (.returned (.tuple #[.slice none 0 0, .slice none 0 0, .int .i64 11])) w5) := Lib.hid (by
                  have := HR.out
                  rw [if_neg HNB.out, HNX.out, if_neg HX0.out, if_pos (.inl hp)] at this
                  rw [← this]
                  exact getPost_bad HB5.out)
                clear hp
                go_wp2_with fail
                rw [Exit.noGoto_ret]
                go_ret3
                exact HE.out
              · have HP := Lib.hid hp
                clear hp
                go_wp2_with fail
                refine (contains_any row10 nx).mono ?_
                rintro e w6 ⟨rfl, rfl⟩
                by_cases hm : nx ∈ at_ ++ [next]
                · have dm : decide (nx ∈ at_ ++ [next]) = true := by simpa using hm
                  have HE : Hid (GetPost w R (.returned (.tuple #[.slice none 0 0, .slice none 0 0, .int .i64 11])) w5) := Lib.hid (by
                    have := HR.out
                    rw [if_neg HNB.out, HNX.out, if_neg HX0.out, if_pos (.inr hm)] at this
                    rw [← this]
                    exact getPost_bad HB5.out)
                  have HM := Lib.hid hm
                  rw [dm]
                  clear hm dm
                  go_wp2_with fail
                  rw [Exit.noGoto_ret]
                  go_ret3
                  exact HE.out
                · have dm : decide (nx ∈ at_ ++ [next]) = false := by simpa using hm
                  have HE : Hid (GetRel w d r R (l ++ X.drop 1) (at_ ++ [next]) nx (.slice a9 n9 c9) (.slice a10 n10 c10) w5) := Lib.hid (by
                    have := HR.out
                    rw [if_neg HNB.out, HNX.out, if_neg HX0.out, if_neg (by rintro (h | h); rw [HP.out] at h; cases h; exact hm h)] at this
                    refine ⟨?_, HAT.out.push hn0 HP.out hm, ris_le HRI.out, HO9.out, HO10.out, HAP.out, HB5.out⟩
                    rw [← this, List.length_append]
                    congr 1
                    have := HK.out
                    have := HNA.out
                    simp; omega)
                  have HL10 : Hid (n10 = at_.length + 1) := Lib.hid (by have := HN10.out; simp at this; omega)
                  have HLE := Lib.hid HAT.out.le
                  have HN0 := Lib.hid hn0
                  rw [dm]
                  clear hm dm
                  go_wp2_with fail
                  go_roundw
                  case rel => exact ⟨_, _, nx, rfl, HE.out⟩
                  case measure => have := HL10.out; have := HLE.out; have := HNA.out; simp [lenSl]; omega
      · have hE1 := neq_true hE
        have HE : Hid (GetPost w R (.returned (.tuple #[.slice none 0 0, .slice none 0 0, .int .i64 (oneFE d r next)])) w3) := Lib.hid (by
          rw [show (rdD d r next).1 = oneFE d r next from rfl, if_pos hE] at hR
          rw [← hR]
          exact getPost_bad (below_then hbw hb3))
        have HE0 := Lib.hid hE
        generalize oneFE d r next = E at *
        clear hE hR ho3 hb3 hbw
        go_wp2_with fail
        rw [Exit.noGoto_ret]
        go_ret3
        exact HE.out
end Go.Proofs.YtopnfpobbemfbaaDoor

/- A row of bytes more in a row of rows of bytes. -/
namespace Go.Proofs.YtopnfpobbemfbaaDoor
open Go.RowKit

theorem info_bytesA : (Tryd.prog.info? 32).map (fun i => (i.zero, i.size, i.bytes)) = some (some (.slice none 0 0), 1, 24) := by kernel_rfl
theorem OwnBss.blk {w : World} {base : Nat} {v : Value} {l : List (List UInt8)} (h : OwnBss w base v l) : v.ownBlock ≠ some w.heap.size := by
  obtain ⟨vs, h1, _⟩ := h
  intro e
  have := own_lt h1 _ e
  omega
/-- One row of bytes more in a row of rows of bytes. -/
theorem append_bss {w : World} {base B : Nat} {v : Value} {l : List (List UInt8)} (h : OwnBss w base v l) {u : Value} {c : List UInt8} (hu : w.ownsRow B 5 1 u c.length ((toI c).map (Value.int .u8))) (hB : base ≤ B) (hl : l.length ≤ 65536) (hbase : base ≤ w.heap.size) :
    ∃ v' w', (Builtin.append_ #[25, 25] 25 #[v, .slice (some ⟨w.heap.size, 0, none⟩) 1 1]).run Tryd.prog (w.alloc (.cells #[u] 32)) = .ok v' w' ∧ OwnBss w' base v' (l ++ [c]) ∧ w.grownBy w' v.ownBlock := by
  obtain ⟨i0, hi, hz0, hz1, hz2⟩ := info_parts info_bytesA
  obtain ⟨vs, h1, h2, h3⟩ := h
  obtain ⟨au, ku, rfl, _⟩ := own_slice hu
  obtain ⟨v', w', hr, ho, hg, _⟩ := run_append_new (P := Tryd.prog) base 25 32 i0 _ 1 24 Tryd.underlying25 hi hz0 hz1 hz2 rfl (by decide) h1 #[.slice au c.length ku] rfl (fun u hu => by simp at hu; subst hu; rfl) (by unfold maxLen; omega) (by omega) hbase
  exact ⟨v', w', hr, OwnBss.snoc h1 rfl h2 h3 (own_base hu hB) hg ho, hg⟩
theorem OwnBss.ge {w : World} {base : Nat} {v : Value} {l : List (List UInt8)} (h : OwnBss w base v l) : ∀ k, v.ownBlock = some k → base ≤ k := by
  obtain ⟨vs, h1, _⟩ := h; exact own_ge h1
end Go.Proofs.YtopnfpobbemfbaaDoor
