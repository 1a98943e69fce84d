/- The walks of the chapter on nodes: the reference's node of a page. -/
import Derived.Test.YtjdepdgoaopfoaaDoorNodO
namespace Go.Proofs.YtjdepdgoaopfoaaDoor
open Go.RowKit

/-- A row of the reference's entries of the call's own. -/
def OwnRe (w : World) (base : Nat) (v : Value) (l : List En) : Prop := w.ownsRow base 108 5 v l.length (l.flatMap ecells)
theorem OwnRe.nil (w : World) (base : Nat) : OwnRe w base (.slice none 0 0) [] := World.ownsRow_nil _ _ _ _
theorem OwnRe.below {w w' : World} {base : Nat} {v : Value} {l : List En} {B : Nat} (h : OwnRe w base v l) (hB : w.heap.size ≤ B) (hb : Below B w w') : OwnRe w' base v l := own_below h hB hb
theorem OwnRe.ents {w : World} {base : Nat} {v : Value} {l : List En} (h : OwnRe w base v l) : ∃ a cap, v = .slice a l.length cap ∧ Ents w a l.length cap l :=
  TabR.of_own ecells (fun _ => rfl) (fun _ => rfl) h
theorem info_re : (Tryd.prog.info? 108).map (fun i => (i.zero, i.size, i.bytes)) = some (some (.agg #[.string ⟨#[]⟩, .string ⟨#[]⟩, .bool false, .int .i64 0, .int .i64 0]), 5, 56) := by kernel_rfl
theorem append_re {w : World} {base : Nat} {v : Value} {l : List En} (h : OwnRe w base v l) (e : En) (hl : l.length ≤ 65536) (hbase : base ≤ w.heap.size) :
    ∃ v' w', (Builtin.append_ #[54, 54] 54 #[v, .slice (some ⟨w.heap.size, 0, none⟩) 1 1]).run Tryd.prog (w.alloc (.cells #[.string (strOf e.key), .string (strOf e.v.data), .bool e.v.far, .int .i64 e.v.size, .int .i64 e.v.page] 108)) = .ok v' w' ∧ OwnRe w' base v' (l ++ [e]) ∧ w.grownBy w' v.ownBlock := by
  obtain ⟨i0, hi, hz0, hz1, hz2⟩ := info_parts info_re
  obtain ⟨v', w', hr, ho, hg, _⟩ := run_append_new (P := Tryd.prog) base 54 108 i0 _ 5 56 Tryd.underlying54 hi hz0 hz1 hz2 rfl (by decide) h #[.string (strOf e.key), .string (strOf e.v.data), .bool e.v.far, .int .i64 e.v.size, .int .i64 e.v.page] rfl (fun u hu => by simp at hu; rcases hu with rfl | rfl | rfl | rfl | rfl <;> rfl) (by unfold maxLen; omega) (by omega) hbase
  refine ⟨v', w', hr, ?_, hg⟩
  unfold OwnRe
  rw [List.flatMap_append, List.length_append]
  simpa [ecells, vcells] using ho

def RGetNPost (w : World) (leaf : Bool) (l : List En) (er : Int) (e : Ending) (w' : World) : Prop :=
  ∃ v, e = .returned (.tuple #[.agg #[.bool leaf, v], .int .i64 er]) ∧ OwnRe w' w.heap.size v l ∧ Below w.heap.size w w'
theorem rgetpost_none {w w' : World} {e : Ending} {er : Int} (he : e = .returned (.tuple #[.agg #[.bool false, .slice none 0 0], .int .i64 er])) (hb : Below w.heap.size w w') : RGetNPost w false [] er e w' := ⟨_, he, OwnRe.nil _ _, hb⟩

set_option maxRecDepth 100000 in
set_option maxHeartbeats 4000000 in
theorem rnget_err (b : List UInt8) (w : World) (hl : b.length ≤ 140737488351232) (hE : unpE b ≠ 0) :
    Calls Tryd.prog 38 #[.string (strOf b)] w (RGetNPost w false [] (unpE b)) := by
  have hB := below_one w (.cells #[.bool false, .slice none 0 0] 56)
  have BX := (Boxes.nil w).alloc #[.bool false, .slice none 0 0] 56 rfl
  have hun := runpack_any b (w.alloc (.cells #[.bool false, .slice none 0 0] 56)) hl
  have hne : ((unpE b : Int) != 0) = true := by simpa using hE
  have hne2 : ((unpE b : Int) == 0) = false := by simpa using hE
  generalize unpE b = er at *
  generalize unpK b = k at *
  generalize unpL b = l at *
  clear hE
  go_enter Tryd.func38, Tryd.ntmps38
  go_wp2_with fail
  refine hun.mono ?_
  rintro e w1 ⟨v1, rfl, _, hb1⟩
  have BX := BX.step hb1
  have g0 := BX.cell 0 0 rfl rfl
  have g1 := BX.cell 0 1 rfl rfl
  have f0 := BX.frozen 0 0 rfl
  have f1 := BX.frozen 0 1 rfl
  go_wp2_with fail
  refine bodyPost_ret (v := .tuple #[.agg #[.bool false, .slice none 0 0], .int .i64 er]) (by simp [results, Tryd.results38, go_sem, g0, g1]) rfl (rgetpost_none rfl ?_)
  exact (((below_then hB hb1).setCell (Nat.le_refl _) _).setCell (Nat.le_refl _) _)

/-- An entry in a box of its own. -/
def OneBox (wr : World) (o : Option En) (p q : Value) (wx : World) : Prop := ∃ (pe : Nat) (x : En) (is : Bool), p = .pointer (some ⟨pe, 0, none⟩) ∧ q = .bool is ∧ OneOf o x is ∧ Boxes wx [(pe, [.string (strOf x.key), .string (strOf x.v.data), .bool x.v.far, .int .i64 x.v.size, .int .i64 x.v.page])] ∧ wr.heap.size ≤ pe ∧ Below wr.heap.size wr wx

set_option maxRecDepth 100000 in
set_option maxHeartbeats 16000000 in
theorem rnget_form (b : List UInt8) (w : World) (hl : b.length ≤ 140737488351232) (hE : unpE b = 0) :
    Calls Tryd.prog 38 #[.string (strOf b)] w (RGetNPost w (getNF b) (getNL b) (getNE b)) := by
  have hB := below_one w (.cells #[.bool false, .slice none 0 0] 56)
  have BX := (Boxes.nil w).alloc #[.bool false, .slice none 0 0] 56 rfl
  have hun := runpack_any b (w.alloc (.cells #[.bool false, .slice none 0 0] 56)) hl
  have hmany := unp_many b
  have hcl := unp_cell b hE
  have hlk : (((unpK b).toNat : Int) == 1) = leafK b := u8_eq (unpK b) 1
  have hgE : getNE b = if decide ((unpK b).toNat ≤ 2) && (match decL (leafK b) (unpL b) with | some l => nodeB (leafK b) l | none => false) then 0 else 11 := by
    rw [getNE, if_neg (by rw [hE]; simp), getNB, entN]; rfl
  have hgL : getNL b = if getNE b = 0 then (decL (leafK b) (unpL b)).getD [] else [] := by rw [getNL, entN]
  have hgF : getNF b = if getNE b = 0 then leafK b else false := by rw [getNF]
  rw [hE] at hun
  have hkl := (unpK b).toNat_lt
  unfold RUnpPost at hun
  generalize unpL b = cl at *
  generalize getNE b = gE at *
  generalize getNL b = gL at *
  generalize getNF b = gF at *
  generalize leafK b = leaf at *
  generalize (unpK b).toNat = kd at *
  have HE := Lib.hid hgE
  have HL := Lib.hid hgL
  have HF := Lib.hid hgF
  have HC := Lib.hid hcl
  clear hE hgE hgL hgF hcl
  go_enter Tryd.func38, Tryd.ntmps38
  go_wp2_with fail
  refine hun.mono ?_
  rintro e w1 ⟨v1, rfl, hob, hb1⟩
  obtain ⟨ac, cc, rfl, hbs⟩ := Strs.of_own hob
  have BX := BX.step hb1
  have hb := below_then hB hb1
  have hlt1 := BX.lt 0 rfl
  have BY := BX.alloc #[.bool leaf, .slice none 0 0] 56 rfl
  have hb4 := below_one w1 (.cells #[.bool leaf, .slice none 0 0] 56)
  have HBS := Lib.hid hbs
  have HB := Lib.hid hb
  clear hob hun hb1 BX hbs hb
  go_wp2_with fail
  go_loopw [8] (fun i wr => ∃ (k : Nat) (v : Value) (es : List En), k ≤ cl.length ∧ i = .int .i64 k ∧ DecTo leaf cl k es ∧ Boxes wr [(w1.heap.size, [.bool leaf, v]), (w.heap.size, [.bool false, .slice none 0 0])] ∧ OwnRe wr (w1.heap.size + 1) v es ∧ Below w1.heap.size w1 wr) (fun i _ => cl.length - (intOf i).toNat)
  case atStart => exact ⟨0, _, [], Nat.zero_le _, rfl, rfl, BY, OwnRe.nil _ _, hb4⟩
  case round =>
    obtain ⟨k, v, es, hk, rfl, hdt, BY, hown, hbw⟩ := hrel
    have hsz := hbw.size
    have HDT := Lib.hid hdt
    have hes := hdt.len
    clear hdt
    by_cases hlt : k < cl.length
    · obtain ⟨b5, off5, rfl, hbb5, hcell5⟩ := (HBS.out.below (Nat.le_refl _) hbw).at hlt
      obtain ⟨c, hc⟩ : ∃ c, cl[k]? = some c := ⟨_, List.getElem?_eq_getElem hlt⟩
      rw [hc, Option.getD_some] at hcell5
      have h5 : c.length ≤ 128 := HC.out c (List.mem_of_getElem? hc)
      have HCK := Lib.hid hc
      have TO := fun W => one_any leaf c W (by omega)
      have BY0 := Lib.hid BY
      have HO0 := Lib.hid hown
      clear hc hown
      obtain ⟨o, ho⟩ : ∃ o, decE leaf c = o := ⟨_, rfl⟩
      rw [ho] at TO
      have HO2 := Lib.hid ho
      clear ho
      go_wp2_with fail
      have c0 : ∀ W, Below wr.heap.size wr W → W.cell? ⟨w1.heap.size, 0, none⟩ = some (.bool leaf) := fun W hW => (BY0.out.step hW).cell 0 0 rfl rfl
      have c5 : ∀ W, Below wr.heap.size wr W → W.cell? ⟨b5, off5 + k, none⟩ = some (.string (strOf c)) := fun W hW => (hW.cell (p := ⟨b5, off5 + k, none⟩) hbb5).trans hcell5
      have hC : Below wr.heap.size wr wr.drew := (Below.refl _ _).drew
      have hCa : Below wr.heap.size wr (wr.alloc (.cells #[.string ⟨#[]⟩, .string ⟨#[]⟩, .bool false, .int .i64 0, .int .i64 0] 108)).drew := (below_one _ _).drew
      have BA : Boxes (wr.alloc (.cells #[.string ⟨#[]⟩, .string ⟨#[]⟩, .bool false, .int .i64 0, .int .i64 0] 108)).drew [(wr.heap.size, [.string ⟨#[]⟩, .string ⟨#[]⟩, .bool false, .int .i64 0, .int .i64 0])] := ((Boxes.nil wr).alloc #[.string ⟨#[]⟩, .string ⟨#[]⟩, .bool false, .int .i64 0, .int .i64 0] 108 rfl).drew
      clear BY hcell5
      go_upto_region 8 with (fail)
      go_cut [9, 10] (fun p q wx => OneBox wr o p q wx)
      case first =>
        go_region_held3 (fun W => Below wr.heap.size wr W) (first | with_reducible assumption | (with_reducible exact hC5.alloc hC5.size _) | (with_reducible exact ((((hC5.setCell (Nat.le_refl _) _).setCell (Nat.le_refl _) _).setCell (Nat.le_refl _) _).setCell (Nat.le_refl _) _).setCell (Nat.le_refl _) _)) (first | (go_at_call 64; (with_reducible refine (TO _).mono ?_); rintro e w5 ⟨x, is, rfl, hof, hb5⟩; unfold ev; have hC5 := hC.trans (hb5.mono hC.size)) | (go_at_call 64; (with_reducible refine (TO _).mono ?_); rintro e w5 ⟨x, is, rfl, hof, hb5⟩; unfold ev; have hC5 := hCa.trans (hb5.mono hCa.size); have BE := BA.step hb5; have b0 := BE.cell 0 0 rfl rfl; have b1 := BE.cell 0 1 rfl rfl; have b2 := BE.cell 0 2 rfl rfl; have b3 := BE.cell 0 3 rfl rfl; have b4 := BE.cell 0 4 rfl rfl; have d0 := BE.frozen 0 0 rfl; have d1 := BE.frozen 0 1 rfl; have d2 := BE.frozen 0 2 rfl; have d3 := BE.frozen 0 3 rfl; have d4 := BE.frozen 0 4 rfl))
        · go_wp2_with fail
          go_meet
          exact ⟨_, x, is, rfl, rfl, hof, (Boxes.nil w5).alloc #[.string (strOf x.key), .string (strOf x.v.data), .bool x.v.far, .int .i64 x.v.size, .int .i64 x.v.page] 108 rfl, hC5.size, hC5.alloc hC5.size _⟩
        · go_wp2_with fail
          go_meet
          obtain ⟨_, rfl, BZ, hb9⟩ := box_five BE hC5 (Nat.le_refl _) (.string (strOf x.key)) (.string (strOf x.v.data)) (.bool x.v.far) (.int .i64 x.v.size) (.int .i64 x.v.page)
          exact ⟨_, x, is, rfl, rfl, hof, BZ, Nat.le_refl _, hb9⟩
      case rest =>
      unfold OneBox at hcut
      obtain ⟨pe, x, is, rfl, rfl, hof, BE, hpe, hb5⟩ := hcut
      clear c0 c5 hC hCa BA
      have hnb := BY0.out.lt 0 rfl
      have hz5 := hb5.size
      have BY5 := BY0.out.step hb5
      have hown5 := HO0.out.below (Nat.le_refl _) hb5
      have hbw5 := below_then hbw hb5
      cases o with
      | none =>
        have : is = false := hof
        subst this
        have hN : decL leaf cl = none := decL_none HCK.out HO2.out
        have hE : gE = 11 := by rw [HE.out, hN]; simp
        have hL : gL = [] := by rw [HL.out, if_neg (by rw [hE]; decide)]
        have hF : gF = false := by rw [HF.out, if_neg (by rw [hE]; decide)]
        clear hN
        subst hE hL hF
        have f0 := BY5.frozen 1 0 rfl
        have f1 := BY5.frozen 1 1 rfl
        have g0 := BY5.cell 1 0 rfl rfl
        have g1 := BY5.cell 1 1 rfl rfl
        go_wp2_with fail
        refine bodyPost_ret (v := .tuple #[.agg #[.bool false, .slice none 0 0], .int .i64 11]) (by simp [results, Tryd.results38, go_sem, g0, g1]) rfl (rgetpost_none rfl ?_)
        exact ((((below_then HB.out hbw5).setCell (Nat.le_refl _) _).setCell (Nat.le_refl _) _))
      | some y =>
        obtain ⟨rfl, rfl⟩ := hof
        have HDT2 := Lib.hid (HDT.out.step HCK.out HO2.out)
        have hsz5 := hbw5.size
        have e0 := BE.cell 0 0 rfl rfl
        have e1 := BE.cell 0 1 rfl rfl
        have e2 := BE.cell 0 2 rfl rfl
        have e3 := BE.cell 0 3 rfl rfl
        have e4 := BE.cell 0 4 rfl rfl
        have n1 := BY5.cell 0 1 rfl rfl
        obtain ⟨v9, w9, hr9, ho9, hg9⟩ := append_re hown5 x (by omega) (by omega)
        obtain ⟨a9, k9, rfl, hk91, hk92, hk93⟩ := own_slice ho9
        rw [show (es ++ [x] : List En).length = es.length + 1 from by simp] at ho9 hr9
        have hne1 : v.ownBlock ≠ some w1.heap.size := fun e => by have := own_ge hown5 _ e; omega
        have BW := BY5.grown hg9 (fun p hp => by
          simp at hp
          rcases hp with rfl | rfl
          · exact hne1
          · intro e; have := own_ge hown5 _ e; omega)
        have f1 := BW.frozen 0 1 rfl
        have m1 := BW.cell 0 1 rfl rfl
        have hbw9 : Below w1.heap.size w1 w9 := hbw5.grown hg9 hsz5 (fun k e => by have := own_ge hown5 _ e; omega)
        have HB9 := Lib.hid hbw9
        have HO9 := Lib.hid ho9
        clear hbw9 ho9 hk91 hk92 hk93
        go_wp2_with (at_builtin; refine wpList_append_run rfl _ _ _ _ rfl rfl rfl hr9 ?_)
        go_roundw
        case rel =>
          have hne9 : Value.ownBlock (.slice a9 (es.length + 1) k9) ≠ some w1.heap.size := fun e => by have := own_ge HO9.out _ e; omega
          exact ⟨k + 1, _, _, by omega, by go_num, HDT2.out, BW.put 1 _ (fun p hp => by simp at hp; subst hp; simp; omega), own_set HO9.out ⟨w1.heap.size, 1, none⟩ (.slice a9 (es.length + 1) k9) hne9, HB9.out.setCell (Nat.le_refl _) _⟩
        case measure => simp [intOf]; omega
    · obtain rfl : k = cl.length := by omega
      have hdl : decL leaf cl = some es := by have := HDT.out; unfold DecTo at this; rwa [List.take_length] at this
      have hes16 : SmE es := fun e he => by have := decL_small hdl HC.out e he; omega
      obtain ⟨av, kv, rfl, hen⟩ := hown.ents
      have CK := rcheck_any leaf av es.length kv es wr hen (by omega) hes16
      have hE : gE = if decide (kd ≤ 2) && nodeB leaf es then 0 else 11 := by rw [HE.out, hdl]
      have e0 := BY.cell 0 0 rfl rfl
      have e1 := BY.cell 0 1 rfl rfl
      have HO := Lib.hid hown
      clear hown hen
      have hbb := below_then HB.out hbw
      cases hn : nodeB leaf es with
      | true =>
        rw [hn] at CK hE
        by_cases hk2 : kd ≤ 2
        · have hE0 : gE = 0 := by rw [hE, decide_eq_true hk2]; rfl
          have hL : gL = es := by rw [HL.out, if_pos hE0, hdl]; rfl
          have hF : gF = leaf := by rw [HF.out, if_pos hE0]
          clear hn hE hdl HE HL HF
          subst hE0 hL hF
          go_wp2_with fail
          refine CK.mono ?_
          rintro e w5 ⟨rfl, hb5⟩
          have BY5 := BY.step hb5
          have HO5 := HO.out.below (Nat.le_refl _) hb5
          have hbb5 := below_then hbb hb5
          have hbw5 := below_then hbw hb5
          have g0 := BY5.cell 0 0 rfl rfl
          have g1 := BY5.cell 0 1 rfl rfl
          have g2 := BY5.cell 1 0 rfl rfl
          have g3 := BY5.cell 1 1 rfl rfl
          have f2 := BY5.frozen 1 0 rfl
          have f3 := BY5.frozen 1 1 rfl
          have hgt : ¬ (2 : Int) < (kd : Int) := by omega
          go_wp2_with fail
          refine bodyPost_ret (v := .tuple #[.agg #[.bool gF, .slice av gL.length kv], .int .i64 0]) (by simp [results, Tryd.results38, go_sem, g0, g1, g2, g3]) rfl ⟨_, rfl, ?_, ?_⟩
          · have hrb : ∀ i u W, OwnRe W (w1.heap.size + 1) (.slice av gL.length kv) gL → OwnRe (W.setCell ⟨w.heap.size, i, none⟩ u) (w1.heap.size + 1) (.slice av gL.length kv) gL := fun i u W hW => own_set hW _ _ (fun e => by have h2 := own_ge hW _ e; have h3 : w1.heap.size + 1 ≤ w.heap.size := h2; omega)
            exact own_base (hrb _ _ _ (hrb _ _ _ HO5)) (by omega)
          · exact ((hbb5.setCell (Nat.le_refl _) _).setCell (Nat.le_refl _) _)
        · have hE0 : gE = 11 := by rw [hE, decide_eq_false hk2]; rfl
          have hL : gL = [] := by rw [HL.out, if_neg (by rw [hE0]; decide)]
          have hF : gF = false := by rw [HF.out, if_neg (by rw [hE0]; decide)]
          clear hn hE hdl HE HL HF
          subst hE0 hL hF
          go_wp2_with fail
          refine CK.mono ?_
          rintro e w5 ⟨rfl, hb5⟩
          have BY5 := BY.step hb5
          have hbb5 := below_then hbb hb5
          have g2 := BY5.cell 1 0 rfl rfl
          have g3 := BY5.cell 1 1 rfl rfl
          have f2 := BY5.frozen 1 0 rfl
          have f3 := BY5.frozen 1 1 rfl
          have hgt : (2 : Int) < (kd : Int) := by omega
          go_wp2_with fail
          refine bodyPost_ret (v := .tuple #[.agg #[.bool false, .slice none 0 0], .int .i64 11]) (by simp [results, Tryd.results38, go_sem, g2, g3]) rfl (rgetpost_none rfl ?_)
          exact ((hbb5.setCell (Nat.le_refl _) _).setCell (Nat.le_refl _) _)
      | false =>
        rw [hn] at CK hE
        have hE0 : gE = 11 := by rw [hE, Bool.and_false]; rfl
        have hL : gL = [] := by rw [HL.out, if_neg (by rw [hE0]; decide)]
        have hF : gF = false := by rw [HF.out, if_neg (by rw [hE0]; decide)]
        clear hn hE hdl HE HL HF
        subst hE0 hL hF
        go_wp2_with fail
        refine CK.mono ?_
        rintro e w5 ⟨rfl, hb5⟩
        have BY5 := BY.step hb5
        have hbb5 := below_then hbb hb5
        have g2 := BY5.cell 1 0 rfl rfl
        have g3 := BY5.cell 1 1 rfl rfl
        have f2 := BY5.frozen 1 0 rfl
        have f3 := BY5.frozen 1 1 rfl
        go_wp2_with fail
        all_goals
          refine bodyPost_ret (v := .tuple #[.agg #[.bool false, .slice none 0 0], .int .i64 11]) (by simp [results, Tryd.results38, go_sem, g2, g3]) rfl (rgetpost_none rfl ?_)
          exact ((hbb5.setCell (Nat.le_refl _) _).setCell (Nat.le_refl _) _)
theorem rnget_any (b : List UInt8) (w : World) (hl : b.length ≤ 140737488351232) :
    Calls Tryd.prog 38 #[.string (strOf b)] w (RGetNPost w (getNF b) (getNL b) (getNE b)) := by
  by_cases hE : unpE b = 0
  · exact rnget_form b w hl hE
  · have hE2 : getNE b = unpE b := by rw [getNE, if_pos hE]
    have hL2 : getNL b = [] := by rw [getNL, hE2, if_neg hE]
    have hF2 : getNF b = false := by rw [getNF, hE2, if_neg hE]
    rw [hE2, hL2, hF2]
    exact rnget_err b w hl hE
end Go.Proofs.YtjdepdgoaopfoaaDoor
