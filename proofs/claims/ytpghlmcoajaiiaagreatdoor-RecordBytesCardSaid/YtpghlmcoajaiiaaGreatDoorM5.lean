/- Texts that other texts of this claim lean on, one behind the other. -/
import Derived.Test.YtpghlmcoajaiiaaGreatDoorM4
import Derived.Test.YtpghlmcoajaiiaaGreatDoorM2
/- The walks of trees: a branch whose kid is parted, if it must be (printed by gen_treS.py). -/
namespace Go.Proofs.YtpghlmcoajaiiaaGreatDoor
open Go.RowKit

/-- A branch whose kid is parted, if it must be; whether it was. -/
def splitR (p : Int) (l : List (List UInt8 × Tr)) (k : Nat) : Tr := match splitT l k with
  | some m => .node 0 m
  | none => .node p l
theorem swap_map {α β : Type} (f : α → β) (l : List α) (i j : Nat) (s : List α) : (swapL l i j s).map f = swapL (l.map f) i j (s.map f) := by simp [swapL]
theorem Tells.swap {α : Type} {sz : Nat} {R : List Value → α → Prop} {L S : List (Cl sz)} {l s : List α} (h : Tells R L l) (hs : Tells R S s) (i j : Nat) : Tells R (swapL L i j S) (swapL l i j s) := (h.take i).append (hs.append (h.drop (i + j)))
theorem kid_tells {F : Nat → Prop} {n : Nat} {w : World} {C : List (Cl 5)} {l : List (List UInt8 × Tr)} (h : Tells (NodeOn F n w) C (l.map (·.2))) {k : Nat} {y : Cl 5} (hy : C[k]? = some y) : NodeOn F n w y.1 (kidAt l k) := by
  have hk := (List.getElem?_eq_some_iff.1 hy).1
  have hkl : k < l.length := by have := h.1; rw [List.length_map] at this; omega
  refine h.2 k y _ hy ?_
  simp [kidAt, hkl]
theorem mid_drop {α : Type} {x y : List α} {c : α} {n : Nat} (h : x.length = n) : (x ++ c :: y).drop (n + 1) = y := by subst h; simp [List.drop_append]
theorem mid_take {α : Type} {x y : List α} {c : α} {n : Nat} (h : x.length = n) : (x ++ c :: y).take (n + 1) = x ++ [c] := by subst h; rw [List.take_append, List.take_of_length_le (by omega)]; simp
theorem splitR_ok {F : Nat → Prop} {n : Nat} {w : World} {p : Int} {l : List (List UInt8 × Tr)} {k : Nat} {V : List (Cl 2)} {C : List (Cl 5)} {A B : Cl 5} (h : NodeRF F n w ((keysOf l).map kCell) V C (.node p l)) (hk : k < l.length) (hat : atF (sizesT (kidAt l k)) ≠ 0)
    (hA : NodeOn F n w A.1 (partT (atF (sizesT (kidAt l k))).toNat (kidAt l k)).1) (hB : NodeOn F n w B.1 (partT (atF (sizesT (kidAt l k))).toNat (kidAt l k)).2.1) :
    ∃ m, splitR p l k = .node 0 m ∧ (splitT l k).isSome = true ∧ keysOf m = swapL (keysOf l) (k + 1) 0 [(partT (atF (sizesT (kidAt l k))).toNat (kidAt l k)).2.2] ∧ NodeRF F n w ((keysOf m).map kCell) [] (swapL C k 1 [A, B]) (.node 0 m) := by
  obtain ⟨a, c, b, rfl, rfl⟩ := list_at hk
  unfold splitR splitT
  rw [if_neg hat]
  refine ⟨_, rfl, rfl, ?_, tells_keys _, rfl, ?_⟩
  · rw [keyAt_at]; simp [keysOf, swapL, mid_drop (show (a.map (·.1)).length = a.length by simp), mid_take (show (a.map (·.1)).length = a.length by simp)]
  · have := (h.2.2).swap (Tells.cons hA (Tells.one hB)) a.length 1
    rw [keyAt_at]
    simpa [swapL, mid_drop (show (a.map (·.2)).length = a.length by simp)] using this
theorem splitR_none {p : Int} {l : List (List UInt8 × Tr)} {k : Nat} (hat : atF (sizesT (kidAt l k)) = 0) : splitR p l k = .node p l ∧ (splitT l k).isSome = false := by
  unfold splitR splitT
  rw [if_pos hat]
  exact ⟨rfl, rfl⟩
theorem sizes_len (t : Tr) : (sizesT t).length = cntT t := by cases t <;> simp [sizesT, cntT]
theorem Bnd.cnt {n : Nat} {t : Tr} (h : Bnd (n + 1) t) : cntT t ≤ 1000 := by cases t with
  | leaf p l => exact h.1
  | node p l => exact h.1
def SplitPost (F : Nat → Prop) (n : Nat) (w : World) (t : Tr) (b : Bool) (e : Ending) (w' : World) : Prop := ∃ cs, e = .returned (.tuple #[.agg cs.toArray, .bool b]) ∧ NodeOn (Fr F w) n w' cs t ∧ Below w.heap.size w w'
def SplitEnd (F : Nat → Prop) (w3 : World) (w : World) (K : List (Cl 1)) (C : List (Cl 5)) (wx : World) : Prop :=
  ∃ ka kc ca cc, Boxes wx [(w.heap.size + 1, [.int .i64 0, .bool false, .slice ka K.length kc, .slice none 0 0, .slice ca C.length cc])] ∧ Raw 1 wx ka K.length kc K ∧ Raw 5 wx ca C.length cc C ∧ Below w.heap.size w wx ∧ Fa (Fr F w) ka K.length ∧ Fa (Fr F w) ca C.length ∧ ∀ G : Nat → Prop, ¬ G (w.heap.size + 1) → AgreeF G w3 wx
set_option maxRecDepth 100000 in
set_option maxHeartbeats 4000000 in
theorem tsplit_any {F : Nat → Prop} {n : Nat} {w : World} {cs : List Value} {p : Int} {l : List (List UInt8 × Tr)} (h : NodeOn F (n + 2) w cs (.node p l)) (k : Nat) (hk : k < l.length) (hl : l.length ≤ 1000) (hb : Bnd (n + 1) (kidAt l k)) :
    Calls Tryz.prog 190 #[.agg cs.toArray, .int .i64 (k : Int)] w (SplitPost F (n + 2) w (splitR p l k) (splitT l k).isSome) := by
  obtain ⟨ka, kc, va, vn, vc, ca, cn, cc, V, C, rfl, h1, h2, h3, h4, _⟩ := h.lt.open
  obtain ⟨_, r1, r2⟩ := h4.toR.lens
  have hV : V = [] := h4.2.1
  have hcn : cn = l.length := by rw [← h3.1, r2]; rfl
  have hvn : vn = 0 := by rw [← h2.1, hV]; rfl
  subst hV hcn hvn
  obtain ⟨bc, oc, y, yc, eca, hbc, hy, _, hyc, hcell⟩ := TabR.at h3 hk
  have hyc : yc = y.1 := hyc
  subst hyc
  have hkid := kid_tells h4.2.2 hy
  obtain ⟨q1, q2, q3, q4, q5, q6, q7, q8, _, _, ey, _⟩ := hkid.open
  rw [ey] at hcell hkid
  have hB0 : Below w.heap.size w ((w.alloc (.cells #[.int .i64 p, .bool false, .slice ka l.length kc, .slice va 0 vc, .slice ca l.length cc] 50)).alloc (.cells #[.int .i64 0, .bool false, .slice none 0 0, .slice none 0 0, .slice none 0 0] 50)) := Below.al (Below.al (Below.refl _ _))
  have hX0 : Boxes _ [(w.heap.size + 1, [.int .i64 0, .bool false, .slice none 0 0, .slice none 0 0, .slice none 0 0]), (w.heap.size, [.int .i64 p, .bool false, .slice ka l.length kc, .slice va 0 vc, .slice ca l.length cc])] := (((Boxes.nil w).alloc #[.int .i64 p, .bool false, .slice ka l.length kc, .slice va 0 vc, .slice ca l.length cc] 50 rfl).alloc #[.int .i64 0, .bool false, .slice none 0 0, .slice none 0 0, .slice none 0 0] 50 (b := w.heap.size + 1) (by simp))
  obtain ⟨wA, hwA⟩ : ∃ wA, (w.alloc (.cells #[.int .i64 p, .bool false, .slice ka l.length kc, .slice va 0 vc, .slice ca l.length cc] 50)).alloc (.cells #[.int .i64 0, .bool false, .slice none 0 0, .slice none 0 0, .slice none 0 0] 50) = wA := ⟨_, rfl⟩
  have hsA : w.heap.size + 2 ≤ wA.heap.size := by rw [← hwA]; simp
  rw [hwA] at hB0 hX0
  have c0 := (hB0.cell (p := ⟨bc, oc + k * 5, none⟩) hbc).trans (hcell 0 _ rfl)
  have c1 := (hB0.cell (p := ⟨bc, oc + k * 5 + 1, none⟩) hbc).trans (hcell 1 _ rfl)
  have c2 := (hB0.cell (p := ⟨bc, oc + k * 5 + 2, none⟩) hbc).trans (hcell 2 _ rfl)
  have c3 := (hB0.cell (p := ⟨bc, oc + k * 5 + 3, none⟩) hbc).trans (hcell 3 _ rfl)
  have c4 := (hB0.cell (p := ⟨bc, oc + k * 5 + 4, none⟩) hbc).trans (hcell 4 _ rfl)
  have f4 : wA.cell? ⟨w.heap.size, 4, none⟩ = _ := hX0.cell 1 4 rfl rfl
  have CS := tsizes_any (hkid.below hB0).toIn hb
  have hSm := hb.small
  have hSl := sizes_len (kidAt l k)
  have hcnt := hb.cnt
  have hl2 := h1.lens
  have hl3 := h3.lens
  subst eca
  have HN := Lib.hid h
  have H1 := Lib.hid h1
  have H3 := Lib.hid h3
  have H4 := Lib.hid h4
  have HK := Lib.hid hkid
  have HY := Lib.hid hy
  have HE := Lib.hid ey
  have HX := Lib.hid hX0
  have HB := Lib.hid hB0
  have HS := Lib.hid hSm
  have HL := Lib.hid hSl
  have HBN := Lib.hid hb
  obtain ⟨_, hl2, hl2'⟩ := hl2
  obtain ⟨_, hl3, hl3'⟩ := hl3
  have hcA : cntT (Tr.node p l) = l.length := rfl
  have hpA : (Tr.node p l).page = p := rfl
  have hfA : (Tr.node p l).isLeaf = false := rfl
  rw [hcA, hpA, hfA]
  rw [hcA] at hl2 H1
  clear hcell h1 h3 h4 hkid hy ey hX0 hB0 hSm hSl hb h hcA hpA hfA r1 r2 h2
  obtain ⟨kid, hkd⟩ : ∃ kid, kidAt l k = kid := ⟨_, rfl⟩
  rw [hkd] at HK HS HL HBN CS c0 c1 c2 hcnt HE
  have HKD := Lib.hid hkd
  obtain ⟨S, hS⟩ : ∃ S, sizesT kid = S := ⟨_, rfl⟩
  rw [hS] at HS HL CS
  have HSS := Lib.hid hS
  obtain ⟨kl, hkl⟩ : ∃ kl, kid.isLeaf = kl := ⟨_, rfl⟩
  obtain ⟨kp, hkp⟩ : ∃ kp, kid.page = kp := ⟨_, rfl⟩
  obtain ⟨kcn, hkc⟩ : ∃ kcn, cntT kid = kcn := ⟨_, rfl⟩
  rw [hkl] at HK CS HE c1
  rw [hkp] at HK CS HE c0
  rw [hkc] at HK CS HE c2 hcnt HL
  have HKL := Lib.hid hkl
  have HKC := Lib.hid hkc
  clear hkd hS hkl hkp hkc
  obtain ⟨m, hm⟩ : ∃ m, l.length = m := ⟨_, rfl⟩
  rw [hm] at hwA f4 hl2 hl3 HX hk hl H1 H3 ⊢
  have HM := Lib.hid hm
  clear hm
  go_enter Tryz.func190, Tryz.ntmps190
  go_wp2_with fail
  refine CS.mono ?_
  rintro e w1 ⟨v1, rfl, ho1, hb1⟩
  obtain ⟨sa, sc, rfl, hrow⟩ := Row.of_own ho1
  clear CS ho1
  go_wp2_with fail
  refine (at_any _ _ _ _ _ hrow HS.out).mono ?_
  rintro e w2 ⟨rfl, hb2⟩
  have hbA := below_via hb1 hb2
  have HBA := Lib.hid hbA
  have hX2 := HX.out.step hbA
  have HX2 := Lib.hid hX2
  have hz2 : w.heap.size + 2 ≤ w2.heap.size := Nat.le_trans hsA hbA.size
  have n0 := hX2.cell 1 0 rfl rfl
  have n1 := hX2.cell 1 1 rfl rfl
  have n2 := hX2.cell 1 2 rfl rfl
  have n3 := hX2.cell 1 3 rfl rfl
  have n4 := hX2.cell 1 4 rfl rfl
  have hbc2 : bc < wA.heap.size := Nat.lt_of_lt_of_le hbc HB.out.size
  have HCC := Lib.hid (And.intro c0 (And.intro c1 (And.intro c2 (And.intro c3 c4))))
  clear hb1 hb2 hrow hX2 c0 c1 c2 c3 c4 f4 hwA
  by_cases hat : atF S = 0
  · have HAT := Lib.hid hat
    obtain ⟨hsp, hsb⟩ := splitR_none (p := p) (l := l) (k := k) (by rw [HKD.out, HSS.out]; exact hat)
    rw [hat]
    have HSP := Lib.hid hsp
    have HSB := Lib.hid hsb
    have z0 := HX2.out.cell 0 0 rfl rfl
    have z1 := HX2.out.cell 0 1 rfl rfl
    have z2 := HX2.out.cell 0 2 rfl rfl
    have z3 := HX2.out.cell 0 3 rfl rfl
    have z4 := HX2.out.cell 0 4 rfl rfl
    have u0 := HX2.out.frozen 0 0 rfl
    have u1 := HX2.out.frozen 0 1 rfl
    have u2 := HX2.out.frozen 0 2 rfl
    have u3 := HX2.out.frozen 0 3 rfl
    have u4 := HX2.out.frozen 0 4 rfl
    have hX6 := set5_box HX2.out (by intro x hx; simp at hx; rw [hx]; simp) (.int .i64 p) (.bool false) (.slice ka m kc) (.slice va 0 vc) (.slice (some ⟨bc, oc, none⟩) m cc)
    have hB6 := set5_below (HB.out.trans (HBA.out.mono HB.out.size)) (b := w.heap.size + 1) (by omega) (.int .i64 p) (.bool false) (.slice ka m kc) (.slice va 0 vc) (.slice (some ⟨bc, oc, none⟩) m cc)
    obtain ⟨w6, hw6⟩ : ∃ w6, set5 w2 (w.heap.size + 1) (.int .i64 p) (.bool false) (.slice ka m kc) (.slice va 0 vc) (.slice (some ⟨bc, oc, none⟩) m cc) = w6 := ⟨_, rfl⟩
    rw [hw6] at hX6 hB6
    unfold set5 at hw6
    have HB6 := Lib.hid hB6
    have t0 := hX6.cell 0 0 rfl rfl
    have t1 := hX6.cell 0 1 rfl rfl
    have t2 := hX6.cell 0 2 rfl rfl
    have t3 := hX6.cell 0 3 rfl rfl
    have t4 := hX6.cell 0 4 rfl rfl
    clear hX6 hB6 hat hsp hsb
    go_wp2_with fail
    refine bodyPost_ret (v := .tuple #[.agg #[.int .i64 p, .bool false, .slice ka m kc, .slice va 0 vc, .slice (some ⟨bc, oc, none⟩) m cc], .bool false]) (by simp [results, Tryz.results190, go_sem, t0, t1, t2, t3, t4]) rfl ⟨[.int .i64 p, .bool false, .slice ka m kc, .slice va 0 vc, .slice (some ⟨bc, oc, none⟩) m cc], by rw [HSB.out], ?_, by first | exact HB6.out | (rw [hw6]; exact HB6.out)⟩
    rw [HSP.out]
    have := NodeOn.mono (Fr.old (F := F) (w := w)) (HN.out.below HB6.out)
    rw [show cntT (Tr.node p l) = l.length from rfl, HM.out] at this
    first | exact this | (rw [hw6]; exact this)
  · have hA : ∃ A : Nat, atF S = (A : Int) ∧ 0 < A ∧ A < kcn := by
      rcases atF_cases HS.out with ⟨e, _⟩ | ⟨_, A, g1, g2, g3, _⟩
      · exact absurd e hat
      · exact ⟨A, g3, by omega, by rw [← HL.out]; exact g2⟩
    obtain ⟨A, hA, hA0, hA1⟩ := hA
    rw [hA]
    have HAT := Lib.hid hA
    have d0 : ((A : Int) == 0) = false := by simp; omega
    have HNZ := Lib.hid hat
    obtain ⟨c0, c1, c2, c3, c4⟩ := HCC.out
    have e0 := (HBA.out.cell (p := ⟨bc, oc + k * 5, none⟩) hbc2).trans c0
    have e1 := (HBA.out.cell (p := ⟨bc, oc + k * 5 + 1, none⟩) hbc2).trans c1
    have e2 := (HBA.out.cell (p := ⟨bc, oc + k * 5 + 2, none⟩) hbc2).trans c2
    have e3 := (HBA.out.cell (p := ⟨bc, oc + k * 5 + 3, none⟩) hbc2).trans c3
    have e4 := (HBA.out.cell (p := ⟨bc, oc + k * 5 + 4, none⟩) hbc2).trans c4
    have hbw2 := HB.out.trans (HBA.out.mono HB.out.size)
    have CP := tpart_any (HK.out.below hbw2) A hA0 (by rw [HKC.out]; exact hA1) (by rw [HKC.out]; exact hcnt)
    have HBW := Lib.hid hbw2
    obtain ⟨ta, hta⟩ : ∃ t, (partT A kid).1 = t := ⟨_, rfl⟩
    obtain ⟨tb, htb⟩ : ∃ t, (partT A kid).2.1 = t := ⟨_, rfl⟩
    obtain ⟨key, hkey⟩ : ∃ t, (partT A kid).2.2 = t := ⟨_, rfl⟩
    rw [hta, htb, hkey] at CP
    have HTA := Lib.hid hta
    have HTB := Lib.hid htb
    have HKEY := Lib.hid hkey
    clear c0 c1 c2 c3 c4 hbw2 hta htb hkey hat hA
    go_wp2_with fail
    refine CP.mono ?_
    rintro e w3 ⟨xa, xb, rfl, hxA, hxB, hb3⟩
    obtain ⟨x1, x2, x3, x4, x5, x6, x7, x8, _, _, exa, _⟩ := hxA.open
    obtain ⟨y1, y2, y3, y4, y5, y6, y7, y8, _, _, exb, _⟩ := hxB.open
    subst exa exb
    obtain ⟨fa, hfa⟩ : ∃ t, ta.isLeaf = t := ⟨_, rfl⟩
    obtain ⟨fb, hfb⟩ : ∃ t, tb.isLeaf = t := ⟨_, rfl⟩
    obtain ⟨pa, hpa⟩ : ∃ t, ta.page = t := ⟨_, rfl⟩
    obtain ⟨pb, hpb⟩ : ∃ t, tb.page = t := ⟨_, rfl⟩
    obtain ⟨na, hna⟩ : ∃ t, cntT ta = t := ⟨_, rfl⟩
    obtain ⟨nb, hnb⟩ : ∃ t, cntT tb = t := ⟨_, rfl⟩
    rw [hfa, hpa, hna] at hxA ⊢
    rw [hfb, hpb, hnb] at hxB ⊢
    clear hfa hfb hpa hpb hna hnb
    have HXA := Lib.hid hxA
    have HXB := Lib.hid hxB
    have HB3 := Lib.hid (below_via HBW.out hb3)
    have HX3 := Lib.hid (HX2.out.step hb3)
    have hz3 : w.heap.size + 2 ≤ w3.heap.size := Nat.le_trans hz2 hb3.size
    clear CP hxA hxB hb3 e0 e1 e2 e3 e4 n0 n1 n2 n3 n4
    have hX4 : Boxes ((w3.alloc (.cells #[.int .i64 pa, .bool fa, .slice x1 na x2, .slice x3 x4 x5, .slice x6 x7 x8] 50)).alloc (.cells #[.int .i64 pb, .bool fb, .slice y1 nb y2, .slice y3 y4 y5, .slice y6 y7 y8] 50)) [(w3.heap.size + 1, [.int .i64 pb, .bool fb, .slice y1 nb y2, .slice y3 y4 y5, .slice y6 y7 y8]), (w3.heap.size, [.int .i64 pa, .bool fa, .slice x1 na x2, .slice x3 x4 x5, .slice x6 x7 x8]), (w.heap.size + 1, [.int .i64 0, .bool false, .slice none 0 0, .slice none 0 0, .slice none 0 0]), (w.heap.size, [.int .i64 p, .bool false, .slice ka m kc, .slice va 0 vc, .slice (some ⟨bc, oc, none⟩) m cc])] := (HX3.out.alloc #[.int .i64 pa, .bool fa, .slice x1 na x2, .slice x3 x4 x5, .slice x6 x7 x8] 50 rfl).alloc #[.int .i64 pb, .bool fb, .slice y1 nb y2, .slice y3 y4 y5, .slice y6 y7 y8] 50 (b := w3.heap.size + 1) (by simp)
    have hB4 : Below w3.heap.size w3 ((w3.alloc (.cells #[.int .i64 pa, .bool fa, .slice x1 na x2, .slice x3 x4 x5, .slice x6 x7 x8] 50)).alloc (.cells #[.int .i64 pb, .bool fb, .slice y1 nb y2, .slice y3 y4 y5, .slice y6 y7 y8] 50)) := Below.al (Below.al (Below.refl _ _))
    obtain ⟨wc, hwc⟩ : ∃ wc, (w3.alloc (.cells #[.int .i64 pa, .bool fa, .slice x1 na x2, .slice x3 x4 x5, .slice x6 x7 x8] 50)).alloc (.cells #[.int .i64 pb, .bool fb, .slice y1 nb y2, .slice y3 y4 y5, .slice y6 y7 y8] 50) = wc := ⟨_, rfl⟩
    rw [hwc] at hX4 hB4
    have HX := Lib.hid hX4
    have HBC := Lib.hid (below_via HB3.out hB4)
    have HB4 := Lib.hid hB4
    have hzc : w.heap.size + 2 ≤ wc.heap.size := Nat.le_trans hz3 hB4.size
    have HXc : Hid (Boxes wc [(w.heap.size, [.int .i64 p, .bool false, .slice ka m kc, .slice va 0 vc, .slice (some ⟨bc, oc, none⟩) m cc]), (w3.heap.size, [.int .i64 pa, .bool fa, .slice x1 na x2, .slice x3 x4 x5, .slice x6 x7 x8]), (w3.heap.size + 1, [.int .i64 pb, .bool fb, .slice y1 nb y2, .slice y3 y4 y5, .slice y6 y7 y8])]) := Lib.hid (hX4.sub (by intro x hx; simp only [List.mem_cons, List.not_mem_nil, or_false] at hx ⊢; rcases hx with e | e | e <;> simp [e]))
    clear hX4 hB4
    go_wp2_with fail
    clear hwc
    obtain ⟨LK, hLK⟩ : ∃ L, swapL ((keysOf l).map kCell) (k + 1) 0 [kCell key] = L := ⟨_, rfl⟩
    obtain ⟨cA, hcA⟩ : ∃ c : Cl 5, c.1 = [.int .i64 pa, .bool fa, .slice x1 na x2, .slice x3 x4 x5, .slice x6 x7 x8] := ⟨⟨[.int .i64 pa, .bool fa, .slice x1 na x2, .slice x3 x4 x5, .slice x6 x7 x8], rfl, by intro u hu; simp at hu; rcases hu with rfl | rfl | rfl | rfl | rfl <;> rfl⟩, rfl⟩
    obtain ⟨cB, hcB⟩ : ∃ c : Cl 5, c.1 = [.int .i64 pb, .bool fb, .slice y1 nb y2, .slice y3 y4 y5, .slice y6 y7 y8] := ⟨⟨[.int .i64 pb, .bool fb, .slice y1 nb y2, .slice y3 y4 y5, .slice y6 y7 y8], rfl, by intro u hu; simp at hu; rcases hu with rfl | rfl | rfl | rfl | rfl <;> rfl⟩, rfl⟩
    obtain ⟨LC, hLC⟩ : ∃ L, swapL C k 1 [cA, cB] = L := ⟨_, rfl⟩
    have hW1 : IntKind.i64.wrap ((k : Int) + 1) = (k : Int) + 1 := IntWalk.i64_in _ (by omega)
    have HC1 : ∀ (W : World) (x : Nat), Below wc.heap.size wc W → BoxAt W x #[.string (strOf key)] → Calls Tryz.prog 160 #[.slice ka m kc, .int .i64 ((k : Int) + 1), .int .i64 0, .slice (some ⟨x, 0, none⟩) 1 1] W (RowOut 9 1 wc W LK) := fun W x hW hX => by
      have := swap_s (H1.out.below (below_via HBC.out hW)) (raw_box (L := [kCell key]) hX (by simp)) (k + 1) 0 (by omega) (by simp; omega)
      rw [show (Tr.node p l).keys = keysOf l from rfl, hLK] at this
      have h2 : Calls Tryz.prog 160 #[.slice ka m kc, .int .i64 ((k : Int) + 1), .int .i64 0, .slice (some ⟨x, 0, none⟩) 1 1] W (OwnRaw 9 1 W LK) := by simpa using this
      exact h2.mono fun e w' h => OwnRaw.row hW h
    have HC2 : ∀ (W : World) (x : Nat), Below wc.heap.size wc W → BoxAt W x #[.int .i64 pa, .bool fa, .slice x1 na x2, .slice x3 x4 x5, .slice x6 x7 x8, .int .i64 pb, .bool fb, .slice y1 nb y2, .slice y3 y4 y5, .slice y6 y7 y8] → Calls Tryz.prog 158 #[.slice (some ⟨bc, oc, none⟩) m cc, .int .i64 (k : Int), .int .i64 1, .slice (some ⟨x, 0, none⟩) 2 2] W (RowOut 50 5 wc W LC) := fun W x hW hX => by
      have := swap_n (H3.out.below (below_via HBC.out hW)) (raw_box (L := [cA, cB]) (by simpa [flatC, hcA, hcB] using hX) (by simp)) k 1 (by omega) (by simp; omega)
      rw [hLC] at this
      have h2 : Calls Tryz.prog 158 #[.slice (some ⟨bc, oc, none⟩) m cc, .int .i64 (k : Int), .int .i64 1, .slice (some ⟨x, 0, none⟩) 2 2] W (OwnRaw 50 5 W LC) := by simpa using this
      exact h2.mono fun e w' h => OwnRaw.row hW h
    have HLK := Lib.hid hLK
    have HLC := Lib.hid hLC
    have HCA := Lib.hid hcA
    have HCB := Lib.hid hcB
    have hSc : Boxes wc [(w.heap.size, [.int .i64 p, .bool false, .slice ka m kc, .slice va 0 vc, .slice (some ⟨bc, oc, none⟩) m cc]), (w3.heap.size, [.int .i64 pa, .bool fa, .slice x1 na x2, .slice x3 x4 x5, .slice x6 x7 x8]), (w3.heap.size + 1, [.int .i64 pb, .bool fb, .slice y1 nb y2, .slice y3 y4 y5, .slice y6 y7 y8])] := HXc.out
    have hS0 : Boxes wc.drew [(w.heap.size, [.int .i64 p, .bool false, .slice ka m kc, .slice va 0 vc, .slice (some ⟨bc, oc, none⟩) m cc]), (w3.heap.size, [.int .i64 pa, .bool fa, .slice x1 na x2, .slice x3 x4 x5, .slice x6 x7 x8]), (w3.heap.size + 1, [.int .i64 pb, .bool fb, .slice y1 nb y2, .slice y3 y4 y5, .slice y6 y7 y8])] := HXc.out
    have hne : ∀ x ∈ ([(w.heap.size, [.int .i64 p, .bool false, .slice ka m kc, .slice va 0 vc, .slice (some ⟨bc, oc, none⟩) m cc]), (w3.heap.size, [.int .i64 pa, .bool fa, .slice x1 na x2, .slice x3 x4 x5, .slice x6 x7 x8]), (w3.heap.size + 1, [.int .i64 pb, .bool fb, .slice y1 nb y2, .slice y3 y4 y5, .slice y6 y7 y8])] : List (Nat × List Value)), x.1 ≠ w.heap.size + 1 := by intro x hx; simp at hx; rcases hx with rfl | rfl | rfl <;> simp <;> omega
    have k1 : ∀ W, Boxes W [(w.heap.size, [.int .i64 p, .bool false, .slice ka m kc, .slice va 0 vc, .slice (some ⟨bc, oc, none⟩) m cc]), (w3.heap.size, [.int .i64 pa, .bool fa, .slice x1 na x2, .slice x3 x4 x5, .slice x6 x7 x8]), (w3.heap.size + 1, [.int .i64 pb, .bool fb, .slice y1 nb y2, .slice y3 y4 y5, .slice y6 y7 y8])] → W.cell? ⟨w.heap.size, 2, none⟩ = some (.slice ka m kc) := fun W hW => hW.cell 0 2 rfl rfl
    have k2 : ∀ W, Boxes W [(w.heap.size, [.int .i64 p, .bool false, .slice ka m kc, .slice va 0 vc, .slice (some ⟨bc, oc, none⟩) m cc]), (w3.heap.size, [.int .i64 pa, .bool fa, .slice x1 na x2, .slice x3 x4 x5, .slice x6 x7 x8]), (w3.heap.size + 1, [.int .i64 pb, .bool fb, .slice y1 nb y2, .slice y3 y4 y5, .slice y6 y7 y8])] → W.cell? ⟨w.heap.size, 4, none⟩ = some (.slice (some ⟨bc, oc, none⟩) m cc) := fun W hW => hW.cell 0 4 rfl rfl
    have ka0 : ∀ W, Boxes W [(w.heap.size, [.int .i64 p, .bool false, .slice ka m kc, .slice va 0 vc, .slice (some ⟨bc, oc, none⟩) m cc]), (w3.heap.size, [.int .i64 pa, .bool fa, .slice x1 na x2, .slice x3 x4 x5, .slice x6 x7 x8]), (w3.heap.size + 1, [.int .i64 pb, .bool fb, .slice y1 nb y2, .slice y3 y4 y5, .slice y6 y7 y8])] → W.cell? ⟨w3.heap.size, 0, none⟩ = some (.int .i64 pa) := fun W hW => hW.cell 1 0 rfl rfl
    have ka1 : ∀ W, Boxes W [(w.heap.size, [.int .i64 p, .bool false, .slice ka m kc, .slice va 0 vc, .slice (some ⟨bc, oc, none⟩) m cc]), (w3.heap.size, [.int .i64 pa, .bool fa, .slice x1 na x2, .slice x3 x4 x5, .slice x6 x7 x8]), (w3.heap.size + 1, [.int .i64 pb, .bool fb, .slice y1 nb y2, .slice y3 y4 y5, .slice y6 y7 y8])] → W.cell? ⟨w3.heap.size, 1, none⟩ = some (.bool fa) := fun W hW => hW.cell 1 1 rfl rfl
    have ka2 : ∀ W, Boxes W [(w.heap.size, [.int .i64 p, .bool false, .slice ka m kc, .slice va 0 vc, .slice (some ⟨bc, oc, none⟩) m cc]), (w3.heap.size, [.int .i64 pa, .bool fa, .slice x1 na x2, .slice x3 x4 x5, .slice x6 x7 x8]), (w3.heap.size + 1, [.int .i64 pb, .bool fb, .slice y1 nb y2, .slice y3 y4 y5, .slice y6 y7 y8])] → W.cell? ⟨w3.heap.size, 2, none⟩ = some (.slice x1 na x2) := fun W hW => hW.cell 1 2 rfl rfl
    have ka3 : ∀ W, Boxes W [(w.heap.size, [.int .i64 p, .bool false, .slice ka m kc, .slice va 0 vc, .slice (some ⟨bc, oc, none⟩) m cc]), (w3.heap.size, [.int .i64 pa, .bool fa, .slice x1 na x2, .slice x3 x4 x5, .slice x6 x7 x8]), (w3.heap.size + 1, [.int .i64 pb, .bool fb, .slice y1 nb y2, .slice y3 y4 y5, .slice y6 y7 y8])] → W.cell? ⟨w3.heap.size, 3, none⟩ = some (.slice x3 x4 x5) := fun W hW => hW.cell 1 3 rfl rfl
    have ka4 : ∀ W, Boxes W [(w.heap.size, [.int .i64 p, .bool false, .slice ka m kc, .slice va 0 vc, .slice (some ⟨bc, oc, none⟩) m cc]), (w3.heap.size, [.int .i64 pa, .bool fa, .slice x1 na x2, .slice x3 x4 x5, .slice x6 x7 x8]), (w3.heap.size + 1, [.int .i64 pb, .bool fb, .slice y1 nb y2, .slice y3 y4 y5, .slice y6 y7 y8])] → W.cell? ⟨w3.heap.size, 4, none⟩ = some (.slice x6 x7 x8) := fun W hW => hW.cell 1 4 rfl rfl
    have kb0 : ∀ W, Boxes W [(w.heap.size, [.int .i64 p, .bool false, .slice ka m kc, .slice va 0 vc, .slice (some ⟨bc, oc, none⟩) m cc]), (w3.heap.size, [.int .i64 pa, .bool fa, .slice x1 na x2, .slice x3 x4 x5, .slice x6 x7 x8]), (w3.heap.size + 1, [.int .i64 pb, .bool fb, .slice y1 nb y2, .slice y3 y4 y5, .slice y6 y7 y8])] → W.cell? ⟨w3.heap.size + 1, 0, none⟩ = some (.int .i64 pb) := fun W hW => hW.cell 2 0 rfl rfl
    have kb1 : ∀ W, Boxes W [(w.heap.size, [.int .i64 p, .bool false, .slice ka m kc, .slice va 0 vc, .slice (some ⟨bc, oc, none⟩) m cc]), (w3.heap.size, [.int .i64 pa, .bool fa, .slice x1 na x2, .slice x3 x4 x5, .slice x6 x7 x8]), (w3.heap.size + 1, [.int .i64 pb, .bool fb, .slice y1 nb y2, .slice y3 y4 y5, .slice y6 y7 y8])] → W.cell? ⟨w3.heap.size + 1, 1, none⟩ = some (.bool fb) := fun W hW => hW.cell 2 1 rfl rfl
    have kb2 : ∀ W, Boxes W [(w.heap.size, [.int .i64 p, .bool false, .slice ka m kc, .slice va 0 vc, .slice (some ⟨bc, oc, none⟩) m cc]), (w3.heap.size, [.int .i64 pa, .bool fa, .slice x1 na x2, .slice x3 x4 x5, .slice x6 x7 x8]), (w3.heap.size + 1, [.int .i64 pb, .bool fb, .slice y1 nb y2, .slice y3 y4 y5, .slice y6 y7 y8])] → W.cell? ⟨w3.heap.size + 1, 2, none⟩ = some (.slice y1 nb y2) := fun W hW => hW.cell 2 2 rfl rfl
    have kb3 : ∀ W, Boxes W [(w.heap.size, [.int .i64 p, .bool false, .slice ka m kc, .slice va 0 vc, .slice (some ⟨bc, oc, none⟩) m cc]), (w3.heap.size, [.int .i64 pa, .bool fa, .slice x1 na x2, .slice x3 x4 x5, .slice x6 x7 x8]), (w3.heap.size + 1, [.int .i64 pb, .bool fb, .slice y1 nb y2, .slice y3 y4 y5, .slice y6 y7 y8])] → W.cell? ⟨w3.heap.size + 1, 3, none⟩ = some (.slice y3 y4 y5) := fun W hW => hW.cell 2 3 rfl rfl
    have kb4 : ∀ W, Boxes W [(w.heap.size, [.int .i64 p, .bool false, .slice ka m kc, .slice va 0 vc, .slice (some ⟨bc, oc, none⟩) m cc]), (w3.heap.size, [.int .i64 pa, .bool fa, .slice x1 na x2, .slice x3 x4 x5, .slice x6 x7 x8]), (w3.heap.size + 1, [.int .i64 pb, .bool fb, .slice y1 nb y2, .slice y3 y4 y5, .slice y6 y7 y8])] → W.cell? ⟨w3.heap.size + 1, 4, none⟩ = some (.slice y6 y7 y8) := fun W hW => hW.cell 2 4 rfl rfl
    clear hLK hLC hcA hcB
    go_upto_region 5 with (fail)
    go_cut [4, 5] (fun s4 s5 wx => s4 = .pointer (some ⟨w.heap.size + 1, 0, none⟩) ∧ s5 = .bool true ∧ SplitEnd F w3 w LK LC wx)
    case first =>
      go_region_held3 (fun W => Boxes W [(w.heap.size, [.int .i64 p, .bool false, .slice ka m kc, .slice va 0 vc, .slice (some ⟨bc, oc, none⟩) m cc]), (w3.heap.size, [.int .i64 pa, .bool fa, .slice x1 na x2, .slice x3 x4 x5, .slice x6 x7 x8]), (w3.heap.size + 1, [.int .i64 pb, .bool fb, .slice y1 nb y2, .slice y3 y4 y5, .slice y6 y7 y8])]) (first | with_reducible assumption | (repeat (with_reducible first | assumption | apply Boxes.al | apply Boxes.dr | apply Boxes.st))) (first | (go_at_call 160; (with_reducible refine (HC1 _ _ ?_ ?_).mono ?_); (focus (repeat (with_reducible first | assumption | exact Below.refl _ _ | apply Below.al | apply Below.dr))); (focus (repeat (with_reducible first | assumption | exact BoxAt.here3 | exact BoxAt.here2 | exact BoxAt.here | apply BoxAt.dr | apply BoxAt.al))); rintro e w1 hq1; obtain ⟨a1, c1, rfl, i11, i12, ho1, hb1, hB1⟩ := hq1; have hS1 : Boxes w1 [(w.heap.size, [.int .i64 p, .bool false, .slice ka m kc, .slice va 0 vc, .slice (some ⟨bc, oc, none⟩) m cc]), (w3.heap.size, [.int .i64 pa, .bool fa, .slice x1 na x2, .slice x3 x4 x5, .slice x6 x7 x8]), (w3.heap.size + 1, [.int .i64 pb, .bool fb, .slice y1 nb y2, .slice y3 y4 y5, .slice y6 y7 y8])] := HXc.out.step hB1; have U1 := fun b cs h => BoxAt.below (b := b) (cs := cs) h hb1) | (go_at_call 158; (with_reducible refine (HC2 _ _ ?_ ?_).mono ?_); (focus (repeat (with_reducible first | assumption | exact Below.refl _ _ | apply Below.al | apply Below.dr))); (focus (repeat (with_reducible first | assumption | exact BoxAt.here3 | exact BoxAt.here2 | exact BoxAt.here | apply BoxAt.dr | apply BoxAt.al | apply U1))); rintro e w2 hq2; obtain ⟨a2, c2, rfl, i21, i22, ho2, hb2, hB2⟩ := hq2; have hS2 : Boxes w2 [(w.heap.size, [.int .i64 p, .bool false, .slice ka m kc, .slice va 0 vc, .slice (some ⟨bc, oc, none⟩) m cc]), (w3.heap.size, [.int .i64 pa, .bool fa, .slice x1 na x2, .slice x3 x4 x5, .slice x6 x7 x8]), (w3.heap.size + 1, [.int .i64 pb, .bool fb, .slice y1 nb y2, .slice y3 y4 y5, .slice y6 y7 y8])] := HXc.out.step hB2; have U2 := fun b cs h => BoxAt.below (b := b) (cs := cs) h hb2; have hk12 := below_via (a := w1) (by (repeat (with_reducible first | exact Below.refl _ _ | apply Below.al | apply Below.dr))) hb2; have hX2 := HX.out.step hB2; have z0 : w2.cell? ⟨w.heap.size + 1, 0, none⟩ = _ := hX2.cell 2 0 rfl rfl; have u0 : w2.frozen? ⟨w.heap.size + 1, 0, none⟩ = false := hX2.frozen 2 0 rfl; have z1 : w2.cell? ⟨w.heap.size + 1, 1, none⟩ = _ := hX2.cell 2 1 rfl rfl; have u1 : w2.frozen? ⟨w.heap.size + 1, 1, none⟩ = false := hX2.frozen 2 1 rfl; have z2 : w2.cell? ⟨w.heap.size + 1, 2, none⟩ = _ := hX2.cell 2 2 rfl rfl; have u2 : w2.frozen? ⟨w.heap.size + 1, 2, none⟩ = false := hX2.frozen 2 2 rfl; have z3 : w2.cell? ⟨w.heap.size + 1, 3, none⟩ = _ := hX2.cell 2 3 rfl rfl; have u3 : w2.frozen? ⟨w.heap.size + 1, 3, none⟩ = false := hX2.frozen 2 3 rfl; have z4 : w2.cell? ⟨w.heap.size + 1, 4, none⟩ = _ := hX2.cell 2 4 rfl rfl; have u4 : w2.frozen? ⟨w.heap.size + 1, 4, none⟩ = false := hX2.frozen 2 4 rfl))
      all_goals
        go_wp2_with fail
        go_meet
        have hg : ∀ {E : TypeId} {sz : Nat} {v : Value} {n : Nat} {xs : List Value}, w2.ownsRow wc.heap.size E sz v n xs → v.ownBlock ≠ some (w.heap.size + 1) := fun h e => by have := own_ge h _ e; omega
        have o1 := own_held ho1 hk12
        exact ⟨rfl, rfl, a1, c1, a2, c2, set5_box (b := w.heap.size + 1) (hX2.sub (m := [(w.heap.size + 1, [.int .i64 0, .bool false, .slice none 0 0, .slice none 0 0, .slice none 0 0])]) (by intro x hx; simp only [List.mem_cons, List.not_mem_nil, or_false] at hx; rw [hx]; simp)) (by simp) _ _ _ _ _,
          Raw.of_sl (set5_own o1 (hg o1) _ _ _ _ _) rfl, Raw.of_sl (set5_own ho2 (hg ho2) _ _ _ _ _) rfl, set5_below (HBC.out.trans (hB2.mono HBC.out.size)) (by omega) _ _ _ _ _, Fa.of_own o1 (Fr.new HBC.out.size), Fa.of_own ho2 (Fr.new HBC.out.size), fun G hG => (((((AgreeF.of_below (below_via HB4.out hB2)).set (.inl hG)).set (.inl hG)).set (.inl hG)).set (.inl hG)).set (.inl hG)⟩
    case rest =>
    unfold SplitEnd at hcut
    obtain ⟨rfl, rfl, v1, v2, v3, v4, hx9, r1, r3, hb9, s1, s3, s4⟩ := hcut
    have HR1 := Lib.hid r1
    have HR3 := Lib.hid r3
    have HB9 := Lib.hid hb9
    have HS1 := Lib.hid s1
    have HS3 := Lib.hid s3
    have HS4 := Lib.hid s4
    have t0 := hx9.cell 0 0 rfl rfl
    have t1 := hx9.cell 0 1 rfl rfl
    have t2 := hx9.cell 0 2 rfl rfl
    have t3 := hx9.cell 0 3 rfl rfl
    have t4 := hx9.cell 0 4 rfl rfl
    clear r1 r3 hb9 hx9 s1 s3 s4 k1 k2 ka0 ka1 ka2 ka3 ka4 kb0 kb1 kb2 kb3 kb4 HC1 HC2
    go_wp2_with fail
    have hF1 : ∀ b, (F b ∧ b < w.heap.size) → Fr F w b := fun b h => .inl h.1
    have hF2 : ¬ Fr (fun b => F b ∧ b < w.heap.size) w2 (w.heap.size + 1) := fun h => by rcases h with h | h <;> omega
    have hF3 : ∀ b, Fr (fun b => F b ∧ b < w.heap.size) w2 b → Fr F w b := fun b h => by rcases h with h | h; exact .inl h.1; exact .inr (by omega)
    obtain ⟨M, m1, m2, m3, m4⟩ := splitR_ok (p := p) (V := []) (A := cA) (B := cB) (k := k) ((H4.out.below HB9.out).mono hF1) (by rw [HM.out]; exact hk) (by rw [HKD.out, HSS.out]; exact HNZ.out) (by rw [HKD.out, HSS.out, HAT.out, HCA.out, Int.toNat_natCast, HTA.out]; exact (HXA.out.agree (HS4.out _ hF2)).mono hF3) (by rw [HKD.out, HSS.out, HAT.out, HCB.out, Int.toNat_natCast, HTB.out]; exact (HXB.out.agree (HS4.out _ hF2)).mono hF3)
    refine bodyPost_ret (v := .tuple #[.agg #[.int .i64 0, .bool false, .slice v1 LK.length v2, .slice none 0 0, .slice v3 LC.length v4], .bool true]) (by simp [results, Tryz.results190, go_sem, t0, t1, t2, t3, t4]) rfl ⟨[.int .i64 0, .bool false, .slice v1 LK.length v2, .slice none 0 0, .slice v3 LC.length v4], by rw [m2], ?_, HB9.out⟩
    rw [m1]
    rw [HKD.out, HSS.out, HAT.out, Int.toNat_natCast, HKEY.out] at m3
    rw [HLC.out] at m4
    refine NodeOn.shut rfl rfl ?_ HR1.out (Raw.nil0 _ _) HR3.out HS1.out (Fa.zero _ _) HS3.out m4
    rw [← HLK.out, show (Tr.node 0 M).keys = keysOf M from rfl, m3, swap_map]; rfl
end Go.Proofs.YtpghlmcoajaiiaaGreatDoor

/- Mending: plain words, and a branch whose kids were put together. -/
namespace Go.Proofs.YtpghlmcoajaiiaaGreatDoor
open Go.RowKit

theorem lay {P Q : Prop} (hp : P) (hq : P → Q) : Q := hq hp
theorem lay_zero {W w' : World} {b : Nat} {cs : Array Value} {Q : Prop} (hb : Below W.heap.size W w') (hx : BoxAt W b cs) (hq : BoxAt w' b cs ∧ b < W.heap.size → Q) : Q := hq (zero_lt hx hb)
theorem mend_split {p : Int} {l : List (List UInt8 × Tr)} {k : Nat} (h : (splitT l k).isSome = true) : mendT p l k = splitR p l k := by
  unfold mendT splitR
  cases hs : splitT l k with
  | none => rw [hs] at h; simp at h
  | some m => rfl
theorem mend_same {p : Int} {l : List (List UInt8 × Tr)} {k : Nat} (h : (splitT l k).isSome = false) (h2 : lowT (kidAt l k) = false ∨ l.length < 2) : mendT p l k = .node p l := by
  unfold mendT
  cases hs : splitT l k with
  | none => simp only; rw [if_pos h2]
  | some m => rw [hs] at h; simp at h
theorem mend_join {p : Int} {l : List (List UInt8 × Tr)} {k : Nat} (h : (splitT l k).isSome = false) (h2 : lowT (kidAt l k) = true) (h3 : 2 ≤ l.length) : mendT p l k = splitR 0 (joined l (joinAt l.length k)) (joinAt l.length k) := by
  unfold mendT splitR
  cases hs : splitT l k with
  | none => simp only; rw [if_neg (by rw [h2]; simp; omega)]; rfl
  | some m => rw [hs] at h; simp at h
theorem list_two {α : Type} {l : List α} {j : Nat} (h : j + 1 < l.length) : ∃ a c d r, l = a ++ c :: d :: r ∧ a.length = j := by
  obtain ⟨a, c, b, e, ha⟩ := list_at (l := l) (k := j) (by omega)
  cases b with
  | nil => rw [e] at h; simp at h; omega
  | cons d r => exact ⟨a, c, d, r, e, ha⟩
theorem two_at {α : Type} (a r : List (List UInt8 × α)) (c d : List UInt8 × α) : keyAt (a ++ c :: d :: r) (a.length + 1) = d.1 := by simp [keyAt]
theorem two_kid (a r : List (List UInt8 × Tr)) (c d : List UInt8 × Tr) : kidAt (a ++ c :: d :: r) (a.length + 1) = d.2 := by simp [kidAt]
theorem joinedR {F : Nat → Prop} {n : Nat} {w : World} {p : Int} {l : List (List UInt8 × Tr)} {j : Nat} {V : List (Cl 2)} {C : List (Cl 5)} {B : Cl 5} (h : NodeRF F n w ((keysOf l).map kCell) V C (.node p l)) (hj : j + 1 < l.length)
    (hB : NodeOn F n w B.1 (joinT (keyAt l (j + 1)) (kidAt l j) (kidAt l (j + 1)))) :
    NodeRF F n w ((keysOf (joined l j)).map kCell) [] (swapL C j 2 [B]) (.node 0 (joined l j)) ∧ keysOf (joined l j) = swapL (keysOf l) (j + 1) 1 [] ∧ kidAt (joined l j) j = joinT (keyAt l (j + 1)) (kidAt l j) (kidAt l (j + 1)) ∧ (joined l j).length + 1 = l.length := by
  obtain ⟨a, c, d, r, rfl, rfl⟩ := list_two hj
  rw [two_at, two_kid, kidAt_at] at hB ⊢
  have e := joined_right a r c d
  rw [e]
  have h1 : (a.map (·.1)).length = a.length := by simp
  have h2 : (a.map (·.2)).length = a.length := by simp
  refine ⟨⟨tells_keys _, rfl, ?_⟩, ?_, kidAt_at a r (c.1, joinT d.1 c.2 d.2), by simp; omega⟩
  · have := (h.2.2).swap (Tells.one hB) a.length 2
    have e3 : (a.map (·.2) ++ c.2 :: d.2 :: r.map (·.2)).drop (a.length + 2) = r.map (·.2) := by
      have := mid_drop (x := a.map (·.2) ++ [c.2]) (c := d.2) (y := r.map (·.2)) (n := a.length + 1) (by simp)
      simpa using this
    simpa [swapL, e3] using this
  · have e3 : (a.map (·.1) ++ c.1 :: d.1 :: r.map (·.1)).drop (a.length + 1 + 1) = r.map (·.1) := by
      have := mid_drop (x := a.map (·.1) ++ [c.1]) (c := d.1) (y := r.map (·.1)) (n := a.length + 1) (by simp)
      simpa using this
    simp [swapL, keysOf, mid_take h1, e3]
/-- What mending asks of a branch's kids. -/
structure MendOk (n : Nat) (l : List (List UInt8 × Tr)) : Prop where
  len : l.length ≤ 1000
  bnd : ∀ c ∈ l, Bnd (n + 1) c.2
  kind : ∀ c ∈ l, ∀ d ∈ l, c.2.isLeaf = d.2.isLeaf
  some_ : ∀ c ∈ l, c.2.isLeaf = false → 0 < cntT c.2
  both : ∀ j, j + 1 < l.length → Bnd (n + 1) (joinT (keyAt l (j + 1)) (kidAt l j) (kidAt l (j + 1)))
theorem kid_mem {l : List (List UInt8 × Tr)} {k : Nat} (h : k < l.length) : ∃ c ∈ l, c.2 = kidAt l k := ⟨l[k], List.getElem_mem h, by simp [kidAt, h]⟩
def zero5 : Array Value := #[.int .i64 0, .bool false, .slice none 0 0, .slice none 0 0, .slice none 0 0]
/-- An empty branch is no kid here. -/
theorem node_not_zero {F : Nat → Prop} {n : Nat} {w : World} {cs : List Value} {t : Tr} (h : NodeOn F n w cs t) (ht : t.isLeaf = false → 0 < cntT t) : cs ≠ zero5.toList := by
  cases n with
  | zero => exact h.elim
  | succ n =>
    obtain ⟨ka, kc, va, vn, vc, ca, cn, cc, V, C, e, h1, _⟩ := h.open
    intro hz
    rw [hz] at e
    unfold zero5 at e
    simp only [List.cons.injEq, Value.bool.injEq, Value.slice.injEq, and_true] at e
    obtain ⟨_, hl, ⟨_, hc, _⟩, _⟩ := e
    have := ht hl.symm
    omega
theorem keys_not_zero {ks : List (List UInt8)} (h : 0 < ks.length) : ∃ i, i < (flatC (ks.map kCell)).length ∧ zero5[i]? ≠ (flatC (ks.map kCell))[i]? := by
  refine ⟨0, by rw [flat_keys]; simpa using h, ?_⟩
  rw [flat_keys]
  cases ks with
  | nil => simp at h
  | cons k r => simp [zero5]
theorem nodes_not_zero {L : List (Cl 5)} (h : 0 < L.length) (hz : ∀ x ∈ L, x.1 ≠ zero5.toList) : ∃ i, i < (flatC L).length ∧ zero5[i]? ≠ (flatC L)[i]? := by
  cases L with
  | nil => simp at h
  | cons x r =>
    have hx := hz x (by simp)
    have hl : x.1.length = 5 := x.2.1
    have hne : ¬ ∀ i, i < 5 → zero5[i]? = x.1[i]? := by
      intro he
      apply hx
      apply List.ext_getElem?
      intro i
      by_cases hi : i < 5
      · rw [← he i hi]; simp
      · rw [List.getElem?_eq_none (by omega), List.getElem?_eq_none (by simp [zero5]; omega)]
    obtain ⟨i, hi⟩ := Classical.not_forall.1 hne
    have hi' := Classical.not_imp.1 hi
    refine ⟨i, ?_, ?_⟩
    · show i < (x.1 ++ flatC r).length
      rw [List.length_append]; omega
    · show zero5[i]? ≠ (x.1 ++ flatC r)[i]?
      rw [List.getElem?_append_left (by omega)]
      exact hi'.2
theorem mem_swapL {α : Type} {l s : List α} {i j : Nat} {x : α} (h : x ∈ swapL l i j s) : x ∈ l ∨ x ∈ s := by
  unfold swapL at h
  rcases List.mem_append.1 h with h | h
  · exact .inl (List.mem_of_mem_take h)
  · rcases List.mem_append.1 h with h | h
    · exact .inr h
    · exact .inl (List.mem_of_mem_drop h)
theorem len_swapL {α : Type} {l s : List α} {i j : Nat} (h : i + j ≤ l.length) : (swapL l i j s).length + j = l.length + s.length := by
  simp [swapL]; omega
/-- The blocks of what is parted at last. -/
def MF (F' : Nat → Prop) (w wc : World) (a1 a2 : Option Addr) (b : Nat) : Prop := F' b ∨ (w.heap.size + 2 ≤ b ∧ b < wc.heap.size) ∨ (∃ off, a1 = some ⟨b, off, none⟩) ∨ ∃ off, a2 = some ⟨b, off, none⟩
theorem join_cnt {key : List UInt8} {a b : Tr} (h : a.isLeaf = b.isLeaf) : cntT (joinT key a b) = cntT a + cntT b := by
  cases a <;> cases b
  · simp [joinT, cntT]
  · simp [Tr.isLeaf] at h
  · simp [Tr.isLeaf] at h
  · rename_i p l q m
    cases m <;> simp [joinT, cntT, firstK]
def MendLast (F : Nat → Prop) (n : Nat) (w : World) (T : Tr) (s8 : Value) (wx : World) : Prop :=
  ∃ b8 p l a k c a2 n2 c2 a3 n3 c3, s8 = .pointer (some ⟨b8, 0, none⟩) ∧ Boxes wx [(b8, [.int .i64 p, .bool l, .slice a k c, .slice a2 n2 c2, .slice a3 n3 c3]), (w.heap.size + 1, zero5.toList)] ∧ Below w.heap.size w wx ∧ w.heap.size + 2 ≤ b8 ∧
    NodeOn (fun b => (F b ∧ b < w.heap.size) ∨ w.heap.size + 2 ≤ b) n wx [.int .i64 p, .bool l, .slice a k c, .slice a2 n2 c2, .slice a3 n3 c3] T
section
variable {F : Nat → Prop} {n : Nat} {w wc W3 w3 : World} {T : Tr} {p : Int} {lf : Bool} {x1 : Option Addr} {x2 x3 : Nat} {x4 : Option Addr} {x5 x6 : Nat} {x7 : Option Addr} {x8 x9 : Nat} {a1 a2 : Option Addr} {m1 m2 c1 c2 : Nat} {e1 e2 : TypeId} {xs1 xs2 : List Value}
theorem mend_mono (_hBC : Below w.heap.size w wc) (hzc : w.heap.size + 2 ≤ wc.heap.size) (hws : wc.heap.size ≤ W3.heap.size) {wa wb : World} (ho1 : wa.ownsRow wc.heap.size e1 1 (.slice a1 m1 c1) m1 xs1) (ho2 : wb.ownsRow wc.heap.size e2 5 (.slice a2 m2 c2) m2 xs2) (b : Nat) (h : Fr (MF (fun b => F b ∧ b < w.heap.size) w wc a1 a2) W3 b) : (F b ∧ b < w.heap.size) ∨ w.heap.size + 2 ≤ b := by
  rcases h with h | h
  · rcases h with h | h | ⟨off, h⟩ | ⟨off, h⟩
    · exact .inl h
    · exact .inr h.1
    · subst h
      rcases ho1.2 with ⟨h, _⟩ | ⟨g, cap, cur, h, hb, _⟩
      · cases h
      · cases h; exact .inr (by omega)
    · subst h
      rcases ho2.2 with ⟨h, _⟩ | ⟨g, cap, cur, h, hb, _⟩
      · cases h
      · cases h; exact .inr (by omega)
  · exact .inr (by omega)
theorem mendlast_a (t : TypeId) (hBC : Below w.heap.size w wc) (hzc : w.heap.size + 2 ≤ wc.heap.size) (hws : wc.heap.size ≤ W3.heap.size) (hB3 : Below wc.heap.size wc w3) (hX : Boxes wc [(w.heap.size + 1, zero5.toList)])
    {wa wb : World} (ho1 : wa.ownsRow wc.heap.size e1 1 (.slice a1 m1 c1) m1 xs1) (ho2 : wb.ownsRow wc.heap.size e2 5 (.slice a2 m2 c2) m2 xs2)
    (hn : NodeOn (Fr (MF (fun b => F b ∧ b < w.heap.size) w wc a1 a2) W3) n w3 [.int .i64 p, .bool lf, .slice x1 x2 x3, .slice x4 x5 x6, .slice x7 x8 x9] T) :
    MendLast F n w T (.pointer (some ⟨w3.heap.size, 0, none⟩)) (w3.alloc (.cells #[.int .i64 p, .bool lf, .slice x1 x2 x3, .slice x4 x5 x6, .slice x7 x8 x9] t)) :=
  ⟨_, _, _, _, _, _, _, _, _, _, _, _, rfl, (hX.step hB3).alloc #[.int .i64 p, .bool lf, .slice x1 x2 x3, .slice x4 x5 x6, .slice x7 x8 x9] t rfl, (hBC.trans (hB3.mono hBC.size)).alloc (by have := hB3.size; omega) _, by have := hB3.size; omega,
    NodeOn.mono (mend_mono hBC hzc hws ho1 ho2) (hn.below (Below.al (Below.refl _ _)))⟩
theorem mendlast_b (hBC : Below w.heap.size w wc) (hzc : w.heap.size + 2 ≤ wc.heap.size) (hws : wc.heap.size ≤ W3.heap.size) (hB3 : Below wc.heap.size wc w3) (hX : Boxes wc [(w.heap.size + 1, zero5.toList)])
    (ho1 : w3.ownsRow wc.heap.size e1 1 (.slice a1 m1 c1) m1 xs1) (ho2 : w3.ownsRow wc.heap.size e2 5 (.slice a2 m2 c2) m2 xs2) (h1 : ∃ i, i < xs1.length ∧ zero5[i]? ≠ xs1[i]?) (h2 : ∃ i, i < xs2.length ∧ zero5[i]? ≠ xs2[i]?)
    {b8 : Nat} (hz : BoxAt w3 b8 zero5) (hzl : b8 < W3.heap.size) (hb8 : wc.heap.size ≤ b8)
    (hn : NodeOn (Fr (MF (fun b => F b ∧ b < w.heap.size) w wc a1 a2) W3) n w3 [.int .i64 p, .bool lf, .slice x1 x2 x3, .slice x4 x5 x6, .slice x7 x8 x9] T) :
    MendLast F n w T (.pointer (some ⟨b8, 0, none⟩)) (set5 w3 b8 (.int .i64 p) (.bool lf) (.slice x1 x2 x3) (.slice x4 x5 x6) (.slice x7 x8 x9)) := by
  have hne : ¬ Fr (MF (fun b => F b ∧ b < w.heap.size) w wc a1 a2) W3 b8 := fun h => by
    rcases h with h | h
    · rcases h with h | h | ⟨off, h⟩ | ⟨off, h⟩
      · have := h.2; have := hBC.size; omega
      · have := h.2; omega
      · exact own_not_box ho1 hz h1 b8 off h rfl
      · exact own_not_box ho2 hz h2 b8 off h rfl
    · omega
  have hb : Boxes w3 [(b8, [.int .i64 0, .bool false, .slice none 0 0, .slice none 0 0, .slice none 0 0]), (w.heap.size + 1, zero5.toList)] := by
    intro x hx
    simp only [List.mem_cons, List.not_mem_nil, or_false] at hx
    rcases hx with rfl | rfl
    · exact hz.boxes _ (by simp [zero5])
    · exact (hX.step hB3) _ (by simp)
  refine ⟨b8, _, _, _, _, _, _, _, _, _, _, _, rfl, set5_box hb (by intro x hx; simp at hx; subst hx; simp; omega) _ _ _ _ _, set5_below (hBC.trans (hB3.mono hBC.size)) (by have := hBC.size; omega) _ _ _ _ _, by omega, ?_⟩
  exact NodeOn.mono (mend_mono hBC hzc hws ho1 ho2) (hn.agree ((((((AgreeF.of_below (Below.refl _ _)).set (.inl hne)).set (.inl hne)).set (.inl hne)).set (.inl hne)).set (.inl hne)))
end
end Go.Proofs.YtpghlmcoajaiiaaGreatDoor

/- The walks of trees: mending (printed by gen_treM.py). -/
namespace Go.Proofs.YtpghlmcoajaiiaaGreatDoor
open Go.RowKit

def MendMid (F' : Nat → Prop) (n : Nat) (w w2 : World) (T : Tr) (s7 : Value) (wx : World) : Prop :=
  ∃ b7 p l a k c a2 n2 c2 a3 n3 c3, s7 = .pointer (some ⟨b7, 0, none⟩) ∧ Boxes wx [(b7, [.int .i64 p, .bool l, .slice a k c, .slice a2 n2 c2, .slice a3 n3 c3])] ∧ Below w2.heap.size w2 wx ∧ w2.heap.size ≤ b7 ∧
    NodeOn (fun b => F' b ∨ w.heap.size + 2 ≤ b) n wx [.int .i64 p, .bool l, .slice a k c, .slice a2 n2 c2, .slice a3 n3 c3] T
set_option maxRecDepth 100000 in
set_option maxHeartbeats 1500000 in
theorem tmend_any {F : Nat → Prop} {n : Nat} {w : World} {cs : List Value} {p : Int} {l : List (List UInt8 × Tr)} (h : NodeOn F (n + 2) w cs (.node p l)) (k : Nat) (hk : k < l.length) (ho : MendOk n l) :
    Calls Tryz.prog 156 #[.agg cs.toArray, .int .i64 (k : Int)] w (NodeTo F (n + 2) w (mendT p l k)) := by
  have hlt := h.lt
  obtain ⟨ka, kc, va, vn, vc, ca, cn, cc, V, C, rfl, h1, h2, h3, h4, f1, _, f3⟩ := hlt.open
  obtain ⟨_, r1, r2⟩ := h4.toR.lens
  have hV : V = [] := h4.2.1
  have hcn : cn = l.length := by rw [← h3.1, r2]; rfl
  have hvn : vn = 0 := by rw [← h2.1, hV]; rfl
  subst hV hcn hvn
  have hcA : cntT (Tr.node p l) = l.length := rfl
  have hpA : (Tr.node p l).page = p := rfl
  have hfA : (Tr.node p l).isLeaf = false := rfl
  have hkA : (Tr.node p l).keys = keysOf l := rfl
  rw [hcA, hpA, hfA] at hlt ⊢
  rw [hcA, hkA] at h1
  rw [hcA] at f1
  rw [hkA] at h4
  obtain ⟨m, hm⟩ : ∃ m, l.length = m := ⟨_, rfl⟩
  rw [hm] at hk h1 h3 f1 f3 hlt ⊢
  have hm9 : m ≤ 1000 := by rw [← hm]; exact ho.len
  obtain ⟨_, e2, e3⟩ := h1.lens
  obtain ⟨_, e5, e6⟩ := h3.lens
  obtain ⟨kidm, hkm, hkx⟩ := kid_mem (l := l) (k := k) (by omega)
  have hkb : Bnd (n + 1) (kidAt l k) := by rw [← hkx]; exact ho.bnd _ hkm
  have hB0 : Below w.heap.size w ((w.alloc (.cells #[.int .i64 p, .bool false, .slice ka m kc, .slice va 0 vc, .slice ca m cc] 50)).alloc (.cells #[.int .i64 0, .bool false, .slice none 0 0, .slice none 0 0, .slice none 0 0] 50)) := Below.al (Below.al (Below.refl _ _))
  have hX0 : Boxes _ [(w.heap.size + 1, [.int .i64 0, .bool false, .slice none 0 0, .slice none 0 0, .slice none 0 0]), (w.heap.size, [.int .i64 p, .bool false, .slice ka m kc, .slice va 0 vc, .slice ca m cc])] := (((Boxes.nil w).alloc #[.int .i64 p, .bool false, .slice ka m kc, .slice va 0 vc, .slice ca m cc] 50 rfl).alloc #[.int .i64 0, .bool false, .slice none 0 0, .slice none 0 0, .slice none 0 0] 50 (b := w.heap.size + 1) (by simp))
  obtain ⟨wA, hwA⟩ : ∃ wA, (w.alloc (.cells #[.int .i64 p, .bool false, .slice ka m kc, .slice va 0 vc, .slice ca m cc] 50)).alloc (.cells #[.int .i64 0, .bool false, .slice none 0 0, .slice none 0 0, .slice none 0 0] 50) = wA := ⟨_, rfl⟩
  have hzA : w.heap.size + 2 ≤ wA.heap.size := by rw [← hwA]; simp
  rw [hwA] at hB0 hX0
  have CS := tsplit_any (hlt.below hB0) k (by omega) ho.len hkb
  have f0 := hX0.cell 1 0 rfl rfl
  have f11 := hX0.cell 1 1 rfl rfl
  have f2 := hX0.cell 1 2 rfl rfl
  have f33 := hX0.cell 1 3 rfl rfl
  have f4 := hX0.cell 1 4 rfl rfl
  have HX := Lib.hid hX0
  have HB := Lib.hid hB0
  have H1 := Lib.hid h1
  have H3 := Lib.hid h3
  have H4 := Lib.hid h4
  have HN := Lib.hid hlt
  have HO := Lib.hid ho
  have HM := Lib.hid hm
  have HKB := Lib.hid hkb
  clear hX0 hB0 h1 h2 h3 h4 h hlt ho hm hkb r1 r2 hcA hpA hfA hkA kidm hkm hkx
  obtain ⟨T1, hT1⟩ : ∃ T, splitR p l k = T := ⟨_, rfl⟩
  obtain ⟨B1, hB1⟩ : ∃ B, (splitT l k).isSome = B := ⟨_, rfl⟩
  rw [hT1, hB1] at CS
  have HT1 := Lib.hid hT1
  have HB1 := Lib.hid hB1
  clear hT1 hB1
  go_enter Tryz.func156, Tryz.ntmps156
  go_wp2_with fail
  refine CS.mono ?_
  rintro e w1 ⟨x5, rfl, hn5, hb5⟩
  obtain ⟨g1, g2, g3, g4, g5, g6, g7, g8, _, _, ex5, _⟩ := hn5.open
  subst ex5
  obtain ⟨lf5, hlf5⟩ : ∃ t, T1.isLeaf = t := ⟨_, rfl⟩
  obtain ⟨pg5, hpg5⟩ : ∃ t, T1.page = t := ⟨_, rfl⟩
  obtain ⟨cn5, hcn5⟩ : ∃ t, cntT T1 = t := ⟨_, rfl⟩
  rw [hlf5, hpg5, hcn5] at hn5 ⊢
  have HN5 := Lib.hid hn5
  have HB5 := Lib.hid hb5
  have HX5 := Lib.hid (HX.out.step hb5)
  have hz5 : w.heap.size + 2 ≤ w1.heap.size := Nat.le_trans hzA hb5.size
  have HBW := Lib.hid (HB.out.trans (hb5.mono HB.out.size))
  clear CS hn5 hb5 hlf5 hpg5 hcn5 f0 f11 f2 f33 f4 hwA
  have hX6 : Boxes (w1.alloc (.cells #[.int .i64 pg5, .bool lf5, .slice g1 cn5 g2, .slice g3 g4 g5, .slice g6 g7 g8] 50)) [(w1.heap.size, [.int .i64 pg5, .bool lf5, .slice g1 cn5 g2, .slice g3 g4 g5, .slice g6 g7 g8]), (w.heap.size + 1, [.int .i64 0, .bool false, .slice none 0 0, .slice none 0 0, .slice none 0 0]), (w.heap.size, [.int .i64 p, .bool false, .slice ka m kc, .slice va 0 vc, .slice ca m cc])] := HX5.out.alloc #[.int .i64 pg5, .bool lf5, .slice g1 cn5 g2, .slice g3 g4 g5, .slice g6 g7 g8] 50 rfl
  have hB6 : Below w1.heap.size w1 (w1.alloc (.cells #[.int .i64 pg5, .bool lf5, .slice g1 cn5 g2, .slice g3 g4 g5, .slice g6 g7 g8] 50)) := Below.al (Below.refl _ _)
  obtain ⟨wB, hwB⟩ : ∃ wB, w1.alloc (.cells #[.int .i64 pg5, .bool lf5, .slice g1 cn5 g2, .slice g3 g4 g5, .slice g6 g7 g8] 50) = wB := ⟨_, rfl⟩
  rw [hwB] at hX6 hB6
  have hzB : w1.heap.size + 1 ≤ wB.heap.size := by rw [← hwB]; simp
  have HXB := Lib.hid hX6
  have HBB := Lib.hid (HBW.out.trans (hB6.mono HBW.out.size))
  have HN6 := Lib.hid (HN5.out.below hB6)
  have m0 := hX6.cell 0 0 rfl rfl
  have m1 := hX6.cell 0 1 rfl rfl
  have m2 := hX6.cell 0 2 rfl rfl
  have m3 := hX6.cell 0 3 rfl rfl
  have m4 := hX6.cell 0 4 rfl rfl
  have z0 := hX6.cell 1 0 rfl rfl
  have z1 := hX6.cell 1 1 rfl rfl
  have z2 := hX6.cell 1 2 rfl rfl
  have z3 := hX6.cell 1 3 rfl rfl
  have z4 := hX6.cell 1 4 rfl rfl
  have u0 := hX6.frozen 1 0 rfl
  have u1 := hX6.frozen 1 1 rfl
  have u2 := hX6.frozen 1 2 rfl
  have u3 := hX6.frozen 1 3 rfl
  have u4 := hX6.frozen 1 4 rfl
  have n0 := hX6.cell 2 0 rfl rfl
  have n1 := hX6.cell 2 1 rfl rfl
  have n2 := hX6.cell 2 2 rfl rfl
  have n3 := hX6.cell 2 3 rfl rfl
  have n4 := hX6.cell 2 4 rfl rfl
  clear hX6 hB6
  cases B1 with
  | true =>
    have hX7 := set5_box (HXB.out.sub (m := [(w.heap.size + 1, [.int .i64 0, .bool false, .slice none 0 0, .slice none 0 0, .slice none 0 0])]) (by simp)) (by simp) (.int .i64 pg5) (.bool lf5) (.slice g1 cn5 g2) (.slice g3 g4 g5) (.slice g6 g7 g8)
    obtain ⟨w6, hw6⟩ : ∃ w6, set5 wB (w.heap.size + 1) (.int .i64 pg5) (.bool lf5) (.slice g1 cn5 g2) (.slice g3 g4 g5) (.slice g6 g7 g8) = w6 := ⟨_, rfl⟩
    have hB7 := set5_below HBB.out (b := w.heap.size + 1) (by omega) (.int .i64 pg5) (.bool lf5) (.slice g1 cn5 g2) (.slice g3 g4 g5) (.slice g6 g7 g8)
    have hA7 : ∀ G : Nat → Prop, ¬ G (w.heap.size + 1) → AgreeF G wB (set5 wB (w.heap.size + 1) (.int .i64 pg5) (.bool lf5) (.slice g1 cn5 g2) (.slice g3 g4 g5) (.slice g6 g7 g8)) := fun G hG => (((((AgreeF.of_below (Below.refl _ _)).set (.inl hG)).set (.inl hG)).set (.inl hG)).set (.inl hG)).set (.inl hG)
    rw [hw6] at hX7 hB7 hA7
    unfold set5 at hw6
    have HB7 := Lib.hid hB7
    have HA7 := Lib.hid hA7
    have t0 := hX7.cell 0 0 rfl rfl
    have t1 := hX7.cell 0 1 rfl rfl
    have t2 := hX7.cell 0 2 rfl rfl
    have t3 := hX7.cell 0 3 rfl rfl
    have t4 := hX7.cell 0 4 rfl rfl
    clear hX7 hB7 hA7
    go_wp2_with fail
    refine bodyPost_ret (v := .agg #[.int .i64 pg5, .bool lf5, .slice g1 cn5 g2, .slice g3 g4 g5, .slice g6 g7 g8]) (by simp [results, Tryz.results156, go_sem, t0, t1, t2, t3, t4]) rfl ⟨[.int .i64 pg5, .bool lf5, .slice g1 cn5 g2, .slice g3 g4 g5, .slice g6 g7 g8], rfl, ?_, by first | exact HB7.out | (rw [hw6]; exact HB7.out)⟩
    rw [mend_split HB1.out, HT1.out]
    have := (HN6.out.agree (HA7.out _ (fun h => by rcases h with h | h <;> omega))).mono (G := Fr F w) (fun b h => by rcases h with h | h; exact .inl h.1; exact .inr (by omega))
    first | exact this | (rw [hw6]; exact this)
  | false =>
    obtain ⟨bc, oc, y, yc, eca, hbc, hy, _, hyc, hcell⟩ := TabR.at H3.out hk
    have hyc : yc = y.1 := hyc
    subst hyc eca
    have hkid := kid_tells H4.out.2.2 hy
    obtain ⟨q1, q2, q3, q4, q5, q6, q7, q8, _, _, ey, _⟩ := hkid.open
    rw [ey] at hcell hkid
    obtain ⟨kid, hkd⟩ : ∃ kid, kidAt l k = kid := ⟨_, rfl⟩
    rw [hkd] at hcell hkid
    obtain ⟨kl, hkl⟩ : ∃ kl, kid.isLeaf = kl := ⟨_, rfl⟩
    obtain ⟨kp, hkp⟩ : ∃ kp, kid.page = kp := ⟨_, rfl⟩
    obtain ⟨kcn, hkc⟩ : ∃ kcn, cntT kid = kcn := ⟨_, rfl⟩
    rw [hkl, hkp, hkc] at hcell hkid
    have hbB : bc < w.heap.size := hbc
    have e0 := (HBB.out.cell (p := ⟨bc, oc + k * 5, none⟩) hbB).trans (hcell 0 _ rfl)
    have e1 := (HBB.out.cell (p := ⟨bc, oc + k * 5 + 1, none⟩) hbB).trans (hcell 1 _ rfl)
    have e2 := (HBB.out.cell (p := ⟨bc, oc + k * 5 + 2, none⟩) hbB).trans (hcell 2 _ rfl)
    have e3 := (HBB.out.cell (p := ⟨bc, oc + k * 5 + 3, none⟩) hbB).trans (hcell 3 _ rfl)
    have e4 := (HBB.out.cell (p := ⟨bc, oc + k * 5 + 4, none⟩) hbB).trans (hcell 4 _ rfl)
    have hKB := HKB.out
    rw [hkd] at hKB
    have CS2 := tsizes_any (hkid.below HBB.out).toIn hKB
    have hSm := hKB.small
    have HKD := Lib.hid hkd
    have HKID := Lib.hid hkid
    clear hcell hkid ey hkd hkl hkp hkc hy hKB
    obtain ⟨S, hS⟩ : ∃ S, sizesT kid = S := ⟨_, rfl⟩
    rw [hS] at CS2 hSm
    have HS := Lib.hid hS
    have HSm := Lib.hid hSm
    clear hS hSm
    go_wp2_with fail
    refine CS2.mono ?_
    rintro e w2 ⟨v2, rfl, ho2, hb2⟩
    obtain ⟨sa, sc, rfl, hrow⟩ := Row.of_own ho2
    clear CS2 ho2
    go_wp2_with fail
    refine (low_any _ _ _ _ _ hrow HSm.out).mono ?_
    rintro e w3 ⟨rfl, rfl⟩
    have hbW := HBB.out.trans (hb2.mono HBB.out.size)
    have HB3 := Lib.hid hb2
    have HBW3 := Lib.hid hbW
    have hX8 := HXB.out.step hb2
    have HX8 := Lib.hid hX8
    have hz8 : w1.heap.size + 1 ≤ w2.heap.size := Nat.le_trans hzB hb2.size
    clear e0 e1 e2 e3 e4 m0 m1 m2 m3 m4 z0 z1 z2 z3 z4 u0 u1 u2 u3 u4 n0 n1 n2 n3 n4 hrow hb2 hbW
    have n0 := hX8.cell 2 0 rfl rfl
    have n1 := hX8.cell 2 1 rfl rfl
    have n2 := hX8.cell 2 2 rfl rfl
    have n3 := hX8.cell 2 3 rfl rfl
    have n4 := hX8.cell 2 4 rfl rfl
    obtain ⟨lo, hlo⟩ : ∃ lo, decide (sumI S < 30) = lo := ⟨_, rfl⟩
    have HLO : Hid (lowT (kidAt l k) = lo) := Lib.hid (by rw [HKD.out, ← hlo, ← HS.out]; rfl)
    rw [hlo]
    clear hlo
    by_cases hsame : lo = false ∨ m < 2
    · have z0 := hX8.cell 1 0 rfl rfl
      have z1 := hX8.cell 1 1 rfl rfl
      have z2 := hX8.cell 1 2 rfl rfl
      have z3 := hX8.cell 1 3 rfl rfl
      have z4 := hX8.cell 1 4 rfl rfl
      have u0 := hX8.frozen 1 0 rfl
      have u1 := hX8.frozen 1 1 rfl
      have u2 := hX8.frozen 1 2 rfl
      have u3 := hX8.frozen 1 3 rfl
      have u4 := hX8.frozen 1 4 rfl
      have hX7 := set5_box (HX8.out.sub (m := [(w.heap.size + 1, [.int .i64 0, .bool false, .slice none 0 0, .slice none 0 0, .slice none 0 0])]) (by simp)) (by simp) (.int .i64 p) (.bool false) (.slice ka m kc) (.slice va 0 vc) (.slice (some ⟨bc, oc, none⟩) m cc)
      obtain ⟨w6, hw6⟩ : ∃ w6, set5 w2 (w.heap.size + 1) (.int .i64 p) (.bool false) (.slice ka m kc) (.slice va 0 vc) (.slice (some ⟨bc, oc, none⟩) m cc) = w6 := ⟨_, rfl⟩
      have hB7 := set5_below HBW3.out (b := w.heap.size + 1) (by omega) (.int .i64 p) (.bool false) (.slice ka m kc) (.slice va 0 vc) (.slice (some ⟨bc, oc, none⟩) m cc)
      rw [hw6] at hX7 hB7
      unfold set5 at hw6
      have HB7 := Lib.hid hB7
      have t0 := hX7.cell 0 0 rfl rfl
      have t1 := hX7.cell 0 1 rfl rfl
      have t2 := hX7.cell 0 2 rfl rfl
      have t3 := hX7.cell 0 3 rfl rfl
      have t4 := hX7.cell 0 4 rfl rfl
      have HSAME := Lib.hid hsame
      have fin : Hid (NodeTo F (n + 2) w (mendT p l k) (.returned (.agg #[.int .i64 p, .bool false, .slice ka m kc, .slice va 0 vc, .slice (some ⟨bc, oc, none⟩) m cc])) w6) := Lib.hid ⟨[.int .i64 p, .bool false, .slice ka m kc, .slice va 0 vc, .slice (some ⟨bc, oc, none⟩) m cc], rfl, by
        rw [mend_same HB1.out (by rw [HLO.out, HM.out]; exact HSAME.out)]
        exact NodeOn.mono (fun b h => .inl h.1) (HN.out.below HB7.out), HB7.out⟩
      clear hX7 hB7 hX8
      rcases hsame with rfl | hm2
      · go_wp2_with fail
        refine bodyPost_ret (v := .agg #[.int .i64 p, .bool false, .slice ka m kc, .slice va 0 vc, .slice (some ⟨bc, oc, none⟩) m cc]) (by simp [results, Tryz.results156, go_sem, t0, t1, t2, t3, t4]) rfl ?_
        first | exact fin.out | (rw [hw6]; exact fin.out)
      · cases lo with
        | false =>
          go_wp2_with fail
          refine bodyPost_ret (v := .agg #[.int .i64 p, .bool false, .slice ka m kc, .slice va 0 vc, .slice (some ⟨bc, oc, none⟩) m cc]) (by simp [results, Tryz.results156, go_sem, t0, t1, t2, t3, t4]) rfl ?_
          first | exact fin.out | (rw [hw6]; exact fin.out)
        | true =>
          have d2 : decide ((m : Int) < 2) = true := by simp; omega
          have d2' : decide (m < 2) = true := by simp; omega
          go_wp2_with fail
          refine bodyPost_ret (v := .agg #[.int .i64 p, .bool false, .slice ka m kc, .slice va 0 vc, .slice (some ⟨bc, oc, none⟩) m cc]) (by simp [results, Tryz.results156, go_sem, t0, t1, t2, t3, t4]) rfl ?_
          first | exact fin.out | (rw [hw6]; exact fin.out)
    · obtain ⟨rfl, hm2⟩ : lo = true ∧ 2 ≤ m := by
        cases lo with
        | false => exact absurd (.inl rfl) hsame
        | true => exact ⟨rfl, by omega⟩
      have d2 : decide ((m : Int) < 2) = false := by simp; omega
      have d2' : decide (m < 2) = false := by simp; omega
      clear hsame
      obtain ⟨g, hg, hj⟩ : ∃ g : Nat, neighF (m : Int) (k : Int) = (g : Int) ∧ min k g = joinAt m k := by
        unfold neighF joinAt
        by_cases hk1 : k + 1 < m
        · exact ⟨k + 1, by rw [if_pos (by omega)]; rfl, by rw [if_pos hk1]; omega⟩
        · exact ⟨k - 1, by rw [if_neg (by omega)]; omega, by rw [if_neg hk1]; omega⟩
      have hj1 : joinAt m k + 1 < m := by unfold joinAt; split <;> omega
      have hg9 : g ≤ 2000 := by
        unfold neighF at hg
        split at hg <;> omega
      have CN := neighbour_any (m : Int) (k : Int) w2 (by omega) (by omega)
      rw [hg] at CN
      obtain ⟨jj, hjj⟩ : ∃ jj, joinAt m k = jj := ⟨_, rfl⟩
      rw [hjj] at hj hj1
      have HJJ := Lib.hid hjj
      have hmin1 : (if (g : Int) < (k : Int) then (g : Int) else (k : Int)) = (jj : Int) := by split <;> omega
      have hmin2 : (if g < k then (g : Int) else (k : Int)) = (jj : Int) := by split <;> omega
      clear hg hjj hj
      go_wp2_with fail
      refine CN.mono ?_
      rintro e w4 ⟨rfl, rfl⟩
      clear CN
      obtain ⟨bc1, oc1, y1, yc1, eca1, _, hy1, _, hyc1, hcell1⟩ := TabR.at H3.out (show jj < m by omega)
      obtain ⟨bc2, oc2, y2, yc2, eca2, _, hy2, _, hyc2, hcell2⟩ := TabR.at H3.out hj1
      cases eca1
      cases eca2
      have hyc1 : yc1 = y1.1 := hyc1
      have hyc2 : yc2 = y2.1 := hyc2
      subst hyc1 hyc2
      have hkid1 := kid_tells H4.out.2.2 hy1
      have hkid2 := kid_tells H4.out.2.2 hy2
      obtain ⟨a1, a2, a3, a4, a5, a6, a7, a8, _, _, ey1, _⟩ := hkid1.open
      obtain ⟨b1, b2, b3, b4, b5, b6, b7, b8, _, _, ey2, _⟩ := hkid2.open
      rw [ey1] at hcell1 hkid1
      rw [ey2] at hcell2 hkid2
      obtain ⟨kb, ko, ekb, hkb, hkcell⟩ := H1.out.key_at hj1
      subst ekb
      have HTJ : Hid (∀ W, Below w2.heap.size w2 W → Calls Tryz.prog 192 #[.agg #[.int .i64 (kidAt l jj).page, .bool (kidAt l jj).isLeaf, .slice a1 (cntT (kidAt l jj)) a2, .slice a3 a4 a5, .slice a6 a7 a8], .agg #[.int .i64 (kidAt l (jj + 1)).page, .bool (kidAt l (jj + 1)).isLeaf, .slice b1 (cntT (kidAt l (jj + 1))) b2, .slice b3 b4 b5, .slice b6 b7 b8], .string (strOf ((keysOf l)[jj + 1]?.getD []))] W (NodeTo (fun b => F b ∧ b < w.heap.size) (n + 1) W (joinT (keyAt l (jj + 1)) (kidAt l jj) (kidAt l (jj + 1))))) := Lib.hid (fun W hW => by
        obtain ⟨c1, hc1, hx1⟩ := kid_mem (l := l) (k := jj) (by rw [HM.out]; omega)
        obtain ⟨c2, hc2, hx2⟩ := kid_mem (l := l) (k := jj + 1) (by rw [HM.out]; omega)
        have hb := below_via HBW3.out hW
        have hkk : (keysOf l)[jj + 1]?.getD [] = keyAt l (jj + 1) := by simp [keyAt, keysOf]
        rw [hkk]
        exact tjoin_any (keyAt l (jj + 1)) (hkid1.below hb) (hkid2.below hb) (by rw [← hx1, ← hx2]; exact HO.out.kind c1 hc1 c2 hc2) (by rw [← hx2]; exact HO.out.some_ c2 hc2) (by rw [← hx1]; exact (HO.out.bnd c1 hc1).cnt) (by rw [← hx2]; exact (HO.out.bnd c2 hc2).cnt))
      clear hkid1 hkid2 ey1 ey2 hy1 hy2
      generalize (kidAt l jj).page = p1 at *
      generalize (kidAt l jj).isLeaf = l1 at *
      generalize cntT (kidAt l jj) = c1 at *
      generalize (kidAt l (jj + 1)).page = p2 at *
      generalize (kidAt l (jj + 1)).isLeaf = l2 at *
      generalize cntT (kidAt l (jj + 1)) = c2 at *
      generalize (keysOf l)[jj + 1]?.getD [] = kkey at *
      obtain ⟨TJ, hTJ⟩ : ∃ t, joinT (keyAt l (jj + 1)) (kidAt l jj) (kidAt l (jj + 1)) = t := ⟨_, rfl⟩
      rw [hTJ] at HTJ
      have HTJE := Lib.hid hTJ
      clear hTJ
      have HJ := HTJ.out
      have k2 : ∀ W, Below w2.heap.size w2 W → W.cell? ⟨w.heap.size, 2, none⟩ = some (.slice (some ⟨kb, ko, none⟩) m kc) := fun W hW => (HX8.out.step hW).cell 2 2 rfl rfl
      have k4 : ∀ W, Below w2.heap.size w2 W → W.cell? ⟨w.heap.size, 4, none⟩ = some (.slice (some ⟨bc, oc, none⟩) m cc) := fun W hW => (HX8.out.step hW).cell 2 4 rfl rfl
      have kk : ∀ W, Below w2.heap.size w2 W → W.cell? ⟨kb, ko + (jj + 1), none⟩ = some (.string (strOf kkey)) := fun W hW => ((below_via HBW3.out hW).cell (p := ⟨kb, ko + (jj + 1), none⟩) hkb).trans hkcell
      have kka0 : ∀ W, Below w2.heap.size w2 W → W.cell? ⟨bc, oc + jj * 5, none⟩ = some (.int .i64 p1) := fun W hW => ((below_via HBW3.out hW).cell (p := ⟨bc, oc + jj * 5, none⟩) hbB).trans (hcell1 0 _ rfl)
      have kka1 : ∀ W, Below w2.heap.size w2 W → W.cell? ⟨bc, oc + jj * 5 + 1, none⟩ = some (.bool l1) := fun W hW => ((below_via HBW3.out hW).cell (p := ⟨bc, oc + jj * 5 + 1, none⟩) hbB).trans (hcell1 1 _ rfl)
      have kka2 : ∀ W, Below w2.heap.size w2 W → W.cell? ⟨bc, oc + jj * 5 + 2, none⟩ = some (.slice a1 c1 a2) := fun W hW => ((below_via HBW3.out hW).cell (p := ⟨bc, oc + jj * 5 + 2, none⟩) hbB).trans (hcell1 2 _ rfl)
      have kka3 : ∀ W, Below w2.heap.size w2 W → W.cell? ⟨bc, oc + jj * 5 + 3, none⟩ = some (.slice a3 a4 a5) := fun W hW => ((below_via HBW3.out hW).cell (p := ⟨bc, oc + jj * 5 + 3, none⟩) hbB).trans (hcell1 3 _ rfl)
      have kka4 : ∀ W, Below w2.heap.size w2 W → W.cell? ⟨bc, oc + jj * 5 + 4, none⟩ = some (.slice a6 a7 a8) := fun W hW => ((below_via HBW3.out hW).cell (p := ⟨bc, oc + jj * 5 + 4, none⟩) hbB).trans (hcell1 4 _ rfl)
      have kkb0 : ∀ W, Below w2.heap.size w2 W → W.cell? ⟨bc, oc + (jj + 1) * 5, none⟩ = some (.int .i64 p2) := fun W hW => ((below_via HBW3.out hW).cell (p := ⟨bc, oc + (jj + 1) * 5, none⟩) hbB).trans (hcell2 0 _ rfl)
      have kkb1 : ∀ W, Below w2.heap.size w2 W → W.cell? ⟨bc, oc + (jj + 1) * 5 + 1, none⟩ = some (.bool l2) := fun W hW => ((below_via HBW3.out hW).cell (p := ⟨bc, oc + (jj + 1) * 5 + 1, none⟩) hbB).trans (hcell2 1 _ rfl)
      have kkb2 : ∀ W, Below w2.heap.size w2 W → W.cell? ⟨bc, oc + (jj + 1) * 5 + 2, none⟩ = some (.slice b1 c2 b2) := fun W hW => ((below_via HBW3.out hW).cell (p := ⟨bc, oc + (jj + 1) * 5 + 2, none⟩) hbB).trans (hcell2 2 _ rfl)
      have kkb3 : ∀ W, Below w2.heap.size w2 W → W.cell? ⟨bc, oc + (jj + 1) * 5 + 3, none⟩ = some (.slice b3 b4 b5) := fun W hW => ((below_via HBW3.out hW).cell (p := ⟨bc, oc + (jj + 1) * 5 + 3, none⟩) hbB).trans (hcell2 3 _ rfl)
      have kkb4 : ∀ W, Below w2.heap.size w2 W → W.cell? ⟨bc, oc + (jj + 1) * 5 + 4, none⟩ = some (.slice b6 b7 b8) := fun W hW => ((below_via HBW3.out hW).cell (p := ⟨bc, oc + (jj + 1) * 5 + 4, none⟩) hbB).trans (hcell2 4 _ rfl)
      have hw1 : IntKind.i64.wrap ((jj : Int) + 1) = (jj : Int) + 1 := IntWalk.i64_in _ (by omega)
      have hw2 : ((jj : Int) + 1).toNat = jj + 1 := by omega
      have hw3 : (0 : Int) ≤ (jj : Int) + 1 := by omega
      have hw4 : decide ((jj : Int) + 1 < m) = true := by simp; omega
      have hw5 : decide ((jj : Int) < m) = true := by simp; omega
      have hw6 : (jj : Int) + 1 < m := by omega
      have hw7 : (jj : Int) < m := by omega
      have hC0 : Below w2.heap.size w2 w2.drew := (Below.refl _ _).drew
      clear hcell1 hcell2 hkcell n0 n1 n2 n3 n4
      go_upto_region 7 with (fail)
      clear hmin1 hmin2
      go_cut [7] (fun s7 wx => MendMid (fun b => F b ∧ b < w.heap.size) (n + 1) w w2 TJ s7 wx)
      case first =>
        go_region_held3 (fun W => Below w2.heap.size w2 W) (first | with_reducible assumption | (repeat (with_reducible first | assumption | exact Nat.le_refl _ | exact Below.refl _ _ | apply Below.al | apply Below.dr | apply Below.st))) (first | (go_at_call 192; (with_reducible refine (HJ _ ?_).mono ?_); (focus (repeat (with_reducible first | assumption | exact Below.refl _ _ | apply Below.al | apply Below.dr))); rintro e w9 hq9; obtain ⟨x9, rfl, hn9, hb9⟩ := hq9; obtain ⟨g1, g2, g3, g4, g5, g6, g7, g8, _, _, ex9, _⟩ := hn9.open; subst ex9; have hB9 : Below w2.heap.size w2 w9 := below_via (by (repeat (with_reducible first | assumption | exact Below.refl _ _ | apply Below.al | apply Below.dr))) hb9; (try (refine lay (P := BoxAt w9 w2.heap.size #[.int .i64 0, .bool false, .slice none 0 0, .slice none 0 0, .slice none 0 0]) (BoxAt.below ?_ hb9) ?_; (focus ((repeat (with_reducible first | assumption | exact BoxAt.here3 | exact BoxAt.here2 | exact BoxAt.here | apply BoxAt.dr | apply BoxAt.al)); done)); intro hz9; have z0 := hz9.cell (i := 0) rfl; have z1 := hz9.cell (i := 1) rfl; have z2 := hz9.cell (i := 2) rfl; have z3 := hz9.cell (i := 3) rfl; have z4 := hz9.cell (i := 4) rfl; have u0 := hz9.frozen 0; have u1 := hz9.frozen 1; have u2 := hz9.frozen 2; have u3 := hz9.frozen 3; have u4 := hz9.frozen 4))))
        all_goals
          go_wp2_with fail
          go_meet
          first
            | (have hA : MendMid (fun b => F b ∧ b < w.heap.size) (n + 1) w w2 TJ (.pointer (some ⟨w9.heap.size, 0, none⟩)) (w9.alloc (.cells #[.int .i64 TJ.page, .bool TJ.isLeaf, .slice g1 (cntT TJ) g2, .slice g3 g4 g5, .slice g6 g7 g8] 50)) := ⟨_, _, _, _, _, _, _, _, _, _, _, _, rfl, (Boxes.nil w9).alloc #[.int .i64 TJ.page, .bool TJ.isLeaf, .slice g1 (cntT TJ) g2, .slice g3 g4 g5, .slice g6 g7 g8] 50 rfl, Below.al hB9, hB9.size, NodeOn.mono (fun b h => by rcases h with h | h; exact .inl h; (have h : w2.heap.size ≤ b := h); exact .inr (by omega)) (hn9.below (Below.al (Below.refl _ _)))⟩
               with_reducible exact hA)
            | (have hn8 : ¬ Fr (fun b => F b ∧ b < w.heap.size) (w2.alloc (.cells #[.int .i64 0, .bool false, .slice none 0 0, .slice none 0 0, .slice none 0 0] 50)).drew w2.heap.size := fun h => by
                 rcases h with h | h
                 · exact absurd h.2 (by omega)
                 · have h : (w2.alloc (.cells #[.int .i64 0, .bool false, .slice none 0 0, .slice none 0 0, .slice none 0 0] 50)).heap.size ≤ w2.heap.size := h
                   simp at h <;> omega
               have hA : MendMid (fun b => F b ∧ b < w.heap.size) (n + 1) w w2 TJ (.pointer (some ⟨w2.heap.size, 0, none⟩)) (set5 w9 w2.heap.size (.int .i64 TJ.page) (.bool TJ.isLeaf) (.slice g1 (cntT TJ) g2) (.slice g3 g4 g5) (.slice g6 g7 g8)) := ⟨w2.heap.size, _, _, _, _, _, _, _, _, _, _, _, rfl, set5_box hz9.boxes (by simp) _ _ _ _ _, set5_below hB9 (Nat.le_refl _) _ _ _ _ _, Nat.le_refl _, NodeOn.mono (fun b h => by rcases h with h | h; exact .inl h; (have h : (w2.alloc (.cells #[.int .i64 0, .bool false, .slice none 0 0, .slice none 0 0, .slice none 0 0] 50)).heap.size ≤ b := h); simp at h; exact .inr (by omega)) (hn9.agree ((((((AgreeF.of_below (Below.refl _ _)).set (.inl hn8)).set (.inl hn8)).set (.inl hn8)).set (.inl hn8)).set (.inl hn8)))⟩
               unfold set5 at hA
               with_reducible exact hA)
      case rest =>
      unfold MendMid at hcut
      obtain ⟨b7, p9, l9, x1, x2, x3, x4, x5, x6, x7, x8, x9, rfl, hx7, hbc7, hb7, hn7⟩ := hcut
      clear k2 k4 kk kka0 kka1 kka2 kka3 kka4 kkb0 kkb1 kkb2 kkb3 kkb4 hw4 hw5 hw6 hw7 hC0 hj1
      have hj1 : jj + 1 < m := by unfold joinAt at HJJ; have := HJJ.out; split at this <;> omega
      have HXC := Lib.hid (HX8.out.step hbc7)
      have HB7X := Lib.hid hx7
      have HBC := Lib.hid (HBW3.out.trans (hbc7.mono HBW3.out.size))
      have HN7 := Lib.hid hn7
      have hzc : w.heap.size + 2 ≤ wc.heap.size := by have := hbc7.size; omega
      have hb7c : b7 < wc.heap.size := hx7.lt 0 rfl
      obtain ⟨LK, hLK⟩ : ∃ L, swapL ((keysOf l).map kCell) (jj + 1) 1 [] = L := ⟨_, rfl⟩
      obtain ⟨c9, hc9⟩ : ∃ c : Cl 5, c.1 = [.int .i64 p9, .bool l9, .slice x1 x2 x3, .slice x4 x5 x6, .slice x7 x8 x9] := ⟨⟨[.int .i64 p9, .bool l9, .slice x1 x2 x3, .slice x4 x5 x6, .slice x7 x8 x9], rfl, by intro u hu; simp at hu; rcases hu with rfl | rfl | rfl | rfl | rfl <;> rfl⟩, rfl⟩
      obtain ⟨LC, hLC⟩ : ∃ L, swapL C jj 2 [c9] = L := ⟨_, rfl⟩
      have hLKl : LK.length = m - 1 := by
        have := len_swapL (l := (keysOf l).map kCell) (s := []) (i := jj + 1) (j := 1) (by have := H1.out.1; omega)
        rw [hLK, H1.out.1] at this
        simp at this
        omega
      have hLCl : LC.length = m - 1 := by
        have := len_swapL (l := C) (s := [c9]) (i := jj) (j := 2) (by have := H3.out.1; omega)
        rw [hLC, H3.out.1] at this
        simp at this
        omega
      have hkind := HO.out.kind
      obtain ⟨d1, hd1, hd1x⟩ := kid_mem (l := l) (k := jj) (by rw [HM.out]; omega)
      obtain ⟨d2, hd2, hd2x⟩ := kid_mem (l := l) (k := jj + 1) (by rw [HM.out]; omega)
      have hkk : (kidAt l jj).isLeaf = (kidAt l (jj + 1)).isLeaf := by rw [← hd1x, ← hd2x]; exact hkind d1 hd1 d2 hd2
      have hTJs : TJ.isLeaf = false → 0 < cntT TJ := by
        rw [← HTJE.out]
        intro he
        rw [join_cnt hkk]
        rw [(join_keys hkk).2.2, ← hd1x] at he
        have := HO.out.some_ d1 hd1 he
        rw [hd1x] at this
        omega
      have hLCz : ∀ x ∈ LC, x.1 ≠ zero5.toList := by
        intro x hx
        rw [← hLC] at hx
        rcases mem_swapL hx with hx | hx
        · obtain ⟨i, hi, rfl⟩ := List.getElem_of_mem hx
          have hy : C[i]? = some C[i] := List.getElem?_eq_getElem hi
          have hnn := kid_tells H4.out.2.2 hy
          obtain ⟨d, hd, hdx⟩ := kid_mem (l := l) (k := i) (by rw [HM.out, ← H3.out.1]; exact hi)
          exact node_not_zero hnn (by rw [← hdx]; exact HO.out.some_ d hd)
        · simp at hx
          subst hx
          rw [hc9]
          exact node_not_zero HN7.out hTJs
      have hLKe : LK = (swapL (keysOf l) (jj + 1) 1 []).map kCell := by rw [← hLK, swap_map]; rfl
      have HZ1 := Lib.hid (keys_not_zero (ks := swapL (keysOf l) (jj + 1) 1 []) (by rw [← List.length_map (f := kCell), ← hLKe, hLKl]; omega))
      rw [← hLKe] at HZ1
      have HZ2 := Lib.hid (nodes_not_zero (L := LC) (by omega) hLCz)
      have HC1 : ∀ (W : World), Below wc.heap.size wc W → Calls Tryz.prog 160 #[.slice (some ⟨kb, ko, none⟩) m kc, .int .i64 ((jj : Int) + 1), .int .i64 1, .slice none 0 0] W (RowOut 9 1 wc W LK) := fun W hW => by
        have := swap_s (H1.out.below (below_via HBC.out hW)) (Raw.nil0 1 W) (jj + 1) 1 (by omega) (by omega)
        rw [hLK] at this
        have h2 : Calls Tryz.prog 160 #[.slice (some ⟨kb, ko, none⟩) m kc, .int .i64 ((jj : Int) + 1), .int .i64 1, .slice none 0 0] W (OwnRaw 9 1 W LK) := by simpa using this
        exact h2.mono fun e w' h => OwnRaw.row hW h
      have HC2 : ∀ (W : World) (x : Nat), Below wc.heap.size wc W → BoxAt W x #[.int .i64 p9, .bool l9, .slice x1 x2 x3, .slice x4 x5 x6, .slice x7 x8 x9] → Calls Tryz.prog 158 #[.slice (some ⟨bc, oc, none⟩) m cc, .int .i64 (jj : Int), .int .i64 2, .slice (some ⟨x, 0, none⟩) 1 1] W (RowOut 50 5 wc W LC) := fun W x hW hX => by
        have := swap_n (H3.out.below (below_via HBC.out hW)) (raw_box (L := [c9]) (by simpa [flatC, hc9] using hX) (by simp)) jj 2 (by omega) (by simp; omega)
        rw [hLC] at this
        have h2 : Calls Tryz.prog 158 #[.slice (some ⟨bc, oc, none⟩) m cc, .int .i64 (jj : Int), .int .i64 2, .slice (some ⟨x, 0, none⟩) 1 1] W (OwnRaw 50 5 W LC) := by simpa using this
        exact h2.mono fun e w' h => OwnRaw.row hW h
      obtain ⟨T2, hT2⟩ : ∃ t, splitR 0 (joined l jj) jj = t := ⟨_, rfl⟩
      obtain ⟨B2, hB2⟩ : ∃ t, (splitT (joined l jj) jj).isSome = t := ⟨_, rfl⟩
      have HC3 : ∀ (W : World) (a1 a2 : Option Addr) (c1 c2 : Nat), Below wc.heap.size wc W → W.ownsRow wc.heap.size 9 1 (.slice a1 LK.length c1) LK.length (flatC LK) → W.ownsRow wc.heap.size 50 5 (.slice a2 LC.length c2) LC.length (flatC LC) →
          Calls Tryz.prog 190 #[.agg #[.int .i64 0, .bool false, .slice a1 LK.length c1, .slice none 0 0, .slice a2 LC.length c2], .int .i64 (jj : Int)] W (fun e w' => SplitPost (MF (fun b => F b ∧ b < w.heap.size) w wc a1 a2) (n + 2) W T2 B2 e w' ∧ wc.heap.size ≤ W.heap.size) := fun W a1 a2 c1 c2 hW o1 o2 => by
        have hB9 : NodeOn (MF (fun b => F b ∧ b < w.heap.size) w wc a1 a2) (n + 1) W c9.1 (joinT (keyAt l (jj + 1)) (kidAt l jj) (kidAt l (jj + 1))) := by
          rw [hc9, HTJE.out]
          exact NodeOn.mono (fun b h => by rcases h with ⟨h | h, h2⟩; exact .inl h; exact .inr (.inl ⟨h, h2⟩)) (HN7.out.lt.below hW)
        obtain ⟨r1, r2, r3, r4⟩ := joinedR (p := p) (V := []) (B := c9) (j := jj) (NodeRF.mono (G := MF (fun b => F b ∧ b < w.heap.size) w wc a1 a2) (H4.out.below (below_via HBC.out hW)) (fun b h => .inl h)) (by rw [HM.out]; omega) hB9
        rw [hLC] at r1
        have hnode : NodeOn (MF (fun b => F b ∧ b < w.heap.size) w wc a1 a2) (n + 2) W [.int .i64 0, .bool false, .slice a1 LK.length c1, .slice none 0 0, .slice a2 LC.length c2] (.node 0 (joined l jj)) :=
          NodeOn.shut rfl rfl (by rw [show (Tr.node 0 (joined l jj)).keys = keysOf (joined l jj) from rfl, r2, ← hLKe]) (Raw.of_sl o1 rfl) (Raw.nil0 _ _) (Raw.of_sl o2 rfl) (.inr fun b off e => .inr (.inr (.inl ⟨off, e⟩))) (Fa.zero _ _) (.inr fun b off e => .inr (.inr (.inr ⟨off, e⟩))) r1
        have hml : l.length = m := HM.out
        have := tsplit_any hnode jj (by omega) (by omega) (by rw [r3]; exact HO.out.both jj (by rw [HM.out]; omega))
        rw [hT2, hB2] at this
        exact this.mono fun e w' h => ⟨h, hW.size⟩
      have hj0 : joinAt m k = jj := HJJ.out
      have HT2 : Hid (mendT p l k = T2) := Lib.hid (by rw [mend_join HB1.out HLO.out (by rw [HM.out]; exact hm2), HM.out, hj0, hT2])
      have HLKl := Lib.hid hLKl
      have k2 : ∀ W, Below wc.heap.size wc W → W.cell? ⟨w.heap.size, 2, none⟩ = some (.slice (some ⟨kb, ko, none⟩) m kc) := fun W hW => (HXC.out.step hW).cell 2 2 rfl rfl
      have k4 : ∀ W, Below wc.heap.size wc W → W.cell? ⟨w.heap.size, 4, none⟩ = some (.slice (some ⟨bc, oc, none⟩) m cc) := fun W hW => (HXC.out.step hW).cell 2 4 rfl rfl
      have k70 : ∀ W, Below wc.heap.size wc W → W.cell? ⟨b7, 0, none⟩ = some (.int .i64 p9) := fun W hW => (HB7X.out.step hW).cell 0 0 rfl rfl
      have k71 : ∀ W, Below wc.heap.size wc W → W.cell? ⟨b7, 1, none⟩ = some (.bool l9) := fun W hW => (HB7X.out.step hW).cell 0 1 rfl rfl
      have k72 : ∀ W, Below wc.heap.size wc W → W.cell? ⟨b7, 2, none⟩ = some (.slice x1 x2 x3) := fun W hW => (HB7X.out.step hW).cell 0 2 rfl rfl
      have k73 : ∀ W, Below wc.heap.size wc W → W.cell? ⟨b7, 3, none⟩ = some (.slice x4 x5 x6) := fun W hW => (HB7X.out.step hW).cell 0 3 rfl rfl
      have k74 : ∀ W, Below wc.heap.size wc W → W.cell? ⟨b7, 4, none⟩ = some (.slice x7 x8 x9) := fun W hW => (HB7X.out.step hW).cell 0 4 rfl rfl
      have hC0 : Below wc.heap.size wc wc.drew := (Below.refl _ _).drew
      clear hLK hc9 hLC hLKl hLCl hkind hd1 hd1x hd2 hd2x hkk hTJs hLCz hLKe hT2 hB2 hj0 hx7 hbc7 hn7
      go_upto_region 8 with (fail)
      go_cut [8] (fun s8 wx => MendLast F (n + 2) w T2 s8 wx)
      case first =>
        go_region_held3 (fun W => Below wc.heap.size wc W) (first | with_reducible assumption | (repeat (with_reducible first | assumption | exact Below.refl _ _ | exact Nat.le_refl _ | exact Nat.le_succ _ | exact hB1.size | exact hB2.size | exact Nat.le_succ_of_le hB1.size | exact Nat.le_succ_of_le hB2.size | apply Below.al | apply Below.dr | apply Below.st))) (first | (go_at_call 160; (with_reducible refine (HC1 _ ?_).mono ?_); (focus (repeat (with_reducible first | assumption | exact Below.refl _ _ | apply Below.al | apply Below.dr))); rintro e w1 hq1; obtain ⟨a1, c1, rfl, i11, i12, ho1, hb1, hB1⟩ := hq1; have U1 := fun b cs h => BoxAt.below (b := b) (cs := cs) h hb1; (try (apply lay_zero (cs := #[.int .i64 0, .bool false, .slice none 0 0, .slice none 0 0, .slice none 0 0]) hb1; (focus ((repeat (with_reducible first | assumption | exact BoxAt.here3 | exact BoxAt.here2 | exact BoxAt.here | apply BoxAt.dr | apply BoxAt.al)); done)); rintro ⟨hz1, hzl1⟩))) | (go_at_call 158; (with_reducible refine (HC2 _ _ ?_ ?_).mono ?_); (focus (repeat (with_reducible first | assumption | exact Below.refl _ _ | apply Below.al | apply Below.dr))); (focus (repeat (with_reducible first | assumption | exact BoxAt.here3 | exact BoxAt.here2 | exact BoxAt.here | apply BoxAt.dr | apply BoxAt.al | apply U1))); rintro e w2 hq2; obtain ⟨a2, c2, rfl, i21, i22, ho2, hb2, hB2⟩ := hq2; have U2 := fun b cs h => BoxAt.below (b := b) (cs := cs) h hb2; (try (apply lay_zero (cs := #[.int .i64 0, .bool false, .slice none 0 0, .slice none 0 0, .slice none 0 0]) hb2; (focus ((repeat (with_reducible first | assumption | exact BoxAt.here3 | exact BoxAt.here2 | exact BoxAt.here | apply BoxAt.dr | apply BoxAt.al | apply U1)); done)); rintro ⟨hz2, hzl2⟩)); have hk12 := below_via (a := w1) (by (repeat (with_reducible first | exact Below.refl _ _ | apply Below.al | apply Below.dr))) hb2) | (go_at_call 190; (with_reducible refine (HC3 _ _ _ _ _ ?_ ?_ ?_).mono ?_); (focus (repeat (with_reducible first | assumption | exact Below.refl _ _ | apply Below.al | apply Below.dr))); (focus (refine own_held (own_held ho1 hk12) ?_; (repeat (with_reducible first | exact Below.refl _ _ | apply Below.al | apply Below.dr)))); (focus (refine own_held ho2 ?_; (repeat (with_reducible first | exact Below.refl _ _ | apply Below.al | apply Below.dr)))); rintro e w3 hq3; obtain ⟨⟨y3, rfl, hn3, hb3⟩, hws⟩ := hq3; obtain ⟨y1, y2, y4, y5, y6, y7, y8, y9, _, _, ey3, _⟩ := hn3.open; subst ey3; have hB3 : Below wc.heap.size wc w3 := below_via (by (repeat (with_reducible first | assumption | exact Below.refl _ _ | apply Below.al | apply Below.dr))) hb3; have hk23 := below_via (a := w2) (by (repeat (with_reducible first | exact Below.refl _ _ | apply Below.al | apply Below.dr))) hb3; (try (apply lay_zero (cs := #[.int .i64 0, .bool false, .slice none 0 0, .slice none 0 0, .slice none 0 0]) hb3; (focus ((repeat (with_reducible first | assumption | exact BoxAt.here3 | exact BoxAt.here2 | exact BoxAt.here | apply BoxAt.dr | apply BoxAt.al)); done)); rintro ⟨hz3, hzl3⟩; have z0 := hz3.cell (i := 0) rfl; have z1 := hz3.cell (i := 1) rfl; have z2 := hz3.cell (i := 2) rfl; have z3 := hz3.cell (i := 3) rfl; have z4 := hz3.cell (i := 4) rfl; have u0 := hz3.frozen 0; have u1 := hz3.frozen 1; have u2 := hz3.frozen 2; have u3 := hz3.frozen 3; have u4 := hz3.frozen 4))))
        all_goals
          go_wp2_with fail
          go_meet
          have s1 := hB1.size
          have s2 := hB2.size
          have o1 := own_held (own_held ho1 hk12) hk23
          have o2 := own_held ho2 hk23
          have hXz : Boxes wc [(w.heap.size + 1, zero5.toList)] := HXC.out.sub (by intro x hx; simp only [List.mem_cons, List.not_mem_nil, or_false] at hx; subst hx; simp [zero5])
          first
            | (have hA := mendlast_a (F := F) 50 HBC.out hzc hws hB3 hXz o1 o2 hn3
               with_reducible exact hA)
            | (have hA := mendlast_b (F := F) HBC.out hzc hws hB3 hXz o1 o2 HZ1.out HZ2.out hz3 hzl3 (by omega) hn3
               unfold set5 at hA
               with_reducible exact hA)
      case rest =>
      unfold MendLast at hcut
      obtain ⟨b8, p8, l8, y1, y2, y3, y4, y5, y6, y7, y8, y9, rfl, hx8, hb8, hb8c, hn8⟩ := hcut
      unfold zero5 at hx8
      have m0 := hx8.cell 0 0 rfl rfl
      have m1 := hx8.cell 0 1 rfl rfl
      have m2 := hx8.cell 0 2 rfl rfl
      have m3 := hx8.cell 0 3 rfl rfl
      have m4 := hx8.cell 0 4 rfl rfl
      have z0 := hx8.cell 1 0 rfl rfl
      have z1 := hx8.cell 1 1 rfl rfl
      have z2 := hx8.cell 1 2 rfl rfl
      have z3 := hx8.cell 1 3 rfl rfl
      have z4 := hx8.cell 1 4 rfl rfl
      have u0 := hx8.frozen 1 0 rfl
      have u1 := hx8.frozen 1 1 rfl
      have u2 := hx8.frozen 1 2 rfl
      have u3 := hx8.frozen 1 3 rfl
      have u4 := hx8.frozen 1 4 rfl
      have hX7 := set5_box (hx8.sub (m := [(w.heap.size + 1, [.int .i64 0, .bool false, .slice none 0 0, .slice none 0 0, .slice none 0 0])]) (by simp)) (by simp) (.int .i64 p8) (.bool l8) (.slice y1 y2 y3) (.slice y4 y5 y6) (.slice y7 y8 y9)
      have hB7 := set5_below hb8 (b := w.heap.size + 1) (by omega) (.int .i64 p8) (.bool l8) (.slice y1 y2 y3) (.slice y4 y5 y6) (.slice y7 y8 y9)
      have hne : ¬ ((F (w.heap.size + 1) ∧ w.heap.size + 1 < w.heap.size) ∨ w.heap.size + 2 ≤ w.heap.size + 1) := by omega
      have hN7 := NodeOn.mono (G := Fr F w) (fun b h => by rcases h with h | h; exact .inl h.1; exact .inr (by omega)) (hn8.agree ((((((AgreeF.of_below (Below.refl _ _)).set (p := ⟨w.heap.size + 1, 0, none⟩) (u := .int .i64 p8) (.inl hne)).set (p := ⟨w.heap.size + 1, 1, none⟩) (u := .bool l8) (.inl hne)).set (p := ⟨w.heap.size + 1, 2, none⟩) (u := .slice y1 y2 y3) (.inl hne)).set (p := ⟨w.heap.size + 1, 3, none⟩) (u := .slice y4 y5 y6) (.inl hne)).set (p := ⟨w.heap.size + 1, 4, none⟩) (u := .slice y7 y8 y9) (.inl hne)))
      have fin : Hid (NodeTo F (n + 2) w (mendT p l k) (.returned (.agg #[.int .i64 p8, .bool l8, .slice y1 y2 y3, .slice y4 y5 y6, .slice y7 y8 y9])) (set5 _ (w.heap.size + 1) (.int .i64 p8) (.bool l8) (.slice y1 y2 y3) (.slice y4 y5 y6) (.slice y7 y8 y9))) := Lib.hid ⟨[.int .i64 p8, .bool l8, .slice y1 y2 y3, .slice y4 y5 y6, .slice y7 y8 y9], rfl, by rw [HT2.out]; exact hN7, hB7⟩
      have t0 := hX7.cell 0 0 rfl rfl
      have t1 := hX7.cell 0 1 rfl rfl
      have t2 := hX7.cell 0 2 rfl rfl
      have t3 := hX7.cell 0 3 rfl rfl
      have t4 := hX7.cell 0 4 rfl rfl
      unfold set5 at t0 t1 t2 t3 t4
      clear hX7 hB7 hN7 hx8 hb8 hn8 k2 k4 k70 k71 k72 k73 k74 HC1 HC2 HC3
      go_wp2_with fail
      refine bodyPost_ret (v := .agg #[.int .i64 p8, .bool l8, .slice y1 y2 y3, .slice y4 y5 y6, .slice y7 y8 y9]) (by simp [results, Tryz.results156, go_sem, t0, t1, t2, t3, t4]) rfl ?_
      exact fin.out
end Go.Proofs.YtpghlmcoajaiiaaGreatDoor
