/- The law WalkParts (printed by gen_treLq.py). -/
import Derived.Test.YtemfnjlfcemehaaM15
import Derived.Deep.QuietTactic
import Derived.BigQuiet
import Derived.Deep.RegionHeld3
import Derived.Deep.DeepCutAuto
import Derived.Deep.CutBlock
import Derived.Test.YtemfnjlfcemehaaTreTwoq
import Derived.Test.YtemfnjlfcemehaaM11
import Derived.Deep.LoopGhost
namespace Go.Proofs.Ytemfnjlfcemehaa
open Go.RowKit

theorem less_no {a b : List UInt8} (h : ¬ a < b) : Op.bytesLess (strOf a).toList (strOf b).toList = false := by
  rw [strOf_toList, strOf_toList, bytes_lessT]; simpa using h
theorem keys_lt9 {E : List (List UInt8 × Tv)} (hs : (keysOf E).Pairwise (fun a b => a < b)) {i j : Nat} (hij : i < j) {c d : List UInt8 × Tv} (hc : E[i]? = some c) (hd : E[j]? = some d) : c.1 < d.1 := by
  have hi := (List.getElem?_eq_some_iff.1 hc).1
  have hj := (List.getElem?_eq_some_iff.1 hd).1
  have := List.pairwise_iff_getElem.1 hs i j (by simpa [keysOf] using hi) (by simpa [keysOf] using hj) hij
  simp only [keysOf, List.getElem_map] at this
  rw [(List.getElem?_eq_some_iff.1 hc).2, (List.getElem?_eq_some_iff.1 hd).2] at this
  exact this
theorem pos_le9 {E : List (List UInt8 × Tv)} (hs : (keysOf E).Pairwise (fun a b => a < b)) {key : List UInt8} {i : Nat} {c : List UInt8 × Tv} (hc : E[i]? = some c) (hi : posK key (keysOf E) ≤ i) : ¬ c.1 < key := by
  have hil := (List.getElem?_eq_some_iff.1 hc).1
  have hl : (keysOf E).length = E.length := by simp [keysOf]
  have hp := posK_at (key := key) (l := keysOf E) (by omega)
  intro hlt
  apply hp
  obtain ⟨q, hq⟩ : ∃ q, posK key (keysOf E) = q := ⟨_, rfl⟩
  rw [hq] at hi ⊢
  have hpe : E[q]? = some E[q] := List.getElem?_eq_getElem (by omega)
  have e : (keysOf E)[q]?.getD [] = (E[q]).1 := by simp [keysOf, hpe]
  rw [e]
  by_cases h : q = i
  · subst h
    rw [hpe] at hc
    cases hc; exact hlt
  · exact klt_trans (keys_lt9 hs (by omega) hpe hc) hlt
set_option maxRecDepth 100000 in
set_option maxHeartbeats 4000000 in
theorem lParts {w : World} {a : Option Addr} {n c : Nat} {l : List St} (h : Sts w a n c l) (from_ to_ : List UInt8) :
    Calls Try.prog 6 #[.slice a n c, .string (strOf from_), .string (strOf to_)] w fun e w' => e = .returned (.bool true) ∧ Below w.heap.size w w' := by
  have HP := Lib.hid h
  have A := awake17_any w
  clear h
  obtain ⟨kl1, hkl1⟩ : ∃ kl, from_.length = kl := ⟨_, rfl⟩
  have hsz1 : (strOf from_).size = kl1 := by rw [strOf_size, hkl1]
  obtain ⟨kl2, hkl2⟩ : ∃ kl, to_.length = kl := ⟨_, rfl⟩
  have hsz2 : (strOf to_).size = kl2 := by rw [strOf_size, hkl2]
  clear hkl1 hkl2
  go_enter Try.func6, Try.ntmps6
  go_wp2_with fail
  refine A.mono ?_
  rintro e w1 ⟨rfl, hb1⟩
  have hp1 : Sts w1 a n c l := TabR.below (Nat.le_refl _) hb1 HP.out
  clear A
  go_wp2_with fail
  refine (built_any hp1).mono ?_
  rintro e w2 ⟨hb2, h2⟩
  have HB2 := Lib.hid (below_via hb1 hb2)
  rcases h2 with ⟨hs, p, lf, a3, m3, d3, rfl⟩ | ⟨hs, N, T, p, lf, a3, m3, d3, rfl, hR, hW, hN, hE⟩
  · clear hp1 hb1 hb2 hs
    go_wp2_with fail
    go_ret
    exact ⟨rfl, Below.al HB2.out⟩
  have hl120 : l.length ≤ 120 := (okS_facts hs).1
  have hN200 : N ≤ 200 := by omega
  have hE120 : (entsT N T).length ≤ 120 := by omega
  obtain ⟨W2, hW2⟩ : ∃ x, w2.alloc (.cells #[.int .i64 p, .bool lf, .slice a3 m3 d3] 26) = x := ⟨_, rfl⟩
  have hx2 : Boxes W2 [(w2.heap.size, [.int .i64 p, .bool lf, .slice a3 m3 d3])] := by
    rw [← hW2]; exact (Boxes.nil w2).alloc #[.int .i64 p, .bool lf, .slice a3 m3 d3] 26 (b := w2.heap.size) rfl
  have hb22 : Below w2.heap.size w2 W2 := by rw [← hW2]; exact Below.al (Below.refl _ _)
  have hRl : RNodeOn (fun x => x < w2.heap.size) N W2 [.int .i64 p, .bool lf, .slice a3 m3 d3] T := (hR.lt.mono (fun _ h => h.2)).below hb22
  have CN := node17_any (fun x (hx : x < w2.heap.size) => Nat.lt_of_lt_of_le hx hb22.size) hRl hW.bnd
  have HX2 := Lib.hid hx2
  have HR2 := Lib.hid hRl
  have HB22 := Lib.hid (below_via HB2.out hb22)
  have HWH := Lib.hid hW
  have m0 := hx2.cell 0 0 rfl rfl
  have m1 := hx2.cell 0 1 rfl rfl
  have m2 := hx2.cell 0 2 rfl rfl
  have h22 : w2.heap.size < W2.heap.size := hx2.lt 0 rfl
  clear hp1 hb1 hb2 hs hR hW hN hE hx2 hb22 hRl HB2
  by_cases h100 : 100 < kl1
  · have h100' : (100 : Int) < (kl1 : Int) := by omega
    clear CN
    go_wp2_with fail
    go_ret
    exact ⟨rfl, HB22.out⟩
  have h100' : decide ((100 : Int) < (kl1 : Int)) = false := by simp; omega
  have h100'' : decide (100 < kl1) = false := by simp; omega
  by_cases h200 : 100 < kl2
  · have h200' : (100 : Int) < (kl2 : Int) := by omega
    clear CN
    go_wp2_with fail
    go_ret
    exact ⟨rfl, HB22.out⟩
  have h200' : decide ((100 : Int) < (kl2 : Int)) = false := by simp; omega
  have h200'' : decide (100 < kl2) = false := by simp; omega
  by_cases hft : to_ < from_
  · obtain ⟨g1, g2, g3, g4⟩ := cmp_lt hft
    clear CN hft
    go_wp2_with fail
    go_ret
    exact ⟨rfl, HB22.out⟩
  have hft1 := less_no hft
  go_wp2_with fail
  refine CN.mono ?_
  rintro e w3 ⟨cs, rfl, hn3, hb3⟩
  obtain ⟨x1, k1, x2, n2, k2, x3, n3, k3, ecs, _, _⟩ := hn3.words
  subst ecs
  obtain ⟨W3, hW3⟩ : ∃ x, w3.alloc (.cells #[.int .i64 T.page, .bool T.isLeaf, .slice x1 (cntT T) k1, .slice x2 n2 k2, .slice x3 n3 k3] 33) = x := ⟨_, rfl⟩
  have hb33 : Below w3.heap.size w3 W3 := by rw [← hW3]; exact Below.al (Below.refl _ _)
  have hx3 : Boxes W3 [(w3.heap.size, [.int .i64 T.page, .bool T.isLeaf, .slice x1 (cntT T) k1, .slice x2 n2 k2, .slice x3 n3 k3]), (w2.heap.size, [.int .i64 p, .bool lf, .slice a3 m3 d3])] := by
    rw [← hW3]; exact (HX2.out.step hb3).alloc #[.int .i64 T.page, .bool T.isLeaf, .slice x1 (cntT T) k1, .slice x2 n2 k2, .slice x3 n3 k3] 33 (b := w3.heap.size) rfl
  have HN3 : Hid (NodeOn (fun x => x < w3.heap.size) N W3 [.int .i64 T.page, .bool T.isLeaf, .slice x1 (cntT T) k1, .slice x2 n2 k2, .slice x3 n3 k3] T) := Lib.hid ((hn3.lt.mono fun _ h => h.2).below hb33)
  have HR3 := Lib.hid ((HR2.out.below hb3).below hb33)
  have HB3 := Lib.hid (below_via (below_via HB22.out hb3) hb33)
  have h23 : w2.heap.size < w3.heap.size := by have := hb3.size; omega
  have h33 : w3.heap.size < W3.heap.size := hx3.lt 0 rfl
  have HX3 := Lib.hid hx3
  clear CN hn3 hb3 hb33 hx3 m0 m1 m2 HX2 HR2 HB22
  have hne0 : 0 < N := HWH.out.low
  have hXg := HX3.out.step (Below.refl _ _)
  have gn0 := hXg.cell 0 0 rfl rfl
  have gn1 := hXg.cell 0 1 rfl rfl
  have gn2 := hXg.cell 0 2 rfl rfl
  have gn3 := hXg.cell 0 3 rfl rfl
  have gn4 := hXg.cell 0 4 rfl rfl
  have gm0 := hXg.cell 1 0 rfl rfl
  have gm1 := hXg.cell 1 1 rfl rfl
  have gm2 := hXg.cell 1 2 rfl rfl
  clear hXg
  obtain ⟨E, hE⟩ : ∃ E, entsT N T = E := ⟨_, rfl⟩
  have hlo : LeafOk [] [] E := by rw [← hE]; exact whole_ents HWH.out
  have CS : ∀ (key : List UInt8) (W : World), Below W3.heap.size W3 W → Calls Try.prog 20 #[.agg #[.int .i64 T.page, .bool T.isLeaf, .slice x1 (cntT T) k1, .slice x2 n2 k2, .slice x3 n3 k3], .string (strOf key)] W fun e w' => ∃ b v, e = .returned (.pointer (some ⟨b, 0, none⟩)) ∧ W.heap.size ≤ b ∧ Cur N (b + 1) b (fun x => x < w3.heap.size) w' v (E.drop (posK key (keysOf E))) ∧ Below W.heap.size W w' := fun key W hW =>
    (seek_whole (fun x (hx : x < w3.heap.size) => by have := hW.size; omega) (HN3.out.below hW) HWH.out hN200 key).mono fun e w' ⟨v, e1, h1, h2⟩ => ⟨_, v, e1, by omega, by rw [hE] at h1; exact h1, h2⟩
  have CF : ∀ (i : Nat) (y : List UInt8 × Tv) (W : World), Below W3.heap.size W3 W → E[i]? = some y → Calls Try.prog 28 #[.agg #[.int .i64 T.page, .bool T.isLeaf, .slice x1 (cntT T) k1, .slice x2 n2 k2, .slice x3 n3 k3], .string (strOf y.1)] W (FoundPost W (some y.2.data)) := fun i y W hW hy => by
    have := tfind_any (HN3.out.below hW).toIn y.1 (HWH.out.find y.1)
    rw [whole_find HWH.out, hE, look_mem hlo.1 (List.mem_of_getElem? hy)] at this
    exact this
  rw [hE] at hE120
  have HLO := Lib.hid hlo
  have HNLT := Lib.hid hft
  clear hE hlo hft
  go_wp2_with fail
  refine (CS from_ W3 (Below.refl _ _)).mono ?_
  rintro e w4 ⟨b1, v1, rfl, hb1, hc4, hb4⟩
  clear gn0 gn1 gn2 gn3 gn4 gm0 gm1 gm2
  have HC4 := Lib.hid hc4
  have HB4 := Lib.hid hb4
  have hX := HX3.out.step hb4
  have p0 := hX.cell 0 0 rfl rfl
  have p1 := hX.cell 0 1 rfl rfl
  have p2 := hX.cell 0 2 rfl rfl
  have p3 := hX.cell 0 3 rfl rfl
  have p4 := hX.cell 0 4 rfl rfl
  clear hX hb4 hc4
  go_wp2_with fail
  refine (CS from_ w4 HB4.out).mono ?_
  rintro e w5 ⟨b2, v2, rfl, hb2, hc5, hb5⟩
  have hb1w : W3.heap.size ≤ b1 := by omega
  have HTW := Lib.hid (Two.mk' HC4.out (fun x (hx : x < w3.heap.size) => by omega) hb5 hc5 hb2)
  have HB5 := Lib.hid (below_via HB4.out hb5)
  clear hb5 hc5 p0 p1 p2 p3 p4
  go_wp2_with fail
  go_loopg [13] (E.length + 1) (fun gk s13 wr => ∃ (i : Nat) (last : List UInt8) (v1 v2 : Value), E.length - i < gk ∧ posK from_ (keysOf E) ≤ i ∧ i ≤ E.length ∧ s13 = .string (strOf last) ∧ (∀ y, E[i]? = some y → last < y.1) ∧ (∀ j, j < i → (keysOf E)[j]?.getD [] < to_) ∧ Two N b1 b2 (fun x => x < w3.heap.size) wr v1 v2 (E.drop i) (E.drop i) none 0 ∧ Below W3.heap.size W3 wr)
  case atStart =>
    exact ⟨posK from_ (keysOf E), [], v1, v2, by omega, Nat.le_refl _, by have := posK_le from_ (keysOf E); simpa [keysOf] using this, rfl, fun y hy => knil_lt (HLO.out.2 y (List.mem_of_getElem? hy)).1.1, fun j hj => klt_le (posK_lt hj) HNLT.out, HTW.out, HB5.out⟩
  case round =>
    clear HTW HB5 HC4 HB4
    obtain ⟨i, last, v1, v2, hgk, hpi, hiE, rfl, hlast, hto, htw, hb⟩ := hrel
    have CP := peek_cur htw.c2 (by omega)
    by_cases hin : i < E.length
    · obtain ⟨y, hy⟩ : ∃ y, E[i]? = some y := ⟨_, List.getElem?_eq_getElem hin⟩
      have hdr := drop_at hy
      obtain ⟨yk, yv⟩ := y
      rw [hdr] at CP
      by_cases hyt : yk < to_
      · obtain ⟨f1, f2, f3, f4⟩ := cmp_lt hyt
        obtain ⟨g1, g2, g3, g4⟩ := cmp_lt (hlast (yk, yv) hy)
        have hfr := less_no (pos_le9 (c := (yk, yv)) HLO.out.1 hy hpi)
        have hkk : ((strOf yk).toList == (strOf yk).toList) = true := by simp
        have hkd : ((strOf yv.data).toList == (strOf yv.data).toList) = true := by simp
        have HTW := Lib.hid htw
        have HB := Lib.hid hb
        have HDR := Lib.hid hdr
        have HY := Lib.hid hy
        have HTO := Lib.hid hto
        have HYT := Lib.hid hyt
        clear hlast hto htw hb hdr hy hyt
        dsimp only at g1 g2 g3 g4 hfr
        go_wp2_with fail
        refine CP.mono ?_
        rintro e w6 ⟨rfl, hb6⟩
        dsimp only [keyH, someH]
        have htw6 := HTW.out.below hb6
        have CA := next_cur htw6.c1 (by have := htw6.c1.lt9; omega) hN200
        rw [HDR.out] at CA
        have HTW6 := Lib.hid htw6
        have HB6 := Lib.hid (below_via HB.out hb6)
        clear CP hb6 htw6
        go_wp2_with fail
        refine CA.mono ?_
        rintro e w7 ⟨rfl, v7, hc7, hst7⟩
        dsimp only [keyH, someH, valH, List.tail_cons] at hc7 ⊢
        have hb7 := HB6.out.trans (HTW6.out.stay hst7 hb1w)
        have htw7 := HTW6.out.stepA (Fa.zero _ _) (by rw [HDR.out]; exact hc7) hst7
        have CB := next_cur htw7.c2 (by have := htw7.c2.lt9; omega) hN200
        rw [HDR.out] at CB
        have HTW7 := Lib.hid htw7
        have HB7 := Lib.hid hb7
        clear CA hc7 hst7 hb7 htw7
        go_wp2_with fail
        refine CB.mono ?_
        rintro e w8 ⟨rfl, v8, hc8, hst8⟩
        dsimp only [keyH, someH, valH, List.tail_cons] at hc8 ⊢
        have hb8 := HB7.out.trans (HTW7.out.stay2 hst8 (by have := HTW7.out.lt; omega))
        have htw8 := HTW7.out.stepB (Fa.zero _ _) (by rw [HDR.out]; exact hc8) hst8
        rw [HDR.out, List.tail_cons] at htw8
        have CFI := CF i (yk, yv) w8 hb8 HY.out
        have hX := HX3.out.step hb8
        have p0 := hX.cell 0 0 rfl rfl
        have p1 := hX.cell 0 1 rfl rfl
        have p2 := hX.cell 0 2 rfl rfl
        have p3 := hX.cell 0 3 rfl rfl
        have p4 := hX.cell 0 4 rfl rfl
        have HTW8 := Lib.hid htw8
        have HB8 := Lib.hid hb8
        clear CB hc8 hst8 hb8 htw8 hX
        dsimp only at CFI
        go_wp2_with fail
        refine CFI.mono ?_
        rintro e w9 ⟨rfl, hb9⟩
        dsimp only [Option.getD_some, Option.isSome_some]
        have HREL : Hid (∃ (i' : Nat) (last : List UInt8) (v1 v2 : Value), E.length - i' < E.length - i ∧ posK from_ (keysOf E) ≤ i' ∧ i' ≤ E.length ∧ Value.string (strOf yk) = .string (strOf last) ∧ (∀ y, E[i']? = some y → last < y.1) ∧ (∀ j, j < i' → (keysOf E)[j]?.getD [] < to_) ∧ Two N b1 b2 (fun x => x < w3.heap.size) w9 v1 v2 (E.drop i') (E.drop i') none 0 ∧ Below W3.heap.size W3 w9) := Lib.hid
          ⟨i + 1, yk, _, _, by omega, by omega, hin, rfl, fun z hz => keys_lt9 (c := (yk, yv)) HLO.out.1 (Nat.lt_succ_self i) HY.out hz, fun j hj => by
            by_cases h : j < i
            · exact HTO.out j h
            · obtain rfl : j = i := by omega
              have e : (keysOf E)[j]?.getD [] = yk := by simp [keysOf, HY.out]
              rw [e]; exact HYT.out, HTW8.out.below hb9, below_via HB8.out hb9⟩
        clear CFI hb9 p0 p1 p2 p3 p4
        go_wp2_with fail
        go_roundg (E.length - i)
        case measure => exact hgk
        case rel => exact HREL.out
      · have hpt : posK to_ (keysOf E) = i := posK_eq (by simp [keysOf]; omega) hto (fun _ => by
          have e : (keysOf E)[i]?.getD [] = yk := by simp [keysOf, hy]
          rw [e]; exact hyt)
        have hge : (!Op.bytesLess (strOf yk).toList (strOf to_).toList) = true := by rw [less_no hyt]; rfl
        have hge2 := less_no hyt
        have HTW := Lib.hid htw
        have HB := Lib.hid hb
        have HPT := Lib.hid hpt
        clear hlast hto htw hb hpt hdr hy hyt
        go_wp2_with fail
        refine CP.mono ?_
        rintro e w6 ⟨rfl, hb6⟩
        dsimp only [keyH, someH]
        have hb6' := below_via HB.out hb6
        have CT := CS to_ w6 hb6'
        have HTW6 := Lib.hid (HTW.out.below hb6)
        have HB6 := Lib.hid hb6'
        have hX := HX3.out.step hb6'
        have p0 := hX.cell 0 0 rfl rfl
        have p1 := hX.cell 0 1 rfl rfl
        have p2 := hX.cell 0 2 rfl rfl
        have p3 := hX.cell 0 3 rfl rfl
        have p4 := hX.cell 0 4 rfl rfl
        clear CP hb6 hb6' hX HTW HB
        go_wp2_with fail
        refine CT.mono ?_
        rintro e w7 ⟨b3, v3, rfl, hb3, hc7, hb7⟩
        rw [HPT.out] at hc7
        have HTW7 := Lib.hid (Two.mk' HTW6.out.c1 HTW6.out.hF hb7 hc7 hb3)
        have HB7 := Lib.hid (below_via HB6.out hb7)
        clear CT hc7 hb7 HTW6 HB6 p0 p1 p2 p3 p4 CF CS
        go_wp2_with fail
        go_loopw [24] (fun s24 wr => ∃ (j : Nat) (v1 v2 : Value), i + j ≤ E.length ∧ s24 = .int .i64 j ∧ Two N b1 b3 (fun x => x < w3.heap.size) wr v1 v2 (E.drop (i + j)) (E.drop (i + j)) none 0 ∧ Below W3.heap.size W3 wr) (fun s _ => 200 - (intOf s).toNat)
        case atStart => exact ⟨0, _, _, by omega, rfl, HTW7.out, HB7.out⟩
        case round =>
          clear HTW7 HB7
          obtain ⟨j, v1, v2, hjE, rfl, htw, hb⟩ := hrel
          have hj200 : (j : Int) < 200 := by omega
          have hwj : IntKind.i64.wrap ((j : Int) + 1) = (j : Int) + 1 := IntWalk.i64_in _ (by omega)
          have CA := next_cur htw.c1 (by have := htw.c1.lt9; omega) hN200
          have HTW := Lib.hid htw
          have HB := Lib.hid hb
          clear htw hb
          by_cases hjn : i + j < E.length
          · obtain ⟨z, hz⟩ : ∃ z, E[i + j]? = some z := ⟨_, List.getElem?_eq_getElem hjn⟩
            have hdz := drop_at hz
            obtain ⟨zk, zv⟩ := z
            rw [hdz] at CA
            have HDZ := Lib.hid hdz
            have hkk : ((strOf zk).toList == (strOf zk).toList) = true := by simp
            have hkd : ((strOf zv.data).toList == (strOf zv.data).toList) = true := by simp
            clear hdz hz
            go_wp2_with fail
            refine CA.mono ?_
            rintro e w8 ⟨rfl, v8, hc8, hst8⟩
            dsimp only [keyH, someH, valH, List.tail_cons] at hc8 ⊢
            have hb8 := HB.out.trans (HTW.out.stay hst8 hb1w)
            have htw8 := HTW.out.stepA (Fa.zero _ _) (by rw [HDZ.out]; exact hc8) hst8
            have CB := next_cur htw8.c2 (by have := htw8.c2.lt9; omega) hN200
            rw [HDZ.out] at CB
            have HTW8 := Lib.hid htw8
            have HB8 := Lib.hid hb8
            clear CA hc8 hst8 hb8 htw8
            go_wp2_with fail
            refine CB.mono ?_
            rintro e w9 ⟨rfl, v9, hc9, hst9⟩
            dsimp only [keyH, someH, valH, List.tail_cons] at hc9 ⊢
            have hb9 := HB8.out.trans (HTW8.out.stay2 hst9 (by have := HTW8.out.lt; omega))
            have htw9 := HTW8.out.stepB (Fa.zero _ _) (by rw [HDZ.out]; exact hc9) hst9
            rw [HDZ.out, List.tail_cons] at htw9
            have HREL : Hid (∃ (j' : Nat) (v1 v2 : Value), i + j' ≤ E.length ∧ Value.int .i64 ((j : Int) + 1) = .int .i64 j' ∧ Two N b1 b3 (fun x => x < w3.heap.size) w9 v1 v2 (E.drop (i + j')) (E.drop (i + j')) none 0 ∧ Below W3.heap.size W3 w9) := Lib.hid ⟨j + 1, _, _, hjn, by go_num, htw9, hb9⟩
            clear CB hc9 hst9 hb9 htw9
            go_wp2_with fail
            go_roundw
            case rel => exact HREL.out
            case measure => simp [intOf]; omega
          · have hdz : E.drop (i + j) = [] := List.drop_of_length_le (by omega)
            rw [hdz] at CA
            have HDZ := Lib.hid hdz
            clear hdz
            go_wp2_with fail
            refine CA.mono ?_
            rintro e w8 ⟨rfl, v8, hc8, hst8⟩
            dsimp only [keyH, someH, valH, List.tail_nil] at hc8 ⊢
            have hb8 := HB.out.trans (HTW.out.stay hst8 hb1w)
            have htw8 := HTW.out.stepA (Fa.zero _ _) (by rw [HDZ.out]; exact hc8) hst8
            have CB := next_cur htw8.c2 (by have := htw8.c2.lt9; omega) hN200
            rw [HDZ.out] at CB
            have HTW8 := Lib.hid htw8
            have HB8 := Lib.hid hb8
            clear CA hc8 hst8 hb8 htw8
            go_wp2_with fail
            refine CB.mono ?_
            rintro e w9 ⟨rfl, v9, hc9, hst9⟩
            dsimp only [keyH, someH, valH, List.tail_nil] at hc9 ⊢
            have HEND := Lib.hid (below_via HB3.out (HB8.out.trans (HTW8.out.stay2 hst9 (by have := HTW8.out.lt; omega))))
            clear CB hc9 hst9
            go_wp2_with fail
            go_ret
            exact ⟨rfl, HEND.out⟩
    · have hdr : E.drop i = [] := List.drop_of_length_le (by omega)
      have hpt : posK to_ (keysOf E) = i := posK_eq (by simp [keysOf]; omega) hto (fun h => by simp [keysOf] at h; omega)
      rw [hdr] at CP
      have HTW := Lib.hid htw
      have HB := Lib.hid hb
      have HPT := Lib.hid hpt
      clear hlast hto htw hb hpt hdr
      go_wp2_with fail
      refine CP.mono ?_
      rintro e w6 ⟨rfl, hb6⟩
      dsimp only [keyH, someH]
      have hb6' := below_via HB.out hb6
      have CT := CS to_ w6 hb6'
      have HTW6 := Lib.hid (HTW.out.below hb6)
      have HB6 := Lib.hid hb6'
      have hX := HX3.out.step hb6'
      have p0 := hX.cell 0 0 rfl rfl
      have p1 := hX.cell 0 1 rfl rfl
      have p2 := hX.cell 0 2 rfl rfl
      have p3 := hX.cell 0 3 rfl rfl
      have p4 := hX.cell 0 4 rfl rfl
      clear CP hb6 hb6' hX HTW HB
      go_wp2_with fail
      refine CT.mono ?_
      rintro e w7 ⟨b3, v3, rfl, hb3, hc7, hb7⟩
      rw [HPT.out] at hc7
      have HTW7 := Lib.hid (Two.mk' HTW6.out.c1 HTW6.out.hF hb7 hc7 hb3)
      have HB7 := Lib.hid (below_via HB6.out hb7)
      clear CT hc7 hb7 HTW6 HB6 p0 p1 p2 p3 p4 CF CS
      go_wp2_with fail
      go_loopw [24] (fun s24 wr => ∃ (j : Nat) (v1 v2 : Value), i + j ≤ E.length ∧ s24 = .int .i64 j ∧ Two N b1 b3 (fun x => x < w3.heap.size) wr v1 v2 (E.drop (i + j)) (E.drop (i + j)) none 0 ∧ Below W3.heap.size W3 wr) (fun s _ => 200 - (intOf s).toNat)
      case atStart => exact ⟨0, _, _, by omega, rfl, HTW7.out, HB7.out⟩
      case round =>
        clear HTW7 HB7
        obtain ⟨j, v1, v2, hjE, rfl, htw, hb⟩ := hrel
        have hj200 : (j : Int) < 200 := by omega
        have hwj : IntKind.i64.wrap ((j : Int) + 1) = (j : Int) + 1 := IntWalk.i64_in _ (by omega)
        have CA := next_cur htw.c1 (by have := htw.c1.lt9; omega) hN200
        have HTW := Lib.hid htw
        have HB := Lib.hid hb
        clear htw hb
        by_cases hjn : i + j < E.length
        · obtain ⟨z, hz⟩ : ∃ z, E[i + j]? = some z := ⟨_, List.getElem?_eq_getElem hjn⟩
          have hdz := drop_at hz
          obtain ⟨zk, zv⟩ := z
          rw [hdz] at CA
          have HDZ := Lib.hid hdz
          have hkk : ((strOf zk).toList == (strOf zk).toList) = true := by simp
          have hkd : ((strOf zv.data).toList == (strOf zv.data).toList) = true := by simp
          clear hdz hz
          go_wp2_with fail
          refine CA.mono ?_
          rintro e w8 ⟨rfl, v8, hc8, hst8⟩
          dsimp only [keyH, someH, valH, List.tail_cons] at hc8 ⊢
          have hb8 := HB.out.trans (HTW.out.stay hst8 hb1w)
          have htw8 := HTW.out.stepA (Fa.zero _ _) (by rw [HDZ.out]; exact hc8) hst8
          have CB := next_cur htw8.c2 (by have := htw8.c2.lt9; omega) hN200
          rw [HDZ.out] at CB
          have HTW8 := Lib.hid htw8
          have HB8 := Lib.hid hb8
          clear CA hc8 hst8 hb8 htw8
          go_wp2_with fail
          refine CB.mono ?_
          rintro e w9 ⟨rfl, v9, hc9, hst9⟩
          dsimp only [keyH, someH, valH, List.tail_cons] at hc9 ⊢
          have hb9 := HB8.out.trans (HTW8.out.stay2 hst9 (by have := HTW8.out.lt; omega))
          have htw9 := HTW8.out.stepB (Fa.zero _ _) (by rw [HDZ.out]; exact hc9) hst9
          rw [HDZ.out, List.tail_cons] at htw9
          have HREL : Hid (∃ (j' : Nat) (v1 v2 : Value), i + j' ≤ E.length ∧ Value.int .i64 ((j : Int) + 1) = .int .i64 j' ∧ Two N b1 b3 (fun x => x < w3.heap.size) w9 v1 v2 (E.drop (i + j')) (E.drop (i + j')) none 0 ∧ Below W3.heap.size W3 w9) := Lib.hid ⟨j + 1, _, _, hjn, by go_num, htw9, hb9⟩
          clear CB hc9 hst9 hb9 htw9
          go_wp2_with fail
          go_roundw
          case rel => exact HREL.out
          case measure => simp [intOf]; omega
        · have hdz : E.drop (i + j) = [] := List.drop_of_length_le (by omega)
          rw [hdz] at CA
          have HDZ := Lib.hid hdz
          clear hdz
          go_wp2_with fail
          refine CA.mono ?_
          rintro e w8 ⟨rfl, v8, hc8, hst8⟩
          dsimp only [keyH, someH, valH, List.tail_nil] at hc8 ⊢
          have hb8 := HB.out.trans (HTW.out.stay hst8 hb1w)
          have htw8 := HTW.out.stepA (Fa.zero _ _) (by rw [HDZ.out]; exact hc8) hst8
          have CB := next_cur htw8.c2 (by have := htw8.c2.lt9; omega) hN200
          rw [HDZ.out] at CB
          have HTW8 := Lib.hid htw8
          have HB8 := Lib.hid hb8
          clear CA hc8 hst8 hb8 htw8
          go_wp2_with fail
          refine CB.mono ?_
          rintro e w9 ⟨rfl, v9, hc9, hst9⟩
          dsimp only [keyH, someH, valH, List.tail_nil] at hc9 ⊢
          have HEND := Lib.hid (below_via HB3.out (HB8.out.trans (HTW8.out.stay2 hst9 (by have := HTW8.out.lt; omega))))
          clear CB hc9 hst9
          go_wp2_with fail
          go_ret
          exact ⟨rfl, HEND.out⟩
end Go.Proofs.Ytemfnjlfcemehaa
