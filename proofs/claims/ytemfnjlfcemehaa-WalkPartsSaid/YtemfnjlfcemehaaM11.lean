/- Texts that other texts of this claim lean on, one behind the other. -/
import Derived.Test.YtemfnjlfcemehaaM10
import Derived.Test.YtemfnjlfcemehaaM6
import Derived.Test.YtemfnjlfcemehaaM3
import Derived.Test.YtemfnjlfcemehaaM4
import Derived.Deep.LoopGhost
import Derived.Test.YtemfnjlfcemehaaM9
/- The document's put, in a leaf; Put (printed by gen_trePw.py). -/
namespace Go.Proofs.Ytemfnjlfcemehaa
open Go.RowKit

theorem putL_cells (key : List UInt8) (v : Tv) (p : Int) (l : List (List UInt8 × Tv)) :
    cellsR (.leaf 0 (putL key v l)) = (cellsR (.leaf p l)).take (posK key (keysOf l)) ++ [⟨key, v, none⟩] ++ (cellsR (.leaf p l)).drop (posK key (keysOf l) + (if hasK key (keysOf l) then 1 else 0)) := by
  rw [putL_pos]
  simp [cellsR, List.map_take, List.map_drop]
theorem RcOn.fresh (F : Nat → Prop) (n : Nat) (w : World) (key d : List UInt8) : RcOn F n w [.string (strOf key), .string (strOf d), .slice none 0 0, .slice none 0 0] ⟨key, ⟨d, []⟩, none⟩ :=
  ⟨none, 0, 0, none, 0, 0, rfl, ⟨rfl, Nat.le_refl _, by unfold maxLen; omega, fun _ => rfl, .inl rfl⟩, .inl rfl, TabR.nil _, .inl rfl⟩
set_option maxRecDepth 100000 in
set_option maxHeartbeats 3000000 in
theorem rput_leaf {n : Nat} {key d : List UInt8} {F : Nat → Prop} {w : World} {cs : List Value} {p : Int} {l : List (List UInt8 × Tv)} (hF : ∀ b, F b → b < w.heap.size) (h : RNodeOn F (n + 1) w cs (.leaf p l)) (hl9 : l.length ≤ 900) :
    Calls Try.prog 60 #[.agg cs.toArray, .string (strOf key), .string (strOf d)] w (RNodeTo F (n + 1) w (.leaf 0 (putL key ⟨d, []⟩ l))) := by
  have H := Lib.hid h
  obtain ⟨a, c, rfl, h1, hfa⟩ := h.at
  obtain ⟨e1, e2, e3⟩ := h1.lens
  obtain ⟨m, hml⟩ : ∃ m, cntT (.leaf p l) = m := ⟨_, rfl⟩
  have hlm : l.length = m := hml
  rw [hml] at h1 hfa e1 e2 ⊢
  have hm9 : m ≤ 900 := by rw [← hlm]; exact hl9
  have hcells := putL_cells key ⟨d, []⟩ p l
  have hPm : posK key (keysOf l) ≤ m := by have := posK_le key (keysOf l); rw [← hlm]; simpa [keysOf] using this
  have hlt : ∀ i, i < posK key (keysOf l) → (keysOf l)[i]?.getD [] < key := fun i hi => posK_lt hi
  have hat : posK key (keysOf l) < m → ¬ (keysOf l)[posK key (keysOf l)]?.getD [] < key := fun hi => posK_at (by rw [← hlm] at hi; simpa [keysOf] using hi)
  have hhas : hasK key (keysOf l) = ((keysOf l)[posK key (keysOf l)]? == some key) := rfl
  obtain ⟨P, hP⟩ : ∃ P, posK key (keysOf l) = P := ⟨_, rfl⟩
  rw [hP] at hcells hPm hlt hat hhas
  obtain ⟨hs, hhs⟩ : ∃ x, hasK key (keysOf l) = x := ⟨_, rfl⟩
  rw [hhs] at hcells hhas
  have hkey : ∀ (i : Nat) (y : Rc), (cellsR (.leaf p l))[i]? = some y → (keysOf l)[i]? = some y.key := fun i y hy => by
    rw [cellsR_leaf] at hy
    obtain ⟨x, hx1, hx2⟩ := Option.map_eq_some_iff.1 hy
    subst hx2
    simp [keysOf, hx1]
  obtain ⟨R, hR⟩ : ∃ x, putL key ⟨d, []⟩ l = x := ⟨_, rfl⟩
  rw [hR] at hcells ⊢
  show Calls _ _ #[.agg #[.int .i64 p, .bool true, .slice a m c], .string (strOf key), .string (strOf d)] _ _
  obtain ⟨W2, hW2⟩ : ∃ x, (w.alloc (.cells #[.int .i64 p, .bool true, .slice a m c] 26)).alloc (.cells #[.int .i64 0, .bool false, .slice none 0 0] 26) = x := ⟨_, rfl⟩
  have hb2 : Below w.heap.size w W2 := by rw [← hW2]; exact Below.al (Below.al (Below.refl _ _))
  have hx2 : Boxes W2 [(w.heap.size + 1, [.int .i64 0, .bool false, .slice none 0 0]), (w.heap.size, [.int .i64 p, .bool true, .slice a m c])] := by
    rw [← hW2]
    exact ((Boxes.nil w).alloc #[.int .i64 p, .bool true, .slice a m c] 26 (b := w.heap.size) rfl).alloc #[.int .i64 0, .bool false, .slice none 0 0] 26 (b := w.heap.size + 1) (by simp)
  have hsz2 : W2.heap.size = w.heap.size + 2 := by rw [← hW2]; simp
  have n1 := hx2.cell 1 1 rfl rfl
  have HX2 := Lib.hid hx2
  have HB2 := Lib.hid hb2
  have HR := Lib.hid h1
  have HC := Lib.hid hcells
  have HLT := Lib.hid hlt
  have HAT := Lib.hid hat
  have HHAS := Lib.hid hhas
  have HKEY := Lib.hid hkey
  have HLM := Lib.hid hlm
  have hcl : (cellsR (.leaf p l)).length = m := by rw [cellsR_len]; exact hml
  have HCL := Lib.hid hcl
  clear hx2 hb2 h1 h hfa hml e1 hcells hlt hat hhas hkey hlm hR hP hhs hl9 hcl
  go_enter Try.func60, Try.ntmps60
  go_upto_block 0 with (fail)
  obtain ⟨W3, hW3⟩ : ∃ x, x = W2.alloc (.cells #[.string (strOf key), .string (strOf d), .slice none 0 0, .slice none 0 0] 48) := ⟨_, rfl⟩
  rw [← hW3]
  have hb3 : Below w.heap.size w W3 := by rw [hW3]; exact Below.al HB2.out
  have hx3 : Boxes W3 [(w.heap.size + 2, [.string (strOf key), .string (strOf d), .slice none 0 0, .slice none 0 0]), (w.heap.size + 1, [.int .i64 0, .bool false, .slice none 0 0]), (w.heap.size, [.int .i64 p, .bool true, .slice a m c])] := by
    rw [hW3]
    exact HX2.out.alloc #[.string (strOf key), .string (strOf d), .slice none 0 0, .slice none 0 0] 48 (b := w.heap.size + 2) (by omega)
  have hs3 : W3.heap.size = w.heap.size + 3 := by rw [hW3]; simp; omega
  have n2 := hx3.cell 2 2 rfl rfl
  have HX3 := Lib.hid hx3
  have HB3 := Lib.hid hb3
  have HS3 := Lib.hid hs3
  have hF3 : ∀ b, F b → b < W3.heap.size := fun b hb => by have := hF b hb; omega
  have HF3 := Lib.hid hF3
  clear hx3 hb3 hW3 hW2 hs3 hF3 n1
  go_wp2_with fail
  go_loop [10] (fun s => ∃ i : Nat, i ≤ P ∧ s = .int .i64 i) (fun s => P - (intOf s).toNat)
  case atStart => exact ⟨0, Nat.zero_le _, rfl⟩
  case round =>
    obtain ⟨i, hi, rfl⟩ := hrel
    by_cases hiP : i < P
    · obtain ⟨b, off, y, _, _, _, _, _, _, rfl, hbb, hy, _, _, _, _, _, e0, _⟩ := RNodeOn.cell HR.out (show i < m by omega)
      have hk : y.key < key := by
        have := HLT.out i hiP
        rw [HKEY.out i y hy] at this
        exact this
      obtain ⟨c1, c2, c3, c4⟩ := cmp_lt hk
      have v0 := (HB3.out.cell (p := ⟨b, off + i * 4, none⟩) hbb).trans e0
      have him : (i : Int) < (m : Int) := by omega
      clear hk hy e0
      go_wp2_with fail
      go_round
      case rel => exact ⟨i + 1, by omega, by go_num⟩
      case measure => simp [intOf]; omega
    · obtain rfl : i = P := by omega
      by_cases hPm' : i < m
      · obtain ⟨b, off, y, _, _, _, _, _, _, rfl, hbb, hy, _, _, _, _, _, e0, _⟩ := RNodeOn.cell HR.out (show i < m by omega)
        have v0 := (HB3.out.cell (p := ⟨b, off + i * 4, none⟩) hbb).trans e0
        have him : (i : Int) < (m : Int) := by omega
        have hna : ¬ y.key < key := by
          have := HAT.out hPm'
          rw [HKEY.out i y hy] at this
          exact this
        have hha := HHAS.out
        rw [HKEY.out i y hy] at hha
        rcases ktri y.key key with hk | hk | hk
        · exact absurd hk hna
        · obtain rfl : hs = true := by rw [hha, hk]; simp
          obtain ⟨c1, c2⟩ := cmp_eq key
          rw [hk] at v0
          have hcr := HC.out
          rw [if_pos rfl] at hcr
          have hcnt : cntT (.leaf 0 R) = m := by
            have := congrArg List.length hcr
            rw [cellsR_len] at this
            simp only [List.length_append, List.length_take, List.length_drop, List.length_singleton, HCL.out] at this
            omega
          obtain ⟨W4, hW4⟩ : ∃ x, W3.alloc (.cells #[.string (strOf key), .string (strOf d), .slice none 0 0, .slice none 0 0] 48) = x := ⟨_, rfl⟩
          have hb34 : Below W3.heap.size W3 W4 := by rw [← hW4]; exact Below.al (Below.refl _ _)
          have hz : BoxAt W4 W3.heap.size #[.string (strOf key), .string (strOf d), .slice none 0 0, .slice none 0 0] := by rw [← hW4]; exact BoxAt.here
          have hb4 := below_via HB3.out hb34
          have CW3 := with_to (G := Fr F W3) (n := n) (wc := W4) (W := W4) (t := .leaf 0 R) rfl hcnt hcr (Below.refl _ _) (fun b hb => .inr (by have := hb34.size; omega)) (TabR.mono (TabR.below (Nat.le_refl _) hb4 HR.out) (fun _ _ hy => RcOn.mono (fun b hf => Fr.old b hf) (RcOn.below hy hb4))) (one_cell hz (RcOn.fresh _ _ _ key d)) hPm' (by omega) (by omega)
          have hx4 := HX3.out.step hb34
          have m0 := HX3.out.cell 0 0 rfl rfl
          have m1 := HX3.out.cell 0 1 rfl rfl
          have m2 := HX3.out.cell 0 2 rfl rfl
          have m3 := HX3.out.cell 0 3 rfl rfl
          have HX4 := Lib.hid hx4
          have HB4 := Lib.hid hb4
          clear hx4 hb4 hz hb34 hcr hcnt hna hha hk e0 hy
          subst hW4
          go_wp2_with fail
          refine CW3.mono ?_
          rintro e w5 ⟨a5, d5, rfl, n5', hb5⟩
          have n5 : RNodeOn (Fr F W3) (n + 1) w5 [.int .i64 0, .bool true, .slice a5 m d5] (.leaf 0 R) := n5'
          have hx5 := HX4.out.step hb5
          have z0 := hx5.cell 1 0 rfl rfl
          have z1 := hx5.cell 1 1 rfl rfl
          have z2 := hx5.cell 1 2 rfl rfl
          have y0 := hx5.frozen 1 0 rfl
          have y1 := hx5.frozen 1 1 rfl
          have y2 := hx5.frozen 1 2 rfl
          obtain ⟨t0, t1, t2, HE⟩ := rend (F := F) (w := w) (hx5.sub (m := [(w.heap.size + 1, [.int .i64 0, .bool false, .slice none 0 0])]) (by simp)) (by omega) (fun hg => by
            have := HS3.out
            rcases hg with hg | hg
            · have := hF _ hg; omega
            · omega) (fun b hb => by
            have := HS3.out
            rcases hb with hb | hb
            · exact .inl hb
            · exact .inr (by omega)) n5 (below_via HB4.out hb5)
          clear n5 hb5 CW3 hx5 n5'
          go_wp2_with fail
          refine bodyPost_ret (v := .agg #[.int .i64 0, .bool true, .slice a5 (m) d5]) (by simp only [results, Try.results60]; simp [go_sem, t0, t1, t2]) rfl HE.out
        · obtain rfl : hs = false := by rw [hha]; simp; intro e; rw [e] at hk; exact klt_irrefl _ hk
          obtain ⟨c1, c2, c3, c4⟩ := cmp_lt hk
          clear hna hha hk e0 hy
          have hi9 : i ≤ m := by omega
          have hcr := HC.out
          rw [if_neg (by simp), Nat.add_zero] at hcr
          have hs3 := HS3.out
          have hcl := HCL.out
          have hb3 := HB3.out
          have TR : TabR 4 (RcOn F n W3) W3 _ m c (cellsR (.leaf p l)) := TabR.mono (TabR.below (Nat.le_refl _) hb3 HR.out) (fun _ _ hy => RcOn.below hy hb3)
          have c0 : CellsF 48 F n W3.heap.size W3 (.slice none 0 0) [] := CellsF.nil _ _ _ _ _
          obtain ⟨v1, w1, hr1, c1', hg1⟩ := c0.row Try.underlying24 info_Cw (Nat.le_refl _) HF3.out (by simp) (TabR.tk TR hi9) (by omega)
          rw [List.nil_append] at c1'
          have hb1 : Below W3.heap.size W3 w1 := (Below.refl _ _).grown hg1 (Nat.le_refl _) (fun g hg => by cases hg)
          have hx1 := HX3.out.step hb1
          have hl1 : ((cellsR (.leaf p l)).take i).length = i := by rw [List.length_take, hcl, Nat.min_eq_left hi9]
          obtain ⟨v2, w2, hr2, c2', hg2⟩ := c1'.append Try.underlying24 info_Cw hb1.size HF3.out (by rw [hl1]; omega) (RcOn.fresh F n w1 key d)
          have hb2 : Below W3.heap.size W3 w2 := hb1.grown hg2 hb1.size (fun g hg => (c1'.ge hg).1)
          have hl2 : ((cellsR (.leaf p l)).take i ++ [(⟨key, ⟨d, []⟩, none⟩ : Rc)]).length = i + 1 := by rw [List.length_append, hl1]; rfl
          obtain ⟨ad, had, hsl⟩ := slice_from elem_Cw size_Cw (some ⟨b, off, none⟩) m c i hi9
          have TR2 : TabR 4 (RcOn F n w2) w2 ad (m - i) (c - i) ((cellsR (.leaf p l)).drop i) := by
            rw [had]
            exact TabR.mono (TabR.dp (TabR.below (Nat.le_refl _) hb2 TR) hi9) (fun _ _ hy => RcOn.below hy hb2)
          obtain ⟨v3, w3, hr3, c3', hg3⟩ := c2'.row Try.underlying24 info_Cw hb2.size HF3.out (by rw [hl2]; omega) TR2 (by omega)
          have hb3' : Below W3.heap.size W3 w3 := hb2.grown hg3 hb2.size (fun g hg => (c2'.ge hg).1)
          rw [← hcr] at c3'
          have hlen : cntT (.leaf 0 R) = m + 1 := by
            have := congrArg List.length hcr
            rw [cellsR_len, List.length_append, hl2, List.length_drop, hcl] at this
            omega
          have o3 := c3'.own HF3.out
          obtain ⟨a3, d3, ev3, _, _, _, _⟩ := o3.sl
          rw [cellsR_len, hlen] at ev3
          subst ev3
          have n3 : RNodeOn (Fr F W3) (n + 1) w3 [.int .i64 0, .bool true, .slice a3 (m + 1) d3] (.leaf 0 R) := o3.node (w := W3) (Nat.le_refl _)
          have hbe := below_via hb3 hb3'
          have hx3 := HX3.out.step hb3'
          have m0 := hx1.cell 0 0 rfl rfl
          have m1 := hx1.cell 0 1 rfl rfl
          have m2 := hx1.cell 0 2 rfl rfl
          have m3 := hx1.cell 0 3 rfl rfl
          have nn1 := hx1.cell 2 2 rfl rfl
          have nn2 := (HX3.out.step hb2).cell 2 2 rfl rfl
          have hic : i ≤ c := by omega
          clear c0 c1' c2' c3' o3 TR TR2 hg1 hg2 hg3 hb1 hb2 hb3' hb3 hx1 hl1 hl2 had hcr hcl hs3 hlen
          go_upto_region 12 with (fail)
          go_upto_region 13 with (at_builtin; refine wpList_append_run rfl _ _ _ _ rfl rfl rfl hr1 ?_)
          go_upto_region 14 with (at_builtin; refine wpList_append_run rfl _ _ _ _ rfl rfl rfl hr2 ?_)
          go_upto_region 15 with (at_builtin; refine wpList_append_run rfl _ _ _ _ rfl rfl rfl hr3 ?_)
          have z0 := hx3.cell 1 0 rfl rfl
          have z1 := hx3.cell 1 1 rfl rfl
          have z2 := hx3.cell 1 2 rfl rfl
          have y0 := hx3.frozen 1 0 rfl
          have y1 := hx3.frozen 1 1 rfl
          have y2 := hx3.frozen 1 2 rfl
          obtain ⟨t0, t1, t2, HE⟩ := rend (F := F) (w := w) (hx3.sub (m := [(w.heap.size + 1, [.int .i64 0, .bool false, .slice none 0 0])]) (by simp)) (by omega) (fun hg => by
            have := HS3.out
            rcases hg with hg | hg
            · have := hF _ hg; omega
            · omega) (fun b hb => by
            have := HS3.out
            rcases hb with hb | hb
            · exact .inl hb
            · exact .inr (by omega)) n3 hbe
          clear n3 hbe hx3
          go_wp2_with fail
          refine bodyPost_ret (v := .agg #[.int .i64 0, .bool true, .slice a3 (m + 1) d3]) (by simp only [results, Try.results60]; simp [go_sem, t0, t1, t2]) rfl HE.out
      · obtain rfl : hs = false := by
          rw [HHAS.out, List.getElem?_eq_none (by have := HLM.out; simp [keysOf]; omega)]
          rfl
        have him : decide ((i : Int) < (m : Int)) = false := by simp; omega
        have hi9 : i ≤ m := by omega
        have hcr := HC.out
        rw [if_neg (by simp), Nat.add_zero] at hcr
        have hs3 := HS3.out
        have hcl := HCL.out
        have hb3 := HB3.out
        have TR : TabR 4 (RcOn F n W3) W3 _ m c (cellsR (.leaf p l)) := TabR.mono (TabR.below (Nat.le_refl _) hb3 HR.out) (fun _ _ hy => RcOn.below hy hb3)
        have c0 : CellsF 48 F n W3.heap.size W3 (.slice none 0 0) [] := CellsF.nil _ _ _ _ _
        obtain ⟨v1, w1, hr1, c1', hg1⟩ := c0.row Try.underlying24 info_Cw (Nat.le_refl _) HF3.out (by simp) (TabR.tk TR hi9) (by omega)
        rw [List.nil_append] at c1'
        have hb1 : Below W3.heap.size W3 w1 := (Below.refl _ _).grown hg1 (Nat.le_refl _) (fun g hg => by cases hg)
        have hx1 := HX3.out.step hb1
        have hl1 : ((cellsR (.leaf p l)).take i).length = i := by rw [List.length_take, hcl, Nat.min_eq_left hi9]
        obtain ⟨v2, w2, hr2, c2', hg2⟩ := c1'.append Try.underlying24 info_Cw hb1.size HF3.out (by rw [hl1]; omega) (RcOn.fresh F n w1 key d)
        have hb2 : Below W3.heap.size W3 w2 := hb1.grown hg2 hb1.size (fun g hg => (c1'.ge hg).1)
        have hl2 : ((cellsR (.leaf p l)).take i ++ [(⟨key, ⟨d, []⟩, none⟩ : Rc)]).length = i + 1 := by rw [List.length_append, hl1]; rfl
        obtain ⟨ad, had, hsl⟩ := slice_from elem_Cw size_Cw a m c i hi9
        have TR2 : TabR 4 (RcOn F n w2) w2 ad (m - i) (c - i) ((cellsR (.leaf p l)).drop i) := by
          rw [had]
          exact TabR.mono (TabR.dp (TabR.below (Nat.le_refl _) hb2 TR) hi9) (fun _ _ hy => RcOn.below hy hb2)
        obtain ⟨v3, w3, hr3, c3', hg3⟩ := c2'.row Try.underlying24 info_Cw hb2.size HF3.out (by rw [hl2]; omega) TR2 (by omega)
        have hb3' : Below W3.heap.size W3 w3 := hb2.grown hg3 hb2.size (fun g hg => (c2'.ge hg).1)
        rw [← hcr] at c3'
        have hlen : cntT (.leaf 0 R) = m + 1 := by
          have := congrArg List.length hcr
          rw [cellsR_len, List.length_append, hl2, List.length_drop, hcl] at this
          omega
        have o3 := c3'.own HF3.out
        obtain ⟨a3, d3, ev3, _, _, _, _⟩ := o3.sl
        rw [cellsR_len, hlen] at ev3
        subst ev3
        have n3 : RNodeOn (Fr F W3) (n + 1) w3 [.int .i64 0, .bool true, .slice a3 (m + 1) d3] (.leaf 0 R) := o3.node (w := W3) (Nat.le_refl _)
        have hbe := below_via hb3 hb3'
        have hx3 := HX3.out.step hb3'
        have m0 := hx1.cell 0 0 rfl rfl
        have m1 := hx1.cell 0 1 rfl rfl
        have m2 := hx1.cell 0 2 rfl rfl
        have m3 := hx1.cell 0 3 rfl rfl
        have nn1 := hx1.cell 2 2 rfl rfl
        have nn2 := (HX3.out.step hb2).cell 2 2 rfl rfl
        have hic : i ≤ c := by omega
        clear c0 c1' c2' c3' o3 TR TR2 hg1 hg2 hg3 hb1 hb2 hb3' hb3 hx1 hl1 hl2 had hcr hcl hs3 hlen
        go_upto_region 12 with (fail)
        go_upto_region 13 with (at_builtin; refine wpList_append_run rfl _ _ _ _ rfl rfl rfl hr1 ?_)
        go_upto_region 14 with (at_builtin; refine wpList_append_run rfl _ _ _ _ rfl rfl rfl hr2 ?_)
        go_upto_region 15 with (at_builtin; refine wpList_append_run rfl _ _ _ _ rfl rfl rfl hr3 ?_)
        have z0 := hx3.cell 1 0 rfl rfl
        have z1 := hx3.cell 1 1 rfl rfl
        have z2 := hx3.cell 1 2 rfl rfl
        have y0 := hx3.frozen 1 0 rfl
        have y1 := hx3.frozen 1 1 rfl
        have y2 := hx3.frozen 1 2 rfl
        obtain ⟨t0, t1, t2, HE⟩ := rend (F := F) (w := w) (hx3.sub (m := [(w.heap.size + 1, [.int .i64 0, .bool false, .slice none 0 0])]) (by simp)) (by omega) (fun hg => by
          have := HS3.out
          rcases hg with hg | hg
          · have := hF _ hg; omega
          · omega) (fun b hb => by
          have := HS3.out
          rcases hb with hb | hb
          · exact .inl hb
          · exact .inr (by omega)) n3 hbe
        clear n3 hbe hx3
        go_wp2_with fail
        refine bodyPost_ret (v := .agg #[.int .i64 0, .bool true, .slice a3 (m + 1) d3]) (by simp only [results, Try.results60]; simp [go_sem, t0, t1, t2]) rfl HE.out
end Go.Proofs.Ytemfnjlfcemehaa

/- The walks of trees: a key's value put (printed by gen_treU.py). -/
namespace Go.Proofs.Ytemfnjlfcemehaa
open Go.RowKit

set_option maxRecDepth 100000 in
set_option maxHeartbeats 2000000 in
theorem tput_any : ∀ {N : Nat} {F : Nat → Prop} {w : World} {cs : List Value} {t : Tr} (key d : List UInt8), NodeOn F N w cs t → PutOk N t key ⟨d, []⟩ → Calls Try.prog 59 #[.agg cs.toArray, .string (strOf key), .string (strOf d)] w (NodeTo F N w (putT N t key ⟨d, []⟩))
  | 0, _, _, _, _, _, _, h, _ => h.elim
  | N + 1, F, w, cs, .node p l, key, d, h, ho => by
    have IH := fun {F : Nat → Prop} {w : World} {cs : List Value} {t : Tr} (h : NodeOn F N w cs t) (ho : PutOk N t key ⟨d, []⟩) => tput_any key d h ho
    obtain ⟨o1, o2, o3, M, rfl, o4⟩ := ho
    have hlt := h.lt
    obtain ⟨ka, kc, va, vn, vc, ca, cn, cc, V, C, rfl, h1, h2, h3, h4, f1, f2, f3⟩ := hlt.open
    obtain ⟨_, r1, r2⟩ := h4.toR.lens
    have hV : V = [] := h4.2.1
    have hcn : cn = l.length := by rw [← h3.1, r2]; rfl
    have hvn : vn = 0 := by rw [← h2.1, hV]; rfl
    subst hV hcn hvn
    obtain ⟨k, hkx⟩ : ∃ k, wayF (keysOf l) key = k := ⟨_, rfl⟩
    have hk : k < l.length := by rw [← hkx]; have := wayF_lt (ks := keysOf l) key (by simpa [keysOf] using o1); simpa [keysOf] using this
    rw [hkx] at o3 o4
    obtain ⟨bc, oc, y, yc, eca, hbc, hy, _, hyc, hcell⟩ := TabR.at h3 hk
    have hyc : yc = y.1 := hyc
    subst hyc eca
    have hkid := kid_tells h4.2.2 hy
    obtain ⟨q1, q2, q3, q4, q5, q6, q7, q8, _, _, ey, _⟩ := NodeOn.open_pos hkid
    rw [ey] at hcell hkid
    have hcA : cntT (Tr.node p l) = l.length := rfl
    have hpA : (Tr.node p l).page = p := rfl
    have hfA : (Tr.node p l).isLeaf = false := rfl
    have hkA : (Tr.node p l).keys = keysOf l := rfl
    rw [hcA, hpA, hfA] at hlt ⊢
    rw [hcA, hkA] at h1
    rw [hkA] at h4
    rw [hcA] at f1
    obtain ⟨m, hm⟩ : ∃ m, l.length = m := ⟨_, rfl⟩
    rw [hm] at hk h1 h3 hlt o1 o2 f1 f3 ⊢
    have hB0 : Below w.heap.size w ((w.alloc (.cells #[.int .i64 p, .bool false, .slice ka m kc, .slice va 0 vc, .slice (some ⟨bc, oc, none⟩) m cc] 33)).alloc (.cells #[.int .i64 0, .bool false, .slice none 0 0, .slice none 0 0, .slice none 0 0] 33)) := Below.al (Below.al (Below.refl _ _))
    have hX0 : Boxes _ [(w.heap.size + 1, [.int .i64 0, .bool false, .slice none 0 0, .slice none 0 0, .slice none 0 0]), (w.heap.size, [.int .i64 p, .bool false, .slice ka m kc, .slice va 0 vc, .slice (some ⟨bc, oc, none⟩) m cc])] := (((Boxes.nil w).alloc #[.int .i64 p, .bool false, .slice ka m kc, .slice va 0 vc, .slice (some ⟨bc, oc, none⟩) m cc] 33 rfl).alloc #[.int .i64 0, .bool false, .slice none 0 0, .slice none 0 0, .slice none 0 0] 33 (b := w.heap.size + 1) (by simp))
    obtain ⟨wA, hwA⟩ : ∃ wA, (w.alloc (.cells #[.int .i64 p, .bool false, .slice ka m kc, .slice va 0 vc, .slice (some ⟨bc, oc, none⟩) m cc] 33)).alloc (.cells #[.int .i64 0, .bool false, .slice none 0 0, .slice none 0 0, .slice none 0 0] 33) = wA := ⟨_, rfl⟩
    have hzA : w.heap.size + 2 ≤ wA.heap.size := by rw [← hwA]; simp
    rw [hwA] at hB0 hX0
    have CW := tway_any (hlt.below hB0).toIn key (by rw [hcA, hm]; omega)
    rw [hkA, hkx] at CW
    have n0 := hX0.cell 1 0 rfl rfl
    have n1 := hX0.cell 1 1 rfl rfl
    have n2 := hX0.cell 1 2 rfl rfl
    have n3 := hX0.cell 1 3 rfl rfl
    have n4 := hX0.cell 1 4 rfl rfl
    obtain ⟨T1, hT1⟩ : ∃ x, putT (M + 1) (kidAt l k) key ⟨d, []⟩ = x := ⟨_, rfl⟩
    rw [hT1] at o4
    have HPT : Hid (putT (M + 1 + 1) (.node p l) key ⟨d, []⟩ = mendT 0 (l.set k (keyAt l k, T1)) k) := Lib.hid (by
      show mendT 0 (l.set (wayF (keysOf l) key) (keyAt l (wayF (keysOf l) key), putT (M + 1) (kidAt l (wayF (keysOf l) key)) key ⟨d, []⟩)) (wayF (keysOf l) key) = _
      rw [hkx, hT1])
    have HX := Lib.hid hX0
    have HB := Lib.hid hB0
    have H1 := Lib.hid h1
    have H3 := Lib.hid h3
    have H4 := Lib.hid h4
    have HN := Lib.hid hlt
    have HO3 := Lib.hid o3
    have HO4 := Lib.hid o4
    have HM := Lib.hid hm
    have HT1 := Lib.hid hT1
    have HKID := Lib.hid hkid
    have HCELL := Lib.hid hcell
    have hl2 := h1.lens
    have hl3 := h3.lens
    obtain ⟨_, e2, e3⟩ := hl2
    obtain ⟨_, e5, e6⟩ := hl3
    clear h h1 h2 h3 h4 hlt o3 o4 hX0 hB0 r1 r2 hcA hpA hfA hkA hm hkx hT1 hkid hy ey hcell
    go_enter Try.func59, Try.ntmps59
    go_wp2_with fail
    refine CW.mono ?_
    rintro e wB ⟨rfl, hbB⟩
    have HX := Lib.hid (HX.out.step hbB)
    have HBW := Lib.hid (HB.out.trans (hbB.mono HB.out.size))
    have hzB : w.heap.size + 2 ≤ wB.heap.size := Nat.le_trans hzA hbB.size
    clear CW n0 n1 n2 n3 n4 hbB hwA
    have HC1 : ∀ W, Below wB.heap.size wB W → Calls Try.prog 59 #[.agg #[.int .i64 (kidAt l k).page, .bool (kidAt l k).isLeaf, .slice q1 (cntT (kidAt l k)) q2, .slice q3 q4 q5, .slice q6 q7 q8], .string (strOf key), .string (strOf d)] W (NodeGo (fun b => (F b ∧ b < w.heap.size) ∨ w.heap.size + 2 ≤ b) (M + 1) W T1) := fun W hW => by
      have := IH (HKID.out.below (below_via HBW.out hW)) HO3.out
      rw [HT1.out] at this
      exact this.mono fun e w' h => h.go fun b h => by rcases h with h | h; exact .inl h; exact .inr (by have := hW.size; omega)
    obtain ⟨kp, hkp⟩ : ∃ x, (kidAt l k).page = x := ⟨_, rfl⟩
    obtain ⟨kl, hkl⟩ : ∃ x, (kidAt l k).isLeaf = x := ⟨_, rfl⟩
    obtain ⟨kcn, hkc⟩ : ∃ x, cntT (kidAt l k) = x := ⟨_, rfl⟩
    rw [hkp, hkl, hkc] at HC1 HCELL
    clear hkp hkl hkc
    obtain ⟨TM, hTM⟩ : ∃ x, mendT 0 (l.set k (keyAt l k, T1)) k = x := ⟨_, rfl⟩
    have HC2 : ∀ (W : World) (x : Nat) (p1 : Int) (l1 : Bool) (a1 : Option Addr) (m1 c1 : Nat) (b1 : Option Addr) (m2 c2 : Nat) (b2 : Option Addr) (m3 c3 : Nat), Below wB.heap.size wB W → NodeOn (fun b => (F b ∧ b < w.heap.size) ∨ w.heap.size + 2 ≤ b) (M + 1) W [.int .i64 p1, .bool l1, .slice a1 m1 c1, .slice b1 m2 c2, .slice b2 m3 c3] T1 → BoxAt W x #[.int .i64 p1, .bool l1, .slice a1 m1 c1, .slice b1 m2 c2, .slice b2 m3 c3] →
        Calls Try.prog 71 #[.slice (some ⟨bc, oc, none⟩) m cc, .int .i64 (k : Int), .int .i64 1, .slice (some ⟨x, 0, none⟩) 1 1] W (fun e w' => ∃ b c, e = .returned (.slice b m c) ∧ Below W.heap.size W w' ∧ Below wB.heap.size wB w' ∧
          Calls Try.prog 44 #[.agg #[.int .i64 0, .bool false, .slice ka m kc, .slice none 0 0, .slice b m c], .int .i64 (k : Int)] w' (NodeGo (fun b => (F b ∧ b < w.heap.size) ∨ w.heap.size + 2 ≤ b) (M + 2) w' TM)) := fun W x p1 l1 a1 m1 c1 b1 m2 c2 b2 m3 c3 hW hn hX => by
      obtain ⟨cB, hcB⟩ : ∃ c : Cl 5, c.1 = [.int .i64 p1, .bool l1, .slice a1 m1 c1, .slice b1 m2 c2, .slice b2 m3 c3] := ⟨⟨[.int .i64 p1, .bool l1, .slice a1 m1 c1, .slice b1 m2 c2, .slice b2 m3 c3], rfl, by intro u hu; simp at hu; rcases hu with rfl | rfl | rfl | rfl | rfl <;> rfl⟩, rfl⟩
      have h3l := H3.out.1
      have := swap_n (H3.out.below (below_via HBW.out hW)) (raw_box (L := [cB]) (by simpa [flatC, hcB] using hX) (by simp)) k 1 (by omega) (by simp; omega)
      have h2 : Calls Try.prog 71 #[.slice (some ⟨bc, oc, none⟩) m cc, .int .i64 (k : Int), .int .i64 1, .slice (some ⟨x, 0, none⟩) 1 1] W (OwnRaw 33 5 W (swapL C k 1 [cB])) := by simpa using this
      refine h2.mono fun e w' h => ?_
      obtain ⟨a2, c2, rfl, _, _, ho, hb⟩ := h.sl
      have hlen : (swapL C k 1 [cB]).length = m := by
        have := len_swapL (l := C) (s := [cB]) (i := k) (j := 1) (by omega)
        simp at this
        omega
      rw [hlen] at ho ⊢
      have hW' := below_via hW hb
      refine ⟨a2, c2, rfl, hb, hW', ?_⟩
      have hk' : k < l.length := by rw [HM.out]; exact hk
      have hnode : NodeOn (fun b => (F b ∧ b < w.heap.size) ∨ w.heap.size + 2 ≤ b) (M + 2) w' [.int .i64 0, .bool false, .slice ka m kc, .slice none 0 0, .slice a2 m c2] (.node 0 (l.set k (keyAt l k, T1))) := by
        have hs := setR (p := p) (B := cB) (t := T1) (NodeRF.mono (G := fun b => (F b ∧ b < w.heap.size) ∨ w.heap.size + 2 ≤ b) (H4.out.below (below_via HBW.out hW')) (fun b h => .inl h)) hk' (by rw [hcB]; exact hn.below hb)
        refine NodeOn.shut rfl rfl ?_ (H1.out.below (below_via HBW.out hW')) (Raw.nil0 _ _) (Raw.of_sl ho hlen) (f1.mono fun b h => .inl h) (Fa.zero _ _) (Fa.of_own ho fun b h => .inr (by have := hW.size; omega)) hs
        rw [show (Tr.node 0 (l.set k (keyAt l k, T1))).keys = keysOf (l.set k (keyAt l k, T1)) from rfl, set_keys hk']
      have := tmend_any hnode k (by simpa using hk') HO4.out
      rw [hTM] at this
      exact this.mono fun e w'' h => h.go fun b h => by rcases h with h | h; exact h; exact .inr (by have := hW'.size; omega)
    have HTM := Lib.hid hTM
    have HF1 := Lib.hid f1
    have hA0 : AgreeF (fun b => b ≠ w.heap.size + 1) wB wB.drew := AgreeF.dr (AgreeF.refl _)
    have fk2 : ∀ W, AgreeF (fun b => b ≠ w.heap.size + 1) wB W → W.cell? ⟨w.heap.size, 2, none⟩ = some (.slice ka m kc) := fun W hW => (hW.cell (by simp) (HX.out.lt 1 rfl)).trans (HX.out.cell 1 2 rfl rfl)
    have fk4 : ∀ W, AgreeF (fun b => b ≠ w.heap.size + 1) wB W → W.cell? ⟨w.heap.size, 4, none⟩ = some (.slice (some ⟨bc, oc, none⟩) m cc) := fun W hW => (hW.cell (by simp) (HX.out.lt 1 rfl)).trans (HX.out.cell 1 4 rfl rfl)
    have hbc' : bc ≠ w.heap.size + 1 := by have : bc < w.heap.size := hbc; omega
    have hbc2 : bc < wB.heap.size := Nat.lt_of_lt_of_le hbc HBW.out.size
    have kc0 : ∀ W, AgreeF (fun b => b ≠ w.heap.size + 1) wB W → W.cell? ⟨bc, oc + k * 5, none⟩ = some (.int .i64 kp) := fun W hW => (hW.cell hbc' hbc2).trans ((HBW.out.cell (p := ⟨bc, oc + k * 5, none⟩) hbc).trans (HCELL.out 0 _ rfl))
    have kc1 : ∀ W, AgreeF (fun b => b ≠ w.heap.size + 1) wB W → W.cell? ⟨bc, oc + k * 5 + 1, none⟩ = some (.bool kl) := fun W hW => (hW.cell hbc' hbc2).trans ((HBW.out.cell (p := ⟨bc, oc + k * 5 + 1, none⟩) hbc).trans (HCELL.out 1 _ rfl))
    have kc2 : ∀ W, AgreeF (fun b => b ≠ w.heap.size + 1) wB W → W.cell? ⟨bc, oc + k * 5 + 2, none⟩ = some (.slice q1 kcn q2) := fun W hW => (hW.cell hbc' hbc2).trans ((HBW.out.cell (p := ⟨bc, oc + k * 5 + 2, none⟩) hbc).trans (HCELL.out 2 _ rfl))
    have kc3 : ∀ W, AgreeF (fun b => b ≠ w.heap.size + 1) wB W → W.cell? ⟨bc, oc + k * 5 + 3, none⟩ = some (.slice q3 q4 q5) := fun W hW => (hW.cell hbc' hbc2).trans ((HBW.out.cell (p := ⟨bc, oc + k * 5 + 3, none⟩) hbc).trans (HCELL.out 3 _ rfl))
    have kc4 : ∀ W, AgreeF (fun b => b ≠ w.heap.size + 1) wB W → W.cell? ⟨bc, oc + k * 5 + 4, none⟩ = some (.slice q6 q7 q8) := fun W hW => (hW.cell hbc' hbc2).trans ((HBW.out.cell (p := ⟨bc, oc + k * 5 + 4, none⟩) hbc).trans (HCELL.out 4 _ rfl))
    clear hTM f1 f2 f3 hbc
    go_wp2_with fail
    go_upto_region 3 with (fail)
    go_region_held3 (fun W => AgreeF (fun b => b ≠ w.heap.size + 1) wB W) (first | with_reducible assumption | (repeat (with_reducible first | assumption | exact AgreeF.refl _ | apply AgreeF.al | apply AgreeF.dr | apply AgreeF.st))) (first | (go_at_call 59; (with_reducible refine (HC1 _ ?_).mono ?_); (focus (repeat (with_reducible first | assumption | exact Below.refl _ _ | apply Below.al | apply Below.dr))); rintro e w1 ⟨p1, l1, a1, m1, c1, b1, m2, c2, b2, m3, c3, rfl, hn1, hb1⟩; have hB1 : Below wB.heap.size wB w1 := below_via (by (repeat (with_reducible first | assumption | exact Below.refl _ _ | apply Below.al | apply Below.dr))) hb1; have hA1 : AgreeF (fun b => b ≠ w.heap.size + 1) wB w1 := .of_below hB1) | (go_at_call 71; (with_reducible refine (HC2 _ _ p1 l1 a1 m1 c1 b1 m2 c2 b2 m3 c3 ?_ ?_ ?_).mono ?_); (focus (repeat (with_reducible first | assumption | exact Below.refl _ _ | apply Below.al | apply Below.dr))); (focus (exact NodeOn.below hn1 (Below.al (Below.refl _ _)))); (focus (repeat (with_reducible first | assumption | exact BoxAt.here3 | exact BoxAt.here2 | exact BoxAt.here | apply BoxAt.dr | apply BoxAt.al))); rintro e w2 ⟨b, c, rfl, hb2, hB2, hcm⟩; have hA2 : AgreeF (fun b => b ≠ w.heap.size + 1) wB w2 := .of_below hB2) | (go_at_call 44; (with_reducible refine hcm.mono ?_); rintro e w3 ⟨p3, l3, d1, k1, e1, d2, k2, e2, d3, k3, e3, rfl, hn3, hb3⟩; have hB3 : Below wB.heap.size wB w3 := below_via hB2 hb3; have hA3 : AgreeF (fun b => b ≠ w.heap.size + 1) wB w3 := .of_below hB3; have hX3 := HX.out.step hB3; have z0 : w3.cell? ⟨w.heap.size + 1, 0, none⟩ = _ := hX3.cell 0 0 rfl rfl; have u0 : w3.frozen? ⟨w.heap.size + 1, 0, none⟩ = false := hX3.frozen 0 0 rfl; have z1 : w3.cell? ⟨w.heap.size + 1, 1, none⟩ = _ := hX3.cell 0 1 rfl rfl; have u1 : w3.frozen? ⟨w.heap.size + 1, 1, none⟩ = false := hX3.frozen 0 1 rfl; have z2 : w3.cell? ⟨w.heap.size + 1, 2, none⟩ = _ := hX3.cell 0 2 rfl rfl; have u2 : w3.frozen? ⟨w.heap.size + 1, 2, none⟩ = false := hX3.frozen 0 2 rfl; have z3 : w3.cell? ⟨w.heap.size + 1, 3, none⟩ = _ := hX3.cell 0 3 rfl rfl; have u3 : w3.frozen? ⟨w.heap.size + 1, 3, none⟩ = false := hX3.frozen 0 3 rfl; have z4 : w3.cell? ⟨w.heap.size + 1, 4, none⟩ = _ := hX3.cell 0 4 rfl rfl; have u4 : w3.frozen? ⟨w.heap.size + 1, 4, none⟩ = false := hX3.frozen 0 4 rfl))
    have hend := node_end (F := F) (HBW.out.trans (hB3.mono HBW.out.size)) (hX3.sub (m := [(w.heap.size + 1, [.int .i64 0, .bool false, .slice none 0 0, .slice none 0 0, .slice none 0 0])]) (by simp)) hn3
    have t0 := hend.1.cell 0 0 rfl rfl
    have t1 := hend.1.cell 0 1 rfl rfl
    have t2 := hend.1.cell 0 2 rfl rfl
    have t3 := hend.1.cell 0 3 rfl rfl
    have t4 := hend.1.cell 0 4 rfl rfl
    have fin := Lib.hid hend.2
    unfold set5 at t0 t1 t2 t3 t4
    clear hcm fk2 fk4 kc0 kc1 kc2 kc3 kc4 HC1 HC2
    clear hend z0 z1 z2 z3 z4 u0 u1 u2 u3 u4
    go_wp2_with fail
    refine bodyPost_ret (v := .agg #[.int .i64 p3, .bool l3, .slice d1 k1 e1, .slice d2 k2 e2, .slice d3 k3 e3]) (by simp [results, Try.results59, go_sem, t0, t1, t2, t3, t4]) rfl ?_
    rw [HPT.out, HTM.out]
    exact fin.out
  | N + 1, F, w, cs, .leaf p l, key, d, h, ho => by
    obtain ⟨o1, o2⟩ := ho
    have hlt := h.lt
    obtain ⟨ka, kc, va, vn, vc, ca, cn, cc, V, C, rfl, h1, h2, h3, h4, f1, f2, f3⟩ := hlt.open
    obtain ⟨_, r1, r2⟩ := h4.toR.lens
    have hC : C = [] := h4.2.2
    have hvn : vn = l.length := by rw [← h2.1, r1]; rfl
    have hcn : cn = 0 := by rw [← h3.1, hC]; rfl
    subst hC hcn hvn
    have hcA : cntT (Tr.leaf p l) = l.length := rfl
    have hpA : (Tr.leaf p l).page = p := rfl
    have hfA : (Tr.leaf p l).isLeaf = true := rfl
    have hkA : (Tr.leaf p l).keys = keysOf l := rfl
    rw [hcA, hpA, hfA] at hlt ⊢
    rw [hcA, hkA] at h1
    rw [hkA] at h4
    rw [hcA] at f1
    have hkl : (keysOf l).length = l.length := by simp [keysOf]
    obtain ⟨m, hm⟩ : ∃ m, l.length = m := ⟨_, rfl⟩
    rw [hm] at h1 h2 hlt o1 f1 f2 hkl ⊢
    have hB0 : Below w.heap.size w ((w.alloc (.cells #[.int .i64 p, .bool true, .slice ka m kc, .slice va m vc, .slice ca 0 cc] 33)).alloc (.cells #[.int .i64 0, .bool false, .slice none 0 0, .slice none 0 0, .slice none 0 0] 33)) := Below.al (Below.al (Below.refl _ _))
    have hX0 : Boxes _ [(w.heap.size + 1, [.int .i64 0, .bool false, .slice none 0 0, .slice none 0 0, .slice none 0 0]), (w.heap.size, [.int .i64 p, .bool true, .slice ka m kc, .slice va m vc, .slice ca 0 cc])] := (((Boxes.nil w).alloc #[.int .i64 p, .bool true, .slice ka m kc, .slice va m vc, .slice ca 0 cc] 33 rfl).alloc #[.int .i64 0, .bool false, .slice none 0 0, .slice none 0 0, .slice none 0 0] 33 (b := w.heap.size + 1) (by simp))
    obtain ⟨wB, hwB⟩ : ∃ wA, (w.alloc (.cells #[.int .i64 p, .bool true, .slice ka m kc, .slice va m vc, .slice ca 0 cc] 33)).alloc (.cells #[.int .i64 0, .bool false, .slice none 0 0, .slice none 0 0, .slice none 0 0] 33) = wA := ⟨_, rfl⟩
    have hzB : w.heap.size + 2 ≤ wB.heap.size := by rw [← hwB]; simp
    rw [hwB] at hB0 hX0
    have CB := bsearch_any (h1.below hB0) (by omega) o2 key
    have hpo := pos_old (key := key) (ks := keysOf l)
    rw [hkl] at hpo
    obtain ⟨hr1, hr2⟩ := putR (p := p) key d h4
    obtain ⟨pos, hpos⟩ : ∃ x, posK key (keysOf l) = x := ⟨_, rfl⟩
    obtain ⟨has, hhas⟩ : ∃ x, hasK key (keysOf l) = x := ⟨_, rfl⟩
    rw [hpos, hhas] at CB hpo hr1 hr2
    obtain ⟨old, hold⟩ : ∃ x, oldN has = x := ⟨_, rfl⟩
    rw [hold] at hpo hr1 hr2
    obtain ⟨LK, hLK⟩ : ∃ L, swapL ((keysOf l).map kCell) pos old [kCell key] = L := ⟨_, rfl⟩
    obtain ⟨LV, hLV⟩ : ∃ L, swapL V pos old [vCell d] = L := ⟨_, rfl⟩
    rw [hLV] at hr1
    have hk1 := h1.lens
    have hv1 := h2.lens
    have HC1 : ∀ (W : World) (x : Nat), Below wB.heap.size wB W → BoxAt W x #[.string (strOf key)] → Calls Try.prog 70 #[.slice ka m kc, .int .i64 (pos : Int), .int .i64 (old : Int), .slice (some ⟨x, 0, none⟩) 1 1] W (RowOut 9 1 wB W LK) := fun W x hW hX => by
      have := swap_s (h1.below (below_via hB0 hW)) (raw_box (L := [kCell key]) hX (by simp)) pos old hpo (by simp; omega)
      rw [hLK] at this
      exact this.mono fun e w' h => OwnRaw.row hW h
    have HC2 : ∀ (W : World) (x : Nat), Below wB.heap.size wB W → BoxAt W x #[.string (strOf d), .slice none 0 0] → Calls Try.prog 87 #[.slice va m vc, .int .i64 (pos : Int), .int .i64 (old : Int), .slice (some ⟨x, 0, none⟩) 1 1] W (RowOut 100 2 wB W LV) := fun W x hW hX => by
      have := swap_v (h2.below (below_via hB0 hW)) (raw_box (L := [vCell d]) hX (by simp)) pos old hpo (by simp; omega)
      rw [hLV] at this
      exact this.mono fun e w' h => OwnRaw.row hW h
    have hnode : Hid (∀ (W : World) (a1 a2 : Option Addr) (c1 c2 : Nat), Below wB.heap.size wB W → W.ownsRow wB.heap.size 9 1 (.slice a1 LK.length c1) LK.length (flatC LK) → W.ownsRow wB.heap.size 100 2 (.slice a2 LV.length c2) LV.length (flatC LV) →
        NodeOn (fun b => (F b ∧ b < w.heap.size) ∨ w.heap.size + 2 ≤ b) (N + 1) W [.int .i64 0, .bool true, .slice a1 LK.length c1, .slice a2 LV.length c2, .slice none 0 0] (.leaf 0 (putL key ⟨d, []⟩ l))) := Lib.hid (fun W a1 a2 c1 c2 hW g1 g2 => by
      refine NodeOn.shut rfl rfl ?_ (Raw.of_sl g1 rfl) (Raw.of_sl g2 rfl) (Raw.nil0 _ _) (Fa.of_own g1 fun b h => .inr (by omega)) (Fa.of_own g2 fun b h => .inr (by omega)) (Fa.zero _ _) (NodeRF.mono (NodeRF.below hr1 (below_via hB0 hW)) (fun b h => .inl h))
      rw [show (Tr.leaf 0 (putL key ⟨d, []⟩ l)).keys = keysOf (putL key ⟨d, []⟩ l) from rfl, hr2, swap_map, ← hLK]; rfl)
    have HX := Lib.hid hX0
    have HB := Lib.hid hB0
    have HPT : Hid (putT (N + 1) (.leaf p l) key ⟨d, []⟩ = .leaf 0 (putL key ⟨d, []⟩ l)) := Lib.hid rfl
    have hn1 := hX0.cell 1 1 rfl rfl
    have hn2 := hX0.cell 1 2 rfl rfl
    have HAS := Lib.hid (show old = oldN has from hold.symm)
    clear h h1 h2 h3 h4 hlt hX0 hB0 r1 r2 hcA hpA hfA hkA hm hpos hhas hold hLK hLV hr1 hr2 hkl hk1 hv1 f1 f2 f3 o1 o2
    go_enter Try.func59, Try.ntmps59
    go_wp2_with fail
    refine CB.mono ?_
    rintro e wB ⟨rfl, rfl⟩
    clear CB hn1 hn2 hwB
    have hA0 : AgreeF (fun b => b ≠ w.heap.size + 1) wB wB.drew := AgreeF.dr (AgreeF.refl _)
    have fk2 : ∀ W, AgreeF (fun b => b ≠ w.heap.size + 1) wB W → W.cell? ⟨w.heap.size, 2, none⟩ = some (.slice ka m kc) := fun W hW => (hW.cell (by simp) (HX.out.lt 1 rfl)).trans (HX.out.cell 1 2 rfl rfl)
    have fk3 : ∀ W, AgreeF (fun b => b ≠ w.heap.size + 1) wB W → W.cell? ⟨w.heap.size, 3, none⟩ = some (.slice va m vc) := fun W hW => (hW.cell (by simp) (HX.out.lt 1 rfl)).trans (HX.out.cell 1 3 rfl rfl)
    cases has with
    | false =>
      have ho0 : (old : Int) = 0 := by rw [HAS.out]; rfl
      rw [ho0] at HC1 HC2
      clear ho0
      go_wp2_with fail
      go_upto_region 8 with (fail)
      go_region_held3 (fun W => AgreeF (fun b => b ≠ w.heap.size + 1) wB W) (first | with_reducible assumption | (repeat (with_reducible first | assumption | exact AgreeF.refl _ | apply AgreeF.al | apply AgreeF.dr | apply AgreeF.st))) (first | (go_at_call 70; (with_reducible refine (HC1 _ _ ?_ ?_).mono ?_); (focus (repeat (with_reducible first | assumption | exact Below.refl _ _ | apply Below.al | apply Below.dr))); (focus (repeat (with_reducible first | assumption | exact BoxAt.here3 | exact BoxAt.here2 | exact BoxAt.here | apply BoxAt.dr | apply BoxAt.al))); rintro e w1 hq1; obtain ⟨a1, c1, rfl, i11, i12, ho1, hb1, hB1⟩ := hq1; have hA1 : AgreeF (fun b => b ≠ w.heap.size + 1) wB w1 := .of_below hB1; have U1 := fun b cs h => BoxAt.below (b := b) (cs := cs) h hb1) | (go_at_call 87; (with_reducible refine (HC2 _ _ ?_ ?_).mono ?_); (focus (repeat (with_reducible first | assumption | exact Below.refl _ _ | apply Below.al | apply Below.dr))); (focus (repeat (with_reducible first | assumption | exact BoxAt.here3 | exact BoxAt.here2 | exact BoxAt.here | apply BoxAt.dr | apply BoxAt.al | apply U1))); rintro e w2 hq2; obtain ⟨a2, c2, rfl, i21, i22, ho2, hb2, hB2⟩ := hq2; have hA2 : AgreeF (fun b => b ≠ w.heap.size + 1) wB w2 := .of_below hB2; have U2 := fun b cs h => BoxAt.below (b := b) (cs := cs) h hb2; have hk12 := below_via (a := w1) (by (repeat (with_reducible first | exact Below.refl _ _ | apply Below.al | apply Below.dr))) hb2; have hX3 := HX.out.step hB2; have z0 : w2.cell? ⟨w.heap.size + 1, 0, none⟩ = _ := hX3.cell 0 0 rfl rfl; have u0 : w2.frozen? ⟨w.heap.size + 1, 0, none⟩ = false := hX3.frozen 0 0 rfl; have z1 : w2.cell? ⟨w.heap.size + 1, 1, none⟩ = _ := hX3.cell 0 1 rfl rfl; have u1 : w2.frozen? ⟨w.heap.size + 1, 1, none⟩ = false := hX3.frozen 0 1 rfl; have z2 : w2.cell? ⟨w.heap.size + 1, 2, none⟩ = _ := hX3.cell 0 2 rfl rfl; have u2 : w2.frozen? ⟨w.heap.size + 1, 2, none⟩ = false := hX3.frozen 0 2 rfl; have z3 : w2.cell? ⟨w.heap.size + 1, 3, none⟩ = _ := hX3.cell 0 3 rfl rfl; have u3 : w2.frozen? ⟨w.heap.size + 1, 3, none⟩ = false := hX3.frozen 0 3 rfl; have z4 : w2.cell? ⟨w.heap.size + 1, 4, none⟩ = _ := hX3.cell 0 4 rfl rfl; have u4 : w2.frozen? ⟨w.heap.size + 1, 4, none⟩ = false := hX3.frozen 0 4 rfl))
      all_goals
        have hn3 := hnode.out w2 _ _ _ _ hB2 (own_held ho1 hk12) ho2
        have hend := node_end (F := F) (HB.out.trans (hB2.mono HB.out.size)) (hX3.sub (m := [(w.heap.size + 1, [.int .i64 0, .bool false, .slice none 0 0, .slice none 0 0, .slice none 0 0])]) (by simp)) hn3
        have t0 := hend.1.cell 0 0 rfl rfl
        have t1 := hend.1.cell 0 1 rfl rfl
        have t2 := hend.1.cell 0 2 rfl rfl
        have t3 := hend.1.cell 0 3 rfl rfl
        have t4 := hend.1.cell 0 4 rfl rfl
        have fin := Lib.hid hend.2
        unfold set5 at t0 t1 t2 t3 t4
        clear hend z0 z1 z2 z3 z4 u0 u1 u2 u3 u4 fk2 fk3 HC1 HC2 hn3
        go_wp2_with fail
        refine bodyPost_ret (v := .agg #[.int .i64 0, .bool true, .slice a1 LK.length c1, .slice a2 LV.length c2, .slice none 0 0]) (by simp [results, Try.results59, go_sem, t0, t1, t2, t3, t4]) rfl ?_
        rw [HPT.out]
        exact fin.out
    | true =>
      have ho0 : (old : Int) = 1 := by rw [HAS.out]; rfl
      rw [ho0] at HC1 HC2
      clear ho0
      go_wp2_with fail
      go_upto_region 8 with (fail)
      go_region_held3 (fun W => AgreeF (fun b => b ≠ w.heap.size + 1) wB W) (first | with_reducible assumption | (repeat (with_reducible first | assumption | exact AgreeF.refl _ | apply AgreeF.al | apply AgreeF.dr | apply AgreeF.st))) (first | (go_at_call 70; (with_reducible refine (HC1 _ _ ?_ ?_).mono ?_); (focus (repeat (with_reducible first | assumption | exact Below.refl _ _ | apply Below.al | apply Below.dr))); (focus (repeat (with_reducible first | assumption | exact BoxAt.here3 | exact BoxAt.here2 | exact BoxAt.here | apply BoxAt.dr | apply BoxAt.al))); rintro e w1 hq1; obtain ⟨a1, c1, rfl, i11, i12, ho1, hb1, hB1⟩ := hq1; have hA1 : AgreeF (fun b => b ≠ w.heap.size + 1) wB w1 := .of_below hB1; have U1 := fun b cs h => BoxAt.below (b := b) (cs := cs) h hb1) | (go_at_call 87; (with_reducible refine (HC2 _ _ ?_ ?_).mono ?_); (focus (repeat (with_reducible first | assumption | exact Below.refl _ _ | apply Below.al | apply Below.dr))); (focus (repeat (with_reducible first | assumption | exact BoxAt.here3 | exact BoxAt.here2 | exact BoxAt.here | apply BoxAt.dr | apply BoxAt.al | apply U1))); rintro e w2 hq2; obtain ⟨a2, c2, rfl, i21, i22, ho2, hb2, hB2⟩ := hq2; have hA2 : AgreeF (fun b => b ≠ w.heap.size + 1) wB w2 := .of_below hB2; have U2 := fun b cs h => BoxAt.below (b := b) (cs := cs) h hb2; have hk12 := below_via (a := w1) (by (repeat (with_reducible first | exact Below.refl _ _ | apply Below.al | apply Below.dr))) hb2; have hX3 := HX.out.step hB2; have z0 : w2.cell? ⟨w.heap.size + 1, 0, none⟩ = _ := hX3.cell 0 0 rfl rfl; have u0 : w2.frozen? ⟨w.heap.size + 1, 0, none⟩ = false := hX3.frozen 0 0 rfl; have z1 : w2.cell? ⟨w.heap.size + 1, 1, none⟩ = _ := hX3.cell 0 1 rfl rfl; have u1 : w2.frozen? ⟨w.heap.size + 1, 1, none⟩ = false := hX3.frozen 0 1 rfl; have z2 : w2.cell? ⟨w.heap.size + 1, 2, none⟩ = _ := hX3.cell 0 2 rfl rfl; have u2 : w2.frozen? ⟨w.heap.size + 1, 2, none⟩ = false := hX3.frozen 0 2 rfl; have z3 : w2.cell? ⟨w.heap.size + 1, 3, none⟩ = _ := hX3.cell 0 3 rfl rfl; have u3 : w2.frozen? ⟨w.heap.size + 1, 3, none⟩ = false := hX3.frozen 0 3 rfl; have z4 : w2.cell? ⟨w.heap.size + 1, 4, none⟩ = _ := hX3.cell 0 4 rfl rfl; have u4 : w2.frozen? ⟨w.heap.size + 1, 4, none⟩ = false := hX3.frozen 0 4 rfl))
      all_goals
        have hn3 := hnode.out w2 _ _ _ _ hB2 (own_held ho1 hk12) ho2
        have hend := node_end (F := F) (HB.out.trans (hB2.mono HB.out.size)) (hX3.sub (m := [(w.heap.size + 1, [.int .i64 0, .bool false, .slice none 0 0, .slice none 0 0, .slice none 0 0])]) (by simp)) hn3
        have t0 := hend.1.cell 0 0 rfl rfl
        have t1 := hend.1.cell 0 1 rfl rfl
        have t2 := hend.1.cell 0 2 rfl rfl
        have t3 := hend.1.cell 0 3 rfl rfl
        have t4 := hend.1.cell 0 4 rfl rfl
        have fin := Lib.hid hend.2
        unfold set5 at t0 t1 t2 t3 t4
        clear hend z0 z1 z2 z3 z4 u0 u1 u2 u3 u4 fk2 fk3 HC1 HC2 hn3
        go_wp2_with fail
        refine bodyPost_ret (v := .agg #[.int .i64 0, .bool true, .slice a1 LK.length c1, .slice a2 LV.length c2, .slice none 0 0]) (by simp [results, Try.results59, go_sem, t0, t1, t2, t3, t4]) rfl ?_
        rw [HPT.out]
        exact fin.out
end Go.Proofs.Ytemfnjlfcemehaa

/- The walks of trees: Put, Empty. -/
namespace Go.Proofs.Ytemfnjlfcemehaa
open Go.RowKit

set_option maxRecDepth 100000 in
set_option maxHeartbeats 1000000 in
theorem tPut_any {N : Nat} {F : Nat → Prop} {w : World} {cs : List Value} {t : Tr} (key d : List UInt8) (h : NodeOn F N w cs t) (ho : PutOk N t key ⟨d, []⟩) (ht : TopOk N (putT N t key ⟨d, []⟩)) :
    Calls Try.prog 33 #[.agg cs.toArray, .string (strOf key), .string (strOf d)] w (NodeTo F (N + 1) w (putW N t key ⟨d, []⟩)) := by
  have hlt := h.lt
  obtain ⟨ka, kc, va, vn, vc, ca, cn, cc, V, C, rfl, _⟩ := NodeOn.open_pos h
  obtain ⟨lf, hlf⟩ : ∃ x, t.isLeaf = x := ⟨_, rfl⟩
  obtain ⟨p, hp⟩ : ∃ x, t.page = x := ⟨_, rfl⟩
  obtain ⟨m, hm⟩ : ∃ x, cntT t = x := ⟨_, rfl⟩
  rw [hlf, hp, hm] at hlt ⊢
  have hB0 : Below w.heap.size w ((w.alloc (.cells #[.int .i64 p, .bool lf, .slice ka m kc, .slice va vn vc, .slice ca cn cc] 33)).alloc (.cells #[.int .i64 0, .bool false, .slice none 0 0, .slice none 0 0, .slice none 0 0] 33)) := Below.al (Below.al (Below.refl _ _))
  have hX0 : Boxes _ [(w.heap.size + 1, [.int .i64 0, .bool false, .slice none 0 0, .slice none 0 0, .slice none 0 0]), (w.heap.size, [.int .i64 p, .bool lf, .slice ka m kc, .slice va vn vc, .slice ca cn cc])] := (((Boxes.nil w).alloc #[.int .i64 p, .bool lf, .slice ka m kc, .slice va vn vc, .slice ca cn cc] 33 rfl).alloc #[.int .i64 0, .bool false, .slice none 0 0, .slice none 0 0, .slice none 0 0] 33 (b := w.heap.size + 1) (by simp))
  obtain ⟨wA, hwA⟩ : ∃ wA, (w.alloc (.cells #[.int .i64 p, .bool lf, .slice ka m kc, .slice va vn vc, .slice ca cn cc] 33)).alloc (.cells #[.int .i64 0, .bool false, .slice none 0 0, .slice none 0 0, .slice none 0 0] 33) = wA := ⟨_, rfl⟩
  have hzA : w.heap.size + 2 ≤ wA.heap.size := by rw [← hwA]; simp
  rw [hwA] at hB0 hX0
  have C1 : Calls Try.prog 59 #[.agg #[.int .i64 p, .bool lf, .slice ka m kc, .slice va vn vc, .slice ca cn cc], .string (strOf key), .string (strOf d)] wA (NodeGo (fun b => (F b ∧ b < w.heap.size) ∨ w.heap.size + 2 ≤ b) N wA (putT N t key ⟨d, []⟩)) :=
    (tput_any key d (hlt.below hB0) ho).mono fun e w' h => h.go fun b h => by rcases h with h | h; exact .inl h; exact .inr (by omega)
  obtain ⟨T, hT⟩ : ∃ x, putT N t key ⟨d, []⟩ = x := ⟨_, rfl⟩
  have HT : Hid (putW N t key ⟨d, []⟩ = topT N T) := Lib.hid (by rw [← hT]; rfl)
  rw [hT] at C1 ht
  have HX := Lib.hid hX0
  have HB := Lib.hid hB0
  have HTO := Lib.hid ht
  have n0 := hX0.cell 1 0 rfl rfl
  have n1 := hX0.cell 1 1 rfl rfl
  have n2 := hX0.cell 1 2 rfl rfl
  have n3 := hX0.cell 1 3 rfl rfl
  have n4 := hX0.cell 1 4 rfl rfl
  clear h hlt ho ht hX0 hB0 hlf hp hm hT
  go_enter Try.func33, Try.ntmps33
  go_wp2_with fail
  refine C1.mono ?_
  rintro e w1 ⟨p1, l1, a1, m1, c1, b1, m2, c2, b2, m3, c3, rfl, hn1, hb1⟩
  have hX1 := HX.out.step hb1
  have hB1 := HB.out.trans (hb1.mono HB.out.size)
  have hz1 : w.heap.size + 2 ≤ w1.heap.size := Nat.le_trans hzA hb1.size
  have C2 : Calls Try.prog 42 #[.agg #[.int .i64 p1, .bool l1, .slice a1 m1 c1, .slice b1 m2 c2, .slice b2 m3 c3]] w1 (NodeGo (fun b => (F b ∧ b < w.heap.size) ∨ w.heap.size + 2 ≤ b) (N + 1) w1 (topT N T)) :=
    (ttop_any hn1 HTO.out).mono fun e w' h => h.go fun b h => by rcases h with h | h; exact h; exact .inr (by omega)
  have HX1 := Lib.hid hX1
  have HB1 := Lib.hid hB1
  clear C1 hn1 hb1 hX1 hB1 n0 n1 n2 n3 n4 hwA
  go_wp2_with fail
  refine C2.mono ?_
  rintro e w2 ⟨p3, l3, d1, k1, e1, d2, k2, e2, d3, k3, e3, rfl, hn3, hb3⟩
  have hX3 := HX1.out.step hb3
  have hend := node_end (F := F) (HB1.out.trans (hb3.mono HB1.out.size)) (hX3.sub (m := [(w.heap.size + 1, [.int .i64 0, .bool false, .slice none 0 0, .slice none 0 0, .slice none 0 0])]) (by simp)) hn3
  have t0 := hend.1.cell 0 0 rfl rfl
  have t1 := hend.1.cell 0 1 rfl rfl
  have t2 := hend.1.cell 0 2 rfl rfl
  have t3 := hend.1.cell 0 3 rfl rfl
  have t4 := hend.1.cell 0 4 rfl rfl
  have fin := Lib.hid hend.2
  unfold set5 at t0 t1 t2 t3 t4
  have z0 := hX3.cell 0 0 rfl rfl
  have z1 := hX3.cell 0 1 rfl rfl
  have z2 := hX3.cell 0 2 rfl rfl
  have z3 := hX3.cell 0 3 rfl rfl
  have z4 := hX3.cell 0 4 rfl rfl
  have u0 := hX3.frozen 0 0 rfl
  have u1 := hX3.frozen 0 1 rfl
  have u2 := hX3.frozen 0 2 rfl
  have u3 := hX3.frozen 0 3 rfl
  have u4 := hX3.frozen 0 4 rfl
  clear hend C2 hn3 hb3 hX3
  go_wp2_with fail
  refine bodyPost_ret (v := .agg #[.int .i64 p3, .bool l3, .slice d1 k1 e1, .slice d2 k2 e2, .slice d3 k3 e3]) (by simp [results, Try.results33, go_sem, t0, t1, t2, t3, t4]) rfl ?_
  rw [HT.out]
  exact fin.out
theorem tempty_any (w : World) (F : Nat → Prop) : Calls Try.prog 31 #[] w (NodeTo F 1 w (.leaf 0 [])) := by
  go_enter Try.func31, Try.ntmps31
  go_wp2_with fail
  refine bodyPost_ret (v := .agg #[.int .i64 0, .bool true, .slice none 0 0, .slice none 0 0, .slice none 0 0]) (by simp [results, Try.results31, go_sem]) rfl ⟨[.int .i64 0, .bool true, .slice none 0 0, .slice none 0 0, .slice none 0 0], rfl, ?_, ?_⟩
  · exact NodeOn.shut (V := []) (C := []) rfl rfl (K := []) rfl (Raw.nil0 _ _) (Raw.nil0 _ _) (Raw.nil0 _ _) (Fa.zero _ _) (Fa.zero _ _) (Fa.zero _ _) ⟨Tells.nil, Tells.nil, rfl⟩
  · exact Below.al (Below.refl _ _)
end Go.Proofs.Ytemfnjlfcemehaa

/- The walks of trees: a key found. -/
namespace Go.Proofs.Ytemfnjlfcemehaa
open Go.RowKit

/-- What finding asks of a tree. -/
def FindOk : Nat → Tr → List UInt8 → Prop
  | 0, _, _ => False
  | _ + 1, .leaf _ l, _ => l.length ≤ 1000 ∧ (keysOf l).Pairwise (fun a b => a < b)
  | n + 1, .node _ l, key => 0 < l.length ∧ l.length ≤ 1000 ∧ FindOk n (kidAt l (wayF (keysOf l) key)) key
theorem pos_oldF {key : List UInt8} {ks : List (List UInt8)} (h : hasK key ks = true) : posK key ks < ks.length := by
  unfold hasK at h
  by_cases hp : posK key ks < ks.length
  · exact hp
  · rw [List.getElem?_eq_none (by omega)] at h; simp at h
def FoundPost (w : World) (r : Option (List UInt8)) (e : Ending) (w' : World) : Prop := e = .returned (.tuple #[.string (strOf (r.getD [])), .bool r.isSome]) ∧ Below w.heap.size w w'
def FindMid (w : World) (key : List UInt8) (R : Option (List UInt8)) (g : Nat) (wr : World) : Prop :=
  ∃ p lf ka m kc va vn vc ca cn cc t, NodeIn g w [.int .i64 p, .bool lf, .slice ka m kc, .slice va vn vc, .slice ca cn cc] t ∧ FindOk g t key ∧ findT g t key = R ∧ Boxes wr [(w.heap.size, [.int .i64 p, .bool lf, .slice ka m kc, .slice va vn vc, .slice ca cn cc])] ∧ Below w.heap.size w wr
set_option maxRecDepth 100000 in
set_option maxHeartbeats 2000000 in
theorem tfind_any {N : Nat} {w : World} {cs : List Value} {t : Tr} (h : NodeIn N w cs t) (key : List UInt8) (ho : FindOk N t key) :
    Calls Try.prog 28 #[.agg cs.toArray, .string (strOf key)] w (FoundPost w (findT N t key)) := by
  obtain ⟨R, hR⟩ : ∃ R, findT N t key = R := ⟨_, rfl⟩
  rw [hR]
  cases N with
  | zero => exact h.elim
  | succ N =>
  obtain ⟨ka, kc, va, vn, vc, ca, cn, cc, V, C, rfl, _⟩ := h.openK
  have hmid : FindMid w key R (N + 1) (w.alloc (.cells #[.int .i64 t.page, .bool t.isLeaf, .slice ka (cntT t) kc, .slice va vn vc, .slice ca cn cc] 33)) :=
    ⟨_, _, _, _, _, _, _, _, _, _, _, t, h, ho, hR, (Boxes.nil w).alloc #[.int .i64 t.page, .bool t.isLeaf, .slice ka (cntT t) kc, .slice va vn vc, .slice ca cn cc] 33 rfl, Below.al (Below.refl _ _)⟩
  have HMID := Lib.hid hmid
  clear hmid h ho hR
  go_enter Try.func28, Try.ntmps28
  go_wp2_with fail
  go_loopg [8] (N + 1) (fun g _ wr => FindMid w key R g wr)
  case atStart => exact HMID.out
  case round =>
    clear HMID
    obtain ⟨p, lf, ka, m, kc, va, vn, vc, ca, cn, cc, t, hn, ho, hR, hx, hb⟩ := hrel
    cases gk with
    | zero => exact hn.elim
    | succ g =>
    have hxl := hx.lt 0 rfl
    cases t with
    | node p0 l =>
      obtain ⟨o1, o2, o3⟩ := ho
      obtain ⟨k, hk⟩ : ∃ k, wayF (keysOf l) key = k := ⟨_, rfl⟩
      have hkl : k < l.length := by
        rw [← hk]
        have := (wayF_spec (ks := keysOf l) (key := key) (by intro e; have : (keysOf l).length = l.length := by simp [keysOf]
                                                             rw [e] at this; simp at this; omega)).1
        simpa [keysOf] using this
      have hRk : findT g (kidAt l k) key = R := by rw [← hR, ← hk]; rfl
      rw [hk] at o3
      have CW := fun W (hW : Below w.heap.size w W) => tway_any (hn.below hW) key o2
      have hkk : (Tr.node p0 l).keys = keysOf l := rfl
      rw [hkk, hk] at CW
      clear hkk
      obtain ⟨ka', kc', va', vn', vc', ca', cn', cc', V, C, e, h1, h2, h3, h4⟩ := hn.openK
      cases e
      dsimp only [Tr.page, Tr.isLeaf, cntT, Tr.keys] at hn hx CW h1 h2 h3
      have hcn : cn = l.length := by rw [← h3.1, h4.lens.2.2]; rfl
      subst hcn
      obtain ⟨bc, oc, y, yc, eca, hbc, hy, _, hyc, hcell⟩ := TabR.at h3 hkl
      have hyc : yc = y.1 := hyc
      subst hyc eca
      have hkid : NodeIn g w y.1 (kidAt l k) := h4.2.2.2 k y _ hy (by simp [kidAt, hkl])
      cases g with
      | zero => exact hkid.elim
      | succ g =>
      obtain ⟨q1, q2, q3, q4, q5, q6, q7, q8, _, _, ey, _⟩ := hkid.openK
      rw [ey] at hcell hkid
      have e0 := (hb.cell (p := ⟨bc, oc + k * 5, none⟩) hbc).trans (hcell 0 _ rfl)
      have e1 := (hb.cell (p := ⟨bc, oc + k * 5 + 1, none⟩) hbc).trans (hcell 1 _ rfl)
      have e2 := (hb.cell (p := ⟨bc, oc + k * 5 + 2, none⟩) hbc).trans (hcell 2 _ rfl)
      have e3 := (hb.cell (p := ⟨bc, oc + k * 5 + 3, none⟩) hbc).trans (hcell 3 _ rfl)
      have e4 := (hb.cell (p := ⟨bc, oc + k * 5 + 4, none⟩) hbc).trans (hcell 4 _ rfl)
      have n0 := hx.cell 0 0 rfl rfl
      have n1 := hx.cell 0 1 rfl rfl
      have n2 := hx.cell 0 2 rfl rfl
      have n3 := hx.cell 0 3 rfl rfl
      have n4 := hx.cell 0 4 rfl rfl
      have d0 : decide ((0 : Int) < (l.length : Int)) = true := by simp; omega
      have d0' : decide (0 < l.length) = true := by simp; omega
      have hbc9 : bc < wr.heap.size := Nat.lt_of_lt_of_le hbc hb.size
      have CW : ∀ W, Below w.heap.size w W → Calls Try.prog 46 #[.agg #[.int .i64 p0, .bool false, .slice ka l.length kc, .slice va vn vc, .slice (some ⟨bc, oc, none⟩) l.length cc], .string (strOf key)] W fun e w' => e = .returned (.int .i64 (k : Int)) ∧ Below W.heap.size W w' := CW
      have HB := Lib.hid hb
      have HX := Lib.hid hx
      have HKID := Lib.hid hkid
      have HRK := Lib.hid hRk
      have HO3 := Lib.hid o3
      have hcc := h3.lens.2.1
      have hcc2 := h3.lens.2.2
      clear h1 h2 h3 h4 hcell hy ey hR hRk o3 hn hkid hk
      go_wp2_with fail
      go_region_with ((go_at_call 46; (with_reducible refine (CW _ ?_).mono ?_); (focus (first | exact hb | exact Below.dr hb)); rintro e w1 ⟨rfl, hb1⟩; have hx1 := (Boxes.dr hx).step hb1; have m0 := hx1.cell 0 0 rfl rfl; have u0 := hx1.frozen 0 0 rfl; have m1 := hx1.cell 0 1 rfl rfl; have u1 := hx1.frozen 0 1 rfl; have m2 := hx1.cell 0 2 rfl rfl; have u2 := hx1.frozen 0 2 rfl; have m3 := hx1.cell 0 3 rfl rfl; have u3 := hx1.frozen 0 3 rfl; have m4 := hx1.cell 0 4 rfl rfl; have u4 := hx1.frozen 0 4 rfl; have f0 := (hb1.cell (p := ⟨bc, oc + k * 5, none⟩) hbc9).trans e0; have f1 := (hb1.cell (p := ⟨bc, oc + k * 5 + 1, none⟩) hbc9).trans e1; have f2 := (hb1.cell (p := ⟨bc, oc + k * 5 + 2, none⟩) hbc9).trans e2; have f3 := (hb1.cell (p := ⟨bc, oc + k * 5 + 3, none⟩) hbc9).trans e3; have f4 := (hb1.cell (p := ⟨bc, oc + k * 5 + 4, none⟩) hbc9).trans e4; have hbw1 := (Below.dr HB.out).trans (hb1.mono HB.out.size)))
      all_goals
        go_wp2_with fail
        go_roundg (g + 1)
        case measure => omega
        case rel =>
          have hm : FindMid w key R (g + 1) (set5 w1 w.heap.size (.int .i64 (kidAt l k).page) (.bool (kidAt l k).isLeaf) (.slice q1 (cntT (kidAt l k)) q2) (.slice q3 q4 q5) (.slice q6 q7 q8)) :=
            ⟨_, _, _, _, _, _, _, _, _, _, _, kidAt l k, HKID.out, HO3.out, HRK.out, set5_box hx1 (by simp) _ _ _ _ _, set5_below hbw1 (Nat.le_refl _) _ _ _ _ _⟩
          exact hm
    | leaf p0 l =>
      obtain ⟨o1, o2⟩ := ho
      obtain ⟨ka', kc', va', vn', vc', ca', cn', cc', V, C, e, h1, h2, h3, h4⟩ := hn.openK
      cases e
      dsimp only [Tr.page, Tr.isLeaf, cntT, Tr.keys] at hn hx h1 h2 h3
      have hvn : vn = l.length := by rw [← h2.1, h4.lens.2.1]; rfl
      subst hvn
      have n0 := hx.cell 0 0 rfl rfl
      have n1 := hx.cell 0 1 rfl rfl
      have n2 := hx.cell 0 2 rfl rfl
      have n3 := hx.cell 0 3 rfl rfl
      have n4 := hx.cell 0 4 rfl rfl
      have CB := bsearch_any (h1.below hb) (by omega) o2 key
      have hRl : R = if hasK key (keysOf l) then (l[posK key (keysOf l)]?).map (·.2.data) else none := by rw [← hR]; exact look_pos o2
      have hV : ∀ i, i < l.length → ∃ b off, va = some ⟨b, off, none⟩ ∧ b < w.heap.size ∧ w.cell? ⟨b, off + i * 2, none⟩ = some (.string (strOf ((l[i]?.map (·.2.data)).getD []))) := fun i hi => by
        obtain ⟨b, off, y, cs, e1, e2, e3, _, e5, e6⟩ := TabR.at (Raw.tab h2 h4.2.1) hi
        obtain ⟨a, n, c, rfl, _⟩ := e5
        refine ⟨b, off, e1, e2, ?_⟩
        rw [show l[i]?.map (·.2.data) = some y.data by simp [hi] at e3; simp [hi, e3]]
        exact e6 0 _ rfl
      have hpo := posK_le key (keysOf l)
      have hkl : (keysOf l).length = l.length := by simp [keysOf]
      have hhas : hasK key (keysOf l) = true → posK key (keysOf l) < l.length := fun h => by
        have := pos_oldF (key := key) (ks := keysOf l) h
        omega
      have hvc := h2.lens
      obtain ⟨_, v2, v3⟩ := hvc
      have HB := Lib.hid hb
      have HV := Lib.hid hV
      clear h1 h2 h3 h4 hn hx hR hV o2
      generalize posK key (keysOf l) = pos at *
      generalize hasK key (keysOf l) = has at *
      cases has with
      | false =>
        have HE : Hid (FoundPost w R (.returned (.tuple #[.string ⟨#[]⟩, .bool false])) wr) := Lib.hid ⟨by rw [hRl]; rfl, hb⟩
        clear hRl hb hhas
        go_wp2_with fail
        refine CB.mono ?_
        rintro e w1 ⟨rfl, rfl⟩
        go_wp2_with fail
        go_ret2
        exact HE.out
      | true =>
        have hp := hhas rfl
        obtain ⟨b, off, rfl, hbb, hcell⟩ := HV.out pos hp
        obtain ⟨c, hc⟩ : ∃ c, l[pos]? = some c := ⟨_, List.getElem?_eq_getElem hp⟩
        rw [hc] at hcell
        have hcell' := (hb.cell (p := ⟨b, off + pos * 2, none⟩) hbb).trans hcell
        have HE : Hid (FoundPost w R (.returned (.tuple #[.string (strOf c.2.data), .bool true])) wr) := Lib.hid ⟨by rw [hRl, hc]; rfl, hb⟩
        simp only [Option.map_some, Option.getD_some] at hcell'
        clear hRl hb hhas hcell hc
        generalize c.2.data = dat at *
        go_wp2_with fail
        refine CB.mono ?_
        rintro e w1 ⟨rfl, rfl⟩
        go_wp2_with fail
        go_ret2
        exact HE.out
end Go.Proofs.Ytemfnjlfcemehaa

/- What the walks ask of trees that may be. -/
namespace Go.Proofs.Ytemfnjlfcemehaa
open Go.RowKit

theorem shape_cnt {n : Nat} {lo hi : List UInt8} {t : Tr} (h : Shape n lo hi t) (hs : sumT t ≤ 200) : cntT t ≤ 50 := by
  have h1 := len_sum (fun x hx => (shape_cells h x hx).1)
  have e : (sizesT t).length = cntT t := sizes_len t
  have : sumI (sizesT t) = sumT t := rfl
  omega
theorem kid_keys {P : List UInt8 → List UInt8 → Tr → Prop} {lo hi : List UInt8} {l : List (List UInt8 × Tr)} (h : KidsP P lo hi l) (h0 : keyAt l 0 = []) : ∀ c ∈ l, c.1.length ≤ 16 := by
  cases l with
  | nil => intro c hc; cases hc
  | cons c r =>
    intro d hd
    rcases List.mem_cons.1 hd with rfl | hd
    · have : d.1 = [] := by simpa [keyAt] using h0
      rw [this]; simp
    · exact (kids_keys h d hd).2
theorem shape_bnd : ∀ {n : Nat} {lo hi : List UInt8} {t : Tr}, Shape n lo hi t → sumT t ≤ 200 → Bnd n t
  | 0, _, _, _, h, _ => h.elim
  | n + 1, lo, hi, .leaf p l, h, hs => by
    have hc := shape_cnt h hs
    obtain ⟨rfl, hl⟩ := h
    have : l.length ≤ 50 := hc
    refine ⟨by omega, fun c hm => ?_⟩
    obtain ⟨h1, _, _, h2⟩ := hl.2 c hm
    have := h1.2
    have := h2.1
    omega
  | n + 1, lo, hi, .node p l, h, hs => by
    have hc := shape_cnt h hs
    obtain ⟨h1, h0⟩ := shape_kids h
    have : l.length ≤ 50 := hc
    refine ⟨by omega, fun c hm => ⟨by have := kid_keys h1 h0 c hm; omega, ?_⟩⟩
    obtain ⟨lo', hi', g⟩ := kids_each h1 c hm
    exact shape_bnd g.1 (by have := g.2.2; omega)
theorem bnd_join {n : Nat} {key : List UInt8} {x y : Tr} (hx : Bnd (n + 1) x) (hy : Bnd (n + 1) y) (h1 : cntT x ≤ 400) (h2 : cntT y ≤ 400) (hk : key.length ≤ 200) : Bnd (n + 1) (joinT key x y) := by
  cases x with
  | leaf p l =>
    cases y with
    | leaf q m =>
      have h1 : l.length ≤ 400 := h1
      have h2 : m.length ≤ 400 := h2
      refine ⟨by simp; omega, fun c hc => ?_⟩
      rcases List.mem_append.1 hc with hc | hc
      · exact hx.2 c hc
      · exact hy.2 c hc
    | node q m => exact hx
  | node p l =>
    cases y with
    | leaf q m => exact hx
    | node q m =>
      have h1 : l.length ≤ 400 := h1
      have h2 : m.length ≤ 400 := h2
      have e : (firstK key m).length = m.length := by cases m <;> rfl
      refine ⟨by rw [List.length_append]; omega, fun c hc => ?_⟩
      rcases List.mem_append.1 hc with hc | hc
      · exact hx.2 c hc
      · cases m with
        | nil => cases hc
        | cons d r =>
          rcases List.mem_cons.1 hc with rfl | hc
          · exact ⟨hk, (hy.2 d (by simp)).2⟩
          · exact hy.2 c (List.mem_cons_of_mem _ hc)
theorem mendOk_of {m : Nat} {l : List (List UInt8 × Tr)} (hlen : l.length ≤ 1000) (h : ∀ c ∈ l, c.1.length ≤ 200 ∧ ∃ lo hi, Shape (m + 1) lo hi c.2 ∧ sumT c.2 ≤ 200) : MendOk m l where
  len := hlen
  bnd := fun c hc => by obtain ⟨_, lo, hi, h1, h2⟩ := h c hc; exact shape_bnd h1 h2
  kind := fun c hc d hd => by
    obtain ⟨_, lo, hi, h1, _⟩ := h c hc
    obtain ⟨_, lo', hi', h2, _⟩ := h d hd
    rw [shape_kind h1, shape_kind h2]
  some_ := fun c hc hl => by
    obtain ⟨_, lo, hi, h1, _⟩ := h c hc
    cases hcc : c.2 with
    | leaf p l => rw [hcc] at hl; cases hl
    | node p l => rw [hcc] at h1; exact List.length_pos_iff.2 (kids_ne (shape_kids h1).1)
  both := fun j hj => by
    obtain ⟨c, hc, ec⟩ := kid_mem (l := l) (k := j) (by omega)
    obtain ⟨d, hd, ed⟩ := kid_mem (l := l) (k := j + 1) hj
    obtain ⟨_, lo, hi, h1, s1⟩ := h c hc
    obtain ⟨_, lo', hi', h2, s2⟩ := h d hd
    have hk : (keyAt l (j + 1)).length ≤ 200 := by
      have := (h l[j + 1] (List.getElem_mem hj)).1
      simpa [keyAt, hj] using this
    rw [← ec, ← ed]
    exact bnd_join (shape_bnd h1 s1) (shape_bnd h2 s2) (by have := shape_cnt h1 s1; omega) (by have := shape_cnt h2 s2; omega) hk
theorem node_kids {n : Nat} {lo hi : List UInt8} {p : Int} {l : List (List UInt8 × Tr)} (h : Shape (n + 1) lo hi (.node p l)) : ∀ c ∈ l, c.1.length ≤ 200 ∧ ∃ lo hi, Shape n lo hi c.2 ∧ sumT c.2 ≤ 200 := by
  obtain ⟨h1, h0⟩ := shape_kids h
  intro c hc
  obtain ⟨lo', hi', g⟩ := kids_each h1 c hc
  exact ⟨by have := kid_keys h1 h0 c hc; omega, lo', hi', g.1, by have := g.2.2; omega⟩
theorem set_kids {n : Nat} {l : List (List UInt8 × Tr)} (h : ∀ c ∈ l, c.1.length ≤ 200 ∧ ∃ lo hi, Shape n lo hi c.2 ∧ sumT c.2 ≤ 200) {k : Nat} {key : List UInt8} {T : Tr} (hk : key.length ≤ 200) {lo hi : List UInt8} (hT : Shape n lo hi T) (hs : sumT T ≤ 200) :
    ∀ c ∈ l.set k (key, T), c.1.length ≤ 200 ∧ ∃ lo hi, Shape n lo hi c.2 ∧ sumT c.2 ≤ 200 := by
  intro c hc
  rcases List.mem_or_eq_of_mem_set hc with hc | rfl
  · exact h c hc
  · exact ⟨hk, lo, hi, hT, hs⟩
theorem key_len {n : Nat} {l : List (List UInt8 × Tr)} (h : ∀ c ∈ l, c.1.length ≤ 200 ∧ ∃ lo hi, Shape n lo hi c.2 ∧ sumT c.2 ≤ 200) (k : Nat) : (keyAt l k).length ≤ 200 := by
  unfold keyAt
  cases e : l[k]? with
  | none => simp
  | some c => exact (h c (List.mem_of_getElem? e)).1
theorem putOk_of : ∀ {n : Nat} {lo hi key : List UInt8} {v : Tv} {t : Tr}, Shape n lo hi t → sumT t ≤ 122 → (∀ p l, t = .node p l → 2 ≤ l.length) → keyOk key → ¬ key < lo → ltH hi key → valOk v → PutOk n t key v
  | 0, _, _, _, _, _, h, _, _, _, _, _, _ => h.elim
  | n + 1, lo, hi, key, v, .leaf p l, h, hs, _, hk, hlo, hhi, hv => by
    have hc : l.length ≤ 50 := shape_cnt h (by omega)
    obtain ⟨rfl, hl⟩ := h
    exact ⟨by omega, hl.1⟩
  | n + 1, lo, hi, key, v, .node p l, h, hs, h2, hk, hlo, hhi, hv => by
    have hc : l.length ≤ 50 := shape_cnt h (by omega)
    have hall := node_kids h
    obtain ⟨h1, h0⟩ := shape_kids h
    have hl2 := h2 p l rfl
    obtain ⟨a, c, b, lo', hi', e, hal, hcx, hp, g1, g2⟩ := way_focus h1 hlo hhi
    have hkid : kidAt l (wayF (keysOf l) key) = c.2 := by
      rw [← hal]
      conv => lhs; rw [e]
      exact kidAt_at a b c
    have i0 := putOk_of hp.1 hp.2.2 (fun q m e => good_len (p := q) (by rw [← e]; exact hp)) hk g1 g2 hv
    obtain ⟨i1, i2, _⟩ := put_ok hp.1 hp.2.2 (fun q m e => good_len (p := q) (by rw [← e]; exact hp)) hk g1 g2 hv
    cases n with
    | zero => exact hp.1.elim
    | succ m =>
      refine ⟨by omega, by omega, by rw [hkid]; exact i0, m, rfl, ?_⟩
      rw [hkid]
      exact mendOk_of (by simp; omega) (set_kids hall (key_len hall _) i1 (by omega))
theorem topOk_of : ∀ {n : Nat} {t : Tr}, Shape n [] [] t → sumT t ≤ 200 → TopOk n t
  | 0, _, h, _ => h.elim
  | n + 1, t, h, hs => by
    refine ⟨shape_bnd h hs, fun hl => ?_, fun p l e h1 => ?_⟩
    · cases t with
      | leaf p l => cases hl
      | node p l => exact List.length_pos_iff.2 (kids_ne (shape_kids h).1)
    · subst e
      obtain ⟨hk, h0⟩ := shape_kids h
      obtain ⟨c, rfl⟩ := List.length_eq_one_iff.1 h1
      have hg : Good n [] [] c.2 := hk
      have := topOk_of hg.1 (by have := hg.2.2; omega)
      simpa [kidAt] using this
theorem findOk_of : ∀ {n : Nat} {lo hi key : List UInt8} {t : Tr}, Shape n lo hi t → sumT t ≤ 200 → FindOk n t key
  | 0, _, _, _, _, h, _ => h.elim
  | n + 1, lo, hi, key, .leaf p l, h, hs => by
    have hc : l.length ≤ 50 := shape_cnt h hs
    obtain ⟨rfl, hl⟩ := h
    exact ⟨by omega, hl.1⟩
  | n + 1, lo, hi, key, .node p l, h, hs => by
    have hc : l.length ≤ 50 := shape_cnt h hs
    have hall := node_kids h
    have hpos := List.length_pos_iff.2 (kids_ne (shape_kids h).1)
    obtain ⟨c, hm, e⟩ := kid_mem (l := l) (k := wayF (keysOf l) key) (by have := wayF_lt (ks := keysOf l) key (by simpa [keysOf] using hpos); simpa [keysOf] using this)
    obtain ⟨_, lo', hi', g1, g2⟩ := hall c hm
    exact ⟨hpos, by omega, by rw [← e]; exact findOk_of g1 g2⟩
/-! whole trees -/
theorem Whole.bnd {n : Nat} {t : Tr} (h : Whole n t) : Bnd n t := shape_bnd h.1.1 (by have := h.1.2.1; omega)
theorem Whole.find {n : Nat} {t : Tr} (h : Whole n t) (key : List UInt8) : FindOk n t key := findOk_of h.1.1 (by have := h.1.2.1; omega)
theorem Whole.put {n : Nat} {t : Tr} {key : List UInt8} {v : Tv} (h : Whole n t) (hk : keyOk key) (hv : valOk v) : PutOk n t key v ∧ TopOk n (putT n t key v) := by
  obtain ⟨i1, i2, _⟩ := put_ok h.1.1 h.1.2.1 h.1.2.2 hk (knil key) (ltH_nil _) hv
  exact ⟨putOk_of h.1.1 h.1.2.1 h.1.2.2 hk (knil key) (ltH_nil _) hv, topOk_of i1 (by omega)⟩
/-- A tree as deep as it is. -/
theorem NodeOn.less {F : Nat → Prop} : ∀ {m n : Nat} {lo hi : List UInt8} {w : World} {cs : List Value} {t : Tr}, NodeOn F n w cs t → Shape m lo hi t → NodeOn F m w cs t
  | 0, _, _, _, _, _, _, _, h => h.elim
  | _, 0, _, _, _, _, _, h, _ => h.elim
  | m + 1, n + 1, lo, hi, w, cs, .leaf p l, h, _ => h
  | m + 1, n + 1, lo, hi, w, cs, .node p l, h, hs => by
    obtain ⟨ka, kn, kc, va, vc, ca, cn, cc, e, h1, f1, h2, h3, f3⟩ := h
    refine ⟨ka, kn, kc, va, vc, ca, cn, cc, e, h1, f1, h2, ?_, f3⟩
    have hall := node_kids hs
    exact TabR.agree h3 (Fa.mono f3 (fun _ h => h)) (AgreeF.refl w) (fun cs y hy h => by
      obtain ⟨c, hc, rfl⟩ := List.mem_map.1 hy
      obtain ⟨_, lo', hi', g, _⟩ := hall c hc
      exact NodeOn.less h g)
/-- A tree that a put leaves. -/
def PutTo (F : Nat → Prop) (n : Nat) (w : World) (t : Tr) (key : List UInt8) (v : Tv) (e : Ending) (w' : World) : Prop :=
  ∃ m cs, m ≤ n + 1 ∧ e = .returned (.agg cs.toArray) ∧ NodeOn (Fr F w) m w' cs (putW n t key v) ∧ Whole m (putW n t key v) ∧ entsT m (putW n t key v) = putL key v (entsT n t) ∧ Below w.heap.size w w'
theorem tPut_whole {n : Nat} {F : Nat → Prop} {w : World} {cs : List Value} {t : Tr} (h : NodeOn F n w cs t) (hw : Whole n t) (key d : List UInt8) (hk : keyOk key) (hd : d.length ≤ 400) :
    Calls Try.prog 33 #[.agg cs.toArray, .string (strOf key), .string (strOf d)] w (PutTo F n w t key ⟨d, []⟩) := by
  have hv : valOk ⟨d, []⟩ := ⟨hd, fun h => absurd rfl h⟩
  obtain ⟨h1, h2⟩ := hw.put hk hv
  refine (tPut_any key d h h1 h2).mono ?_
  rintro e w' ⟨cs', rfl, h3, h4⟩
  obtain ⟨m, e1, e2, e3⟩ := whole_put hw hk hv
  exact ⟨m, cs', e1, rfl, h3.less e2.1.1, e2, e3, h4⟩
end Go.Proofs.Ytemfnjlfcemehaa

/- The document's Put, and the empty tree. -/
namespace Go.Proofs.Ytemfnjlfcemehaa
open Go.RowKit

theorem RNodeOn.less {F : Nat → Prop} : ∀ {m n : Nat} {lo hi : List UInt8} {w : World} {cs : List Value} {t : Tr}, RNodeOn F n w cs t → Shape m lo hi t → RNodeOn F m w cs t
  | 0, _, _, _, _, _, _, _, h => h.elim
  | _, 0, _, _, _, _, _, h, _ => h.elim
  | m + 1, n + 1, lo, hi, w, cs, .leaf p l, h, _ => by
    obtain ⟨a, c, e, h1, f1⟩ := h.at
    refine ⟨a, c, e, TabR.agree h1 (Fa.mono f1 (fun _ h => h)) (AgreeF.refl w) (fun cs y hy h => ?_), f1⟩
    obtain ⟨pa, pn, pc, ka, kn, kc, e, k1, f1, k2, f2⟩ := h
    obtain ⟨x, _, rfl⟩ := List.mem_map.1 hy
    exact ⟨pa, pn, pc, ka, kn, kc, e, k1, f1, TabR.agree k2 (Fa.mono f2 (fun _ h => h)) (AgreeF.refl w) (fun cs y hy h => by cases hy), f2⟩
  | m + 1, n + 1, lo, hi, w, cs, .node p l, h, hs => by
    obtain ⟨a, c, e, h1, f1⟩ := h.at
    have hall := node_kids hs
    refine ⟨a, c, e, TabR.agree h1 (Fa.mono f1 (fun _ h => h)) (AgreeF.refl w) (fun cs y hy h => ?_), f1⟩
    obtain ⟨pa, pn, pc, ka, kn, kc, e, k1, f1, k2, f2⟩ := h
    obtain ⟨x, hx, rfl⟩ := List.mem_map.1 hy
    obtain ⟨_, lo', hi', g, _⟩ := hall x hx
    exact ⟨pa, pn, pc, ka, kn, kc, e, k1, f1, TabR.agree k2 (Fa.mono f2 (fun _ h => h)) (AgreeF.refl w) (fun cs y hy h => by
      have : y = x.2 := by simpa using hy
      subst this
      exact RNodeOn.less h g), f2⟩
theorem rput_any : ∀ {N : Nat} {F : Nat → Prop} {w : World} {cs : List Value} {t : Tr} (key d : List UInt8), (∀ b, F b → b < w.heap.size) → RNodeOn F N w cs t → PutOk N t key ⟨d, []⟩ →
    Calls Try.prog 60 #[.agg cs.toArray, .string (strOf key), .string (strOf d)] w (RNodeTo F N w (putT N t key ⟨d, []⟩))
  | 0, _, _, _, _, _, _, _, h, _ => h.elim
  | _ + 1, _, _, _, .leaf _p _l, _key, _d, hF, h, ho => rput_leaf hF h ho.1
  | _N + 1, _, _, _, .node _p _l, key, d, hF, h, ho => rput_node (fun h1 h2 h3 => rput_any key d h1 h2 h3) hF h ho
set_option maxRecDepth 100000 in
set_option maxHeartbeats 1000000 in
theorem rPut_any {N : Nat} {F : Nat → Prop} {w : World} {cs : List Value} {t : Tr} (key d : List UInt8) (hF : ∀ b, F b → b < w.heap.size) (h : RNodeOn F N w cs t) (ho : PutOk N t key ⟨d, []⟩) (ht : TopOk N (putT N t key ⟨d, []⟩)) :
    Calls Try.prog 35 #[.agg cs.toArray, .string (strOf key), .string (strOf d)] w (RNodeTo F (N + 1) w (putW N t key ⟨d, []⟩)) := by
  cases N with
  | zero => exact h.elim
  | succ N =>
  obtain ⟨a, c, rfl, _, _⟩ := h.at
  obtain ⟨lf, hlf⟩ : ∃ x, t.isLeaf = x := ⟨_, rfl⟩
  obtain ⟨p, hp⟩ : ∃ x, t.page = x := ⟨_, rfl⟩
  obtain ⟨m, hm⟩ : ∃ x, cntT t = x := ⟨_, rfl⟩
  rw [hlf, hp, hm] at h ⊢
  obtain ⟨W2, hW2⟩ : ∃ x, (w.alloc (.cells #[.int .i64 p, .bool lf, .slice a m c] 26)).alloc (.cells #[.int .i64 0, .bool false, .slice none 0 0] 26) = x := ⟨_, rfl⟩
  have hb2 : Below w.heap.size w W2 := by rw [← hW2]; exact Below.al (Below.al (Below.refl _ _))
  have hx2 : Boxes W2 [(w.heap.size + 1, [.int .i64 0, .bool false, .slice none 0 0]), (w.heap.size, [.int .i64 p, .bool lf, .slice a m c])] := by
    rw [← hW2]
    exact ((Boxes.nil w).alloc #[.int .i64 p, .bool lf, .slice a m c] 26 (b := w.heap.size) rfl).alloc #[.int .i64 0, .bool false, .slice none 0 0] 26 (b := w.heap.size + 1) (by simp)
  have hsz2 : W2.heap.size = w.heap.size + 2 := by rw [← hW2]; simp
  have C1 := rput_any key d (fun b hb => by have := hF b hb; omega) (h.below hb2) ho
  obtain ⟨T, hT⟩ : ∃ x, putT (N + 1) t key ⟨d, []⟩ = x := ⟨_, rfl⟩
  have HT : Hid (putW (N + 1) t key ⟨d, []⟩ = topT (N + 1) T) := Lib.hid (by rw [← hT]; rfl)
  rw [hT] at C1 ht
  have n0 := hx2.cell 1 0 rfl rfl
  have n1 := hx2.cell 1 1 rfl rfl
  have n2 := hx2.cell 1 2 rfl rfl
  have HX := Lib.hid hx2
  have HB := Lib.hid hb2
  have HTO := Lib.hid ht
  clear h ho ht hx2 hb2 hlf hp hm hT
  show Calls _ _ #[.agg #[.int .i64 p, .bool lf, .slice a m c], .string (strOf key), .string (strOf d)] _ _
  go_enter Try.func35, Try.ntmps35
  go_wp2_with fail
  refine C1.mono ?_
  rintro e w1 hq
  obtain ⟨p1, l1, a1, m1, d1, rfl, hn1, hb1⟩ := hq.split
  have C2 := rtop_any (F := fun x => Fr F W2 x ∧ x < w1.heap.size) (fun _ h => h.2) hn1.lt HTO.out
  have hx1 := HX.out.step hb1
  have hbw1 := below_via HB.out hb1
  have hs1 : w.heap.size + 2 ≤ w1.heap.size := by have := hb1.size; omega
  have HX1 := Lib.hid hx1
  have HB1 := Lib.hid hbw1
  clear C1 hn1 hb1 hx1 hbw1 n0 n1 n2 hW2 hq
  go_wp2_with fail
  refine C2.mono ?_
  rintro e w2 hq
  obtain ⟨p2, l2, a2, m2, d2, rfl, hn2, hb2⟩ := hq.split
  have hx2 := HX1.out.step hb2
  have z0 := hx2.cell 0 0 rfl rfl
  have z1 := hx2.cell 0 1 rfl rfl
  have z2 := hx2.cell 0 2 rfl rfl
  have y0 := hx2.frozen 0 0 rfl
  have y1 := hx2.frozen 0 1 rfl
  have y2 := hx2.frozen 0 2 rfl
  obtain ⟨t0, t1, t2, HE⟩ := rend (F := F) (w := w) (hx2.sub (m := [(w.heap.size + 1, [.int .i64 0, .bool false, .slice none 0 0])]) (by simp)) (by omega) (fun hg => by
    rcases hg with hg | hg
    · rcases hg.1 with hg | hg
      · have := hF _ hg; omega
      · omega
    · omega) (fun b hb => by
    rcases hb with hb | hb
    · rcases hb.1 with hb | hb
      · exact .inl hb
      · exact .inr (by omega)
    · exact .inr (by omega)) hn2 (below_via HB1.out hb2)
  clear hx2 hn2 hb2 hq C2
  go_wp2_with fail
  refine bodyPost_ret (v := .agg #[.int .i64 p2, .bool l2, .slice a2 m2 d2]) (by simp only [results, Try.results35]; simp [go_sem, t0, t1, t2]) rfl ?_
  rw [HT.out]
  exact HE.out
theorem rPut_whole {n : Nat} {F : Nat → Prop} {w : World} {cs : List Value} {t : Tr} (hF : ∀ b, F b → b < w.heap.size) (h : RNodeOn F n w cs t) (hw : Whole n t) (key d : List UInt8) (hk : keyOk key) (hd : d.length ≤ 400) :
    Calls Try.prog 35 #[.agg cs.toArray, .string (strOf key), .string (strOf d)] w (RNodeTo F (n + 1) w (putW n t key ⟨d, []⟩)) := by
  have hv : valOk ⟨d, []⟩ := ⟨hd, fun h => absurd rfl h⟩
  obtain ⟨h1, h2⟩ := hw.put hk hv
  exact rPut_any key d hF h h1 h2
theorem rempty_any (w : World) (F : Nat → Prop) : Calls Try.prog 32 #[] w (RNodeTo F 1 w (.leaf 0 [])) := by
  go_enter Try.func32, Try.ntmps32
  go_wp2_with fail
  refine bodyPost_ret (v := .agg #[.int .i64 0, .bool true, .slice none 0 0]) (by simp [results, Try.results32, go_sem]) rfl ⟨[.int .i64 0, .bool true, .slice none 0 0], rfl, ?_, ?_⟩
  · exact RNodeOn.mk (t := .leaf 0 []) (TabR.nil _) (Fa.zero _ _)
  · exact Below.al (Below.refl _ _)
end Go.Proofs.Ytemfnjlfcemehaa

/- The document's Find (printed by gen_treRg.py). -/
namespace Go.Proofs.Ytemfnjlfcemehaa
open Go.RowKit

theorem find_first {key : List UInt8} : ∀ {l : List (List UInt8 × Tv)} {i : Nat} {c : List UInt8 × Tv}, (∀ j, j < i → (keysOf l)[j]? ≠ some key) → l[i]? = some c → c.1 = key → (l.find? fun c => c.1 == key) = some c
  | [], i, c, _, h, _ => by simp at h
  | x :: r, 0, c, _, h, e => by
    simp at h
    subst h
    rw [List.find?_cons_of_pos (by simpa using e)]
  | x :: r, i + 1, c, h1, h, e => by
    have hx : x.1 ≠ key := fun e => h1 0 (by omega) (by simp [keysOf, e])
    rw [List.find?_cons_of_neg (by simpa using hx)]
    exact find_first (i := i) (fun j hj => by have := h1 (j + 1) (by omega); simpa [keysOf] using this) (by simpa using h) e
theorem find_never {key : List UInt8} {l : List (List UInt8 × Tv)} (h : ∀ j, j < l.length → (keysOf l)[j]? ≠ some key) : (l.find? fun c => c.1 == key) = none := by
  rw [List.find?_eq_none]
  intro c hc e
  obtain ⟨j, hj, rfl⟩ := List.getElem_of_mem hc
  exact h j hj (by simp [keysOf, hj]; simpa using e)
theorem rfind_leaf {n : Nat} {F : Nat → Prop} {w : World} {cs : List Value} {p : Int} {l : List (List UInt8 × Tv)} (h : RNodeOn F (n + 1) w cs (.leaf p l)) (key : List UInt8) (hl : l.length ≤ 1000) :
    Calls Try.prog 38 #[.agg cs.toArray, .string (strOf key)] w (FoundPost w ((l.find? fun c => c.1 == key).map (·.2.data))) := by
  obtain ⟨a, c, rfl, h1, _⟩ := h.at
  obtain ⟨e1, e2, e3⟩ := h1.lens
  obtain ⟨m, hml⟩ : ∃ m, cntT (.leaf p l) = m := ⟨_, rfl⟩
  have hlm : l.length = m := hml
  rw [hml] at h1 e1 e2 ⊢
  obtain ⟨R, hR⟩ : ∃ R, (l.find? fun c => c.1 == key).map (·.2.data) = R := ⟨_, rfl⟩
  have hfirst : ∀ (i : Nat) (c : List UInt8 × Tv), (∀ j, j < i → (keysOf l)[j]? ≠ some key) → l[i]? = some c → c.1 = key → R = some c.2.data := fun i c h1 h2 h3 => by rw [← hR, find_first h1 h2 h3]; rfl
  have hnever : (∀ j, j < m → (keysOf l)[j]? ≠ some key) → R = none := fun h => by rw [← hR, find_never (by rw [hlm]; exact h)]; rfl
  rw [hR]
  show Calls _ _ #[.agg #[.int .i64 p, .bool true, .slice a m c], .string (strOf key)] _ _
  obtain ⟨W2, hW2⟩ : ∃ x, w.alloc (.cells #[.int .i64 p, .bool true, .slice a m c] 26) = x := ⟨_, rfl⟩
  have hb2 : Below w.heap.size w W2 := by rw [← hW2]; exact Below.al (Below.refl _ _)
  have hx2 : Boxes W2 [(w.heap.size, [.int .i64 p, .bool true, .slice a m c])] := by
    rw [← hW2]
    exact (Boxes.nil w).alloc #[.int .i64 p, .bool true, .slice a m c] 26 (b := w.heap.size) rfl
  have n1 := hx2.cell 0 1 rfl rfl
  have n2 := hx2.cell 0 2 rfl rfl
  have HB2 := Lib.hid hb2
  have HR := Lib.hid h1
  have HF := Lib.hid hfirst
  have HN := Lib.hid hnever
  have hm9 : m ≤ 1000 := by omega
  clear h h1 hx2 hb2 hml hlm e1 hfirst hnever hR hl
  go_enter Try.func38, Try.ntmps38
  go_wp2_with fail
  clear hW2
  go_loop [6] (fun s => ∃ i : Nat, i ≤ m ∧ s = .int .i64 i ∧ Hid (∀ j, j < i → (keysOf l)[j]? ≠ some key)) (fun s => m - (intOf s).toNat)
  case atStart => exact ⟨0, Nat.zero_le _, rfl, Lib.hid (fun j hj => by omega)⟩
  case round =>
    obtain ⟨i, hi, rfl, hpre⟩ := hrel
    by_cases him : i < m
    · obtain ⟨b, off, y, _, _, _, _, _, _, rfl, hbb, hy, _, _, _, _, _, e0, e1, _⟩ := RNodeOn.cell HR.out him
      rw [cellsR_leaf] at hy
      obtain ⟨x, hx1, hx2⟩ := Option.map_eq_some_iff.1 hy
      subst hx2
      have v0 := (HB2.out.cell (p := ⟨b, off + i * 4, none⟩) hbb).trans e0
      have v1 := (HB2.out.cell (p := ⟨b, off + i * 4 + 1, none⟩) hbb).trans e1
      have him' : (i : Int) < (m : Int) := by omega
      by_cases hk : x.1 = key
      · have HE : Hid (FoundPost w R (.returned (.tuple #[.string (strOf x.2.data), .bool true])) W2) := Lib.hid (by
          rw [HF.out i x hpre.out hx1 hk]
          exact ⟨rfl, HB2.out⟩)
        obtain ⟨c1, c2⟩ := cmp_eq key
        rw [hk] at v0
        clear hx1 hk e0 e1 hy
        go_wp2_with fail
        go_ret2
        exact HE.out
      · have hne : ((strOf x.1).toList == (strOf key).toList) = false := by
          rw [strOf_toList, strOf_toList]; simpa using hk
        have hpre' : Hid (∀ j, j < i + 1 → (keysOf l)[j]? ≠ some key) := Lib.hid (fun j hj => by
          by_cases h : j < i
          · exact hpre.out j h
          · obtain rfl : j = i := by omega
            simp [keysOf, hx1, hk])
        clear hx1 hk e0 e1 hy
        go_wp2_with fail
        go_round
        case rel => exact ⟨i + 1, by omega, by go_num, hpre'⟩
        case measure => simp [intOf]; omega
    · have HE : Hid (FoundPost w R (.returned (.tuple #[.string (strOf []), .bool false])) W2) := Lib.hid (by
        rw [HN.out (fun j hj => hpre.out j (by omega))]
        exact ⟨rfl, HB2.out⟩)
      have him' : decide ((i : Int) < (m : Int)) = false := by simp; omega
      go_wp2_with fail
      go_ret2
      exact HE.out
set_option maxRecDepth 100000 in
set_option maxHeartbeats 2000000 in
theorem rfind_node {N : Nat} {key : List UInt8} (IH : ∀ {F : Nat → Prop} {w : World} {cs : List Value} {t : Tr}, RNodeOn F N w cs t → FindOk N t key → Calls Try.prog 38 #[.agg cs.toArray, .string (strOf key)] w (FoundPost w (findT N t key)))
    {F : Nat → Prop} {w : World} {cs : List Value} {p : Int} {l : List (List UInt8 × Tr)} (h : RNodeOn F (N + 1) w cs (.node p l)) (ho : FindOk (N + 1) (.node p l) key) :
    Calls Try.prog 38 #[.agg cs.toArray, .string (strOf key)] w (FoundPost w (findT (N + 1) (.node p l) key)) := by
  obtain ⟨o1, o2, o3⟩ := ho
  obtain ⟨a, c, rfl, h1, _⟩ := h.at
  obtain ⟨e1, e2, e3⟩ := h1.lens
  obtain ⟨m, hml⟩ : ∃ m, cntT (.node p l) = m := ⟨_, rfl⟩
  have hlm : l.length = m := hml
  have H := Lib.hid h
  rw [hml] at h1 e1 e2 H ⊢
  obtain ⟨k, hk⟩ : ∃ k, wayF (keysOf l) key = k := ⟨_, rfl⟩
  have hkm : k < m := by rw [← hk, ← hlm, ← show (keysOf l).length = l.length by simp [keysOf]]; exact wayF_lt key (by simpa [keysOf] using o1)
  have hm9 : m ≤ 1000 := by omega
  obtain ⟨b, off, bk, ok, kcs, pa, pn, pc, kc, rfl, hbb, hbk, hon, d0, d1, d2, d3, hck, hkc1, hkc2⟩ := RNodeOn.kid h1 hkm
  rw [hk] at o3
  obtain ⟨R, hR⟩ : ∃ R, findT (N + 1) (.node p l) key = R := ⟨_, rfl⟩
  have hRk : findT N (kidAt l k) key = R := by rw [← hR, ← hk]; rfl
  obtain ⟨kid, hkd⟩ : ∃ x, kidAt l k = x := ⟨_, rfl⟩
  rw [hkd] at hon o3 hRk
  rw [hR]
  cases N with
  | zero => exact hon.elim
  | succ N =>
  obtain ⟨ak, ck, rfl, _, _⟩ := hon.at
  obtain ⟨km, hkm'⟩ : ∃ x, cntT kid = x := ⟨_, rfl⟩
  obtain ⟨kp, hkp⟩ : ∃ x, kid.page = x := ⟨_, rfl⟩
  obtain ⟨kl, hkl⟩ : ∃ x, kid.isLeaf = x := ⟨_, rfl⟩
  rw [hkm', hkp, hkl] at hon hck
  show Calls _ _ #[.agg #[.int .i64 p, .bool false, .slice (some ⟨b, off, none⟩) m c], .string (strOf key)] _ _
  obtain ⟨W2, hW2⟩ : ∃ x, w.alloc (.cells #[.int .i64 p, .bool false, .slice (some ⟨b, off, none⟩) m c] 26) = x := ⟨_, rfl⟩
  have hb2 : Below w.heap.size w W2 := by rw [← hW2]; exact Below.al (Below.refl _ _)
  have hx2 : Boxes W2 [(w.heap.size, [.int .i64 p, .bool false, .slice (some ⟨b, off, none⟩) m c])] := by
    rw [← hW2]
    exact (Boxes.nil w).alloc #[.int .i64 p, .bool false, .slice (some ⟨b, off, none⟩) m c] 26 (b := w.heap.size) rfl
  have CW : ∀ W, Below W2.heap.size W2 W → Calls Try.prog 47 #[.agg #[.int .i64 p, .bool false, .slice (some ⟨b, off, none⟩) m c], .string (strOf key)] W fun e w' => e = .returned (.int .i64 (k : Int)) ∧ Below W.heap.size W w' := fun W hW => by
    have := rway_any (H.out.below (below_via hb2 hW)).toRIn key (by rw [hml]; exact hm9)
    rw [show (Tr.node p l).keys = keysOf l from rfl, hk] at this
    exact this
  have CF : ∀ W, Below W2.heap.size W2 W → Calls Try.prog 38 #[.agg #[.int .i64 kp, .bool kl, .slice ak km ck], .string (strOf key)] W (FoundPost W R) := fun W hW => by
    have := IH (hon.below (below_via hb2 hW)) o3
    rw [hRk] at this
    exact this
  have hlw := hx2.lt 0 rfl
  have n1 := hx2.cell 0 1 rfl rfl
  have n2 := hx2.cell 0 2 rfl rfl
  have N0 : ∀ W, Below W2.heap.size W2 W → W.cell? ⟨w.heap.size, 0, none⟩ = some (.int .i64 p) := fun W hW => (hW.cell (p := ⟨w.heap.size, 0, none⟩) hlw).trans (hx2.cell 0 0 rfl rfl)
  have N1 : ∀ W, Below W2.heap.size W2 W → W.cell? ⟨w.heap.size, 1, none⟩ = some (.bool false) := fun W hW => (hW.cell (p := ⟨w.heap.size, 1, none⟩) hlw).trans (hx2.cell 0 1 rfl rfl)
  have N2 : ∀ W, Below W2.heap.size W2 W → W.cell? ⟨w.heap.size, 2, none⟩ = some (.slice (some ⟨b, off, none⟩) m c) := fun W hW => (hW.cell (p := ⟨w.heap.size, 2, none⟩) hlw).trans (hx2.cell 0 2 rfl rfl)
  have V3 : ∀ W, Below W2.heap.size W2 W → W.cell? ⟨b, off + k * 4 + 3, none⟩ = some (.slice (some ⟨bk, ok, none⟩) 1 kc) := fun W hW => ((below_via hb2 hW).cell (p := ⟨b, off + k * 4 + 3, none⟩) hbb).trans d3
  have K0 : ∀ W, Below W2.heap.size W2 W → W.cell? ⟨bk, ok, none⟩ = some (.int .i64 kp) := fun W hW => ((below_via hb2 hW).cell (p := ⟨bk, ok, none⟩) hbk).trans (by simpa using hck 0 _ rfl)
  have K1 : ∀ W, Below W2.heap.size W2 W → W.cell? ⟨bk, ok + 1, none⟩ = some (.bool kl) := fun W hW => ((below_via hb2 hW).cell (p := ⟨bk, ok + 1, none⟩) hbk).trans (by simpa using hck 1 _ rfl)
  have K2 : ∀ W, Below W2.heap.size W2 W → W.cell? ⟨bk, ok + 2, none⟩ = some (.slice ak km ck) := fun W hW => ((below_via hb2 hW).cell (p := ⟨bk, ok + 2, none⟩) hbk).trans (by simpa using hck 2 _ rfl)
  have HB2 := Lib.hid hb2
  have hm0 : (0 : Int) < (m : Int) := by omega
  have hkm'' : (k : Int) < (m : Int) := by omega
  have hA00 : Below W2.heap.size W2 W2.drew := Below.dr (Below.refl _ _)
  clear h h1 hon d0 d1 d2 d3 hck hx2 hb2 IH e1 hml hlm hR hRk hkd hkp hkl hkm' o1 o2 o3 hk
  go_enter Try.func38, Try.ntmps38
  go_upto_region 2 with (fail)
  clear hW2
  refine wp_region_noPanic ?_
  refine wp_region_held_drew (S := (fun W => Below W2.heap.size W2 W)) (by kernel_rfl) (by (repeat (with_reducible first | assumption | exact Below.refl _ _ | apply Below.al | apply Below.dr))) (fun hHeld => ?_)
  refine wpAnyH_take (i := 0) (oi := { dst := some 16, op := Op.fieldAddr 26 (Operand.tmp 2) 2, type := 0, pos := "ref.go:58", after := #[], guard := none }) (v := ?_) rfl (by kernel_rfl) (by kernel_rfl) (by kernel_rfl) (fun _ _ _ h => h) (Or.inl ⟨by rfl, ?_⟩) (by assumption) ?_
  rotate_left
  · (intro W hW; (try dsimp only at hW); go_simp <;> (with_reducible rfl))
  try simp only [Act.put, List.setIfInBounds_toArray, List.set_cons_zero, List.set_cons_succ]
  refine wpAnyH_take (i := 1) (oi := { dst := some 17, op := Op.load 24 (Operand.tmp 16), type := 24, pos := "ref.go:58", after := #[{ on := 0, ground := Ground.data }], guard := none }) (v := ?_) rfl (by kernel_rfl) (by kernel_rfl) (by kernel_rfl) (fun _ _ _ h => h) (Or.inl ⟨by rfl, ?_⟩) (by assumption) ?_
  rotate_left
  · (intro W hW; (try dsimp only at hW); go_simp <;> (with_reducible rfl))
  try simp only [Act.put, List.setIfInBounds_toArray, List.set_cons_zero, List.set_cons_succ]
  refine wpAnyH_take (i := 2) (oi := { dst := some 18, op := Op.load 26 (Operand.tmp 2), type := 26, pos := "ref.go:58", after := #[], guard := none }) (v := ?_) rfl (by kernel_rfl) (by kernel_rfl) (by kernel_rfl) (fun _ _ _ h => h) (Or.inl ⟨by rfl, ?_⟩) (by assumption) ?_
  rotate_left
  · (intro W hW; (try dsimp only at hW); go_simp <;> (with_reducible rfl))
  try simp only [Act.put, List.setIfInBounds_toArray, List.set_cons_zero, List.set_cons_succ]
  refine wpAnyH_take (i := 3) (oi := { dst := some 19, op := Op.move (Operand.tmp 1), type := 9, pos := "ref.go:58", after := #[], guard := none }) (v := ?_) rfl (by kernel_rfl) (by kernel_rfl) (by kernel_rfl) (fun _ _ _ h => h) (Or.inl ⟨by rfl, ?_⟩) (by assumption) ?_
  rotate_left
  · (intro W hW; (try dsimp only at hW); go_simp <;> (with_reducible rfl))
  try simp only [Act.put, List.setIfInBounds_toArray, List.set_cons_zero, List.set_cons_succ]
  refine wpAnyH_take (i := 10) (oi := { dst := some 26, op := Op.move (Operand.tmp 1), type := 9, pos := "ref.go:58", after := #[], guard := none }) (v := ?_) rfl (by kernel_rfl) (by kernel_rfl) (by kernel_rfl) (fun _ _ _ h => h) (Or.inl ⟨by rfl, ?_⟩) (by assumption) ?_
  rotate_left
  · (intro W hW; (try dsimp only at hW); go_simp <;> (with_reducible rfl))
  try simp only [Act.put, List.setIfInBounds_toArray, List.set_cons_zero, List.set_cons_succ]
  refine wpAnyH_ready (rs := [4]) (by kernel_rfl) (by simp) (AllReadyH.cons (o := { dst := some 20, op := Op.call { callee := Callee.value (Operand.func 47), args := #[Operand.tmp 18, Operand.tmp 19], argTypes := #[26, 9] }, type := 3, pos := "ref.go:58", after := #[{ on := 2, ground := Ground.data }, { on := 3, ground := Ground.data }], guard := none }) rfl (fun K hK => ?_) AllReadyH.nil)
  (rw [if_pos (by rfl)]; go_simp; (with_reducible refine (CW _ ?_).mono ?_); (focus (repeat (with_reducible first | assumption | exact Below.refl _ _ | apply Below.al | apply Below.dr))); rintro e w3 ⟨rfl, hb3⟩; have hb23 : Below W2.heap.size W2 w3 := below_via (a := W2) (by (repeat (with_reducible first | assumption | exact Below.refl _ _ | apply Below.al | apply Below.dr))) hb3; go_wp2_with (fail))
  refine hK.out _ _ (by (repeat (with_reducible first | assumption | exact Below.refl _ _ | apply Below.al | apply Below.dr))) (fun hHeld => ?_)
  clear hK K
  try simp only [Act.put, List.setIfInBounds_toArray, List.set_cons_zero, List.set_cons_succ]
  refine wpAnyH_take (i := 5) (oi := { dst := some 21, op := Op.indexAddr 24 (Operand.tmp 17) (Operand.tmp 20), type := 0, pos := "ref.go:58", after := #[{ on := 1, ground := Ground.data }, { on := 4, ground := Ground.data }], guard := none }) (v := ?_) rfl (by kernel_rfl) (by kernel_rfl) (by kernel_rfl) (fun _ _ _ h => h) (Or.inl ⟨by rfl, ?_⟩) (by assumption) ?_
  rotate_left
  · (intro W hW; (try dsimp only at hW); go_simp <;> (with_reducible rfl))
  try simp only [Act.put, List.setIfInBounds_toArray, List.set_cons_zero, List.set_cons_succ]
  refine wpAnyH_take (i := 6) (oi := { dst := some 22, op := Op.fieldAddr 48 (Operand.tmp 21) 2, type := 0, pos := "ref.go:58", after := #[{ on := 5, ground := Ground.data }], guard := none }) (v := ?_) rfl (by kernel_rfl) (by kernel_rfl) (by kernel_rfl) (fun _ _ _ h => h) (Or.inl ⟨by rfl, ?_⟩) (by assumption) ?_
  rotate_left
  · (intro W hW; (try dsimp only at hW); go_simp <;> (with_reducible rfl))
  try simp only [Act.put, List.setIfInBounds_toArray, List.set_cons_zero, List.set_cons_succ]
  refine wpAnyH_take (i := 7) (oi := { dst := some 23, op := Op.load 46 (Operand.tmp 22), type := 46, pos := "ref.go:58", after := #[{ on := 6, ground := Ground.data }], guard := none }) (v := ?_) rfl (by kernel_rfl) (by kernel_rfl) (by kernel_rfl) (fun _ _ _ h => h) (Or.inl ⟨by rfl, ?_⟩) (by assumption) ?_
  rotate_left
  · (intro W hW; (try dsimp only at hW); go_simp <;> (with_reducible rfl))
  try simp only [Act.put, List.setIfInBounds_toArray, List.set_cons_zero, List.set_cons_succ]
  refine wpAnyH_take (i := 8) (oi := { dst := some 24, op := Op.indexAddr 46 (Operand.tmp 23) (Operand.const (Value.int IntKind.i64 0)), type := 0, pos := "ref.go:58", after := #[{ on := 7, ground := Ground.data }], guard := none }) (v := ?_) rfl (by kernel_rfl) (by kernel_rfl) (by kernel_rfl) (fun _ _ _ h => h) (Or.inl ⟨by rfl, ?_⟩) (by assumption) ?_
  rotate_left
  · (intro W hW; (try dsimp only at hW); go_simp <;> (with_reducible rfl))
  try simp only [Act.put, List.setIfInBounds_toArray, List.set_cons_zero, List.set_cons_succ]
  refine wpAnyH_take (i := 9) (oi := { dst := some 25, op := Op.load 26 (Operand.tmp 24), type := 26, pos := "ref.go:58", after := #[{ on := 8, ground := Ground.data }], guard := none }) (v := ?_) rfl (by kernel_rfl) (by kernel_rfl) (by kernel_rfl) (fun _ _ _ h => h) (Or.inl ⟨by rfl, ?_⟩) (by assumption) ?_
  rotate_left
  · (intro W hW; (try dsimp only at hW); go_simp <;> (with_reducible rfl))
  try simp only [Act.put, List.setIfInBounds_toArray, List.set_cons_zero, List.set_cons_succ]
  refine wpAnyH_ready (rs := [11]) (by kernel_rfl) (by simp) (AllReadyH.cons (o := { dst := some 27, op := Op.call { callee := Callee.value (Operand.func 38), args := #[Operand.tmp 25, Operand.tmp 26], argTypes := #[26, 9] }, type := 38, pos := "ref.go:58", after := #[{ on := 9, ground := Ground.data }, { on := 10, ground := Ground.data }, { on := 4, ground := Ground.chain }], guard := none }) rfl (fun K hK => ?_) AllReadyH.nil)
  (rw [if_pos (by rfl)]; go_simp; (with_reducible refine (CF _ ?_).mono ?_); (focus (repeat (with_reducible first | assumption | exact Below.refl _ _ | apply Below.al | apply Below.dr))); rintro e w4 ⟨rfl, hb4⟩; have hb24 : Below W2.heap.size W2 w4 := below_via (a := W2) (by (repeat (with_reducible first | assumption | exact Below.refl _ _ | apply Below.al | apply Below.dr))) hb4; go_wp2_with (fail))
  refine hK.out _ _ (by (repeat (with_reducible first | assumption | exact Below.refl _ _ | apply Below.al | apply Below.dr))) (fun hHeld => ?_)
  clear hK K
  try simp only [Act.put, List.setIfInBounds_toArray, List.set_cons_zero, List.set_cons_succ]
  refine wpAnyH_take (i := 12) (oi := { dst := some 28, op := Op.extract (Operand.tmp 27) 0, type := 9, pos := "ref.go:58", after := #[{ on := 11, ground := Ground.data }], guard := none }) (v := ?_) rfl (by kernel_rfl) (by kernel_rfl) (by kernel_rfl) (fun _ _ _ h => h) (Or.inl ⟨by rfl, ?_⟩) (by assumption) ?_
  rotate_left
  · (intro W hW; (try dsimp only at hW); go_simp <;> (with_reducible rfl))
  try simp only [Act.put, List.setIfInBounds_toArray, List.set_cons_zero, List.set_cons_succ]
  refine wpAnyH_take (i := 13) (oi := { dst := some 29, op := Op.extract (Operand.tmp 27) 1, type := 4, pos := "ref.go:58", after := #[{ on := 11, ground := Ground.data }], guard := none }) (v := ?_) rfl (by kernel_rfl) (by kernel_rfl) (by kernel_rfl) (fun _ _ _ h => h) (Or.inl ⟨by rfl, ?_⟩) (by assumption) ?_
  rotate_left
  · (intro W hW; (try dsimp only at hW); go_simp <;> (with_reducible rfl))
  try simp only [Act.put, List.setIfInBounds_toArray, List.set_cons_zero, List.set_cons_succ]
  refine wpAnyH_ready (rs := [14]) (by kernel_rfl) (by simp) (AllReadyH.cons (o := { dst := some 4, op := Op.assign (Operand.tmp 28), type := 9, pos := "ref.go:58", after := #[{ on := 12, ground := Ground.data }, { on := 11, ground := Ground.chain }, { on := 0, ground := Ground.phase }, { on := 1, ground := Ground.phase }, { on := 2, ground := Ground.phase }, { on := 3, ground := Ground.phase }, { on := 4, ground := Ground.phase }, { on := 5, ground := Ground.phase }, { on := 6, ground := Ground.phase }, { on := 7, ground := Ground.phase }, { on := 8, ground := Ground.phase }, { on := 9, ground := Ground.phase }, { on := 10, ground := Ground.phase }, { on := 11, ground := Ground.phase }, { on := 12, ground := Ground.phase }, { on := 13, ground := Ground.phase }], guard := none }) rfl (fun K hK => ?_) AllReadyH.nil)
  (rw [if_pos (by rfl)]; go_wp2_with (fail))
  refine hK.out _ _ (by (repeat (with_reducible first | assumption | exact Below.refl _ _ | apply Below.al | apply Below.dr))) (fun hHeld => ?_)
  clear hK K
  try simp only [Act.put, List.setIfInBounds_toArray, List.set_cons_zero, List.set_cons_succ]
  refine wpAnyH_ready (rs := [15]) (by kernel_rfl) (by simp) (AllReadyH.cons (o := { dst := some 5, op := Op.assign (Operand.tmp 29), type := 4, pos := "ref.go:58", after := #[{ on := 13, ground := Ground.data }, { on := 14, ground := Ground.chain }, { on := 0, ground := Ground.phase }, { on := 1, ground := Ground.phase }, { on := 2, ground := Ground.phase }, { on := 3, ground := Ground.phase }, { on := 4, ground := Ground.phase }, { on := 5, ground := Ground.phase }, { on := 6, ground := Ground.phase }, { on := 7, ground := Ground.phase }, { on := 8, ground := Ground.phase }, { on := 9, ground := Ground.phase }, { on := 10, ground := Ground.phase }, { on := 11, ground := Ground.phase }, { on := 12, ground := Ground.phase }, { on := 13, ground := Ground.phase }, { on := 14, ground := Ground.phase }], guard := none }) rfl (fun K hK => ?_) AllReadyH.nil)
  (rw [if_pos (by rfl)]; go_wp2_with (fail))
  refine hK.out _ _ (by (repeat (with_reducible first | assumption | exact Below.refl _ _ | apply Below.al | apply Below.dr))) (fun hHeld => ?_)
  clear hK K
  try simp only [Act.put, List.setIfInBounds_toArray, List.set_cons_zero, List.set_cons_succ]
  refine wpAnyH_done (by kernel_rfl) ?_ _
  refine NoPanic.normal ?_
  go_wp2_with fail
  go_ret2
  exact ⟨rfl, below_via HB2.out hb24⟩
theorem rfind_any : ∀ {N : Nat} {F : Nat → Prop} {w : World} {cs : List Value} {t : Tr} (key : List UInt8), RNodeOn F N w cs t → FindOk N t key → Calls Try.prog 38 #[.agg cs.toArray, .string (strOf key)] w (FoundPost w (findT N t key))
  | 0, _, _, _, _, _, h, _ => h.elim
  | _ + 1, _, _, _, .leaf _p _l, key, h, ho => rfind_leaf h key ho.1
  | _N + 1, _, _, _, .node _p _l, key, h, ho => rfind_node (fun h1 h2 => rfind_any key h1 h2) h ho
end Go.Proofs.Ytemfnjlfcemehaa
