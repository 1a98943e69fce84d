/- Texts that other texts of this claim lean on, one behind the other. -/
import Derived.Test.YtpghlmcoajaiiaaGreatDoorM10
import Derived.Test.YtpghlmcoajaiiaaGreatDoorM7
import Derived.Test.YtpghlmcoajaiiaaGreatDoorM8
import Derived.Test.YtpghlmcoajaiiaaGreatDoorM5
import Derived.Test.YtpghlmcoajaiiaaGreatDoorM3
import Derived.Test.YtpghlmcoajaiiaaGreatDoorM2
import Derived.Test.YtpghlmcoajaiiaaGreatDoorM1
import Derived.Deep.DeepAppendRoom
import Derived.Lib.SliceRun
import Derived.Deep.DeepCutAuto
import Derived.Deep.RegionHeld3
/- The document's put, in a leaf; Put (printed by gen_trePw.py). -/
namespace Go.Proofs.YtpghlmcoajaiiaaGreatDoor
open Go.RowKit

theorem putL_cells (key : List UInt8) (v : Tv) (p : Int) (l : List (List UInt8 × Tv)) :
    cellsR (.leaf 0 (putL key v l)) = (cellsR (.leaf p l)).take (posK key (keysOf l)) ++ [⟨key, v, none⟩] ++ (cellsR (.leaf p l)).drop (posK key (keysOf l) + (if hasK key (keysOf l) then 1 else 0)) := by
  rw [putL_pos]
  simp [cellsR, List.map_take, List.map_drop]
theorem RcOn.fresh (F : Nat → Prop) (n : Nat) (w : World) (key d : List UInt8) : RcOn F n w [.string (strOf key), .string (strOf d), .slice none 0 0, .slice none 0 0] ⟨key, ⟨d, []⟩, none⟩ :=
  ⟨none, 0, 0, none, 0, 0, rfl, ⟨rfl, Nat.le_refl _, by unfold maxLen; omega, fun _ => rfl, .inl rfl⟩, .inl rfl, TabR.nil _, .inl rfl⟩
set_option maxRecDepth 100000 in
set_option maxHeartbeats 3000000 in
theorem rput_leaf {n : Nat} {key d : List UInt8} {F : Nat → Prop} {w : World} {cs : List Value} {p : Int} {l : List (List UInt8 × Tv)} (hF : ∀ b, F b → b < w.heap.size) (h : RNodeOn F (n + 1) w cs (.leaf p l)) (hl9 : l.length ≤ 900) :
    Calls Tryz.prog 88 #[.agg cs.toArray, .string (strOf key), .string (strOf d)] w (RNodeTo F (n + 1) w (.leaf 0 (putL key ⟨d, []⟩ l))) := by
  have H := Lib.hid h
  obtain ⟨a, c, rfl, h1, hfa⟩ := h.at
  obtain ⟨e1, e2, e3⟩ := h1.lens
  obtain ⟨m, hml⟩ : ∃ m, cntT (.leaf p l) = m := ⟨_, rfl⟩
  have hlm : l.length = m := hml
  rw [hml] at h1 hfa e1 e2 ⊢
  have hm9 : m ≤ 900 := by rw [← hlm]; exact hl9
  have hcells := putL_cells key ⟨d, []⟩ p l
  have hPm : posK key (keysOf l) ≤ m := by have := posK_le key (keysOf l); rw [← hlm]; simpa [keysOf] using this
  have hlt : ∀ i, i < posK key (keysOf l) → (keysOf l)[i]?.getD [] < key := fun i hi => posK_lt hi
  have hat : posK key (keysOf l) < m → ¬ (keysOf l)[posK key (keysOf l)]?.getD [] < key := fun hi => posK_at (by rw [← hlm] at hi; simpa [keysOf] using hi)
  have hhas : hasK key (keysOf l) = ((keysOf l)[posK key (keysOf l)]? == some key) := rfl
  obtain ⟨P, hP⟩ : ∃ P, posK key (keysOf l) = P := ⟨_, rfl⟩
  rw [hP] at hcells hPm hlt hat hhas
  obtain ⟨hs, hhs⟩ : ∃ x, hasK key (keysOf l) = x := ⟨_, rfl⟩
  rw [hhs] at hcells hhas
  have hkey : ∀ (i : Nat) (y : Rc), (cellsR (.leaf p l))[i]? = some y → (keysOf l)[i]? = some y.key := fun i y hy => by
    rw [cellsR_leaf] at hy
    obtain ⟨x, hx1, hx2⟩ := Option.map_eq_some_iff.1 hy
    subst hx2
    simp [keysOf, hx1]
  obtain ⟨R, hR⟩ : ∃ x, putL key ⟨d, []⟩ l = x := ⟨_, rfl⟩
  rw [hR] at hcells ⊢
  show Calls _ _ #[.agg #[.int .i64 p, .bool true, .slice a m c], .string (strOf key), .string (strOf d)] _ _
  obtain ⟨W2, hW2⟩ : ∃ x, (w.alloc (.cells #[.int .i64 p, .bool true, .slice a m c] 27)).alloc (.cells #[.int .i64 0, .bool false, .slice none 0 0] 27) = x := ⟨_, rfl⟩
  have hb2 : Below w.heap.size w W2 := by rw [← hW2]; exact Below.al (Below.al (Below.refl _ _))
  have hx2 : Boxes W2 [(w.heap.size + 1, [.int .i64 0, .bool false, .slice none 0 0]), (w.heap.size, [.int .i64 p, .bool true, .slice a m c])] := by
    rw [← hW2]
    exact ((Boxes.nil w).alloc #[.int .i64 p, .bool true, .slice a m c] 27 (b := w.heap.size) rfl).alloc #[.int .i64 0, .bool false, .slice none 0 0] 27 (b := w.heap.size + 1) (by simp)
  have hsz2 : W2.heap.size = w.heap.size + 2 := by rw [← hW2]; simp
  have n1 := hx2.cell 1 1 rfl rfl
  have HX2 := Lib.hid hx2
  have HB2 := Lib.hid hb2
  have HR := Lib.hid h1
  have HC := Lib.hid hcells
  have HLT := Lib.hid hlt
  have HAT := Lib.hid hat
  have HHAS := Lib.hid hhas
  have HKEY := Lib.hid hkey
  have HLM := Lib.hid hlm
  have hcl : (cellsR (.leaf p l)).length = m := by rw [cellsR_len]; exact hml
  have HCL := Lib.hid hcl
  clear hx2 hb2 h1 h hfa hml e1 hcells hlt hat hhas hkey hlm hR hP hhs hl9 hcl
  go_enter Tryz.func88, Tryz.ntmps88
  go_upto_block 0 with (fail)
  obtain ⟨W3, hW3⟩ : ∃ x, x = W2.alloc (.cells #[.string (strOf key), .string (strOf d), .slice none 0 0, .slice none 0 0] 145) := ⟨_, rfl⟩
  rw [← hW3]
  have hb3 : Below w.heap.size w W3 := by rw [hW3]; exact Below.al HB2.out
  have hx3 : Boxes W3 [(w.heap.size + 2, [.string (strOf key), .string (strOf d), .slice none 0 0, .slice none 0 0]), (w.heap.size + 1, [.int .i64 0, .bool false, .slice none 0 0]), (w.heap.size, [.int .i64 p, .bool true, .slice a m c])] := by
    rw [hW3]
    exact HX2.out.alloc #[.string (strOf key), .string (strOf d), .slice none 0 0, .slice none 0 0] 145 (b := w.heap.size + 2) (by omega)
  have hs3 : W3.heap.size = w.heap.size + 3 := by rw [hW3]; simp; omega
  have n2 := hx3.cell 2 2 rfl rfl
  have HX3 := Lib.hid hx3
  have HB3 := Lib.hid hb3
  have HS3 := Lib.hid hs3
  have hF3 : ∀ b, F b → b < W3.heap.size := fun b hb => by have := hF b hb; omega
  have HF3 := Lib.hid hF3
  clear hx3 hb3 hW3 hW2 hs3 hF3 n1
  go_wp2_with fail
  go_loop [10] (fun s => ∃ i : Nat, i ≤ P ∧ s = .int .i64 i) (fun s => P - (intOf s).toNat)
  case atStart => exact ⟨0, Nat.zero_le _, rfl⟩
  case round =>
    obtain ⟨i, hi, rfl⟩ := hrel
    by_cases hiP : i < P
    · obtain ⟨b, off, y, _, _, _, _, _, _, rfl, hbb, hy, _, _, _, _, _, e0, _⟩ := RNodeOn.cell HR.out (show i < m by omega)
      have hk : y.key < key := by
        have := HLT.out i hiP
        rw [HKEY.out i y hy] at this
        exact this
      obtain ⟨c1, c2, c3, c4⟩ := cmp_lt hk
      have v0 := (HB3.out.cell (p := ⟨b, off + i * 4, none⟩) hbb).trans e0
      have him : (i : Int) < (m : Int) := by omega
      clear hk hy e0
      go_wp2_with fail
      go_round
      case rel => exact ⟨i + 1, by omega, by go_num⟩
      case measure => simp [intOf]; omega
    · obtain rfl : i = P := by omega
      by_cases hPm' : i < m
      · obtain ⟨b, off, y, _, _, _, _, _, _, rfl, hbb, hy, _, _, _, _, _, e0, _⟩ := RNodeOn.cell HR.out (show i < m by omega)
        have v0 := (HB3.out.cell (p := ⟨b, off + i * 4, none⟩) hbb).trans e0
        have him : (i : Int) < (m : Int) := by omega
        have hna : ¬ y.key < key := by
          have := HAT.out hPm'
          rw [HKEY.out i y hy] at this
          exact this
        have hha := HHAS.out
        rw [HKEY.out i y hy] at hha
        rcases ktri y.key key with hk | hk | hk
        · exact absurd hk hna
        · obtain rfl : hs = true := by rw [hha, hk]; simp
          obtain ⟨c1, c2⟩ := cmp_eq key
          rw [hk] at v0
          have hcr := HC.out
          rw [if_pos rfl] at hcr
          have hcnt : cntT (.leaf 0 R) = m := by
            have := congrArg List.length hcr
            rw [cellsR_len] at this
            simp only [List.length_append, List.length_take, List.length_drop, List.length_singleton, HCL.out] at this
            omega
          obtain ⟨W4, hW4⟩ : ∃ x, W3.alloc (.cells #[.string (strOf key), .string (strOf d), .slice none 0 0, .slice none 0 0] 145) = x := ⟨_, rfl⟩
          have hb34 : Below W3.heap.size W3 W4 := by rw [← hW4]; exact Below.al (Below.refl _ _)
          have hz : BoxAt W4 W3.heap.size #[.string (strOf key), .string (strOf d), .slice none 0 0, .slice none 0 0] := by rw [← hW4]; exact BoxAt.here
          have hb4 := below_via HB3.out hb34
          have CW3 := with_to (G := Fr F W3) (n := n) (wc := W4) (W := W4) (t := .leaf 0 R) rfl hcnt hcr (Below.refl _ _) (fun b hb => .inr (by have := hb34.size; omega)) (TabR.mono (TabR.below (Nat.le_refl _) hb4 HR.out) (fun _ _ hy => RcOn.mono (fun b hf => Fr.old b hf) (RcOn.below hy hb4))) (one_cell hz (RcOn.fresh _ _ _ key d)) hPm' (by omega) (by omega)
          have hx4 := HX3.out.step hb34
          have m0 := HX3.out.cell 0 0 rfl rfl
          have m1 := HX3.out.cell 0 1 rfl rfl
          have m2 := HX3.out.cell 0 2 rfl rfl
          have m3 := HX3.out.cell 0 3 rfl rfl
          have HX4 := Lib.hid hx4
          have HB4 := Lib.hid hb4
          clear hx4 hb4 hz hb34 hcr hcnt hna hha hk e0 hy
          subst hW4
          go_wp2_with fail
          refine CW3.mono ?_
          rintro e w5 ⟨a5, d5, rfl, n5', hb5⟩
          have n5 : RNodeOn (Fr F W3) (n + 1) w5 [.int .i64 0, .bool true, .slice a5 m d5] (.leaf 0 R) := n5'
          have hx5 := HX4.out.step hb5
          have z0 := hx5.cell 1 0 rfl rfl
          have z1 := hx5.cell 1 1 rfl rfl
          have z2 := hx5.cell 1 2 rfl rfl
          have y0 := hx5.frozen 1 0 rfl
          have y1 := hx5.frozen 1 1 rfl
          have y2 := hx5.frozen 1 2 rfl
          obtain ⟨t0, t1, t2, HE⟩ := rend (F := F) (w := w) (hx5.sub (m := [(w.heap.size + 1, [.int .i64 0, .bool false, .slice none 0 0])]) (by simp)) (by omega) (fun hg => by
            have := HS3.out
            rcases hg with hg | hg
            · have := hF _ hg; omega
            · omega) (fun b hb => by
            have := HS3.out
            rcases hb with hb | hb
            · exact .inl hb
            · exact .inr (by omega)) n5 (below_via HB4.out hb5)
          clear n5 hb5 CW3 hx5 n5'
          go_wp2_with fail
          refine bodyPost_ret (v := .agg #[.int .i64 0, .bool true, .slice a5 (m) d5]) (by simp only [results, Tryz.results88]; simp [go_sem, t0, t1, t2]) rfl HE.out
        · obtain rfl : hs = false := by rw [hha]; simp; intro e; rw [e] at hk; exact klt_irrefl _ hk
          obtain ⟨c1, c2, c3, c4⟩ := cmp_lt hk
          clear hna hha hk e0 hy
          have hi9 : i ≤ m := by omega
          have hcr := HC.out
          rw [if_neg (by simp), Nat.add_zero] at hcr
          have hs3 := HS3.out
          have hcl := HCL.out
          have hb3 := HB3.out
          have TR : TabR 4 (RcOn F n W3) W3 _ m c (cellsR (.leaf p l)) := TabR.mono (TabR.below (Nat.le_refl _) hb3 HR.out) (fun _ _ hy => RcOn.below hy hb3)
          have c0 : CellsF 145 F n W3.heap.size W3 (.slice none 0 0) [] := CellsF.nil _ _ _ _ _
          obtain ⟨v1, w1, hr1, c1', hg1⟩ := c0.row Tryz.underlying25 info_Cw (Nat.le_refl _) HF3.out (by simp) (TabR.tk TR hi9) (by omega)
          rw [List.nil_append] at c1'
          have hb1 : Below W3.heap.size W3 w1 := (Below.refl _ _).grown hg1 (Nat.le_refl _) (fun g hg => by cases hg)
          have hx1 := HX3.out.step hb1
          have hl1 : ((cellsR (.leaf p l)).take i).length = i := by rw [List.length_take, hcl, Nat.min_eq_left hi9]
          obtain ⟨v2, w2, hr2, c2', hg2⟩ := c1'.append Tryz.underlying25 info_Cw hb1.size HF3.out (by rw [hl1]; omega) (RcOn.fresh F n w1 key d)
          have hb2 : Below W3.heap.size W3 w2 := hb1.grown hg2 hb1.size (fun g hg => (c1'.ge hg).1)
          have hl2 : ((cellsR (.leaf p l)).take i ++ [(⟨key, ⟨d, []⟩, none⟩ : Rc)]).length = i + 1 := by rw [List.length_append, hl1]; rfl
          obtain ⟨ad, had, hsl⟩ := slice_from elem_Cw size_Cw (some ⟨b, off, none⟩) m c i hi9
          have TR2 : TabR 4 (RcOn F n w2) w2 ad (m - i) (c - i) ((cellsR (.leaf p l)).drop i) := by
            rw [had]
            exact TabR.mono (TabR.dp (TabR.below (Nat.le_refl _) hb2 TR) hi9) (fun _ _ hy => RcOn.below hy hb2)
          obtain ⟨v3, w3, hr3, c3', hg3⟩ := c2'.row Tryz.underlying25 info_Cw hb2.size HF3.out (by rw [hl2]; omega) TR2 (by omega)
          have hb3' : Below W3.heap.size W3 w3 := hb2.grown hg3 hb2.size (fun g hg => (c2'.ge hg).1)
          rw [← hcr] at c3'
          have hlen : cntT (.leaf 0 R) = m + 1 := by
            have := congrArg List.length hcr
            rw [cellsR_len, List.length_append, hl2, List.length_drop, hcl] at this
            omega
          have o3 := c3'.own HF3.out
          obtain ⟨a3, d3, ev3, _, _, _, _⟩ := o3.sl
          rw [cellsR_len, hlen] at ev3
          subst ev3
          have n3 : RNodeOn (Fr F W3) (n + 1) w3 [.int .i64 0, .bool true, .slice a3 (m + 1) d3] (.leaf 0 R) := o3.node (w := W3) (Nat.le_refl _)
          have hbe := below_via hb3 hb3'
          have hx3 := HX3.out.step hb3'
          have m0 := hx1.cell 0 0 rfl rfl
          have m1 := hx1.cell 0 1 rfl rfl
          have m2 := hx1.cell 0 2 rfl rfl
          have m3 := hx1.cell 0 3 rfl rfl
          have nn1 := hx1.cell 2 2 rfl rfl
          have nn2 := (HX3.out.step hb2).cell 2 2 rfl rfl
          have hic : i ≤ c := by omega
          clear c0 c1' c2' c3' o3 TR TR2 hg1 hg2 hg3 hb1 hb2 hb3' hb3 hx1 hl1 hl2 had hcr hcl hs3 hlen
          go_upto_region 12 with (fail)
          go_upto_region 13 with (at_builtin; refine wpList_append_run rfl _ _ _ _ rfl rfl rfl hr1 ?_)
          go_upto_region 14 with (at_builtin; refine wpList_append_run rfl _ _ _ _ rfl rfl rfl hr2 ?_)
          go_upto_region 15 with (at_builtin; refine wpList_append_run rfl _ _ _ _ rfl rfl rfl hr3 ?_)
          have z0 := hx3.cell 1 0 rfl rfl
          have z1 := hx3.cell 1 1 rfl rfl
          have z2 := hx3.cell 1 2 rfl rfl
          have y0 := hx3.frozen 1 0 rfl
          have y1 := hx3.frozen 1 1 rfl
          have y2 := hx3.frozen 1 2 rfl
          obtain ⟨t0, t1, t2, HE⟩ := rend (F := F) (w := w) (hx3.sub (m := [(w.heap.size + 1, [.int .i64 0, .bool false, .slice none 0 0])]) (by simp)) (by omega) (fun hg => by
            have := HS3.out
            rcases hg with hg | hg
            · have := hF _ hg; omega
            · omega) (fun b hb => by
            have := HS3.out
            rcases hb with hb | hb
            · exact .inl hb
            · exact .inr (by omega)) n3 hbe
          clear n3 hbe hx3
          go_wp2_with fail
          refine bodyPost_ret (v := .agg #[.int .i64 0, .bool true, .slice a3 (m + 1) d3]) (by simp only [results, Tryz.results88]; simp [go_sem, t0, t1, t2]) rfl HE.out
      · obtain rfl : hs = false := by
          rw [HHAS.out, List.getElem?_eq_none (by have := HLM.out; simp [keysOf]; omega)]
          rfl
        have him : decide ((i : Int) < (m : Int)) = false := by simp; omega
        have hi9 : i ≤ m := by omega
        have hcr := HC.out
        rw [if_neg (by simp), Nat.add_zero] at hcr
        have hs3 := HS3.out
        have hcl := HCL.out
        have hb3 := HB3.out
        have TR : TabR 4 (RcOn F n W3) W3 _ m c (cellsR (.leaf p l)) := TabR.mono (TabR.below (Nat.le_refl _) hb3 HR.out) (fun _ _ hy => RcOn.below hy hb3)
        have c0 : CellsF 145 F n W3.heap.size W3 (.slice none 0 0) [] := CellsF.nil _ _ _ _ _
        obtain ⟨v1, w1, hr1, c1', hg1⟩ := c0.row Tryz.underlying25 info_Cw (Nat.le_refl _) HF3.out (by simp) (TabR.tk TR hi9) (by omega)
        rw [List.nil_append] at c1'
        have hb1 : Below W3.heap.size W3 w1 := (Below.refl _ _).grown hg1 (Nat.le_refl _) (fun g hg => by cases hg)
        have hx1 := HX3.out.step hb1
        have hl1 : ((cellsR (.leaf p l)).take i).length = i := by rw [List.length_take, hcl, Nat.min_eq_left hi9]
        obtain ⟨v2, w2, hr2, c2', hg2⟩ := c1'.append Tryz.underlying25 info_Cw hb1.size HF3.out (by rw [hl1]; omega) (RcOn.fresh F n w1 key d)
        have hb2 : Below W3.heap.size W3 w2 := hb1.grown hg2 hb1.size (fun g hg => (c1'.ge hg).1)
        have hl2 : ((cellsR (.leaf p l)).take i ++ [(⟨key, ⟨d, []⟩, none⟩ : Rc)]).length = i + 1 := by rw [List.length_append, hl1]; rfl
        obtain ⟨ad, had, hsl⟩ := slice_from elem_Cw size_Cw a m c i hi9
        have TR2 : TabR 4 (RcOn F n w2) w2 ad (m - i) (c - i) ((cellsR (.leaf p l)).drop i) := by
          rw [had]
          exact TabR.mono (TabR.dp (TabR.below (Nat.le_refl _) hb2 TR) hi9) (fun _ _ hy => RcOn.below hy hb2)
        obtain ⟨v3, w3, hr3, c3', hg3⟩ := c2'.row Tryz.underlying25 info_Cw hb2.size HF3.out (by rw [hl2]; omega) TR2 (by omega)
        have hb3' : Below W3.heap.size W3 w3 := hb2.grown hg3 hb2.size (fun g hg => (c2'.ge hg).1)
        rw [← hcr] at c3'
        have hlen : cntT (.leaf 0 R) = m + 1 := by
          have := congrArg List.length hcr
          rw [cellsR_len, List.length_append, hl2, List.length_drop, hcl] at this
          omega
        have o3 := c3'.own HF3.out
        obtain ⟨a3, d3, ev3, _, _, _, _⟩ := o3.sl
        rw [cellsR_len, hlen] at ev3
        subst ev3
        have n3 : RNodeOn (Fr F W3) (n + 1) w3 [.int .i64 0, .bool true, .slice a3 (m + 1) d3] (.leaf 0 R) := o3.node (w := W3) (Nat.le_refl _)
        have hbe := below_via hb3 hb3'
        have hx3 := HX3.out.step hb3'
        have m0 := hx1.cell 0 0 rfl rfl
        have m1 := hx1.cell 0 1 rfl rfl
        have m2 := hx1.cell 0 2 rfl rfl
        have m3 := hx1.cell 0 3 rfl rfl
        have nn1 := hx1.cell 2 2 rfl rfl
        have nn2 := (HX3.out.step hb2).cell 2 2 rfl rfl
        have hic : i ≤ c := by omega
        clear c0 c1' c2' c3' o3 TR TR2 hg1 hg2 hg3 hb1 hb2 hb3' hb3 hx1 hl1 hl2 had hcr hcl hs3 hlen
        go_upto_region 12 with (fail)
        go_upto_region 13 with (at_builtin; refine wpList_append_run rfl _ _ _ _ rfl rfl rfl hr1 ?_)
        go_upto_region 14 with (at_builtin; refine wpList_append_run rfl _ _ _ _ rfl rfl rfl hr2 ?_)
        go_upto_region 15 with (at_builtin; refine wpList_append_run rfl _ _ _ _ rfl rfl rfl hr3 ?_)
        have z0 := hx3.cell 1 0 rfl rfl
        have z1 := hx3.cell 1 1 rfl rfl
        have z2 := hx3.cell 1 2 rfl rfl
        have y0 := hx3.frozen 1 0 rfl
        have y1 := hx3.frozen 1 1 rfl
        have y2 := hx3.frozen 1 2 rfl
        obtain ⟨t0, t1, t2, HE⟩ := rend (F := F) (w := w) (hx3.sub (m := [(w.heap.size + 1, [.int .i64 0, .bool false, .slice none 0 0])]) (by simp)) (by omega) (fun hg => by
          have := HS3.out
          rcases hg with hg | hg
          · have := hF _ hg; omega
          · omega) (fun b hb => by
          have := HS3.out
          rcases hb with hb | hb
          · exact .inl hb
          · exact .inr (by omega)) n3 hbe
        clear n3 hbe hx3
        go_wp2_with fail
        refine bodyPost_ret (v := .agg #[.int .i64 0, .bool true, .slice a3 (m + 1) d3]) (by simp only [results, Tryz.results88]; simp [go_sem, t0, t1, t2]) rfl HE.out
end Go.Proofs.YtpghlmcoajaiiaaGreatDoor

/- The document's Put, and the empty tree. -/
namespace Go.Proofs.YtpghlmcoajaiiaaGreatDoor
open Go.RowKit

theorem RNodeOn.less {F : Nat → Prop} : ∀ {m n : Nat} {lo hi : List UInt8} {w : World} {cs : List Value} {t : Tr}, RNodeOn F n w cs t → Shape m lo hi t → RNodeOn F m w cs t
  | 0, _, _, _, _, _, _, _, h => h.elim
  | _, 0, _, _, _, _, _, h, _ => h.elim
  | m + 1, n + 1, lo, hi, w, cs, .leaf p l, h, _ => by
    obtain ⟨a, c, e, h1, f1⟩ := h.at
    refine ⟨a, c, e, TabR.agree h1 (Fa.mono f1 (fun _ h => h)) (AgreeF.refl w) (fun cs y hy h => ?_), f1⟩
    obtain ⟨pa, pn, pc, ka, kn, kc, e, k1, f1, k2, f2⟩ := h
    obtain ⟨x, _, rfl⟩ := List.mem_map.1 hy
    exact ⟨pa, pn, pc, ka, kn, kc, e, k1, f1, TabR.agree k2 (Fa.mono f2 (fun _ h => h)) (AgreeF.refl w) (fun cs y hy h => by cases hy), f2⟩
  | m + 1, n + 1, lo, hi, w, cs, .node p l, h, hs => by
    obtain ⟨a, c, e, h1, f1⟩ := h.at
    have hall := node_kids hs
    refine ⟨a, c, e, TabR.agree h1 (Fa.mono f1 (fun _ h => h)) (AgreeF.refl w) (fun cs y hy h => ?_), f1⟩
    obtain ⟨pa, pn, pc, ka, kn, kc, e, k1, f1, k2, f2⟩ := h
    obtain ⟨x, hx, rfl⟩ := List.mem_map.1 hy
    obtain ⟨_, lo', hi', g, _⟩ := hall x hx
    exact ⟨pa, pn, pc, ka, kn, kc, e, k1, f1, TabR.agree k2 (Fa.mono f2 (fun _ h => h)) (AgreeF.refl w) (fun cs y hy h => by
      have : y = x.2 := by simpa using hy
      subst this
      exact RNodeOn.less h g), f2⟩
theorem rput_any : ∀ {N : Nat} {F : Nat → Prop} {w : World} {cs : List Value} {t : Tr} (key d : List UInt8), (∀ b, F b → b < w.heap.size) → RNodeOn F N w cs t → PutOk N t key ⟨d, []⟩ →
    Calls Tryz.prog 88 #[.agg cs.toArray, .string (strOf key), .string (strOf d)] w (RNodeTo F N w (putT N t key ⟨d, []⟩))
  | 0, _, _, _, _, _, _, _, h, _ => h.elim
  | _ + 1, _, _, _, .leaf _p _l, _key, _d, hF, h, ho => rput_leaf hF h ho.1
  | _N + 1, _, _, _, .node _p _l, key, d, hF, h, ho => rput_node (fun h1 h2 h3 => rput_any key d h1 h2 h3) hF h ho
set_option maxRecDepth 100000 in
set_option maxHeartbeats 1000000 in
theorem rPut_any {N : Nat} {F : Nat → Prop} {w : World} {cs : List Value} {t : Tr} (key d : List UInt8) (hF : ∀ b, F b → b < w.heap.size) (h : RNodeOn F N w cs t) (ho : PutOk N t key ⟨d, []⟩) (ht : TopOk N (putT N t key ⟨d, []⟩)) :
    Calls Tryz.prog 42 #[.agg cs.toArray, .string (strOf key), .string (strOf d)] w (RNodeTo F (N + 1) w (putW N t key ⟨d, []⟩)) := by
  cases N with
  | zero => exact h.elim
  | succ N =>
  obtain ⟨a, c, rfl, _, _⟩ := h.at
  obtain ⟨lf, hlf⟩ : ∃ x, t.isLeaf = x := ⟨_, rfl⟩
  obtain ⟨p, hp⟩ : ∃ x, t.page = x := ⟨_, rfl⟩
  obtain ⟨m, hm⟩ : ∃ x, cntT t = x := ⟨_, rfl⟩
  rw [hlf, hp, hm] at h ⊢
  obtain ⟨W2, hW2⟩ : ∃ x, (w.alloc (.cells #[.int .i64 p, .bool lf, .slice a m c] 27)).alloc (.cells #[.int .i64 0, .bool false, .slice none 0 0] 27) = x := ⟨_, rfl⟩
  have hb2 : Below w.heap.size w W2 := by rw [← hW2]; exact Below.al (Below.al (Below.refl _ _))
  have hx2 : Boxes W2 [(w.heap.size + 1, [.int .i64 0, .bool false, .slice none 0 0]), (w.heap.size, [.int .i64 p, .bool lf, .slice a m c])] := by
    rw [← hW2]
    exact ((Boxes.nil w).alloc #[.int .i64 p, .bool lf, .slice a m c] 27 (b := w.heap.size) rfl).alloc #[.int .i64 0, .bool false, .slice none 0 0] 27 (b := w.heap.size + 1) (by simp)
  have hsz2 : W2.heap.size = w.heap.size + 2 := by rw [← hW2]; simp
  have C1 := rput_any key d (fun b hb => by have := hF b hb; omega) (h.below hb2) ho
  obtain ⟨T, hT⟩ : ∃ x, putT (N + 1) t key ⟨d, []⟩ = x := ⟨_, rfl⟩
  have HT : Hid (putW (N + 1) t key ⟨d, []⟩ = topT (N + 1) T) := Lib.hid (by rw [← hT]; rfl)
  rw [hT] at C1 ht
  have n0 := hx2.cell 1 0 rfl rfl
  have n1 := hx2.cell 1 1 rfl rfl
  have n2 := hx2.cell 1 2 rfl rfl
  have HX := Lib.hid hx2
  have HB := Lib.hid hb2
  have HTO := Lib.hid ht
  clear h ho ht hx2 hb2 hlf hp hm hT
  show Calls _ _ #[.agg #[.int .i64 p, .bool lf, .slice a m c], .string (strOf key), .string (strOf d)] _ _
  go_enter Tryz.func42, Tryz.ntmps42
  go_wp2_with fail
  refine C1.mono ?_
  rintro e w1 hq
  obtain ⟨p1, l1, a1, m1, d1, rfl, hn1, hb1⟩ := hq.split
  have C2 := rtop_any (F := fun x => Fr F W2 x ∧ x < w1.heap.size) (fun _ h => h.2) hn1.lt HTO.out
  have hx1 := HX.out.step hb1
  have hbw1 := below_via HB.out hb1
  have hs1 : w.heap.size + 2 ≤ w1.heap.size := by have := hb1.size; omega
  have HX1 := Lib.hid hx1
  have HB1 := Lib.hid hbw1
  clear C1 hn1 hb1 hx1 hbw1 n0 n1 n2 hW2 hq
  go_wp2_with fail
  refine C2.mono ?_
  rintro e w2 hq
  obtain ⟨p2, l2, a2, m2, d2, rfl, hn2, hb2⟩ := hq.split
  have hx2 := HX1.out.step hb2
  have z0 := hx2.cell 0 0 rfl rfl
  have z1 := hx2.cell 0 1 rfl rfl
  have z2 := hx2.cell 0 2 rfl rfl
  have y0 := hx2.frozen 0 0 rfl
  have y1 := hx2.frozen 0 1 rfl
  have y2 := hx2.frozen 0 2 rfl
  obtain ⟨t0, t1, t2, HE⟩ := rend (F := F) (w := w) (hx2.sub (m := [(w.heap.size + 1, [.int .i64 0, .bool false, .slice none 0 0])]) (by simp)) (by omega) (fun hg => by
    rcases hg with hg | hg
    · rcases hg.1 with hg | hg
      · have := hF _ hg; omega
      · omega
    · omega) (fun b hb => by
    rcases hb with hb | hb
    · rcases hb.1 with hb | hb
      · exact .inl hb
      · exact .inr (by omega)
    · exact .inr (by omega)) hn2 (below_via HB1.out hb2)
  clear hx2 hn2 hb2 hq C2
  go_wp2_with fail
  refine bodyPost_ret (v := .agg #[.int .i64 p2, .bool l2, .slice a2 m2 d2]) (by simp only [results, Tryz.results42]; simp [go_sem, t0, t1, t2]) rfl ?_
  rw [HT.out]
  exact HE.out
theorem rPut_whole {n : Nat} {F : Nat → Prop} {w : World} {cs : List Value} {t : Tr} (hF : ∀ b, F b → b < w.heap.size) (h : RNodeOn F n w cs t) (hw : Whole n t) (key d : List UInt8) (hk : keyOk key) (hd : d.length ≤ 400) :
    Calls Tryz.prog 42 #[.agg cs.toArray, .string (strOf key), .string (strOf d)] w (RNodeTo F (n + 1) w (putW n t key ⟨d, []⟩)) := by
  have hv : valOk ⟨d, []⟩ := ⟨hd, fun h => absurd rfl h⟩
  obtain ⟨h1, h2⟩ := hw.put hk hv
  exact rPut_any key d hF h h1 h2
theorem rempty_any (w : World) (F : Nat → Prop) : Calls Tryz.prog 41 #[] w (RNodeTo F 1 w (.leaf 0 [])) := by
  go_enter Tryz.func41, Tryz.ntmps41
  go_wp2_with fail
  refine bodyPost_ret (v := .agg #[.int .i64 0, .bool true, .slice none 0 0]) (by simp [results, Tryz.results41, go_sem]) rfl ⟨[.int .i64 0, .bool true, .slice none 0 0], rfl, ?_, ?_⟩
  · exact RNodeOn.mk (t := .leaf 0 []) (TabR.nil _) (Fa.zero _ _)
  · exact Below.al (Below.refl _ _)
end Go.Proofs.YtpghlmcoajaiiaaGreatDoor

/- The document's Find (printed by gen_treRg.py). -/
namespace Go.Proofs.YtpghlmcoajaiiaaGreatDoor
open Go.RowKit

end Go.Proofs.YtpghlmcoajaiiaaGreatDoor

/- The document's tree in its box. -/
namespace Go.Proofs.YtpghlmcoajaiiaaGreatDoor
open Go.RowKit

/-- The document's tree in its box. -/
def RBox (B b : Nat) (wr : World) (N : Nat) (t : Tr) : Prop :=
  ∃ p l a m d, Boxes wr [(b, [.int .i64 p, .bool l, .slice a m d])] ∧ RNodeOn (fun x => B ≤ x) N wr [.int .i64 p, .bool l, .slice a m d] t
theorem RBox.agree {B b : Nat} {w w' : World} {N : Nat} {t : Tr} {F : Nat → Prop} (h : RBox B b w N t) (ha : AgreeF F w w') (hG : ∀ x, B ≤ x → F x) (hb : F b) : RBox B b w' N t := by
  obtain ⟨p, l, a, m, d, h1, h2⟩ := h
  exact ⟨p, l, a, m, d, h1.agree ha (fun p hp => by simp at hp; subst hp; exact hb), h2.agree (ha.sub hG)⟩
theorem RBox.below {B b : Nat} {w w' : World} {N : Nat} {t : Tr} (h : RBox B b w N t) (hb : Below w.heap.size w w') : RBox B b w' N t := by
  obtain ⟨p, l, a, m, d, h1, h2⟩ := h
  exact ⟨p, l, a, m, d, h1.step hb, h2.below hb⟩
/-- What 'm = jalousieref15.Put(m, ..)' leaves. -/
def RStay (B b : Nat) (w wr : World) (M : Nat) (T : Tr) (wx : World) : Prop := RBox B b wx M T ∧ AgreeF (fun x => x ≠ b) wr wx ∧ Below w.heap.size w wx
theorem RStay.mk {B b : Nat} {w wr w9 : World} {M : Nat} {T : Tr} {x0 x1 x2 : Value} {p : Int} {l : Bool} {a : Option Addr} {m d : Nat} (hx : Boxes w9 [(b, [x0, x1, x2])]) (h : RNodeOn (fun x => B ≤ x) M w9 [.int .i64 p, .bool l, .slice a m d] T) (hb : b < B) (hA : AgreeF (fun x => x ≠ b) wr w9) (hB : Below w.heap.size w w9) (hle : w.heap.size ≤ b) :
    RStay B b w wr M T (((w9.setCell ⟨b, 0, none⟩ (.int .i64 p)).setCell ⟨b, 1, none⟩ (.bool l)).setCell ⟨b, 2, none⟩ (.slice a m d)) :=
  ⟨⟨p, l, a, m, d, ((hx.put 0 (.int .i64 p) (by simp)).put 1 (.bool l) (by simp)).put 2 (.slice a m d) (by simp), h.put3 (by omega) _ _ _⟩, ((hA.st).st).st, ((hB.setCell (by simpa using hle) _).setCell (by simpa using hle) _).setCell (by simpa using hle) _⟩
/-- A node of the document's that a call answers, as deep as it is told. -/
def RGo (G : Nat → Prop) (n : Nat) (w : World) (t : Tr) (e : Ending) (w' : World) : Prop := ∃ p l a m d, e = .returned (.agg #[.int .i64 p, .bool l, .slice a m d]) ∧ RNodeOn G n w' [.int .i64 p, .bool l, .slice a m d] t ∧ Below w.heap.size w w'
theorem RNodeTo.go {F G : Nat → Prop} {n M : Nat} {W w' : World} {T : Tr} {e : Ending} {lo hi : List UInt8} (h : RNodeTo F n W T e w') (hG : ∀ b, Fr F W b → G b) (hs : Shape M lo hi T) : RGo G M W T e w' := by
  obtain ⟨p, l, a, m, d, e, h1, h2⟩ := h.split
  exact ⟨p, l, a, m, d, e, (h1.mono hG).less hs, h2⟩
end Go.Proofs.YtpghlmcoajaiiaaGreatDoor

/- Entries ahead of a put, and behind it, one by one: plain. -/
namespace Go.Proofs.YtpghlmcoajaiiaaGreatDoor

end Go.Proofs.YtpghlmcoajaiiaaGreatDoor

/- Keys, told the same or not, as runs. -/
namespace Go.Proofs.YtpghlmcoajaiiaaGreatDoor
open Go.RowKit

/-- What a walk asks of two keys told the same or not. -/
theorem eq_walk {a b : List UInt8} {o : Bool} (h : decide (a = b) = o) : ((strOf a).toList == (strOf b).toList) = o := by
  subst h
  rw [strOf_toList, strOf_toList]
  by_cases h : a = b <;> simp [h]
end Go.Proofs.YtpghlmcoajaiiaaGreatDoor

/- slices.Delete of one element, slices.Index of a text (printed by gen_treDl.py). -/
namespace Go.Proofs.YtpghlmcoajaiiaaGreatDoor
open Go.RowKit

section
variable {w : World} {B : Nat} {e : TypeId} {sz g n c : Nat} {xs : List Value}
end


end Go.Proofs.YtpghlmcoajaiiaaGreatDoor

/- A key struck out: what the walk asks. -/
namespace Go.Proofs.YtpghlmcoajaiiaaGreatDoor
open Go.RowKit

end Go.Proofs.YtpghlmcoajaiiaaGreatDoor

/- A cursor in memory: its box, its row of steps. -/
namespace Go.Proofs.YtpghlmcoajaiiaaGreatDoor
open Go.RowKit

/-- A step's words. -/
def StepOn (F : Nat → Prop) (N : Nat) (w : World) (cs : List Value) (s : Tr × Nat) : Prop := ∃ x, cs = x ++ [.int .i64 (s.2 : Int)] ∧ NodeOn F N w x s.1
theorem StepOn.agree {F : Nat → Prop} {N : Nat} {w w' : World} {cs : List Value} {s : Tr × Nat} (h : StepOn F N w cs s) (ha : AgreeF F w w') : StepOn F N w' cs s := by
  obtain ⟨x, e, h⟩ := h
  exact ⟨x, e, h.agree ha⟩
theorem StepOn.words {F : Nat → Prop} {N : Nat} {w : World} {cs : List Value} {s : Tr × Nat} (h : StepOn F N w cs s) :
    ∃ a1 c1 a2 n2 c2 a3 n3 c3, cs = [.int .i64 s.1.page, .bool s.1.isLeaf, .slice a1 (cntT s.1) c1, .slice a2 n2 c2, .slice a3 n3 c3, .int .i64 (s.2 : Int)] ∧ NodeOn F N w [.int .i64 s.1.page, .bool s.1.isLeaf, .slice a1 (cntT s.1) c1, .slice a2 n2 c2, .slice a3 n3 c3] s.1 := by
  obtain ⟨x, rfl, h⟩ := h
  obtain ⟨ka, kc, va, vn, vc, ca, cn, cc, _, _, rfl, _⟩ := NodeOn.open_pos h
  exact ⟨ka, kc, va, vn, vc, ca, cn, cc, rfl, h⟩
theorem StepOn.len {F : Nat → Prop} {N : Nat} {w : World} {cs : List Value} {s : Tr × Nat} (h : StepOn F N w cs s) : cs.length = 6 := by
  obtain ⟨_, _, _, _, _, _, _, _, rfl, _⟩ := h.words
  rfl
theorem StepOn.one {F : Nat → Prop} {N : Nat} {w : World} {cs : List Value} {s : Tr × Nat} (h : StepOn F N w cs s) : ∀ u ∈ cs, u.oneCell' = true := by
  obtain ⟨_, _, _, _, _, _, _, _, rfl, _⟩ := h.words
  intro u hu
  simp at hu
  rcases hu with rfl | rfl | rfl | rfl | rfl | rfl <;> rfl
/-- A cursor: its box, the row of its steps, the top last. -/
def CurAt (E : TypeId) (F : Nat → Prop) (N B b : Nat) (w : World) (v : Value) (r : List (Tr × Nat)) : Prop :=
  Boxes w [(b, [v])] ∧ b < B ∧ (∀ x, F x → x < b) ∧ ∃ L : List (Cl 6), w.ownsRow B E 6 v r.length (flatC L) ∧ Tells (StepOn F N w) L r.reverse
theorem own_take {w : World} {base : Nat} {e : TypeId} {size : Nat} {g n cap : Nat} {xs : List Value} (h : w.ownsRow base e size (.slice (some ⟨g, 0, none⟩) n cap) n xs) {m : Nat} (hm : m ≤ n) :
    w.ownsRow base e size (.slice (some ⟨g, 0, none⟩) m cap) m (xs.take (m * size)) := by
  obtain ⟨h1, h2⟩ := h
  have hms : m * size ≤ n * size := Nat.mul_le_mul_right _ hm
  refine ⟨by rw [List.length_take, h1, Nat.min_eq_left hms], .inr ?_⟩
  rcases h2 with ⟨hv, _⟩ | ⟨g', cap', cur, hv, hb, hg, hn, hx, hc, ht⟩
  · cases hv
  · cases hv
    exact ⟨g, cap, cur, rfl, hb, hg, by omega, hx, hc, by rw [← ht, List.take_take, Nat.min_eq_left hms]⟩
theorem flat_take {sz : Nat} (L : List (Cl sz)) (m : Nat) : (flatC L).take (m * sz) = flatC (L.take m) := by
  induction L generalizing m with
  | nil => simp [flatC]
  | cons x r ih =>
    cases m with
    | zero => simp [flatC]
    | succ m =>
      have e : flatC (x :: r) = x.1 ++ flatC r := rfl
      have hx : x.1.length = sz := x.2.1
      rw [List.take_succ_cons, e, show flatC (x :: r.take m) = x.1 ++ flatC (r.take m) from rfl, ← ih, Nat.succ_mul, Nat.add_comm, List.take_append, List.take_of_length_le (by omega), hx, Nat.add_sub_cancel_left]
/-- The row as a slice; its block. -/
theorem CurAt.sl {E : TypeId} {F : Nat → Prop} {N B b : Nat} {w : World} {v : Value} {r : List (Tr × Nat)} (h : CurAt E F N B b w v r) :
    ∃ a c, v = .slice a r.length c ∧ r.length ≤ c ∧ c ≤ 9223372036854775807 ∧ (0 < r.length → ∃ g, a = some ⟨g, 0, none⟩ ∧ B ≤ g ∧ g < w.heap.size ∧ ∀ o, w.frozen? ⟨g, o, none⟩ = false) := by
  obtain ⟨_, _, _, L, h1, _⟩ := h
  rcases h1.2 with ⟨rfl, h0⟩ | ⟨g, cap, cur, rfl, hg, hh, hn, hm, hr⟩
  · rw [h0]; exact ⟨none, 0, rfl, by omega, by omega, fun h => by omega⟩
  · exact ⟨_, cap, rfl, hn, by unfold maxLen at hm; omega, fun _ => ⟨g, rfl, hg, (Array.getElem?_eq_some_iff.1 hh).1, fun o => by simp [World.frozen?, hh]⟩⟩
/-- The top step's words in memory. -/
theorem CurAt.top {E : TypeId} {F : Nat → Prop} {N B b : Nat} {w : World} {g n c : Nat} {t : Tr} {k : Nat} {r : List (Tr × Nat)} (h : CurAt E F N B b w (.slice (some ⟨g, 0, none⟩) n c) ((t, k) :: r)) :
    ∃ a1 c1 a2 n2 c2 a3 n3 c3, n = r.length + 1 ∧ NodeOn F N w [.int .i64 t.page, .bool t.isLeaf, .slice a1 (cntT t) c1, .slice a2 n2 c2, .slice a3 n3 c3] t ∧
      ∀ j u, [.int .i64 t.page, .bool t.isLeaf, .slice a1 (cntT t) c1, .slice a2 n2 c2, .slice a3 n3 c3, .int .i64 (k : Int)][j]? = some u → w.cell? ⟨g, r.length * 6 + j, none⟩ = some u := by
  obtain ⟨_, _, _, L, h1, h2⟩ := h
  have hn : n = r.length + 1 := by
    rcases h1.2 with ⟨e, _⟩ | ⟨g', cap, cur, e, _⟩
    · cases e
    · cases e; rfl
  have hlen : L.length = n := by rw [h2.1, hn]; simp
  obtain ⟨x, hx⟩ : ∃ x, L[r.length]? = some x := ⟨_, List.getElem?_eq_getElem (by omega)⟩
  have hs := h2.2 r.length x (t, k) hx (by simp)
  obtain ⟨a1, c1, a2, n2, c2, a3, n3, c3, e, hn2⟩ := hs.words
  refine ⟨a1, c1, a2, n2, c2, a3, n3, c3, hn, hn2, fun j u hu => ?_⟩
  subst hn
  obtain ⟨a', c', e', hr⟩ := Raw.of_own h1 hlen
  cases e'
  obtain ⟨b', off', y, cs, e1, _, e3, _, e5, e6⟩ := TabR.at hr (show r.length < r.length + 1 by omega)
  cases e1
  rw [hx] at e3
  cases e3
  have e5 : cs = x.1 := e5
  subst e5
  have := e6 j u (by rw [e]; exact hu)
  rw [Nat.zero_add] at this
  exact this
theorem CurAt.below {E : TypeId} {F : Nat → Prop} {N B b : Nat} {w w' : World} {v : Value} {r : List (Tr × Nat)} (h : CurAt E F N B b w v r) (hb : Below w.heap.size w w') : CurAt E F N B b w' v r := by
  obtain ⟨h1, h2, h3, L, h4, h5⟩ := h
  exact ⟨h1.step hb, h2, h3, L, own_held h4 hb, h5.mono (fun _ _ _ h => h.agree (.of_below hb))⟩
/-- Nothing was read, nothing was told. -/
def SameO (w w' : World) : Prop := w'.os = w.os ∧ w'.tape = w.tape ∧ w'.output = w.output
/-- What a cursor's own doings leave alone. -/
def CurStay (b : Nat) (v : Value) (w w' : World) (v' : Value) : Prop := AgreeF (fun x => x ≠ b ∧ v.ownBlock ≠ some x) w w' ∧ (v'.ownBlock = v.ownBlock ∨ ∀ g, v'.ownBlock = some g → w.heap.size ≤ g) ∧ SameO w w'
theorem CurStay.refl (b : Nat) (v : Value) (w : World) : CurStay b v w w v := ⟨AgreeF.refl w, .inl rfl, rfl, rfl, rfl⟩
theorem CurStay.trans {b : Nat} {v v' v'' : Value} {w w' w'' : World} (h : CurStay b v w w' v') (g : CurStay b v' w' w'' v'') : CurStay b v w w'' v'' := by
  obtain ⟨h1, h2, h3, h4, h5⟩ := h
  obtain ⟨g1, g2, g3, g4, g5⟩ := g
  refine ⟨⟨Nat.le_trans h1.1 g1.1, fun x hx hlt => ?_⟩, ?_, g3.trans h3, g4.trans h4, g5.trans h5⟩
  · rw [g1.2 x ⟨hx.1, fun e => ?_⟩ (Nat.lt_of_lt_of_le hlt h1.1)]
    · exact h1.2 x hx hlt
    · rcases h2 with h2 | h2
      · exact hx.2 (by rw [← h2]; exact e)
      · have := h2 x e; omega
  · rcases g2 with g2 | g2
    · rw [g2]; exact h2
    · exact .inr fun y hy => Nat.le_trans h1.1 (g2 y hy)
theorem CurStay.below {b : Nat} {v : Value} {w w' : World} (hb : Below w.heap.size w w') : CurStay b v w w' v := ⟨.of_below hb, .inl rfl, hb.os, hb.tape, hb.output⟩
/-- Whoever the cursor belongs to sees nothing turned of what was there before. -/
theorem CurStay.toBelow {b B : Nat} {v v' : Value} {w w' : World} (h : CurStay b v w w' v') (hb : B ≤ b) (hv : ∀ g, v.ownBlock = some g → B ≤ g) (hB : B ≤ w.heap.size) : Below B w w' :=
  ⟨h.2.2.1, h.2.2.2.1, h.2.2.2.2, h.1.1, fun x hx => h.1.2 x ⟨by omega, fun e => by have := hv x e; omega⟩ (by omega)⟩
/-- A step goes on top. -/
theorem CurAt.push {P : Program} {E t : TypeId} (ht : P.underlying t = some (.slice E)) (hi : RowInfo P E 6 96) {F : Nat → Prop} {N B b : Nat} {w : World} {v : Value} {r : List (Tr × Nat)} (h : CurAt E F N B b w v r) (hB : B ≤ w.heap.size) (hl : r.length ≤ 100000) {cs : List Value} {s : Tr × Nat} (hs : StepOn F N w cs s) :
    ∃ a' c' w', (Builtin.append_ #[t, t] t #[v, .slice (some ⟨w.heap.size, 0, none⟩) 1 1]).run P (w.alloc (.cells cs.toArray E)) = .ok (.slice a' (r.length + 1) c') w' ∧ Boxes w' [(b, [v])] ∧
      CurAt E F N B b (w'.setCell ⟨b, 0, none⟩ (.slice a' (r.length + 1) c')) (.slice a' (r.length + 1) c') (s :: r) ∧ CurStay b v w (w'.setCell ⟨b, 0, none⟩ (.slice a' (r.length + 1) c')) (.slice a' (r.length + 1) c') ∧ w.grownBy w' v.ownBlock := by
  obtain ⟨hx, hbB, hF, L, h1, h2⟩ := h
  obtain ⟨i, z, i1, i2, i3, i4, i5⟩ := hi
  have hge := own_ge h1
  obtain ⟨v', w', hr, ho, hg, hv⟩ := run_append_new (P := P) B t E i z 6 96 ht i1 i2 i3 i4 i5 (by decide) h1 cs.toArray (by simpa using hs.len) (by simpa using hs.one) (by unfold maxLen; omega) (by omega) hB
  have hsl : ∃ a' c', v' = .slice a' (r.length + 1) c' := by
    rcases ho.2 with ⟨rfl, h0⟩ | ⟨g, cap, cur, rfl, _⟩
    · exact ⟨none, 0, by rw [h0]⟩
    · exact ⟨_, _, rfl⟩
  obtain ⟨a', c', rfl⟩ := hsl
  have hne : v.ownBlock ≠ some b := fun e => by have := hge _ e; omega
  have hne' : (Value.slice a' (r.length + 1) c').ownBlock ≠ some b := fun e => by
    rcases hv with hv | hv
    · rw [hv] at e; exact hne e
    · rw [hv] at e
      have := Option.some.inj e
      have := hx.lt 0 rfl
      omega
  have hx' := hx.grown hg (by intro q hq e; simp at hq; subst hq; exact hne e)
  have hag : AgreeF (fun x => v.ownBlock ≠ some x) w w' := ⟨hg.size, fun x hx hlt => hg.block x hlt (fun e => hx e.symm)⟩
  have haF : AgreeF F w (w'.setCell ⟨b, 0, none⟩ (.slice a' (r.length + 1) c')) := AgreeF.set (hag.sub (fun x hf e => by have := hge _ e; have := hF x hf; omega)) (.inl fun hf => by have := hF _ hf; simp at this)
  refine ⟨a', c', w', hr, hx', ⟨hx'.put 0 (.slice a' (r.length + 1) c') (by simp), hbB, hF, L ++ [⟨cs, hs.len, hs.one⟩], ?_, ?_⟩, ⟨?_, ?_⟩, hg⟩
  · have e : flatC (L ++ [⟨cs, hs.len, hs.one⟩]) = flatC L ++ cs := by rw [flatC_append]; exact congrArg (flatC L ++ ·) (List.append_nil cs)
    rw [e]
    exact own_set ho _ _ hne'
  · rw [List.reverse_cons]
    exact (h2.mono (fun _ _ _ h => h.agree haF)).append (Tells.one (hs.agree haF))
  · exact AgreeF.set (hag.sub (fun x hx => hx.2)) (.inl fun h => h.1 rfl)
  · refine ⟨?_, hg.os, hg.tape, hg.output⟩
    rcases hv with hv | hv
    · exact .inl hv
    · exact .inr fun g e => by rw [hv] at e; have := Option.some.inj e; omega
/-- The top goes. -/
theorem CurAt.pop {E : TypeId} {F : Nat → Prop} {N B b : Nat} {w : World} {g n c : Nat} {s : Tr × Nat} {r : List (Tr × Nat)} (h : CurAt E F N B b w (.slice (some ⟨g, 0, none⟩) n c) (s :: r)) :
    CurAt E F N B b (w.setCell ⟨b, 0, none⟩ (.slice (some ⟨g, 0, none⟩) r.length c)) (.slice (some ⟨g, 0, none⟩) r.length c) r ∧ CurStay b (.slice (some ⟨g, 0, none⟩) n c) w (w.setCell ⟨b, 0, none⟩ (.slice (some ⟨g, 0, none⟩) r.length c)) (.slice (some ⟨g, 0, none⟩) r.length c) := by
  obtain ⟨hx, hbB, hF, L, h1, h2⟩ := h
  have hn : n = r.length + 1 := by
    rcases h1.2 with ⟨e, _⟩ | ⟨g', cap, cur, e, _⟩
    · cases e
    · cases e; rfl
  subst hn
  have hge := own_ge h1 g rfl
  have haF : AgreeF F w (w.setCell ⟨b, 0, none⟩ (.slice (some ⟨g, 0, none⟩) r.length c)) := AgreeF.set (AgreeF.refl w) (.inl fun hf => by have := hF _ hf; simp at this)
  refine ⟨⟨hx.put 0 (.slice (some ⟨g, 0, none⟩) r.length c) (by simp), hbB, hF, L.take r.length, ?_, ?_⟩, AgreeF.set (AgreeF.refl w) (.inl fun h => h.1 rfl), .inl rfl, rfl, rfl, rfl⟩
  · have := own_take h1 (show r.length ≤ r.length + 1 by omega)
    rw [flat_take] at this
    exact own_set this _ _ (fun e => by have : g = b := Option.some.inj e; omega)
  · have := (h2.mono (fun _ _ _ h => h.agree haF)).take r.length
    rw [List.reverse_cons, List.take_append_of_le_length (show r.length ≤ r.reverse.length by rw [List.length_reverse]; exact Nat.le_refl _), List.take_of_length_le (show r.reverse.length ≤ r.length by rw [List.length_reverse]; exact Nat.le_refl _)] at this
    exact this
/-- The top's place goes on. -/
theorem CurAt.bump {E : TypeId} {F : Nat → Prop} {N B b : Nat} {w : World} {g n c : Nat} {t : Tr} {k : Nat} {r : List (Tr × Nat)} (h : CurAt E F N B b w (.slice (some ⟨g, 0, none⟩) n c) ((t, k) :: r)) (k' : Nat) :
    CurAt E F N B b (w.setCell ⟨g, r.length * 6 + 5, none⟩ (.int .i64 (k' : Int))) (.slice (some ⟨g, 0, none⟩) n c) ((t, k') :: r) ∧ CurStay b (.slice (some ⟨g, 0, none⟩) n c) w (w.setCell ⟨g, r.length * 6 + 5, none⟩ (.int .i64 (k' : Int))) (.slice (some ⟨g, 0, none⟩) n c) := by
  obtain ⟨hx, hbB, hF, L, h1, h2⟩ := h
  have hn : n = r.length + 1 := by
    rcases h1.2 with ⟨e, _⟩ | ⟨g', cap, cur, e, _⟩
    · cases e
    · cases e; rfl
  subst hn
  have hge := own_ge h1 g rfl
  have hlen : L.length = r.length + 1 := by rw [h2.1]; simp
  obtain ⟨x, hxL⟩ : ∃ x, L[r.length]? = some x := ⟨_, List.getElem?_eq_getElem (by omega)⟩
  have hs := h2.2 r.length x (t, k) hxL (by simp)
  obtain ⟨a1, c1, a2, n2, c2, a3, n3, c3, ex, hn2⟩ := hs.words
  have haF : AgreeF F w (w.setCell ⟨g, r.length * 6 + 5, none⟩ (.int .i64 (k' : Int))) := AgreeF.set (AgreeF.refl w) (.inl fun hf => by have : g < b := hF _ hf; omega)
  have hs' : StepOn F N w [.int .i64 t.page, .bool t.isLeaf, .slice a1 (cntT t) c1, .slice a2 n2 c2, .slice a3 n3 c3, .int .i64 (k' : Int)] (t, k') := ⟨[.int .i64 t.page, .bool t.isLeaf, .slice a1 (cntT t) c1, .slice a2 n2 c2, .slice a3 n3 c3], rfl, hn2⟩
  obtain ⟨p, q, hp, q1, q2⟩ := flat_parts (fun y : Cl 6 => y.1) 6 (fun y => y.2.1) hxL
  have g0 := own_put h1 (r.length * 6 + 5) (.int .i64 (k' : Int)) (by show r.length * 6 + 5 < (r.length + 1) * 6; omega)
  have e1 : flatC L = p ++ ([.int .i64 t.page, .bool t.isLeaf, .slice a1 (cntT t) c1, .slice a2 n2 c2, .slice a3 n3 c3, .int .i64 (k : Int)] ++ q) := by rw [← ex]; exact q1
  have e2 : flatC (L.set r.length ⟨_, hs'.len, hs'.one⟩) = p ++ ([.int .i64 t.page, .bool t.isLeaf, .slice a1 (cntT t) c1, .slice a2 n2 c2, .slice a3 n3 c3, .int .i64 (k' : Int)] ++ q) := q2 ⟨_, hs'.len, hs'.one⟩
  refine ⟨⟨hx.set _ _ (by intro y hy; simp at hy; subst hy; show b ≠ g; omega), hbB, hF, L.set r.length ⟨_, hs'.len, hs'.one⟩, ?_, ?_⟩, AgreeF.set (AgreeF.refl w) (.inl fun h => h.2 rfl), .inl rfl, rfl, rfl, rfl⟩
  · rw [e2]
    rw [e1, ← hp] at g0
    rw [← hp]
    simpa using g0
  · have := (h2.mono (fun _ _ _ h => h.agree haF)).set r.length (x := ⟨_, hs'.len, hs'.one⟩) (y := (t, k')) (hs'.agree haF)
    rw [List.reverse_cons, List.set_append_right _ _ (show r.reverse.length ≤ r.length by rw [List.length_reverse]; exact Nat.le_refl _), List.length_reverse, Nat.sub_self, List.set_cons_zero] at this
    rw [List.reverse_cons]
    exact this
end Go.Proofs.YtpghlmcoajaiiaaGreatDoor
