/- Texts that other texts of this claim lean on, one behind the other. -/
import Derived.Test.YtemfnjlfcemehaaM11
import Derived.Test.YtemfnjlfcemehaaM7
import Derived.Test.YtemfnjlfcemehaaM10
import Derived.Test.YtemfnjlfcemehaaM6
import Derived.Test.YtemfnjlfcemehaaM9
import Derived.Test.YtemfnjlfcemehaaM2
import Derived.Test.YtemfnjlfcemehaaM4
import Derived.Deep.RegionHeld3
import Derived.Deep.DeepCutAuto
import Derived.Deep.CutBlock
import Derived.Deep.QuietTactic
import Derived.BigQuiet
/- The document's put, in a leaf; Put (printed by gen_trePw.py). -/
namespace Go.Proofs.Ytemfnjlfcemehaa
open Go.RowKit

theorem putL_cells (key : List UInt8) (v : Tv) (p : Int) (l : List (List UInt8 × Tv)) :
    cellsR (.leaf 0 (putL key v l)) = (cellsR (.leaf p l)).take (posK key (keysOf l)) ++ [⟨key, v, none⟩] ++ (cellsR (.leaf p l)).drop (posK key (keysOf l) + (if hasK key (keysOf l) then 1 else 0)) := by
  rw [putL_pos]
  simp [cellsR, List.map_take, List.map_drop]
theorem RcOn.fresh (F : Nat → Prop) (n : Nat) (w : World) (key d : List UInt8) : RcOn F n w [.string (strOf key), .string (strOf d), .slice none 0 0, .slice none 0 0] ⟨key, ⟨d, []⟩, none⟩ :=
  ⟨none, 0, 0, none, 0, 0, rfl, ⟨rfl, Nat.le_refl _, by unfold maxLen; omega, fun _ => rfl, .inl rfl⟩, .inl rfl, TabR.nil _, .inl rfl⟩
set_option maxRecDepth 100000 in
set_option maxHeartbeats 3000000 in
theorem rput_leaf {n : Nat} {key d : List UInt8} {F : Nat → Prop} {w : World} {cs : List Value} {p : Int} {l : List (List UInt8 × Tv)} (hF : ∀ b, F b → b < w.heap.size) (h : RNodeOn F (n + 1) w cs (.leaf p l)) (hl9 : l.length ≤ 900) :
    Calls Try.prog 60 #[.agg cs.toArray, .string (strOf key), .string (strOf d)] w (RNodeTo F (n + 1) w (.leaf 0 (putL key ⟨d, []⟩ l))) := by
  have H := Lib.hid h
  obtain ⟨a, c, rfl, h1, hfa⟩ := h.at
  obtain ⟨e1, e2, e3⟩ := h1.lens
  obtain ⟨m, hml⟩ : ∃ m, cntT (.leaf p l) = m := ⟨_, rfl⟩
  have hlm : l.length = m := hml
  rw [hml] at h1 hfa e1 e2 ⊢
  have hm9 : m ≤ 900 := by rw [← hlm]; exact hl9
  have hcells := putL_cells key ⟨d, []⟩ p l
  have hPm : posK key (keysOf l) ≤ m := by have := posK_le key (keysOf l); rw [← hlm]; simpa [keysOf] using this
  have hlt : ∀ i, i < posK key (keysOf l) → (keysOf l)[i]?.getD [] < key := fun i hi => posK_lt hi
  have hat : posK key (keysOf l) < m → ¬ (keysOf l)[posK key (keysOf l)]?.getD [] < key := fun hi => posK_at (by rw [← hlm] at hi; simpa [keysOf] using hi)
  have hhas : hasK key (keysOf l) = ((keysOf l)[posK key (keysOf l)]? == some key) := rfl
  obtain ⟨P, hP⟩ : ∃ P, posK key (keysOf l) = P := ⟨_, rfl⟩
  rw [hP] at hcells hPm hlt hat hhas
  obtain ⟨hs, hhs⟩ : ∃ x, hasK key (keysOf l) = x := ⟨_, rfl⟩
  rw [hhs] at hcells hhas
  have hkey : ∀ (i : Nat) (y : Rc), (cellsR (.leaf p l))[i]? = some y → (keysOf l)[i]? = some y.key := fun i y hy => by
    rw [cellsR_leaf] at hy
    obtain ⟨x, hx1, hx2⟩ := Option.map_eq_some_iff.1 hy
    subst hx2
    simp [keysOf, hx1]
  obtain ⟨R, hR⟩ : ∃ x, putL key ⟨d, []⟩ l = x := ⟨_, rfl⟩
  rw [hR] at hcells ⊢
  show Calls _ _ #[.agg #[.int .i64 p, .bool true, .slice a m c], .string (strOf key), .string (strOf d)] _ _
  obtain ⟨W2, hW2⟩ : ∃ x, (w.alloc (.cells #[.int .i64 p, .bool true, .slice a m c] 26)).alloc (.cells #[.int .i64 0, .bool false, .slice none 0 0] 26) = x := ⟨_, rfl⟩
  have hb2 : Below w.heap.size w W2 := by rw [← hW2]; exact Below.al (Below.al (Below.refl _ _))
  have hx2 : Boxes W2 [(w.heap.size + 1, [.int .i64 0, .bool false, .slice none 0 0]), (w.heap.size, [.int .i64 p, .bool true, .slice a m c])] := by
    rw [← hW2]
    exact ((Boxes.nil w).alloc #[.int .i64 p, .bool true, .slice a m c] 26 (b := w.heap.size) rfl).alloc #[.int .i64 0, .bool false, .slice none 0 0] 26 (b := w.heap.size + 1) (by simp)
  have hsz2 : W2.heap.size = w.heap.size + 2 := by rw [← hW2]; simp
  have n1 := hx2.cell 1 1 rfl rfl
  have HX2 := Lib.hid hx2
  have HB2 := Lib.hid hb2
  have HR := Lib.hid h1
  have HC := Lib.hid hcells
  have HLT := Lib.hid hlt
  have HAT := Lib.hid hat
  have HHAS := Lib.hid hhas
  have HKEY := Lib.hid hkey
  have HLM := Lib.hid hlm
  have hcl : (cellsR (.leaf p l)).length = m := by rw [cellsR_len]; exact hml
  have HCL := Lib.hid hcl
  clear hx2 hb2 h1 h hfa hml e1 hcells hlt hat hhas hkey hlm hR hP hhs hl9 hcl
  go_enter Try.func60, Try.ntmps60
  go_upto_block 0 with (fail)
  obtain ⟨W3, hW3⟩ : ∃ x, x = W2.alloc (.cells #[.string (strOf key), .string (strOf d), .slice none 0 0, .slice none 0 0] 48) := ⟨_, rfl⟩
  rw [← hW3]
  have hb3 : Below w.heap.size w W3 := by rw [hW3]; exact Below.al HB2.out
  have hx3 : Boxes W3 [(w.heap.size + 2, [.string (strOf key), .string (strOf d), .slice none 0 0, .slice none 0 0]), (w.heap.size + 1, [.int .i64 0, .bool false, .slice none 0 0]), (w.heap.size, [.int .i64 p, .bool true, .slice a m c])] := by
    rw [hW3]
    exact HX2.out.alloc #[.string (strOf key), .string (strOf d), .slice none 0 0, .slice none 0 0] 48 (b := w.heap.size + 2) (by omega)
  have hs3 : W3.heap.size = w.heap.size + 3 := by rw [hW3]; simp; omega
  have n2 := hx3.cell 2 2 rfl rfl
  have HX3 := Lib.hid hx3
  have HB3 := Lib.hid hb3
  have HS3 := Lib.hid hs3
  have hF3 : ∀ b, F b → b < W3.heap.size := fun b hb => by have := hF b hb; omega
  have HF3 := Lib.hid hF3
  clear hx3 hb3 hW3 hW2 hs3 hF3 n1
  go_wp2_with fail
  go_loop [10] (fun s => ∃ i : Nat, i ≤ P ∧ s = .int .i64 i) (fun s => P - (intOf s).toNat)
  case atStart => exact ⟨0, Nat.zero_le _, rfl⟩
  case round =>
    obtain ⟨i, hi, rfl⟩ := hrel
    by_cases hiP : i < P
    · obtain ⟨b, off, y, _, _, _, _, _, _, rfl, hbb, hy, _, _, _, _, _, e0, _⟩ := RNodeOn.cell HR.out (show i < m by omega)
      have hk : y.key < key := by
        have := HLT.out i hiP
        rw [HKEY.out i y hy] at this
        exact this
      obtain ⟨c1, c2, c3, c4⟩ := cmp_lt hk
      have v0 := (HB3.out.cell (p := ⟨b, off + i * 4, none⟩) hbb).trans e0
      have him : (i : Int) < (m : Int) := by omega
      clear hk hy e0
      go_wp2_with fail
      go_round
      case rel => exact ⟨i + 1, by omega, by go_num⟩
      case measure => simp [intOf]; omega
    · obtain rfl : i = P := by omega
      by_cases hPm' : i < m
      · obtain ⟨b, off, y, _, _, _, _, _, _, rfl, hbb, hy, _, _, _, _, _, e0, _⟩ := RNodeOn.cell HR.out (show i < m by omega)
        have v0 := (HB3.out.cell (p := ⟨b, off + i * 4, none⟩) hbb).trans e0
        have him : (i : Int) < (m : Int) := by omega
        have hna : ¬ y.key < key := by
          have := HAT.out hPm'
          rw [HKEY.out i y hy] at this
          exact this
        have hha := HHAS.out
        rw [HKEY.out i y hy] at hha
        rcases ktri y.key key with hk | hk | hk
        · exact absurd hk hna
        · obtain rfl : hs = true := by rw [hha, hk]; simp
          obtain ⟨c1, c2⟩ := cmp_eq key
          rw [hk] at v0
          have hcr := HC.out
          rw [if_pos rfl] at hcr
          have hcnt : cntT (.leaf 0 R) = m := by
            have := congrArg List.length hcr
            rw [cellsR_len] at this
            simp only [List.length_append, List.length_take, List.length_drop, List.length_singleton, HCL.out] at this
            omega
          obtain ⟨W4, hW4⟩ : ∃ x, W3.alloc (.cells #[.string (strOf key), .string (strOf d), .slice none 0 0, .slice none 0 0] 48) = x := ⟨_, rfl⟩
          have hb34 : Below W3.heap.size W3 W4 := by rw [← hW4]; exact Below.al (Below.refl _ _)
          have hz : BoxAt W4 W3.heap.size #[.string (strOf key), .string (strOf d), .slice none 0 0, .slice none 0 0] := by rw [← hW4]; exact BoxAt.here
          have hb4 := below_via HB3.out hb34
          have CW3 := with_to (G := Fr F W3) (n := n) (wc := W4) (W := W4) (t := .leaf 0 R) rfl hcnt hcr (Below.refl _ _) (fun b hb => .inr (by have := hb34.size; omega)) (TabR.mono (TabR.below (Nat.le_refl _) hb4 HR.out) (fun _ _ hy => RcOn.mono (fun b hf => Fr.old b hf) (RcOn.below hy hb4))) (one_cell hz (RcOn.fresh _ _ _ key d)) hPm' (by omega) (by omega)
          have hx4 := HX3.out.step hb34
          have m0 := HX3.out.cell 0 0 rfl rfl
          have m1 := HX3.out.cell 0 1 rfl rfl
          have m2 := HX3.out.cell 0 2 rfl rfl
          have m3 := HX3.out.cell 0 3 rfl rfl
          have HX4 := Lib.hid hx4
          have HB4 := Lib.hid hb4
          clear hx4 hb4 hz hb34 hcr hcnt hna hha hk e0 hy
          subst hW4
          go_wp2_with fail
          refine CW3.mono ?_
          rintro e w5 ⟨a5, d5, rfl, n5', hb5⟩
          have n5 : RNodeOn (Fr F W3) (n + 1) w5 [.int .i64 0, .bool true, .slice a5 m d5] (.leaf 0 R) := n5'
          have hx5 := HX4.out.step hb5
          have z0 := hx5.cell 1 0 rfl rfl
          have z1 := hx5.cell 1 1 rfl rfl
          have z2 := hx5.cell 1 2 rfl rfl
          have y0 := hx5.frozen 1 0 rfl
          have y1 := hx5.frozen 1 1 rfl
          have y2 := hx5.frozen 1 2 rfl
          obtain ⟨t0, t1, t2, HE⟩ := rend (F := F) (w := w) (hx5.sub (m := [(w.heap.size + 1, [.int .i64 0, .bool false, .slice none 0 0])]) (by simp)) (by omega) (fun hg => by
            have := HS3.out
            rcases hg with hg | hg
            · have := hF _ hg; omega
            · omega) (fun b hb => by
            have := HS3.out
            rcases hb with hb | hb
            · exact .inl hb
            · exact .inr (by omega)) n5 (below_via HB4.out hb5)
          clear n5 hb5 CW3 hx5 n5'
          go_wp2_with fail
          refine bodyPost_ret (v := .agg #[.int .i64 0, .bool true, .slice a5 (m) d5]) (by simp only [results, Try.results60]; simp [go_sem, t0, t1, t2]) rfl HE.out
        · obtain rfl : hs = false := by rw [hha]; simp; intro e; rw [e] at hk; exact klt_irrefl _ hk
          obtain ⟨c1, c2, c3, c4⟩ := cmp_lt hk
          clear hna hha hk e0 hy
          have hi9 : i ≤ m := by omega
          have hcr := HC.out
          rw [if_neg (by simp), Nat.add_zero] at hcr
          have hs3 := HS3.out
          have hcl := HCL.out
          have hb3 := HB3.out
          have TR : TabR 4 (RcOn F n W3) W3 _ m c (cellsR (.leaf p l)) := TabR.mono (TabR.below (Nat.le_refl _) hb3 HR.out) (fun _ _ hy => RcOn.below hy hb3)
          have c0 : CellsF 48 F n W3.heap.size W3 (.slice none 0 0) [] := CellsF.nil _ _ _ _ _
          obtain ⟨v1, w1, hr1, c1', hg1⟩ := c0.row Try.underlying24 info_Cw (Nat.le_refl _) HF3.out (by simp) (TabR.tk TR hi9) (by omega)
          rw [List.nil_append] at c1'
          have hb1 : Below W3.heap.size W3 w1 := (Below.refl _ _).grown hg1 (Nat.le_refl _) (fun g hg => by cases hg)
          have hx1 := HX3.out.step hb1
          have hl1 : ((cellsR (.leaf p l)).take i).length = i := by rw [List.length_take, hcl, Nat.min_eq_left hi9]
          obtain ⟨v2, w2, hr2, c2', hg2⟩ := c1'.append Try.underlying24 info_Cw hb1.size HF3.out (by rw [hl1]; omega) (RcOn.fresh F n w1 key d)
          have hb2 : Below W3.heap.size W3 w2 := hb1.grown hg2 hb1.size (fun g hg => (c1'.ge hg).1)
          have hl2 : ((cellsR (.leaf p l)).take i ++ [(⟨key, ⟨d, []⟩, none⟩ : Rc)]).length = i + 1 := by rw [List.length_append, hl1]; rfl
          obtain ⟨ad, had, hsl⟩ := slice_from elem_Cw size_Cw (some ⟨b, off, none⟩) m c i hi9
          have TR2 : TabR 4 (RcOn F n w2) w2 ad (m - i) (c - i) ((cellsR (.leaf p l)).drop i) := by
            rw [had]
            exact TabR.mono (TabR.dp (TabR.below (Nat.le_refl _) hb2 TR) hi9) (fun _ _ hy => RcOn.below hy hb2)
          obtain ⟨v3, w3, hr3, c3', hg3⟩ := c2'.row Try.underlying24 info_Cw hb2.size HF3.out (by rw [hl2]; omega) TR2 (by omega)
          have hb3' : Below W3.heap.size W3 w3 := hb2.grown hg3 hb2.size (fun g hg => (c2'.ge hg).1)
          rw [← hcr] at c3'
          have hlen : cntT (.leaf 0 R) = m + 1 := by
            have := congrArg List.length hcr
            rw [cellsR_len, List.length_append, hl2, List.length_drop, hcl] at this
            omega
          have o3 := c3'.own HF3.out
          obtain ⟨a3, d3, ev3, _, _, _, _⟩ := o3.sl
          rw [cellsR_len, hlen] at ev3
          subst ev3
          have n3 : RNodeOn (Fr F W3) (n + 1) w3 [.int .i64 0, .bool true, .slice a3 (m + 1) d3] (.leaf 0 R) := o3.node (w := W3) (Nat.le_refl _)
          have hbe := below_via hb3 hb3'
          have hx3 := HX3.out.step hb3'
          have m0 := hx1.cell 0 0 rfl rfl
          have m1 := hx1.cell 0 1 rfl rfl
          have m2 := hx1.cell 0 2 rfl rfl
          have m3 := hx1.cell 0 3 rfl rfl
          have nn1 := hx1.cell 2 2 rfl rfl
          have nn2 := (HX3.out.step hb2).cell 2 2 rfl rfl
          have hic : i ≤ c := by omega
          clear c0 c1' c2' c3' o3 TR TR2 hg1 hg2 hg3 hb1 hb2 hb3' hb3 hx1 hl1 hl2 had hcr hcl hs3 hlen
          go_upto_region 12 with (fail)
          go_upto_region 13 with (at_builtin; refine wpList_append_run rfl _ _ _ _ rfl rfl rfl hr1 ?_)
          go_upto_region 14 with (at_builtin; refine wpList_append_run rfl _ _ _ _ rfl rfl rfl hr2 ?_)
          go_upto_region 15 with (at_builtin; refine wpList_append_run rfl _ _ _ _ rfl rfl rfl hr3 ?_)
          have z0 := hx3.cell 1 0 rfl rfl
          have z1 := hx3.cell 1 1 rfl rfl
          have z2 := hx3.cell 1 2 rfl rfl
          have y0 := hx3.frozen 1 0 rfl
          have y1 := hx3.frozen 1 1 rfl
          have y2 := hx3.frozen 1 2 rfl
          obtain ⟨t0, t1, t2, HE⟩ := rend (F := F) (w := w) (hx3.sub (m := [(w.heap.size + 1, [.int .i64 0, .bool false, .slice none 0 0])]) (by simp)) (by omega) (fun hg => by
            have := HS3.out
            rcases hg with hg | hg
            · have := hF _ hg; omega
            · omega) (fun b hb => by
            have := HS3.out
            rcases hb with hb | hb
            · exact .inl hb
            · exact .inr (by omega)) n3 hbe
          clear n3 hbe hx3
          go_wp2_with fail
          refine bodyPost_ret (v := .agg #[.int .i64 0, .bool true, .slice a3 (m + 1) d3]) (by simp only [results, Try.results60]; simp [go_sem, t0, t1, t2]) rfl HE.out
      · obtain rfl : hs = false := by
          rw [HHAS.out, List.getElem?_eq_none (by have := HLM.out; simp [keysOf]; omega)]
          rfl
        have him : decide ((i : Int) < (m : Int)) = false := by simp; omega
        have hi9 : i ≤ m := by omega
        have hcr := HC.out
        rw [if_neg (by simp), Nat.add_zero] at hcr
        have hs3 := HS3.out
        have hcl := HCL.out
        have hb3 := HB3.out
        have TR : TabR 4 (RcOn F n W3) W3 _ m c (cellsR (.leaf p l)) := TabR.mono (TabR.below (Nat.le_refl _) hb3 HR.out) (fun _ _ hy => RcOn.below hy hb3)
        have c0 : CellsF 48 F n W3.heap.size W3 (.slice none 0 0) [] := CellsF.nil _ _ _ _ _
        obtain ⟨v1, w1, hr1, c1', hg1⟩ := c0.row Try.underlying24 info_Cw (Nat.le_refl _) HF3.out (by simp) (TabR.tk TR hi9) (by omega)
        rw [List.nil_append] at c1'
        have hb1 : Below W3.heap.size W3 w1 := (Below.refl _ _).grown hg1 (Nat.le_refl _) (fun g hg => by cases hg)
        have hx1 := HX3.out.step hb1
        have hl1 : ((cellsR (.leaf p l)).take i).length = i := by rw [List.length_take, hcl, Nat.min_eq_left hi9]
        obtain ⟨v2, w2, hr2, c2', hg2⟩ := c1'.append Try.underlying24 info_Cw hb1.size HF3.out (by rw [hl1]; omega) (RcOn.fresh F n w1 key d)
        have hb2 : Below W3.heap.size W3 w2 := hb1.grown hg2 hb1.size (fun g hg => (c1'.ge hg).1)
        have hl2 : ((cellsR (.leaf p l)).take i ++ [(⟨key, ⟨d, []⟩, none⟩ : Rc)]).length = i + 1 := by rw [List.length_append, hl1]; rfl
        obtain ⟨ad, had, hsl⟩ := slice_from elem_Cw size_Cw a m c i hi9
        have TR2 : TabR 4 (RcOn F n w2) w2 ad (m - i) (c - i) ((cellsR (.leaf p l)).drop i) := by
          rw [had]
          exact TabR.mono (TabR.dp (TabR.below (Nat.le_refl _) hb2 TR) hi9) (fun _ _ hy => RcOn.below hy hb2)
        obtain ⟨v3, w3, hr3, c3', hg3⟩ := c2'.row Try.underlying24 info_Cw hb2.size HF3.out (by rw [hl2]; omega) TR2 (by omega)
        have hb3' : Below W3.heap.size W3 w3 := hb2.grown hg3 hb2.size (fun g hg => (c2'.ge hg).1)
        rw [← hcr] at c3'
        have hlen : cntT (.leaf 0 R) = m + 1 := by
          have := congrArg List.length hcr
          rw [cellsR_len, List.length_append, hl2, List.length_drop, hcl] at this
          omega
        have o3 := c3'.own HF3.out
        obtain ⟨a3, d3, ev3, _, _, _, _⟩ := o3.sl
        rw [cellsR_len, hlen] at ev3
        subst ev3
        have n3 : RNodeOn (Fr F W3) (n + 1) w3 [.int .i64 0, .bool true, .slice a3 (m + 1) d3] (.leaf 0 R) := o3.node (w := W3) (Nat.le_refl _)
        have hbe := below_via hb3 hb3'
        have hx3 := HX3.out.step hb3'
        have m0 := hx1.cell 0 0 rfl rfl
        have m1 := hx1.cell 0 1 rfl rfl
        have m2 := hx1.cell 0 2 rfl rfl
        have m3 := hx1.cell 0 3 rfl rfl
        have nn1 := hx1.cell 2 2 rfl rfl
        have nn2 := (HX3.out.step hb2).cell 2 2 rfl rfl
        have hic : i ≤ c := by omega
        clear c0 c1' c2' c3' o3 TR TR2 hg1 hg2 hg3 hb1 hb2 hb3' hb3 hx1 hl1 hl2 had hcr hcl hs3 hlen
        go_upto_region 12 with (fail)
        go_upto_region 13 with (at_builtin; refine wpList_append_run rfl _ _ _ _ rfl rfl rfl hr1 ?_)
        go_upto_region 14 with (at_builtin; refine wpList_append_run rfl _ _ _ _ rfl rfl rfl hr2 ?_)
        go_upto_region 15 with (at_builtin; refine wpList_append_run rfl _ _ _ _ rfl rfl rfl hr3 ?_)
        have z0 := hx3.cell 1 0 rfl rfl
        have z1 := hx3.cell 1 1 rfl rfl
        have z2 := hx3.cell 1 2 rfl rfl
        have y0 := hx3.frozen 1 0 rfl
        have y1 := hx3.frozen 1 1 rfl
        have y2 := hx3.frozen 1 2 rfl
        obtain ⟨t0, t1, t2, HE⟩ := rend (F := F) (w := w) (hx3.sub (m := [(w.heap.size + 1, [.int .i64 0, .bool false, .slice none 0 0])]) (by simp)) (by omega) (fun hg => by
          have := HS3.out
          rcases hg with hg | hg
          · have := hF _ hg; omega
          · omega) (fun b hb => by
          have := HS3.out
          rcases hb with hb | hb
          · exact .inl hb
          · exact .inr (by omega)) n3 hbe
        clear n3 hbe hx3
        go_wp2_with fail
        refine bodyPost_ret (v := .agg #[.int .i64 0, .bool true, .slice a3 (m + 1) d3]) (by simp only [results, Try.results60]; simp [go_sem, t0, t1, t2]) rfl HE.out
end Go.Proofs.Ytemfnjlfcemehaa

/- The document's Put, and the empty tree. -/
namespace Go.Proofs.Ytemfnjlfcemehaa
open Go.RowKit

theorem RNodeOn.less {F : Nat → Prop} : ∀ {m n : Nat} {lo hi : List UInt8} {w : World} {cs : List Value} {t : Tr}, RNodeOn F n w cs t → Shape m lo hi t → RNodeOn F m w cs t
  | 0, _, _, _, _, _, _, _, h => h.elim
  | _, 0, _, _, _, _, _, h, _ => h.elim
  | m + 1, n + 1, lo, hi, w, cs, .leaf p l, h, _ => by
    obtain ⟨a, c, e, h1, f1⟩ := h.at
    refine ⟨a, c, e, TabR.agree h1 (Fa.mono f1 (fun _ h => h)) (AgreeF.refl w) (fun cs y hy h => ?_), f1⟩
    obtain ⟨pa, pn, pc, ka, kn, kc, e, k1, f1, k2, f2⟩ := h
    obtain ⟨x, _, rfl⟩ := List.mem_map.1 hy
    exact ⟨pa, pn, pc, ka, kn, kc, e, k1, f1, TabR.agree k2 (Fa.mono f2 (fun _ h => h)) (AgreeF.refl w) (fun cs y hy h => by cases hy), f2⟩
  | m + 1, n + 1, lo, hi, w, cs, .node p l, h, hs => by
    obtain ⟨a, c, e, h1, f1⟩ := h.at
    have hall := node_kids hs
    refine ⟨a, c, e, TabR.agree h1 (Fa.mono f1 (fun _ h => h)) (AgreeF.refl w) (fun cs y hy h => ?_), f1⟩
    obtain ⟨pa, pn, pc, ka, kn, kc, e, k1, f1, k2, f2⟩ := h
    obtain ⟨x, hx, rfl⟩ := List.mem_map.1 hy
    obtain ⟨_, lo', hi', g, _⟩ := hall x hx
    exact ⟨pa, pn, pc, ka, kn, kc, e, k1, f1, TabR.agree k2 (Fa.mono f2 (fun _ h => h)) (AgreeF.refl w) (fun cs y hy h => by
      have : y = x.2 := by simpa using hy
      subst this
      exact RNodeOn.less h g), f2⟩
theorem rput_any : ∀ {N : Nat} {F : Nat → Prop} {w : World} {cs : List Value} {t : Tr} (key d : List UInt8), (∀ b, F b → b < w.heap.size) → RNodeOn F N w cs t → PutOk N t key ⟨d, []⟩ →
    Calls Try.prog 60 #[.agg cs.toArray, .string (strOf key), .string (strOf d)] w (RNodeTo F N w (putT N t key ⟨d, []⟩))
  | 0, _, _, _, _, _, _, _, h, _ => h.elim
  | _ + 1, _, _, _, .leaf _p _l, _key, _d, hF, h, ho => rput_leaf hF h ho.1
  | _N + 1, _, _, _, .node _p _l, key, d, hF, h, ho => rput_node (fun h1 h2 h3 => rput_any key d h1 h2 h3) hF h ho
set_option maxRecDepth 100000 in
set_option maxHeartbeats 1000000 in
theorem rPut_any {N : Nat} {F : Nat → Prop} {w : World} {cs : List Value} {t : Tr} (key d : List UInt8) (hF : ∀ b, F b → b < w.heap.size) (h : RNodeOn F N w cs t) (ho : PutOk N t key ⟨d, []⟩) (ht : TopOk N (putT N t key ⟨d, []⟩)) :
    Calls Try.prog 35 #[.agg cs.toArray, .string (strOf key), .string (strOf d)] w (RNodeTo F (N + 1) w (putW N t key ⟨d, []⟩)) := by
  cases N with
  | zero => exact h.elim
  | succ N =>
  obtain ⟨a, c, rfl, _, _⟩ := h.at
  obtain ⟨lf, hlf⟩ : ∃ x, t.isLeaf = x := ⟨_, rfl⟩
  obtain ⟨p, hp⟩ : ∃ x, t.page = x := ⟨_, rfl⟩
  obtain ⟨m, hm⟩ : ∃ x, cntT t = x := ⟨_, rfl⟩
  rw [hlf, hp, hm] at h ⊢
  obtain ⟨W2, hW2⟩ : ∃ x, (w.alloc (.cells #[.int .i64 p, .bool lf, .slice a m c] 26)).alloc (.cells #[.int .i64 0, .bool false, .slice none 0 0] 26) = x := ⟨_, rfl⟩
  have hb2 : Below w.heap.size w W2 := by rw [← hW2]; exact Below.al (Below.al (Below.refl _ _))
  have hx2 : Boxes W2 [(w.heap.size + 1, [.int .i64 0, .bool false, .slice none 0 0]), (w.heap.size, [.int .i64 p, .bool lf, .slice a m c])] := by
    rw [← hW2]
    exact ((Boxes.nil w).alloc #[.int .i64 p, .bool lf, .slice a m c] 26 (b := w.heap.size) rfl).alloc #[.int .i64 0, .bool false, .slice none 0 0] 26 (b := w.heap.size + 1) (by simp)
  have hsz2 : W2.heap.size = w.heap.size + 2 := by rw [← hW2]; simp
  have C1 := rput_any key d (fun b hb => by have := hF b hb; omega) (h.below hb2) ho
  obtain ⟨T, hT⟩ : ∃ x, putT (N + 1) t key ⟨d, []⟩ = x := ⟨_, rfl⟩
  have HT : Hid (putW (N + 1) t key ⟨d, []⟩ = topT (N + 1) T) := Lib.hid (by rw [← hT]; rfl)
  rw [hT] at C1 ht
  have n0 := hx2.cell 1 0 rfl rfl
  have n1 := hx2.cell 1 1 rfl rfl
  have n2 := hx2.cell 1 2 rfl rfl
  have HX := Lib.hid hx2
  have HB := Lib.hid hb2
  have HTO := Lib.hid ht
  clear h ho ht hx2 hb2 hlf hp hm hT
  show Calls _ _ #[.agg #[.int .i64 p, .bool lf, .slice a m c], .string (strOf key), .string (strOf d)] _ _
  go_enter Try.func35, Try.ntmps35
  go_wp2_with fail
  refine C1.mono ?_
  rintro e w1 hq
  obtain ⟨p1, l1, a1, m1, d1, rfl, hn1, hb1⟩ := hq.split
  have C2 := rtop_any (F := fun x => Fr F W2 x ∧ x < w1.heap.size) (fun _ h => h.2) hn1.lt HTO.out
  have hx1 := HX.out.step hb1
  have hbw1 := below_via HB.out hb1
  have hs1 : w.heap.size + 2 ≤ w1.heap.size := by have := hb1.size; omega
  have HX1 := Lib.hid hx1
  have HB1 := Lib.hid hbw1
  clear C1 hn1 hb1 hx1 hbw1 n0 n1 n2 hW2 hq
  go_wp2_with fail
  refine C2.mono ?_
  rintro e w2 hq
  obtain ⟨p2, l2, a2, m2, d2, rfl, hn2, hb2⟩ := hq.split
  have hx2 := HX1.out.step hb2
  have z0 := hx2.cell 0 0 rfl rfl
  have z1 := hx2.cell 0 1 rfl rfl
  have z2 := hx2.cell 0 2 rfl rfl
  have y0 := hx2.frozen 0 0 rfl
  have y1 := hx2.frozen 0 1 rfl
  have y2 := hx2.frozen 0 2 rfl
  obtain ⟨t0, t1, t2, HE⟩ := rend (F := F) (w := w) (hx2.sub (m := [(w.heap.size + 1, [.int .i64 0, .bool false, .slice none 0 0])]) (by simp)) (by omega) (fun hg => by
    rcases hg with hg | hg
    · rcases hg.1 with hg | hg
      · have := hF _ hg; omega
      · omega
    · omega) (fun b hb => by
    rcases hb with hb | hb
    · rcases hb.1 with hb | hb
      · exact .inl hb
      · exact .inr (by omega)
    · exact .inr (by omega)) hn2 (below_via HB1.out hb2)
  clear hx2 hn2 hb2 hq C2
  go_wp2_with fail
  refine bodyPost_ret (v := .agg #[.int .i64 p2, .bool l2, .slice a2 m2 d2]) (by simp only [results, Try.results35]; simp [go_sem, t0, t1, t2]) rfl ?_
  rw [HT.out]
  exact HE.out
theorem rPut_whole {n : Nat} {F : Nat → Prop} {w : World} {cs : List Value} {t : Tr} (hF : ∀ b, F b → b < w.heap.size) (h : RNodeOn F n w cs t) (hw : Whole n t) (key d : List UInt8) (hk : keyOk key) (hd : d.length ≤ 400) :
    Calls Try.prog 35 #[.agg cs.toArray, .string (strOf key), .string (strOf d)] w (RNodeTo F (n + 1) w (putW n t key ⟨d, []⟩)) := by
  have hv : valOk ⟨d, []⟩ := ⟨hd, fun h => absurd rfl h⟩
  obtain ⟨h1, h2⟩ := hw.put hk hv
  exact rPut_any key d hF h h1 h2
theorem rempty_any (w : World) (F : Nat → Prop) : Calls Try.prog 32 #[] w (RNodeTo F 1 w (.leaf 0 [])) := by
  go_enter Try.func32, Try.ntmps32
  go_wp2_with fail
  refine bodyPost_ret (v := .agg #[.int .i64 0, .bool true, .slice none 0 0]) (by simp [results, Try.results32, go_sem]) rfl ⟨[.int .i64 0, .bool true, .slice none 0 0], rfl, ?_, ?_⟩
  · exact RNodeOn.mk (t := .leaf 0 []) (TabR.nil _) (Fa.zero _ _)
  · exact Below.al (Below.refl _ _)
end Go.Proofs.Ytemfnjlfcemehaa

/- The document's Find (printed by gen_treRg.py). -/
namespace Go.Proofs.Ytemfnjlfcemehaa
open Go.RowKit

theorem find_first {key : List UInt8} : ∀ {l : List (List UInt8 × Tv)} {i : Nat} {c : List UInt8 × Tv}, (∀ j, j < i → (keysOf l)[j]? ≠ some key) → l[i]? = some c → c.1 = key → (l.find? fun c => c.1 == key) = some c
  | [], i, c, _, h, _ => by simp at h
  | x :: r, 0, c, _, h, e => by
    simp at h
    subst h
    rw [List.find?_cons_of_pos (by simpa using e)]
  | x :: r, i + 1, c, h1, h, e => by
    have hx : x.1 ≠ key := fun e => h1 0 (by omega) (by simp [keysOf, e])
    rw [List.find?_cons_of_neg (by simpa using hx)]
    exact find_first (i := i) (fun j hj => by have := h1 (j + 1) (by omega); simpa [keysOf] using this) (by simpa using h) e
theorem find_never {key : List UInt8} {l : List (List UInt8 × Tv)} (h : ∀ j, j < l.length → (keysOf l)[j]? ≠ some key) : (l.find? fun c => c.1 == key) = none := by
  rw [List.find?_eq_none]
  intro c hc e
  obtain ⟨j, hj, rfl⟩ := List.getElem_of_mem hc
  exact h j hj (by simp [keysOf, hj]; simpa using e)
theorem rfind_leaf {n : Nat} {F : Nat → Prop} {w : World} {cs : List Value} {p : Int} {l : List (List UInt8 × Tv)} (h : RNodeOn F (n + 1) w cs (.leaf p l)) (key : List UInt8) (hl : l.length ≤ 1000) :
    Calls Try.prog 38 #[.agg cs.toArray, .string (strOf key)] w (FoundPost w ((l.find? fun c => c.1 == key).map (·.2.data))) := by
  obtain ⟨a, c, rfl, h1, _⟩ := h.at
  obtain ⟨e1, e2, e3⟩ := h1.lens
  obtain ⟨m, hml⟩ : ∃ m, cntT (.leaf p l) = m := ⟨_, rfl⟩
  have hlm : l.length = m := hml
  rw [hml] at h1 e1 e2 ⊢
  obtain ⟨R, hR⟩ : ∃ R, (l.find? fun c => c.1 == key).map (·.2.data) = R := ⟨_, rfl⟩
  have hfirst : ∀ (i : Nat) (c : List UInt8 × Tv), (∀ j, j < i → (keysOf l)[j]? ≠ some key) → l[i]? = some c → c.1 = key → R = some c.2.data := fun i c h1 h2 h3 => by rw [← hR, find_first h1 h2 h3]; rfl
  have hnever : (∀ j, j < m → (keysOf l)[j]? ≠ some key) → R = none := fun h => by rw [← hR, find_never (by rw [hlm]; exact h)]; rfl
  rw [hR]
  show Calls _ _ #[.agg #[.int .i64 p, .bool true, .slice a m c], .string (strOf key)] _ _
  obtain ⟨W2, hW2⟩ : ∃ x, w.alloc (.cells #[.int .i64 p, .bool true, .slice a m c] 26) = x := ⟨_, rfl⟩
  have hb2 : Below w.heap.size w W2 := by rw [← hW2]; exact Below.al (Below.refl _ _)
  have hx2 : Boxes W2 [(w.heap.size, [.int .i64 p, .bool true, .slice a m c])] := by
    rw [← hW2]
    exact (Boxes.nil w).alloc #[.int .i64 p, .bool true, .slice a m c] 26 (b := w.heap.size) rfl
  have n1 := hx2.cell 0 1 rfl rfl
  have n2 := hx2.cell 0 2 rfl rfl
  have HB2 := Lib.hid hb2
  have HR := Lib.hid h1
  have HF := Lib.hid hfirst
  have HN := Lib.hid hnever
  have hm9 : m ≤ 1000 := by omega
  clear h h1 hx2 hb2 hml hlm e1 hfirst hnever hR hl
  go_enter Try.func38, Try.ntmps38
  go_wp2_with fail
  clear hW2
  go_loop [6] (fun s => ∃ i : Nat, i ≤ m ∧ s = .int .i64 i ∧ Hid (∀ j, j < i → (keysOf l)[j]? ≠ some key)) (fun s => m - (intOf s).toNat)
  case atStart => exact ⟨0, Nat.zero_le _, rfl, Lib.hid (fun j hj => by omega)⟩
  case round =>
    obtain ⟨i, hi, rfl, hpre⟩ := hrel
    by_cases him : i < m
    · obtain ⟨b, off, y, _, _, _, _, _, _, rfl, hbb, hy, _, _, _, _, _, e0, e1, _⟩ := RNodeOn.cell HR.out him
      rw [cellsR_leaf] at hy
      obtain ⟨x, hx1, hx2⟩ := Option.map_eq_some_iff.1 hy
      subst hx2
      have v0 := (HB2.out.cell (p := ⟨b, off + i * 4, none⟩) hbb).trans e0
      have v1 := (HB2.out.cell (p := ⟨b, off + i * 4 + 1, none⟩) hbb).trans e1
      have him' : (i : Int) < (m : Int) := by omega
      by_cases hk : x.1 = key
      · have HE : Hid (FoundPost w R (.returned (.tuple #[.string (strOf x.2.data), .bool true])) W2) := Lib.hid (by
          rw [HF.out i x hpre.out hx1 hk]
          exact ⟨rfl, HB2.out⟩)
        obtain ⟨c1, c2⟩ := cmp_eq key
        rw [hk] at v0
        clear hx1 hk e0 e1 hy
        go_wp2_with fail
        go_ret2
        exact HE.out
      · have hne : ((strOf x.1).toList == (strOf key).toList) = false := by
          rw [strOf_toList, strOf_toList]; simpa using hk
        have hpre' : Hid (∀ j, j < i + 1 → (keysOf l)[j]? ≠ some key) := Lib.hid (fun j hj => by
          by_cases h : j < i
          · exact hpre.out j h
          · obtain rfl : j = i := by omega
            simp [keysOf, hx1, hk])
        clear hx1 hk e0 e1 hy
        go_wp2_with fail
        go_round
        case rel => exact ⟨i + 1, by omega, by go_num, hpre'⟩
        case measure => simp [intOf]; omega
    · have HE : Hid (FoundPost w R (.returned (.tuple #[.string (strOf []), .bool false])) W2) := Lib.hid (by
        rw [HN.out (fun j hj => hpre.out j (by omega))]
        exact ⟨rfl, HB2.out⟩)
      have him' : decide ((i : Int) < (m : Int)) = false := by simp; omega
      go_wp2_with fail
      go_ret2
      exact HE.out
set_option maxRecDepth 100000 in
set_option maxHeartbeats 2000000 in
theorem rfind_node {N : Nat} {key : List UInt8} (IH : ∀ {F : Nat → Prop} {w : World} {cs : List Value} {t : Tr}, RNodeOn F N w cs t → FindOk N t key → Calls Try.prog 38 #[.agg cs.toArray, .string (strOf key)] w (FoundPost w (findT N t key)))
    {F : Nat → Prop} {w : World} {cs : List Value} {p : Int} {l : List (List UInt8 × Tr)} (h : RNodeOn F (N + 1) w cs (.node p l)) (ho : FindOk (N + 1) (.node p l) key) :
    Calls Try.prog 38 #[.agg cs.toArray, .string (strOf key)] w (FoundPost w (findT (N + 1) (.node p l) key)) := by
  obtain ⟨o1, o2, o3⟩ := ho
  obtain ⟨a, c, rfl, h1, _⟩ := h.at
  obtain ⟨e1, e2, e3⟩ := h1.lens
  obtain ⟨m, hml⟩ : ∃ m, cntT (.node p l) = m := ⟨_, rfl⟩
  have hlm : l.length = m := hml
  have H := Lib.hid h
  rw [hml] at h1 e1 e2 H ⊢
  obtain ⟨k, hk⟩ : ∃ k, wayF (keysOf l) key = k := ⟨_, rfl⟩
  have hkm : k < m := by rw [← hk, ← hlm, ← show (keysOf l).length = l.length by simp [keysOf]]; exact wayF_lt key (by simpa [keysOf] using o1)
  have hm9 : m ≤ 1000 := by omega
  obtain ⟨b, off, bk, ok, kcs, pa, pn, pc, kc, rfl, hbb, hbk, hon, d0, d1, d2, d3, hck, hkc1, hkc2⟩ := RNodeOn.kid h1 hkm
  rw [hk] at o3
  obtain ⟨R, hR⟩ : ∃ R, findT (N + 1) (.node p l) key = R := ⟨_, rfl⟩
  have hRk : findT N (kidAt l k) key = R := by rw [← hR, ← hk]; rfl
  obtain ⟨kid, hkd⟩ : ∃ x, kidAt l k = x := ⟨_, rfl⟩
  rw [hkd] at hon o3 hRk
  rw [hR]
  cases N with
  | zero => exact hon.elim
  | succ N =>
  obtain ⟨ak, ck, rfl, _, _⟩ := hon.at
  obtain ⟨km, hkm'⟩ : ∃ x, cntT kid = x := ⟨_, rfl⟩
  obtain ⟨kp, hkp⟩ : ∃ x, kid.page = x := ⟨_, rfl⟩
  obtain ⟨kl, hkl⟩ : ∃ x, kid.isLeaf = x := ⟨_, rfl⟩
  rw [hkm', hkp, hkl] at hon hck
  show Calls _ _ #[.agg #[.int .i64 p, .bool false, .slice (some ⟨b, off, none⟩) m c], .string (strOf key)] _ _
  obtain ⟨W2, hW2⟩ : ∃ x, w.alloc (.cells #[.int .i64 p, .bool false, .slice (some ⟨b, off, none⟩) m c] 26) = x := ⟨_, rfl⟩
  have hb2 : Below w.heap.size w W2 := by rw [← hW2]; exact Below.al (Below.refl _ _)
  have hx2 : Boxes W2 [(w.heap.size, [.int .i64 p, .bool false, .slice (some ⟨b, off, none⟩) m c])] := by
    rw [← hW2]
    exact (Boxes.nil w).alloc #[.int .i64 p, .bool false, .slice (some ⟨b, off, none⟩) m c] 26 (b := w.heap.size) rfl
  have CW : ∀ W, Below W2.heap.size W2 W → Calls Try.prog 47 #[.agg #[.int .i64 p, .bool false, .slice (some ⟨b, off, none⟩) m c], .string (strOf key)] W fun e w' => e = .returned (.int .i64 (k : Int)) ∧ Below W.heap.size W w' := fun W hW => by
    have := rway_any (H.out.below (below_via hb2 hW)).toRIn key (by rw [hml]; exact hm9)
    rw [show (Tr.node p l).keys = keysOf l from rfl, hk] at this
    exact this
  have CF : ∀ W, Below W2.heap.size W2 W → Calls Try.prog 38 #[.agg #[.int .i64 kp, .bool kl, .slice ak km ck], .string (strOf key)] W (FoundPost W R) := fun W hW => by
    have := IH (hon.below (below_via hb2 hW)) o3
    rw [hRk] at this
    exact this
  have hlw := hx2.lt 0 rfl
  have n1 := hx2.cell 0 1 rfl rfl
  have n2 := hx2.cell 0 2 rfl rfl
  have N0 : ∀ W, Below W2.heap.size W2 W → W.cell? ⟨w.heap.size, 0, none⟩ = some (.int .i64 p) := fun W hW => (hW.cell (p := ⟨w.heap.size, 0, none⟩) hlw).trans (hx2.cell 0 0 rfl rfl)
  have N1 : ∀ W, Below W2.heap.size W2 W → W.cell? ⟨w.heap.size, 1, none⟩ = some (.bool false) := fun W hW => (hW.cell (p := ⟨w.heap.size, 1, none⟩) hlw).trans (hx2.cell 0 1 rfl rfl)
  have N2 : ∀ W, Below W2.heap.size W2 W → W.cell? ⟨w.heap.size, 2, none⟩ = some (.slice (some ⟨b, off, none⟩) m c) := fun W hW => (hW.cell (p := ⟨w.heap.size, 2, none⟩) hlw).trans (hx2.cell 0 2 rfl rfl)
  have V3 : ∀ W, Below W2.heap.size W2 W → W.cell? ⟨b, off + k * 4 + 3, none⟩ = some (.slice (some ⟨bk, ok, none⟩) 1 kc) := fun W hW => ((below_via hb2 hW).cell (p := ⟨b, off + k * 4 + 3, none⟩) hbb).trans d3
  have K0 : ∀ W, Below W2.heap.size W2 W → W.cell? ⟨bk, ok, none⟩ = some (.int .i64 kp) := fun W hW => ((below_via hb2 hW).cell (p := ⟨bk, ok, none⟩) hbk).trans (by simpa using hck 0 _ rfl)
  have K1 : ∀ W, Below W2.heap.size W2 W → W.cell? ⟨bk, ok + 1, none⟩ = some (.bool kl) := fun W hW => ((below_via hb2 hW).cell (p := ⟨bk, ok + 1, none⟩) hbk).trans (by simpa using hck 1 _ rfl)
  have K2 : ∀ W, Below W2.heap.size W2 W → W.cell? ⟨bk, ok + 2, none⟩ = some (.slice ak km ck) := fun W hW => ((below_via hb2 hW).cell (p := ⟨bk, ok + 2, none⟩) hbk).trans (by simpa using hck 2 _ rfl)
  have HB2 := Lib.hid hb2
  have hm0 : (0 : Int) < (m : Int) := by omega
  have hkm'' : (k : Int) < (m : Int) := by omega
  have hA00 : Below W2.heap.size W2 W2.drew := Below.dr (Below.refl _ _)
  clear h h1 hon d0 d1 d2 d3 hck hx2 hb2 IH e1 hml hlm hR hRk hkd hkp hkl hkm' o1 o2 o3 hk
  go_enter Try.func38, Try.ntmps38
  go_upto_region 2 with (fail)
  clear hW2
  refine wp_region_noPanic ?_
  refine wp_region_held_drew (S := (fun W => Below W2.heap.size W2 W)) (by kernel_rfl) (by (repeat (with_reducible first | assumption | exact Below.refl _ _ | apply Below.al | apply Below.dr))) (fun hHeld => ?_)
  refine wpAnyH_take (i := 0) (oi := { dst := some 16, op := Op.fieldAddr 26 (Operand.tmp 2) 2, type := 0, pos := "ref.go:58", after := #[], guard := none }) (v := ?_) rfl (by kernel_rfl) (by kernel_rfl) (by kernel_rfl) (fun _ _ _ h => h) (Or.inl ⟨by rfl, ?_⟩) (by assumption) ?_
  rotate_left
  · (intro W hW; (try dsimp only at hW); go_simp <;> (with_reducible rfl))
  try simp only [Act.put, List.setIfInBounds_toArray, List.set_cons_zero, List.set_cons_succ]
  refine wpAnyH_take (i := 1) (oi := { dst := some 17, op := Op.load 24 (Operand.tmp 16), type := 24, pos := "ref.go:58", after := #[{ on := 0, ground := Ground.data }], guard := none }) (v := ?_) rfl (by kernel_rfl) (by kernel_rfl) (by kernel_rfl) (fun _ _ _ h => h) (Or.inl ⟨by rfl, ?_⟩) (by assumption) ?_
  rotate_left
  · (intro W hW; (try dsimp only at hW); go_simp <;> (with_reducible rfl))
  try simp only [Act.put, List.setIfInBounds_toArray, List.set_cons_zero, List.set_cons_succ]
  refine wpAnyH_take (i := 2) (oi := { dst := some 18, op := Op.load 26 (Operand.tmp 2), type := 26, pos := "ref.go:58", after := #[], guard := none }) (v := ?_) rfl (by kernel_rfl) (by kernel_rfl) (by kernel_rfl) (fun _ _ _ h => h) (Or.inl ⟨by rfl, ?_⟩) (by assumption) ?_
  rotate_left
  · (intro W hW; (try dsimp only at hW); go_simp <;> (with_reducible rfl))
  try simp only [Act.put, List.setIfInBounds_toArray, List.set_cons_zero, List.set_cons_succ]
  refine wpAnyH_take (i := 3) (oi := { dst := some 19, op := Op.move (Operand.tmp 1), type := 9, pos := "ref.go:58", after := #[], guard := none }) (v := ?_) rfl (by kernel_rfl) (by kernel_rfl) (by kernel_rfl) (fun _ _ _ h => h) (Or.inl ⟨by rfl, ?_⟩) (by assumption) ?_
  rotate_left
  · (intro W hW; (try dsimp only at hW); go_simp <;> (with_reducible rfl))
  try simp only [Act.put, List.setIfInBounds_toArray, List.set_cons_zero, List.set_cons_succ]
  refine wpAnyH_take (i := 10) (oi := { dst := some 26, op := Op.move (Operand.tmp 1), type := 9, pos := "ref.go:58", after := #[], guard := none }) (v := ?_) rfl (by kernel_rfl) (by kernel_rfl) (by kernel_rfl) (fun _ _ _ h => h) (Or.inl ⟨by rfl, ?_⟩) (by assumption) ?_
  rotate_left
  · (intro W hW; (try dsimp only at hW); go_simp <;> (with_reducible rfl))
  try simp only [Act.put, List.setIfInBounds_toArray, List.set_cons_zero, List.set_cons_succ]
  refine wpAnyH_ready (rs := [4]) (by kernel_rfl) (by simp) (AllReadyH.cons (o := { dst := some 20, op := Op.call { callee := Callee.value (Operand.func 47), args := #[Operand.tmp 18, Operand.tmp 19], argTypes := #[26, 9] }, type := 3, pos := "ref.go:58", after := #[{ on := 2, ground := Ground.data }, { on := 3, ground := Ground.data }], guard := none }) rfl (fun K hK => ?_) AllReadyH.nil)
  (rw [if_pos (by rfl)]; go_simp; (with_reducible refine (CW _ ?_).mono ?_); (focus (repeat (with_reducible first | assumption | exact Below.refl _ _ | apply Below.al | apply Below.dr))); rintro e w3 ⟨rfl, hb3⟩; have hb23 : Below W2.heap.size W2 w3 := below_via (a := W2) (by (repeat (with_reducible first | assumption | exact Below.refl _ _ | apply Below.al | apply Below.dr))) hb3; go_wp2_with (fail))
  refine hK.out _ _ (by (repeat (with_reducible first | assumption | exact Below.refl _ _ | apply Below.al | apply Below.dr))) (fun hHeld => ?_)
  clear hK K
  try simp only [Act.put, List.setIfInBounds_toArray, List.set_cons_zero, List.set_cons_succ]
  refine wpAnyH_take (i := 5) (oi := { dst := some 21, op := Op.indexAddr 24 (Operand.tmp 17) (Operand.tmp 20), type := 0, pos := "ref.go:58", after := #[{ on := 1, ground := Ground.data }, { on := 4, ground := Ground.data }], guard := none }) (v := ?_) rfl (by kernel_rfl) (by kernel_rfl) (by kernel_rfl) (fun _ _ _ h => h) (Or.inl ⟨by rfl, ?_⟩) (by assumption) ?_
  rotate_left
  · (intro W hW; (try dsimp only at hW); go_simp <;> (with_reducible rfl))
  try simp only [Act.put, List.setIfInBounds_toArray, List.set_cons_zero, List.set_cons_succ]
  refine wpAnyH_take (i := 6) (oi := { dst := some 22, op := Op.fieldAddr 48 (Operand.tmp 21) 2, type := 0, pos := "ref.go:58", after := #[{ on := 5, ground := Ground.data }], guard := none }) (v := ?_) rfl (by kernel_rfl) (by kernel_rfl) (by kernel_rfl) (fun _ _ _ h => h) (Or.inl ⟨by rfl, ?_⟩) (by assumption) ?_
  rotate_left
  · (intro W hW; (try dsimp only at hW); go_simp <;> (with_reducible rfl))
  try simp only [Act.put, List.setIfInBounds_toArray, List.set_cons_zero, List.set_cons_succ]
  refine wpAnyH_take (i := 7) (oi := { dst := some 23, op := Op.load 46 (Operand.tmp 22), type := 46, pos := "ref.go:58", after := #[{ on := 6, ground := Ground.data }], guard := none }) (v := ?_) rfl (by kernel_rfl) (by kernel_rfl) (by kernel_rfl) (fun _ _ _ h => h) (Or.inl ⟨by rfl, ?_⟩) (by assumption) ?_
  rotate_left
  · (intro W hW; (try dsimp only at hW); go_simp <;> (with_reducible rfl))
  try simp only [Act.put, List.setIfInBounds_toArray, List.set_cons_zero, List.set_cons_succ]
  refine wpAnyH_take (i := 8) (oi := { dst := some 24, op := Op.indexAddr 46 (Operand.tmp 23) (Operand.const (Value.int IntKind.i64 0)), type := 0, pos := "ref.go:58", after := #[{ on := 7, ground := Ground.data }], guard := none }) (v := ?_) rfl (by kernel_rfl) (by kernel_rfl) (by kernel_rfl) (fun _ _ _ h => h) (Or.inl ⟨by rfl, ?_⟩) (by assumption) ?_
  rotate_left
  · (intro W hW; (try dsimp only at hW); go_simp <;> (with_reducible rfl))
  try simp only [Act.put, List.setIfInBounds_toArray, List.set_cons_zero, List.set_cons_succ]
  refine wpAnyH_take (i := 9) (oi := { dst := some 25, op := Op.load 26 (Operand.tmp 24), type := 26, pos := "ref.go:58", after := #[{ on := 8, ground := Ground.data }], guard := none }) (v := ?_) rfl (by kernel_rfl) (by kernel_rfl) (by kernel_rfl) (fun _ _ _ h => h) (Or.inl ⟨by rfl, ?_⟩) (by assumption) ?_
  rotate_left
  · (intro W hW; (try dsimp only at hW); go_simp <;> (with_reducible rfl))
  try simp only [Act.put, List.setIfInBounds_toArray, List.set_cons_zero, List.set_cons_succ]
  refine wpAnyH_ready (rs := [11]) (by kernel_rfl) (by simp) (AllReadyH.cons (o := { dst := some 27, op := Op.call { callee := Callee.value (Operand.func 38), args := #[Operand.tmp 25, Operand.tmp 26], argTypes := #[26, 9] }, type := 38, pos := "ref.go:58", after := #[{ on := 9, ground := Ground.data }, { on := 10, ground := Ground.data }, { on := 4, ground := Ground.chain }], guard := none }) rfl (fun K hK => ?_) AllReadyH.nil)
  (rw [if_pos (by rfl)]; go_simp; (with_reducible refine (CF _ ?_).mono ?_); (focus (repeat (with_reducible first | assumption | exact Below.refl _ _ | apply Below.al | apply Below.dr))); rintro e w4 ⟨rfl, hb4⟩; have hb24 : Below W2.heap.size W2 w4 := below_via (a := W2) (by (repeat (with_reducible first | assumption | exact Below.refl _ _ | apply Below.al | apply Below.dr))) hb4; go_wp2_with (fail))
  refine hK.out _ _ (by (repeat (with_reducible first | assumption | exact Below.refl _ _ | apply Below.al | apply Below.dr))) (fun hHeld => ?_)
  clear hK K
  try simp only [Act.put, List.setIfInBounds_toArray, List.set_cons_zero, List.set_cons_succ]
  refine wpAnyH_take (i := 12) (oi := { dst := some 28, op := Op.extract (Operand.tmp 27) 0, type := 9, pos := "ref.go:58", after := #[{ on := 11, ground := Ground.data }], guard := none }) (v := ?_) rfl (by kernel_rfl) (by kernel_rfl) (by kernel_rfl) (fun _ _ _ h => h) (Or.inl ⟨by rfl, ?_⟩) (by assumption) ?_
  rotate_left
  · (intro W hW; (try dsimp only at hW); go_simp <;> (with_reducible rfl))
  try simp only [Act.put, List.setIfInBounds_toArray, List.set_cons_zero, List.set_cons_succ]
  refine wpAnyH_take (i := 13) (oi := { dst := some 29, op := Op.extract (Operand.tmp 27) 1, type := 4, pos := "ref.go:58", after := #[{ on := 11, ground := Ground.data }], guard := none }) (v := ?_) rfl (by kernel_rfl) (by kernel_rfl) (by kernel_rfl) (fun _ _ _ h => h) (Or.inl ⟨by rfl, ?_⟩) (by assumption) ?_
  rotate_left
  · (intro W hW; (try dsimp only at hW); go_simp <;> (with_reducible rfl))
  try simp only [Act.put, List.setIfInBounds_toArray, List.set_cons_zero, List.set_cons_succ]
  refine wpAnyH_ready (rs := [14]) (by kernel_rfl) (by simp) (AllReadyH.cons (o := { dst := some 4, op := Op.assign (Operand.tmp 28), type := 9, pos := "ref.go:58", after := #[{ on := 12, ground := Ground.data }, { on := 11, ground := Ground.chain }, { on := 0, ground := Ground.phase }, { on := 1, ground := Ground.phase }, { on := 2, ground := Ground.phase }, { on := 3, ground := Ground.phase }, { on := 4, ground := Ground.phase }, { on := 5, ground := Ground.phase }, { on := 6, ground := Ground.phase }, { on := 7, ground := Ground.phase }, { on := 8, ground := Ground.phase }, { on := 9, ground := Ground.phase }, { on := 10, ground := Ground.phase }, { on := 11, ground := Ground.phase }, { on := 12, ground := Ground.phase }, { on := 13, ground := Ground.phase }], guard := none }) rfl (fun K hK => ?_) AllReadyH.nil)
  (rw [if_pos (by rfl)]; go_wp2_with (fail))
  refine hK.out _ _ (by (repeat (with_reducible first | assumption | exact Below.refl _ _ | apply Below.al | apply Below.dr))) (fun hHeld => ?_)
  clear hK K
  try simp only [Act.put, List.setIfInBounds_toArray, List.set_cons_zero, List.set_cons_succ]
  refine wpAnyH_ready (rs := [15]) (by kernel_rfl) (by simp) (AllReadyH.cons (o := { dst := some 5, op := Op.assign (Operand.tmp 29), type := 4, pos := "ref.go:58", after := #[{ on := 13, ground := Ground.data }, { on := 14, ground := Ground.chain }, { on := 0, ground := Ground.phase }, { on := 1, ground := Ground.phase }, { on := 2, ground := Ground.phase }, { on := 3, ground := Ground.phase }, { on := 4, ground := Ground.phase }, { on := 5, ground := Ground.phase }, { on := 6, ground := Ground.phase }, { on := 7, ground := Ground.phase }, { on := 8, ground := Ground.phase }, { on := 9, ground := Ground.phase }, { on := 10, ground := Ground.phase }, { on := 11, ground := Ground.phase }, { on := 12, ground := Ground.phase }, { on := 13, ground := Ground.phase }, { on := 14, ground := Ground.phase }], guard := none }) rfl (fun K hK => ?_) AllReadyH.nil)
  (rw [if_pos (by rfl)]; go_wp2_with (fail))
  refine hK.out _ _ (by (repeat (with_reducible first | assumption | exact Below.refl _ _ | apply Below.al | apply Below.dr))) (fun hHeld => ?_)
  clear hK K
  try simp only [Act.put, List.setIfInBounds_toArray, List.set_cons_zero, List.set_cons_succ]
  refine wpAnyH_done (by kernel_rfl) ?_ _
  refine NoPanic.normal ?_
  go_wp2_with fail
  go_ret2
  exact ⟨rfl, below_via HB2.out hb24⟩
theorem rfind_any : ∀ {N : Nat} {F : Nat → Prop} {w : World} {cs : List Value} {t : Tr} (key : List UInt8), RNodeOn F N w cs t → FindOk N t key → Calls Try.prog 38 #[.agg cs.toArray, .string (strOf key)] w (FoundPost w (findT N t key))
  | 0, _, _, _, _, _, h, _ => h.elim
  | _ + 1, _, _, _, .leaf _p _l, key, h, ho => rfind_leaf h key ho.1
  | _N + 1, _, _, _, .node _p _l, key, h, ho => rfind_node (fun h1 h2 => rfind_any key h1 h2) h ho
end Go.Proofs.Ytemfnjlfcemehaa

/- The document's tree in its box. -/
namespace Go.Proofs.Ytemfnjlfcemehaa
open Go.RowKit

/-- The document's tree in its box. -/
def RBox (B b : Nat) (wr : World) (N : Nat) (t : Tr) : Prop :=
  ∃ p l a m d, Boxes wr [(b, [.int .i64 p, .bool l, .slice a m d])] ∧ RNodeOn (fun x => B ≤ x) N wr [.int .i64 p, .bool l, .slice a m d] t
theorem RBox.agree {B b : Nat} {w w' : World} {N : Nat} {t : Tr} {F : Nat → Prop} (h : RBox B b w N t) (ha : AgreeF F w w') (hG : ∀ x, B ≤ x → F x) (hb : F b) : RBox B b w' N t := by
  obtain ⟨p, l, a, m, d, h1, h2⟩ := h
  exact ⟨p, l, a, m, d, h1.agree ha (fun p hp => by simp at hp; subst hp; exact hb), h2.agree (ha.sub hG)⟩
theorem RBox.below {B b : Nat} {w w' : World} {N : Nat} {t : Tr} (h : RBox B b w N t) (hb : Below w.heap.size w w') : RBox B b w' N t := by
  obtain ⟨p, l, a, m, d, h1, h2⟩ := h
  exact ⟨p, l, a, m, d, h1.step hb, h2.below hb⟩
/-- What 'm = jalousieref15.Put(m, ..)' leaves. -/
def RStay (B b : Nat) (w wr : World) (M : Nat) (T : Tr) (wx : World) : Prop := RBox B b wx M T ∧ AgreeF (fun x => x ≠ b) wr wx ∧ Below w.heap.size w wx
theorem RStay.mk {B b : Nat} {w wr w9 : World} {M : Nat} {T : Tr} {x0 x1 x2 : Value} {p : Int} {l : Bool} {a : Option Addr} {m d : Nat} (hx : Boxes w9 [(b, [x0, x1, x2])]) (h : RNodeOn (fun x => B ≤ x) M w9 [.int .i64 p, .bool l, .slice a m d] T) (hb : b < B) (hA : AgreeF (fun x => x ≠ b) wr w9) (hB : Below w.heap.size w w9) (hle : w.heap.size ≤ b) :
    RStay B b w wr M T (((w9.setCell ⟨b, 0, none⟩ (.int .i64 p)).setCell ⟨b, 1, none⟩ (.bool l)).setCell ⟨b, 2, none⟩ (.slice a m d)) :=
  ⟨⟨p, l, a, m, d, ((hx.put 0 (.int .i64 p) (by simp)).put 1 (.bool l) (by simp)).put 2 (.slice a m d) (by simp), h.put3 (by omega) _ _ _⟩, ((hA.st).st).st, ((hB.setCell (by simpa using hle) _).setCell (by simpa using hle) _).setCell (by simpa using hle) _⟩
/-- A node of the document's that a call answers, as deep as it is told. -/
def RGo (G : Nat → Prop) (n : Nat) (w : World) (t : Tr) (e : Ending) (w' : World) : Prop := ∃ p l a m d, e = .returned (.agg #[.int .i64 p, .bool l, .slice a m d]) ∧ RNodeOn G n w' [.int .i64 p, .bool l, .slice a m d] t ∧ Below w.heap.size w w'
theorem RNodeTo.go {F G : Nat → Prop} {n M : Nat} {W w' : World} {T : Tr} {e : Ending} {lo hi : List UInt8} (h : RNodeTo F n W T e w') (hG : ∀ b, Fr F W b → G b) (hs : Shape M lo hi T) : RGo G M W T e w' := by
  obtain ⟨p, l, a, m, d, e, h1, h2⟩ := h.split
  exact ⟨p, l, a, m, d, e, (h1.mono hG).less hs, h2⟩
/-- The empty tree of the document stands on no block. -/
theorem rempty_on {F G : Nat → Prop} {w : World} {cs : List Value} (h : RNodeOn G 1 w cs (.leaf 0 [])) : ∃ a c, cs = [.int .i64 0, .bool true, .slice a 0 c] ∧ RNodeOn F 1 w cs (.leaf 0 []) := by
  obtain ⟨a, c, rfl, h1, _⟩ := h.at
  refine ⟨a, c, rfl, RNodeOn.mk (t := .leaf 0 []) ?_ (Fa.zero _ _)⟩
  obtain ⟨g1, g2, g3, g4, g5⟩ := h1
  exact ⟨g1, g2, g3, g4, .inl rfl⟩
end Go.Proofs.Ytemfnjlfcemehaa

/- A tree in its box, put into in place: what the laws' rounds share. -/
namespace Go.Proofs.Ytemfnjlfcemehaa
open Go.RowKit

/-- A tree whose node lies in a box, and stands on some blocks. -/
def TrOn (G : Nat → Prop) (b : Nat) (wr : World) (N : Nat) (t : Tr) : Prop :=
  ∃ p lf a1 n1 c1 a2 n2 c2 a3 n3 c3, Boxes wr [(b, [.int .i64 p, .bool lf, .slice a1 n1 c1, .slice a2 n2 c2, .slice a3 n3 c3])] ∧ NodeOn G N wr [.int .i64 p, .bool lf, .slice a1 n1 c1, .slice a2 n2 c2, .slice a3 n3 c3] t ∧ Whole N t
theorem TrBox.on {B b : Nat} {wr : World} {N : Nat} {t : Tr} (h : TrBox B b wr N t) : TrOn (fun x => B ≤ x ∧ x < wr.heap.size) b wr N t := by
  obtain ⟨p, lf, a1, n1, c1, a2, n2, c2, a3, n3, c3, h1, h2, h3⟩ := h
  exact ⟨p, lf, a1, n1, c1, a2, n2, c2, a3, n3, c3, h1, h2.lt, h3⟩
theorem TrOn.below {G : Nat → Prop} {b : Nat} {w w' : World} {N : Nat} {t : Tr} (h : TrOn G b w N t) (hb : Below w.heap.size w w') : TrOn G b w' N t := by
  obtain ⟨p, lf, a1, n1, c1, a2, n2, c2, a3, n3, c3, h1, h2, h3⟩ := h
  exact ⟨p, lf, a1, n1, c1, a2, n2, c2, a3, n3, c3, h1.step hb, h2.below hb, h3⟩
theorem TrOn.agree {G F : Nat → Prop} {b : Nat} {w w' : World} {N : Nat} {t : Tr} (h : TrOn G b w N t) (ha : AgreeF F w w') (hG : ∀ x, G x → F x) (hb : F b) : TrOn G b w' N t := by
  obtain ⟨p, lf, a1, n1, c1, a2, n2, c2, a3, n3, c3, h1, h2, h3⟩ := h
  exact ⟨p, lf, a1, n1, c1, a2, n2, c2, a3, n3, c3, h1.agree ha (fun p hp => by simp at hp; subst hp; exact hb), h2.agree (ha.sub hG), h3⟩
/-- What 'n = tree.Put(n, ..)' leaves. -/
def PutStay (B b : Nat) (w wr : World) (N : Nat) (T : Tr) (EP : List (List UInt8 × Tv)) (wx : World) : Prop :=
  ∃ M, TrBox B b wx M T ∧ M ≤ N + 1 ∧ entsT M T = EP ∧ AgreeF (fun x => x ≠ b) wr wx ∧ Below w.heap.size w wx
theorem PutStay.mk {B b : Nat} {w wr w9 : World} {N M : Nat} {T : Tr} {EP : List (List UInt8 × Tv)} {G : Nat → Prop} {x0 x1 x2 x3 x4 : Value} {p : Int} {lf : Bool} {a1 : Option Addr} {n1 c1 : Nat} {a2 : Option Addr} {n2 c2 : Nat} {a3 : Option Addr} {n3 c3 : Nat} (hx : Boxes w9 [(b, [x0, x1, x2, x3, x4])])
    (h : NodeOn G M w9 [.int .i64 p, .bool lf, .slice a1 n1 c1, .slice a2 n2 c2, .slice a3 n3 c3] T) (hG : ∀ x, G x → B ≤ x) (hb : b < B) (hw : Whole M T) (hM : M ≤ N + 1) (hE : entsT M T = EP) (hA : AgreeF (fun x => x ≠ b) wr w9) (hB : Below w.heap.size w w9) (hle : w.heap.size ≤ b) :
    PutStay B b w wr N T EP (set5 w9 b (.int .i64 p) (.bool lf) (.slice a1 n1 c1) (.slice a2 n2 c2) (.slice a3 n3 c3)) :=
  ⟨M, TrBox.set5 hx h hG (fun h => by have := hG _ h; omega) hw, hM, hE, hA.trans (agree_set5 (by simp) _ _ _ _ _), set5_below hB hle _ _ _ _ _⟩
end Go.Proofs.Ytemfnjlfcemehaa

/- The document's 'Same': a tree beside itself (printed by gen_treSa.py). -/
namespace Go.Proofs.Ytemfnjlfcemehaa
open Go.RowKit

/-- What 'Same' answers of a tree and itself. -/
def SameTo (w : World) (e : Ending) (w' : World) : Prop := e = .returned (.bool true) ∧ Below w.heap.size w w'
theorem Row.cellS {w : World} {a : Option Addr} {len cap : Nat} {l : List Int} (h : Row .i64 w a len cap l) {k : Nat} (hk : k < len) :
    ∃ b off, a = some ⟨b, off, none⟩ ∧ b < w.heap.size ∧ w.cell? ⟨b, off + k, none⟩ = some (.int .i64 (l[k]?.getD 0)) := by
  rcases h.2.2.2.2 with h0 | ⟨b, off, h1, h2, h3⟩
  · omega
  · exact ⟨b, off, h1, h2, h3 k hk⟩
theorem Row.lensS {k : IntKind} {w : World} {a : Option Addr} {len cap : Nat} {l : List Int} (h : Row k w a len cap l) : l.length = len ∧ len ≤ cap ∧ cap ≤ 9223372036854775807 := ⟨h.1, h.2.1, by have := h.2.2.1; unfold maxLen at this; omega⟩
set_option maxRecDepth 100000 in
set_option maxHeartbeats 4000000 in
theorem same_step {n : Nat} (IH : ∀ {F G : Nat → Prop} {w : World} {cs ds : List Value} {t : Tr}, RNodeOn F n w cs t → RNodeOn G n w ds t → Calls Try.prog 36 #[.agg cs.toArray, .agg ds.toArray] w (SameTo w))
    {F G : Nat → Prop} {w : World} {cs ds : List Value} {t : Tr} (hf : RNodeOn F (n + 1) w cs t) (hg : RNodeOn G (n + 1) w ds t) :
    Calls Try.prog 36 #[.agg cs.toArray, .agg ds.toArray] w (SameTo w) := by
  obtain ⟨a, c, rfl, h1, _⟩ := hf.at
  obtain ⟨d, g, rfl, g1, _⟩ := hg.at
  obtain ⟨e1, e2, e3⟩ := h1.lens
  obtain ⟨e4, e5, e6⟩ := g1.lens
  generalize cntT t = m at *
  generalize cellsR t = L at *
  generalize t.page = p at *
  generalize t.isLeaf = lf at *
  have H1 := Lib.hid h1
  have G1 := Lib.hid g1
  have hB0 : Below w.heap.size w ((w.alloc (.cells #[.int .i64 p, .bool lf, .slice a m c] 26)).alloc (.cells #[.int .i64 p, .bool lf, .slice d m g] 26)) := Below.al (Below.al (Below.refl _ _))
  have HX0 := Lib.hid (((Boxes.nil w).alloc #[.int .i64 p, .bool lf, .slice a m c] 26 (b := w.heap.size) rfl).alloc #[.int .i64 p, .bool lf, .slice d m g] 26 (b := w.heap.size + 1) (by simp))
  have HB0 := Lib.hid hB0
  have hpp : (p != p) = false := by simp
  have hll : (lf != lf) = false := by simp
  have hmm : ((m : Int) != (m : Int)) = false := by simp
  clear h1 g1 hB0 hf hg e1 e4
  go_enter Try.func36, Try.ntmps36
  go_wp2_with fail
  go_loopw [5] (fun s5 wr => ∃ (i : Nat), i ≤ m ∧ s5 = .int .i64 i ∧ Boxes wr [(w.heap.size + 1, [.int .i64 p, .bool lf, .slice d m g]), (w.heap.size, [.int .i64 p, .bool lf, .slice a m c])] ∧ Below w.heap.size w wr) (fun s _ => m - (intOf s).toNat)
  case atStart => exact ⟨0, Nat.zero_le _, rfl, HX0.out, HB0.out⟩
  case round =>
    obtain ⟨i, hi, rfl, hx, hb⟩ := hrel
    clear HX0 HB0 hpp hll hmm
    have n2 := hx.cell 1 2 rfl rfl
    have o2 := hx.cell 0 2 rfl rfl
    by_cases hlt : i < m
    rotate_left
    · obtain rfl : i = m := by omega
      have HE := Lib.hid hb
      clear hx hb
      go_wp2_with fail
      go_ret
      exact ⟨rfl, HE.out⟩
    obtain ⟨b, off, y, pa, pn, pc, ka, kn, kc, rfl, hbb, hy, _, hrow, _, hkid, _, c0, c1, c2, c3⟩ := RNodeOn.cell H1.out hlt
    obtain ⟨b', off', y', qa, qn, qc, la, ln, lc, rfl, hbb', hy', _, hrow', _, hkid', _, c0', c1', c2', c3'⟩ := RNodeOn.cell G1.out hlt
    rw [hy] at hy'
    cases hy'
    obtain ⟨r1, r2, r3⟩ := hrow.lensS
    obtain ⟨r4, r5, r6⟩ := hrow'.lensS
    obtain ⟨s1, s2, s3⟩ := hkid.lens
    obtain ⟨s4, s5, s6⟩ := hkid'.lens
    obtain rfl : pn = qn := by omega
    obtain rfl : kn = ln := by omega
    obtain ⟨yk, yv, yo⟩ := y
    obtain ⟨yd, yp⟩ := yv
    dsimp only at *
    have v0 := (hb.cell (p := ⟨b, off + i * 4, none⟩) hbb).trans c0
    have v1 := (hb.cell (p := ⟨b, off + i * 4 + 1, none⟩) hbb).trans c1
    have v2 := (hb.cell (p := ⟨b, off + i * 4 + 2, none⟩) hbb).trans c2
    have v3 := (hb.cell (p := ⟨b, off + i * 4 + 3, none⟩) hbb).trans c3
    have hba : Below wr.heap.size wr (wr.alloc (.cells #[.string (strOf yk), .string (strOf yd), .slice pa pn pc, .slice ka kn kc] 48)) := Below.al (Below.refl _ _)
    have hba2 : Below wr.heap.size wr ((wr.alloc (.cells #[.string (strOf yk), .string (strOf yd), .slice pa pn pc, .slice ka kn kc] 48)).alloc (.cells #[.string (strOf yk), .string (strOf yd), .slice qa pn qc, .slice la kn lc] 48)) := Below.al hba
    have x2 := (hx.step hba).cell 0 2 rfl rfl
    have w0 := ((below_via hb hba).cell (p := ⟨b', off' + i * 4, none⟩) hbb').trans c0'
    have w1 := ((below_via hb hba).cell (p := ⟨b', off' + i * 4 + 1, none⟩) hbb').trans c1'
    have w2 := ((below_via hb hba).cell (p := ⟨b', off' + i * 4 + 2, none⟩) hbb').trans c2'
    have w3 := ((below_via hb hba).cell (p := ⟨b', off' + i * 4 + 3, none⟩) hbb').trans c3'
    have hz : Boxes ((wr.alloc (.cells #[.string (strOf yk), .string (strOf yd), .slice pa pn pc, .slice ka kn kc] 48)).alloc (.cells #[.string (strOf yk), .string (strOf yd), .slice qa pn qc, .slice la kn lc] 48)) [(wr.heap.size + 1, [.string (strOf yk), .string (strOf yd), .slice qa pn qc, .slice la kn lc]), (wr.heap.size, [.string (strOf yk), .string (strOf yd), .slice pa pn pc, .slice ka kn kc])] := ((Boxes.nil wr).alloc #[.string (strOf yk), .string (strOf yd), .slice pa pn pc, .slice ka kn kc] 48 (b := wr.heap.size) rfl).alloc #[.string (strOf yk), .string (strOf yd), .slice qa pn qc, .slice la kn lc] 48 (b := wr.heap.size + 1) (by simp)
    have q1 : ((strOf yk).toList == (strOf yk).toList) = true := by simp
    have q2 : ((strOf yd).toList == (strOf yd).toList) = true := by simp
    have q3 : ((pn : Int) != (pn : Int)) = false := by simp
    have q4 : ((kn : Int) != (kn : Int)) = false := by simp
    have t0 := hz.cell 0 0 rfl rfl
    have t1 := hz.cell 0 1 rfl rfl
    have t2 := hz.cell 0 2 rfl rfl
    have t3 := hz.cell 0 3 rfl rfl
    have u0 := hz.cell 1 0 rfl rfl
    have u1 := hz.cell 1 1 rfl rfl
    have u2 := hz.cell 1 2 rfl rfl
    have u3 := hz.cell 1 3 rfl rfl
    have HZ := Lib.hid hz
    have HX := Lib.hid (hx.step hba2)
    have HB := Lib.hid (below_via hb hba2)
    have HR := Lib.hid hrow
    have HR' := Lib.hid hrow'
    have HK := Lib.hid hkid
    have HK' := Lib.hid hkid'
    have HS1 := Lib.hid s1
    have hsz2 : wr.heap.size + 2 = ((wr.alloc (.cells #[.string (strOf yk), .string (strOf yd), .slice pa pn pc, .slice ka kn kc] 48)).alloc (.cells #[.string (strOf yk), .string (strOf yd), .slice qa pn qc, .slice la kn lc] 48)).heap.size := by simp
    clear hx hb c0 c1 c2 c3 c0' c1' c2' c3' hrow hrow' hkid hkid' hy r1 r4 s1 s4 hz hba hba2 hbb hbb' hsz2
    go_upto_region 10 with (fail)
    clear v0 v1 v2 v3 w0 w1 w2 w3 x2
    obtain ⟨WA, hWA⟩ : ∃ x, x = ((wr.alloc (.cells #[.string (strOf yk), .string (strOf yd), .slice pa pn pc, .slice ka kn kc] 48)).alloc (.cells #[.string (strOf yk), .string (strOf yd), .slice qa pn qc, .slice la kn lc] 48)) := ⟨_, rfl⟩
    rw [← hWA] at HZ HX HB ⊢
    clear t0 t1 t2 t3 u0 u1 u2 u3 n2 o2
    have HBA := Lib.hid (Below.refl WA.heap.size WA)
    clear hWA q1 q2 q3 q4
    go_wp2_with fail
    go_loopw [8] (fun s8 wy => ∃ (k : Nat), k ≤ pn ∧ s8 = .int .i64 k ∧ Below WA.heap.size WA wy) (fun s _ => pn - (intOf s).toNat)
    case atStart => exact ⟨0, Nat.zero_le _, rfl, HBA.out⟩
    case round =>
      obtain ⟨k, hk, rfl, hby⟩ := hrel
      clear HBA
      obtain ⟨wy, rfl⟩ : ∃ x : World, x = wr := ⟨_, rfl⟩
      have hzy := HZ.out.step hby
      have z2 := hzy.cell 1 2 rfl rfl
      have y2 := hzy.cell 0 2 rfl rfl
      by_cases hkl : k < pn
      · obtain ⟨bp, op, rfl, hbp, hcp⟩ := HR.out.cellS hkl
        obtain ⟨bq, oq, rfl, hbq, hcq⟩ := HR'.out.cellS hkl
        have z5 := ((below_via HB.out hby).cell (p := ⟨bp, op + k, none⟩) hbp).trans hcp
        have y5 := ((below_via HB.out hby).cell (p := ⟨bq, oq + k, none⟩) hbq).trans hcq
        generalize yp[k]?.getD 0 = vk at z5 y5
        have hvk : (vk != vk) = false := by simp
        clear hcp hcq hzy hbp hbq
        go_upto_region 13 with (fail)
        go_quiet (fail)
        go_wp2
        go_roundw
        case rel => exact ⟨k + 1, hkl, by go_num, below_drewN hby _⟩
        case measure => simp [intOf]; omega
      · obtain rfl : k = pn := by omega
        cases yo with
        | none =>
          obtain rfl : kn = 0 := HS1.out.symm
          have z3 := hzy.cell 1 3 rfl rfl
          have HX5 := Lib.hid (HX.out.step hby)
          have HB5 := Lib.hid (below_via HB.out hby)
          clear hzy hby
          go_upto_region 15 with (fail)
          go_quiet (fail)
          go_wp2
          go_roundw
          case rel => exact ⟨i + 1, hlt, by go_num, HX5.out.step (below_drewN (Below.refl _ _) _), below_drewN HB5.out _⟩
          case measure => simp [intOf]; omega
        | some kid =>
          obtain rfl : kn = 1 := HS1.out.symm
          obtain ⟨bk, ok, kd, ks, rfl, hbk, hyk, _, hon, hck⟩ := TabR.at HK.out (show 0 < 1 by omega)
          obtain ⟨bj, oj, kd', js, rfl, hbj, hyj, _, hon', hcj⟩ := TabR.at HK'.out (show 0 < 1 by omega)
          cases hyk
          cases hyj
          have hbw := below_via HB.out hby
          cases n with
          | zero => exact hon.elim
          | succ n =>
          have CS : ∀ W, Below wy.heap.size wy W → Calls Try.prog 36 #[.agg ks.toArray, .agg js.toArray] W (SameTo W) := fun W hW => IH (hon.below (below_via hbw hW)) (hon'.below (below_via hbw hW))
          obtain ⟨ak, ck, rfl, _, _⟩ := hon.at
          obtain ⟨aj, cj, rfl, _, _⟩ := hon'.at
          generalize cntT kid = mk at *
          generalize kid.page = pk at *
          generalize kid.isLeaf = lk at *
          have c0 : ∀ W, Below wy.heap.size wy W → W.cell? ⟨bk, ok, none⟩ = some (.int .i64 pk) := fun W hW => ((below_via hbw hW).cell (p := ⟨bk, ok, none⟩) hbk).trans (by simpa using hck 0 _ rfl)
          have c1 : ∀ W, Below wy.heap.size wy W → W.cell? ⟨bk, ok + 1, none⟩ = some (.bool lk) := fun W hW => ((below_via hbw hW).cell (p := ⟨bk, ok + 1, none⟩) hbk).trans (by simpa using hck 1 _ rfl)
          have c2 : ∀ W, Below wy.heap.size wy W → W.cell? ⟨bk, ok + 2, none⟩ = some (.slice ak mk ck) := fun W hW => ((below_via hbw hW).cell (p := ⟨bk, ok + 2, none⟩) hbk).trans (by simpa using hck 2 _ rfl)
          have j0 : ∀ W, Below wy.heap.size wy W → W.cell? ⟨bj, oj, none⟩ = some (.int .i64 pk) := fun W hW => ((below_via hbw hW).cell (p := ⟨bj, oj, none⟩) hbj).trans (by simpa using hcj 0 _ rfl)
          have j1 : ∀ W, Below wy.heap.size wy W → W.cell? ⟨bj, oj + 1, none⟩ = some (.bool lk) := fun W hW => ((below_via hbw hW).cell (p := ⟨bj, oj + 1, none⟩) hbj).trans (by simpa using hcj 1 _ rfl)
          have j2 : ∀ W, Below wy.heap.size wy W → W.cell? ⟨bj, oj + 2, none⟩ = some (.slice aj mk cj) := fun W hW => ((below_via hbw hW).cell (p := ⟨bj, oj + 2, none⟩) hbj).trans (by simpa using hcj 2 _ rfl)
          have z3 : ∀ W, Below wy.heap.size wy W → W.cell? ⟨wr.heap.size, 3, none⟩ = some (.slice (some ⟨bk, ok, none⟩) 1 kc) := fun W hW => (hzy.step hW).cell 1 3 rfl rfl
          have y3 : ∀ W, Below wy.heap.size wy W → W.cell? ⟨wr.heap.size + 1, 3, none⟩ = some (.slice (some ⟨bj, oj, none⟩) 1 lc) := fun W hW => (hzy.step hW).cell 0 3 rfl rfl
          have hC0 : Below wy.heap.size wy wy.drew := (Below.refl _ _).drew
          have HX5 := Lib.hid (HX.out.step hby)
          have HB5 := Lib.hid hbw
          clear hzy hby hbw hck hcj hon hon'
          go_upto_region 15 with (fail)
          go_region_held3 (fun W => Below wy.heap.size wy W) (first | with_reducible assumption | (repeat (with_reducible first | assumption | exact Below.refl _ _ | apply Below.al | apply Below.dr))) (first | (go_at_call 36; (with_reducible refine (CS _ ?_).mono ?_); (focus (repeat (with_reducible first | assumption | exact Below.refl _ _ | apply Below.al | apply Below.dr))); rintro e w12 ⟨rfl, hb12⟩; have hB12 : Below wy.heap.size wy w12 := below_via (by (repeat (with_reducible first | assumption | exact Below.refl _ _ | apply Below.al | apply Below.dr))) hb12))
          go_wp2_with fail
          go_roundw
          case rel => exact ⟨i + 1, hlt, by go_num, HX5.out.step hB12, below_via HB5.out hB12⟩
          case measure => simp [intOf]; omega
theorem same_any : ∀ {n : Nat} {F G : Nat → Prop} {w : World} {cs ds : List Value} {t : Tr}, RNodeOn F n w cs t → RNodeOn G n w ds t → Calls Try.prog 36 #[.agg cs.toArray, .agg ds.toArray] w (SameTo w)
  | 0, _, _, _, _, _, _, h, _ => h.elim
  | _n + 1, _, _, _, _, _, _, h, g => same_step (fun h g => same_any h g) h g
end Go.Proofs.Ytemfnjlfcemehaa

/- The program's tree in its box, in worlds that agree. -/
namespace Go.Proofs.Ytemfnjlfcemehaa
open Go.RowKit

theorem TrBox.agree {B b : Nat} {w w' : World} {N : Nat} {t : Tr} {F : Nat → Prop} (h : TrBox B b w N t) (ha : AgreeF F w w') (hG : ∀ x, B ≤ x → F x) (hb : F b) : TrBox B b w' N t := by
  obtain ⟨p, lf, a1, n1, c1, a2, n2, c2, a3, n3, c3, h1, h2, h3⟩ := h
  exact ⟨p, lf, a1, n1, c1, a2, n2, c2, a3, n3, c3, h1.agree ha (fun p hp => by simp at hp; subst hp; exact hb), h2.agree (ha.sub hG), h3⟩
end Go.Proofs.Ytemfnjlfcemehaa
