/- Texts that other texts of this claim lean on, one behind the other. -/
import Derived.Test.YtpghlmcoajaiiaaGreatDoorM3
import Derived.Test.YtpghlmcoajaiiaaGreatDoorM2
import Derived.Test.YtpghlmcoajaiiaaGreatDoorM1
import Derived.RangeFuncNested
import Derived.RangeFuncBound
import Derived.RangeFuncCalls
import Derived.RangeFuncLeaves
import Derived.RangeFuncBox
import Derived.Shelf.Abstract
import Derived.Shelf.RegionOpen
import Derived.WalkKit
import Derived.OwnWalkIn
import Derived.TacticsInMore
import Derived.LoopNIn
import Derived.LoopIn
import Derived.Deep.RegionHeld
/- The walks of trees: two nodes put together. -/
namespace Go.Proofs.YtpghlmcoajaiiaaGreatDoor
open Go.RowKit

theorem join_keys {key : List UInt8} {a b : Tr} (h : a.isLeaf = b.isLeaf) : (joinT key a b).keys = a.keys ++ (if b.isLeaf then b.keys else b.keys.set 0 key) ∧ (joinT key a b).page = 0 ∧ (joinT key a b).isLeaf = a.isLeaf := by
  cases a <;> cases b
  · exact ⟨by simp [joinT, Tr.keys, keysOf, Tr.isLeaf], rfl, rfl⟩
  · simp [Tr.isLeaf] at h
  · simp [Tr.isLeaf] at h
  · rename_i p l q m
    exact ⟨by simp only [joinT, Tr.keys, Tr.isLeaf]; rw [← keys_first]; simp [keysOf], rfl, rfl⟩
theorem joinR {F : Nat → Prop} {n : Nat} {w : World} {key : List UInt8} {a b : Tr} {V U : List (Cl 2)} {C D : List (Cl 5)} (h : a.isLeaf = b.isLeaf) (ha : NodeRF F n w (a.keys.map kCell) V C a) (hb : NodeRF F n w (b.keys.map kCell) U D b) :
    NodeRF F n w ((joinT key a b).keys.map kCell) (V ++ U) (C ++ D) (joinT key a b) := by
  cases a <;> cases b
  · obtain ⟨_, h2, rfl⟩ := ha
    obtain ⟨_, g2, rfl⟩ := hb
    exact ⟨tells_keys _, by rw [List.map_append]; exact h2.append g2, rfl⟩
  · simp [Tr.isLeaf] at h
  · simp [Tr.isLeaf] at h
  · obtain ⟨_, rfl, h2⟩ := ha
    obtain ⟨_, rfl, g2⟩ := hb
    exact ⟨tells_keys _, rfl, by rw [List.map_append, firstK_vals]; exact h2.append g2⟩
def JoinMid (w : World) (A B : List Value) (L : List (Cl 1)) (s7 : Value) (wx : World) : Prop :=
  ∃ a c, s7 = .slice a L.length c ∧ L.length ≤ c ∧ c ≤ 9223372036854775807 ∧ wx.ownsRow (w.heap.size + 3) 9 1 (.slice a L.length c) L.length (flatC L) ∧
    Boxes wx [(w.heap.size, A), (w.heap.size + 1, B), (w.heap.size + 2, zeroN false (.slice none 0 0))] ∧ Below w.heap.size w wx
def JoinEnd (F : Nat → Prop) (w : World) (lf : Bool) (K : List (Cl 1)) (V : List (Cl 2)) (C : List (Cl 5)) (wx : World) : Prop :=
  ∃ ka kc va vc ca cc, Boxes wx [(w.heap.size + 2, [.int .i64 0, .bool lf, .slice ka K.length kc, .slice va V.length vc, .slice ca C.length cc])] ∧ Raw 1 wx ka K.length kc K ∧ Raw 2 wx va V.length vc V ∧ Raw 5 wx ca C.length cc C ∧ Below w.heap.size w wx ∧ Fa (Fr F w) ka K.length ∧ Fa (Fr F w) va V.length ∧ Fa (Fr F w) ca C.length
set_option maxRecDepth 100000 in
set_option maxHeartbeats 4000000 in
theorem tjoin_any {F : Nat → Prop} {n : Nat} {w : World} {cs ds : List Value} {a b : Tr} (key : List UInt8) (ha : NodeOn F (n + 1) w cs a) (hb : NodeOn F (n + 1) w ds b) (hl : a.isLeaf = b.isLeaf) (h0 : b.isLeaf = false → 0 < cntT b) (hca : cntT a ≤ 1000) (hcb : cntT b ≤ 1000) :
    Calls Tryz.prog 192 #[.agg cs.toArray, .agg ds.toArray, .string (strOf key)] w (NodeTo F (n + 1) w (joinT key a b)) := by
  obtain ⟨ka, kc, va, vn, vc, ca, cn, cc, V, C, rfl, h1, h2, h3, h4, _⟩ := ha.open
  obtain ⟨kb, kd, vb, vm, vd, cb, cm, cd, U, D, rfl, g1, g2, g3, g4, _⟩ := hb.open
  obtain ⟨e1, e2, e3⟩ := h1.lens
  obtain ⟨e4, e5, e6⟩ := g1.lens
  obtain ⟨e7, e8, e9⟩ := h2.lens
  obtain ⟨p1, p2, p3⟩ := h3.lens
  obtain ⟨p4, p5, p6⟩ := g2.lens
  obtain ⟨p7, p8, p9⟩ := g3.lens
  obtain ⟨_, r1, r2⟩ := h4.toR.lens
  obtain ⟨_, r3, r4⟩ := g4.toR.lens
  have hvn : vn ≤ 1000 := by rw [← e7, r1]; split <;> omega
  have hvm : vm ≤ 1000 := by rw [← p4, r3]; split <;> omega
  have hcn : cn ≤ 1000 := by rw [← p1, r2]; split <;> omega
  have hcm : cm ≤ 1000 := by rw [← p7, r4]; split <;> omega
  obtain ⟨lf, hlf⟩ : ∃ lf, b.isLeaf = lf := ⟨_, rfl⟩
  rw [hlf] at hl h0 ⊢
  rw [hl]
  have HJK := Lib.hid (join_keys (key := key) (a := a) (b := b) (by rw [hl, hlf]))
  have HLE := Lib.hid (show a.isLeaf = b.isLeaf by rw [hl, hlf])
  have HLB := Lib.hid hlf
  have HLA := Lib.hid hl
  have H1 := Lib.hid h1
  have H2 := Lib.hid h2
  have H3 := Lib.hid h3
  have H4 := Lib.hid h4
  have G1 := Lib.hid g1
  have G2 := Lib.hid g2
  have G3 := Lib.hid g3
  have G4 := Lib.hid g4
  have H0 := Lib.hid h0
  have hX0 := (((Boxes.nil w).alloc #[.int .i64 a.page, .bool lf, .slice ka (cntT a) kc, .slice va vn vc, .slice ca cn cc] 50 rfl).alloc #[.int .i64 b.page, .bool lf, .slice kb (cntT b) kd, .slice vb vm vd, .slice cb cm cd] 50 (b := w.heap.size + 1) (by simp)).alloc #[.int .i64 0, .bool false, .slice none 0 0, .slice none 0 0, .slice none 0 0] 50 (b := w.heap.size + 2) (by simp)
  have hB0 : Below w.heap.size w (((w.alloc (.cells #[.int .i64 a.page, .bool lf, .slice ka (cntT a) kc, .slice va vn vc, .slice ca cn cc] 50)).alloc (.cells #[.int .i64 b.page, .bool lf, .slice kb (cntT b) kd, .slice vb vm vd, .slice cb cm cd] 50)).alloc (.cells #[.int .i64 0, .bool false, .slice none 0 0, .slice none 0 0, .slice none 0 0] 50)) := Below.al (Below.al (Below.al (Below.refl _ _)))
  have C1 := clone_s (g1.below hB0) (by omega)
  obtain ⟨L2, hL2⟩ : ∃ L, b.keys.map kCell = L := ⟨_, rfl⟩
  have hLl : L2.length = cntT b := by rw [← hL2, List.length_map, keys_len]
  rw [hL2] at C1
  have HL2 := Lib.hid hL2
  have HLL := Lib.hid hLl
  have HX0 := Lib.hid (hX0.sub (m := [(w.heap.size, [.int .i64 a.page, .bool lf, .slice ka (cntT a) kc, .slice va vn vc, .slice ca cn cc]), (w.heap.size + 1, [.int .i64 b.page, .bool lf, .slice kb (cntT b) kd, .slice vb vm vd, .slice cb cm cd]), (w.heap.size + 2, [.int .i64 0, .bool false, .slice none 0 0, .slice none 0 0, .slice none 0 0])]) (by intro x hx; simp at hx; rcases hx with rfl | rfl | rfl <;> simp))
  have HB0 := Lib.hid hB0
  have hsz0 : w.heap.size + 3 ≤ (((w.alloc (.cells #[.int .i64 a.page, .bool lf, .slice ka (cntT a) kc, .slice va vn vc, .slice ca cn cc] 50)).alloc (.cells #[.int .i64 b.page, .bool lf, .slice kb (cntT b) kd, .slice vb vm vd, .slice cb cm cd] 50)).alloc (.cells #[.int .i64 0, .bool false, .slice none 0 0, .slice none 0 0, .slice none 0 0] 50)).heap.size := by simp
  have HS0 := Lib.hid hsz0
  clear hX0 hB0 h1 h2 h3 h4 g1 g2 g3 g4 h0 hl hlf hL2 hLl ha hb e1 e4 e7 p1 p4 p7 r1 r2 r3 r4 hsz0
  generalize cntT a = m at *
  generalize cntT b = q at *
  go_enter Tryz.func192, Tryz.ntmps192
  go_wp2_with fail
  refine C1.mono ?_
  rintro e w1 hq1
  obtain ⟨a7, c7, rfl, hc1, hc2, ho, hb1⟩ := hq1.sl
  have HO := Lib.hid (own_base ho HS0.out)
  have HX1 := Lib.hid (HX0.out.step hb1)
  have HB1 := Lib.hid (HB0.out.trans (hb1.mono HB0.out.size))
  have f1 := HX1.out.cell 1 1 rfl rfl
  have hz1 : w.heap.size + 3 ≤ w1.heap.size := Nat.le_trans HS0.out hb1.size
  clear ho hb1 HX0 HB0 HS0
  go_upto_if 13 with (fail)
  go_cut [7] (fun s7 wx => JoinMid w [.int .i64 a.page, .bool lf, .slice ka m kc, .slice va vn vc, .slice ca cn cc] [.int .i64 b.page, .bool lf, .slice kb q kd, .slice vb vm vd, .slice cb cm cd] (if lf then L2 else (b.keys.set 0 key).map kCell) s7 wx)
  case first =>
    cases lf with
    | true =>
      go_wp2_with fail
      go_meet
      exact ⟨_, _, rfl, hc1, hc2, HO.out, HX1.out, HB1.out⟩
    | false =>
      have hq0 := H0.out rfl
      obtain ⟨g, cg, eg, hgB, _, _, k1, k2, k3⟩ := own_key (ks := b.keys) (by rw [HL2.out]; exact HO.out) (by rw [HLL.out]; exact hq0) key
      cases eg
      have hlen : L2.length = ((b.keys.set 0 key).map kCell).length := by rw [← HL2.out, List.length_map, List.length_map, List.length_set]
      have HLN := Lib.hid hlen
      have hpos : 0 < L2.length := by rw [HLL.out]; exact hq0
      have K3 := Lib.hid k3
      clear hlen k3
      go_wp2_with fail
      go_meet
      refine ⟨some ⟨g, 0, none⟩, c7, by rw [if_neg (by simp), ← HLN.out], by rw [if_neg (by simp), ← HLN.out]; exact hc1, hc2, ?_, HX1.out.set ⟨g, 0, none⟩ (.string (strOf key)) (by intro x hx; simp at hx; rcases hx with rfl | rfl | rfl <;> simp <;> omega), HB1.out.setCell (show w.heap.size ≤ g by omega) _⟩
      rw [if_neg (by simp), ← HLN.out]; exact K3.out
  case rest =>
  unfold JoinMid at hcut
  clear HO HX1 HB1 f1 hz1 hc1 hc2
  obtain ⟨a7, c7, rfl, hc1, hc2, ho, hx, hb⟩ := hcut
  obtain ⟨L7, hL7⟩ : ∃ L, (if lf then L2 else (b.keys.set 0 key).map kCell) = L := ⟨_, rfl⟩
  rw [hL7] at hc1 ho ⊢
  obtain ⟨LK, hLK⟩ : ∃ L, a.keys.map kCell ++ L7 = L := ⟨_, rfl⟩
  obtain ⟨LV, hLV⟩ : ∃ L, V ++ U = L := ⟨_, rfl⟩
  obtain ⟨LC, hLC⟩ : ∃ L, C ++ D = L := ⟨_, rfl⟩
  have hL7l : L7.length = q := by
    rw [← hL7]
    split
    · exact HLL.out
    · rw [List.length_map, List.length_set, ← HLL.out, ← HL2.out, List.length_map]
  unfold zeroN at hx
  have HC1 : ∀ (W : World) (x : Nat), Below wc.heap.size wc W → BoxAt W x #[.slice ka m kc, .slice a7 L7.length c7] → Calls Tryz.prog 196 #[.slice (some ⟨x, 0, none⟩) 2 2] W (RowOut 9 1 wc W LK) := fun W x hW hX => (concat_s (raws_box2 hX (H1.out.below (below_via hb hW)) (Raw.below (Raw.of_sl ho rfl) hW)) (by have := H1.out.1; rw [List.length_map] at this; simp [lenR]; omega)).mono fun e w' h => (by simpa [hLK] using h : OwnRaw _ _ W LK e w').row hW
  have HC2 : ∀ (W : World) (x : Nat), Below wc.heap.size wc W → BoxAt W x #[.slice va vn vc, .slice vb vm vd] → Calls Tryz.prog 197 #[.slice (some ⟨x, 0, none⟩) 2 2] W (RowOut 101 2 wc W LV) := fun W x hW hX => (concat_v (raws_box2 hX (H2.out.below (below_via hb hW)) (G2.out.below (below_via hb hW))) (by have := H2.out.1; have := G2.out.1; simp [lenR]; omega)).mono fun e w' h => (by simpa [hLV] using h : OwnRaw _ _ W LV e w').row hW
  have HC3 : ∀ (W : World) (x : Nat), Below wc.heap.size wc W → BoxAt W x #[.slice ca cn cc, .slice cb cm cd] → Calls Tryz.prog 193 #[.slice (some ⟨x, 0, none⟩) 2 2] W (RowOut 50 5 wc W LC) := fun W x hW hX => (concat_n (raws_box2 hX (H3.out.below (below_via hb hW)) (G3.out.below (below_via hb hW))) (by have := H3.out.1; have := G3.out.1; simp [lenR]; omega)).mono fun e w' h => (by simpa [hLC] using h : OwnRaw _ _ W LC e w').row hW
  have HL7 := Lib.hid hL7
  have HLK := Lib.hid hLK
  have HLV := Lib.hid hLV
  have HLC := Lib.hid hLC
  have HX := Lib.hid hx
  have HXc : Hid (Boxes wc [(w.heap.size, [.int .i64 a.page, .bool lf, .slice ka m kc, .slice va vn vc, .slice ca cn cc]), (w.heap.size + 1, [.int .i64 b.page, .bool lf, .slice kb q kd, .slice vb vm vd, .slice cb cm cd])]) := Lib.hid (hx.sub (by intro x hx; simp at hx; rcases hx with rfl | rfl <;> simp))
  have HO := Lib.hid ho
  have HB := Lib.hid hb
  have hSc : Boxes wc [(w.heap.size, [.int .i64 a.page, .bool lf, .slice ka m kc, .slice va vn vc, .slice ca cn cc]), (w.heap.size + 1, [.int .i64 b.page, .bool lf, .slice kb q kd, .slice vb vm vd, .slice cb cm cd])] := HXc.out
  have hS0 : Boxes wc.drew [(w.heap.size, [.int .i64 a.page, .bool lf, .slice ka m kc, .slice va vn vc, .slice ca cn cc]), (w.heap.size + 1, [.int .i64 b.page, .bool lf, .slice kb q kd, .slice vb vm vd, .slice cb cm cd])] := HXc.out
  have hne : ∀ p ∈ ([(w.heap.size, [.int .i64 a.page, .bool lf, .slice ka m kc, .slice va vn vc, .slice ca cn cc]), (w.heap.size + 1, [.int .i64 b.page, .bool lf, .slice kb q kd, .slice vb vm vd, .slice cb cm cd])] : List (Nat × List Value)), p.1 ≠ w.heap.size + 1 + 1 := by intro x hx; simp at hx; rcases hx with rfl | rfl <;> simp <;> omega
  have k1 : ∀ W, Boxes W [(w.heap.size, [.int .i64 a.page, .bool lf, .slice ka m kc, .slice va vn vc, .slice ca cn cc]), (w.heap.size + 1, [.int .i64 b.page, .bool lf, .slice kb q kd, .slice vb vm vd, .slice cb cm cd])] → W.cell? ⟨w.heap.size, 1, none⟩ = some (.bool lf) := fun W hW => hW.cell 0 1 rfl rfl
  have k2 : ∀ W, Boxes W [(w.heap.size, [.int .i64 a.page, .bool lf, .slice ka m kc, .slice va vn vc, .slice ca cn cc]), (w.heap.size + 1, [.int .i64 b.page, .bool lf, .slice kb q kd, .slice vb vm vd, .slice cb cm cd])] → W.cell? ⟨w.heap.size, 2, none⟩ = some (.slice ka m kc) := fun W hW => hW.cell 0 2 rfl rfl
  have k3 : ∀ W, Boxes W [(w.heap.size, [.int .i64 a.page, .bool lf, .slice ka m kc, .slice va vn vc, .slice ca cn cc]), (w.heap.size + 1, [.int .i64 b.page, .bool lf, .slice kb q kd, .slice vb vm vd, .slice cb cm cd])] → W.cell? ⟨w.heap.size, 3, none⟩ = some (.slice va vn vc) := fun W hW => hW.cell 0 3 rfl rfl
  have k4 : ∀ W, Boxes W [(w.heap.size, [.int .i64 a.page, .bool lf, .slice ka m kc, .slice va vn vc, .slice ca cn cc]), (w.heap.size + 1, [.int .i64 b.page, .bool lf, .slice kb q kd, .slice vb vm vd, .slice cb cm cd])] → W.cell? ⟨w.heap.size, 4, none⟩ = some (.slice ca cn cc) := fun W hW => hW.cell 0 4 rfl rfl
  have k5 : ∀ W, Boxes W [(w.heap.size, [.int .i64 a.page, .bool lf, .slice ka m kc, .slice va vn vc, .slice ca cn cc]), (w.heap.size + 1, [.int .i64 b.page, .bool lf, .slice kb q kd, .slice vb vm vd, .slice cb cm cd])] → W.cell? ⟨w.heap.size + 1, 3, none⟩ = some (.slice vb vm vd) := fun W hW => hW.cell 1 3 rfl rfl
  have k6 : ∀ W, Boxes W [(w.heap.size, [.int .i64 a.page, .bool lf, .slice ka m kc, .slice va vn vc, .slice ca cn cc]), (w.heap.size + 1, [.int .i64 b.page, .bool lf, .slice kb q kd, .slice vb vm vd, .slice cb cm cd])] → W.cell? ⟨w.heap.size + 1, 4, none⟩ = some (.slice cb cm cd) := fun W hW => hW.cell 1 4 rfl rfl
  have hzc : w.heap.size + 3 ≤ wc.heap.size := by have := hx.lt 2 rfl; omega
  clear hL7 hLK hLV hLC hx ho hb hL7l HLL C1
  go_upto_region 4 with (fail)
  go_cut [6] (fun s6 wx => s6 = .pointer (some ⟨w.heap.size + 1 + 1, 0, none⟩) ∧ JoinEnd F w lf LK LV LC wx)
  case first =>
    go_region_held3 (fun W => Boxes W [(w.heap.size, [.int .i64 a.page, .bool lf, .slice ka m kc, .slice va vn vc, .slice ca cn cc]), (w.heap.size + 1, [.int .i64 b.page, .bool lf, .slice kb q kd, .slice vb vm vd, .slice cb cm cd])]) (first | with_reducible assumption | (repeat (with_reducible first | assumption | apply Boxes.al | apply Boxes.dr | apply Boxes.st))) (first | (go_at_call 196; (with_reducible refine (HC1 _ _ ?_ ?_).mono ?_); (focus (repeat (with_reducible first | assumption | exact Below.refl _ _ | apply Below.al | apply Below.dr))); (focus (repeat (with_reducible first | exact BoxAt.here3 | exact BoxAt.here2 | exact BoxAt.here | apply BoxAt.dr | apply BoxAt.al))); rintro e w1 hq1; obtain ⟨a1, c1, rfl, i11, i12, ho1, hb1, hB1⟩ := hq1; have hS1 : Boxes w1 [(w.heap.size, [.int .i64 a.page, .bool lf, .slice ka m kc, .slice va vn vc, .slice ca cn cc]), (w.heap.size + 1, [.int .i64 b.page, .bool lf, .slice kb q kd, .slice vb vm vd, .slice cb cm cd])] := HXc.out.step hB1; have U1 := fun b cs h => BoxAt.below (b := b) (cs := cs) h hb1) | (go_at_call 197; (with_reducible refine (HC2 _ _ ?_ ?_).mono ?_); (focus (repeat (with_reducible first | assumption | exact Below.refl _ _ | apply Below.al | apply Below.dr))); (focus (repeat (with_reducible first | exact BoxAt.here3 | exact BoxAt.here2 | exact BoxAt.here | apply BoxAt.dr | apply BoxAt.al | apply U1))); rintro e w2 hq2; obtain ⟨a2, c2, rfl, i21, i22, ho2, hb2, hB2⟩ := hq2; have hS2 : Boxes w2 [(w.heap.size, [.int .i64 a.page, .bool lf, .slice ka m kc, .slice va vn vc, .slice ca cn cc]), (w.heap.size + 1, [.int .i64 b.page, .bool lf, .slice kb q kd, .slice vb vm vd, .slice cb cm cd])] := HXc.out.step hB2; have U2 := fun b cs h => BoxAt.below (b := b) (cs := cs) h hb2; have hk12 := below_via (a := w1) (by (repeat (with_reducible first | exact Below.refl _ _ | apply Below.al | apply Below.dr))) hb2) | (go_at_call 193; (with_reducible refine (HC3 _ _ ?_ ?_).mono ?_); (focus (repeat (with_reducible first | assumption | exact Below.refl _ _ | apply Below.al | apply Below.dr))); (focus (repeat (with_reducible first | exact BoxAt.here3 | exact BoxAt.here2 | exact BoxAt.here | apply BoxAt.dr | apply BoxAt.al | apply U2 | apply U1))); rintro e w3 hq3; obtain ⟨a3, c3, rfl, i31, i32, ho3, hb3, hB3⟩ := hq3; have hS3 : Boxes w3 [(w.heap.size, [.int .i64 a.page, .bool lf, .slice ka m kc, .slice va vn vc, .slice ca cn cc]), (w.heap.size + 1, [.int .i64 b.page, .bool lf, .slice kb q kd, .slice vb vm vd, .slice cb cm cd])] := HXc.out.step hB3; have U3 := fun b cs h => BoxAt.below (b := b) (cs := cs) h hb3; have hk23 := below_via (a := w2) (by (repeat (with_reducible first | exact Below.refl _ _ | apply Below.al | apply Below.dr))) hb3; have hX3 := HX.out.step hB3; have z0 : w3.cell? ⟨w.heap.size + 1 + 1, 0, none⟩ = _ := hX3.cell 2 0 rfl rfl; have u0 : w3.frozen? ⟨w.heap.size + 1 + 1, 0, none⟩ = false := hX3.frozen 2 0 rfl; have z1 : w3.cell? ⟨w.heap.size + 1 + 1, 1, none⟩ = _ := hX3.cell 2 1 rfl rfl; have u1 : w3.frozen? ⟨w.heap.size + 1 + 1, 1, none⟩ = false := hX3.frozen 2 1 rfl; have z2 : w3.cell? ⟨w.heap.size + 1 + 1, 2, none⟩ = _ := hX3.cell 2 2 rfl rfl; have u2 : w3.frozen? ⟨w.heap.size + 1 + 1, 2, none⟩ = false := hX3.frozen 2 2 rfl; have z3 : w3.cell? ⟨w.heap.size + 1 + 1, 3, none⟩ = _ := hX3.cell 2 3 rfl rfl; have u3 : w3.frozen? ⟨w.heap.size + 1 + 1, 3, none⟩ = false := hX3.frozen 2 3 rfl; have z4 : w3.cell? ⟨w.heap.size + 1 + 1, 4, none⟩ = _ := hX3.cell 2 4 rfl rfl; have u4 : w3.frozen? ⟨w.heap.size + 1 + 1, 4, none⟩ = false := hX3.frozen 2 4 rfl))
    all_goals
      go_wp2_with fail
      go_meet
      have hg : ∀ {E : TypeId} {sz : Nat} {v : Value} {n : Nat} {xs : List Value}, w3.ownsRow wc.heap.size E sz v n xs → v.ownBlock ≠ some (w.heap.size + 2) := fun h e => by have := own_ge h _ e; omega
      have o1 := own_held (own_held ho1 hk12) hk23
      have o2 := own_held ho2 hk23
      exact ⟨rfl, a1, c1, a2, c2, a3, c3, set5_box (b := w.heap.size + 2) (hX3.sub (m := [(w.heap.size + 2, [.int .i64 0, .bool false, .slice none 0 0, .slice none 0 0, .slice none 0 0])]) (by intro x hx; simp only [List.mem_cons, List.not_mem_nil, or_false] at hx; rw [hx]; simp)) (by simp) _ _ _ _ _,
        Raw.of_sl (set5_own o1 (hg o1) _ _ _ _ _) rfl, Raw.of_sl (set5_own o2 (hg o2) _ _ _ _ _) rfl, Raw.of_sl (set5_own ho3 (hg ho3) _ _ _ _ _) rfl, set5_below (HB.out.trans (hB3.mono HB.out.size)) (by omega) _ _ _ _ _, Fa.of_own o1 (Fr.new HB.out.size), Fa.of_own o2 (Fr.new HB.out.size), Fa.of_own ho3 (Fr.new HB.out.size)⟩
  case rest =>
  unfold JoinEnd at hcut
  obtain ⟨rfl, x1, y1, x2, y2, x3, y3, hx9, r1, r2, r3, hb9, s1, s2, s3⟩ := hcut
  have HR1 := Lib.hid r1
  have HR2 := Lib.hid r2
  have HR3 := Lib.hid r3
  have HB9 := Lib.hid hb9
  have HS1 := Lib.hid s1
  have HS2 := Lib.hid s2
  have HS3 := Lib.hid s3
  have t0 := hx9.cell (b := w.heap.size + 1 + 1) 0 0 rfl rfl
  have t1 := hx9.cell (b := w.heap.size + 1 + 1) 0 1 rfl rfl
  have t2 := hx9.cell (b := w.heap.size + 1 + 1) 0 2 rfl rfl
  have t3 := hx9.cell (b := w.heap.size + 1 + 1) 0 3 rfl rfl
  have t4 := hx9.cell (b := w.heap.size + 1 + 1) 0 4 rfl rfl
  clear r1 r2 r3 hb9 hx9 s1 s2 s3 k1 k2 k3 k4 k5 k6
  go_wp2_with fail
  refine bodyPost_ret (v := .agg #[.int .i64 0, .bool lf, .slice x1 LK.length y1, .slice x2 LV.length y2, .slice x3 LC.length y3]) (by simp [results, Tryz.results192, go_sem, t0, t1, t2, t3, t4]) rfl ⟨[.int .i64 0, .bool lf, .slice x1 LK.length y1, .slice x2 LV.length y2, .slice x3 LC.length y3], rfl, ?_, HB9.out⟩
  obtain ⟨j1, j2, j3⟩ := HJK.out
  have jr := joinR (F := Fr F w) (key := key) HLE.out ((H4.out.below HB9.out).mono Fr.old) ((G4.out.below HB9.out).mono Fr.old)
  rw [HLV.out, HLC.out] at jr
  refine NodeOn.shut j2 (by rw [j3, HLA.out]) ?_ HR1.out HR2.out HR3.out HS1.out HS2.out HS3.out jr
  rw [j1, List.map_append, ← HLK.out, ← HL7.out, HLB.out]
  cases lf with
  | true => simp [HL2.out]
  | false => simp
end Go.Proofs.YtpghlmcoajaiiaaGreatDoor

/- The walks of the chapter on parting: sums, lowness, neighbours. -/
namespace Go.Proofs.YtpghlmcoajaiiaaGreatDoor
open Go.RowKit

set_option maxRecDepth 100000 in
set_option maxHeartbeats 400000 in
theorem neighbour_any (m k : Int) (w : World) (_hm : 0 ≤ m ∧ m ≤ 1000) (hk : 0 ≤ k ∧ k ≤ 1000) :
    Calls Tryz.prog 191 #[.int .i64 m, .int .i64 k] w fun e w' => e = .returned (.int .i64 (neighF m k)) ∧ w = w' := by
  by_cases h : k + 1 < m
  · go_enter Tryz.func191, Tryz.ntmps191
    go_wp2
    go_ret
    exact ⟨ret_int (by unfold neighF; split <;> omega), rfl⟩
  · go_enter Tryz.func191, Tryz.ntmps191
    go_wp2
    go_ret
    exact ⟨ret_int (by unfold neighF; split <;> omega), rfl⟩

set_option maxRecDepth 100000 in
set_option maxHeartbeats 400000 in
theorem refNeighbour_any (m k : Int) (w : World) (_hm : 0 ≤ m ∧ m ≤ 1000) (hk : 0 ≤ k ∧ k ≤ 1000) :
    Calls Tryz.prog 166 #[.int .i64 m, .int .i64 k] w fun e w' => e = .returned (.int .i64 (neighF m k)) ∧ w = w' := by
  by_cases h : k + 1 < m
  · go_enter Tryz.func166, Tryz.ntmps166
    go_wp2
    go_ret
    exact ⟨ret_int (by unfold neighF; split <;> omega), rfl⟩
  · go_enter Tryz.func166, Tryz.ntmps166
    go_wp2
    go_ret
    exact ⟨ret_int (by unfold neighF; split <;> omega), rfl⟩

set_option maxRecDepth 100000 in
set_option maxHeartbeats 400000 in
theorem sum_any (a : Option Addr) (len cap : Nat) (l : List Int) (w : World) (hr : Row .i64 w a len cap l) (hs : Small l) :
    Calls Tryz.prog 143 #[.slice a len cap] w fun e w' => e = .returned (.int .i64 (sumI l)) ∧ w = w' := by
  obtain ⟨h1, h2, h3, hnn, h4⟩ := hr
  unfold maxLen at h3
  subst h1
  go_enter Tryz.func143, Tryz.ntmps143
  go_wp2
  go_loop [3, 8] (fun s i => ∃ k : Nat, k ≤ l.length ∧ i = .int .i64 k ∧ s = .int .i64 (sumI (l.take k))) (fun _ i => l.length - (intOf i).toNat)
  case atStart => exact ⟨0, Nat.zero_le _, rfl, rfl⟩
  case round =>
    obtain ⟨k, hk, rfl, rfl⟩ := hrel
    by_cases hlt : k < l.length
    · rcases h4 with h4 | ⟨b, off, rfl, hb, hc⟩
      · omega
      have hck := hc k hlt
      have hsn := sumI_take_succ l k hlt
      have hb1 := (hs.take k).bd
      have hb2 := hs.get k
      generalize l[k]?.getD 0 = x at *
      have H := Lib.hid hsn
      clear hsn hc hs
      go_wp2
      go_round
      case rel => exact ⟨k + 1, by omega, by go_num, by rw [H.out]⟩
      case measure => simp [intOf]; omega
    · obtain rfl : k = l.length := by omega
      simp only [List.take_length]
      go_wp2
      go_ret
      exact ⟨rfl, rfl⟩

set_option maxRecDepth 100000 in
set_option maxHeartbeats 400000 in
theorem refSum_any (a : Option Addr) (len cap : Nat) (l : List Int) (w : World) (hr : Row .i64 w a len cap l) (hs : Small l) :
    Calls Tryz.prog 150 #[.slice a len cap] w fun e w' => e = .returned (.int .i64 (sumI l)) ∧ w = w' := by
  obtain ⟨h1, h2, h3, hnn, h4⟩ := hr
  unfold maxLen at h3
  subst h1
  go_enter Tryz.func150, Tryz.ntmps150
  go_wp2
  go_loop [3, 4] (fun s i => ∃ k : Nat, k ≤ l.length ∧ i = .int .i64 k ∧ s = .int .i64 (sumI (l.take k))) (fun _ i => l.length - (intOf i).toNat)
  case atStart => exact ⟨0, Nat.zero_le _, rfl, rfl⟩
  case round =>
    obtain ⟨k, hk, rfl, rfl⟩ := hrel
    by_cases hlt : k < l.length
    · rcases h4 with h4 | ⟨b, off, rfl, hb, hc⟩
      · omega
      have hck := hc k hlt
      have hsn := sumI_take_succ l k hlt
      have hb1 := (hs.take k).bd
      have hb2 := hs.get k
      generalize l[k]?.getD 0 = x at *
      have H := Lib.hid hsn
      clear hsn hc hs
      go_wp2
      go_round
      case rel => exact ⟨k + 1, by omega, by go_num, by rw [H.out]⟩
      case measure => simp [intOf]; omega
    · obtain rfl : k = l.length := by omega
      simp only [List.take_length]
      go_wp2
      go_ret
      exact ⟨rfl, rfl⟩

set_option maxRecDepth 100000 in
set_option maxHeartbeats 400000 in
theorem low_any (a : Option Addr) (len cap : Nat) (l : List Int) (w : World) (hr : Row .i64 w a len cap l) (hs : Small l) :
    Calls Tryz.prog 145 #[.slice a len cap] w fun e w' => e = .returned (.bool (decide (sumI l < 30))) ∧ w = w' := by
  go_enter Tryz.func145, Tryz.ntmps145
  go_wp2_with (go_at_call 143; refine (sum_any _ _ _ _ _ hr hs).mono ?_; rintro e w' ⟨rfl, rfl⟩)
  go_ret
  exact ⟨rfl, rfl⟩

set_option maxRecDepth 100000 in
set_option maxHeartbeats 400000 in
theorem refLow_any (a : Option Addr) (len cap : Nat) (l : List Int) (w : World) (hr : Row .i64 w a len cap l) (hs : Small l) :
    Calls Tryz.prog 151 #[.slice a len cap] w fun e w' => e = .returned (.bool (decide (sumI l < 30))) ∧ w = w' := by
  go_enter Tryz.func151, Tryz.ntmps151
  go_wp2_with (go_at_call 150; refine (refSum_any _ _ _ _ _ hr hs).mono ?_; rintro e w' ⟨rfl, rfl⟩)
  go_ret
  exact ⟨rfl, rfl⟩

end Go.Proofs.YtpghlmcoajaiiaaGreatDoor

/- The walks of the chapter on parting: the places. -/
namespace Go.Proofs.YtpghlmcoajaiiaaGreatDoor
open Go.RowKit

theorem size_ints (w : World) : (sizeOf (Tryz.prog.elem 35)).run Tryz.prog w = .ok 1 w := by kernel_rfl
theorem elem_ints : Tryz.prog.underlying 35 = some (.slice (Tryz.prog.elem 35)) := by kernel_rfl

set_option maxRecDepth 100000 in
set_option maxHeartbeats 400000 in
theorem worse_any (a : Option Addr) (len cap at' : Nat) (l : List Int) (w : World) (hr : Row .i64 w a len cap l) (hs : Small l) (hat : at' ≤ len) :
    Calls Tryz.prog 164 #[.slice a len cap, .int .i64 at'] w fun e w' => e = .returned (.int .i64 (worse l at')) ∧ w = w' := by
  have hm := hr.2.2.1
  have hc := hr.2.1
  have hd := hr.drop at' hat
  obtain ⟨a2, ha2, hsl⟩ := slice_from elem_ints size_ints a len cap at' hat
  rw [← ha2] at hd
  clear ha2
  have hg : sumI (l.drop at') < sumI (l.take at') ∨ ¬ sumI (l.drop at') < sumI (l.take at') := by omega
  have hw : Hid (worse l at' = if sumI (l.drop at') < sumI (l.take at') then sumI (l.take at') else sumI (l.drop at')) := Lib.hid (by unfold worse; omega)
  unfold maxLen at hm
  rcases hg with hg | hg <;>
  · go_enter Tryz.func164, Tryz.ntmps164
    go_wp2_with fail
    refine (refSum_any _ _ _ _ _ (hr.take at' hat) (hs.take at')).mono ?_
    rintro e w' ⟨rfl, rfl⟩
    go_wp2_with fail
    refine (refSum_any _ _ _ _ _ hd (hs.drop at')).mono ?_
    rintro e w' ⟨rfl, rfl⟩
    go_wp2
    go_ret
    exact ⟨ret_int (by rw [hw.out]; split <;> first | rfl | omega), rfl⟩
end Go.Proofs.YtpghlmcoajaiiaaGreatDoor

/- The iterator over the places at which sizes can be parted. -/
namespace Go.Proofs.YtpghlmcoajaiiaaGreatDoor
open Go.RowKit Go.Shelf
attribute [local go_sem] Oper.semAt_some

def upto {α : Type} (f : Nat → α) (k : Nat) : List α := (List.range k).map f
theorem upto_succ {α : Type} (f : Nat → α) (k : Nat) : upto f (k + 1) = upto f k ++ [f k] := by simp [upto, List.range_succ]
theorem upto_length {α : Type} (f : Nat → α) (k : Nat) : (upto f k).length = k := by simp [upto]

def place (l : List Int) (k : Nat) : Int × Int := ((k : Int) + 1, worse l (k + 1))

set_option maxRecDepth 100000 in
set_option maxHeartbeats 400000 in
theorem parts_any (a : Option Addr) (len cap : Nat) (w : World) :
    Calls Tryz.prog 189 #[.slice a len cap] w fun e w' => e = .returned (.func (.func 201) #[] #[.pointer (some ⟨w.heap.size, 0, none⟩)]) ∧ w.alloc (.cells #[.slice a len cap] 35) = w' := by
  go_enter Tryz.func189, Tryz.ntmps189
  go_wp2
  go_ret
  exact ⟨rfl, rfl⟩

set_option maxRecDepth 100000 in
set_option maxHeartbeats 1000000 in
theorem parts1_in (n : Nat) (hn : 1 ≤ n) (l' Bs n₀ : Nat) (a : Option Addr) (len cap : Nat) (l : List Int) (hs : Small l) (J Jx : List (Int × Int) → World → Prop)
    (hY : ∀ pre x W, J pre W → pre.length < l.length → YieldAt Fence.wide (n - 1) Tryz.prog l' #[.int .i64 x.1, .int .i64 x.2] W fun e W' =>
      (e = .returned (.bool true) ∧ J (pre ++ [x]) W' ∧ Below n₀ W W') ∨ (e = .returned (.bool false) ∧ Jx (pre ++ [x]) W'))
    (W : World) (hBs : W.cell? ⟨Bs, 0, none⟩ = some (.slice a len cap)) (hr : Row .i64 W a len cap l) (hB : ∀ b off, len ≠ 0 → a = some ⟨b, off, none⟩ → b < n₀) (h0 : J [] W) :
    CallsIn Fence.wide n Tryz.prog 201 #[.func (.yield l') #[] #[], .pointer (some ⟨Bs, 0, none⟩)] W fun e W' => (∃ v, e = .returned v) ∧
      ((∃ ys, ys = upto (place l) (l.length - 1) ∧ J ys W') ∨ (∃ pre, True ∧ Jx pre W')) := by
  refine callsIn_of_wp Tryz.func201 rfl trivial ?_ rfl
  simp only [Tryz.ntmps201, List.size_toArray, List.length_cons, List.length_nil, Nat.reduceAdd, Nat.reduceSub, Array.replicate_succ, Array.replicate_zero, List.push_toArray, List.append_toArray, List.nil_append, List.cons_append]
  have hr0 := hr
  obtain ⟨h1, h2, h3, hnn, h4⟩ := hr
  unfold maxLen at h3
  subst h1
  gi_wp2_with (refine ⟨trivial, ?_⟩; gi_at_call 143; refine (callsIn_wide.2 (sum_any _ _ _ _ _ hr0 hs)).mono ?_; rintro e w' ⟨rfl, rfl⟩)
  gi_loopw [3, 4, 11] (fun ah re i wr => ∃ k : Nat, k ≤ l.length ∧ i = .int .i64 k ∧ ah = .int .i64 (sumI (l.take k)) ∧ re = .int .i64 (sumI (l.drop k)) ∧ J (upto (place l) (k - 1)) wr ∧ Below n₀ W wr)
    (fun _ _ i _ => l.length - (intOf i).toNat)
  case atStart => exact ⟨0, Nat.zero_le _, rfl, rfl, rfl, h0, Below.refl _ _⟩
  case round =>
    obtain ⟨k, hk, rfl, rfl, rfl, hJs, hnx⟩ := hrel
    by_cases hlt : k < l.length
    · rcases h4 with h4 | ⟨b, off, rfl, hb, hc⟩
      · omega
      have hck : wr.cell? ⟨b, off + k, none⟩ = _ := (hnx.cell (p := ⟨b, off + k, none⟩) (hB b off (by omega) rfl)).trans (hc k hlt)
      have hsn := sumI_take_succ l k hlt
      have hsd : sumI (l.drop (k + 1)) = sumI (l.drop k) - l[k]?.getD 0 := by
        have e1 := sumI_split l k
        have e2 := sumI_split l (k + 1)
        omega
      have hb1 := (hs.take k).bd
      have hb3 := (hs.drop k).bd
      have hb2 := hs.get k
      have hpl : 0 < k → place l (k - 1) = ((k : Int), max (sumI (l.take k)) (sumI (l.drop k))) := by
        intro hk0
        obtain ⟨m, rfl⟩ : ∃ m, k = m + 1 := ⟨k - 1, by omega⟩
        simp [place, worse]
      generalize l[k]?.getD 0 = x at *
      have H1 := Lib.hid hsn
      have H2 := Lib.hid hsd
      clear hsn hsd hc hr0
      by_cases hk0 : k = 0
      · have hkn : (k : Int) ≤ 0 := by omega
        have hd : decide ((0 : Int) < (k : Int)) = false := by simp; omega
        clear hpl
        have HK := Lib.hid hk0
        clear hk0
        gi_wp2
        refine ⟨fun _ h => (by cases h), ?_⟩
        gi_wp2
        go_roundw
        case rel => exact ⟨k + 1, by omega, by go_num, by rw [H1.out], by rw [H2.out], by rw [HK.out] at hJs ⊢; exact hJs, hnx⟩
        case measure => simp [intOf]; omega
      · have hpl' := Lib.hid (hpl (by omega))
        clear hpl
        have hkp : (0 : Int) < (k : Int) := by omega
        obtain ⟨fn, tmps, assign, body, hy, hR⟩ := hY _ (place l (k - 1)) wr hJs (by rw [upto_length]; omega)
        rw [hpl'.out] at hy
        dsimp only at hy
        have HJ := Lib.hid (show upto (place l) (k + 1 - 1) = upto (place l) (k - 1) ++ [place l (k - 1)] by
          rw [← upto_succ]; congr 1; omega)
        by_cases hm : sumI (l.take k) < sumI (l.drop k)
        · rw [Int.max_eq_right (by omega)] at hy
          gi_wp2
          refine hR.mono ?_
          rintro e W3 (⟨rfl, hJ3, hk3⟩ | ⟨rfl, hJx3⟩)
          · gi_wp2
            go_roundw
            case rel => exact ⟨k + 1, by omega, by go_num, by rw [H1.out], by rw [H2.out], by rw [HJ.out]; exact hJ3, hnx.trans hk3⟩
            case measure => simp [intOf]; omega
          · gi_wp2
            refine bodyPost_ret (results_none rfl _ _ _) rfl ?_
            exact ⟨⟨_, rfl⟩, .inr ⟨_, trivial, hJx3⟩⟩
        · rw [Int.max_eq_left (by omega)] at hy
          gi_wp2
          refine hR.mono ?_
          rintro e W3 (⟨rfl, hJ3, hk3⟩ | ⟨rfl, hJx3⟩)
          · gi_wp2
            go_roundw
            case rel => exact ⟨k + 1, by omega, by go_num, by rw [H1.out], by rw [H2.out], by rw [HJ.out]; exact hJ3, hnx.trans hk3⟩
            case measure => simp [intOf]; omega
          · gi_wp2
            refine bodyPost_ret (results_none rfl _ _ _) rfl ?_
            exact ⟨⟨_, rfl⟩, .inr ⟨_, trivial, hJx3⟩⟩
    · obtain rfl : k = l.length := by omega
      gi_wp2
      go_end0
      exact ⟨⟨_, rfl⟩, .inl ⟨_, rfl, hJs⟩⟩
end Go.Proofs.YtpghlmcoajaiiaaGreatDoor

/- Where sizes are parted: the walk. -/
namespace Go.Proofs.YtpghlmcoajaiiaaGreatDoor
open Go.RowKit Go.Shelf
attribute [local go_sem] Oper.semAt_some

theorem parts_stops (n : Nat) (hn : 1 ≤ n) (Bs n₀ : Nat) (a : Option Addr) (len cap : Nat) (l : List Int) (hs : Small l) (w : World) (hBs : Bs < w.heap.size) (_hn₀ : n₀ ≤ w.heap.size)
    (hc : w.cell? ⟨Bs, 0, none⟩ = some (.slice a len cap)) (hr : Row .i64 w a len cap l) (hB : ∀ b off, len ≠ 0 → a = some ⟨b, off, none⟩ → b < n₀) :
    SeqStopsK Fence.wide n Tryz.prog 201 #[.pointer (some ⟨Bs, 0, none⟩)] (fun x : Int × Int => #[Value.int .i64 x.1, Value.int .i64 x.2]) (Below n₀)
      (fun ys => ys = upto (place l) (l.length - 1)) (fun _ => True) l.length w := fun l' J Jx W hW _ _ hY h0 => by
  have hc' := (hW.cell (p := ⟨Bs, 0, none⟩) hBs).trans hc
  have hr' : Row .i64 W a len cap l := hr.below (Nat.le_refl _) hW
  exact parts1_in n hn l' Bs n₀ a len cap l hs J Jx (fun pre x W1 h1 h2 => hY pre x W1 h1 h2) W hc' hr' hB h0

set_option maxRecDepth 100000 in
set_option maxHeartbeats 1000000 in
theorem at_any (a : Option Addr) (len cap : Nat) (l : List Int) (w : World) (hr : Row .i64 w a len cap l) (hs : Small l) :
    Calls Tryz.prog 155 #[.slice a len cap] w fun e w' => e = .returned (.int .i64 (atF l)) ∧ Below w.heap.size w w' := by
  refine (callsIn_wide (n := 8)).1 ?_
  have hbd := hs.bd
  by_cases hle : sumI l ≤ 122
  · have hat : Hid (atF l = 0) := Lib.hid (by simp [atF, hle])
    refine callsIn_of_wp Tryz.func155 rfl trivial ?_ rfl
    simp only [Tryz.ntmps155, List.size_toArray, List.length_cons, List.length_nil, Nat.reduceAdd, Nat.reduceSub, Array.replicate_succ, Array.replicate_zero, List.push_toArray, List.append_toArray, List.nil_append, List.cons_append]
    gi_wp2_with (refine ⟨trivial, ?_⟩; gi_at_call 143; refine (callsIn_wide.2 (sum_any _ _ _ _ _ hr hs)).mono ?_; rintro e w' ⟨rfl, rfl⟩)
    go_ret
    exact ⟨ret_int hat.out.symm, ((Below.refl _ w).alloc (Nat.le_refl _) _).alloc (by simp) _⟩
  · have hat : Hid (atF l = (foldBest l (upto (place l) (l.length - 1))).2) := Lib.hid (by simp only [atF, if_neg hle]; rfl)
    have hlen := Lib.hid hr.1
    have hlc := hr.2.1
    refine callsIn_of_wp_marks Tryz.func155 rfl trivial ?_ rfl
    simp only [Tryz.ntmps155, List.size_toArray, List.length_cons, List.length_nil, Nat.reduceAdd, Nat.reduceSub, Array.replicate_succ, Array.replicate_zero, List.push_toArray, List.append_toArray, List.nil_append, List.cons_append]
    gi_wp2_with (first | (refine ⟨trivial, ?_⟩; gi_at_call 143; refine (callsIn_wide.2 (sum_any _ _ _ _ _ hr hs)).mono ?_; rintro e w' ⟨rfl, rfl⟩) | (refine ⟨trivial, ?_⟩; gi_at_call 189; refine (callsIn_wide.2 (parts_any _ _ _ _)).mono ?_; rintro e w' ⟨rfl, rfl⟩))
    have b0 := Boxed.new w 3 (.int .i64 (sumI l + 1))
    have b1 := Boxed.new (w.alloc (.cells #[.int .i64 (sumI l + 1)] 3)) 3 (.int .i64 0)
    have b2 := Boxed.new ((w.alloc (.cells #[.int .i64 (sumI l + 1)] 3)).alloc (.cells #[.int .i64 0] 3)) 35 (.slice a len cap)
    rw [World.size_alloc] at b1 b2
    rw [World.size_alloc] at b2
    have hB0 : Below w.heap.size w (((w.alloc (.cells #[.int .i64 (sumI l + 1)] 3)).alloc (.cells #[.int .i64 0] 3)).alloc (.cells #[.slice a len cap] 35)) := (((Below.refl _ w).alloc (Nat.le_refl _) _).alloc (by simp) _).alloc (by simp; omega) _
    refine wpIn_rangeFunc_ownG rfl (by omega) (gf := 201) (lb := #[.pointer (some ⟨w.heap.size + 1 + 1, 0, none⟩)]) rfl trivial (enters_of Tryz.func201 (by kernel_rfl) rfl)
      (parts_stops 7 (by omega) (w.heap.size + 1 + 1) w.heap.size a len cap l hs _ (by simp) (by simp; omega) b2.cell (hr.below (Nat.le_refl _) hB0) (fun b off h0 e => by
        rcases hr.2.2.2.2 with h | ⟨b', off', h, h6, _⟩
        · omega
        · rw [h] at e; cases e; exact h6)) belowK_t (belowK_b (by simp; omega)) (Below.refl _ _) (fun _ => rfl)
      (fun pre W => (W.cell? ⟨w.heap.size, 0, none⟩ = some (.int .i64 (foldBest l pre).1) ∧ W.frozen? ⟨w.heap.size, 0, none⟩ = false ∧ W.cell? ⟨w.heap.size + 1, 0, none⟩ = some (.int .i64 (foldBest l pre).2) ∧ W.frozen? ⟨w.heap.size + 1, 0, none⟩ = false) ∧ Below w.heap.size w W)
      (fun _ _ _ => False)
      (OwnFrom.and (Own.from (fun s A B row hs hg hr => ⟨cell_kept hs.1 hg hr, (frozen_kept hs.1 hg hr).trans hs.2.1, cell_kept hs.2.2.1 hg hr, (frozen_kept hs.2.2.1 hg hr).trans hs.2.2.2⟩) _) (ownFrom_below (Nat.le_refl _) (by simp; omega)))
      (fun _ _ _ _ _ hs _ _ => hs)
      ⟨⟨((b0.alloc _).alloc _).cell, ((b0.alloc _).alloc _).frozen, (b1.alloc _).cell, (b1.alloc _).frozen⟩, hB0⟩
      (fun x => { tmps := #[.slice a len cap, undef, .int .i64 0, .pointer (some ⟨w.heap.size, 0, none⟩), .pointer (some ⟨w.heap.size + 1, 0, none⟩), .int .i64 x.1, .int .i64 x.2, .slice a len cap, .int .i64 (sumI l), .int .i64 (sumI l + 1), .int .i64 (sumI l + 1), .bool (decide (sumI l + 1 ≤ 123)), .slice a len cap, .func (.func 201) #[] #[.pointer (some ⟨w.heap.size + 1 + 1, 0, none⟩)], .int .i64 x.1, .int .i64 x.2, undef, undef, undef, undef, undef, undef], defers := [] }) ?assign ?body ?done ?stop
    case assign =>
      intro l x W K hK
      gi_wp2
      exact hK
    case body =>
      rintro l' pre x W ⟨⟨hc0, hf0, hc1, hf1⟩, hB⟩ _
      have hsn := Lib.hid (foldBest_snoc l pre x)
      have hbt : better (foldBest l pre) x = if x.2 < (foldBest l pre).1 then (x.2, x.1) else foldBest l pre := rfl
      generalize hP : foldBest l pre = p at *
      have hbt' := Lib.hid hbt
      clear hbt hP
      by_cases hlt : x.2 < p.1
      · gi_wp2
        refine ⟨((KeepsOthers.setCell _ _ _).trans (KeepsOthers.setCell _ _ _)).from _, ((Below.refl w.heap.size W).setCell (p := ⟨w.heap.size, 0, none⟩) (Nat.le_refl _) _).setCell (p := ⟨w.heap.size + 1, 0, none⟩) (by simp) _, ?_, (hB.setCell (p := ⟨w.heap.size, 0, none⟩) (Nat.le_refl _) _).setCell (p := ⟨w.heap.size + 1, 0, none⟩) (by simp) _⟩
        rw [hsn.out, hbt'.out, if_pos hlt]
        refine ⟨?_, by simpa using hf0, ?_, by simpa using hf1⟩
        · rw [World.cell?_setCell_far _ _ _ _ (by simp)]
          exact World.cell?_setCell_same' _ _ _ (by rw [hc0]; rfl)
        · exact World.cell?_setCell_same' _ _ _ (by rw [World.cell?_setCell_far _ _ _ _ (by simp), hc1]; rfl)
      · gi_wp2
        refine ⟨KeepsFrom.refl _ _, Below.refl _ _, ?_, hB⟩
        rw [hsn.out, hbt'.out, if_neg (by omega)]
        exact ⟨hc0, hf0, hc1, hf1⟩
    case done =>
      rintro D ys W hD rfl ⟨⟨_, _, hc1, hf1⟩, hB⟩ hK
      gi_wp2
      refine ⟨by simp, .inl ⟨_, _, rfl, run_takeDeferred hK, ?_⟩⟩
      refine ⟨.int .i64 (foldBest l (upto (place l) (l.length - 1))).2, ?_, by rw [hat.out], hB.trans (belowK_b (w := w) (Nat.le_refl _) W D _ _ (by simp at hD; omega) hK rfl rfl)⟩
      exact (results_tmp rfl _ _ _).trans rfl
    case stop =>
      rintro D c pre W _ _ h _
      exact h.elim
end Go.Proofs.YtpghlmcoajaiiaaGreatDoor

/- The walks of trees: a branch whose kid is parted, if it must be (printed by gen_treS.py). -/
namespace Go.Proofs.YtpghlmcoajaiiaaGreatDoor
open Go.RowKit

/-- A branch whose kid is parted, if it must be; whether it was. -/
def splitR (p : Int) (l : List (List UInt8 × Tr)) (k : Nat) : Tr := match splitT l k with
  | some m => .node 0 m
  | none => .node p l
theorem swap_map {α β : Type} (f : α → β) (l : List α) (i j : Nat) (s : List α) : (swapL l i j s).map f = swapL (l.map f) i j (s.map f) := by simp [swapL]
theorem Tells.swap {α : Type} {sz : Nat} {R : List Value → α → Prop} {L S : List (Cl sz)} {l s : List α} (h : Tells R L l) (hs : Tells R S s) (i j : Nat) : Tells R (swapL L i j S) (swapL l i j s) := (h.take i).append (hs.append (h.drop (i + j)))
theorem kid_tells {F : Nat → Prop} {n : Nat} {w : World} {C : List (Cl 5)} {l : List (List UInt8 × Tr)} (h : Tells (NodeOn F n w) C (l.map (·.2))) {k : Nat} {y : Cl 5} (hy : C[k]? = some y) : NodeOn F n w y.1 (kidAt l k) := by
  have hk := (List.getElem?_eq_some_iff.1 hy).1
  have hkl : k < l.length := by have := h.1; rw [List.length_map] at this; omega
  refine h.2 k y _ hy ?_
  simp [kidAt, hkl]
theorem mid_drop {α : Type} {x y : List α} {c : α} {n : Nat} (h : x.length = n) : (x ++ c :: y).drop (n + 1) = y := by subst h; simp [List.drop_append]
theorem mid_take {α : Type} {x y : List α} {c : α} {n : Nat} (h : x.length = n) : (x ++ c :: y).take (n + 1) = x ++ [c] := by subst h; rw [List.take_append, List.take_of_length_le (by omega)]; simp
theorem splitR_ok {F : Nat → Prop} {n : Nat} {w : World} {p : Int} {l : List (List UInt8 × Tr)} {k : Nat} {V : List (Cl 2)} {C : List (Cl 5)} {A B : Cl 5} (h : NodeRF F n w ((keysOf l).map kCell) V C (.node p l)) (hk : k < l.length) (hat : atF (sizesT (kidAt l k)) ≠ 0)
    (hA : NodeOn F n w A.1 (partT (atF (sizesT (kidAt l k))).toNat (kidAt l k)).1) (hB : NodeOn F n w B.1 (partT (atF (sizesT (kidAt l k))).toNat (kidAt l k)).2.1) :
    ∃ m, splitR p l k = .node 0 m ∧ (splitT l k).isSome = true ∧ keysOf m = swapL (keysOf l) (k + 1) 0 [(partT (atF (sizesT (kidAt l k))).toNat (kidAt l k)).2.2] ∧ NodeRF F n w ((keysOf m).map kCell) [] (swapL C k 1 [A, B]) (.node 0 m) := by
  obtain ⟨a, c, b, rfl, rfl⟩ := list_at hk
  unfold splitR splitT
  rw [if_neg hat]
  refine ⟨_, rfl, rfl, ?_, tells_keys _, rfl, ?_⟩
  · rw [keyAt_at]; simp [keysOf, swapL, mid_drop (show (a.map (·.1)).length = a.length by simp), mid_take (show (a.map (·.1)).length = a.length by simp)]
  · have := (h.2.2).swap (Tells.cons hA (Tells.one hB)) a.length 1
    rw [keyAt_at]
    simpa [swapL, mid_drop (show (a.map (·.2)).length = a.length by simp)] using this
theorem splitR_none {p : Int} {l : List (List UInt8 × Tr)} {k : Nat} (hat : atF (sizesT (kidAt l k)) = 0) : splitR p l k = .node p l ∧ (splitT l k).isSome = false := by
  unfold splitR splitT
  rw [if_pos hat]
  exact ⟨rfl, rfl⟩
theorem sizes_len (t : Tr) : (sizesT t).length = cntT t := by cases t <;> simp [sizesT, cntT]
theorem Bnd.cnt {n : Nat} {t : Tr} (h : Bnd (n + 1) t) : cntT t ≤ 1000 := by cases t with
  | leaf p l => exact h.1
  | node p l => exact h.1
def SplitPost (F : Nat → Prop) (n : Nat) (w : World) (t : Tr) (b : Bool) (e : Ending) (w' : World) : Prop := ∃ cs, e = .returned (.tuple #[.agg cs.toArray, .bool b]) ∧ NodeOn (Fr F w) n w' cs t ∧ Below w.heap.size w w'
def SplitEnd (F : Nat → Prop) (w3 : World) (w : World) (K : List (Cl 1)) (C : List (Cl 5)) (wx : World) : Prop :=
  ∃ ka kc ca cc, Boxes wx [(w.heap.size + 1, [.int .i64 0, .bool false, .slice ka K.length kc, .slice none 0 0, .slice ca C.length cc])] ∧ Raw 1 wx ka K.length kc K ∧ Raw 5 wx ca C.length cc C ∧ Below w.heap.size w wx ∧ Fa (Fr F w) ka K.length ∧ Fa (Fr F w) ca C.length ∧ ∀ G : Nat → Prop, ¬ G (w.heap.size + 1) → AgreeF G w3 wx
set_option maxRecDepth 100000 in
set_option maxHeartbeats 4000000 in
theorem tsplit_any {F : Nat → Prop} {n : Nat} {w : World} {cs : List Value} {p : Int} {l : List (List UInt8 × Tr)} (h : NodeOn F (n + 2) w cs (.node p l)) (k : Nat) (hk : k < l.length) (hl : l.length ≤ 1000) (hb : Bnd (n + 1) (kidAt l k)) :
    Calls Tryz.prog 190 #[.agg cs.toArray, .int .i64 (k : Int)] w (SplitPost F (n + 2) w (splitR p l k) (splitT l k).isSome) := by
  obtain ⟨ka, kc, va, vn, vc, ca, cn, cc, V, C, rfl, h1, h2, h3, h4, _⟩ := h.lt.open
  obtain ⟨_, r1, r2⟩ := h4.toR.lens
  have hV : V = [] := h4.2.1
  have hcn : cn = l.length := by rw [← h3.1, r2]; rfl
  have hvn : vn = 0 := by rw [← h2.1, hV]; rfl
  subst hV hcn hvn
  obtain ⟨bc, oc, y, yc, eca, hbc, hy, _, hyc, hcell⟩ := TabR.at h3 hk
  have hyc : yc = y.1 := hyc
  subst hyc
  have hkid := kid_tells h4.2.2 hy
  obtain ⟨q1, q2, q3, q4, q5, q6, q7, q8, _, _, ey, _⟩ := hkid.open
  rw [ey] at hcell hkid
  have hB0 : Below w.heap.size w ((w.alloc (.cells #[.int .i64 p, .bool false, .slice ka l.length kc, .slice va 0 vc, .slice ca l.length cc] 50)).alloc (.cells #[.int .i64 0, .bool false, .slice none 0 0, .slice none 0 0, .slice none 0 0] 50)) := Below.al (Below.al (Below.refl _ _))
  have hX0 : Boxes _ [(w.heap.size + 1, [.int .i64 0, .bool false, .slice none 0 0, .slice none 0 0, .slice none 0 0]), (w.heap.size, [.int .i64 p, .bool false, .slice ka l.length kc, .slice va 0 vc, .slice ca l.length cc])] := (((Boxes.nil w).alloc #[.int .i64 p, .bool false, .slice ka l.length kc, .slice va 0 vc, .slice ca l.length cc] 50 rfl).alloc #[.int .i64 0, .bool false, .slice none 0 0, .slice none 0 0, .slice none 0 0] 50 (b := w.heap.size + 1) (by simp))
  obtain ⟨wA, hwA⟩ : ∃ wA, (w.alloc (.cells #[.int .i64 p, .bool false, .slice ka l.length kc, .slice va 0 vc, .slice ca l.length cc] 50)).alloc (.cells #[.int .i64 0, .bool false, .slice none 0 0, .slice none 0 0, .slice none 0 0] 50) = wA := ⟨_, rfl⟩
  have hsA : w.heap.size + 2 ≤ wA.heap.size := by rw [← hwA]; simp
  rw [hwA] at hB0 hX0
  have c0 := (hB0.cell (p := ⟨bc, oc + k * 5, none⟩) hbc).trans (hcell 0 _ rfl)
  have c1 := (hB0.cell (p := ⟨bc, oc + k * 5 + 1, none⟩) hbc).trans (hcell 1 _ rfl)
  have c2 := (hB0.cell (p := ⟨bc, oc + k * 5 + 2, none⟩) hbc).trans (hcell 2 _ rfl)
  have c3 := (hB0.cell (p := ⟨bc, oc + k * 5 + 3, none⟩) hbc).trans (hcell 3 _ rfl)
  have c4 := (hB0.cell (p := ⟨bc, oc + k * 5 + 4, none⟩) hbc).trans (hcell 4 _ rfl)
  have f4 : wA.cell? ⟨w.heap.size, 4, none⟩ = _ := hX0.cell 1 4 rfl rfl
  have CS := tsizes_any (hkid.below hB0).toIn hb
  have hSm := hb.small
  have hSl := sizes_len (kidAt l k)
  have hcnt := hb.cnt
  have hl2 := h1.lens
  have hl3 := h3.lens
  subst eca
  have HN := Lib.hid h
  have H1 := Lib.hid h1
  have H3 := Lib.hid h3
  have H4 := Lib.hid h4
  have HK := Lib.hid hkid
  have HY := Lib.hid hy
  have HE := Lib.hid ey
  have HX := Lib.hid hX0
  have HB := Lib.hid hB0
  have HS := Lib.hid hSm
  have HL := Lib.hid hSl
  have HBN := Lib.hid hb
  obtain ⟨_, hl2, hl2'⟩ := hl2
  obtain ⟨_, hl3, hl3'⟩ := hl3
  have hcA : cntT (Tr.node p l) = l.length := rfl
  have hpA : (Tr.node p l).page = p := rfl
  have hfA : (Tr.node p l).isLeaf = false := rfl
  rw [hcA, hpA, hfA]
  rw [hcA] at hl2 H1
  clear hcell h1 h3 h4 hkid hy ey hX0 hB0 hSm hSl hb h hcA hpA hfA r1 r2 h2
  obtain ⟨kid, hkd⟩ : ∃ kid, kidAt l k = kid := ⟨_, rfl⟩
  rw [hkd] at HK HS HL HBN CS c0 c1 c2 hcnt HE
  have HKD := Lib.hid hkd
  obtain ⟨S, hS⟩ : ∃ S, sizesT kid = S := ⟨_, rfl⟩
  rw [hS] at HS HL CS
  have HSS := Lib.hid hS
  obtain ⟨kl, hkl⟩ : ∃ kl, kid.isLeaf = kl := ⟨_, rfl⟩
  obtain ⟨kp, hkp⟩ : ∃ kp, kid.page = kp := ⟨_, rfl⟩
  obtain ⟨kcn, hkc⟩ : ∃ kcn, cntT kid = kcn := ⟨_, rfl⟩
  rw [hkl] at HK CS HE c1
  rw [hkp] at HK CS HE c0
  rw [hkc] at HK CS HE c2 hcnt HL
  have HKL := Lib.hid hkl
  have HKC := Lib.hid hkc
  clear hkd hS hkl hkp hkc
  obtain ⟨m, hm⟩ : ∃ m, l.length = m := ⟨_, rfl⟩
  rw [hm] at hwA f4 hl2 hl3 HX hk hl H1 H3 ⊢
  have HM := Lib.hid hm
  clear hm
  go_enter Tryz.func190, Tryz.ntmps190
  go_wp2_with fail
  refine CS.mono ?_
  rintro e w1 ⟨v1, rfl, ho1, hb1⟩
  obtain ⟨sa, sc, rfl, hrow⟩ := Row.of_own ho1
  clear CS ho1
  go_wp2_with fail
  refine (at_any _ _ _ _ _ hrow HS.out).mono ?_
  rintro e w2 ⟨rfl, hb2⟩
  have hbA := below_via hb1 hb2
  have HBA := Lib.hid hbA
  have hX2 := HX.out.step hbA
  have HX2 := Lib.hid hX2
  have hz2 : w.heap.size + 2 ≤ w2.heap.size := Nat.le_trans hsA hbA.size
  have n0 := hX2.cell 1 0 rfl rfl
  have n1 := hX2.cell 1 1 rfl rfl
  have n2 := hX2.cell 1 2 rfl rfl
  have n3 := hX2.cell 1 3 rfl rfl
  have n4 := hX2.cell 1 4 rfl rfl
  have hbc2 : bc < wA.heap.size := Nat.lt_of_lt_of_le hbc HB.out.size
  have HCC := Lib.hid (And.intro c0 (And.intro c1 (And.intro c2 (And.intro c3 c4))))
  clear hb1 hb2 hrow hX2 c0 c1 c2 c3 c4 f4 hwA
  by_cases hat : atF S = 0
  · have HAT := Lib.hid hat
    obtain ⟨hsp, hsb⟩ := splitR_none (p := p) (l := l) (k := k) (by rw [HKD.out, HSS.out]; exact hat)
    rw [hat]
    have HSP := Lib.hid hsp
    have HSB := Lib.hid hsb
    have z0 := HX2.out.cell 0 0 rfl rfl
    have z1 := HX2.out.cell 0 1 rfl rfl
    have z2 := HX2.out.cell 0 2 rfl rfl
    have z3 := HX2.out.cell 0 3 rfl rfl
    have z4 := HX2.out.cell 0 4 rfl rfl
    have u0 := HX2.out.frozen 0 0 rfl
    have u1 := HX2.out.frozen 0 1 rfl
    have u2 := HX2.out.frozen 0 2 rfl
    have u3 := HX2.out.frozen 0 3 rfl
    have u4 := HX2.out.frozen 0 4 rfl
    have hX6 := set5_box HX2.out (by intro x hx; simp at hx; rw [hx]; simp) (.int .i64 p) (.bool false) (.slice ka m kc) (.slice va 0 vc) (.slice (some ⟨bc, oc, none⟩) m cc)
    have hB6 := set5_below (HB.out.trans (HBA.out.mono HB.out.size)) (b := w.heap.size + 1) (by omega) (.int .i64 p) (.bool false) (.slice ka m kc) (.slice va 0 vc) (.slice (some ⟨bc, oc, none⟩) m cc)
    obtain ⟨w6, hw6⟩ : ∃ w6, set5 w2 (w.heap.size + 1) (.int .i64 p) (.bool false) (.slice ka m kc) (.slice va 0 vc) (.slice (some ⟨bc, oc, none⟩) m cc) = w6 := ⟨_, rfl⟩
    rw [hw6] at hX6 hB6
    unfold set5 at hw6
    have HB6 := Lib.hid hB6
    have t0 := hX6.cell 0 0 rfl rfl
    have t1 := hX6.cell 0 1 rfl rfl
    have t2 := hX6.cell 0 2 rfl rfl
    have t3 := hX6.cell 0 3 rfl rfl
    have t4 := hX6.cell 0 4 rfl rfl
    clear hX6 hB6 hat hsp hsb
    go_wp2_with fail
    refine bodyPost_ret (v := .tuple #[.agg #[.int .i64 p, .bool false, .slice ka m kc, .slice va 0 vc, .slice (some ⟨bc, oc, none⟩) m cc], .bool false]) (by simp [results, Tryz.results190, go_sem, t0, t1, t2, t3, t4]) rfl ⟨[.int .i64 p, .bool false, .slice ka m kc, .slice va 0 vc, .slice (some ⟨bc, oc, none⟩) m cc], by rw [HSB.out], ?_, by first | exact HB6.out | (rw [hw6]; exact HB6.out)⟩
    rw [HSP.out]
    have := NodeOn.mono (Fr.old (F := F) (w := w)) (HN.out.below HB6.out)
    rw [show cntT (Tr.node p l) = l.length from rfl, HM.out] at this
    first | exact this | (rw [hw6]; exact this)
  · have hA : ∃ A : Nat, atF S = (A : Int) ∧ 0 < A ∧ A < kcn := by
      rcases atF_cases HS.out with ⟨e, _⟩ | ⟨_, A, g1, g2, g3, _⟩
      · exact absurd e hat
      · exact ⟨A, g3, by omega, by rw [← HL.out]; exact g2⟩
    obtain ⟨A, hA, hA0, hA1⟩ := hA
    rw [hA]
    have HAT := Lib.hid hA
    have d0 : ((A : Int) == 0) = false := by simp; omega
    have HNZ := Lib.hid hat
    obtain ⟨c0, c1, c2, c3, c4⟩ := HCC.out
    have e0 := (HBA.out.cell (p := ⟨bc, oc + k * 5, none⟩) hbc2).trans c0
    have e1 := (HBA.out.cell (p := ⟨bc, oc + k * 5 + 1, none⟩) hbc2).trans c1
    have e2 := (HBA.out.cell (p := ⟨bc, oc + k * 5 + 2, none⟩) hbc2).trans c2
    have e3 := (HBA.out.cell (p := ⟨bc, oc + k * 5 + 3, none⟩) hbc2).trans c3
    have e4 := (HBA.out.cell (p := ⟨bc, oc + k * 5 + 4, none⟩) hbc2).trans c4
    have hbw2 := HB.out.trans (HBA.out.mono HB.out.size)
    have CP := tpart_any (HK.out.below hbw2) A hA0 (by rw [HKC.out]; exact hA1) (by rw [HKC.out]; exact hcnt)
    have HBW := Lib.hid hbw2
    obtain ⟨ta, hta⟩ : ∃ t, (partT A kid).1 = t := ⟨_, rfl⟩
    obtain ⟨tb, htb⟩ : ∃ t, (partT A kid).2.1 = t := ⟨_, rfl⟩
    obtain ⟨key, hkey⟩ : ∃ t, (partT A kid).2.2 = t := ⟨_, rfl⟩
    rw [hta, htb, hkey] at CP
    have HTA := Lib.hid hta
    have HTB := Lib.hid htb
    have HKEY := Lib.hid hkey
    clear c0 c1 c2 c3 c4 hbw2 hta htb hkey hat hA
    go_wp2_with fail
    refine CP.mono ?_
    rintro e w3 ⟨xa, xb, rfl, hxA, hxB, hb3⟩
    obtain ⟨x1, x2, x3, x4, x5, x6, x7, x8, _, _, exa, _⟩ := hxA.open
    obtain ⟨y1, y2, y3, y4, y5, y6, y7, y8, _, _, exb, _⟩ := hxB.open
    subst exa exb
    obtain ⟨fa, hfa⟩ : ∃ t, ta.isLeaf = t := ⟨_, rfl⟩
    obtain ⟨fb, hfb⟩ : ∃ t, tb.isLeaf = t := ⟨_, rfl⟩
    obtain ⟨pa, hpa⟩ : ∃ t, ta.page = t := ⟨_, rfl⟩
    obtain ⟨pb, hpb⟩ : ∃ t, tb.page = t := ⟨_, rfl⟩
    obtain ⟨na, hna⟩ : ∃ t, cntT ta = t := ⟨_, rfl⟩
    obtain ⟨nb, hnb⟩ : ∃ t, cntT tb = t := ⟨_, rfl⟩
    rw [hfa, hpa, hna] at hxA ⊢
    rw [hfb, hpb, hnb] at hxB ⊢
    clear hfa hfb hpa hpb hna hnb
    have HXA := Lib.hid hxA
    have HXB := Lib.hid hxB
    have HB3 := Lib.hid (below_via HBW.out hb3)
    have HX3 := Lib.hid (HX2.out.step hb3)
    have hz3 : w.heap.size + 2 ≤ w3.heap.size := Nat.le_trans hz2 hb3.size
    clear CP hxA hxB hb3 e0 e1 e2 e3 e4 n0 n1 n2 n3 n4
    have hX4 : Boxes ((w3.alloc (.cells #[.int .i64 pa, .bool fa, .slice x1 na x2, .slice x3 x4 x5, .slice x6 x7 x8] 50)).alloc (.cells #[.int .i64 pb, .bool fb, .slice y1 nb y2, .slice y3 y4 y5, .slice y6 y7 y8] 50)) [(w3.heap.size + 1, [.int .i64 pb, .bool fb, .slice y1 nb y2, .slice y3 y4 y5, .slice y6 y7 y8]), (w3.heap.size, [.int .i64 pa, .bool fa, .slice x1 na x2, .slice x3 x4 x5, .slice x6 x7 x8]), (w.heap.size + 1, [.int .i64 0, .bool false, .slice none 0 0, .slice none 0 0, .slice none 0 0]), (w.heap.size, [.int .i64 p, .bool false, .slice ka m kc, .slice va 0 vc, .slice (some ⟨bc, oc, none⟩) m cc])] := (HX3.out.alloc #[.int .i64 pa, .bool fa, .slice x1 na x2, .slice x3 x4 x5, .slice x6 x7 x8] 50 rfl).alloc #[.int .i64 pb, .bool fb, .slice y1 nb y2, .slice y3 y4 y5, .slice y6 y7 y8] 50 (b := w3.heap.size + 1) (by simp)
    have hB4 : Below w3.heap.size w3 ((w3.alloc (.cells #[.int .i64 pa, .bool fa, .slice x1 na x2, .slice x3 x4 x5, .slice x6 x7 x8] 50)).alloc (.cells #[.int .i64 pb, .bool fb, .slice y1 nb y2, .slice y3 y4 y5, .slice y6 y7 y8] 50)) := Below.al (Below.al (Below.refl _ _))
    obtain ⟨wc, hwc⟩ : ∃ wc, (w3.alloc (.cells #[.int .i64 pa, .bool fa, .slice x1 na x2, .slice x3 x4 x5, .slice x6 x7 x8] 50)).alloc (.cells #[.int .i64 pb, .bool fb, .slice y1 nb y2, .slice y3 y4 y5, .slice y6 y7 y8] 50) = wc := ⟨_, rfl⟩
    rw [hwc] at hX4 hB4
    have HX := Lib.hid hX4
    have HBC := Lib.hid (below_via HB3.out hB4)
    have HB4 := Lib.hid hB4
    have hzc : w.heap.size + 2 ≤ wc.heap.size := Nat.le_trans hz3 hB4.size
    have HXc : Hid (Boxes wc [(w.heap.size, [.int .i64 p, .bool false, .slice ka m kc, .slice va 0 vc, .slice (some ⟨bc, oc, none⟩) m cc]), (w3.heap.size, [.int .i64 pa, .bool fa, .slice x1 na x2, .slice x3 x4 x5, .slice x6 x7 x8]), (w3.heap.size + 1, [.int .i64 pb, .bool fb, .slice y1 nb y2, .slice y3 y4 y5, .slice y6 y7 y8])]) := Lib.hid (hX4.sub (by intro x hx; simp only [List.mem_cons, List.not_mem_nil, or_false] at hx ⊢; rcases hx with e | e | e <;> simp [e]))
    clear hX4 hB4
    go_wp2_with fail
    clear hwc
    obtain ⟨LK, hLK⟩ : ∃ L, swapL ((keysOf l).map kCell) (k + 1) 0 [kCell key] = L := ⟨_, rfl⟩
    obtain ⟨cA, hcA⟩ : ∃ c : Cl 5, c.1 = [.int .i64 pa, .bool fa, .slice x1 na x2, .slice x3 x4 x5, .slice x6 x7 x8] := ⟨⟨[.int .i64 pa, .bool fa, .slice x1 na x2, .slice x3 x4 x5, .slice x6 x7 x8], rfl, by intro u hu; simp at hu; rcases hu with rfl | rfl | rfl | rfl | rfl <;> rfl⟩, rfl⟩
    obtain ⟨cB, hcB⟩ : ∃ c : Cl 5, c.1 = [.int .i64 pb, .bool fb, .slice y1 nb y2, .slice y3 y4 y5, .slice y6 y7 y8] := ⟨⟨[.int .i64 pb, .bool fb, .slice y1 nb y2, .slice y3 y4 y5, .slice y6 y7 y8], rfl, by intro u hu; simp at hu; rcases hu with rfl | rfl | rfl | rfl | rfl <;> rfl⟩, rfl⟩
    obtain ⟨LC, hLC⟩ : ∃ L, swapL C k 1 [cA, cB] = L := ⟨_, rfl⟩
    have hW1 : IntKind.i64.wrap ((k : Int) + 1) = (k : Int) + 1 := IntWalk.i64_in _ (by omega)
    have HC1 : ∀ (W : World) (x : Nat), Below wc.heap.size wc W → BoxAt W x #[.string (strOf key)] → Calls Tryz.prog 160 #[.slice ka m kc, .int .i64 ((k : Int) + 1), .int .i64 0, .slice (some ⟨x, 0, none⟩) 1 1] W (RowOut 9 1 wc W LK) := fun W x hW hX => by
      have := swap_s (H1.out.below (below_via HBC.out hW)) (raw_box (L := [kCell key]) hX (by simp)) (k + 1) 0 (by omega) (by simp; omega)
      rw [show (Tr.node p l).keys = keysOf l from rfl, hLK] at this
      have h2 : Calls Tryz.prog 160 #[.slice ka m kc, .int .i64 ((k : Int) + 1), .int .i64 0, .slice (some ⟨x, 0, none⟩) 1 1] W (OwnRaw 9 1 W LK) := by simpa using this
      exact h2.mono fun e w' h => OwnRaw.row hW h
    have HC2 : ∀ (W : World) (x : Nat), Below wc.heap.size wc W → BoxAt W x #[.int .i64 pa, .bool fa, .slice x1 na x2, .slice x3 x4 x5, .slice x6 x7 x8, .int .i64 pb, .bool fb, .slice y1 nb y2, .slice y3 y4 y5, .slice y6 y7 y8] → Calls Tryz.prog 158 #[.slice (some ⟨bc, oc, none⟩) m cc, .int .i64 (k : Int), .int .i64 1, .slice (some ⟨x, 0, none⟩) 2 2] W (RowOut 50 5 wc W LC) := fun W x hW hX => by
      have := swap_n (H3.out.below (below_via HBC.out hW)) (raw_box (L := [cA, cB]) (by simpa [flatC, hcA, hcB] using hX) (by simp)) k 1 (by omega) (by simp; omega)
      rw [hLC] at this
      have h2 : Calls Tryz.prog 158 #[.slice (some ⟨bc, oc, none⟩) m cc, .int .i64 (k : Int), .int .i64 1, .slice (some ⟨x, 0, none⟩) 2 2] W (OwnRaw 50 5 W LC) := by simpa using this
      exact h2.mono fun e w' h => OwnRaw.row hW h
    have HLK := Lib.hid hLK
    have HLC := Lib.hid hLC
    have HCA := Lib.hid hcA
    have HCB := Lib.hid hcB
    have hSc : Boxes wc [(w.heap.size, [.int .i64 p, .bool false, .slice ka m kc, .slice va 0 vc, .slice (some ⟨bc, oc, none⟩) m cc]), (w3.heap.size, [.int .i64 pa, .bool fa, .slice x1 na x2, .slice x3 x4 x5, .slice x6 x7 x8]), (w3.heap.size + 1, [.int .i64 pb, .bool fb, .slice y1 nb y2, .slice y3 y4 y5, .slice y6 y7 y8])] := HXc.out
    have hS0 : Boxes wc.drew [(w.heap.size, [.int .i64 p, .bool false, .slice ka m kc, .slice va 0 vc, .slice (some ⟨bc, oc, none⟩) m cc]), (w3.heap.size, [.int .i64 pa, .bool fa, .slice x1 na x2, .slice x3 x4 x5, .slice x6 x7 x8]), (w3.heap.size + 1, [.int .i64 pb, .bool fb, .slice y1 nb y2, .slice y3 y4 y5, .slice y6 y7 y8])] := HXc.out
    have hne : ∀ x ∈ ([(w.heap.size, [.int .i64 p, .bool false, .slice ka m kc, .slice va 0 vc, .slice (some ⟨bc, oc, none⟩) m cc]), (w3.heap.size, [.int .i64 pa, .bool fa, .slice x1 na x2, .slice x3 x4 x5, .slice x6 x7 x8]), (w3.heap.size + 1, [.int .i64 pb, .bool fb, .slice y1 nb y2, .slice y3 y4 y5, .slice y6 y7 y8])] : List (Nat × List Value)), x.1 ≠ w.heap.size + 1 := by intro x hx; simp at hx; rcases hx with rfl | rfl | rfl <;> simp <;> omega
    have k1 : ∀ W, Boxes W [(w.heap.size, [.int .i64 p, .bool false, .slice ka m kc, .slice va 0 vc, .slice (some ⟨bc, oc, none⟩) m cc]), (w3.heap.size, [.int .i64 pa, .bool fa, .slice x1 na x2, .slice x3 x4 x5, .slice x6 x7 x8]), (w3.heap.size + 1, [.int .i64 pb, .bool fb, .slice y1 nb y2, .slice y3 y4 y5, .slice y6 y7 y8])] → W.cell? ⟨w.heap.size, 2, none⟩ = some (.slice ka m kc) := fun W hW => hW.cell 0 2 rfl rfl
    have k2 : ∀ W, Boxes W [(w.heap.size, [.int .i64 p, .bool false, .slice ka m kc, .slice va 0 vc, .slice (some ⟨bc, oc, none⟩) m cc]), (w3.heap.size, [.int .i64 pa, .bool fa, .slice x1 na x2, .slice x3 x4 x5, .slice x6 x7 x8]), (w3.heap.size + 1, [.int .i64 pb, .bool fb, .slice y1 nb y2, .slice y3 y4 y5, .slice y6 y7 y8])] → W.cell? ⟨w.heap.size, 4, none⟩ = some (.slice (some ⟨bc, oc, none⟩) m cc) := fun W hW => hW.cell 0 4 rfl rfl
    have ka0 : ∀ W, Boxes W [(w.heap.size, [.int .i64 p, .bool false, .slice ka m kc, .slice va 0 vc, .slice (some ⟨bc, oc, none⟩) m cc]), (w3.heap.size, [.int .i64 pa, .bool fa, .slice x1 na x2, .slice x3 x4 x5, .slice x6 x7 x8]), (w3.heap.size + 1, [.int .i64 pb, .bool fb, .slice y1 nb y2, .slice y3 y4 y5, .slice y6 y7 y8])] → W.cell? ⟨w3.heap.size, 0, none⟩ = some (.int .i64 pa) := fun W hW => hW.cell 1 0 rfl rfl
    have ka1 : ∀ W, Boxes W [(w.heap.size, [.int .i64 p, .bool false, .slice ka m kc, .slice va 0 vc, .slice (some ⟨bc, oc, none⟩) m cc]), (w3.heap.size, [.int .i64 pa, .bool fa, .slice x1 na x2, .slice x3 x4 x5, .slice x6 x7 x8]), (w3.heap.size + 1, [.int .i64 pb, .bool fb, .slice y1 nb y2, .slice y3 y4 y5, .slice y6 y7 y8])] → W.cell? ⟨w3.heap.size, 1, none⟩ = some (.bool fa) := fun W hW => hW.cell 1 1 rfl rfl
    have ka2 : ∀ W, Boxes W [(w.heap.size, [.int .i64 p, .bool false, .slice ka m kc, .slice va 0 vc, .slice (some ⟨bc, oc, none⟩) m cc]), (w3.heap.size, [.int .i64 pa, .bool fa, .slice x1 na x2, .slice x3 x4 x5, .slice x6 x7 x8]), (w3.heap.size + 1, [.int .i64 pb, .bool fb, .slice y1 nb y2, .slice y3 y4 y5, .slice y6 y7 y8])] → W.cell? ⟨w3.heap.size, 2, none⟩ = some (.slice x1 na x2) := fun W hW => hW.cell 1 2 rfl rfl
    have ka3 : ∀ W, Boxes W [(w.heap.size, [.int .i64 p, .bool false, .slice ka m kc, .slice va 0 vc, .slice (some ⟨bc, oc, none⟩) m cc]), (w3.heap.size, [.int .i64 pa, .bool fa, .slice x1 na x2, .slice x3 x4 x5, .slice x6 x7 x8]), (w3.heap.size + 1, [.int .i64 pb, .bool fb, .slice y1 nb y2, .slice y3 y4 y5, .slice y6 y7 y8])] → W.cell? ⟨w3.heap.size, 3, none⟩ = some (.slice x3 x4 x5) := fun W hW => hW.cell 1 3 rfl rfl
    have ka4 : ∀ W, Boxes W [(w.heap.size, [.int .i64 p, .bool false, .slice ka m kc, .slice va 0 vc, .slice (some ⟨bc, oc, none⟩) m cc]), (w3.heap.size, [.int .i64 pa, .bool fa, .slice x1 na x2, .slice x3 x4 x5, .slice x6 x7 x8]), (w3.heap.size + 1, [.int .i64 pb, .bool fb, .slice y1 nb y2, .slice y3 y4 y5, .slice y6 y7 y8])] → W.cell? ⟨w3.heap.size, 4, none⟩ = some (.slice x6 x7 x8) := fun W hW => hW.cell 1 4 rfl rfl
    have kb0 : ∀ W, Boxes W [(w.heap.size, [.int .i64 p, .bool false, .slice ka m kc, .slice va 0 vc, .slice (some ⟨bc, oc, none⟩) m cc]), (w3.heap.size, [.int .i64 pa, .bool fa, .slice x1 na x2, .slice x3 x4 x5, .slice x6 x7 x8]), (w3.heap.size + 1, [.int .i64 pb, .bool fb, .slice y1 nb y2, .slice y3 y4 y5, .slice y6 y7 y8])] → W.cell? ⟨w3.heap.size + 1, 0, none⟩ = some (.int .i64 pb) := fun W hW => hW.cell 2 0 rfl rfl
    have kb1 : ∀ W, Boxes W [(w.heap.size, [.int .i64 p, .bool false, .slice ka m kc, .slice va 0 vc, .slice (some ⟨bc, oc, none⟩) m cc]), (w3.heap.size, [.int .i64 pa, .bool fa, .slice x1 na x2, .slice x3 x4 x5, .slice x6 x7 x8]), (w3.heap.size + 1, [.int .i64 pb, .bool fb, .slice y1 nb y2, .slice y3 y4 y5, .slice y6 y7 y8])] → W.cell? ⟨w3.heap.size + 1, 1, none⟩ = some (.bool fb) := fun W hW => hW.cell 2 1 rfl rfl
    have kb2 : ∀ W, Boxes W [(w.heap.size, [.int .i64 p, .bool false, .slice ka m kc, .slice va 0 vc, .slice (some ⟨bc, oc, none⟩) m cc]), (w3.heap.size, [.int .i64 pa, .bool fa, .slice x1 na x2, .slice x3 x4 x5, .slice x6 x7 x8]), (w3.heap.size + 1, [.int .i64 pb, .bool fb, .slice y1 nb y2, .slice y3 y4 y5, .slice y6 y7 y8])] → W.cell? ⟨w3.heap.size + 1, 2, none⟩ = some (.slice y1 nb y2) := fun W hW => hW.cell 2 2 rfl rfl
    have kb3 : ∀ W, Boxes W [(w.heap.size, [.int .i64 p, .bool false, .slice ka m kc, .slice va 0 vc, .slice (some ⟨bc, oc, none⟩) m cc]), (w3.heap.size, [.int .i64 pa, .bool fa, .slice x1 na x2, .slice x3 x4 x5, .slice x6 x7 x8]), (w3.heap.size + 1, [.int .i64 pb, .bool fb, .slice y1 nb y2, .slice y3 y4 y5, .slice y6 y7 y8])] → W.cell? ⟨w3.heap.size + 1, 3, none⟩ = some (.slice y3 y4 y5) := fun W hW => hW.cell 2 3 rfl rfl
    have kb4 : ∀ W, Boxes W [(w.heap.size, [.int .i64 p, .bool false, .slice ka m kc, .slice va 0 vc, .slice (some ⟨bc, oc, none⟩) m cc]), (w3.heap.size, [.int .i64 pa, .bool fa, .slice x1 na x2, .slice x3 x4 x5, .slice x6 x7 x8]), (w3.heap.size + 1, [.int .i64 pb, .bool fb, .slice y1 nb y2, .slice y3 y4 y5, .slice y6 y7 y8])] → W.cell? ⟨w3.heap.size + 1, 4, none⟩ = some (.slice y6 y7 y8) := fun W hW => hW.cell 2 4 rfl rfl
    clear hLK hLC hcA hcB
    go_upto_region 5 with (fail)
    go_cut [4, 5] (fun s4 s5 wx => s4 = .pointer (some ⟨w.heap.size + 1, 0, none⟩) ∧ s5 = .bool true ∧ SplitEnd F w3 w LK LC wx)
    case first =>
      go_region_held3 (fun W => Boxes W [(w.heap.size, [.int .i64 p, .bool false, .slice ka m kc, .slice va 0 vc, .slice (some ⟨bc, oc, none⟩) m cc]), (w3.heap.size, [.int .i64 pa, .bool fa, .slice x1 na x2, .slice x3 x4 x5, .slice x6 x7 x8]), (w3.heap.size + 1, [.int .i64 pb, .bool fb, .slice y1 nb y2, .slice y3 y4 y5, .slice y6 y7 y8])]) (first | with_reducible assumption | (repeat (with_reducible first | assumption | apply Boxes.al | apply Boxes.dr | apply Boxes.st))) (first | (go_at_call 160; (with_reducible refine (HC1 _ _ ?_ ?_).mono ?_); (focus (repeat (with_reducible first | assumption | exact Below.refl _ _ | apply Below.al | apply Below.dr))); (focus (repeat (with_reducible first | assumption | exact BoxAt.here3 | exact BoxAt.here2 | exact BoxAt.here | apply BoxAt.dr | apply BoxAt.al))); rintro e w1 hq1; obtain ⟨a1, c1, rfl, i11, i12, ho1, hb1, hB1⟩ := hq1; have hS1 : Boxes w1 [(w.heap.size, [.int .i64 p, .bool false, .slice ka m kc, .slice va 0 vc, .slice (some ⟨bc, oc, none⟩) m cc]), (w3.heap.size, [.int .i64 pa, .bool fa, .slice x1 na x2, .slice x3 x4 x5, .slice x6 x7 x8]), (w3.heap.size + 1, [.int .i64 pb, .bool fb, .slice y1 nb y2, .slice y3 y4 y5, .slice y6 y7 y8])] := HXc.out.step hB1; have U1 := fun b cs h => BoxAt.below (b := b) (cs := cs) h hb1) | (go_at_call 158; (with_reducible refine (HC2 _ _ ?_ ?_).mono ?_); (focus (repeat (with_reducible first | assumption | exact Below.refl _ _ | apply Below.al | apply Below.dr))); (focus (repeat (with_reducible first | assumption | exact BoxAt.here3 | exact BoxAt.here2 | exact BoxAt.here | apply BoxAt.dr | apply BoxAt.al | apply U1))); rintro e w2 hq2; obtain ⟨a2, c2, rfl, i21, i22, ho2, hb2, hB2⟩ := hq2; have hS2 : Boxes w2 [(w.heap.size, [.int .i64 p, .bool false, .slice ka m kc, .slice va 0 vc, .slice (some ⟨bc, oc, none⟩) m cc]), (w3.heap.size, [.int .i64 pa, .bool fa, .slice x1 na x2, .slice x3 x4 x5, .slice x6 x7 x8]), (w3.heap.size + 1, [.int .i64 pb, .bool fb, .slice y1 nb y2, .slice y3 y4 y5, .slice y6 y7 y8])] := HXc.out.step hB2; have U2 := fun b cs h => BoxAt.below (b := b) (cs := cs) h hb2; have hk12 := below_via (a := w1) (by (repeat (with_reducible first | exact Below.refl _ _ | apply Below.al | apply Below.dr))) hb2; have hX2 := HX.out.step hB2; have z0 : w2.cell? ⟨w.heap.size + 1, 0, none⟩ = _ := hX2.cell 2 0 rfl rfl; have u0 : w2.frozen? ⟨w.heap.size + 1, 0, none⟩ = false := hX2.frozen 2 0 rfl; have z1 : w2.cell? ⟨w.heap.size + 1, 1, none⟩ = _ := hX2.cell 2 1 rfl rfl; have u1 : w2.frozen? ⟨w.heap.size + 1, 1, none⟩ = false := hX2.frozen 2 1 rfl; have z2 : w2.cell? ⟨w.heap.size + 1, 2, none⟩ = _ := hX2.cell 2 2 rfl rfl; have u2 : w2.frozen? ⟨w.heap.size + 1, 2, none⟩ = false := hX2.frozen 2 2 rfl; have z3 : w2.cell? ⟨w.heap.size + 1, 3, none⟩ = _ := hX2.cell 2 3 rfl rfl; have u3 : w2.frozen? ⟨w.heap.size + 1, 3, none⟩ = false := hX2.frozen 2 3 rfl; have z4 : w2.cell? ⟨w.heap.size + 1, 4, none⟩ = _ := hX2.cell 2 4 rfl rfl; have u4 : w2.frozen? ⟨w.heap.size + 1, 4, none⟩ = false := hX2.frozen 2 4 rfl))
      all_goals
        go_wp2_with fail
        go_meet
        have hg : ∀ {E : TypeId} {sz : Nat} {v : Value} {n : Nat} {xs : List Value}, w2.ownsRow wc.heap.size E sz v n xs → v.ownBlock ≠ some (w.heap.size + 1) := fun h e => by have := own_ge h _ e; omega
        have o1 := own_held ho1 hk12
        exact ⟨rfl, rfl, a1, c1, a2, c2, set5_box (b := w.heap.size + 1) (hX2.sub (m := [(w.heap.size + 1, [.int .i64 0, .bool false, .slice none 0 0, .slice none 0 0, .slice none 0 0])]) (by intro x hx; simp only [List.mem_cons, List.not_mem_nil, or_false] at hx; rw [hx]; simp)) (by simp) _ _ _ _ _,
          Raw.of_sl (set5_own o1 (hg o1) _ _ _ _ _) rfl, Raw.of_sl (set5_own ho2 (hg ho2) _ _ _ _ _) rfl, set5_below (HBC.out.trans (hB2.mono HBC.out.size)) (by omega) _ _ _ _ _, Fa.of_own o1 (Fr.new HBC.out.size), Fa.of_own ho2 (Fr.new HBC.out.size), fun G hG => (((((AgreeF.of_below (below_via HB4.out hB2)).set (.inl hG)).set (.inl hG)).set (.inl hG)).set (.inl hG)).set (.inl hG)⟩
    case rest =>
    unfold SplitEnd at hcut
    obtain ⟨rfl, rfl, v1, v2, v3, v4, hx9, r1, r3, hb9, s1, s3, s4⟩ := hcut
    have HR1 := Lib.hid r1
    have HR3 := Lib.hid r3
    have HB9 := Lib.hid hb9
    have HS1 := Lib.hid s1
    have HS3 := Lib.hid s3
    have HS4 := Lib.hid s4
    have t0 := hx9.cell 0 0 rfl rfl
    have t1 := hx9.cell 0 1 rfl rfl
    have t2 := hx9.cell 0 2 rfl rfl
    have t3 := hx9.cell 0 3 rfl rfl
    have t4 := hx9.cell 0 4 rfl rfl
    clear r1 r3 hb9 hx9 s1 s3 s4 k1 k2 ka0 ka1 ka2 ka3 ka4 kb0 kb1 kb2 kb3 kb4 HC1 HC2
    go_wp2_with fail
    have hF1 : ∀ b, (F b ∧ b < w.heap.size) → Fr F w b := fun b h => .inl h.1
    have hF2 : ¬ Fr (fun b => F b ∧ b < w.heap.size) w2 (w.heap.size + 1) := fun h => by rcases h with h | h <;> omega
    have hF3 : ∀ b, Fr (fun b => F b ∧ b < w.heap.size) w2 b → Fr F w b := fun b h => by rcases h with h | h; exact .inl h.1; exact .inr (by omega)
    obtain ⟨M, m1, m2, m3, m4⟩ := splitR_ok (p := p) (V := []) (A := cA) (B := cB) (k := k) ((H4.out.below HB9.out).mono hF1) (by rw [HM.out]; exact hk) (by rw [HKD.out, HSS.out]; exact HNZ.out) (by rw [HKD.out, HSS.out, HAT.out, HCA.out, Int.toNat_natCast, HTA.out]; exact (HXA.out.agree (HS4.out _ hF2)).mono hF3) (by rw [HKD.out, HSS.out, HAT.out, HCB.out, Int.toNat_natCast, HTB.out]; exact (HXB.out.agree (HS4.out _ hF2)).mono hF3)
    refine bodyPost_ret (v := .tuple #[.agg #[.int .i64 0, .bool false, .slice v1 LK.length v2, .slice none 0 0, .slice v3 LC.length v4], .bool true]) (by simp [results, Tryz.results190, go_sem, t0, t1, t2, t3, t4]) rfl ⟨[.int .i64 0, .bool false, .slice v1 LK.length v2, .slice none 0 0, .slice v3 LC.length v4], by rw [m2], ?_, HB9.out⟩
    rw [m1]
    rw [HKD.out, HSS.out, HAT.out, Int.toNat_natCast, HKEY.out] at m3
    rw [HLC.out] at m4
    refine NodeOn.shut rfl rfl ?_ HR1.out (Raw.nil0 _ _) HR3.out HS1.out (Fa.zero _ _) HS3.out m4
    rw [← HLK.out, show (Tr.node 0 M).keys = keysOf M from rfl, m3, swap_map]; rfl
end Go.Proofs.YtpghlmcoajaiiaaGreatDoor

/- Mending: plain words, and a branch whose kids were put together. -/
namespace Go.Proofs.YtpghlmcoajaiiaaGreatDoor
open Go.RowKit

theorem lay {P Q : Prop} (hp : P) (hq : P → Q) : Q := hq hp
theorem lay_zero {W w' : World} {b : Nat} {cs : Array Value} {Q : Prop} (hb : Below W.heap.size W w') (hx : BoxAt W b cs) (hq : BoxAt w' b cs ∧ b < W.heap.size → Q) : Q := hq (zero_lt hx hb)
theorem mend_split {p : Int} {l : List (List UInt8 × Tr)} {k : Nat} (h : (splitT l k).isSome = true) : mendT p l k = splitR p l k := by
  unfold mendT splitR
  cases hs : splitT l k with
  | none => rw [hs] at h; simp at h
  | some m => rfl
theorem mend_same {p : Int} {l : List (List UInt8 × Tr)} {k : Nat} (h : (splitT l k).isSome = false) (h2 : lowT (kidAt l k) = false ∨ l.length < 2) : mendT p l k = .node p l := by
  unfold mendT
  cases hs : splitT l k with
  | none => simp only; rw [if_pos h2]
  | some m => rw [hs] at h; simp at h
theorem mend_join {p : Int} {l : List (List UInt8 × Tr)} {k : Nat} (h : (splitT l k).isSome = false) (h2 : lowT (kidAt l k) = true) (h3 : 2 ≤ l.length) : mendT p l k = splitR 0 (joined l (joinAt l.length k)) (joinAt l.length k) := by
  unfold mendT splitR
  cases hs : splitT l k with
  | none => simp only; rw [if_neg (by rw [h2]; simp; omega)]; rfl
  | some m => rw [hs] at h; simp at h
theorem list_two {α : Type} {l : List α} {j : Nat} (h : j + 1 < l.length) : ∃ a c d r, l = a ++ c :: d :: r ∧ a.length = j := by
  obtain ⟨a, c, b, e, ha⟩ := list_at (l := l) (k := j) (by omega)
  cases b with
  | nil => rw [e] at h; simp at h; omega
  | cons d r => exact ⟨a, c, d, r, e, ha⟩
theorem two_at {α : Type} (a r : List (List UInt8 × α)) (c d : List UInt8 × α) : keyAt (a ++ c :: d :: r) (a.length + 1) = d.1 := by simp [keyAt]
theorem two_kid (a r : List (List UInt8 × Tr)) (c d : List UInt8 × Tr) : kidAt (a ++ c :: d :: r) (a.length + 1) = d.2 := by simp [kidAt]
theorem joinedR {F : Nat → Prop} {n : Nat} {w : World} {p : Int} {l : List (List UInt8 × Tr)} {j : Nat} {V : List (Cl 2)} {C : List (Cl 5)} {B : Cl 5} (h : NodeRF F n w ((keysOf l).map kCell) V C (.node p l)) (hj : j + 1 < l.length)
    (hB : NodeOn F n w B.1 (joinT (keyAt l (j + 1)) (kidAt l j) (kidAt l (j + 1)))) :
    NodeRF F n w ((keysOf (joined l j)).map kCell) [] (swapL C j 2 [B]) (.node 0 (joined l j)) ∧ keysOf (joined l j) = swapL (keysOf l) (j + 1) 1 [] ∧ kidAt (joined l j) j = joinT (keyAt l (j + 1)) (kidAt l j) (kidAt l (j + 1)) ∧ (joined l j).length + 1 = l.length := by
  obtain ⟨a, c, d, r, rfl, rfl⟩ := list_two hj
  rw [two_at, two_kid, kidAt_at] at hB ⊢
  have e := joined_right a r c d
  rw [e]
  have h1 : (a.map (·.1)).length = a.length := by simp
  have h2 : (a.map (·.2)).length = a.length := by simp
  refine ⟨⟨tells_keys _, rfl, ?_⟩, ?_, kidAt_at a r (c.1, joinT d.1 c.2 d.2), by simp; omega⟩
  · have := (h.2.2).swap (Tells.one hB) a.length 2
    have e3 : (a.map (·.2) ++ c.2 :: d.2 :: r.map (·.2)).drop (a.length + 2) = r.map (·.2) := by
      have := mid_drop (x := a.map (·.2) ++ [c.2]) (c := d.2) (y := r.map (·.2)) (n := a.length + 1) (by simp)
      simpa using this
    simpa [swapL, e3] using this
  · have e3 : (a.map (·.1) ++ c.1 :: d.1 :: r.map (·.1)).drop (a.length + 1 + 1) = r.map (·.1) := by
      have := mid_drop (x := a.map (·.1) ++ [c.1]) (c := d.1) (y := r.map (·.1)) (n := a.length + 1) (by simp)
      simpa using this
    simp [swapL, keysOf, mid_take h1, e3]
/-- What mending asks of a branch's kids. -/
structure MendOk (n : Nat) (l : List (List UInt8 × Tr)) : Prop where
  len : l.length ≤ 1000
  bnd : ∀ c ∈ l, Bnd (n + 1) c.2
  kind : ∀ c ∈ l, ∀ d ∈ l, c.2.isLeaf = d.2.isLeaf
  some_ : ∀ c ∈ l, c.2.isLeaf = false → 0 < cntT c.2
  both : ∀ j, j + 1 < l.length → Bnd (n + 1) (joinT (keyAt l (j + 1)) (kidAt l j) (kidAt l (j + 1)))
theorem kid_mem {l : List (List UInt8 × Tr)} {k : Nat} (h : k < l.length) : ∃ c ∈ l, c.2 = kidAt l k := ⟨l[k], List.getElem_mem h, by simp [kidAt, h]⟩
def zero5 : Array Value := #[.int .i64 0, .bool false, .slice none 0 0, .slice none 0 0, .slice none 0 0]
/-- An empty branch is no kid here. -/
theorem node_not_zero {F : Nat → Prop} {n : Nat} {w : World} {cs : List Value} {t : Tr} (h : NodeOn F n w cs t) (ht : t.isLeaf = false → 0 < cntT t) : cs ≠ zero5.toList := by
  cases n with
  | zero => exact h.elim
  | succ n =>
    obtain ⟨ka, kc, va, vn, vc, ca, cn, cc, V, C, e, h1, _⟩ := h.open
    intro hz
    rw [hz] at e
    unfold zero5 at e
    simp only [List.cons.injEq, Value.bool.injEq, Value.slice.injEq, and_true] at e
    obtain ⟨_, hl, ⟨_, hc, _⟩, _⟩ := e
    have := ht hl.symm
    omega
theorem keys_not_zero {ks : List (List UInt8)} (h : 0 < ks.length) : ∃ i, i < (flatC (ks.map kCell)).length ∧ zero5[i]? ≠ (flatC (ks.map kCell))[i]? := by
  refine ⟨0, by rw [flat_keys]; simpa using h, ?_⟩
  rw [flat_keys]
  cases ks with
  | nil => simp at h
  | cons k r => simp [zero5]
theorem nodes_not_zero {L : List (Cl 5)} (h : 0 < L.length) (hz : ∀ x ∈ L, x.1 ≠ zero5.toList) : ∃ i, i < (flatC L).length ∧ zero5[i]? ≠ (flatC L)[i]? := by
  cases L with
  | nil => simp at h
  | cons x r =>
    have hx := hz x (by simp)
    have hl : x.1.length = 5 := x.2.1
    have hne : ¬ ∀ i, i < 5 → zero5[i]? = x.1[i]? := by
      intro he
      apply hx
      apply List.ext_getElem?
      intro i
      by_cases hi : i < 5
      · rw [← he i hi]; simp
      · rw [List.getElem?_eq_none (by omega), List.getElem?_eq_none (by simp [zero5]; omega)]
    obtain ⟨i, hi⟩ := Classical.not_forall.1 hne
    have hi' := Classical.not_imp.1 hi
    refine ⟨i, ?_, ?_⟩
    · show i < (x.1 ++ flatC r).length
      rw [List.length_append]; omega
    · show zero5[i]? ≠ (x.1 ++ flatC r)[i]?
      rw [List.getElem?_append_left (by omega)]
      exact hi'.2
theorem mem_swapL {α : Type} {l s : List α} {i j : Nat} {x : α} (h : x ∈ swapL l i j s) : x ∈ l ∨ x ∈ s := by
  unfold swapL at h
  rcases List.mem_append.1 h with h | h
  · exact .inl (List.mem_of_mem_take h)
  · rcases List.mem_append.1 h with h | h
    · exact .inr h
    · exact .inl (List.mem_of_mem_drop h)
theorem len_swapL {α : Type} {l s : List α} {i j : Nat} (h : i + j ≤ l.length) : (swapL l i j s).length + j = l.length + s.length := by
  simp [swapL]; omega
/-- The blocks of what is parted at last. -/
def MF (F' : Nat → Prop) (w wc : World) (a1 a2 : Option Addr) (b : Nat) : Prop := F' b ∨ (w.heap.size + 2 ≤ b ∧ b < wc.heap.size) ∨ (∃ off, a1 = some ⟨b, off, none⟩) ∨ ∃ off, a2 = some ⟨b, off, none⟩
theorem join_cnt {key : List UInt8} {a b : Tr} (h : a.isLeaf = b.isLeaf) : cntT (joinT key a b) = cntT a + cntT b := by
  cases a <;> cases b
  · simp [joinT, cntT]
  · simp [Tr.isLeaf] at h
  · simp [Tr.isLeaf] at h
  · rename_i p l q m
    cases m <;> simp [joinT, cntT, firstK]
def MendLast (F : Nat → Prop) (n : Nat) (w : World) (T : Tr) (s8 : Value) (wx : World) : Prop :=
  ∃ b8 p l a k c a2 n2 c2 a3 n3 c3, s8 = .pointer (some ⟨b8, 0, none⟩) ∧ Boxes wx [(b8, [.int .i64 p, .bool l, .slice a k c, .slice a2 n2 c2, .slice a3 n3 c3]), (w.heap.size + 1, zero5.toList)] ∧ Below w.heap.size w wx ∧ w.heap.size + 2 ≤ b8 ∧
    NodeOn (fun b => (F b ∧ b < w.heap.size) ∨ w.heap.size + 2 ≤ b) n wx [.int .i64 p, .bool l, .slice a k c, .slice a2 n2 c2, .slice a3 n3 c3] T
section
variable {F : Nat → Prop} {n : Nat} {w wc W3 w3 : World} {T : Tr} {p : Int} {lf : Bool} {x1 : Option Addr} {x2 x3 : Nat} {x4 : Option Addr} {x5 x6 : Nat} {x7 : Option Addr} {x8 x9 : Nat} {a1 a2 : Option Addr} {m1 m2 c1 c2 : Nat} {e1 e2 : TypeId} {xs1 xs2 : List Value}
theorem mend_mono (_hBC : Below w.heap.size w wc) (hzc : w.heap.size + 2 ≤ wc.heap.size) (hws : wc.heap.size ≤ W3.heap.size) {wa wb : World} (ho1 : wa.ownsRow wc.heap.size e1 1 (.slice a1 m1 c1) m1 xs1) (ho2 : wb.ownsRow wc.heap.size e2 5 (.slice a2 m2 c2) m2 xs2) (b : Nat) (h : Fr (MF (fun b => F b ∧ b < w.heap.size) w wc a1 a2) W3 b) : (F b ∧ b < w.heap.size) ∨ w.heap.size + 2 ≤ b := by
  rcases h with h | h
  · rcases h with h | h | ⟨off, h⟩ | ⟨off, h⟩
    · exact .inl h
    · exact .inr h.1
    · subst h
      rcases ho1.2 with ⟨h, _⟩ | ⟨g, cap, cur, h, hb, _⟩
      · cases h
      · cases h; exact .inr (by omega)
    · subst h
      rcases ho2.2 with ⟨h, _⟩ | ⟨g, cap, cur, h, hb, _⟩
      · cases h
      · cases h; exact .inr (by omega)
  · exact .inr (by omega)
theorem mendlast_a (t : TypeId) (hBC : Below w.heap.size w wc) (hzc : w.heap.size + 2 ≤ wc.heap.size) (hws : wc.heap.size ≤ W3.heap.size) (hB3 : Below wc.heap.size wc w3) (hX : Boxes wc [(w.heap.size + 1, zero5.toList)])
    {wa wb : World} (ho1 : wa.ownsRow wc.heap.size e1 1 (.slice a1 m1 c1) m1 xs1) (ho2 : wb.ownsRow wc.heap.size e2 5 (.slice a2 m2 c2) m2 xs2)
    (hn : NodeOn (Fr (MF (fun b => F b ∧ b < w.heap.size) w wc a1 a2) W3) n w3 [.int .i64 p, .bool lf, .slice x1 x2 x3, .slice x4 x5 x6, .slice x7 x8 x9] T) :
    MendLast F n w T (.pointer (some ⟨w3.heap.size, 0, none⟩)) (w3.alloc (.cells #[.int .i64 p, .bool lf, .slice x1 x2 x3, .slice x4 x5 x6, .slice x7 x8 x9] t)) :=
  ⟨_, _, _, _, _, _, _, _, _, _, _, _, rfl, (hX.step hB3).alloc #[.int .i64 p, .bool lf, .slice x1 x2 x3, .slice x4 x5 x6, .slice x7 x8 x9] t rfl, (hBC.trans (hB3.mono hBC.size)).alloc (by have := hB3.size; omega) _, by have := hB3.size; omega,
    NodeOn.mono (mend_mono hBC hzc hws ho1 ho2) (hn.below (Below.al (Below.refl _ _)))⟩
theorem mendlast_b (hBC : Below w.heap.size w wc) (hzc : w.heap.size + 2 ≤ wc.heap.size) (hws : wc.heap.size ≤ W3.heap.size) (hB3 : Below wc.heap.size wc w3) (hX : Boxes wc [(w.heap.size + 1, zero5.toList)])
    (ho1 : w3.ownsRow wc.heap.size e1 1 (.slice a1 m1 c1) m1 xs1) (ho2 : w3.ownsRow wc.heap.size e2 5 (.slice a2 m2 c2) m2 xs2) (h1 : ∃ i, i < xs1.length ∧ zero5[i]? ≠ xs1[i]?) (h2 : ∃ i, i < xs2.length ∧ zero5[i]? ≠ xs2[i]?)
    {b8 : Nat} (hz : BoxAt w3 b8 zero5) (hzl : b8 < W3.heap.size) (hb8 : wc.heap.size ≤ b8)
    (hn : NodeOn (Fr (MF (fun b => F b ∧ b < w.heap.size) w wc a1 a2) W3) n w3 [.int .i64 p, .bool lf, .slice x1 x2 x3, .slice x4 x5 x6, .slice x7 x8 x9] T) :
    MendLast F n w T (.pointer (some ⟨b8, 0, none⟩)) (set5 w3 b8 (.int .i64 p) (.bool lf) (.slice x1 x2 x3) (.slice x4 x5 x6) (.slice x7 x8 x9)) := by
  have hne : ¬ Fr (MF (fun b => F b ∧ b < w.heap.size) w wc a1 a2) W3 b8 := fun h => by
    rcases h with h | h
    · rcases h with h | h | ⟨off, h⟩ | ⟨off, h⟩
      · have := h.2; have := hBC.size; omega
      · have := h.2; omega
      · exact own_not_box ho1 hz h1 b8 off h rfl
      · exact own_not_box ho2 hz h2 b8 off h rfl
    · omega
  have hb : Boxes w3 [(b8, [.int .i64 0, .bool false, .slice none 0 0, .slice none 0 0, .slice none 0 0]), (w.heap.size + 1, zero5.toList)] := by
    intro x hx
    simp only [List.mem_cons, List.not_mem_nil, or_false] at hx
    rcases hx with rfl | rfl
    · exact hz.boxes _ (by simp [zero5])
    · exact (hX.step hB3) _ (by simp)
  refine ⟨b8, _, _, _, _, _, _, _, _, _, _, _, rfl, set5_box hb (by intro x hx; simp at hx; subst hx; simp; omega) _ _ _ _ _, set5_below (hBC.trans (hB3.mono hBC.size)) (by have := hBC.size; omega) _ _ _ _ _, by omega, ?_⟩
  exact NodeOn.mono (mend_mono hBC hzc hws ho1 ho2) (hn.agree ((((((AgreeF.of_below (Below.refl _ _)).set (.inl hne)).set (.inl hne)).set (.inl hne)).set (.inl hne)).set (.inl hne)))
end
end Go.Proofs.YtpghlmcoajaiiaaGreatDoor
