/- Texts that other texts of this claim lean on, one behind the other. -/
import Derived.Test.YtpghlmcoajaiiaaGreatDoorM3
import Derived.Deep.RegionHeld3
import Derived.Deep.DeepCutAuto
import Derived.Test.YtpghlmcoajaiiaaGreatDoorM2
import Derived.Test.YtpghlmcoajaiiaaGreatDoorM1
import Derived.RangeFuncNested
import Derived.RangeFuncBound
import Derived.RangeFuncCalls
import Derived.RangeFuncLeaves
import Derived.RangeFuncBox
import Derived.Shelf.Abstract
import Derived.Shelf.RegionOpen
import Derived.WalkKit
import Derived.OwnWalkIn
import Derived.TacticsInMore
import Derived.LoopNIn
import Derived.LoopIn
import Derived.Deep.RegionHeld
/- The walks of trees: a node parted. -/
namespace Go.Proofs.YtpghlmcoajaiiaaGreatDoor
open Go.RowKit

theorem Boxes.swap {w : World} {x y : Nat × List Value} {l : List (Nat × List Value)} (h : Boxes w (x :: y :: l)) : Boxes w (y :: x :: l) :=
  h.sub fun p hp => by simp only [List.mem_cons] at hp ⊢; rcases hp with e | e | e <;> simp [e]
theorem flat_keys (ks : List (List UInt8)) : flatC (ks.map kCell) = ks.map fun k => Value.string (strOf k) := by
  induction ks with
  | nil => rfl
  | cons k r ih =>
    show [Value.string (strOf k)] ++ flatC (r.map kCell) = _
    rw [ih]; rfl
theorem keys_first {α : Type} (key : List UInt8) (l : List (List UInt8 × α)) : keysOf (firstK key l) = (keysOf l).set 0 key := by cases l <;> rfl
/-- The first key of a row of the call's own is written. -/
theorem own_key {w : World} {B : Nat} {e : TypeId} {v : Value} {n : Nat} {ks : List (List UInt8)} (h : w.ownsRow B e 1 v n (flatC (ks.map kCell))) (hn : 0 < n) (key : List UInt8) :
    ∃ g cap, v = .slice (some ⟨g, 0, none⟩) n cap ∧ B ≤ g ∧ n ≤ cap ∧ cap ≤ 9223372036854775807 ∧ w.cell? ⟨g, 0, none⟩ = some (.string (strOf (ks[0]?.getD []))) ∧ w.frozen? ⟨g, 0, none⟩ = false ∧
      (w.setCell ⟨g, 0, none⟩ (.string (strOf key))).ownsRow B e 1 v n (flatC ((ks.set 0 key).map kCell)) := by
  rcases h.2 with ⟨rfl, h0⟩ | ⟨g, cap, cur, rfl, hb, hg, hnc, hm, hc, ht⟩
  · omega
  · have hl := h.1
    rw [flat_keys, List.length_map] at hl
    refine ⟨g, cap, rfl, hb, hnc, by unfold maxLen at hm; omega, ?_, by simp [World.frozen?, hg], ?_⟩
    · have e : (cur.toList.take (n * 1))[0]? = cur.toList[0]? := List.getElem?_take_of_lt (by omega)
      rw [ht, flat_keys] at e
      simp only [World.cell?, hg]
      rw [← Array.getElem?_toList, ← e]
      simp [show 0 < ks.length by omega]
    · have := own_put h 0 (.string (strOf key)) (by omega)
      rw [flat_keys] at this ⊢
      rw [List.map_set]
      exact this
/-- Five cells of a block, written one by one. -/
def set5 (w : World) (b : Nat) (y0 y1 y2 y3 y4 : Value) : World := ((((w.setCell ⟨b, 0, none⟩ y0).setCell ⟨b, 1, none⟩ y1).setCell ⟨b, 2, none⟩ y2).setCell ⟨b, 3, none⟩ y3).setCell ⟨b, 4, none⟩ y4
theorem set5_box {w : World} {b : Nat} {x0 x1 x2 x3 x4 : Value} {l : List (Nat × List Value)} (h : Boxes w ((b, [x0, x1, x2, x3, x4]) :: l)) (hl : ∀ p ∈ l, p.1 ≠ b) (y0 y1 y2 y3 y4 : Value) : Boxes (set5 w b y0 y1 y2 y3 y4) ((b, [y0, y1, y2, y3, y4]) :: l) :=
  ((((h.put 0 y0 hl).put 1 y1 hl).put 2 y2 hl).put 3 y3 hl).put 4 y4 hl
theorem set5_own {w : World} {base : Nat} {e : TypeId} {size : Nat} {v : Value} {n : Nat} {xs : List Value} (h : w.ownsRow base e size v n xs) {b : Nat} (hb : v.ownBlock ≠ some b) (y0 y1 y2 y3 y4 : Value) : (set5 w b y0 y1 y2 y3 y4).ownsRow base e size v n xs :=
  own_set (own_set (own_set (own_set (own_set h ⟨b, 0, none⟩ y0 hb) ⟨b, 1, none⟩ y1 hb) ⟨b, 2, none⟩ y2 hb) ⟨b, 3, none⟩ y3 hb) ⟨b, 4, none⟩ y4 hb
theorem set5_below {B : Nat} {a w : World} (h : Below B a w) {b : Nat} (hb : B ≤ b) (y0 y1 y2 y3 y4 : Value) : Below B a (set5 w b y0 y1 y2 y3 y4) :=
  ((((h.setCell hb _).setCell hb _).setCell hb _).setCell hb _).setCell hb _
theorem keysOf_take {α : Type} (l : List (List UInt8 × α)) (k : Nat) : keysOf (l.take k) = (keysOf l).take k := by simp [keysOf]
theorem keysOf_drop {α : Type} (l : List (List UInt8 × α)) (k : Nat) : keysOf (l.drop k) = (keysOf l).drop k := by simp [keysOf]
theorem firstK_vals {α : Type} (key : List UInt8) (l : List (List UInt8 × α)) : (firstK key l).map (·.2) = l.map (·.2) := by cases l <;> rfl
theorem part_keys (k : Nat) (t : Tr) : (partT k t).1.keys = t.keys.take k ∧ (partT k t).2.1.keys = (if t.isLeaf then t.keys.drop k else (t.keys.drop k).set 0 []) ∧ (partT k t).2.2 = t.keys[k]?.getD [] ∧
    (partT k t).1.page = 0 ∧ (partT k t).2.1.page = 0 ∧ (partT k t).1.isLeaf = t.isLeaf ∧ (partT k t).2.1.isLeaf = t.isLeaf := by
  cases t with
  | leaf p l => exact ⟨keysOf_take _ _, keysOf_drop _ _, by simp [partT, keyAt, Tr.keys, keysOf], rfl, rfl, rfl, rfl⟩
  | node p l => exact ⟨keysOf_take _ _, by show keysOf (firstK [] (l.drop k)) = _; rw [keys_first, keysOf_drop]; rfl, by simp [partT, keyAt, Tr.keys, keysOf], rfl, rfl, rfl, rfl⟩
theorem partR {F : Nat → Prop} {n : Nat} {w : World} {t : Tr} {V : List (Cl 2)} {C : List (Cl 5)} (h : NodeRF F n w (t.keys.map kCell) V C t) (k : Nat) :
    NodeRF F n w ((partT k t).1.keys.map kCell) (V.take k) (C.take k) (partT k t).1 ∧ NodeRF F n w ((partT k t).2.1.keys.map kCell) (V.drop k) (C.drop k) (partT k t).2.1 := by
  cases t with
  | leaf p l =>
    obtain ⟨h1, h2, rfl⟩ := h
    exact ⟨⟨tells_keys _, by rw [List.map_take]; exact h2.take k, by simp⟩, ⟨tells_keys _, by rw [List.map_drop]; exact h2.drop k, by simp⟩⟩
  | node p l =>
    obtain ⟨h1, rfl, h2⟩ := h
    exact ⟨⟨tells_keys _, by simp, by rw [List.map_take]; exact h2.take k⟩, ⟨tells_keys _, by simp, by rw [firstK_vals, List.map_drop]; exact h2.drop k⟩⟩
/-- A node shut, its page and kind named. -/
theorem NodeIn.shut2 {n : Nat} {w : World} {t : Tr} {ka : Option Addr} {kn kc : Nat} {va : Option Addr} {vn vc : Nat} {ca : Option Addr} {cn cc : Nat} {V : List (Cl 2)} {C : List (Cl 5)} {p : Int} {lf : Bool} {K : List (Cl 1)}
    (hp : t.page = p) (hl : t.isLeaf = lf) (hk : t.keys.map kCell = K) (h1 : Raw 1 w ka kn kc K) (h2 : Raw 2 w va vn vc V) (h3 : Raw 5 w ca cn cc C) (h : NodeR n w (t.keys.map kCell) V C t) :
    NodeIn (n + 1) w [.int .i64 p, .bool lf, .slice ka kn kc, .slice va vn vc, .slice ca cn cc] t := by
  subst hp hl hk
  exact NodeIn.shut h1 h2 h3 h
theorem Raw.of_sl {sz : Nat} {w : World} {base : Nat} {e : TypeId} {a : Option Addr} {n c : Nat} {L : List (Cl sz)} (h : w.ownsRow base e sz (.slice a n c) n (flatC L)) (hn : L.length = n) : Raw sz w a n c L := by
  obtain ⟨a', c', e, hr⟩ := Raw.of_own h hn
  cases e; exact hr
theorem Raw.nil0 (sz : Nat) (w : World) : Raw sz w none 0 0 [] := ⟨rfl, Nat.le_refl _, by unfold maxLen; omega, fun _ => rfl, .inl rfl⟩
def PartPost (G : Nat → Prop) (n : Nat) (w : World) (a b : Tr) (key : List UInt8) (e : Ending) (w' : World) : Prop := ∃ ca cb, e = .returned (.tuple #[.agg ca.toArray, .agg cb.toArray, .string (strOf key)]) ∧ NodeOn G n w' ca a ∧ NodeOn G n w' cb b ∧ Below w.heap.size w w'
def zeroN (lf : Bool) (v : Value) : List Value := [.int .i64 0, .bool lf, v, .slice none 0 0, .slice none 0 0]
def PartBox (w : World) (N : List Value) (lf : Bool) (s7 s8 : Value) (wx : World) : Prop :=
  ∃ p q, s7 = .pointer (some ⟨p, 0, none⟩) ∧ s8 = .pointer (some ⟨q, 0, none⟩) ∧
    Boxes wx [(q, zeroN lf (.slice none 0 0)), (p, zeroN lf (.slice none 0 0)), (w.heap.size, N), (w.heap.size + 1, zeroN false (.slice none 0 0)), (w.heap.size + 2, zeroN false (.slice none 0 0))] ∧
    w.heap.size + 2 < p ∧ w.heap.size + 2 < q ∧ p ≠ q ∧ p < w.heap.size + 5 ∧ q < w.heap.size + 5 ∧ Below w.heap.size w wx ∧ wx.heap.size = w.heap.size + 5
theorem part_box (w : World) (N : Array Value) (lf : Bool) (t : TypeId) :
    Below w.heap.size w ((((((w.alloc (.cells N t)).alloc (.cells #[.int .i64 0, .bool false, .slice none 0 0, .slice none 0 0, .slice none 0 0] t)).alloc (.cells #[.int .i64 0, .bool false, .slice none 0 0, .slice none 0 0, .slice none 0 0] t)).alloc (.cells #[.int .i64 0, .bool lf, .slice none 0 0, .slice none 0 0, .slice none 0 0] t)).alloc (.cells #[.int .i64 0, .bool lf, .slice none 0 0, .slice none 0 0, .slice none 0 0] t)).drew) ∧
    ((((((w.alloc (.cells N t)).alloc (.cells #[.int .i64 0, .bool false, .slice none 0 0, .slice none 0 0, .slice none 0 0] t)).alloc (.cells #[.int .i64 0, .bool false, .slice none 0 0, .slice none 0 0, .slice none 0 0] t)).alloc (.cells #[.int .i64 0, .bool lf, .slice none 0 0, .slice none 0 0, .slice none 0 0] t)).alloc (.cells #[.int .i64 0, .bool lf, .slice none 0 0, .slice none 0 0, .slice none 0 0] t)).drew).heap.size = w.heap.size + 5 ∧
    Boxes ((((((w.alloc (.cells N t)).alloc (.cells #[.int .i64 0, .bool false, .slice none 0 0, .slice none 0 0, .slice none 0 0] t)).alloc (.cells #[.int .i64 0, .bool false, .slice none 0 0, .slice none 0 0, .slice none 0 0] t)).alloc (.cells #[.int .i64 0, .bool lf, .slice none 0 0, .slice none 0 0, .slice none 0 0] t)).alloc (.cells #[.int .i64 0, .bool lf, .slice none 0 0, .slice none 0 0, .slice none 0 0] t)).drew)
      [(w.heap.size + 4, zeroN lf (.slice none 0 0)), (w.heap.size + 3, zeroN lf (.slice none 0 0)), (w.heap.size, N.toList), (w.heap.size + 1, zeroN false (.slice none 0 0)), (w.heap.size + 2, zeroN false (.slice none 0 0))] := by
  refine ⟨(((((((Below.refl _ _).alloc (Nat.le_refl _) _).alloc (by simp) _).alloc (by simp; omega) _).alloc (by simp; omega) _).alloc (by simp; omega) _)).drew, by simp, ?_⟩
  have b0 := (Boxes.nil w).alloc N t rfl
  have b1 := b0.alloc #[.int .i64 0, .bool false, .slice none 0 0, .slice none 0 0, .slice none 0 0] t (b := w.heap.size + 1) (by simp)
  have b2 := b1.alloc #[.int .i64 0, .bool false, .slice none 0 0, .slice none 0 0, .slice none 0 0] t (b := w.heap.size + 2) (by simp)
  have b3 := b2.alloc #[.int .i64 0, .bool lf, .slice none 0 0, .slice none 0 0, .slice none 0 0] t (b := w.heap.size + 3) (by simp)
  have b4 := b3.alloc #[.int .i64 0, .bool lf, .slice none 0 0, .slice none 0 0, .slice none 0 0] t (b := w.heap.size + 4) (by simp)
  refine Boxes.sub b4.drew (fun x hx => ?_)
  simp only [List.mem_cons, List.not_mem_nil, or_false] at hx ⊢
  rcases hx with rfl | rfl | rfl | rfl | rfl
  · exact .inl rfl
  · exact .inr (.inl rfl)
  · exact .inr (.inr (.inr (.inr rfl)))
  · exact .inr (.inr (.inr (.inl rfl)))
  · exact .inr (.inr (.inl rfl))
set_option maxRecDepth 100000 in
set_option maxHeartbeats 4000000 in
theorem tpart_any {F : Nat → Prop} {n : Nat} {w : World} {cs : List Value} {t : Tr} (h : NodeOn F (n + 1) w cs t) (k : Nat) (h0 : 0 < k) (hk : k < cntT t) (hc : cntT t ≤ 1000) :
    Calls Tryz.prog 202 #[.agg cs.toArray, .int .i64 (k : Int)] w (PartPost (Fr F w) (n + 1) w (partT k t).1 (partT k t).2.1 (partT k t).2.2) := by
  obtain ⟨ka, kc, va, vn, vc, ca, cn, cc, V, C, rfl, h1, h2, h3, h4, _⟩ := h.open
  obtain ⟨lf, hlf⟩ : ∃ lf, t.isLeaf = lf := ⟨_, rfl⟩
  rw [hlf]
  obtain ⟨hB0, hS0, hX0⟩ := part_box w #[.int .i64 t.page, .bool lf, .slice ka (cntT t) kc, .slice va vn vc, .slice ca cn cc] lf 50
  have HLF := Lib.hid hlf
  have HB0 := Lib.hid hB0
  have HS0 := Lib.hid hS0
  have HX0 := Lib.hid hX0
  clear hlf hB0 hS0 hX0
  go_enter Tryz.func202, Tryz.ntmps202
  go_upto_region 1 with (fail)
  go_cut [7, 8] (fun s7 s8 wx => PartBox w [.int .i64 t.page, .bool lf, .slice ka (cntT t) kc, .slice va vn vc, .slice ca cn cc] lf s7 s8 wx)
  case first =>
    go_region
    · go_wp2_with fail
      go_meet
      exact ⟨_, _, rfl, rfl, HX0.out, by omega, by omega, by omega, by omega, by omega, HB0.out, HS0.out⟩
    · go_wp2_with fail
      go_meet
      exact ⟨_, _, rfl, rfl, HX0.out.swap, by omega, by omega, by omega, by omega, by omega, HB0.out, HS0.out⟩
  case rest =>
  unfold PartBox at hcut
  clear HB0 HS0 HX0
  obtain ⟨p, q, rfl, rfl, hbx, hp, hq, hpq, hp5, hq5, hb, hsz⟩ := hcut
  obtain ⟨e1, e2, e3⟩ := h1.lens
  have hRW : Raw 1 wc ka k kc ((t.keys.take k).map kCell) ∧ Raw 1 wc (if kc = k then ka else ka.map (·.add (k * 1))) (cntT t - k) (kc - k) ((t.keys.drop k).map kCell) := by
    rw [List.map_take, List.map_drop]
    exact ⟨Raw.below (TabR.tk h1 (show k ≤ cntT t by omega)) hb, Raw.below (TabR.dp h1 (show k ≤ cntT t by omega)) hb⟩
  obtain ⟨L1, hL1⟩ : ∃ L, (t.keys.take k).map kCell = L := ⟨_, rfl⟩
  obtain ⟨L2, hL2⟩ : ∃ L, (t.keys.drop k).map kCell = L := ⟨_, rfl⟩
  have hl2 : 0 < L2.length := by rw [← hL2, List.length_map, List.length_drop, keys_len]; omega
  rw [hL1, hL2] at hRW
  have HRW := hRW
  have HL1 := Lib.hid hL1
  have HL2 := Lib.hid hL2
  have HH1 := Lib.hid h1
  have HH2 := Lib.hid h2
  have HH3 := Lib.hid h3
  have HH4 := Lib.hid h4
  have HX := Lib.hid hbx
  have HBW := Lib.hid hb
  have hkc : k ≤ kc := by omega
  have hq6 : q < wc.heap.size := by omega
  have hp6 : p < wc.heap.size := by omega
  have hlt0 : w.heap.size < wc.heap.size := by omega
  have HSZ := Lib.hid hsz
  have HCN : Hid (t.keys.length = cntT t) := Lib.hid (keys_len t)
  clear hbx h1 h2 h3 h4 h e1 hb hsz hL1 hL2 hRW
  generalize hm : cntT t = m at *
  have HM := Lib.hid hm
  clear hm
  unfold zeroN at HX
  obtain ⟨a2, ha2, hsl⟩ := slice_from elem_s size_s ka m kc k (by omega)
  have hR1 : Raw _ wc ka k kc L1 := HRW.1
  have hR2 : Raw _ wc a2 (m - k) (kc - k) L2 := by rw [ha2]; exact HRW.2
  have HR2 := Lib.hid hR2
  have C1 := clone_s (hR1.below (Below.refl _ _).drew) (by omega)
  have hs0 : wc.drew.cell? ⟨w.heap.size, 2, none⟩ = some (.slice ka m kc) := HX.out.cell 2 2 rfl rfl
  have hC0 : Below wc.heap.size wc wc.drew := (Below.refl _ _).drew
  clear hR1 hR2 ha2 HRW
  go_wp2_with fail
  go_region_held3 (fun W => W.cell? ⟨w.heap.size, 2, none⟩ = some (.slice ka m kc)) (with_reducible assumption) (first | (go_at_call 203; (with_reducible refine C1.mono ?_); rintro e w1 hq1; obtain ⟨a3, c3, rfl, hc31, hc32, ho1, hb1⟩ := hq1.sl; have hB1 : Below wc.heap.size wc w1 := hC0.trans (hb1.mono hC0.size); have C2 := clone_s (HR2.out.below hB1) (by omega); have hs1 : w1.cell? ⟨w.heap.size, 2, none⟩ = some (.slice ka m kc) := (HX.out.step hB1).cell 2 2 rfl rfl) | (go_at_call 203; (with_reducible refine C2.mono ?_); rintro e w2 hq2; obtain ⟨a4, c4, rfl, hc41, hc42, ho2, hb2⟩ := hq2.sl; have hB2 : Below wc.heap.size wc w2 := hB1.trans (hb2.mono hB1.size); have HX2 := HX.out.step hB2; have g1 := HX2.cell 1 2 rfl rfl; have g2 := HX2.frozen 1 2 rfl; have g3 := HX2.cell 0 2 rfl rfl; have g4 := HX2.frozen 0 2 rfl; have HX3 : Boxes (w2.setCell ⟨p, 2, none⟩ (.slice a3 L1.length c3)) [(p, [.int .i64 0, .bool lf, .slice a3 L1.length c3, .slice none 0 0, .slice none 0 0]), (q, [.int .i64 0, .bool lf, .slice none 0 0, .slice none 0 0, .slice none 0 0]), (w.heap.size, [.int .i64 t.page, .bool lf, .slice ka m kc, .slice va vn vc, .slice ca cn cc]), (w.heap.size + 1, [.int .i64 0, .bool false, .slice none 0 0, .slice none 0 0, .slice none 0 0]), (w.heap.size + 2, [.int .i64 0, .bool false, .slice none 0 0, .slice none 0 0, .slice none 0 0])] := HX2.swap.put 2 (.slice a3 L1.length c3) (by intro x hx; simp at hx; rcases hx with rfl | rfl | rfl | rfl <;> simp <;> omega); have g5 := HX3.cell 1 2 rfl rfl; have g6 := HX3.frozen 1 2 rfl; have HX4 : Boxes ((w2.setCell ⟨p, 2, none⟩ (.slice a3 L1.length c3)).setCell ⟨q, 2, none⟩ (.slice a4 L2.length c4)) [(q, [.int .i64 0, .bool lf, .slice a4 L2.length c4, .slice none 0 0, .slice none 0 0]), (p, [.int .i64 0, .bool lf, .slice a3 L1.length c3, .slice none 0 0, .slice none 0 0]), (w.heap.size, [.int .i64 t.page, .bool lf, .slice ka m kc, .slice va vn vc, .slice ca cn cc]), (w.heap.size + 1, [.int .i64 0, .bool false, .slice none 0 0, .slice none 0 0, .slice none 0 0]), (w.heap.size + 2, [.int .i64 0, .bool false, .slice none 0 0, .slice none 0 0, .slice none 0 0])] := HX3.swap.put 2 (.slice a4 L2.length c4) (by intro x hx; simp at hx; rcases hx with rfl | rfl | rfl | rfl <;> simp <;> omega); have hs2 : w2.cell? ⟨w.heap.size, 2, none⟩ = some (.slice ka m kc) := HX2.cell 2 2 rfl rfl; have hs3 : (w2.setCell ⟨p, 2, none⟩ (.slice a3 L1.length c3)).cell? ⟨w.heap.size, 2, none⟩ = some (.slice ka m kc) := HX3.cell 2 2 rfl rfl; have hs4 : ((w2.setCell ⟨p, 2, none⟩ (.slice a3 L1.length c3)).setCell ⟨q, 2, none⟩ (.slice a4 L2.length c4)).cell? ⟨w.heap.size, 2, none⟩ = some (.slice ka m kc) := HX4.cell 2 2 rfl rfl))
  clear g1 g2 g3 g4 g5 g6 hs0 hs1 hs2 hs3 hs4 C1 C2 HX2 HX3 hsl
  have hp7 : p < w1.heap.size := by have := hB1.size; omega
  have hq7 : q < w1.heap.size := by have := hB1.size; omega
  have HO1 := Lib.hid (own_set (own_set (own_held ho1 hb2) ⟨p, 2, none⟩ (.slice a3 L1.length c3) (fun e => by have := own_ge ho1 _ e; simp at this; omega)) ⟨q, 2, none⟩ (.slice a4 L2.length c4) (fun e => by have := own_ge ho1 _ e; simp at this; omega))
  have HO2 := Lib.hid (own_set (own_set ho2 ⟨p, 2, none⟩ (.slice a3 L1.length c3) (fun e => by have := own_ge ho2 _ e; simp at this; omega)) ⟨q, 2, none⟩ (.slice a4 L2.length c4) (fun e => by have := own_ge ho2 _ e; simp at this; omega))
  have HNB : Hid (∀ g, Value.ownBlock (.slice a4 L2.length c4) = some g → Value.ownBlock (.slice a3 L1.length c3) ≠ some g) := Lib.hid (fun g h2 h1 => by have := own_ge ho2 _ h2; have := own_lt ho1 _ h1; omega)
  have hBW : Below w.heap.size w ((w2.setCell ⟨p, 2, none⟩ (.slice a3 L1.length c3)).setCell ⟨q, 2, none⟩ (.slice a4 L2.length c4)) := ((HBW.out.trans (hB2.mono HBW.out.size)).setCell (by simp; omega) _).setCell (by simp; omega) _
  have hB3 : Below wc.heap.size wc w2 := hB2
  have HY := Lib.hid HX4
  have HBX := Lib.hid hBW
  clear HX4 hBW
  obtain ⟨g, cg, eg, hgB, _, _, k1, k2, k3⟩ := own_key (ks := t.keys.drop k) (by rw [HL2.out]; exact HO2.out) hl2 []
  cases eg
  generalize hw3 : (w2.setCell ⟨p, 2, none⟩ (.slice a3 L1.length c3)).setCell ⟨q, 2, none⟩ (.slice (some ⟨g, 0, none⟩) L2.length c4) = w3 at *
  clear hw3
  have d1 := HY.out.cell 0 2 rfl rfl
  have d2 := HY.out.cell 2 1 rfl rfl
  have K3 := Lib.hid k3
  clear k2 k3
  have hp8 : p < w3.heap.size := HY.out.lt 1 rfl
  have hq8 : q < w3.heap.size := HY.out.lt 0 rfl
  cases lf with
  | true =>
    have hv := HH4.out.toR.lens.2.1
    rw [HLF.out, if_pos rfl, HM.out] at hv
    have hvn := HH2.out.1
    obtain rfl : vn = m := by omega
    obtain ⟨_, _, hvc⟩ := HH2.out.lens
    have hkvc : k ≤ vc := by have := HH2.out.2.1; omega
    have HRWv : Raw 2 w3 va k vc (V.take k) ∧ Raw 2 w3 (if vc = k then va else va.map (·.add (k * 2))) (vn - k) (vc - k) (V.drop k) :=
      ⟨Raw.below (TabR.tk HH2.out (show k ≤ vn by omega)) HBX.out, Raw.below (TabR.dp HH2.out (show k ≤ vn by omega)) HBX.out⟩
    obtain ⟨M1, hM1⟩ : ∃ L, V.take k = L := ⟨_, rfl⟩
    obtain ⟨M2, hM2⟩ : ∃ L, V.drop k = L := ⟨_, rfl⟩
    rw [hM1, hM2] at HRWv
    have HM1 := Lib.hid hM1
    have HM2 := Lib.hid hM2
    have HXv := HY
    have HBWv := HBX
    clear hM1 hM2 hv hvn
    obtain ⟨a2v, ha2v, hslv⟩ := slice_from elem_v size_v va vn vc k (by omega)
    have hR1v : Raw _ w3 va k vc M1 := HRWv.1
    have hR2v : Raw _ w3 a2v (vn - k) (vc - k) M2 := by rw [ha2v]; exact HRWv.2
    have HR2v := Lib.hid hR2v
    have C1v := clone_v (hR1v.below (Below.refl _ _).drew) (by omega)
    have hs0v : w3.drew.cell? ⟨w.heap.size, 3, none⟩ = some (.slice va vn vc) := HXv.out.cell 2 3 rfl rfl
    have hC0v : Below w3.heap.size w3 w3.drew := (Below.refl _ _).drew
    clear hR1v hR2v ha2v HRWv
    go_wp2_with fail
    go_region_held3 (fun W => W.cell? ⟨w.heap.size, 3, none⟩ = some (.slice va vn vc)) (with_reducible assumption) (first | (go_at_call 209; (with_reducible refine C1v.mono ?_); rintro e w1v hq1; obtain ⟨a3v, c3v, rfl, hc31v, hc32v, ho1v, hb1v⟩ := hq1.sl; have hB1v : Below w3.heap.size w3 w1v := hC0v.trans (hb1v.mono hC0v.size); have C2v := clone_v (HR2v.out.below hB1v) (by omega); have hs1v : w1v.cell? ⟨w.heap.size, 3, none⟩ = some (.slice va vn vc) := (HXv.out.step hB1v).cell 2 3 rfl rfl) | (go_at_call 209; (with_reducible refine C2v.mono ?_); rintro e w2v hq2; obtain ⟨a4v, c4v, rfl, hc41v, hc42v, ho2v, hb2v⟩ := hq2.sl; have hB2v : Below w3.heap.size w3 w2v := hB1v.trans (hb2v.mono hB1v.size); have HX2v := HXv.out.step hB2v; have g1 := HX2v.cell 1 3 rfl rfl; have g2 := HX2v.frozen 1 3 rfl; have g3 := HX2v.cell 0 3 rfl rfl; have g4 := HX2v.frozen 0 3 rfl; have HX3v : Boxes (w2v.setCell ⟨p, 3, none⟩ (.slice a3v M1.length c3v)) [(p, [.int .i64 0, .bool true, .slice a3 L1.length c3, .slice a3v M1.length c3v, .slice none 0 0]), (q, [.int .i64 0, .bool true, .slice (some ⟨g, 0, none⟩) L2.length c4, .slice none 0 0, .slice none 0 0]), (w.heap.size, [.int .i64 t.page, .bool true, .slice ka vn kc, .slice va vn vc, .slice ca cn cc]), (w.heap.size + 1, [.int .i64 0, .bool false, .slice none 0 0, .slice none 0 0, .slice none 0 0]), (w.heap.size + 2, [.int .i64 0, .bool false, .slice none 0 0, .slice none 0 0, .slice none 0 0])] := HX2v.swap.put 3 (.slice a3v M1.length c3v) (by intro x hx; simp at hx; rcases hx with rfl | rfl | rfl | rfl <;> simp <;> omega); have g5 := HX3v.cell 1 3 rfl rfl; have g6 := HX3v.frozen 1 3 rfl; have HX4v : Boxes ((w2v.setCell ⟨p, 3, none⟩ (.slice a3v M1.length c3v)).setCell ⟨q, 3, none⟩ (.slice a4v M2.length c4v)) [(q, [.int .i64 0, .bool true, .slice (some ⟨g, 0, none⟩) L2.length c4, .slice a4v M2.length c4v, .slice none 0 0]), (p, [.int .i64 0, .bool true, .slice a3 L1.length c3, .slice a3v M1.length c3v, .slice none 0 0]), (w.heap.size, [.int .i64 t.page, .bool true, .slice ka vn kc, .slice va vn vc, .slice ca cn cc]), (w.heap.size + 1, [.int .i64 0, .bool false, .slice none 0 0, .slice none 0 0, .slice none 0 0]), (w.heap.size + 2, [.int .i64 0, .bool false, .slice none 0 0, .slice none 0 0, .slice none 0 0])] := HX3v.swap.put 3 (.slice a4v M2.length c4v) (by intro x hx; simp at hx; rcases hx with rfl | rfl | rfl | rfl <;> simp <;> omega); have hs2 : w2v.cell? ⟨w.heap.size, 3, none⟩ = some (.slice va vn vc) := HX2v.cell 2 3 rfl rfl; have hs3 : (w2v.setCell ⟨p, 3, none⟩ (.slice a3v M1.length c3v)).cell? ⟨w.heap.size, 3, none⟩ = some (.slice va vn vc) := HX3v.cell 2 3 rfl rfl; have hs4 : ((w2v.setCell ⟨p, 3, none⟩ (.slice a3v M1.length c3v)).setCell ⟨q, 3, none⟩ (.slice a4v M2.length c4v)).cell? ⟨w.heap.size, 3, none⟩ = some (.slice va vn vc) := HX4v.cell 2 3 rfl rfl))
    clear g1 g2 g3 g4 g5 g6 hs0v hs1v hs2 hs3 hs4 C1v C2v HX2v HX3v hslv
    have hp7v : p < w1v.heap.size := by have := hB1v.size; omega
    have hq7v : q < w1v.heap.size := by have := hB1v.size; omega
    have HO1v := Lib.hid (own_set (own_set (own_held ho1v hb2v) ⟨p, 3, none⟩ (.slice a3v M1.length c3v) (fun e => by have := own_ge ho1v _ e; simp at this; omega)) ⟨q, 3, none⟩ (.slice a4v M2.length c4v) (fun e => by have := own_ge ho1v _ e; simp at this; omega))
    have HO2v := Lib.hid (own_set (own_set ho2v ⟨p, 3, none⟩ (.slice a3v M1.length c3v) (fun e => by have := own_ge ho2v _ e; simp at this; omega)) ⟨q, 3, none⟩ (.slice a4v M2.length c4v) (fun e => by have := own_ge ho2v _ e; simp at this; omega))
    have HNBv : Hid (∀ g, Value.ownBlock (.slice a4v M2.length c4v) = some g → Value.ownBlock (.slice a3v M1.length c3v) ≠ some g) := Lib.hid (fun g h2 h1 => by have := own_ge ho2v _ h2; have := own_lt ho1v _ h1; omega)
    have hBWv : Below w.heap.size w ((w2v.setCell ⟨p, 3, none⟩ (.slice a3v M1.length c3v)).setCell ⟨q, 3, none⟩ (.slice a4v M2.length c4v)) := ((HBWv.out.trans (hB2v.mono HBWv.out.size)).setCell (by simp; omega) _).setCell (by simp; omega) _
    have hB3v : Below w3.heap.size w3 w2v := hB2v
    have HYv := Lib.hid HX4v
    have HBXv := Lib.hid hBWv
    clear HX4v hBWv
    have hP3 : ∀ (base : Nat) (e : TypeId) (sz : Nat) (v : Value) (n : Nat) (xs : List Value), w3.ownsRow base e sz v n xs → p < base → q < base → ((w2v.setCell ⟨p, 3, none⟩ (.slice a3v M1.length c3v)).setCell ⟨q, 3, none⟩ (.slice a4v M2.length c4v)).ownsRow base e sz v n xs := by
      intro base e sz v n xs h h1 h2
      exact own_set (own_set (own_held h hB3v) ⟨p, 3, none⟩ _ (fun e => by have := own_ge h _ e; simp at this; omega)) ⟨q, 3, none⟩ _ (fun e => by have := own_ge h _ e; simp at this; omega)
    have P3 := Lib.hid hP3
    clear hP3
    generalize hw4 : (w2v.setCell ⟨p, 3, none⟩ (.slice a3v M1.length c3v)).setCell ⟨q, 3, none⟩ (.slice a4v M2.length c4v) = w4 at *
    clear hw4
    go_wp2_with fail
    have y00 := HYv.out.cell 0 0 rfl rfl
    have y01 := HYv.out.cell 0 1 rfl rfl
    have y02 := HYv.out.cell 0 2 rfl rfl
    have y03 := HYv.out.cell 0 3 rfl rfl
    have y04 := HYv.out.cell 0 4 rfl rfl
    have y10 := HYv.out.cell 1 0 rfl rfl
    have y11 := HYv.out.cell 1 1 rfl rfl
    have y12 := HYv.out.cell 1 2 rfl rfl
    have y13 := HYv.out.cell 1 3 rfl rfl
    have y14 := HYv.out.cell 1 4 rfl rfl
    have z30 : w4.cell? ⟨w.heap.size + 1, 0, none⟩ = _ := HYv.out.cell 3 0 rfl rfl
    have u30 : w4.frozen? ⟨w.heap.size + 1, 0, none⟩ = false := HYv.out.frozen 3 0 rfl
    have z31 : w4.cell? ⟨w.heap.size + 1, 1, none⟩ = _ := HYv.out.cell 3 1 rfl rfl
    have u31 : w4.frozen? ⟨w.heap.size + 1, 1, none⟩ = false := HYv.out.frozen 3 1 rfl
    have z32 : w4.cell? ⟨w.heap.size + 1, 2, none⟩ = _ := HYv.out.cell 3 2 rfl rfl
    have u32 : w4.frozen? ⟨w.heap.size + 1, 2, none⟩ = false := HYv.out.frozen 3 2 rfl
    have z33 : w4.cell? ⟨w.heap.size + 1, 3, none⟩ = _ := HYv.out.cell 3 3 rfl rfl
    have u33 : w4.frozen? ⟨w.heap.size + 1, 3, none⟩ = false := HYv.out.frozen 3 3 rfl
    have z34 : w4.cell? ⟨w.heap.size + 1, 4, none⟩ = _ := HYv.out.cell 3 4 rfl rfl
    have u34 : w4.frozen? ⟨w.heap.size + 1, 4, none⟩ = false := HYv.out.frozen 3 4 rfl
    have z40 : w4.cell? ⟨w.heap.size + 1 + 1, 0, none⟩ = _ := HYv.out.cell 4 0 rfl rfl
    have u40 : w4.frozen? ⟨w.heap.size + 1 + 1, 0, none⟩ = false := HYv.out.frozen 4 0 rfl
    have z41 : w4.cell? ⟨w.heap.size + 1 + 1, 1, none⟩ = _ := HYv.out.cell 4 1 rfl rfl
    have u41 : w4.frozen? ⟨w.heap.size + 1 + 1, 1, none⟩ = false := HYv.out.frozen 4 1 rfl
    have z42 : w4.cell? ⟨w.heap.size + 1 + 1, 2, none⟩ = _ := HYv.out.cell 4 2 rfl rfl
    have u42 : w4.frozen? ⟨w.heap.size + 1 + 1, 2, none⟩ = false := HYv.out.frozen 4 2 rfl
    have z43 : w4.cell? ⟨w.heap.size + 1 + 1, 3, none⟩ = _ := HYv.out.cell 4 3 rfl rfl
    have u43 : w4.frozen? ⟨w.heap.size + 1 + 1, 3, none⟩ = false := HYv.out.frozen 4 3 rfl
    have z44 : w4.cell? ⟨w.heap.size + 1 + 1, 4, none⟩ = _ := HYv.out.cell 4 4 rfl rfl
    have u44 : w4.frozen? ⟨w.heap.size + 1 + 1, 4, none⟩ = false := HYv.out.frozen 4 4 rfl
    have n1 : p ≠ w.heap.size + 1 := by omega
    have n2 : q ≠ w.heap.size + 1 := by omega
    go_region
    have hb1' : ∀ x ∈ ([(q, [.int .i64 0, .bool true, .slice (some ⟨g, 0, none⟩) L2.length c4, .slice a4v M2.length c4v, .slice none 0 0]), (p, [.int .i64 0, .bool true, .slice a3 L1.length c3, .slice a3v M1.length c3v, .slice none 0 0]), (w.heap.size, [.int .i64 t.page, .bool true, .slice ka vn kc, .slice va vn vc, .slice ca cn cc]), (w.heap.size + 1 + 1, [.int .i64 0, .bool false, .slice none 0 0, .slice none 0 0, .slice none 0 0])] : List (Nat × List Value)), x.1 ≠ w.heap.size + 1 := by intro x hx; simp at hx; rcases hx with rfl | rfl | rfl | rfl <;> simp <;> omega
    have hX5 := set5_box (w := w4) (b := w.heap.size + 1) (x0 := .int .i64 0) (x1 := .bool false) (x2 := .slice none 0 0) (x3 := .slice none 0 0) (x4 := .slice none 0 0) (l := [(q, [.int .i64 0, .bool true, .slice (some ⟨g, 0, none⟩) L2.length c4, .slice a4v M2.length c4v, .slice none 0 0]), (p, [.int .i64 0, .bool true, .slice a3 L1.length c3, .slice a3v M1.length c3v, .slice none 0 0]), (w.heap.size, [.int .i64 t.page, .bool true, .slice ka vn kc, .slice va vn vc, .slice ca cn cc]), (w.heap.size + 1 + 1, [.int .i64 0, .bool false, .slice none 0 0, .slice none 0 0, .slice none 0 0])]) (HYv.out.sub (by intro x hx; simp at hx; rcases hx with rfl | rfl | rfl | rfl | rfl <;> simp)) hb1' (.int .i64 0) (.bool true) (.slice a3 L1.length c3) (.slice a3v M1.length c3v) (.slice none 0 0)
    have hb2' : ∀ x ∈ ([(w.heap.size + 1, [.int .i64 0, .bool true, .slice a3 L1.length c3, .slice a3v M1.length c3v, .slice none 0 0])] : List (Nat × List Value)), x.1 ≠ w.heap.size + 1 + 1 := by intro x hx; simp at hx; rcases hx with rfl; simp
    have hX6 := set5_box (b := w.heap.size + 1 + 1) (x0 := .int .i64 0) (x1 := .bool false) (x2 := .slice none 0 0) (x3 := .slice none 0 0) (x4 := .slice none 0 0) (l := [(w.heap.size + 1, [.int .i64 0, .bool true, .slice a3 L1.length c3, .slice a3v M1.length c3v, .slice none 0 0])]) (hX5.sub (by intro x hx; simp at hx; rcases hx with rfl | rfl <;> simp)) hb2' (.int .i64 0) (.bool true) (.slice (some ⟨g, 0, none⟩) L2.length c4) (.slice a4v M2.length c4v) (.slice none 0 0)
    obtain ⟨w6, hw6⟩ : ∃ w6, set5 (set5 w4 (w.heap.size + 1) (.int .i64 0) (.bool true) (.slice a3 L1.length c3) (.slice a3v M1.length c3v) (.slice none 0 0)) (w.heap.size + 1 + 1) (.int .i64 0) (.bool true) (.slice (some ⟨g, 0, none⟩) L2.length c4) (.slice a4v M2.length c4v) (.slice none 0 0) = w6 := ⟨_, rfl⟩
    have hw6' := hw6
    unfold set5 at hw6'
    rw [hw6']
    rw [hw6] at hX6
    have HX6 := Lib.hid hX6
    have fin : ∀ (base : Nat) (e : TypeId) (sz : Nat) (a : Option Addr) (n c m : Nat) (xs : List Value), w4.ownsRow base e sz (.slice a n c) m xs → w.heap.size + 2 < base → w6.ownsRow base e sz (.slice a n c) m xs ∧ Fa (Fr F w) a n := by
      intro base e sz a n c m xs h hb
      rw [← hw6]
      refine ⟨?_, Fa.of_own h (Fr.new (show w.heap.size ≤ base by omega))⟩
      exact set5_own (set5_own h (fun e => by have := own_ge h _ e; omega) _ _ _ _ _) (fun e => by have := own_ge h _ e; omega) _ _ _ _ _
    have FIN := Lib.hid fin
    have HB6 : Hid (Below w.heap.size w w6.drew) := Lib.hid (by rw [← hw6]; exact (set5_below (set5_below HBXv.out (by omega) _ _ _ _ _) (by omega) _ _ _ _ _).drew)
    clear hb1' hb2' hX5 hX6 hw6 hw6' fin
    have r10 : w6.drew.cell? ⟨w.heap.size + 1, 0, none⟩ = _ := HX6.out.cell 1 0 rfl rfl
    have r11 : w6.drew.cell? ⟨w.heap.size + 1, 1, none⟩ = _ := HX6.out.cell 1 1 rfl rfl
    have r12 : w6.drew.cell? ⟨w.heap.size + 1, 2, none⟩ = _ := HX6.out.cell 1 2 rfl rfl
    have r13 : w6.drew.cell? ⟨w.heap.size + 1, 3, none⟩ = _ := HX6.out.cell 1 3 rfl rfl
    have r14 : w6.drew.cell? ⟨w.heap.size + 1, 4, none⟩ = _ := HX6.out.cell 1 4 rfl rfl
    have r00 : w6.drew.cell? ⟨w.heap.size + 1 + 1, 0, none⟩ = _ := HX6.out.cell 0 0 rfl rfl
    have r01 : w6.drew.cell? ⟨w.heap.size + 1 + 1, 1, none⟩ = _ := HX6.out.cell 0 1 rfl rfl
    have r02 : w6.drew.cell? ⟨w.heap.size + 1 + 1, 2, none⟩ = _ := HX6.out.cell 0 2 rfl rfl
    have r03 : w6.drew.cell? ⟨w.heap.size + 1 + 1, 3, none⟩ = _ := HX6.out.cell 0 3 rfl rfl
    have r04 : w6.drew.cell? ⟨w.heap.size + 1 + 1, 4, none⟩ = _ := HX6.out.cell 0 4 rfl rfl
    go_wp2_with fail
    refine bodyPost_ret (v := .tuple #[.agg #[.int .i64 0, .bool true, .slice a3 L1.length c3, .slice a3v M1.length c3v, .slice none 0 0], .agg #[.int .i64 0, .bool true, .slice (some ⟨g, 0, none⟩) L2.length c4, .slice a4v M2.length c4v, .slice none 0 0], .string (strOf (t.keys[k]?.getD []))]) (by simp [results, Tryz.results202, go_sem, r00, r01, r02, r03, r04, r10, r11, r12, r13, r14]) rfl ⟨[.int .i64 0, .bool true, .slice a3 L1.length c3, .slice a3v M1.length c3v, .slice none 0 0], [.int .i64 0, .bool true, .slice (some ⟨g, 0, none⟩) L2.length c4, .slice a4v M2.length c4v, .slice none 0 0], by rw [(part_keys k t).2.2.1], ?_, ?_, HB6.out⟩
    all_goals
      obtain ⟨q1, q2, q3, q4, q5, q6, q7⟩ := part_keys k t
      rw [HLF.out] at q2 q6 q7
      obtain ⟨rp1, rp2⟩ := partR ((HH4.out.below HB6.out).mono Fr.old) k
      have hC : C = [] := List.eq_nil_of_length_eq_zero (by have := HH4.out.toR.lens.2.2; rw [HLF.out] at this; simpa using this)
      rw [hC] at rp1 rp2
    · refine NodeOn.shut (K := L1) q4 q6 (by rw [q1]; exact HL1.out) (Raw.of_sl (FIN.out _ _ _ _ _ _ _ _ (P3.out _ _ _ _ _ _ HO1.out (by show p < wc.heap.size; omega) (by show q < wc.heap.size; omega)) (by show w.heap.size + 2 < wc.heap.size; omega)).1 rfl) (Raw.of_sl (FIN.out _ _ _ _ _ _ _ _ HO1v.out (by show w.heap.size + 2 < w3.heap.size; omega)).1 rfl) (Raw.nil0 _ _) (FIN.out _ _ _ _ _ _ _ _ (P3.out _ _ _ _ _ _ HO1.out (by show p < wc.heap.size; omega) (by show q < wc.heap.size; omega)) (by show w.heap.size + 2 < wc.heap.size; omega)).2 (FIN.out _ _ _ _ _ _ _ _ HO1v.out (by show w.heap.size + 2 < w3.heap.size; omega)).2 (Fa.zero _ _) ?_
      rw [← HM1.out]; simpa using rp1
    · refine NodeOn.shut (K := L2) q5 q7 (by rw [q2, if_pos rfl]; exact HL2.out) (Raw.of_sl (FIN.out _ _ _ _ _ _ _ _ (P3.out _ _ _ _ _ _ HO2.out (by omega) (by omega)) (by omega)).1 rfl) (Raw.of_sl (FIN.out _ _ _ _ _ _ _ _ HO2v.out (by omega)).1 rfl) (Raw.nil0 _ _) (FIN.out _ _ _ _ _ _ _ _ (P3.out _ _ _ _ _ _ HO2.out (by omega) (by omega)) (by omega)).2 (FIN.out _ _ _ _ _ _ _ _ HO2v.out (by omega)).2 (Fa.zero _ _) ?_
      rw [← HM2.out]; simpa using rp2
  | false =>
    have hv := HH4.out.toR.lens.2.2
    rw [HLF.out, if_neg (by simp), HM.out] at hv
    have hvn := HH3.out.1
    obtain rfl : cn = m := by omega
    obtain ⟨_, _, hvc⟩ := HH3.out.lens
    have hkvc : k ≤ cc := by have := HH3.out.2.1; omega
    have HRWn : Raw 5 w3 ca k cc (C.take k) ∧ Raw 5 w3 (if cc = k then ca else ca.map (·.add (k * 5))) (cn - k) (cc - k) (C.drop k) :=
      ⟨Raw.below (TabR.tk HH3.out (show k ≤ cn by omega)) HBX.out, Raw.below (TabR.dp HH3.out (show k ≤ cn by omega)) HBX.out⟩
    obtain ⟨M1, hM1⟩ : ∃ L, C.take k = L := ⟨_, rfl⟩
    obtain ⟨M2, hM2⟩ : ∃ L, C.drop k = L := ⟨_, rfl⟩
    rw [hM1, hM2] at HRWn
    have HM1 := Lib.hid hM1
    have HM2 := Lib.hid hM2
    have HXn := HY
    have HBWn := HBX
    clear hM1 hM2 hv hvn
    obtain ⟨a2n, ha2n, hsln⟩ := slice_from elem_n size_n ca cn cc k (by omega)
    have hR1n : Raw _ w3 ca k cc M1 := HRWn.1
    have hR2n : Raw _ w3 a2n (cn - k) (cc - k) M2 := by rw [ha2n]; exact HRWn.2
    have HR2n := Lib.hid hR2n
    have C1n := clone_n (hR1n.below (Below.refl _ _).drew) (by omega)
    have hs0n : w3.drew.cell? ⟨w.heap.size, 4, none⟩ = some (.slice ca cn cc) := HXn.out.cell 2 4 rfl rfl
    have hC0n : Below w3.heap.size w3 w3.drew := (Below.refl _ _).drew
    clear hR1n hR2n ha2n HRWn
    go_wp2_with fail
    go_region_held3 (fun W => W.cell? ⟨w.heap.size, 4, none⟩ = some (.slice ca cn cc)) (with_reducible assumption) (first | (go_at_call 210; (with_reducible refine C1n.mono ?_); rintro e w1n hq1; obtain ⟨a3n, c3n, rfl, hc31n, hc32n, ho1n, hb1n⟩ := hq1.sl; have hB1n : Below w3.heap.size w3 w1n := hC0n.trans (hb1n.mono hC0n.size); have C2n := clone_n (HR2n.out.below hB1n) (by omega); have hs1n : w1n.cell? ⟨w.heap.size, 4, none⟩ = some (.slice ca cn cc) := (HXn.out.step hB1n).cell 2 4 rfl rfl) | (go_at_call 210; (with_reducible refine C2n.mono ?_); rintro e w2n hq2; obtain ⟨a4n, c4n, rfl, hc41n, hc42n, ho2n, hb2n⟩ := hq2.sl; have hB2n : Below w3.heap.size w3 w2n := hB1n.trans (hb2n.mono hB1n.size); have HX2n := HXn.out.step hB2n; have g1 := HX2n.cell 1 4 rfl rfl; have g2 := HX2n.frozen 1 4 rfl; have g3 := HX2n.cell 0 4 rfl rfl; have g4 := HX2n.frozen 0 4 rfl; have HX3n : Boxes (w2n.setCell ⟨p, 4, none⟩ (.slice a3n M1.length c3n)) [(p, [.int .i64 0, .bool false, .slice a3 L1.length c3, .slice none 0 0, .slice a3n M1.length c3n]), (q, [.int .i64 0, .bool false, .slice (some ⟨g, 0, none⟩) L2.length c4, .slice none 0 0, .slice none 0 0]), (w.heap.size, [.int .i64 t.page, .bool false, .slice ka cn kc, .slice va vn vc, .slice ca cn cc]), (w.heap.size + 1, [.int .i64 0, .bool false, .slice none 0 0, .slice none 0 0, .slice none 0 0]), (w.heap.size + 2, [.int .i64 0, .bool false, .slice none 0 0, .slice none 0 0, .slice none 0 0])] := HX2n.swap.put 4 (.slice a3n M1.length c3n) (by intro x hx; simp at hx; rcases hx with rfl | rfl | rfl | rfl <;> simp <;> omega); have g5 := HX3n.cell 1 4 rfl rfl; have g6 := HX3n.frozen 1 4 rfl; have HX4n : Boxes ((w2n.setCell ⟨p, 4, none⟩ (.slice a3n M1.length c3n)).setCell ⟨q, 4, none⟩ (.slice a4n M2.length c4n)) [(q, [.int .i64 0, .bool false, .slice (some ⟨g, 0, none⟩) L2.length c4, .slice none 0 0, .slice a4n M2.length c4n]), (p, [.int .i64 0, .bool false, .slice a3 L1.length c3, .slice none 0 0, .slice a3n M1.length c3n]), (w.heap.size, [.int .i64 t.page, .bool false, .slice ka cn kc, .slice va vn vc, .slice ca cn cc]), (w.heap.size + 1, [.int .i64 0, .bool false, .slice none 0 0, .slice none 0 0, .slice none 0 0]), (w.heap.size + 2, [.int .i64 0, .bool false, .slice none 0 0, .slice none 0 0, .slice none 0 0])] := HX3n.swap.put 4 (.slice a4n M2.length c4n) (by intro x hx; simp at hx; rcases hx with rfl | rfl | rfl | rfl <;> simp <;> omega); have hs2 : w2n.cell? ⟨w.heap.size, 4, none⟩ = some (.slice ca cn cc) := HX2n.cell 2 4 rfl rfl; have hs3 : (w2n.setCell ⟨p, 4, none⟩ (.slice a3n M1.length c3n)).cell? ⟨w.heap.size, 4, none⟩ = some (.slice ca cn cc) := HX3n.cell 2 4 rfl rfl; have hs4 : ((w2n.setCell ⟨p, 4, none⟩ (.slice a3n M1.length c3n)).setCell ⟨q, 4, none⟩ (.slice a4n M2.length c4n)).cell? ⟨w.heap.size, 4, none⟩ = some (.slice ca cn cc) := HX4n.cell 2 4 rfl rfl))
    clear g1 g2 g3 g4 g5 g6 hs0n hs1n hs2 hs3 hs4 C1n C2n HX2n HX3n hsln
    have hp7n : p < w1n.heap.size := by have := hB1n.size; omega
    have hq7n : q < w1n.heap.size := by have := hB1n.size; omega
    have HO1n := Lib.hid (own_set (own_set (own_held ho1n hb2n) ⟨p, 4, none⟩ (.slice a3n M1.length c3n) (fun e => by have := own_ge ho1n _ e; simp at this; omega)) ⟨q, 4, none⟩ (.slice a4n M2.length c4n) (fun e => by have := own_ge ho1n _ e; simp at this; omega))
    have HO2n := Lib.hid (own_set (own_set ho2n ⟨p, 4, none⟩ (.slice a3n M1.length c3n) (fun e => by have := own_ge ho2n _ e; simp at this; omega)) ⟨q, 4, none⟩ (.slice a4n M2.length c4n) (fun e => by have := own_ge ho2n _ e; simp at this; omega))
    have HNBn : Hid (∀ g, Value.ownBlock (.slice a4n M2.length c4n) = some g → Value.ownBlock (.slice a3n M1.length c3n) ≠ some g) := Lib.hid (fun g h2 h1 => by have := own_ge ho2n _ h2; have := own_lt ho1n _ h1; omega)
    have hBWn : Below w.heap.size w ((w2n.setCell ⟨p, 4, none⟩ (.slice a3n M1.length c3n)).setCell ⟨q, 4, none⟩ (.slice a4n M2.length c4n)) := ((HBWn.out.trans (hB2n.mono HBWn.out.size)).setCell (by simp; omega) _).setCell (by simp; omega) _
    have hB3n : Below w3.heap.size w3 w2n := hB2n
    have HYn := Lib.hid HX4n
    have HBXn := Lib.hid hBWn
    clear HX4n hBWn
    have hP3 : ∀ (base : Nat) (e : TypeId) (sz : Nat) (v : Value) (n : Nat) (xs : List Value), w3.ownsRow base e sz v n xs → p < base → q < base → ((w2n.setCell ⟨p, 4, none⟩ (.slice a3n M1.length c3n)).setCell ⟨q, 4, none⟩ (.slice a4n M2.length c4n)).ownsRow base e sz v n xs := by
      intro base e sz v n xs h h1 h2
      exact own_set (own_set (own_held h hB3n) ⟨p, 4, none⟩ _ (fun e => by have := own_ge h _ e; simp at this; omega)) ⟨q, 4, none⟩ _ (fun e => by have := own_ge h _ e; simp at this; omega)
    have P3 := Lib.hid hP3
    clear hP3
    generalize hw4 : (w2n.setCell ⟨p, 4, none⟩ (.slice a3n M1.length c3n)).setCell ⟨q, 4, none⟩ (.slice a4n M2.length c4n) = w4 at *
    clear hw4
    have hO2 := P3.out _ _ _ _ _ _ HO2.out (by omega) (by omega)
    have hO1 := P3.out _ _ _ _ _ _ HO1.out (by show p < wc.heap.size; omega) (by show q < wc.heap.size; omega)
    obtain ⟨g', c', eg', hg', _, _, k1', k2', k3'⟩ := own_key (ks := t.keys.drop k) (by rw [HL2.out]; exact hO2) hl2 []
    cases eg'
    have hlt := own_lt HO2.out _ rfl
    have hg5 : p < g ∧ q < g ∧ g < w3.heap.size := ⟨by omega, by omega, hlt⟩
    have hO1' := own_set hO1 ⟨g, 0, none⟩ (.string (strOf [])) (HNB.out g rfl)
    have hV1' := own_set HO1n.out ⟨g, 0, none⟩ (.string (strOf [])) (fun e => by have h9 : w3.heap.size ≤ g := own_ge HO1n.out g e; omega)
    have hV2' := own_set HO2n.out ⟨g, 0, none⟩ (.string (strOf [])) (fun e => by have h9 : w1n.heap.size ≤ g := own_ge HO2n.out g e; have := hB1n.size; omega)
    have hY' := HYn.out.set ⟨g, 0, none⟩ (.string (strOf [])) (by intro x hx; simp at hx; rcases hx with rfl | rfl | rfl | rfl | rfl <;> simp <;> omega)
    have hB' := HBXn.out.setCell (p := ⟨g, 0, none⟩) (show w.heap.size ≤ g by omega) (.string (strOf []))
    have A1 := Lib.hid hO1'
    have A2 := Lib.hid k3'
    have A3 := Lib.hid hV1'
    have A4 := Lib.hid hV2'
    have A5 := Lib.hid hY'
    have A6 := Lib.hid hB'
    have d4 := HYn.out.cell 0 2 rfl rfl
    clear hO1' k3' hV1' hV2' hY' hB' hO2 hO1
    go_wp2_with fail
    generalize hw5 : w4.setCell ⟨g, 0, none⟩ (.string ⟨#[]⟩) = w5 at *
    have B1 : Hid (w5.ownsRow _ _ _ _ _ _) := Lib.hid (hw5 ▸ A1.out)
    have B2 : Hid (w5.ownsRow _ _ _ _ _ _) := Lib.hid (hw5 ▸ A2.out)
    have B3 : Hid (w5.ownsRow _ _ _ _ _ _) := Lib.hid (hw5 ▸ A3.out)
    have B4 : Hid (w5.ownsRow _ _ _ _ _ _) := Lib.hid (hw5 ▸ A4.out)
    have B5 : Hid (Boxes w5 _) := Lib.hid (hw5 ▸ A5.out)
    have B6 : Hid (Below _ _ w5) := Lib.hid (hw5 ▸ A6.out)
    clear hw5 A1 A2 A3 A4 A5 A6
    have y00 := B5.out.cell 0 0 rfl rfl
    have y01 := B5.out.cell 0 1 rfl rfl
    have y02 := B5.out.cell 0 2 rfl rfl
    have y03 := B5.out.cell 0 3 rfl rfl
    have y04 := B5.out.cell 0 4 rfl rfl
    have y10 := B5.out.cell 1 0 rfl rfl
    have y11 := B5.out.cell 1 1 rfl rfl
    have y12 := B5.out.cell 1 2 rfl rfl
    have y13 := B5.out.cell 1 3 rfl rfl
    have y14 := B5.out.cell 1 4 rfl rfl
    have z30 : w5.cell? ⟨w.heap.size + 1, 0, none⟩ = _ := B5.out.cell 3 0 rfl rfl
    have u30 : w5.frozen? ⟨w.heap.size + 1, 0, none⟩ = false := B5.out.frozen 3 0 rfl
    have z31 : w5.cell? ⟨w.heap.size + 1, 1, none⟩ = _ := B5.out.cell 3 1 rfl rfl
    have u31 : w5.frozen? ⟨w.heap.size + 1, 1, none⟩ = false := B5.out.frozen 3 1 rfl
    have z32 : w5.cell? ⟨w.heap.size + 1, 2, none⟩ = _ := B5.out.cell 3 2 rfl rfl
    have u32 : w5.frozen? ⟨w.heap.size + 1, 2, none⟩ = false := B5.out.frozen 3 2 rfl
    have z33 : w5.cell? ⟨w.heap.size + 1, 3, none⟩ = _ := B5.out.cell 3 3 rfl rfl
    have u33 : w5.frozen? ⟨w.heap.size + 1, 3, none⟩ = false := B5.out.frozen 3 3 rfl
    have z34 : w5.cell? ⟨w.heap.size + 1, 4, none⟩ = _ := B5.out.cell 3 4 rfl rfl
    have u34 : w5.frozen? ⟨w.heap.size + 1, 4, none⟩ = false := B5.out.frozen 3 4 rfl
    have z40 : w5.cell? ⟨w.heap.size + 1 + 1, 0, none⟩ = _ := B5.out.cell 4 0 rfl rfl
    have u40 : w5.frozen? ⟨w.heap.size + 1 + 1, 0, none⟩ = false := B5.out.frozen 4 0 rfl
    have z41 : w5.cell? ⟨w.heap.size + 1 + 1, 1, none⟩ = _ := B5.out.cell 4 1 rfl rfl
    have u41 : w5.frozen? ⟨w.heap.size + 1 + 1, 1, none⟩ = false := B5.out.frozen 4 1 rfl
    have z42 : w5.cell? ⟨w.heap.size + 1 + 1, 2, none⟩ = _ := B5.out.cell 4 2 rfl rfl
    have u42 : w5.frozen? ⟨w.heap.size + 1 + 1, 2, none⟩ = false := B5.out.frozen 4 2 rfl
    have z43 : w5.cell? ⟨w.heap.size + 1 + 1, 3, none⟩ = _ := B5.out.cell 4 3 rfl rfl
    have u43 : w5.frozen? ⟨w.heap.size + 1 + 1, 3, none⟩ = false := B5.out.frozen 4 3 rfl
    have z44 : w5.cell? ⟨w.heap.size + 1 + 1, 4, none⟩ = _ := B5.out.cell 4 4 rfl rfl
    have u44 : w5.frozen? ⟨w.heap.size + 1 + 1, 4, none⟩ = false := B5.out.frozen 4 4 rfl
    have n1 : p ≠ w.heap.size + 1 := by omega
    have n2 : q ≠ w.heap.size + 1 := by omega
    go_region
    have hb1' : ∀ x ∈ ([(q, [.int .i64 0, .bool false, .slice (some ⟨g, 0, none⟩) L2.length c4, .slice none 0 0, .slice a4n M2.length c4n]), (p, [.int .i64 0, .bool false, .slice a3 L1.length c3, .slice none 0 0, .slice a3n M1.length c3n]), (w.heap.size, [.int .i64 t.page, .bool false, .slice ka cn kc, .slice va vn vc, .slice ca cn cc]), (w.heap.size + 1 + 1, [.int .i64 0, .bool false, .slice none 0 0, .slice none 0 0, .slice none 0 0])] : List (Nat × List Value)), x.1 ≠ w.heap.size + 1 := by intro x hx; simp at hx; rcases hx with rfl | rfl | rfl | rfl <;> simp <;> omega
    have hX5 := set5_box (w := w5) (b := w.heap.size + 1) (x0 := .int .i64 0) (x1 := .bool false) (x2 := .slice none 0 0) (x3 := .slice none 0 0) (x4 := .slice none 0 0) (l := [(q, [.int .i64 0, .bool false, .slice (some ⟨g, 0, none⟩) L2.length c4, .slice none 0 0, .slice a4n M2.length c4n]), (p, [.int .i64 0, .bool false, .slice a3 L1.length c3, .slice none 0 0, .slice a3n M1.length c3n]), (w.heap.size, [.int .i64 t.page, .bool false, .slice ka cn kc, .slice va vn vc, .slice ca cn cc]), (w.heap.size + 1 + 1, [.int .i64 0, .bool false, .slice none 0 0, .slice none 0 0, .slice none 0 0])]) (B5.out.sub (by intro x hx; simp at hx; rcases hx with rfl | rfl | rfl | rfl | rfl <;> simp)) hb1' (.int .i64 0) (.bool false) (.slice a3 L1.length c3) (.slice none 0 0) (.slice a3n M1.length c3n)
    have hb2' : ∀ x ∈ ([(w.heap.size + 1, [.int .i64 0, .bool false, .slice a3 L1.length c3, .slice none 0 0, .slice a3n M1.length c3n])] : List (Nat × List Value)), x.1 ≠ w.heap.size + 1 + 1 := by intro x hx; simp at hx; rcases hx with rfl; simp
    have hX6 := set5_box (b := w.heap.size + 1 + 1) (x0 := .int .i64 0) (x1 := .bool false) (x2 := .slice none 0 0) (x3 := .slice none 0 0) (x4 := .slice none 0 0) (l := [(w.heap.size + 1, [.int .i64 0, .bool false, .slice a3 L1.length c3, .slice none 0 0, .slice a3n M1.length c3n])]) (hX5.sub (by intro x hx; simp at hx; rcases hx with rfl | rfl <;> simp)) hb2' (.int .i64 0) (.bool false) (.slice (some ⟨g, 0, none⟩) L2.length c4) (.slice none 0 0) (.slice a4n M2.length c4n)
    obtain ⟨w6, hw6⟩ : ∃ w6, set5 (set5 w5 (w.heap.size + 1) (.int .i64 0) (.bool false) (.slice a3 L1.length c3) (.slice none 0 0) (.slice a3n M1.length c3n)) (w.heap.size + 1 + 1) (.int .i64 0) (.bool false) (.slice (some ⟨g, 0, none⟩) L2.length c4) (.slice none 0 0) (.slice a4n M2.length c4n) = w6 := ⟨_, rfl⟩
    have hw6' := hw6
    unfold set5 at hw6'
    rw [hw6']
    rw [hw6] at hX6
    have HX6 := Lib.hid hX6
    have fin : ∀ (base : Nat) (e : TypeId) (sz : Nat) (a : Option Addr) (n c m : Nat) (xs : List Value), w5.ownsRow base e sz (.slice a n c) m xs → w.heap.size + 2 < base → w6.ownsRow base e sz (.slice a n c) m xs ∧ Fa (Fr F w) a n := by
      intro base e sz a n c m xs h hb
      rw [← hw6]
      refine ⟨?_, Fa.of_own h (Fr.new (show w.heap.size ≤ base by omega))⟩
      exact set5_own (set5_own h (fun e => by have := own_ge h _ e; omega) _ _ _ _ _) (fun e => by have := own_ge h _ e; omega) _ _ _ _ _
    have FIN := Lib.hid fin
    have HB6 : Hid (Below w.heap.size w w6.drew) := Lib.hid (by rw [← hw6]; exact (set5_below (set5_below B6.out (by omega) _ _ _ _ _) (by omega) _ _ _ _ _).drew)
    clear hb1' hb2' hX5 hX6 hw6 hw6' fin
    have r10 : w6.drew.cell? ⟨w.heap.size + 1, 0, none⟩ = _ := HX6.out.cell 1 0 rfl rfl
    have r11 : w6.drew.cell? ⟨w.heap.size + 1, 1, none⟩ = _ := HX6.out.cell 1 1 rfl rfl
    have r12 : w6.drew.cell? ⟨w.heap.size + 1, 2, none⟩ = _ := HX6.out.cell 1 2 rfl rfl
    have r13 : w6.drew.cell? ⟨w.heap.size + 1, 3, none⟩ = _ := HX6.out.cell 1 3 rfl rfl
    have r14 : w6.drew.cell? ⟨w.heap.size + 1, 4, none⟩ = _ := HX6.out.cell 1 4 rfl rfl
    have r00 : w6.drew.cell? ⟨w.heap.size + 1 + 1, 0, none⟩ = _ := HX6.out.cell 0 0 rfl rfl
    have r01 : w6.drew.cell? ⟨w.heap.size + 1 + 1, 1, none⟩ = _ := HX6.out.cell 0 1 rfl rfl
    have r02 : w6.drew.cell? ⟨w.heap.size + 1 + 1, 2, none⟩ = _ := HX6.out.cell 0 2 rfl rfl
    have r03 : w6.drew.cell? ⟨w.heap.size + 1 + 1, 3, none⟩ = _ := HX6.out.cell 0 3 rfl rfl
    have r04 : w6.drew.cell? ⟨w.heap.size + 1 + 1, 4, none⟩ = _ := HX6.out.cell 0 4 rfl rfl
    go_wp2_with fail
    refine bodyPost_ret (v := .tuple #[.agg #[.int .i64 0, .bool false, .slice a3 L1.length c3, .slice none 0 0, .slice a3n M1.length c3n], .agg #[.int .i64 0, .bool false, .slice (some ⟨g, 0, none⟩) L2.length c4, .slice none 0 0, .slice a4n M2.length c4n], .string (strOf (t.keys[k]?.getD []))]) (by simp [results, Tryz.results202, go_sem, r00, r01, r02, r03, r04, r10, r11, r12, r13, r14]) rfl ⟨[.int .i64 0, .bool false, .slice a3 L1.length c3, .slice none 0 0, .slice a3n M1.length c3n], [.int .i64 0, .bool false, .slice (some ⟨g, 0, none⟩) L2.length c4, .slice none 0 0, .slice a4n M2.length c4n], by rw [(part_keys k t).2.2.1], ?_, ?_, HB6.out⟩
    all_goals
      obtain ⟨q1, q2, q3, q4, q5, q6, q7⟩ := part_keys k t
      rw [HLF.out] at q2 q6 q7
      obtain ⟨rp1, rp2⟩ := partR ((HH4.out.below HB6.out).mono Fr.old) k
      have hC : V = [] := List.eq_nil_of_length_eq_zero (by have := HH4.out.toR.lens.2.1; rw [HLF.out] at this; simpa using this)
      rw [hC] at rp1 rp2
    · refine NodeOn.shut (K := L1) q4 q6 (by rw [q1]; exact HL1.out) (Raw.of_sl (FIN.out _ _ _ _ _ _ _ _ B1.out (by show w.heap.size + 2 < wc.heap.size; omega)).1 rfl) (Raw.nil0 _ _) (Raw.of_sl (FIN.out _ _ _ _ _ _ _ _ B3.out (by show w.heap.size + 2 < w3.heap.size; omega)).1 rfl) (FIN.out _ _ _ _ _ _ _ _ B1.out (by show w.heap.size + 2 < wc.heap.size; omega)).2 (Fa.zero _ _) (FIN.out _ _ _ _ _ _ _ _ B3.out (by show w.heap.size + 2 < w3.heap.size; omega)).2 ?_
      rw [← HM1.out]; simpa using rp1
    · refine NodeOn.shut (K := ((t.keys.drop k).set 0 []).map kCell) q5 q7 (by rw [q2]; rfl) (Raw.of_sl (FIN.out _ _ _ _ _ _ _ _ B2.out (by omega)).1 (by rw [List.length_map, List.length_set, ← HL2.out, List.length_map])) (Raw.nil0 _ _) (Raw.of_sl (FIN.out _ _ _ _ _ _ _ _ B4.out (by omega)).1 rfl) (FIN.out _ _ _ _ _ _ _ _ B2.out (by omega)).2 (Fa.zero _ _) (FIN.out _ _ _ _ _ _ _ _ B4.out (by omega)).2 ?_
      rw [← HM2.out]; simpa using rp2
end Go.Proofs.YtpghlmcoajaiiaaGreatDoor

/- The walks of trees: two nodes put together. -/
namespace Go.Proofs.YtpghlmcoajaiiaaGreatDoor
open Go.RowKit

theorem join_keys {key : List UInt8} {a b : Tr} (h : a.isLeaf = b.isLeaf) : (joinT key a b).keys = a.keys ++ (if b.isLeaf then b.keys else b.keys.set 0 key) ∧ (joinT key a b).page = 0 ∧ (joinT key a b).isLeaf = a.isLeaf := by
  cases a <;> cases b
  · exact ⟨by simp [joinT, Tr.keys, keysOf, Tr.isLeaf], rfl, rfl⟩
  · simp [Tr.isLeaf] at h
  · simp [Tr.isLeaf] at h
  · rename_i p l q m
    exact ⟨by simp only [joinT, Tr.keys, Tr.isLeaf]; rw [← keys_first]; simp [keysOf], rfl, rfl⟩
theorem joinR {F : Nat → Prop} {n : Nat} {w : World} {key : List UInt8} {a b : Tr} {V U : List (Cl 2)} {C D : List (Cl 5)} (h : a.isLeaf = b.isLeaf) (ha : NodeRF F n w (a.keys.map kCell) V C a) (hb : NodeRF F n w (b.keys.map kCell) U D b) :
    NodeRF F n w ((joinT key a b).keys.map kCell) (V ++ U) (C ++ D) (joinT key a b) := by
  cases a <;> cases b
  · obtain ⟨_, h2, rfl⟩ := ha
    obtain ⟨_, g2, rfl⟩ := hb
    exact ⟨tells_keys _, by rw [List.map_append]; exact h2.append g2, rfl⟩
  · simp [Tr.isLeaf] at h
  · simp [Tr.isLeaf] at h
  · obtain ⟨_, rfl, h2⟩ := ha
    obtain ⟨_, rfl, g2⟩ := hb
    exact ⟨tells_keys _, rfl, by rw [List.map_append, firstK_vals]; exact h2.append g2⟩
def JoinMid (w : World) (A B : List Value) (L : List (Cl 1)) (s7 : Value) (wx : World) : Prop :=
  ∃ a c, s7 = .slice a L.length c ∧ L.length ≤ c ∧ c ≤ 9223372036854775807 ∧ wx.ownsRow (w.heap.size + 3) 9 1 (.slice a L.length c) L.length (flatC L) ∧
    Boxes wx [(w.heap.size, A), (w.heap.size + 1, B), (w.heap.size + 2, zeroN false (.slice none 0 0))] ∧ Below w.heap.size w wx
def JoinEnd (F : Nat → Prop) (w : World) (lf : Bool) (K : List (Cl 1)) (V : List (Cl 2)) (C : List (Cl 5)) (wx : World) : Prop :=
  ∃ ka kc va vc ca cc, Boxes wx [(w.heap.size + 2, [.int .i64 0, .bool lf, .slice ka K.length kc, .slice va V.length vc, .slice ca C.length cc])] ∧ Raw 1 wx ka K.length kc K ∧ Raw 2 wx va V.length vc V ∧ Raw 5 wx ca C.length cc C ∧ Below w.heap.size w wx ∧ Fa (Fr F w) ka K.length ∧ Fa (Fr F w) va V.length ∧ Fa (Fr F w) ca C.length
set_option maxRecDepth 100000 in
set_option maxHeartbeats 4000000 in
theorem tjoin_any {F : Nat → Prop} {n : Nat} {w : World} {cs ds : List Value} {a b : Tr} (key : List UInt8) (ha : NodeOn F (n + 1) w cs a) (hb : NodeOn F (n + 1) w ds b) (hl : a.isLeaf = b.isLeaf) (h0 : b.isLeaf = false → 0 < cntT b) (hca : cntT a ≤ 1000) (hcb : cntT b ≤ 1000) :
    Calls Tryz.prog 192 #[.agg cs.toArray, .agg ds.toArray, .string (strOf key)] w (NodeTo F (n + 1) w (joinT key a b)) := by
  obtain ⟨ka, kc, va, vn, vc, ca, cn, cc, V, C, rfl, h1, h2, h3, h4, _⟩ := ha.open
  obtain ⟨kb, kd, vb, vm, vd, cb, cm, cd, U, D, rfl, g1, g2, g3, g4, _⟩ := hb.open
  obtain ⟨e1, e2, e3⟩ := h1.lens
  obtain ⟨e4, e5, e6⟩ := g1.lens
  obtain ⟨e7, e8, e9⟩ := h2.lens
  obtain ⟨p1, p2, p3⟩ := h3.lens
  obtain ⟨p4, p5, p6⟩ := g2.lens
  obtain ⟨p7, p8, p9⟩ := g3.lens
  obtain ⟨_, r1, r2⟩ := h4.toR.lens
  obtain ⟨_, r3, r4⟩ := g4.toR.lens
  have hvn : vn ≤ 1000 := by rw [← e7, r1]; split <;> omega
  have hvm : vm ≤ 1000 := by rw [← p4, r3]; split <;> omega
  have hcn : cn ≤ 1000 := by rw [← p1, r2]; split <;> omega
  have hcm : cm ≤ 1000 := by rw [← p7, r4]; split <;> omega
  obtain ⟨lf, hlf⟩ : ∃ lf, b.isLeaf = lf := ⟨_, rfl⟩
  rw [hlf] at hl h0 ⊢
  rw [hl]
  have HJK := Lib.hid (join_keys (key := key) (a := a) (b := b) (by rw [hl, hlf]))
  have HLE := Lib.hid (show a.isLeaf = b.isLeaf by rw [hl, hlf])
  have HLB := Lib.hid hlf
  have HLA := Lib.hid hl
  have H1 := Lib.hid h1
  have H2 := Lib.hid h2
  have H3 := Lib.hid h3
  have H4 := Lib.hid h4
  have G1 := Lib.hid g1
  have G2 := Lib.hid g2
  have G3 := Lib.hid g3
  have G4 := Lib.hid g4
  have H0 := Lib.hid h0
  have hX0 := (((Boxes.nil w).alloc #[.int .i64 a.page, .bool lf, .slice ka (cntT a) kc, .slice va vn vc, .slice ca cn cc] 50 rfl).alloc #[.int .i64 b.page, .bool lf, .slice kb (cntT b) kd, .slice vb vm vd, .slice cb cm cd] 50 (b := w.heap.size + 1) (by simp)).alloc #[.int .i64 0, .bool false, .slice none 0 0, .slice none 0 0, .slice none 0 0] 50 (b := w.heap.size + 2) (by simp)
  have hB0 : Below w.heap.size w (((w.alloc (.cells #[.int .i64 a.page, .bool lf, .slice ka (cntT a) kc, .slice va vn vc, .slice ca cn cc] 50)).alloc (.cells #[.int .i64 b.page, .bool lf, .slice kb (cntT b) kd, .slice vb vm vd, .slice cb cm cd] 50)).alloc (.cells #[.int .i64 0, .bool false, .slice none 0 0, .slice none 0 0, .slice none 0 0] 50)) := Below.al (Below.al (Below.al (Below.refl _ _)))
  have C1 := clone_s (g1.below hB0) (by omega)
  obtain ⟨L2, hL2⟩ : ∃ L, b.keys.map kCell = L := ⟨_, rfl⟩
  have hLl : L2.length = cntT b := by rw [← hL2, List.length_map, keys_len]
  rw [hL2] at C1
  have HL2 := Lib.hid hL2
  have HLL := Lib.hid hLl
  have HX0 := Lib.hid (hX0.sub (m := [(w.heap.size, [.int .i64 a.page, .bool lf, .slice ka (cntT a) kc, .slice va vn vc, .slice ca cn cc]), (w.heap.size + 1, [.int .i64 b.page, .bool lf, .slice kb (cntT b) kd, .slice vb vm vd, .slice cb cm cd]), (w.heap.size + 2, [.int .i64 0, .bool false, .slice none 0 0, .slice none 0 0, .slice none 0 0])]) (by intro x hx; simp at hx; rcases hx with rfl | rfl | rfl <;> simp))
  have HB0 := Lib.hid hB0
  have hsz0 : w.heap.size + 3 ≤ (((w.alloc (.cells #[.int .i64 a.page, .bool lf, .slice ka (cntT a) kc, .slice va vn vc, .slice ca cn cc] 50)).alloc (.cells #[.int .i64 b.page, .bool lf, .slice kb (cntT b) kd, .slice vb vm vd, .slice cb cm cd] 50)).alloc (.cells #[.int .i64 0, .bool false, .slice none 0 0, .slice none 0 0, .slice none 0 0] 50)).heap.size := by simp
  have HS0 := Lib.hid hsz0
  clear hX0 hB0 h1 h2 h3 h4 g1 g2 g3 g4 h0 hl hlf hL2 hLl ha hb e1 e4 e7 p1 p4 p7 r1 r2 r3 r4 hsz0
  generalize cntT a = m at *
  generalize cntT b = q at *
  go_enter Tryz.func192, Tryz.ntmps192
  go_wp2_with fail
  refine C1.mono ?_
  rintro e w1 hq1
  obtain ⟨a7, c7, rfl, hc1, hc2, ho, hb1⟩ := hq1.sl
  have HO := Lib.hid (own_base ho HS0.out)
  have HX1 := Lib.hid (HX0.out.step hb1)
  have HB1 := Lib.hid (HB0.out.trans (hb1.mono HB0.out.size))
  have f1 := HX1.out.cell 1 1 rfl rfl
  have hz1 : w.heap.size + 3 ≤ w1.heap.size := Nat.le_trans HS0.out hb1.size
  clear ho hb1 HX0 HB0 HS0
  go_upto_if 13 with (fail)
  go_cut [7] (fun s7 wx => JoinMid w [.int .i64 a.page, .bool lf, .slice ka m kc, .slice va vn vc, .slice ca cn cc] [.int .i64 b.page, .bool lf, .slice kb q kd, .slice vb vm vd, .slice cb cm cd] (if lf then L2 else (b.keys.set 0 key).map kCell) s7 wx)
  case first =>
    cases lf with
    | true =>
      go_wp2_with fail
      go_meet
      exact ⟨_, _, rfl, hc1, hc2, HO.out, HX1.out, HB1.out⟩
    | false =>
      have hq0 := H0.out rfl
      obtain ⟨g, cg, eg, hgB, _, _, k1, k2, k3⟩ := own_key (ks := b.keys) (by rw [HL2.out]; exact HO.out) (by rw [HLL.out]; exact hq0) key
      cases eg
      have hlen : L2.length = ((b.keys.set 0 key).map kCell).length := by rw [← HL2.out, List.length_map, List.length_map, List.length_set]
      have HLN := Lib.hid hlen
      have hpos : 0 < L2.length := by rw [HLL.out]; exact hq0
      have K3 := Lib.hid k3
      clear hlen k3
      go_wp2_with fail
      go_meet
      refine ⟨some ⟨g, 0, none⟩, c7, by rw [if_neg (by simp), ← HLN.out], by rw [if_neg (by simp), ← HLN.out]; exact hc1, hc2, ?_, HX1.out.set ⟨g, 0, none⟩ (.string (strOf key)) (by intro x hx; simp at hx; rcases hx with rfl | rfl | rfl <;> simp <;> omega), HB1.out.setCell (show w.heap.size ≤ g by omega) _⟩
      rw [if_neg (by simp), ← HLN.out]; exact K3.out
  case rest =>
  unfold JoinMid at hcut
  clear HO HX1 HB1 f1 hz1 hc1 hc2
  obtain ⟨a7, c7, rfl, hc1, hc2, ho, hx, hb⟩ := hcut
  obtain ⟨L7, hL7⟩ : ∃ L, (if lf then L2 else (b.keys.set 0 key).map kCell) = L := ⟨_, rfl⟩
  rw [hL7] at hc1 ho ⊢
  obtain ⟨LK, hLK⟩ : ∃ L, a.keys.map kCell ++ L7 = L := ⟨_, rfl⟩
  obtain ⟨LV, hLV⟩ : ∃ L, V ++ U = L := ⟨_, rfl⟩
  obtain ⟨LC, hLC⟩ : ∃ L, C ++ D = L := ⟨_, rfl⟩
  have hL7l : L7.length = q := by
    rw [← hL7]
    split
    · exact HLL.out
    · rw [List.length_map, List.length_set, ← HLL.out, ← HL2.out, List.length_map]
  unfold zeroN at hx
  have HC1 : ∀ (W : World) (x : Nat), Below wc.heap.size wc W → BoxAt W x #[.slice ka m kc, .slice a7 L7.length c7] → Calls Tryz.prog 196 #[.slice (some ⟨x, 0, none⟩) 2 2] W (RowOut 9 1 wc W LK) := fun W x hW hX => (concat_s (raws_box2 hX (H1.out.below (below_via hb hW)) (Raw.below (Raw.of_sl ho rfl) hW)) (by have := H1.out.1; rw [List.length_map] at this; simp [lenR]; omega)).mono fun e w' h => (by simpa [hLK] using h : OwnRaw _ _ W LK e w').row hW
  have HC2 : ∀ (W : World) (x : Nat), Below wc.heap.size wc W → BoxAt W x #[.slice va vn vc, .slice vb vm vd] → Calls Tryz.prog 197 #[.slice (some ⟨x, 0, none⟩) 2 2] W (RowOut 101 2 wc W LV) := fun W x hW hX => (concat_v (raws_box2 hX (H2.out.below (below_via hb hW)) (G2.out.below (below_via hb hW))) (by have := H2.out.1; have := G2.out.1; simp [lenR]; omega)).mono fun e w' h => (by simpa [hLV] using h : OwnRaw _ _ W LV e w').row hW
  have HC3 : ∀ (W : World) (x : Nat), Below wc.heap.size wc W → BoxAt W x #[.slice ca cn cc, .slice cb cm cd] → Calls Tryz.prog 193 #[.slice (some ⟨x, 0, none⟩) 2 2] W (RowOut 50 5 wc W LC) := fun W x hW hX => (concat_n (raws_box2 hX (H3.out.below (below_via hb hW)) (G3.out.below (below_via hb hW))) (by have := H3.out.1; have := G3.out.1; simp [lenR]; omega)).mono fun e w' h => (by simpa [hLC] using h : OwnRaw _ _ W LC e w').row hW
  have HL7 := Lib.hid hL7
  have HLK := Lib.hid hLK
  have HLV := Lib.hid hLV
  have HLC := Lib.hid hLC
  have HX := Lib.hid hx
  have HXc : Hid (Boxes wc [(w.heap.size, [.int .i64 a.page, .bool lf, .slice ka m kc, .slice va vn vc, .slice ca cn cc]), (w.heap.size + 1, [.int .i64 b.page, .bool lf, .slice kb q kd, .slice vb vm vd, .slice cb cm cd])]) := Lib.hid (hx.sub (by intro x hx; simp at hx; rcases hx with rfl | rfl <;> simp))
  have HO := Lib.hid ho
  have HB := Lib.hid hb
  have hSc : Boxes wc [(w.heap.size, [.int .i64 a.page, .bool lf, .slice ka m kc, .slice va vn vc, .slice ca cn cc]), (w.heap.size + 1, [.int .i64 b.page, .bool lf, .slice kb q kd, .slice vb vm vd, .slice cb cm cd])] := HXc.out
  have hS0 : Boxes wc.drew [(w.heap.size, [.int .i64 a.page, .bool lf, .slice ka m kc, .slice va vn vc, .slice ca cn cc]), (w.heap.size + 1, [.int .i64 b.page, .bool lf, .slice kb q kd, .slice vb vm vd, .slice cb cm cd])] := HXc.out
  have hne : ∀ p ∈ ([(w.heap.size, [.int .i64 a.page, .bool lf, .slice ka m kc, .slice va vn vc, .slice ca cn cc]), (w.heap.size + 1, [.int .i64 b.page, .bool lf, .slice kb q kd, .slice vb vm vd, .slice cb cm cd])] : List (Nat × List Value)), p.1 ≠ w.heap.size + 1 + 1 := by intro x hx; simp at hx; rcases hx with rfl | rfl <;> simp <;> omega
  have k1 : ∀ W, Boxes W [(w.heap.size, [.int .i64 a.page, .bool lf, .slice ka m kc, .slice va vn vc, .slice ca cn cc]), (w.heap.size + 1, [.int .i64 b.page, .bool lf, .slice kb q kd, .slice vb vm vd, .slice cb cm cd])] → W.cell? ⟨w.heap.size, 1, none⟩ = some (.bool lf) := fun W hW => hW.cell 0 1 rfl rfl
  have k2 : ∀ W, Boxes W [(w.heap.size, [.int .i64 a.page, .bool lf, .slice ka m kc, .slice va vn vc, .slice ca cn cc]), (w.heap.size + 1, [.int .i64 b.page, .bool lf, .slice kb q kd, .slice vb vm vd, .slice cb cm cd])] → W.cell? ⟨w.heap.size, 2, none⟩ = some (.slice ka m kc) := fun W hW => hW.cell 0 2 rfl rfl
  have k3 : ∀ W, Boxes W [(w.heap.size, [.int .i64 a.page, .bool lf, .slice ka m kc, .slice va vn vc, .slice ca cn cc]), (w.heap.size + 1, [.int .i64 b.page, .bool lf, .slice kb q kd, .slice vb vm vd, .slice cb cm cd])] → W.cell? ⟨w.heap.size, 3, none⟩ = some (.slice va vn vc) := fun W hW => hW.cell 0 3 rfl rfl
  have k4 : ∀ W, Boxes W [(w.heap.size, [.int .i64 a.page, .bool lf, .slice ka m kc, .slice va vn vc, .slice ca cn cc]), (w.heap.size + 1, [.int .i64 b.page, .bool lf, .slice kb q kd, .slice vb vm vd, .slice cb cm cd])] → W.cell? ⟨w.heap.size, 4, none⟩ = some (.slice ca cn cc) := fun W hW => hW.cell 0 4 rfl rfl
  have k5 : ∀ W, Boxes W [(w.heap.size, [.int .i64 a.page, .bool lf, .slice ka m kc, .slice va vn vc, .slice ca cn cc]), (w.heap.size + 1, [.int .i64 b.page, .bool lf, .slice kb q kd, .slice vb vm vd, .slice cb cm cd])] → W.cell? ⟨w.heap.size + 1, 3, none⟩ = some (.slice vb vm vd) := fun W hW => hW.cell 1 3 rfl rfl
  have k6 : ∀ W, Boxes W [(w.heap.size, [.int .i64 a.page, .bool lf, .slice ka m kc, .slice va vn vc, .slice ca cn cc]), (w.heap.size + 1, [.int .i64 b.page, .bool lf, .slice kb q kd, .slice vb vm vd, .slice cb cm cd])] → W.cell? ⟨w.heap.size + 1, 4, none⟩ = some (.slice cb cm cd) := fun W hW => hW.cell 1 4 rfl rfl
  have hzc : w.heap.size + 3 ≤ wc.heap.size := by have := hx.lt 2 rfl; omega
  clear hL7 hLK hLV hLC hx ho hb hL7l HLL C1
  go_upto_region 4 with (fail)
  go_cut [6] (fun s6 wx => s6 = .pointer (some ⟨w.heap.size + 1 + 1, 0, none⟩) ∧ JoinEnd F w lf LK LV LC wx)
  case first =>
    go_region_held3 (fun W => Boxes W [(w.heap.size, [.int .i64 a.page, .bool lf, .slice ka m kc, .slice va vn vc, .slice ca cn cc]), (w.heap.size + 1, [.int .i64 b.page, .bool lf, .slice kb q kd, .slice vb vm vd, .slice cb cm cd])]) (first | with_reducible assumption | (repeat (with_reducible first | assumption | apply Boxes.al | apply Boxes.dr | apply Boxes.st))) (first | (go_at_call 196; (with_reducible refine (HC1 _ _ ?_ ?_).mono ?_); (focus (repeat (with_reducible first | assumption | exact Below.refl _ _ | apply Below.al | apply Below.dr))); (focus (repeat (with_reducible first | exact BoxAt.here3 | exact BoxAt.here2 | exact BoxAt.here | apply BoxAt.dr | apply BoxAt.al))); rintro e w1 hq1; obtain ⟨a1, c1, rfl, i11, i12, ho1, hb1, hB1⟩ := hq1; have hS1 : Boxes w1 [(w.heap.size, [.int .i64 a.page, .bool lf, .slice ka m kc, .slice va vn vc, .slice ca cn cc]), (w.heap.size + 1, [.int .i64 b.page, .bool lf, .slice kb q kd, .slice vb vm vd, .slice cb cm cd])] := HXc.out.step hB1; have U1 := fun b cs h => BoxAt.below (b := b) (cs := cs) h hb1) | (go_at_call 197; (with_reducible refine (HC2 _ _ ?_ ?_).mono ?_); (focus (repeat (with_reducible first | assumption | exact Below.refl _ _ | apply Below.al | apply Below.dr))); (focus (repeat (with_reducible first | exact BoxAt.here3 | exact BoxAt.here2 | exact BoxAt.here | apply BoxAt.dr | apply BoxAt.al | apply U1))); rintro e w2 hq2; obtain ⟨a2, c2, rfl, i21, i22, ho2, hb2, hB2⟩ := hq2; have hS2 : Boxes w2 [(w.heap.size, [.int .i64 a.page, .bool lf, .slice ka m kc, .slice va vn vc, .slice ca cn cc]), (w.heap.size + 1, [.int .i64 b.page, .bool lf, .slice kb q kd, .slice vb vm vd, .slice cb cm cd])] := HXc.out.step hB2; have U2 := fun b cs h => BoxAt.below (b := b) (cs := cs) h hb2; have hk12 := below_via (a := w1) (by (repeat (with_reducible first | exact Below.refl _ _ | apply Below.al | apply Below.dr))) hb2) | (go_at_call 193; (with_reducible refine (HC3 _ _ ?_ ?_).mono ?_); (focus (repeat (with_reducible first | assumption | exact Below.refl _ _ | apply Below.al | apply Below.dr))); (focus (repeat (with_reducible first | exact BoxAt.here3 | exact BoxAt.here2 | exact BoxAt.here | apply BoxAt.dr | apply BoxAt.al | apply U2 | apply U1))); rintro e w3 hq3; obtain ⟨a3, c3, rfl, i31, i32, ho3, hb3, hB3⟩ := hq3; have hS3 : Boxes w3 [(w.heap.size, [.int .i64 a.page, .bool lf, .slice ka m kc, .slice va vn vc, .slice ca cn cc]), (w.heap.size + 1, [.int .i64 b.page, .bool lf, .slice kb q kd, .slice vb vm vd, .slice cb cm cd])] := HXc.out.step hB3; have U3 := fun b cs h => BoxAt.below (b := b) (cs := cs) h hb3; have hk23 := below_via (a := w2) (by (repeat (with_reducible first | exact Below.refl _ _ | apply Below.al | apply Below.dr))) hb3; have hX3 := HX.out.step hB3; have z0 : w3.cell? ⟨w.heap.size + 1 + 1, 0, none⟩ = _ := hX3.cell 2 0 rfl rfl; have u0 : w3.frozen? ⟨w.heap.size + 1 + 1, 0, none⟩ = false := hX3.frozen 2 0 rfl; have z1 : w3.cell? ⟨w.heap.size + 1 + 1, 1, none⟩ = _ := hX3.cell 2 1 rfl rfl; have u1 : w3.frozen? ⟨w.heap.size + 1 + 1, 1, none⟩ = false := hX3.frozen 2 1 rfl; have z2 : w3.cell? ⟨w.heap.size + 1 + 1, 2, none⟩ = _ := hX3.cell 2 2 rfl rfl; have u2 : w3.frozen? ⟨w.heap.size + 1 + 1, 2, none⟩ = false := hX3.frozen 2 2 rfl; have z3 : w3.cell? ⟨w.heap.size + 1 + 1, 3, none⟩ = _ := hX3.cell 2 3 rfl rfl; have u3 : w3.frozen? ⟨w.heap.size + 1 + 1, 3, none⟩ = false := hX3.frozen 2 3 rfl; have z4 : w3.cell? ⟨w.heap.size + 1 + 1, 4, none⟩ = _ := hX3.cell 2 4 rfl rfl; have u4 : w3.frozen? ⟨w.heap.size + 1 + 1, 4, none⟩ = false := hX3.frozen 2 4 rfl))
    all_goals
      go_wp2_with fail
      go_meet
      have hg : ∀ {E : TypeId} {sz : Nat} {v : Value} {n : Nat} {xs : List Value}, w3.ownsRow wc.heap.size E sz v n xs → v.ownBlock ≠ some (w.heap.size + 2) := fun h e => by have := own_ge h _ e; omega
      have o1 := own_held (own_held ho1 hk12) hk23
      have o2 := own_held ho2 hk23
      exact ⟨rfl, a1, c1, a2, c2, a3, c3, set5_box (b := w.heap.size + 2) (hX3.sub (m := [(w.heap.size + 2, [.int .i64 0, .bool false, .slice none 0 0, .slice none 0 0, .slice none 0 0])]) (by intro x hx; simp only [List.mem_cons, List.not_mem_nil, or_false] at hx; rw [hx]; simp)) (by simp) _ _ _ _ _,
        Raw.of_sl (set5_own o1 (hg o1) _ _ _ _ _) rfl, Raw.of_sl (set5_own o2 (hg o2) _ _ _ _ _) rfl, Raw.of_sl (set5_own ho3 (hg ho3) _ _ _ _ _) rfl, set5_below (HB.out.trans (hB3.mono HB.out.size)) (by omega) _ _ _ _ _, Fa.of_own o1 (Fr.new HB.out.size), Fa.of_own o2 (Fr.new HB.out.size), Fa.of_own ho3 (Fr.new HB.out.size)⟩
  case rest =>
  unfold JoinEnd at hcut
  obtain ⟨rfl, x1, y1, x2, y2, x3, y3, hx9, r1, r2, r3, hb9, s1, s2, s3⟩ := hcut
  have HR1 := Lib.hid r1
  have HR2 := Lib.hid r2
  have HR3 := Lib.hid r3
  have HB9 := Lib.hid hb9
  have HS1 := Lib.hid s1
  have HS2 := Lib.hid s2
  have HS3 := Lib.hid s3
  have t0 := hx9.cell (b := w.heap.size + 1 + 1) 0 0 rfl rfl
  have t1 := hx9.cell (b := w.heap.size + 1 + 1) 0 1 rfl rfl
  have t2 := hx9.cell (b := w.heap.size + 1 + 1) 0 2 rfl rfl
  have t3 := hx9.cell (b := w.heap.size + 1 + 1) 0 3 rfl rfl
  have t4 := hx9.cell (b := w.heap.size + 1 + 1) 0 4 rfl rfl
  clear r1 r2 r3 hb9 hx9 s1 s2 s3 k1 k2 k3 k4 k5 k6
  go_wp2_with fail
  refine bodyPost_ret (v := .agg #[.int .i64 0, .bool lf, .slice x1 LK.length y1, .slice x2 LV.length y2, .slice x3 LC.length y3]) (by simp [results, Tryz.results192, go_sem, t0, t1, t2, t3, t4]) rfl ⟨[.int .i64 0, .bool lf, .slice x1 LK.length y1, .slice x2 LV.length y2, .slice x3 LC.length y3], rfl, ?_, HB9.out⟩
  obtain ⟨j1, j2, j3⟩ := HJK.out
  have jr := joinR (F := Fr F w) (key := key) HLE.out ((H4.out.below HB9.out).mono Fr.old) ((G4.out.below HB9.out).mono Fr.old)
  rw [HLV.out, HLC.out] at jr
  refine NodeOn.shut j2 (by rw [j3, HLA.out]) ?_ HR1.out HR2.out HR3.out HS1.out HS2.out HS3.out jr
  rw [j1, List.map_append, ← HLK.out, ← HL7.out, HLB.out]
  cases lf with
  | true => simp [HL2.out]
  | false => simp
end Go.Proofs.YtpghlmcoajaiiaaGreatDoor

/- The walks of the chapter on parting: sums, lowness, neighbours. -/
namespace Go.Proofs.YtpghlmcoajaiiaaGreatDoor
open Go.RowKit

set_option maxRecDepth 100000 in
set_option maxHeartbeats 400000 in
theorem neighbour_any (m k : Int) (w : World) (_hm : 0 ≤ m ∧ m ≤ 1000) (hk : 0 ≤ k ∧ k ≤ 1000) :
    Calls Tryz.prog 191 #[.int .i64 m, .int .i64 k] w fun e w' => e = .returned (.int .i64 (neighF m k)) ∧ w = w' := by
  by_cases h : k + 1 < m
  · go_enter Tryz.func191, Tryz.ntmps191
    go_wp2
    go_ret
    exact ⟨ret_int (by unfold neighF; split <;> omega), rfl⟩
  · go_enter Tryz.func191, Tryz.ntmps191
    go_wp2
    go_ret
    exact ⟨ret_int (by unfold neighF; split <;> omega), rfl⟩

set_option maxRecDepth 100000 in
set_option maxHeartbeats 400000 in
theorem refNeighbour_any (m k : Int) (w : World) (_hm : 0 ≤ m ∧ m ≤ 1000) (hk : 0 ≤ k ∧ k ≤ 1000) :
    Calls Tryz.prog 166 #[.int .i64 m, .int .i64 k] w fun e w' => e = .returned (.int .i64 (neighF m k)) ∧ w = w' := by
  by_cases h : k + 1 < m
  · go_enter Tryz.func166, Tryz.ntmps166
    go_wp2
    go_ret
    exact ⟨ret_int (by unfold neighF; split <;> omega), rfl⟩
  · go_enter Tryz.func166, Tryz.ntmps166
    go_wp2
    go_ret
    exact ⟨ret_int (by unfold neighF; split <;> omega), rfl⟩

set_option maxRecDepth 100000 in
set_option maxHeartbeats 400000 in
theorem sum_any (a : Option Addr) (len cap : Nat) (l : List Int) (w : World) (hr : Row .i64 w a len cap l) (hs : Small l) :
    Calls Tryz.prog 143 #[.slice a len cap] w fun e w' => e = .returned (.int .i64 (sumI l)) ∧ w = w' := by
  obtain ⟨h1, h2, h3, hnn, h4⟩ := hr
  unfold maxLen at h3
  subst h1
  go_enter Tryz.func143, Tryz.ntmps143
  go_wp2
  go_loop [3, 8] (fun s i => ∃ k : Nat, k ≤ l.length ∧ i = .int .i64 k ∧ s = .int .i64 (sumI (l.take k))) (fun _ i => l.length - (intOf i).toNat)
  case atStart => exact ⟨0, Nat.zero_le _, rfl, rfl⟩
  case round =>
    obtain ⟨k, hk, rfl, rfl⟩ := hrel
    by_cases hlt : k < l.length
    · rcases h4 with h4 | ⟨b, off, rfl, hb, hc⟩
      · omega
      have hck := hc k hlt
      have hsn := sumI_take_succ l k hlt
      have hb1 := (hs.take k).bd
      have hb2 := hs.get k
      generalize l[k]?.getD 0 = x at *
      have H := Lib.hid hsn
      clear hsn hc hs
      go_wp2
      go_round
      case rel => exact ⟨k + 1, by omega, by go_num, by rw [H.out]⟩
      case measure => simp [intOf]; omega
    · obtain rfl : k = l.length := by omega
      simp only [List.take_length]
      go_wp2
      go_ret
      exact ⟨rfl, rfl⟩

set_option maxRecDepth 100000 in
set_option maxHeartbeats 400000 in
theorem refSum_any (a : Option Addr) (len cap : Nat) (l : List Int) (w : World) (hr : Row .i64 w a len cap l) (hs : Small l) :
    Calls Tryz.prog 150 #[.slice a len cap] w fun e w' => e = .returned (.int .i64 (sumI l)) ∧ w = w' := by
  obtain ⟨h1, h2, h3, hnn, h4⟩ := hr
  unfold maxLen at h3
  subst h1
  go_enter Tryz.func150, Tryz.ntmps150
  go_wp2
  go_loop [3, 4] (fun s i => ∃ k : Nat, k ≤ l.length ∧ i = .int .i64 k ∧ s = .int .i64 (sumI (l.take k))) (fun _ i => l.length - (intOf i).toNat)
  case atStart => exact ⟨0, Nat.zero_le _, rfl, rfl⟩
  case round =>
    obtain ⟨k, hk, rfl, rfl⟩ := hrel
    by_cases hlt : k < l.length
    · rcases h4 with h4 | ⟨b, off, rfl, hb, hc⟩
      · omega
      have hck := hc k hlt
      have hsn := sumI_take_succ l k hlt
      have hb1 := (hs.take k).bd
      have hb2 := hs.get k
      generalize l[k]?.getD 0 = x at *
      have H := Lib.hid hsn
      clear hsn hc hs
      go_wp2
      go_round
      case rel => exact ⟨k + 1, by omega, by go_num, by rw [H.out]⟩
      case measure => simp [intOf]; omega
    · obtain rfl : k = l.length := by omega
      simp only [List.take_length]
      go_wp2
      go_ret
      exact ⟨rfl, rfl⟩

set_option maxRecDepth 100000 in
set_option maxHeartbeats 400000 in
theorem low_any (a : Option Addr) (len cap : Nat) (l : List Int) (w : World) (hr : Row .i64 w a len cap l) (hs : Small l) :
    Calls Tryz.prog 145 #[.slice a len cap] w fun e w' => e = .returned (.bool (decide (sumI l < 30))) ∧ w = w' := by
  go_enter Tryz.func145, Tryz.ntmps145
  go_wp2_with (go_at_call 143; refine (sum_any _ _ _ _ _ hr hs).mono ?_; rintro e w' ⟨rfl, rfl⟩)
  go_ret
  exact ⟨rfl, rfl⟩

set_option maxRecDepth 100000 in
set_option maxHeartbeats 400000 in
theorem refLow_any (a : Option Addr) (len cap : Nat) (l : List Int) (w : World) (hr : Row .i64 w a len cap l) (hs : Small l) :
    Calls Tryz.prog 151 #[.slice a len cap] w fun e w' => e = .returned (.bool (decide (sumI l < 30))) ∧ w = w' := by
  go_enter Tryz.func151, Tryz.ntmps151
  go_wp2_with (go_at_call 150; refine (refSum_any _ _ _ _ _ hr hs).mono ?_; rintro e w' ⟨rfl, rfl⟩)
  go_ret
  exact ⟨rfl, rfl⟩

end Go.Proofs.YtpghlmcoajaiiaaGreatDoor

/- The walks of the chapter on parting: the places. -/
namespace Go.Proofs.YtpghlmcoajaiiaaGreatDoor
open Go.RowKit

theorem size_ints (w : World) : (sizeOf (Tryz.prog.elem 35)).run Tryz.prog w = .ok 1 w := by kernel_rfl
theorem elem_ints : Tryz.prog.underlying 35 = some (.slice (Tryz.prog.elem 35)) := by kernel_rfl

set_option maxRecDepth 100000 in
set_option maxHeartbeats 400000 in
theorem worse_any (a : Option Addr) (len cap at' : Nat) (l : List Int) (w : World) (hr : Row .i64 w a len cap l) (hs : Small l) (hat : at' ≤ len) :
    Calls Tryz.prog 164 #[.slice a len cap, .int .i64 at'] w fun e w' => e = .returned (.int .i64 (worse l at')) ∧ w = w' := by
  have hm := hr.2.2.1
  have hc := hr.2.1
  have hd := hr.drop at' hat
  obtain ⟨a2, ha2, hsl⟩ := slice_from elem_ints size_ints a len cap at' hat
  rw [← ha2] at hd
  clear ha2
  have hg : sumI (l.drop at') < sumI (l.take at') ∨ ¬ sumI (l.drop at') < sumI (l.take at') := by omega
  have hw : Hid (worse l at' = if sumI (l.drop at') < sumI (l.take at') then sumI (l.take at') else sumI (l.drop at')) := Lib.hid (by unfold worse; omega)
  unfold maxLen at hm
  rcases hg with hg | hg <;>
  · go_enter Tryz.func164, Tryz.ntmps164
    go_wp2_with fail
    refine (refSum_any _ _ _ _ _ (hr.take at' hat) (hs.take at')).mono ?_
    rintro e w' ⟨rfl, rfl⟩
    go_wp2_with fail
    refine (refSum_any _ _ _ _ _ hd (hs.drop at')).mono ?_
    rintro e w' ⟨rfl, rfl⟩
    go_wp2
    go_ret
    exact ⟨ret_int (by rw [hw.out]; split <;> first | rfl | omega), rfl⟩
end Go.Proofs.YtpghlmcoajaiiaaGreatDoor

/- The iterator over the places at which sizes can be parted. -/
namespace Go.Proofs.YtpghlmcoajaiiaaGreatDoor
open Go.RowKit Go.Shelf
attribute [local go_sem] Oper.semAt_some

def upto {α : Type} (f : Nat → α) (k : Nat) : List α := (List.range k).map f
theorem upto_succ {α : Type} (f : Nat → α) (k : Nat) : upto f (k + 1) = upto f k ++ [f k] := by simp [upto, List.range_succ]
theorem upto_length {α : Type} (f : Nat → α) (k : Nat) : (upto f k).length = k := by simp [upto]

def place (l : List Int) (k : Nat) : Int × Int := ((k : Int) + 1, worse l (k + 1))

set_option maxRecDepth 100000 in
set_option maxHeartbeats 400000 in
theorem parts_any (a : Option Addr) (len cap : Nat) (w : World) :
    Calls Tryz.prog 189 #[.slice a len cap] w fun e w' => e = .returned (.func (.func 201) #[] #[.pointer (some ⟨w.heap.size, 0, none⟩)]) ∧ w.alloc (.cells #[.slice a len cap] 35) = w' := by
  go_enter Tryz.func189, Tryz.ntmps189
  go_wp2
  go_ret
  exact ⟨rfl, rfl⟩

set_option maxRecDepth 100000 in
set_option maxHeartbeats 1000000 in
theorem parts1_in (n : Nat) (hn : 1 ≤ n) (l' Bs n₀ : Nat) (a : Option Addr) (len cap : Nat) (l : List Int) (hs : Small l) (J Jx : List (Int × Int) → World → Prop)
    (hY : ∀ pre x W, J pre W → pre.length < l.length → YieldAt Fence.wide (n - 1) Tryz.prog l' #[.int .i64 x.1, .int .i64 x.2] W fun e W' =>
      (e = .returned (.bool true) ∧ J (pre ++ [x]) W' ∧ Below n₀ W W') ∨ (e = .returned (.bool false) ∧ Jx (pre ++ [x]) W'))
    (W : World) (hBs : W.cell? ⟨Bs, 0, none⟩ = some (.slice a len cap)) (hr : Row .i64 W a len cap l) (hB : ∀ b off, len ≠ 0 → a = some ⟨b, off, none⟩ → b < n₀) (h0 : J [] W) :
    CallsIn Fence.wide n Tryz.prog 201 #[.func (.yield l') #[] #[], .pointer (some ⟨Bs, 0, none⟩)] W fun e W' => (∃ v, e = .returned v) ∧
      ((∃ ys, ys = upto (place l) (l.length - 1) ∧ J ys W') ∨ (∃ pre, True ∧ Jx pre W')) := by
  refine callsIn_of_wp Tryz.func201 rfl trivial ?_ rfl
  simp only [Tryz.ntmps201, List.size_toArray, List.length_cons, List.length_nil, Nat.reduceAdd, Nat.reduceSub, Array.replicate_succ, Array.replicate_zero, List.push_toArray, List.append_toArray, List.nil_append, List.cons_append]
  have hr0 := hr
  obtain ⟨h1, h2, h3, hnn, h4⟩ := hr
  unfold maxLen at h3
  subst h1
  gi_wp2_with (refine ⟨trivial, ?_⟩; gi_at_call 143; refine (callsIn_wide.2 (sum_any _ _ _ _ _ hr0 hs)).mono ?_; rintro e w' ⟨rfl, rfl⟩)
  gi_loopw [3, 4, 11] (fun ah re i wr => ∃ k : Nat, k ≤ l.length ∧ i = .int .i64 k ∧ ah = .int .i64 (sumI (l.take k)) ∧ re = .int .i64 (sumI (l.drop k)) ∧ J (upto (place l) (k - 1)) wr ∧ Below n₀ W wr)
    (fun _ _ i _ => l.length - (intOf i).toNat)
  case atStart => exact ⟨0, Nat.zero_le _, rfl, rfl, rfl, h0, Below.refl _ _⟩
  case round =>
    obtain ⟨k, hk, rfl, rfl, rfl, hJs, hnx⟩ := hrel
    by_cases hlt : k < l.length
    · rcases h4 with h4 | ⟨b, off, rfl, hb, hc⟩
      · omega
      have hck : wr.cell? ⟨b, off + k, none⟩ = _ := (hnx.cell (p := ⟨b, off + k, none⟩) (hB b off (by omega) rfl)).trans (hc k hlt)
      have hsn := sumI_take_succ l k hlt
      have hsd : sumI (l.drop (k + 1)) = sumI (l.drop k) - l[k]?.getD 0 := by
        have e1 := sumI_split l k
        have e2 := sumI_split l (k + 1)
        omega
      have hb1 := (hs.take k).bd
      have hb3 := (hs.drop k).bd
      have hb2 := hs.get k
      have hpl : 0 < k → place l (k - 1) = ((k : Int), max (sumI (l.take k)) (sumI (l.drop k))) := by
        intro hk0
        obtain ⟨m, rfl⟩ : ∃ m, k = m + 1 := ⟨k - 1, by omega⟩
        simp [place, worse]
      generalize l[k]?.getD 0 = x at *
      have H1 := Lib.hid hsn
      have H2 := Lib.hid hsd
      clear hsn hsd hc hr0
      by_cases hk0 : k = 0
      · have hkn : (k : Int) ≤ 0 := by omega
        have hd : decide ((0 : Int) < (k : Int)) = false := by simp; omega
        clear hpl
        have HK := Lib.hid hk0
        clear hk0
        gi_wp2
        refine ⟨fun _ h => (by cases h), ?_⟩
        gi_wp2
        go_roundw
        case rel => exact ⟨k + 1, by omega, by go_num, by rw [H1.out], by rw [H2.out], by rw [HK.out] at hJs ⊢; exact hJs, hnx⟩
        case measure => simp [intOf]; omega
      · have hpl' := Lib.hid (hpl (by omega))
        clear hpl
        have hkp : (0 : Int) < (k : Int) := by omega
        obtain ⟨fn, tmps, assign, body, hy, hR⟩ := hY _ (place l (k - 1)) wr hJs (by rw [upto_length]; omega)
        rw [hpl'.out] at hy
        dsimp only at hy
        have HJ := Lib.hid (show upto (place l) (k + 1 - 1) = upto (place l) (k - 1) ++ [place l (k - 1)] by
          rw [← upto_succ]; congr 1; omega)
        by_cases hm : sumI (l.take k) < sumI (l.drop k)
        · rw [Int.max_eq_right (by omega)] at hy
          gi_wp2
          refine hR.mono ?_
          rintro e W3 (⟨rfl, hJ3, hk3⟩ | ⟨rfl, hJx3⟩)
          · gi_wp2
            go_roundw
            case rel => exact ⟨k + 1, by omega, by go_num, by rw [H1.out], by rw [H2.out], by rw [HJ.out]; exact hJ3, hnx.trans hk3⟩
            case measure => simp [intOf]; omega
          · gi_wp2
            refine bodyPost_ret (results_none rfl _ _ _) rfl ?_
            exact ⟨⟨_, rfl⟩, .inr ⟨_, trivial, hJx3⟩⟩
        · rw [Int.max_eq_left (by omega)] at hy
          gi_wp2
          refine hR.mono ?_
          rintro e W3 (⟨rfl, hJ3, hk3⟩ | ⟨rfl, hJx3⟩)
          · gi_wp2
            go_roundw
            case rel => exact ⟨k + 1, by omega, by go_num, by rw [H1.out], by rw [H2.out], by rw [HJ.out]; exact hJ3, hnx.trans hk3⟩
            case measure => simp [intOf]; omega
          · gi_wp2
            refine bodyPost_ret (results_none rfl _ _ _) rfl ?_
            exact ⟨⟨_, rfl⟩, .inr ⟨_, trivial, hJx3⟩⟩
    · obtain rfl : k = l.length := by omega
      gi_wp2
      go_end0
      exact ⟨⟨_, rfl⟩, .inl ⟨_, rfl, hJs⟩⟩
end Go.Proofs.YtpghlmcoajaiiaaGreatDoor

/- Where sizes are parted: the walk. -/
namespace Go.Proofs.YtpghlmcoajaiiaaGreatDoor
open Go.RowKit Go.Shelf
attribute [local go_sem] Oper.semAt_some

theorem parts_stops (n : Nat) (hn : 1 ≤ n) (Bs n₀ : Nat) (a : Option Addr) (len cap : Nat) (l : List Int) (hs : Small l) (w : World) (hBs : Bs < w.heap.size) (_hn₀ : n₀ ≤ w.heap.size)
    (hc : w.cell? ⟨Bs, 0, none⟩ = some (.slice a len cap)) (hr : Row .i64 w a len cap l) (hB : ∀ b off, len ≠ 0 → a = some ⟨b, off, none⟩ → b < n₀) :
    SeqStopsK Fence.wide n Tryz.prog 201 #[.pointer (some ⟨Bs, 0, none⟩)] (fun x : Int × Int => #[Value.int .i64 x.1, Value.int .i64 x.2]) (Below n₀)
      (fun ys => ys = upto (place l) (l.length - 1)) (fun _ => True) l.length w := fun l' J Jx W hW _ _ hY h0 => by
  have hc' := (hW.cell (p := ⟨Bs, 0, none⟩) hBs).trans hc
  have hr' : Row .i64 W a len cap l := hr.below (Nat.le_refl _) hW
  exact parts1_in n hn l' Bs n₀ a len cap l hs J Jx (fun pre x W1 h1 h2 => hY pre x W1 h1 h2) W hc' hr' hB h0

set_option maxRecDepth 100000 in
set_option maxHeartbeats 1000000 in
theorem at_any (a : Option Addr) (len cap : Nat) (l : List Int) (w : World) (hr : Row .i64 w a len cap l) (hs : Small l) :
    Calls Tryz.prog 155 #[.slice a len cap] w fun e w' => e = .returned (.int .i64 (atF l)) ∧ Below w.heap.size w w' := by
  refine (callsIn_wide (n := 8)).1 ?_
  have hbd := hs.bd
  by_cases hle : sumI l ≤ 122
  · have hat : Hid (atF l = 0) := Lib.hid (by simp [atF, hle])
    refine callsIn_of_wp Tryz.func155 rfl trivial ?_ rfl
    simp only [Tryz.ntmps155, List.size_toArray, List.length_cons, List.length_nil, Nat.reduceAdd, Nat.reduceSub, Array.replicate_succ, Array.replicate_zero, List.push_toArray, List.append_toArray, List.nil_append, List.cons_append]
    gi_wp2_with (refine ⟨trivial, ?_⟩; gi_at_call 143; refine (callsIn_wide.2 (sum_any _ _ _ _ _ hr hs)).mono ?_; rintro e w' ⟨rfl, rfl⟩)
    go_ret
    exact ⟨ret_int hat.out.symm, ((Below.refl _ w).alloc (Nat.le_refl _) _).alloc (by simp) _⟩
  · have hat : Hid (atF l = (foldBest l (upto (place l) (l.length - 1))).2) := Lib.hid (by simp only [atF, if_neg hle]; rfl)
    have hlen := Lib.hid hr.1
    have hlc := hr.2.1
    refine callsIn_of_wp_marks Tryz.func155 rfl trivial ?_ rfl
    simp only [Tryz.ntmps155, List.size_toArray, List.length_cons, List.length_nil, Nat.reduceAdd, Nat.reduceSub, Array.replicate_succ, Array.replicate_zero, List.push_toArray, List.append_toArray, List.nil_append, List.cons_append]
    gi_wp2_with (first | (refine ⟨trivial, ?_⟩; gi_at_call 143; refine (callsIn_wide.2 (sum_any _ _ _ _ _ hr hs)).mono ?_; rintro e w' ⟨rfl, rfl⟩) | (refine ⟨trivial, ?_⟩; gi_at_call 189; refine (callsIn_wide.2 (parts_any _ _ _ _)).mono ?_; rintro e w' ⟨rfl, rfl⟩))
    have b0 := Boxed.new w 3 (.int .i64 (sumI l + 1))
    have b1 := Boxed.new (w.alloc (.cells #[.int .i64 (sumI l + 1)] 3)) 3 (.int .i64 0)
    have b2 := Boxed.new ((w.alloc (.cells #[.int .i64 (sumI l + 1)] 3)).alloc (.cells #[.int .i64 0] 3)) 35 (.slice a len cap)
    rw [World.size_alloc] at b1 b2
    rw [World.size_alloc] at b2
    have hB0 : Below w.heap.size w (((w.alloc (.cells #[.int .i64 (sumI l + 1)] 3)).alloc (.cells #[.int .i64 0] 3)).alloc (.cells #[.slice a len cap] 35)) := (((Below.refl _ w).alloc (Nat.le_refl _) _).alloc (by simp) _).alloc (by simp; omega) _
    refine wpIn_rangeFunc_ownG rfl (by omega) (gf := 201) (lb := #[.pointer (some ⟨w.heap.size + 1 + 1, 0, none⟩)]) rfl trivial (enters_of Tryz.func201 (by kernel_rfl) rfl)
      (parts_stops 7 (by omega) (w.heap.size + 1 + 1) w.heap.size a len cap l hs _ (by simp) (by simp; omega) b2.cell (hr.below (Nat.le_refl _) hB0) (fun b off h0 e => by
        rcases hr.2.2.2.2 with h | ⟨b', off', h, h6, _⟩
        · omega
        · rw [h] at e; cases e; exact h6)) belowK_t (belowK_b (by simp; omega)) (Below.refl _ _) (fun _ => rfl)
      (fun pre W => (W.cell? ⟨w.heap.size, 0, none⟩ = some (.int .i64 (foldBest l pre).1) ∧ W.frozen? ⟨w.heap.size, 0, none⟩ = false ∧ W.cell? ⟨w.heap.size + 1, 0, none⟩ = some (.int .i64 (foldBest l pre).2) ∧ W.frozen? ⟨w.heap.size + 1, 0, none⟩ = false) ∧ Below w.heap.size w W)
      (fun _ _ _ => False)
      (OwnFrom.and (Own.from (fun s A B row hs hg hr => ⟨cell_kept hs.1 hg hr, (frozen_kept hs.1 hg hr).trans hs.2.1, cell_kept hs.2.2.1 hg hr, (frozen_kept hs.2.2.1 hg hr).trans hs.2.2.2⟩) _) (ownFrom_below (Nat.le_refl _) (by simp; omega)))
      (fun _ _ _ _ _ hs _ _ => hs)
      ⟨⟨((b0.alloc _).alloc _).cell, ((b0.alloc _).alloc _).frozen, (b1.alloc _).cell, (b1.alloc _).frozen⟩, hB0⟩
      (fun x => { tmps := #[.slice a len cap, undef, .int .i64 0, .pointer (some ⟨w.heap.size, 0, none⟩), .pointer (some ⟨w.heap.size + 1, 0, none⟩), .int .i64 x.1, .int .i64 x.2, .slice a len cap, .int .i64 (sumI l), .int .i64 (sumI l + 1), .int .i64 (sumI l + 1), .bool (decide (sumI l + 1 ≤ 123)), .slice a len cap, .func (.func 201) #[] #[.pointer (some ⟨w.heap.size + 1 + 1, 0, none⟩)], .int .i64 x.1, .int .i64 x.2, undef, undef, undef, undef, undef, undef], defers := [] }) ?assign ?body ?done ?stop
    case assign =>
      intro l x W K hK
      gi_wp2
      exact hK
    case body =>
      rintro l' pre x W ⟨⟨hc0, hf0, hc1, hf1⟩, hB⟩ _
      have hsn := Lib.hid (foldBest_snoc l pre x)
      have hbt : better (foldBest l pre) x = if x.2 < (foldBest l pre).1 then (x.2, x.1) else foldBest l pre := rfl
      generalize hP : foldBest l pre = p at *
      have hbt' := Lib.hid hbt
      clear hbt hP
      by_cases hlt : x.2 < p.1
      · gi_wp2
        refine ⟨((KeepsOthers.setCell _ _ _).trans (KeepsOthers.setCell _ _ _)).from _, ((Below.refl w.heap.size W).setCell (p := ⟨w.heap.size, 0, none⟩) (Nat.le_refl _) _).setCell (p := ⟨w.heap.size + 1, 0, none⟩) (by simp) _, ?_, (hB.setCell (p := ⟨w.heap.size, 0, none⟩) (Nat.le_refl _) _).setCell (p := ⟨w.heap.size + 1, 0, none⟩) (by simp) _⟩
        rw [hsn.out, hbt'.out, if_pos hlt]
        refine ⟨?_, by simpa using hf0, ?_, by simpa using hf1⟩
        · rw [World.cell?_setCell_far _ _ _ _ (by simp)]
          exact World.cell?_setCell_same' _ _ _ (by rw [hc0]; rfl)
        · exact World.cell?_setCell_same' _ _ _ (by rw [World.cell?_setCell_far _ _ _ _ (by simp), hc1]; rfl)
      · gi_wp2
        refine ⟨KeepsFrom.refl _ _, Below.refl _ _, ?_, hB⟩
        rw [hsn.out, hbt'.out, if_neg (by omega)]
        exact ⟨hc0, hf0, hc1, hf1⟩
    case done =>
      rintro D ys W hD rfl ⟨⟨_, _, hc1, hf1⟩, hB⟩ hK
      gi_wp2
      refine ⟨by simp, .inl ⟨_, _, rfl, run_takeDeferred hK, ?_⟩⟩
      refine ⟨.int .i64 (foldBest l (upto (place l) (l.length - 1))).2, ?_, by rw [hat.out], hB.trans (belowK_b (w := w) (Nat.le_refl _) W D _ _ (by simp at hD; omega) hK rfl rfl)⟩
      exact (results_tmp rfl _ _ _).trans rfl
    case stop =>
      rintro D c pre W _ _ h _
      exact h.elim
end Go.Proofs.YtpghlmcoajaiiaaGreatDoor
