/- Texts that other texts of this claim lean on, one behind the other. -/
import Derived.Test.YtpghlmcoajaiiaaGreatDoorM12
import Derived.Test.YtpghlmcoajaiiaaGreatDoorM5
import Derived.Test.YtpghlmcoajaiiaaGreatDoorM7
import Derived.Test.YtpghlmcoajaiiaaGreatDoorM1
import Derived.RangeFuncNested
import Derived.RangeFuncBound
import Derived.RangeFuncCalls
import Derived.RangeFuncLeaves
import Derived.RangeFuncBox
import Derived.Shelf.Abstract
import Derived.Shelf.RegionOpen
import Derived.WalkKit
import Derived.OwnWalkIn
import Derived.TacticsInMore
import Derived.LoopNIn
import Derived.LoopIn
import Derived.Deep.RegionHeld3
import Derived.Outline
import Derived.Test.YtpghlmcoajaiiaaGreatDoorM6
/- A cursor is sought (printed by gen_treKe.py). -/
namespace Go.Proofs.YtpghlmcoajaiiaaGreatDoor
open Go.RowKit

/-- A cursor that will tell some entries. -/
def Cur (N B b : Nat) (F : Nat → Prop) (w : World) (v : Value) (R : List (List UInt8 × Tv)) : Prop := ∃ r, CurAt 301 F N B b w v r ∧ Settled N r ∧ restC 1 r = R
theorem CurAt.agree {E : TypeId} {F : Nat → Prop} {N B b : Nat} {w w' : World} {v : Value} {r : List (Tr × Nat)} (h : CurAt E F N B b w v r) (ha : AgreeF (fun x => F x ∨ x = b ∨ v.ownBlock = some x) w w') : CurAt E F N B b w' v r := by
  obtain ⟨h1, h2, h3, L, h4, h5⟩ := h
  refine ⟨fun p hp => ?_, h2, h3, L, own_agree h4 ha (fun g hg => .inr (.inr hg)), h5.mono (fun _ _ _ h => h.agree ⟨ha.1, fun x hx hlt => ha.2 x (.inl hx) hlt⟩)⟩
  obtain ⟨t, ht⟩ := h1 p hp
  simp at hp
  subst hp
  exact ⟨t, by rw [ha.2 b (.inr (.inl rfl)) (Array.getElem?_eq_some_iff.1 ht).1]; exact ht⟩
theorem CurAt.ge {E : TypeId} {F : Nat → Prop} {N B b : Nat} {w : World} {v : Value} {r : List (Tr × Nat)} (h : CurAt E F N B b w v r) : ∀ g, v.ownBlock = some g → B ≤ g := by
  obtain ⟨_, _, _, L, h4, _⟩ := h
  exact own_ge h4
theorem CurAt.nil {E : TypeId} {F : Nat → Prop} {N B b : Nat} {w : World} (h : Boxes w [(b, [.slice none 0 0])]) (hb : b < B) (hF : ∀ x, F x → x < b) : CurAt E F N B b w (.slice none 0 0) [] :=
  ⟨h, hb, hF, [], World.ownsRow_nil _ _ _ _, rfl, fun i x y hx _ => by simp at hx⟩
/-- On the way down. -/
def SeekMid (F : Nat → Prop) (N : Nat) (w : World) (key : List UInt8) (Z : List (Tr × Nat)) (g : Nat) (wr : World) : Prop :=
  ∃ p lf ka m kc va vn vc ca cn cc t r v, NodeOn F g w [.int .i64 p, .bool lf, .slice ka m kc, .slice va vn vc, .slice ca cn cc] t ∧ (∃ lo hi, Shape g lo hi t ∧ sumT t ≤ 200) ∧ seekC g t key r = Z ∧ ValidB (g + 1) r ∧ g + r.length = N ∧
    Boxes wr [(w.heap.size, [.int .i64 p, .bool lf, .slice ka m kc, .slice va vn vc, .slice ca cn cc])] ∧ CurAt 301 F N (w.heap.size + 2) (w.heap.size + 1) wr v r ∧ Below w.heap.size w wr
/-- What seeking leaves. -/
def SeekTo (F : Nat → Prop) (N : Nat) (w : World) (R : List (List UInt8 × Tv)) (e : Ending) (w' : World) : Prop :=
  ∃ v, e = .returned (.pointer (some ⟨w.heap.size + 1, 0, none⟩)) ∧ Cur N (w.heap.size + 2) (w.heap.size + 1) F w' v R ∧ Below w.heap.size w w'
/-- Where a step was pushed. -/
def Pushed (F : Nat → Prop) (N : Nat) (w wz : World) (words : List Value) (v' : Value) (r : List (Tr × Nat)) : Prop :=
  Boxes wz [(w.heap.size, words)] ∧ CurAt 301 F N (w.heap.size + 2) (w.heap.size + 1) wz v' r ∧ Below w.heap.size w wz
theorem push_at {F : Nat → Prop} {N : Nat} {w w1 : World} {v : Value} {r : List (Tr × Nat)} {words : List Value} (hx : Boxes w1 [(w.heap.size, words)]) (hc : CurAt 301 F N (w.heap.size + 2) (w.heap.size + 1) w1 v r) (hb : Below w.heap.size w w1) (hs2 : w.heap.size + 2 ≤ w1.heap.size) (hl : r.length ≤ 1000) {cs : List Value} {s : Tr × Nat} (hs : StepOn F N w1 cs s) :
    ∃ a' c' w', (Builtin.append_ #[297, 297] 297 #[v, .slice (some ⟨w1.heap.size, 0, none⟩) 1 1]).run Tryz.prog (w1.alloc (.cells cs.toArray 301)) = .ok (.slice a' (r.length + 1) c') w' ∧
      AgreeF (fun x => v.ownBlock ≠ some x ∧ x ≠ w.heap.size + 1) w1 w' ∧ AgreeF (fun x => v.ownBlock ≠ some x ∧ x ≠ w.heap.size + 1) w1 (w'.setCell ⟨w.heap.size + 1, 0, none⟩ (.slice a' (r.length + 1) c')) ∧
      Boxes w' [(w.heap.size + 1, [v])] ∧ Pushed F N w (w'.setCell ⟨w.heap.size + 1, 0, none⟩ (.slice a' (r.length + 1) c')) words (.slice a' (r.length + 1) c') (s :: r) := by
  obtain ⟨a', c', w', hrun, hx', hcP, hstP, hgP⟩ := hc.push (P := Tryz.prog) (t := 297) Tryz.underlying297 info_step hs2 (by omega) hs
  have hge := hc.ge
  have hA : AgreeF (fun x => v.ownBlock ≠ some x ∧ x ≠ w.heap.size + 1) w1 w' := ⟨hgP.size, fun x hx hlt => hgP.block x hlt (fun e => hx.1 e.symm)⟩
  refine ⟨a', c', w', hrun, hA, AgreeF.set hA (.inl fun h => h.2 rfl), hx', ⟨?_, hcP, ?_⟩⟩
  · have := hx.grown hgP (by intro q hq e; simp at hq; subst hq; have := hge _ e; simp at this; omega)
    exact this.set _ _ (by intro q hq; simp at hq; subst hq; simp)
  · exact hb.trans (hstP.toBelow (by omega) (fun g hg => by have := hge g hg; omega) hb.size)
theorem CurAt.set5 {E : TypeId} {F : Nat → Prop} {N B b c : Nat} {w : World} {v : Value} {r : List (Tr × Nat)} (h : CurAt E F N B b w v r) (hcb : c < b) (hF : ¬ F c) (y0 y1 y2 y3 y4 : Value) : CurAt E F N B b (set5 w c y0 y1 y2 y3 y4) v r := by
  have hB := h.2.1
  have hge := h.ge
  refine h.agree ?_
  have hn : ¬ (F c ∨ c = b ∨ v.ownBlock = some c) := by
    rintro (h | h | h)
    · exact hF h
    · omega
    · have := hge _ h; omega
  exact AgreeF.set (AgreeF.set (AgreeF.set (AgreeF.set (AgreeF.set (AgreeF.refl w) (.inl hn)) (.inl hn)) (.inl hn)) (.inl hn)) (.inl hn)
set_option maxRecDepth 100000 in
set_option maxHeartbeats 3000000 in
theorem seek_any {F : Nat → Prop} {N : Nat} {w : World} {cs : List Value} {t : Tr} {lo hi : List UInt8} (hF : ∀ x, F x → x < w.heap.size) (h : NodeOn F N w cs t) (hs : Shape N lo hi t) (hsum : sumT t ≤ 200) (hN : N ≤ 200) (key : List UInt8) (hlo : ¬ key < lo) (hhi : ltH hi key) :
    Calls Tryz.prog 121 #[.agg cs.toArray, .string (strOf key)] w (SeekTo F N w ((entsT N t).drop (posK key (keysOf (entsT N t))))) := by
  have hrest := seek_rest (key := key) [] hs hlo hhi
  rw [show belowC (N + 1) [] = [] from rfl, List.append_nil] at hrest
  obtain ⟨R, hR⟩ : ∃ R, (entsT N t).drop (posK key (keysOf (entsT N t))) = R := ⟨_, rfl⟩
  rw [hR] at hrest ⊢
  obtain ⟨Z, hZ⟩ : ∃ Z, seekC N t key [] = Z := ⟨_, rfl⟩
  rw [hZ] at hrest
  obtain ⟨ka, kc, va, vn, vc, ca, cn, cc, _, _, rfl, _⟩ := NodeOn.open_pos h
  have hx0 : Boxes ((w.alloc (.cells #[.int .i64 t.page, .bool t.isLeaf, .slice ka (cntT t) kc, .slice va vn vc, .slice ca cn cc] 50)).alloc (.cells #[.slice none 0 0] 299)) [(w.heap.size + 1, [.slice none 0 0]), (w.heap.size, [.int .i64 t.page, .bool t.isLeaf, .slice ka (cntT t) kc, .slice va vn vc, .slice ca cn cc])] := ((Boxes.nil w).alloc #[.int .i64 t.page, .bool t.isLeaf, .slice ka (cntT t) kc, .slice va vn vc, .slice ca cn cc] 50 (b := w.heap.size) rfl).alloc #[.slice none 0 0] 299 (b := w.heap.size + 1) (by simp)
  have hmid : SeekMid F N w key Z N ((w.alloc (.cells #[.int .i64 t.page, .bool t.isLeaf, .slice ka (cntT t) kc, .slice va vn vc, .slice ca cn cc] 50)).alloc (.cells #[.slice none 0 0] 299)) :=
    ⟨_, _, _, _, _, _, _, _, _, _, _, t, [], _, h, ⟨lo, hi, hs, hsum⟩, hZ, trivial, rfl, hx0.sub (by simp), CurAt.nil (hx0.sub (by simp)) (by omega) (fun x hx => by have := hF x hx; omega), Below.al (Below.al (Below.refl _ _))⟩
  have HMID := Lib.hid hmid
  have HREST := Lib.hid hrest
  clear hmid h hZ hR hs hsum hx0 hrest hlo hhi
  go_enter Tryz.func121, Tryz.ntmps121
  go_wp2_with fail
  go_loopg [6] N (fun g _ wr => SeekMid F N w key Z g wr)
  case atStart => exact HMID.out
  case round =>
    clear HMID
    obtain ⟨p, lf, ka, m, kc, va, vn, vc, ca, cn, cc, t, r, v, hn, ⟨lo, hi, hsh, hsum⟩, hZ, hvb, hgl, hx, hc, hb⟩ := hrel
    cases gk with
    | zero => exact hn.elim
    | succ g =>
    have hxl := hx.lt 0 rfl
    have hcnt := shape_cnt hsh hsum
    obtain ⟨a0, c0, rfl, _, _, _⟩ := hc.sl
    have hge := hc.ge
    have hcl := hc.1.lt 0 rfl
    cases t with
    | node p0 l =>
      have hl50 : l.length ≤ 50 := hcnt
      have hpos : 0 < l.length := List.length_pos_iff.2 (kids_ne (shape_kids hsh).1)
      obtain ⟨k, hk⟩ : ∃ k, wayF (keysOf l) key = k := ⟨_, rfl⟩
      have hkl : k < l.length := by
        rw [← hk]
        have := wayF_lt (ks := keysOf l) key (by simpa [keysOf] using hpos)
        simpa [keysOf] using this
      have hZk : seekC g (kidAt l k) key ((.node p0 l, k) :: r) = Z := by rw [← hZ, ← hk]; rfl
      have CW := fun W (hW : Below w.heap.size w W) => tway_any (hn.toIn.below hW) key (show cntT (.node p0 l) ≤ 1000 by show l.length ≤ 1000; omega)
      have hkk : (Tr.node p0 l).keys = keysOf l := rfl
      rw [hkk, hk] at CW
      clear hkk
      obtain ⟨ka', kc', va', vn', vc', ca', cn', cc', V, C, e, h1, h2, h3, h4, _⟩ := hn.open
      cases e
      dsimp only [Tr.page, Tr.isLeaf, cntT, Tr.keys] at hn hx CW h1 h2 h3
      have hcn : cn = l.length := by rw [← h3.1, h4.toR.lens.2.2]; rfl
      subst hcn
      obtain ⟨bc, oc, y, yc, eca, hbc, hy, _, hyc, hcell⟩ := TabR.at h3 hkl
      have hyc : yc = y.1 := hyc
      subst hyc eca
      have hkid := kid_tells h4.2.2 hy
      cases g with
      | zero => exact hkid.elim
      | succ g =>
      obtain ⟨q1, q2, q3, q4, q5, q6, q7, q8, _, _, ey, _⟩ := NodeOn.open_pos hkid
      rw [ey] at hcell hkid
      have n0 := hx.cell 0 0 rfl rfl
      have n1 := hx.cell 0 1 rfl rfl
      have n2 := hx.cell 0 2 rfl rfl
      have n3 := hx.cell 0 3 rfl rfl
      have n4 := hx.cell 0 4 rfl rfl
      have d0 : decide ((0 : Int) < (l.length : Int)) = true := by simp; omega
      have d0' : decide (0 < l.length) = true := by simp; omega
      have CW : ∀ W, Below w.heap.size w W → Calls Tryz.prog 157 #[.agg #[.int .i64 p0, .bool false, .slice ka l.length kc, .slice va vn vc, .slice (some ⟨bc, oc, none⟩) l.length cc], .string (strOf key)] W fun e w' => e = .returned (.int .i64 (k : Int)) ∧ Below W.heap.size W w' := CW
      have hcc2 := h3.lens.2.2
      obtain ⟨lo', hi', hsk, hsk2⟩ := kid_good hsh hkl
      have HCELL := Lib.hid hcell
      have HKID := Lib.hid hkid
      have HX := Lib.hid hx
      have HC := Lib.hid hc
      have HB := Lib.hid hb
      have HN := Lib.hid hn
      have HZ := Lib.hid hZk
      have HSK : Hid (∃ lo hi, Shape (g + 1) lo hi (kidAt l k) ∧ sumT (kidAt l k) ≤ 200) := Lib.hid ⟨lo', hi', hsk, hsk2⟩
      have HVB : Hid (ValidB (g + 1 + 1) ((.node p0 l, k) :: r)) := Lib.hid ⟨⟨lo, hi, hsh, hsum⟩, hkl, hvb⟩
      have HGL := Lib.hid hgl
      have HCL := Lib.hid hcl
      clear h1 h2 h3 h4 hcell hy ey hZ hZk hn hkid hk hx hc hb hsh hsum hvb hsk hsk2 hgl hcnt hcl
      go_wp2_with fail
      refine (CW _ HB.out).mono ?_
      rintro e w1 ⟨rfl, hb1⟩
      have hb1' := HB.out.trans (hb1.mono HB.out.size)
      have hx1 := HX.out.step hb1
      have hc1 := HC.out.below hb1
      have hlr : r.length ≤ 1000 := by have := HGL.out; omega
      have hs2 : w.heap.size + 2 ≤ w1.heap.size := by have := HCL.out; have := hb1.size; omega
      have hNg : g + 1 + 1 ≤ N := by have := HGL.out; omega
      obtain ⟨a', c', w', hrun, hA9, hA12, hx9, hxP, hcP, hbP⟩ := push_at hx1.drew (hc1.below (Below.dr (Below.refl _ _))) (Below.dr hb1') (by simpa using hs2) hlr (cs := [.int .i64 p0, .bool false, .slice ka l.length kc, .slice va vn vc, .slice (some ⟨bc, oc, none⟩) l.length cc, .int .i64 (k : Int)]) (s := (.node p0 l, k)) ⟨[.int .i64 p0, .bool false, .slice ka l.length kc, .slice va vn vc, .slice (some ⟨bc, oc, none⟩) l.length cc], rfl, (HN.out.more hNg).below (Below.dr hb1')⟩
      obtain ⟨n, hnl⟩ : ∃ n, r.length = n := ⟨_, rfl⟩
      rw [hnl] at hrun hA9 hA12 hxP hcP hbP hx9
      have HP : Hid (Pushed F N w (w'.setCell ⟨w.heap.size + 1, 0, none⟩ (.slice a' (n + 1) c')) [.int .i64 p0, .bool false, .slice ka l.length kc, .slice va vn vc, .slice (some ⟨bc, oc, none⟩) l.length cc] (.slice a' (n + 1) c') ((.node p0 l, k) :: r)) := Lib.hid ⟨hxP, hcP, hbP⟩
      have hcc1 := hc1.1.cell 0 0 rfl rfl
      rw [hnl] at hcc1
      have hlb : w.heap.size + 1 < w1.heap.size := by omega
      have hob : (Value.slice a0 n c0).ownBlock ≠ some w.heap.size := fun e => by have := hge w.heap.size (by rw [hnl]; exact e); omega
      have hla : w.heap.size < w1.heap.size := by omega
      have hne : w.heap.size ≠ w.heap.size + 1 := by omega
      have e0 : ∀ W, AgreeF (fun x => (Value.slice a0 n c0).ownBlock ≠ some x ∧ x ≠ w.heap.size + 1) w1 W → W.cell? ⟨w.heap.size, 0, none⟩ = _ := fun W hW => (hW.cell ⟨hob, hne⟩ hla).trans (hx1.cell 0 0 rfl rfl)
      have e1 : ∀ W, AgreeF (fun x => (Value.slice a0 n c0).ownBlock ≠ some x ∧ x ≠ w.heap.size + 1) w1 W → W.cell? ⟨w.heap.size, 1, none⟩ = _ := fun W hW => (hW.cell ⟨hob, hne⟩ hla).trans (hx1.cell 0 1 rfl rfl)
      have e2 : ∀ W, AgreeF (fun x => (Value.slice a0 n c0).ownBlock ≠ some x ∧ x ≠ w.heap.size + 1) w1 W → W.cell? ⟨w.heap.size, 2, none⟩ = _ := fun W hW => (hW.cell ⟨hob, hne⟩ hla).trans (hx1.cell 0 2 rfl rfl)
      have e3 : ∀ W, AgreeF (fun x => (Value.slice a0 n c0).ownBlock ≠ some x ∧ x ≠ w.heap.size + 1) w1 W → W.cell? ⟨w.heap.size, 3, none⟩ = _ := fun W hW => (hW.cell ⟨hob, hne⟩ hla).trans (hx1.cell 0 3 rfl rfl)
      have e4 : ∀ W, AgreeF (fun x => (Value.slice a0 n c0).ownBlock ≠ some x ∧ x ≠ w.heap.size + 1) w1 W → W.cell? ⟨w.heap.size, 4, none⟩ = _ := fun W hW => (hW.cell ⟨hob, hne⟩ hla).trans (hx1.cell 0 4 rfl rfl)
      have hA00 : AgreeF (fun x => (Value.slice a0 n c0).ownBlock ≠ some x ∧ x ≠ w.heap.size + 1) w1 w1.drew := AgreeF.refl _
      have hA9 : AgreeF (fun x => (Value.slice a0 n c0).ownBlock ≠ some x ∧ x ≠ w.heap.size + 1) w1 w' := hA9
      have hA12 : AgreeF (fun x => (Value.slice a0 n c0).ownBlock ≠ some x ∧ x ≠ w.heap.size + 1) w1 (w'.setCell ⟨w.heap.size + 1, 0, none⟩ (.slice a' (n + 1) c')) := hA12
      have f8 := hx9.cell 0 0 rfl rfl
      have f9 := hx9.frozen 0 0 rfl
      have HNL := Lib.hid hnl
      clear n0 n1 n2 n3 n4 HX HC HB HN hx1 hc1 hb1 hb1' hxP hcP hbP hx9 CW hge hnl HCL
      have HE : Hid (∀ wz, Pushed F N w wz [.int .i64 p0, .bool false, .slice ka l.length kc, .slice va vn vc, .slice (some ⟨bc, oc, none⟩) l.length cc] (.slice a' (n + 1) c') ((.node p0 l, k) :: r) → SeekMid F N w key Z (g + 1) (set5 wz w.heap.size (.int .i64 (kidAt l k).page) (.bool (kidAt l k).isLeaf) (.slice q1 (cntT (kidAt l k)) q2) (.slice q3 q4 q5) (.slice q6 q7 q8))) := Lib.hid (by
        rintro wz ⟨g1, g2, g3⟩
        exact ⟨_, _, _, _, _, _, _, _, _, _, _, kidAt l k, (.node p0 l, k) :: r, _, HKID.out, HSK.out, HZ.out, HVB.out, by have := HGL.out; simp at this ⊢; omega, set5_box g1 (by simp) _ _ _ _ _, g2.set5 (by omega) (fun h => by have := hF _ h; omega) _ _ _ _ _, set5_below g3 (Nat.le_refl _) _ _ _ _ _⟩)
      clear HKID HSK HZ HVB
      go_upto_region 4 with (fail)
      refine wp_region_noPanic ?_
      refine wp_region_held_drew (S := (fun W => AgreeF (fun x => (Value.slice a0 n c0).ownBlock ≠ some x ∧ x ≠ w.heap.size + 1) w1 W)) (by kernel_rfl) (by (repeat (with_reducible first | assumption | exact AgreeF.refl _ | apply AgreeF.al | apply AgreeF.dr))) (fun hHeld => ?_)
      refine wpAnyH_take (i := 0) (v := ?_) rfl (by kernel_rfl) (by kernel_rfl) (by kernel_rfl) (fun _ _ _ h => h) (Or.inl ⟨by rfl, ?_⟩) (by assumption) ?_
      rotate_left
      · (intro W hW; (try dsimp only at hW); go_simp <;> (with_reducible rfl))
      try simp only [Act.put]
      try simp only [List.setIfInBounds_toArray, List.set_cons_zero, List.set_cons_succ]
      refine wpAnyH_take (i := 1) (v := ?_) rfl (by kernel_rfl) (by kernel_rfl) (by kernel_rfl) (fun _ _ _ h => h) (Or.inl ⟨by rfl, ?_⟩) (by assumption) ?_
      rotate_left
      · (intro W hW; (try dsimp only at hW); go_simp <;> (with_reducible rfl))
      try simp only [Act.put]
      try simp only [List.setIfInBounds_toArray, List.set_cons_zero, List.set_cons_succ]
      refine wpAnyH_take (i := 2) (v := ?_) rfl (by kernel_rfl) (by kernel_rfl) (by kernel_rfl) (fun _ _ _ h => h) (Or.inl ⟨by rfl, ?_⟩) (by assumption) ?_
      rotate_left
      · (intro W hW; (try dsimp only at hW); go_simp <;> (with_reducible rfl))
      try simp only [Act.put]
      try simp only [List.setIfInBounds_toArray, List.set_cons_zero, List.set_cons_succ]
      refine wpAnyH_take (i := 3) (v := ?_) rfl (by kernel_rfl) (by kernel_rfl) (by kernel_rfl) (fun _ _ _ h => h) (Or.inl ⟨by rfl, ?_⟩) (by assumption) ?_
      rotate_left
      · (intro W hW; (try dsimp only at hW); go_simp <;> (with_reducible rfl))
      try simp only [Act.put]
      try simp only [List.setIfInBounds_toArray, List.set_cons_zero, List.set_cons_succ]
      refine wpAnyH_take (i := 5) (v := ?_) rfl (by kernel_rfl) (by kernel_rfl) (by kernel_rfl) (fun _ _ _ h => h) (Or.inl ⟨by rfl, ?_⟩) (by assumption) ?_
      rotate_left
      · (intro W hW; (try dsimp only at hW); go_simp <;> (with_reducible rfl))
      try simp only [Act.put]
      try simp only [List.setIfInBounds_toArray, List.set_cons_zero, List.set_cons_succ]
      refine wpAnyH_take (i := 6) (v := ?_) rfl (by kernel_rfl) (by kernel_rfl) (by kernel_rfl) (fun _ _ _ h => h) (Or.inl ⟨by rfl, ?_⟩) (by assumption) ?_
      rotate_left
      · (intro W hW; (try dsimp only at hW); go_simp <;> (with_reducible rfl))
      try simp only [Act.put]
      try simp only [List.setIfInBounds_toArray, List.set_cons_zero, List.set_cons_succ]
      refine wpAnyH_take (i := 7) (v := ?_) rfl (by kernel_rfl) (by kernel_rfl) (by kernel_rfl) (fun _ _ _ h => h) (Or.inl ⟨by rfl, ?_⟩) (by assumption) ?_
      rotate_left
      · (intro W hW; (try dsimp only at hW); go_simp <;> (with_reducible rfl))
      try simp only [Act.put]
      try simp only [List.setIfInBounds_toArray, List.set_cons_zero, List.set_cons_succ]
      refine wpAnyH_ready (rs := [4, 8]) (by kernel_rfl) (by simp) (AllReadyH.cons rfl (fun K hK => ?_) (AllReadyH.cons rfl (fun K hK => ?_) AllReadyH.nil))
      · (rw [if_pos (by rfl)]; go_wp2_with (fail))
        refine hK.out _ _ (by (repeat (with_reducible first | assumption | exact AgreeF.refl _ | apply AgreeF.al | apply AgreeF.dr))) (fun hHeld => ?_)
        clear hK K
        try simp only [Act.put]
        try simp only [List.setIfInBounds_toArray, List.set_cons_zero, List.set_cons_succ]
        refine wpAnyH_ready (rs := [8]) (by kernel_rfl) (by simp) (AllReadyH.cons rfl (fun K hK => ?_) AllReadyH.nil)
        (rw [if_pos (by rfl)]; go_wp2_with (fail))
        refine hK.out _ _ (by (repeat (with_reducible first | assumption | exact AgreeF.refl _ | apply AgreeF.al | apply AgreeF.dr))) (fun hHeld => ?_)
        clear hK K
        try simp only [Act.put]
        try simp only [List.setIfInBounds_toArray, List.set_cons_zero, List.set_cons_succ]
        refine wpAnyH_ready (rs := [9]) (by kernel_rfl) (by simp) (AllReadyH.cons rfl (fun K hK => ?_) AllReadyH.nil)
        (refine step_append_run rfl _ _ _ _ rfl rfl rfl hrun ?_)
        refine hK.out _ _ (by (repeat (with_reducible first | assumption | exact AgreeF.refl _ | apply AgreeF.al | apply AgreeF.dr))) (fun hHeld => ?_)
        clear hK K
        try simp only [Act.put]
        try simp only [List.setIfInBounds_toArray, List.set_cons_zero, List.set_cons_succ]
        refine wpAnyH_take (i := 10) (v := ?_) rfl (by kernel_rfl) (by kernel_rfl) (by kernel_rfl) (fun _ _ _ h => h) (Or.inl ⟨by rfl, ?_⟩) (by assumption) ?_
        rotate_left
        · (intro W hW; (try dsimp only at hW); go_simp <;> (with_reducible rfl))
        try simp only [Act.put]
        try simp only [List.setIfInBounds_toArray, List.set_cons_zero, List.set_cons_succ]
        refine wpAnyH_take (i := 11) (v := ?_) rfl (by kernel_rfl) (by kernel_rfl) (by kernel_rfl) (fun _ _ _ h => h) (Or.inl ⟨by rfl, ?_⟩) (by assumption) ?_
        rotate_left
        · (intro W hW; (try dsimp only at hW); go_simp <;> (with_reducible rfl))
        try simp only [Act.put]
        try simp only [List.setIfInBounds_toArray, List.set_cons_zero, List.set_cons_succ]
        refine wpAnyH_ready (rs := [12]) (by kernel_rfl) (by simp) (AllReadyH.cons rfl (fun K hK => ?_) AllReadyH.nil)
        (rw [if_pos (by rfl)]; go_wp2_with (fail))
        refine hK.out _ _ (by (repeat (with_reducible first | assumption | exact AgreeF.refl _ | apply AgreeF.al | apply AgreeF.dr))) (fun hHeld => ?_)
        clear hK K
        try simp only [Act.put]
        try simp only [List.setIfInBounds_toArray, List.set_cons_zero, List.set_cons_succ]
        refine wpAnyH_done (by kernel_rfl) ?_ _
        refine NoPanic.normal ?_
        obtain ⟨wz, hwz⟩ : ∃ x, x = (w'.setCell ⟨w.heap.size + 1, 0, none⟩ (.slice a' (n + 1) c')) := ⟨_, rfl⟩
        rw [← hwz] at HP ⊢
        clear hwz f8 f9 hA00 hA9 hA12 hHeld e0 e1 e2 e3 e4 hrun hcc1
        have hxz := HP.out.1
        have n0 := hxz.cell 0 0 rfl rfl
        have n1 := hxz.cell 0 1 rfl rfl
        have n2 := hxz.cell 0 2 rfl rfl
        have n3 := hxz.cell 0 3 rfl rfl
        have n4 := hxz.cell 0 4 rfl rfl
        have u0 := hxz.frozen 0 0 rfl
        have u1 := hxz.frozen 0 1 rfl
        have u2 := hxz.frozen 0 2 rfl
        have u3 := hxz.frozen 0 3 rfl
        have u4 := hxz.frozen 0 4 rfl
        have hbz := HP.out.2.2
        have f0 := (hbz.cell (p := ⟨bc, oc + k * 5, none⟩) hbc).trans (HCELL.out 0 _ rfl)
        have f1 := (hbz.cell (p := ⟨bc, oc + k * 5 + 1, none⟩) hbc).trans (HCELL.out 1 _ rfl)
        have f2 := (hbz.cell (p := ⟨bc, oc + k * 5 + 2, none⟩) hbc).trans (HCELL.out 2 _ rfl)
        have f3 := (hbz.cell (p := ⟨bc, oc + k * 5 + 3, none⟩) hbc).trans (HCELL.out 3 _ rfl)
        have f4 := (hbz.cell (p := ⟨bc, oc + k * 5 + 4, none⟩) hbc).trans (HCELL.out 4 _ rfl)
        have HM := Lib.hid (HE.out wz HP.out)
        clear hxz hbz
        go_wp2_with fail
        go_roundg (g + 1)
        case measure => omega
        case rel => exact HM.out
      · (rw [if_pos (by rfl)]; go_wp2_with (fail))
        refine hK.out _ _ (by (repeat (with_reducible first | assumption | exact AgreeF.refl _ | apply AgreeF.al | apply AgreeF.dr))) (fun hHeld => ?_)
        clear hK K
        try simp only [Act.put]
        try simp only [List.setIfInBounds_toArray, List.set_cons_zero, List.set_cons_succ]
        refine wpAnyH_ready (rs := [4]) (by kernel_rfl) (by simp) (AllReadyH.cons rfl (fun K hK => ?_) AllReadyH.nil)
        (rw [if_pos (by rfl)]; go_wp2_with (fail))
        refine hK.out _ _ (by (repeat (with_reducible first | assumption | exact AgreeF.refl _ | apply AgreeF.al | apply AgreeF.dr))) (fun hHeld => ?_)
        clear hK K
        try simp only [Act.put]
        try simp only [List.setIfInBounds_toArray, List.set_cons_zero, List.set_cons_succ]
        refine wpAnyH_ready (rs := [9]) (by kernel_rfl) (by simp) (AllReadyH.cons rfl (fun K hK => ?_) AllReadyH.nil)
        (refine step_append_run rfl _ _ _ _ rfl rfl rfl hrun ?_)
        refine hK.out _ _ (by (repeat (with_reducible first | assumption | exact AgreeF.refl _ | apply AgreeF.al | apply AgreeF.dr))) (fun hHeld => ?_)
        clear hK K
        try simp only [Act.put]
        try simp only [List.setIfInBounds_toArray, List.set_cons_zero, List.set_cons_succ]
        refine wpAnyH_take (i := 10) (v := ?_) rfl (by kernel_rfl) (by kernel_rfl) (by kernel_rfl) (fun _ _ _ h => h) (Or.inl ⟨by rfl, ?_⟩) (by assumption) ?_
        rotate_left
        · (intro W hW; (try dsimp only at hW); go_simp <;> (with_reducible rfl))
        try simp only [Act.put]
        try simp only [List.setIfInBounds_toArray, List.set_cons_zero, List.set_cons_succ]
        refine wpAnyH_take (i := 11) (v := ?_) rfl (by kernel_rfl) (by kernel_rfl) (by kernel_rfl) (fun _ _ _ h => h) (Or.inl ⟨by rfl, ?_⟩) (by assumption) ?_
        rotate_left
        · (intro W hW; (try dsimp only at hW); go_simp <;> (with_reducible rfl))
        try simp only [Act.put]
        try simp only [List.setIfInBounds_toArray, List.set_cons_zero, List.set_cons_succ]
        refine wpAnyH_ready (rs := [12]) (by kernel_rfl) (by simp) (AllReadyH.cons rfl (fun K hK => ?_) AllReadyH.nil)
        (rw [if_pos (by rfl)]; go_wp2_with (fail))
        refine hK.out _ _ (by (repeat (with_reducible first | assumption | exact AgreeF.refl _ | apply AgreeF.al | apply AgreeF.dr))) (fun hHeld => ?_)
        clear hK K
        try simp only [Act.put]
        try simp only [List.setIfInBounds_toArray, List.set_cons_zero, List.set_cons_succ]
        refine wpAnyH_done (by kernel_rfl) ?_ _
        refine NoPanic.normal ?_
        obtain ⟨wz, hwz⟩ : ∃ x, x = (w'.setCell ⟨w.heap.size + 1, 0, none⟩ (.slice a' (n + 1) c')) := ⟨_, rfl⟩
        rw [← hwz] at HP ⊢
        clear hwz f8 f9 hA00 hA9 hA12 hHeld e0 e1 e2 e3 e4 hrun hcc1
        have hxz := HP.out.1
        have n0 := hxz.cell 0 0 rfl rfl
        have n1 := hxz.cell 0 1 rfl rfl
        have n2 := hxz.cell 0 2 rfl rfl
        have n3 := hxz.cell 0 3 rfl rfl
        have n4 := hxz.cell 0 4 rfl rfl
        have u0 := hxz.frozen 0 0 rfl
        have u1 := hxz.frozen 0 1 rfl
        have u2 := hxz.frozen 0 2 rfl
        have u3 := hxz.frozen 0 3 rfl
        have u4 := hxz.frozen 0 4 rfl
        have hbz := HP.out.2.2
        have f0 := (hbz.cell (p := ⟨bc, oc + k * 5, none⟩) hbc).trans (HCELL.out 0 _ rfl)
        have f1 := (hbz.cell (p := ⟨bc, oc + k * 5 + 1, none⟩) hbc).trans (HCELL.out 1 _ rfl)
        have f2 := (hbz.cell (p := ⟨bc, oc + k * 5 + 2, none⟩) hbc).trans (HCELL.out 2 _ rfl)
        have f3 := (hbz.cell (p := ⟨bc, oc + k * 5 + 3, none⟩) hbc).trans (HCELL.out 3 _ rfl)
        have f4 := (hbz.cell (p := ⟨bc, oc + k * 5 + 4, none⟩) hbc).trans (HCELL.out 4 _ rfl)
        have HM := Lib.hid (HE.out wz HP.out)
        clear hxz hbz
        go_wp2_with fail
        go_roundg (g + 1)
        case measure => omega
        case rel => exact HM.out
    | leaf p0 l =>
      have hg0 : g = 0 := hsh.1
      subst hg0
      have hl50 : l.length ≤ 50 := hcnt
      obtain ⟨ka', kc', va', vn', vc', ca', cn', cc', V, C, e, h1, h2, h3, h4, _⟩ := hn.open
      cases e
      dsimp only [Tr.page, Tr.isLeaf, cntT, Tr.keys] at hn hx h1 h2 h3
      have CB := bsearch_any (h1.below hb) (by omega) hsh.2.1 key
      have hZk : (.leaf p0 l, posK key (keysOf l)) :: r = Z := hZ
      have hrest := HREST.out
      rw [← hZk] at hrest
      have hpo := posK_le key (keysOf l)
      have hkl : (keysOf l).length = l.length := by simp [keysOf]
      have n0 := hx.cell 0 0 rfl rfl
      have n1 := hx.cell 0 1 rfl rfl
      have n2 := hx.cell 0 2 rfl rfl
      have n3 := hx.cell 0 3 rfl rfl
      have n4 := hx.cell 0 4 rfl rfl
      obtain ⟨k, hk⟩ : ∃ k, posK key (keysOf l) = k := ⟨_, rfl⟩
      rw [hk] at CB hrest hpo
      generalize hasK key (keysOf l) = has at *
      have HVC : Hid (ValidC 1 ((.leaf p0 l, k) :: r)) := Lib.hid ⟨⟨lo, hi, hsh, hsum⟩, (by show k ≤ l.length; omega), hvb⟩
      have HGL := Lib.hid hgl
      have HR := Lib.hid hrest
      have hlr : r.length ≤ 1000 := by omega
      have hs2 : w.heap.size + 2 ≤ wr.heap.size := by omega
      have hN1 : 0 + 1 ≤ N := by omega
      obtain ⟨a', c', w', hrun, hA9, hA12, hx9, hxP, hcP, hbP⟩ := push_at hx.drew (hc.below (Below.dr (Below.refl _ _))) (Below.dr hb) (by simpa using hs2) hlr (cs := [.int .i64 p0, .bool true, .slice ka l.length kc, .slice va vn vc, .slice ca cn cc, .int .i64 (k : Int)]) (s := (.leaf p0 l, k)) ⟨[.int .i64 p0, .bool true, .slice ka l.length kc, .slice va vn vc, .slice ca cn cc], rfl, (hn.more hN1).below (Below.dr hb)⟩
      obtain ⟨n, hnl⟩ : ∃ n, r.length = n := ⟨_, rfl⟩
      rw [hnl] at hrun hA9 hA12 hxP hcP hbP hx9
      have HP : Hid (Pushed F N w (w'.setCell ⟨w.heap.size + 1, 0, none⟩ (.slice a' (n + 1) c')) [.int .i64 p0, .bool true, .slice ka l.length kc, .slice va vn vc, .slice ca cn cc] (.slice a' (n + 1) c') ((.leaf p0 l, k) :: r)) := Lib.hid ⟨hxP, hcP, hbP⟩
      have hcc1 := hc.1.cell 0 0 rfl rfl
      rw [hnl] at hcc1
      have hlb : w.heap.size + 1 < wr.heap.size := by omega
      have hob : (Value.slice a0 n c0).ownBlock ≠ some w.heap.size := fun e => by have := hge w.heap.size (by rw [hnl]; exact e); omega
      have hla : w.heap.size < wr.heap.size := by omega
      have hne : w.heap.size ≠ w.heap.size + 1 := by omega
      have e0 : ∀ W, AgreeF (fun x => (Value.slice a0 n c0).ownBlock ≠ some x ∧ x ≠ w.heap.size + 1) wr W → W.cell? ⟨w.heap.size, 0, none⟩ = _ := fun W hW => (hW.cell ⟨hob, hne⟩ hla).trans (hx.cell 0 0 rfl rfl)
      have e1 : ∀ W, AgreeF (fun x => (Value.slice a0 n c0).ownBlock ≠ some x ∧ x ≠ w.heap.size + 1) wr W → W.cell? ⟨w.heap.size, 1, none⟩ = _ := fun W hW => (hW.cell ⟨hob, hne⟩ hla).trans (hx.cell 0 1 rfl rfl)
      have e2 : ∀ W, AgreeF (fun x => (Value.slice a0 n c0).ownBlock ≠ some x ∧ x ≠ w.heap.size + 1) wr W → W.cell? ⟨w.heap.size, 2, none⟩ = _ := fun W hW => (hW.cell ⟨hob, hne⟩ hla).trans (hx.cell 0 2 rfl rfl)
      have e3 : ∀ W, AgreeF (fun x => (Value.slice a0 n c0).ownBlock ≠ some x ∧ x ≠ w.heap.size + 1) wr W → W.cell? ⟨w.heap.size, 3, none⟩ = _ := fun W hW => (hW.cell ⟨hob, hne⟩ hla).trans (hx.cell 0 3 rfl rfl)
      have e4 : ∀ W, AgreeF (fun x => (Value.slice a0 n c0).ownBlock ≠ some x ∧ x ≠ w.heap.size + 1) wr W → W.cell? ⟨w.heap.size, 4, none⟩ = _ := fun W hW => (hW.cell ⟨hob, hne⟩ hla).trans (hx.cell 0 4 rfl rfl)
      have hA00 : AgreeF (fun x => (Value.slice a0 n c0).ownBlock ≠ some x ∧ x ≠ w.heap.size + 1) wr wr.drew := AgreeF.refl _
      have hA9 : AgreeF (fun x => (Value.slice a0 n c0).ownBlock ≠ some x ∧ x ≠ w.heap.size + 1) wr w' := hA9
      have hA12 : AgreeF (fun x => (Value.slice a0 n c0).ownBlock ≠ some x ∧ x ≠ w.heap.size + 1) wr (w'.setCell ⟨w.heap.size + 1, 0, none⟩ (.slice a' (n + 1) c')) := hA12
      have f8 := hx9.cell 0 0 rfl rfl
      have f9 := hx9.frozen 0 0 rfl
      have HNL := Lib.hid hnl
      clear hnl hxP hcP hbP hx9 hge hrest hZk hZ hsh hn h1 h2 h3 h4 hx hc hb hk hvb hgl hcl
      go_wp2_with fail
      refine CB.mono ?_
      rintro e w1 ⟨rfl, rfl⟩
      clear CB
      go_upto_region 7 with (fail)
      refine wp_region_noPanic ?_
      refine wp_region_held_drew (S := (fun W => AgreeF (fun x => (Value.slice a0 n c0).ownBlock ≠ some x ∧ x ≠ w.heap.size + 1) wr W)) (by kernel_rfl) (by (repeat (with_reducible first | assumption | exact AgreeF.refl _ | apply AgreeF.al | apply AgreeF.dr))) (fun hHeld => ?_)
      refine wpAnyH_take (i := 0) (v := ?_) rfl (by kernel_rfl) (by kernel_rfl) (by kernel_rfl) (fun _ _ _ h => h) (Or.inl ⟨by rfl, ?_⟩) (by assumption) ?_
      rotate_left
      · (intro W hW; (try dsimp only at hW); go_simp <;> (with_reducible rfl))
      try simp only [Act.put]
      try simp only [List.setIfInBounds_toArray, List.set_cons_zero, List.set_cons_succ]
      refine wpAnyH_take (i := 1) (v := ?_) rfl (by kernel_rfl) (by kernel_rfl) (by kernel_rfl) (fun _ _ _ h => h) (Or.inl ⟨by rfl, ?_⟩) (by assumption) ?_
      rotate_left
      · (intro W hW; (try dsimp only at hW); go_simp <;> (with_reducible rfl))
      try simp only [Act.put]
      try simp only [List.setIfInBounds_toArray, List.set_cons_zero, List.set_cons_succ]
      refine wpAnyH_take (i := 2) (v := ?_) rfl (by kernel_rfl) (by kernel_rfl) (by kernel_rfl) (fun _ _ _ h => h) (Or.inl ⟨by rfl, ?_⟩) (by assumption) ?_
      rotate_left
      · (intro W hW; (try dsimp only at hW); go_simp <;> (with_reducible rfl))
      try simp only [Act.put]
      try simp only [List.setIfInBounds_toArray, List.set_cons_zero, List.set_cons_succ]
      refine wpAnyH_take (i := 3) (v := ?_) rfl (by kernel_rfl) (by kernel_rfl) (by kernel_rfl) (fun _ _ _ h => h) (Or.inl ⟨by rfl, ?_⟩) (by assumption) ?_
      rotate_left
      · (intro W hW; (try dsimp only at hW); go_simp <;> (with_reducible rfl))
      try simp only [Act.put]
      try simp only [List.setIfInBounds_toArray, List.set_cons_zero, List.set_cons_succ]
      refine wpAnyH_take (i := 5) (v := ?_) rfl (by kernel_rfl) (by kernel_rfl) (by kernel_rfl) (fun _ _ _ h => h) (Or.inl ⟨by rfl, ?_⟩) (by assumption) ?_
      rotate_left
      · (intro W hW; (try dsimp only at hW); go_simp <;> (with_reducible rfl))
      try simp only [Act.put]
      try simp only [List.setIfInBounds_toArray, List.set_cons_zero, List.set_cons_succ]
      refine wpAnyH_take (i := 6) (v := ?_) rfl (by kernel_rfl) (by kernel_rfl) (by kernel_rfl) (fun _ _ _ h => h) (Or.inl ⟨by rfl, ?_⟩) (by assumption) ?_
      rotate_left
      · (intro W hW; (try dsimp only at hW); go_simp <;> (with_reducible rfl))
      try simp only [Act.put]
      try simp only [List.setIfInBounds_toArray, List.set_cons_zero, List.set_cons_succ]
      refine wpAnyH_take (i := 7) (v := ?_) rfl (by kernel_rfl) (by kernel_rfl) (by kernel_rfl) (fun _ _ _ h => h) (Or.inl ⟨by rfl, ?_⟩) (by assumption) ?_
      rotate_left
      · (intro W hW; (try dsimp only at hW); go_simp <;> (with_reducible rfl))
      try simp only [Act.put]
      try simp only [List.setIfInBounds_toArray, List.set_cons_zero, List.set_cons_succ]
      refine wpAnyH_ready (rs := [4, 8]) (by kernel_rfl) (by simp) (AllReadyH.cons rfl (fun K hK => ?_) (AllReadyH.cons rfl (fun K hK => ?_) AllReadyH.nil))
      · (rw [if_pos (by rfl)]; go_wp2_with (fail))
        refine hK.out _ _ (by (repeat (with_reducible first | assumption | exact AgreeF.refl _ | apply AgreeF.al | apply AgreeF.dr))) (fun hHeld => ?_)
        clear hK K
        try simp only [Act.put]
        try simp only [List.setIfInBounds_toArray, List.set_cons_zero, List.set_cons_succ]
        refine wpAnyH_ready (rs := [8]) (by kernel_rfl) (by simp) (AllReadyH.cons rfl (fun K hK => ?_) AllReadyH.nil)
        (rw [if_pos (by rfl)]; go_wp2_with (fail))
        refine hK.out _ _ (by (repeat (with_reducible first | assumption | exact AgreeF.refl _ | apply AgreeF.al | apply AgreeF.dr))) (fun hHeld => ?_)
        clear hK K
        try simp only [Act.put]
        try simp only [List.setIfInBounds_toArray, List.set_cons_zero, List.set_cons_succ]
        refine wpAnyH_ready (rs := [9]) (by kernel_rfl) (by simp) (AllReadyH.cons rfl (fun K hK => ?_) AllReadyH.nil)
        (refine step_append_run rfl _ _ _ _ rfl rfl rfl hrun ?_)
        refine hK.out _ _ (by (repeat (with_reducible first | assumption | exact AgreeF.refl _ | apply AgreeF.al | apply AgreeF.dr))) (fun hHeld => ?_)
        clear hK K
        try simp only [Act.put]
        try simp only [List.setIfInBounds_toArray, List.set_cons_zero, List.set_cons_succ]
        refine wpAnyH_take (i := 10) (v := ?_) rfl (by kernel_rfl) (by kernel_rfl) (by kernel_rfl) (fun _ _ _ h => h) (Or.inl ⟨by rfl, ?_⟩) (by assumption) ?_
        rotate_left
        · (intro W hW; (try dsimp only at hW); go_simp <;> (with_reducible rfl))
        try simp only [Act.put]
        try simp only [List.setIfInBounds_toArray, List.set_cons_zero, List.set_cons_succ]
        refine wpAnyH_take (i := 11) (v := ?_) rfl (by kernel_rfl) (by kernel_rfl) (by kernel_rfl) (fun _ _ _ h => h) (Or.inl ⟨by rfl, ?_⟩) (by assumption) ?_
        rotate_left
        · (intro W hW; (try dsimp only at hW); go_simp <;> (with_reducible rfl))
        try simp only [Act.put]
        try simp only [List.setIfInBounds_toArray, List.set_cons_zero, List.set_cons_succ]
        refine wpAnyH_ready (rs := [12]) (by kernel_rfl) (by simp) (AllReadyH.cons rfl (fun K hK => ?_) AllReadyH.nil)
        (rw [if_pos (by rfl)]; go_wp2_with (fail))
        refine hK.out _ _ (by (repeat (with_reducible first | assumption | exact AgreeF.refl _ | apply AgreeF.al | apply AgreeF.dr))) (fun hHeld => ?_)
        clear hK K
        try simp only [Act.put]
        try simp only [List.setIfInBounds_toArray, List.set_cons_zero, List.set_cons_succ]
        refine wpAnyH_done (by kernel_rfl) ?_ _
        refine NoPanic.normal ?_
        obtain ⟨wz, hwz⟩ : ∃ x, x = (w'.setCell ⟨w.heap.size + 1, 0, none⟩ (.slice a' (n + 1) c')) := ⟨_, rfl⟩
        rw [← hwz] at HP ⊢
        clear hwz f8 f9 hA00 hA9 hA12 hHeld e0 e1 e2 e3 e4 hrun hcc1
        obtain ⟨hxz, hcz, hbz⟩ := HP.out
        have hgez := hcz.ge
        have hn9 := HNL.out
        go_wp2_with fail
        refine (settle_any (g := 1) hcz (by have := hcz.1.lt 0 rfl; omega) HVC.out (.inr (by have := HGL.out; simp; omega)) hN).mono ?_
        rintro e w9 ⟨rfl, v9, r9, hc9, hs9, hr9, hst9⟩
        have HEND : Hid (SeekTo F N w R (.returned (.pointer (some ⟨w.heap.size + 1, 0, none⟩))) w9) := Lib.hid ⟨v9, rfl, ⟨r9, hc9, hs9, by rw [hr9]; exact HR.out⟩, hbz.trans (hst9.toBelow (by omega) (fun g hg => by have := hgez g hg; omega) hbz.size)⟩
        clear hcz hbz hxz hc9 hs9 hr9 hst9 hgez
        go_wp2_with fail
        go_ret
        exact HEND.out
      · (rw [if_pos (by rfl)]; go_wp2_with (fail))
        refine hK.out _ _ (by (repeat (with_reducible first | assumption | exact AgreeF.refl _ | apply AgreeF.al | apply AgreeF.dr))) (fun hHeld => ?_)
        clear hK K
        try simp only [Act.put]
        try simp only [List.setIfInBounds_toArray, List.set_cons_zero, List.set_cons_succ]
        refine wpAnyH_ready (rs := [4]) (by kernel_rfl) (by simp) (AllReadyH.cons rfl (fun K hK => ?_) AllReadyH.nil)
        (rw [if_pos (by rfl)]; go_wp2_with (fail))
        refine hK.out _ _ (by (repeat (with_reducible first | assumption | exact AgreeF.refl _ | apply AgreeF.al | apply AgreeF.dr))) (fun hHeld => ?_)
        clear hK K
        try simp only [Act.put]
        try simp only [List.setIfInBounds_toArray, List.set_cons_zero, List.set_cons_succ]
        refine wpAnyH_ready (rs := [9]) (by kernel_rfl) (by simp) (AllReadyH.cons rfl (fun K hK => ?_) AllReadyH.nil)
        (refine step_append_run rfl _ _ _ _ rfl rfl rfl hrun ?_)
        refine hK.out _ _ (by (repeat (with_reducible first | assumption | exact AgreeF.refl _ | apply AgreeF.al | apply AgreeF.dr))) (fun hHeld => ?_)
        clear hK K
        try simp only [Act.put]
        try simp only [List.setIfInBounds_toArray, List.set_cons_zero, List.set_cons_succ]
        refine wpAnyH_take (i := 10) (v := ?_) rfl (by kernel_rfl) (by kernel_rfl) (by kernel_rfl) (fun _ _ _ h => h) (Or.inl ⟨by rfl, ?_⟩) (by assumption) ?_
        rotate_left
        · (intro W hW; (try dsimp only at hW); go_simp <;> (with_reducible rfl))
        try simp only [Act.put]
        try simp only [List.setIfInBounds_toArray, List.set_cons_zero, List.set_cons_succ]
        refine wpAnyH_take (i := 11) (v := ?_) rfl (by kernel_rfl) (by kernel_rfl) (by kernel_rfl) (fun _ _ _ h => h) (Or.inl ⟨by rfl, ?_⟩) (by assumption) ?_
        rotate_left
        · (intro W hW; (try dsimp only at hW); go_simp <;> (with_reducible rfl))
        try simp only [Act.put]
        try simp only [List.setIfInBounds_toArray, List.set_cons_zero, List.set_cons_succ]
        refine wpAnyH_ready (rs := [12]) (by kernel_rfl) (by simp) (AllReadyH.cons rfl (fun K hK => ?_) AllReadyH.nil)
        (rw [if_pos (by rfl)]; go_wp2_with (fail))
        refine hK.out _ _ (by (repeat (with_reducible first | assumption | exact AgreeF.refl _ | apply AgreeF.al | apply AgreeF.dr))) (fun hHeld => ?_)
        clear hK K
        try simp only [Act.put]
        try simp only [List.setIfInBounds_toArray, List.set_cons_zero, List.set_cons_succ]
        refine wpAnyH_done (by kernel_rfl) ?_ _
        refine NoPanic.normal ?_
        obtain ⟨wz, hwz⟩ : ∃ x, x = (w'.setCell ⟨w.heap.size + 1, 0, none⟩ (.slice a' (n + 1) c')) := ⟨_, rfl⟩
        rw [← hwz] at HP ⊢
        clear hwz f8 f9 hA00 hA9 hA12 hHeld e0 e1 e2 e3 e4 hrun hcc1
        obtain ⟨hxz, hcz, hbz⟩ := HP.out
        have hgez := hcz.ge
        have hn9 := HNL.out
        go_wp2_with fail
        refine (settle_any (g := 1) hcz (by have := hcz.1.lt 0 rfl; omega) HVC.out (.inr (by have := HGL.out; simp; omega)) hN).mono ?_
        rintro e w9 ⟨rfl, v9, r9, hc9, hs9, hr9, hst9⟩
        have HEND : Hid (SeekTo F N w R (.returned (.pointer (some ⟨w.heap.size + 1, 0, none⟩))) w9) := Lib.hid ⟨v9, rfl, ⟨r9, hc9, hs9, by rw [hr9]; exact HR.out⟩, hbz.trans (hst9.toBelow (by omega) (fun g hg => by have := hgez g hg; omega) hbz.size)⟩
        clear hcz hbz hxz hc9 hs9 hr9 hst9 hgez
        go_wp2_with fail
        go_ret
        exact HEND.out
end Go.Proofs.YtpghlmcoajaiiaaGreatDoor

/- A cursor: how deep it stands, what it would tell, what it tells; how many entries a tree has. -/
namespace Go.Proofs.YtpghlmcoajaiiaaGreatDoor
open Go.RowKit

/-- How deep a cursor stands. -/
def deepC (N : Nat) : List (List UInt8 × Tv) → Nat
  | [] => 0
  | _ :: _ => N
def keyH : List (List UInt8 × Tv) → List UInt8
  | [] => []
  | c :: _ => c.1
def valH : List (List UInt8 × Tv) → List UInt8
  | [] => []
  | c :: _ => c.2.data
def someH : List (List UInt8 × Tv) → Bool
  | [] => false
  | _ :: _ => true
/-- A cursor nowhere, or on an entry. -/
theorem Cur.cases {N B b : Nat} {F : Nat → Prop} {w : World} {v : Value} {R : List (List UInt8 × Tv)} (h : Cur N B b F w v R) :
    (R = [] ∧ CurAt 301 F N B b w v []) ∨ ∃ p l k q c T, CurAt 301 F N B b w v ((.leaf p l, k) :: q) ∧ l[k]? = some c ∧ R = c :: T ∧ T = restC 1 ((.leaf p l, k + 1) :: q) ∧ q.length + 1 = N ∧ ValidC 1 ((.leaf p l, k) :: q) := by
  obtain ⟨r, h1, h2, h3⟩ := h
  rcases h2 with rfl | ⟨p, l, k, q, rfl, hk, hl, hv⟩
  · exact .inl ⟨h3.symm, h1⟩
  · refine .inr ⟨p, l, k, q, l[k], _, h1, List.getElem?_eq_getElem hk, ?_, rfl, hl, hv⟩
    rw [← h3, rest_next q (List.getElem?_eq_getElem hk)]
theorem Cur.below {N B b : Nat} {F : Nat → Prop} {w w' : World} {v : Value} {R : List (List UInt8 × Tv)} (h : Cur N B b F w v R) (hb : Below w.heap.size w w') : Cur N B b F w' v R := by
  obtain ⟨r, h1, h2, h3⟩ := h
  exact ⟨r, h1.below hb, h2, h3⟩
theorem Cur.agree {N B b : Nat} {F : Nat → Prop} {w w' : World} {v : Value} {R : List (List UInt8 × Tv)} (h : Cur N B b F w v R) (ha : AgreeF (fun x => F x ∨ x = b ∨ v.ownBlock = some x) w w') : Cur N B b F w' v R := by
  obtain ⟨r, h1, h2, h3⟩ := h
  exact ⟨r, h1.agree ha, h2, h3⟩
theorem Cur.ge {N B b : Nat} {F : Nat → Prop} {w : World} {v : Value} {R : List (List UInt8 × Tv)} (h : Cur N B b F w v R) : ∀ g, v.ownBlock = some g → B ≤ g ∧ g < w.heap.size := by
  obtain ⟨r, h1, h2, h3⟩ := h
  obtain ⟨_, _, _, L, h4, _⟩ := h1
  exact fun g hg => World.ownsRow.lt h4 g hg
theorem Cur.lt9 {N B b : Nat} {F : Nat → Prop} {w : World} {v : Value} {R : List (List UInt8 × Tv)} (h : Cur N B b F w v R) : b < w.heap.size := by
  obtain ⟨r, h1, h2, h3⟩ := h
  exact h1.1.lt 0 rfl
theorem Cur.sl {N B b : Nat} {F : Nat → Prop} {w : World} {v : Value} {R : List (List UInt8 × Tv)} (h : Cur N B b F w v R) : ∃ a n c, v = .slice a n c ∧ n = deepC N R ∧ w.cell? ⟨b, 0, none⟩ = some v := by
  rcases h.cases with ⟨rfl, h1⟩ | ⟨p, l, k, q, c, T, h1, _, rfl, _, hq, _⟩
  · obtain ⟨a, c, rfl, _⟩ := h1.sl
    exact ⟨a, _, c, rfl, rfl, h1.1.cell 0 0 rfl rfl⟩
  · obtain ⟨a, c, rfl, _⟩ := h1.sl
    exact ⟨a, _, c, rfl, hq, h1.1.cell 0 0 rfl rfl⟩
theorem depth_cur {N B b : Nat} {F : Nat → Prop} {w : World} {v : Value} {R : List (List UInt8 × Tv)} (h : Cur N B b F w v R) :
    Calls Tryz.prog 198 #[.pointer (some ⟨b, 0, none⟩)] w fun e w' => e = .returned (.int .i64 (deepC N R : Int)) ∧ w = w' := by
  obtain ⟨a, n, c, rfl, hn, h0⟩ := h.sl
  rw [← hn]
  clear h hn
  go_enter Tryz.func198, Tryz.ntmps198
  go_wp2_with fail
  go_ret
  exact ⟨rfl, rfl⟩
def PeekTo (w : World) (R : List (List UInt8 × Tv)) (e : Ending) (w' : World) : Prop := e = .returned (.tuple #[.string (strOf (keyH R)), .bool (someH R)]) ∧ Below w.heap.size w w'
set_option maxRecDepth 100000 in
set_option maxHeartbeats 2000000 in
theorem peek_cur {N B b : Nat} {F : Nat → Prop} {w : World} {v : Value} {R : List (List UInt8 × Tv)} (h : Cur N B b F w v R) (hN : N ≤ 1000) :
    Calls Tryz.prog 163 #[.pointer (some ⟨b, 0, none⟩)] w (PeekTo w R) := by
  have CD := depth_cur h
  rcases h.cases with ⟨rfl, h1⟩ | ⟨p, l, k, q, c, T, h1, hk, rfl, _, hq, hv⟩
  · clear h h1
    go_enter Tryz.func163, Tryz.ntmps163
    go_wp2_with fail
    refine CD.mono ?_
    rintro e w1 ⟨rfl, rfl⟩
    clear CD
    have hd : deepC N [] = 0 := rfl
    rw [hd]
    go_wp2_with fail
    go_ret2
    exact ⟨rfl, Below.refl _ _⟩
  · have hd : deepC N (c :: T) = N := rfl
    rw [hd] at CD
    obtain ⟨n, hn⟩ : ∃ n, q.length = n := ⟨_, rfl⟩
    obtain rfl : N = n + 1 := by omega
    obtain ⟨a, cc, rfl, hcc, _, hg0⟩ := h1.sl
    obtain ⟨gb, rfl, _, hgw, _⟩ := hg0 (by simp)
    obtain ⟨a1, c1, a2, n2, c2, a3, n3, c3, _, hnode, hcells⟩ := h1.top
    have f0 := h1.1.cell 0 0 rfl rfl
    have hbw := h1.1.lt 0 rfl
    have hlen : ((Tr.leaf p l, k) :: q).length = n + 1 := by simp [hn]
    rw [hlen] at f0 hcc
    rw [hn] at hcells
    obtain ⟨ka', kc', va', vn', vc', ca', cn', cc', V, C, e, g1, _⟩ := hnode.open
    cases e
    have hkl : k < l.length := (List.getElem?_eq_some_iff.1 hk).1
    obtain ⟨bk, ok, rfl, hbk, hck⟩ := g1.key_at (show k < cntT (.leaf p l) from hkl)
    have hkk : (Tr.leaf p l).keys[k]?.getD [] = c.1 := by simp [Tr.keys, keysOf, hk]
    rw [hkk] at hck
    have g3 := g1.lens.2.2
    have g2 := g1.lens.2.1
    have hw1 : IntKind.i64.wrap ((n + 1 : Nat) - 1 : Int) = (n : Int) := by rw [IntWalk.i64_in _ (by omega)]; omega
    have hw1' : IntKind.i64.wrap ((n : Int) + 1 - 1) = (n : Int) := by rw [IntWalk.i64_in _ (by omega)]; omega
    have hnn : (n : Int) < ((n + 1 : Nat) : Int) := by omega
    have hwn : IntKind.i64.wrap (n : Int) = (n : Int) := IntWalk.i64_in _ (by omega)
    have h0n : (0 : Int) ≤ (n : Int) := by omega
    have hnc : (n : Int) ≤ (cc : Int) := by omega
    have hkc : (k : Int) < (cntT (.leaf p l) : Int) := by show (k : Int) < (l.length : Int); omega
    have hne0 : decide (((n + 1 : Nat) : Int) = 0) = false := by simp; omega
    have hne1 : (((n + 1 : Nat) : Int) == 0) = false := by simp; omega
    have hne2 : (((n : Int) + 1) == 0) = false := by simp; omega
    have hnn2 : (n : Int) < (n : Int) + 1 := by omega
    have h0k : (0 : Int) ≤ (k : Int) := by omega
    have L0 : ∀ W, Below w.heap.size w W → W.cell? ⟨b, 0, none⟩ = _ := fun W hW => (hW.cell (p := ⟨b, 0, none⟩) hbw).trans f0
    have D0 : ∀ W, Below w.heap.size w W → W.cell? ⟨gb, n * 6, none⟩ = _ := fun W hW => (hW.cell (p := ⟨gb, n * 6, none⟩) hgw).trans (hcells 0 _ rfl)
    have D1 : ∀ W, Below w.heap.size w W → W.cell? ⟨gb, n * 6 + 1, none⟩ = _ := fun W hW => (hW.cell (p := ⟨gb, n * 6 + 1, none⟩) hgw).trans (hcells 1 _ rfl)
    have D2 : ∀ W, Below w.heap.size w W → W.cell? ⟨gb, n * 6 + 2, none⟩ = _ := fun W hW => (hW.cell (p := ⟨gb, n * 6 + 2, none⟩) hgw).trans (hcells 2 _ rfl)
    have D3 : ∀ W, Below w.heap.size w W → W.cell? ⟨gb, n * 6 + 3, none⟩ = _ := fun W hW => (hW.cell (p := ⟨gb, n * 6 + 3, none⟩) hgw).trans (hcells 3 _ rfl)
    have D4 : ∀ W, Below w.heap.size w W → W.cell? ⟨gb, n * 6 + 4, none⟩ = _ := fun W hW => (hW.cell (p := ⟨gb, n * 6 + 4, none⟩) hgw).trans (hcells 4 _ rfl)
    have D5 : ∀ W, Below w.heap.size w W → W.cell? ⟨gb, n * 6 + 5, none⟩ = _ := fun W hW => (hW.cell (p := ⟨gb, n * 6 + 5, none⟩) hgw).trans (hcells 5 _ rfl)
    generalize cntT (.leaf p l) = m at *
    generalize (Tr.leaf p l).page = pp at *
    generalize (Tr.leaf p l).isLeaf = pl at *
    have hb0 : Below w.heap.size w w.drew := Below.dr (Below.refl _ _)
    clear h h1 hk hv hnode hcells g1 hlen hg0 hkk
    show Calls _ _ _ _ (PeekTo w (c :: T))
    go_enter Tryz.func163, Tryz.ntmps163
    go_wp2_with fail
    refine CD.mono ?_
    rintro e w1 ⟨rfl, rfl⟩
    clear CD
    go_wp2_with fail
    go_region_held3 (fun W => Below w.heap.size w W) (first | with_reducible assumption | (repeat (with_reducible first | assumption | exact Below.refl _ _ | apply Below.al | apply Below.dr))) (fail)
    go_wp2_with fail
    go_ret2
    exact ⟨rfl, Below.dr (Below.al (Below.refl _ _))⟩
/-- What going past an entry leaves. -/
def NextTo (N B b : Nat) (F : Nat → Prop) (v : Value) (w : World) (R : List (List UInt8 × Tv)) (e : Ending) (w' : World) : Prop :=
  e = .returned (.tuple #[.string (strOf (keyH R)), .string (strOf (valH R)), .bool (someH R)]) ∧ ∃ v', Cur N B b F w' v' R.tail ∧ CurStay b v w w' v'
set_option maxRecDepth 100000 in
set_option maxHeartbeats 2000000 in
theorem next_cur {N B b : Nat} {F : Nat → Prop} {w : World} {v : Value} {R : List (List UInt8 × Tv)} (h : Cur N B b F w v R) (hB : B ≤ w.heap.size) (hN : N ≤ 200) :
    Calls Tryz.prog 122 #[.pointer (some ⟨b, 0, none⟩)] w (NextTo N B b F v w R) := by
  have CD := peek_cur h (by omega)
  rcases h.cases with ⟨rfl, h1⟩ | ⟨p, l, k, q, c, T, h1, hk, rfl, hT, hq, hv⟩
  · have HH := Lib.hid h
    clear h h1
    go_enter Tryz.func122, Tryz.ntmps122
    go_wp2_with fail
    refine CD.mono ?_
    rintro e w1 ⟨rfl, hb⟩
    clear CD
    have h1 : keyH [] = [] := rfl
    have h2 : someH [] = false := rfl
    rw [h1, h2]
    go_wp2_with fail
    refine bodyPost_ret (v := .tuple #[.string (strOf []), .string (strOf []), .bool false]) (by simp [results, Tryz.results122, go_sem, strOf]) rfl ⟨rfl, _, HH.out.below hb, CurStay.below hb⟩
  · have hd : deepC N (c :: T) = N := rfl
    obtain ⟨n, hn⟩ : ∃ n, q.length = n := ⟨_, rfl⟩
    obtain rfl : N = n + 1 := by omega
    have HH1 := Lib.hid h1
    have HT := Lib.hid hT
    have HV := Lib.hid hv
    have HNQ := Lib.hid hn
    have hkl : k < l.length := (List.getElem?_eq_some_iff.1 hk).1
    have HK := Lib.hid hk
    clear h h1 hT hv hn hk hq hd
    show Calls _ _ _ _ (NextTo (n + 1) B b F v w (c :: T))
    go_enter Tryz.func122, Tryz.ntmps122
    go_wp2_with fail
    refine CD.mono ?_
    rintro e w1 ⟨rfl, hb⟩
    clear CD
    have e1 : keyH (c :: T) = c.1 := rfl
    have e2 : someH (c :: T) = true := rfl
    rw [e1, e2]
    clear e1 e2
    have h1 := HH1.out.below hb
    have hst1 := CurStay.below (b := b) (v := v) hb
    have hB1 := Nat.le_trans hB hb.size
    clear hb
    obtain ⟨a, cc, rfl, hcc, _, hg0⟩ := h1.sl
    obtain ⟨gb, rfl, _, hgw, _⟩ := hg0 (by simp)
    obtain ⟨a1, c1, a2, n2, c2, a3, n3, c3, _, hnode, hcells⟩ := h1.top
    have f0 := h1.1.cell 0 0 rfl rfl
    have hlen : ((Tr.leaf p l, k) :: q).length = n + 1 := by simp [HNQ.out]
    rw [hlen] at f0 hcc
    rw [HNQ.out] at hcells
    have hw1 : IntKind.i64.wrap ((n + 1 : Nat) - 1 : Int) = (n : Int) := by rw [IntWalk.i64_in _ (by omega)]; omega
    have hw1' : IntKind.i64.wrap ((n : Int) + 1 - 1) = (n : Int) := by rw [IntWalk.i64_in _ (by omega)]; omega
    have hnn : (n : Int) < ((n + 1 : Nat) : Int) := by omega
    have hnn2 : (n : Int) < (n : Int) + 1 := by omega
    have hwn : IntKind.i64.wrap (n : Int) = (n : Int) := IntWalk.i64_in _ (by omega)
    have h0n : (0 : Int) ≤ (n : Int) := by omega
    have hnc : (n : Int) ≤ (cc : Int) := by omega
    have h0k : (0 : Int) ≤ (k : Int) := by omega
    obtain ⟨ka', kc', va', vn', vc', ca', cn', cc', V, C, e, _, g2, _, g4, _⟩ := hnode.open
    cases e
    have hvn : n2 = l.length := by rw [← g2.1, g4.toR.lens.2.1]; rfl
    subst hvn
    have g22 := g2.lens.2.1
    have g23 := g2.lens.2.2
    obtain ⟨bv, ov, tv, tcs, rfl, hbv, hyv, _, ⟨pa, pn, pc, rfl, _, _⟩, hcv⟩ := TabR.at (Raw.tab g2 g4.2.1) hkl
    have htv : tv = c.2 := by
      have hk := HK.out
      rw [List.getElem?_map, hk] at hyv
      exact (Option.some.inj hyv).symm
    subst htv
    have v0 := hcv 0 _ rfl
    have d3 := hcells 3 _ rfl
    have d5 := hcells 5 _ rfl
    have hkc : (k : Int) < (l.length : Int) := by omega
    have e3 : valH (c :: T) = c.2.data := rfl
    have HC1 := Lib.hid h1
    have HST1 := Lib.hid hst1
    clear hnode hcells g2 g4 hcv hyv hg0 h1 hst1
    go_wp2_with fail
    go_quiet (fail)
    go_upto_region 5 with (fail)
    obtain ⟨wy, hwy⟩ : ∃ x, x = w1.drewN nq := ⟨_, rfl⟩
    rw [← hwy]
    have hby : Below w1.heap.size w1 wy := by rw [hwy]; exact below_drewN (Below.refl _ _) _
    have d3' := (hby.cell (p := ⟨gb, n * 6 + 3, none⟩) hgw).trans d3
    have d5' := (hby.cell (p := ⟨gb, n * 6 + 5, none⟩) hgw).trans d5
    have v0' := (hby.cell (p := ⟨bv, ov + k * 2, none⟩) hbv).trans v0
    have HCY := Lib.hid (HC1.out.below hby)
    have HSTY := Lib.hid (HST1.out.trans (CurStay.below hby))
    have hgw' := Nat.lt_of_lt_of_le hgw hby.size
    have hBY := Nat.le_trans hB1 hby.size
    clear hwy d3 d5 v0 f0 hby hB1 hgw HC1 HST1
    go_quiet (fail)
    go_upto_region 6 with (fail)
    obtain ⟨wx, hwx⟩ : ∃ x, x = wy.drewN nq := ⟨_, rfl⟩
    rw [← hwx]
    have hbx : Below wy.heap.size wy wx := by rw [hwx]; exact below_drewN (Below.refl _ _) _
    have hcx := HCY.out.below hbx
    have hstx := HSTY.out.trans (CurStay.below hbx)
    have d5 := (hbx.cell (p := ⟨gb, n * 6 + 5, none⟩) hgw').trans d5'
    have hBX := Nat.le_trans hBY hbx.size
    obtain ⟨hbump, hbst⟩ := hcx.bump (k + 1)
    rw [HNQ.out] at hbump hbst
    have hcast : ((k + 1 : Nat) : Int) = (k : Int) + 1 := by omega
    rw [hcast] at hbump hbst
    obtain ⟨_, _, ee, _, _, hg1⟩ := hcx.sl
    cases ee
    obtain ⟨_, eg, _, _, hfz'⟩ := hg1 (by simp)
    cases eg
    have d5f := hfz' (n * 6 + 5)
    have hkl9 : k ≤ 1000 := by
      obtain ⟨⟨lo, hi, hsh, hsum⟩, _⟩ := HV.out
      have : l.length ≤ 50 := shape_cnt hsh hsum
      omega
    have hw3 : IntKind.i64.wrap ((k : Int) + 1) = (k : Int) + 1 := IntWalk.i64_in _ (by omega)
    have HBU := Lib.hid hbump
    have HBST := Lib.hid (hstx.trans hbst)
    have HVN : Hid (ValidC 1 ((.leaf p l, k + 1) :: q)) := Lib.hid (by
      obtain ⟨h1, _, h3⟩ := HV.out
      exact ⟨h1, (by show k + 1 ≤ l.length; omega), h3⟩)
    clear hwx d3' d5' v0' hbx HCY HSTY hBY hgw' hcx hstx hbump hbst hg1 hcast
    go_wp2_with fail
    obtain ⟨wz, hwz⟩ : ∃ x, x = wx.setCell ⟨gb, n * 6 + 5, none⟩ (.int .i64 ((k : Int) + 1)) := ⟨_, rfl⟩
    rw [← hwz] at HBU HBST ⊢
    have hBZ : B ≤ wz.heap.size := by rw [hwz]; simpa using hBX
    clear hwz d5 d5f hfz'
    refine (settle_any (g := 1) HBU.out hBZ HVN.out (.inr (by simp [HNQ.out]; omega)) hN).mono ?_
    rintro e w9 ⟨rfl, v9, r9, hc9, hs9, hr9, hst9⟩
    have HEND : Hid (NextTo (n + 1) B b F (.slice (some ⟨gb, 0, none⟩) ((Tr.leaf p l, k) :: q).length cc) w (c :: T) (.returned (.tuple #[.string (strOf c.1), .string (strOf c.2.data), .bool true])) w9) := Lib.hid ⟨rfl, v9, ⟨r9, hc9, hs9, by rw [hr9]; exact HT.out.symm⟩, HBST.out.trans hst9⟩
    clear hc9 hs9 hr9 hst9
    go_wp2_with fail
    refine bodyPost_ret (v := .tuple #[.string (strOf c.1), .string (strOf c.2.data), .bool true]) (by simp [results, Tryz.results122, go_sem]) rfl HEND.out
/-- How many entries the first so many kids have. -/
def cntTo (n : Nat) (l : List (List UInt8 × Tr)) (i : Nat) : Nat := ((l.take i).flatMap fun c => entsT n c.2).length
theorem cntTo_succ {n : Nat} {l : List (List UInt8 × Tr)} {i : Nat} (h : i < l.length) : cntTo n l (i + 1) = cntTo n l i + (entsT n (kidAt l i)).length := by
  have e : l[i]? = some l[i] := List.getElem?_eq_getElem h
  have ek : kidAt l i = l[i].2 := by simp [kidAt, h]
  unfold cntTo
  rw [List.take_succ_eq_append_of e, List.flatMap_append, List.length_append, ek, List.flatMap_singleton]
theorem cntTo_le {n : Nat} (l : List (List UInt8 × Tr)) (i : Nat) : cntTo n l i ≤ (l.flatMap fun c => entsT n c.2).length := by
  conv => rhs; rw [← List.take_append_drop i l]
  rw [List.flatMap_append, List.length_append]
  exact Nat.le_add_right _ _
theorem cntTo_all (n : Nat) (p : Int) (l : List (List UInt8 × Tr)) : (entsT (n + 1) (.node p l)).length = cntTo n l l.length := by
  unfold cntTo
  rw [List.take_length]; rfl
set_option maxRecDepth 100000 in
set_option maxHeartbeats 2000000 in
theorem count_node {n : Nat} (IH : ∀ {w : World} {cs : List Value} {t : Tr}, NodeIn n w cs t → (entsT n t).length ≤ 100000 → Calls Tryz.prog 82 #[.agg cs.toArray] w fun e w' => e = .returned (.int .i64 ((entsT n t).length : Int)) ∧ Below w.heap.size w w')
    {w : World} {cs : List Value} {p : Int} {l : List (List UInt8 × Tr)} (h : NodeIn (n + 1) w cs (.node p l)) (he : (entsT (n + 1) (.node p l)).length ≤ 100000) :
    Calls Tryz.prog 82 #[.agg cs.toArray] w fun e w' => e = .returned (.int .i64 ((entsT (n + 1) (.node p l)).length : Int)) ∧ Below w.heap.size w w' := by
  obtain ⟨ka, kn, kc, va, vn, vc, ca, cn, cc, K, V, C, rfl, _, _, h3, h4⟩ := h.open
  obtain ⟨e1, e2, e3⟩ := h3.lens
  have hcn : cn = l.length := by rw [← h3.1, h4.lens.2.2]; rfl
  subst hcn
  have hend := cntTo_all n p l
  have hall := fun i => Nat.le_trans (cntTo_le (n := n) l i) he
  have hsucc := fun i (hi : i < l.length) => cntTo_succ (n := n) (l := l) hi
  have hkids : ∀ i, i < l.length → ∃ b off u0 u1 u2 u3 u4 u5 u6 u7 u8 u9 u10, ca = some ⟨b, off, none⟩ ∧ b < w.heap.size ∧ NodeIn n w [.int .i64 u0, .bool u1, .slice u2 u3 u4, .slice u5 u6 u7, .slice u8 u9 u10] (kidAt l i) ∧ ∀ j v, [Value.int .i64 u0, .bool u1, .slice u2 u3 u4, .slice u5 u6 u7, .slice u8 u9 u10][j]? = some v → w.cell? ⟨b, off + i * 5 + j, none⟩ = some v := fun i hi => by
    obtain ⟨bc, oc, y, yc, eca, hbc, hy, _, hyc, hcell⟩ := TabR.at h3 hi
    have hyc : yc = y.1 := hyc
    subst hyc
    have hkid : NodeIn n w y.1 (kidAt l i) := h4.2.2.2 i y _ hy (by simp [kidAt, hi])
    cases n with
    | zero => exact hkid.elim
    | succ n =>
      obtain ⟨q1, q2, q3, q4, q5, q6, q7, q8, _, _, _, _, ey, _⟩ := hkid.open
      rw [ey] at hcell hkid
      exact ⟨bc, oc, _, _, _, _, _, _, _, _, _, _, _, eca, hbc, hkid, hcell⟩
  have HK := Lib.hid hkids
  have HALL := Lib.hid hall
  have HSUCC := Lib.hid hsucc
  have HEND := Lib.hid hend
  have hx0 : Boxes (w.alloc (.cells #[.int .i64 (Tr.node p l).page, .bool (Tr.node p l).isLeaf, .slice ka kn kc, .slice va vn vc, .slice ca l.length cc] 50)) [(w.heap.size, [.int .i64 (Tr.node p l).page, .bool (Tr.node p l).isLeaf, .slice ka kn kc, .slice va vn vc, .slice ca l.length cc])] := (Boxes.nil w).alloc #[.int .i64 (Tr.node p l).page, .bool (Tr.node p l).isLeaf, .slice ka kn kc, .slice va vn vc, .slice ca l.length cc] 50 (b := w.heap.size) rfl
  have n1 := hx0.cell 0 1 rfl rfl
  have n4 := hx0.cell 0 4 rfl rfl
  have HB0 : Hid (Below w.heap.size w (w.alloc (.cells #[.int .i64 (Tr.node p l).page, .bool (Tr.node p l).isLeaf, .slice ka kn kc, .slice va vn vc, .slice ca l.length cc] 50))) := Lib.hid (Below.al (Below.refl _ _))
  clear h h3 h4 hkids hall hsucc hend hx0 he
  rw [HEND.out]
  dsimp only [Tr.page, Tr.isLeaf] at *
  obtain ⟨m, hm⟩ : ∃ m, l.length = m := ⟨_, rfl⟩
  rw [hm] at e1 e2 n1 n4 HB0 ⊢
  have HM := Lib.hid hm
  clear hm
  go_enter Tryz.func82, Tryz.ntmps82
  go_wp2_with fail
  go_loopw [3, 14] (fun s3 s14 wr => ∃ i : Nat, i ≤ m ∧ s14 = .int .i64 i ∧ s3 = .int .i64 (cntTo n l i : Nat) ∧ Below w.heap.size w wr) (fun _ s _ => m - (intOf s).toNat)
  case atStart => exact ⟨0, Nat.zero_le _, rfl, rfl, HB0.out⟩
  case round =>
    obtain ⟨i, hi, rfl, rfl, hb⟩ := hrel
    clear HB0 n1 n4
    by_cases hlt : i < m
    · obtain ⟨b, off, u0, u1, u2, u3, u4, u5, u6, u7, u8, u9, u10, rfl, hbb, hkid, hcell⟩ := HK.out i (by rw [HM.out]; exact hlt)
      have c0 := (hb.cell (p := ⟨b, off + i * 5, none⟩) hbb).trans (hcell 0 _ rfl)
      have c1 := (hb.cell (p := ⟨b, off + i * 5 + 1, none⟩) hbb).trans (hcell 1 _ rfl)
      have c2 := (hb.cell (p := ⟨b, off + i * 5 + 2, none⟩) hbb).trans (hcell 2 _ rfl)
      have c3 := (hb.cell (p := ⟨b, off + i * 5 + 3, none⟩) hbb).trans (hcell 3 _ rfl)
      have c4 := (hb.cell (p := ⟨b, off + i * 5 + 4, none⟩) hbb).trans (hcell 4 _ rfl)
      have hS := HSUCC.out i (by rw [HM.out]; exact hlt)
      have hA := HALL.out (i + 1)
      have CI := fun W (hW : Below w.heap.size w W) => IH (hkid.below hW) (by omega)
      have HS := Lib.hid hS
      have HBB := Lib.hid hb
      rw [hS] at hA
      obtain ⟨x, hx⟩ : ∃ x, cntTo n l i = x := ⟨_, rfl⟩
      obtain ⟨y, hy⟩ : ∃ y, (entsT n (kidAt l i)).length = y := ⟨_, rfl⟩
      rw [hx, hy] at hA HS
      rw [hx]
      rw [hy] at CI
      clear hS hx hy hkid hcell hb
      go_wp2_with fail
      have hb8 : Below w.heap.size w (wr.alloc (.cells #[.int .i64 u0, .bool u1, .slice u2 u3 u4, .slice u5 u6 u7, .slice u8 u9 u10] 50)) := Below.al HBB.out
      refine (CI _ hb8).mono ?_
      rintro e w9 ⟨rfl, hb9⟩
      have HB9 : Hid (Below w.heap.size w w9) := Lib.hid (hb8.trans (hb9.mono hb8.size))
      have hadd : IntKind.i64.wrap ((x : Int) + (y : Int)) = (x : Int) + (y : Int) := IntWalk.i64_in _ (by omega)
      have hadd1 : IntKind.i64.wrap ((i : Int) + 1) = (i : Int) + 1 := IntWalk.i64_in _ (by have := HM.out; omega)
      clear CI hb9 hb8
      go_wp2_with fail
      go_roundw
      case rel => exact ⟨i + 1, hlt, by go_num, by rw [HS.out]; go_num, HB9.out⟩
      case measure => simp [intOf]; omega
    · obtain rfl : i = m := by omega
      have hlt' : decide ((i : Int) < (i : Int)) = false := by simp
      go_wp2_with fail
      go_ret
      exact ⟨rfl, hb⟩
theorem count_leaf {n : Nat} {w : World} {cs : List Value} {p : Int} {l : List (List UInt8 × Tv)} (h : NodeIn (n + 1) w cs (.leaf p l)) :
    Calls Tryz.prog 82 #[.agg cs.toArray] w fun e w' => e = .returned (.int .i64 ((entsT (n + 1) (.leaf p l)).length : Int)) ∧ Below w.heap.size w w' := by
  obtain ⟨ka, kn, kc, va, vn, vc, ca, cn, cc, K, V, C, rfl, h1, _, _, h4⟩ := h.open
  have hkn : kn = l.length := by rw [← h1.1, h4.lens.1]; rfl
  subst hkn
  show Calls _ _ _ _ fun e w' => e = .returned (.int .i64 (l.length : Int)) ∧ _
  have hx0 : Boxes (w.alloc (.cells #[.int .i64 (Tr.leaf p l).page, .bool (Tr.leaf p l).isLeaf, .slice ka l.length kc, .slice va vn vc, .slice ca cn cc] 50)) [(w.heap.size, [.int .i64 (Tr.leaf p l).page, .bool (Tr.leaf p l).isLeaf, .slice ka l.length kc, .slice va vn vc, .slice ca cn cc])] := (Boxes.nil w).alloc #[.int .i64 (Tr.leaf p l).page, .bool (Tr.leaf p l).isLeaf, .slice ka l.length kc, .slice va vn vc, .slice ca cn cc] 50 (b := w.heap.size) rfl
  have n1 := hx0.cell 0 1 rfl rfl
  have n2 := hx0.cell 0 2 rfl rfl
  have hb0 : Below w.heap.size w (w.alloc (.cells #[.int .i64 (Tr.leaf p l).page, .bool (Tr.leaf p l).isLeaf, .slice ka l.length kc, .slice va vn vc, .slice ca cn cc] 50)) := Below.al (Below.refl _ _)
  clear h h1 h4 hx0
  dsimp only [Tr.page, Tr.isLeaf] at *
  go_enter Tryz.func82, Tryz.ntmps82
  go_wp2_with fail
  go_ret
  exact ⟨rfl, hb0⟩
theorem count_any : ∀ {n : Nat} {w : World} {cs : List Value} {t : Tr}, NodeIn n w cs t → (entsT n t).length ≤ 100000 → Calls Tryz.prog 82 #[.agg cs.toArray] w fun e w' => e = .returned (.int .i64 ((entsT n t).length : Int)) ∧ Below w.heap.size w w'
  | 0, _, _, _, h, _ => h.elim
  | _n + 1, _, _, .leaf _p _l, h, _ => count_leaf h
  | _n + 1, _, _, .node _p _l, h, he => count_node (fun h he => count_any h he) h he
end Go.Proofs.YtpghlmcoajaiiaaGreatDoor

/- Views: a bucket's pairs from a key on. -/
namespace Go.Proofs.YtpghlmcoajaiiaaGreatDoor
open Go.RowKit

/-- A pair's words. -/
def pCell (c : List UInt8 × Tv) : Cl 2 := ⟨[.string (strOf c.1), .string (strOf c.2.data)], rfl, by intro u hu; simp at hu; rcases hu with rfl | rfl <;> rfl⟩
def pairsC (R : List (List UInt8 × Tv)) : List (Cl 2) := R.map pCell
/-- Pairs in a row of the call's own. -/
def ScanTo (E : TypeId) (w : World) (R : List (List UInt8 × Tv)) (er : Int) (e : Ending) (w' : World) : Prop :=
  ∃ a c, e = .returned (.tuple #[.slice a R.length c, .int .i64 er]) ∧ R.length ≤ c ∧ c ≤ 9223372036854775807 ∧ w'.ownsRow w.heap.size E 2 (.slice a R.length c) R.length (flatC (pairsC R)) ∧ Below w.heap.size w w'
theorem vown_types {w : World} {b1 b2 s1 s2 n1 n2 : Nat} {e1 e2 : TypeId} {v1 v2 : Value} {xs1 xs2 : List Value} (h1 : w.ownsRow b1 e1 s1 v1 n1 xs1) (h2 : w.ownsRow b2 e2 s2 v2 n2 xs2) (hne : e1 ≠ e2) {g : Nat} (hg1 : v1.ownBlock = some g) : v2.ownBlock ≠ some g := by
  intro hg2
  rcases h1.2 with ⟨rfl, rfl⟩ | ⟨g1, cap, cur, rfl, _, hg, _⟩
  · cases hg1
  · rcases h2.2 with ⟨rfl, rfl⟩ | ⟨g2, cap2, cur2, rfl, _, hg', _⟩
    · cases hg2
    · simp [Value.ownBlock] at hg1 hg2
      subst hg1 hg2
      rw [hg] at hg'
      cases hg'
      exact hne rfl
theorem seek_root {F : Nat → Prop} {N : Nat} {w : World} {cs : List Value} {t : Tr} (hF : ∀ x, F x → x < w.heap.size) (h : NodeOn F N w cs t) (hw : Whole N t) (hN : N ≤ 200) (key : List UInt8) :
    Calls Tryz.prog 121 #[.agg cs.toArray, .string (strOf key)] w (SeekTo F N w ((entsT N t).drop (posK key (keysOf (entsT N t))))) :=
  seek_any hF h hw.1.1 (by have := hw.1.2.1; omega) hN key (knil key) (ltH_nil key)
theorem drop_cons_take {α : Type} {R T : List α} {i : Nat} {x : α} (h : R.drop i = x :: T) : i < R.length ∧ R.take (i + 1) = R.take i ++ [x] ∧ R.drop (i + 1) = T := by
  have hl : i < R.length := by
    have := congrArg List.length h
    simp at this; omega
  rw [List.drop_eq_getElem_cons hl] at h
  injection h with h1 h2
  exact ⟨hl, by rw [List.take_succ_eq_append_getElem hl, h1], h2⟩
theorem scan_end {E : TypeId} {w w' : World} {B : Nat} {R : List (List UInt8 × Tv)} {most : Int} {i : Nat} {ao : Option Addr} {co : Nat} (hi : i ≤ R.length) (h9 : R.take most.toNat = R.take i) (ho : w'.ownsRow B E 2 (.slice ao i co) i (flatC (pairsC (R.take i)))) (hB : w.heap.size ≤ B) (hb : Below w.heap.size w w') (hc : co ≤ 9223372036854775807) (hic : i ≤ co) :
    ScanTo E w (R.take most.toNat) 0 (.returned (.tuple #[.slice ao i co, .int .i64 0])) w' := by
  have hl : (R.take i).length = i := by rw [List.length_take]; omega
  rw [h9]
  unfold ScanTo
  rw [hl]
  exact ⟨ao, co, rfl, hic, hc, own_base ho hB, hb⟩
theorem info_pair : RowInfo Tryz.prog 250 2 32 := row_info (by kernel_rfl)
/-- No such bucket. -/
theorem scan_none {F : Nat → Prop} {w : World} {cs : List Value} {v : Vw} (h : ViewOn F w cs v) (hn : v.l.length ≤ 1000) (hs : (v.l.map (·.name)).Pairwise (fun a b => a < b)) (name : List UInt8) (hhas : hasK name (v.l.map (·.name)) = false) (key : List UInt8) (most : Int) :
    Calls Tryz.prog 84 #[.agg cs.toArray, .string (strOf name), .string (strOf key), .int .i64 most] w fun e w' => e = .returned (.tuple #[.slice none 0 0, .int .i64 32]) ∧ Below w.heap.size w w' := by
  obtain ⟨a1, c1, a2, n2, c2, a3, n3, c3, a, c, rfl, hd, hl, hfa⟩ := h.raw
  obtain ⟨pg, hpg⟩ : ∃ z, v.dir.page = z := ⟨_, rfl⟩
  obtain ⟨lf, hlf⟩ : ∃ z, v.dir.isLeaf = z := ⟨_, rfl⟩
  obtain ⟨cn, hcn⟩ : ∃ z, cntT v.dir = z := ⟨_, rfl⟩
  obtain ⟨m, hm⟩ : ∃ z, v.l.length = z := ⟨_, rfl⟩
  rw [hm] at hn hl hfa
  rw [hpg, hlf, hcn] at hd
  rw [hpg, hlf, hcn, hm]
  obtain ⟨W1, hW1⟩ : ∃ x, w.alloc (.cells #[.int .i64 pg, .bool lf, .slice a1 cn c1, .slice a2 n2 c2, .slice a3 n3 c3, .slice a m c] 75) = x := ⟨_, rfl⟩
  have hb1 : Below w.heap.size w W1 := by rw [← hW1]; exact Below.al (Below.refl _ _)
  have hx1 : Boxes W1 [(w.heap.size, [.int .i64 pg, .bool lf, .slice a1 cn c1, .slice a2 n2 c2, .slice a3 n3 c3, .slice a m c])] := by
    rw [← hW1]
    exact (Boxes.nil w).alloc #[.int .i64 pg, .bool lf, .slice a1 cn c1, .slice a2 n2 c2, .slice a3 n3 c3, .slice a m c] 75 (b := w.heap.size) rfl
  have C1 := vfind_any (tab_names (TabR.move hl hb1 (fun cs y _ h => h.agree (.of_below hb1)))) (by omega) hs (.int .i64 pg) (.bool lf) (.slice a1 cn c1) (.slice a2 n2 c2) (.slice a3 n3 c3) name
  rw [hhas] at C1
  obtain ⟨P, hP⟩ : ∃ z, posK name (v.l.map (·.name)) = z := ⟨_, rfl⟩
  rw [hP] at C1
  have g0 := hx1.cell 0 0 rfl rfl
  have g1 := hx1.cell 0 1 rfl rfl
  have g2 := hx1.cell 0 2 rfl rfl
  have g3 := hx1.cell 0 3 rfl rfl
  have g4 := hx1.cell 0 4 rfl rfl
  have g5 := hx1.cell 0 5 rfl rfl
  have HB1 := Lib.hid hb1
  clear hx1 hb1 hP hpg hlf hcn hm hhas h hd hl hfa hs
  go_enter Tryz.func84, Tryz.ntmps84
  go_wp2_with fail
  refine C1.mono ?_
  rintro e w3 ⟨rfl, hb3⟩
  have HB3 := Lib.hid (below_via HB1.out hb3)
  clear hb3 C1 g0 g1 g2 g3 g4 g5
  go_wp2_with fail
  go_ret2
  exact ⟨rfl, HB3.out⟩
set_option maxRecDepth 100000 in
set_option maxHeartbeats 4000000 in
set_option maxRecDepth 100000 in
theorem scan_any {F : Nat → Prop} {w : World} {cs : List Value} {v : Vw} (hF : ∀ b, F b → b < w.heap.size) (h : ViewOn F w cs v) (hn : v.l.length ≤ 1000) (hs : (v.l.map (·.name)).Pairwise (fun a b => a < b)) (name : List UInt8) {p : Nat} {bk : Bkt} (hpos : posK name (v.l.map (·.name)) = p) (hbk : v.l[p]? = some bk) (hname : bk.name = name) (hwb : Whole bk.lv bk.tree) (hlv : bk.lv ≤ 200)
    (key : List UInt8) (most : Int) {R : List (List UInt8 × Tv)} (hR : (entsT bk.lv bk.tree).drop (posK key (keysOf (entsT bk.lv bk.tree))) = R) (hR9 : R.length ≤ 100000) :
    Calls Tryz.prog 84 #[.agg cs.toArray, .string (strOf name), .string (strOf key), .int .i64 most] w (ScanTo 250 w (R.take most.toNat) 0) := by
  obtain ⟨a1, c1, a2, n2, c2, a3, n3, c3, a, c, rfl, hd, hl, hfa⟩ := h.raw
  obtain ⟨pg, hpg⟩ : ∃ z, v.dir.page = z := ⟨_, rfl⟩
  obtain ⟨lf, hlf⟩ : ∃ z, v.dir.isLeaf = z := ⟨_, rfl⟩
  obtain ⟨cn, hcn⟩ : ∃ z, cntT v.dir = z := ⟨_, rfl⟩
  obtain ⟨m, hm⟩ : ∃ z, v.l.length = z := ⟨_, rfl⟩
  rw [hm] at hn hl hfa
  rw [hpg, hlf, hcn] at hd
  rw [hpg, hlf, hcn, hm]
  have hpm : p < m := by rw [← hm]; exact (List.getElem?_eq_some_iff.1 hbk).1
  have hhas : hasK name (v.l.map (·.name)) = true := by
    unfold hasK
    rw [hpos, List.getElem?_map, hbk]
    simp [hname]
  obtain ⟨W1, hW1⟩ : ∃ x, w.alloc (.cells #[.int .i64 pg, .bool lf, .slice a1 cn c1, .slice a2 n2 c2, .slice a3 n3 c3, .slice a m c] 75) = x := ⟨_, rfl⟩
  have hb1 : Below w.heap.size w W1 := by rw [← hW1]; exact Below.al (Below.refl _ _)
  have hx1 : Boxes W1 [(w.heap.size, [.int .i64 pg, .bool lf, .slice a1 cn c1, .slice a2 n2 c2, .slice a3 n3 c3, .slice a m c])] := by
    rw [← hW1]
    exact (Boxes.nil w).alloc #[.int .i64 pg, .bool lf, .slice a1 cn c1, .slice a2 n2 c2, .slice a3 n3 c3, .slice a m c] 75 (b := w.heap.size) rfl
  have C1 := vfind_any (tab_names (TabR.move hl hb1 (fun cs y _ h => h.agree (.of_below hb1)))) (by omega) hs (.int .i64 pg) (.bool lf) (.slice a1 cn c1) (.slice a2 n2 c2) (.slice a3 n3 c3) name
  rw [hpos, hhas] at C1
  have g0 := hx1.cell 0 0 rfl rfl
  have g1 := hx1.cell 0 1 rfl rfl
  have g2 := hx1.cell 0 2 rfl rfl
  have g3 := hx1.cell 0 3 rfl rfl
  have g4 := hx1.cell 0 4 rfl rfl
  have g5 := hx1.cell 0 5 rfl rfl
  have HX1 := Lib.hid hx1
  have HB1 := Lib.hid hb1
  clear hx1 hb1 hpg hlf hcn hm
  go_enter Tryz.func84, Tryz.ntmps84
  go_wp2_with fail
  refine C1.mono ?_
  rintro e w3 ⟨rfl, hb3⟩
  have HX3 := Lib.hid (HX1.out.step hb3)
  have HB3 := Lib.hid (below_via HB1.out hb3)
  clear hb3 C1 g0 g1 g2 g3 g4 g5
  have g5 := HX3.out.cell 0 5 rfl rfl
  have hl3 := TabR.move hl HB3.out (fun cs y _ h => h.agree (.of_below HB3.out))
  obtain ⟨qb, off, y, ycs, rfl, hqb, hy, _, ⟨ts, rfl, hn3'⟩, hcell⟩ := TabR.at hl3 hpm
  rw [hbk] at hy
  cases hy
  obtain ⟨x1, k1, x2, l2, k2, x3, l3, k3, V, C, e1, _⟩ := hn3'.open_pos
  subst e1
  have hF3 : ∀ b, F b → b < w3.heap.size := fun b hb => Nat.lt_of_lt_of_le (hF b hb) HB3.out.size
  have CP1 := seek_root hF3 hn3' hwb hlv key
  rw [hR] at CP1
  obtain ⟨tp, htp⟩ : ∃ z, bk.tree.page = z := ⟨_, rfl⟩
  obtain ⟨tf, htf⟩ : ∃ z, bk.tree.isLeaf = z := ⟨_, rfl⟩
  obtain ⟨tc, htc⟩ : ∃ z, cntT bk.tree = z := ⟨_, rfl⟩
  have c1' := hcell 1 _ rfl
  have c2' := hcell 2 _ rfl
  have c3' := hcell 3 _ rfl
  have c4' := hcell 4 _ rfl
  have c5' := hcell 5 _ rfl
  rw [htp, htf, htc] at CP1
  rw [htp] at c1'
  rw [htf] at c2'
  rw [htc] at c3'
  have d0 : decide ((p : Int) < (m : Int)) = true := by simp; omega
  have d1 : decide ((0 : Int) ≤ (p : Int)) = true := by simp
  obtain ⟨N, hN⟩ : ∃ z, bk.lv = z := ⟨_, rfl⟩
  rw [hN] at CP1 hlv
  clear hcell hn3' hl3 hname hbk htp htf htc hd hfa hhas hpos h hl hW1 hR hwb hN
  go_wp2_with fail
  refine CP1.mono ?_
  rintro e w4 ⟨v4, rfl, hcur, hb4⟩
  have HB4 := Lib.hid (below_via HB3.out hb4)
  have h34 := hb4.size
  obtain ⟨cb, hcb⟩ : ∃ z, w3.heap.size + 1 = z := ⟨_, rfl⟩
  have hcur' : Cur N (cb + 1) cb F w4 v4 R := by rw [← hcb]; exact hcur
  rw [hcb]
  have hcb4 : cb < w4.heap.size := hcur'.lt9
  have hwcb : w.heap.size < cb := by have := HB3.out.size; omega
  have HC4 := Lib.hid hcur'
  have HR9 := Lib.hid hR9
  clear CP1 c1' c2' c3' c4' c5' g5 hcur hcur' hb4 hcb h34 d0 d1
  go_wp2_with fail
  go_loopw [12] (fun s wr => ∃ (i : Nat) (ao : Option Addr) (co : Nat) (vc : Value), s = .slice ao i co ∧ i ≤ R.length ∧ i ≤ most.toNat ∧ co ≤ 9223372036854775807 ∧ i ≤ co ∧ wr.ownsRow w4.heap.size 250 2 (.slice ao i co) i (flatC (pairsC (R.take i))) ∧ Cur N (cb + 1) cb F wr vc (R.drop i) ∧ Below w.heap.size w wr ∧ w4.heap.size ≤ wr.heap.size) (fun s _ => most.toNat - (match s with | .slice _ n _ => n | _ => 0))
  case atStart => exact ⟨0, none, 0, v4, rfl, Nat.zero_le _, Nat.zero_le _, by omega, Nat.zero_le _, own_nil _ _ _ _, HC4.out, HB4.out, Nat.le_refl _⟩
  case round =>
    clear HC4
    obtain ⟨i, ao, co, vc, rfl, hiR, him, hco, hico, hown, hcur, hbr, h4r⟩ := hrel
    by_cases hlt : (i : Int) < most
    · have e0 : decide ((i : Int) < most) = true := by simpa using hlt
      have CN := next_cur hcur (by omega) (by omega)
      obtain ⟨T, hT⟩ : ∃ T, R.drop i = T := ⟨_, rfl⟩
      rw [hT] at CN hcur
      have hHF : ∀ x, F x → x < cb := by
        obtain ⟨r, ⟨_, _, h3, _⟩, _⟩ := hcur
        exact h3
      have KEEP : ∀ w5 v5, CurStay cb vc wr w5 v5 → w5.ownsRow w4.heap.size 250 2 (.slice ao i co) i (flatC (pairsC (R.take i))) ∧ Below w.heap.size w w5 ∧ w4.heap.size ≤ w5.heap.size := fun w5 v5 hst => by
        have hge := hcur.ge
        have hgo := own_ge hown
        obtain ⟨r, ⟨_, _, _, L, h4, _⟩, _⟩ := hcur
        exact ⟨own_agree hown hst.1 (fun g hg => ⟨by have := hgo g hg; omega, vown_types hown h4 (by decide) hg⟩), hbr.trans (hst.toBelow (by omega) (fun g hg => by have := hge g hg; omega) hbr.size), Nat.le_trans h4r hst.1.1⟩
      have HKEEP := Lib.hid KEEP
      have HT := Lib.hid hT
      have HLT := Lib.hid hlt
      cases T with
      | nil =>
        have HI : Hid (i = R.length) := Lib.hid (by
          have := congrArg List.length hT
          simp at this; omega)
        have CN' : Calls Tryz.prog 122 #[.pointer (some ⟨cb, 0, none⟩)] wr (fun e w' => e = .returned (.tuple #[.string (strOf []), .string (strOf []), .bool false]) ∧ ∃ v', Cur N (cb + 1) cb F w' v' [] ∧ CurStay cb vc wr w' v') := CN
        clear CN hown hcur hbr hT KEEP hlt
        go_wp2_with fail
        refine CN'.mono ?_
        rintro e w5 ⟨rfl, v5, hc5, hst5⟩
        obtain ⟨k1, k2, k3⟩ := HKEEP.out w5 v5 hst5
        have HE := Lib.hid (scan_end (most := most) (by omega) (by rw [List.take_of_length_le (by have := HI.out; omega), List.take_of_length_le (by have := HI.out; omega)]) k1 HB4.out.size k2 hco hico)
        clear k1 k2 k3 hc5 hst5 CN'
        go_wp2_with fail
        go_ret2
        exact HE.out
      | cons x T =>
        have CN' : Calls Tryz.prog 122 #[.pointer (some ⟨cb, 0, none⟩)] wr (fun e w' => e = .returned (.tuple #[.string (strOf x.1), .string (strOf x.2.data), .bool true]) ∧ ∃ v', Cur N (cb + 1) cb F w' v' T ∧ CurStay cb vc wr w' v') := CN
        clear CN hown hcur hbr hT KEEP hlt
        go_wp2_with fail
        refine CN'.mono ?_
        rintro e w5 ⟨rfl, v5, hc5, hst5⟩
        obtain ⟨k1, k2, k3⟩ := HKEEP.out w5 v5 hst5
        obtain ⟨t1, t2, t3⟩ := drop_cons_take HT.out
        obtain ⟨ii, zz, q1, q2, q3, q4, q5⟩ := info_pair
        obtain ⟨v6, w6, hr6, ho6, hg6, _⟩ := run_append_new (P := Tryz.prog) w4.heap.size 184 250 ii zz 2 32 Tryz.underlying184 q1 q2 q3 q4 q5 (by decide) k1 #[.string (strOf x.1), .string (strOf x.2.data)] rfl (by intro u hu; simp at hu; rcases hu with rfl | rfl <;> rfl) (by unfold maxLen; omega) (by omega) k3
        have e6 : flatC (pairsC (R.take i)) ++ (#[.string (strOf x.1), .string (strOf x.2.data)] : Array Value).toList = flatC (pairsC (R.take (i + 1))) := by
          rw [t2, pairsC, pairsC, List.map_append, flatC_append]; rfl
        rw [e6] at ho6
        obtain ⟨a6, c6, rfl, hc6, hc69, _⟩ := own_slice ho6
        unfold maxLen at hc69
        have hge6 := own_ge k1
        have hc9 : Cur N (cb + 1) cb F w6 v5 T := hc5.agree ⟨hg6.size, fun b hb hlt => hg6.block b hlt (fun e => by
          have hgb := hge6 b e.symm
          obtain ⟨r, ⟨_, _, _, L, h4, _⟩, _⟩ := hc5
          rcases hb with hb | hb | hb
          · have := hHF b hb; omega
          · omega
          · exact vown_types k1 h4 (by decide) e.symm hb)⟩
        have HREL := Lib.hid (And.intro t1 (And.intro ho6 (And.intro (show Cur N (cb + 1) cb F w6 v5 (R.drop (i + 1)) by rw [t3]; exact hc9) (And.intro (k2.grown hg6 k2.size (fun k hk => by have := hge6 k hk; have := HB4.out.size; omega)) (Nat.le_trans k3 hg6.size)))))
        clear k1 k2 k3 hc5 hst5 CN' q1 q2 q3 q4 q5 ho6 hg6 hc9 t1 t2 t3 e6 hge6 hHF
        go_wp2_with (at_builtin; refine wpList_append_run rfl _ _ _ _ rfl rfl rfl hr6 ?_)
        go_roundw
        case rel =>
          obtain ⟨r1, r2, r3, r4, r5⟩ := HREL.out
          exact ⟨i + 1, a6, c6, v5, rfl, by omega, by have := HLT.out; omega, hc69, hc6, r2, r3, r4, r5⟩
        case measure => have := HLT.out; simp; omega
    · have e0 : decide ((i : Int) < most) = false := by simpa using hlt
      have hi9 : most.toNat = i := by omega
      have HE := Lib.hid (scan_end (most := most) hiR (by rw [hi9]) hown HB4.out.size hbr hco hico)
      clear hown hcur hbr hlt hi9
      go_wp2_with fail
      go_ret2
      exact HE.out
end Go.Proofs.YtpghlmcoajaiiaaGreatDoor

/- A round of a range over a function: what a region does outside of a round it does within one. -/
namespace Go.Proofs.YtpghlmcoajaiiaaGreatDoor
open Go.RowKit

/-- Q, but 'False' where the code is left in another way. -/
def Calm (Q : Exit → Act → World → Prop) : Exit → Act → World → Prop
  | .normal, a, w => Q .normal a w
  | _, _, _ => False
theorem Calm.out {Q : Exit → Act → World → Prop} : ∀ (e : Exit) (a : Act) (w : World), Calm Q e a w → Q e a w := fun e a w h => by
  cases e <;> first | exact h | exact (h : False).elim
section
variable {P : Program} {l n : Nat} {Q : Exit → Act → World → Prop}
theorem Calm.normal {Q : Exit → Act → World → Prop} {a : Act} {w : World} (h : Q .normal a w) : Calm Q .normal a w := h
end

theorem wpListIn_append_run {F : Fence} {n : Nat} {P : Program} {w : World} {ops : Array Oper} {rest : List Oper} {o : Oper} {a : Act} {Q : Exit → Act → World → Prop} (hgd : o.guard = none) (s x : Operand) (t u : TypeId)
    (ho : o.op = .call { callee := .builtin .append, args := #[s, x], argTypes := #[t, u] }) {v y v' : Value} {w' : World} (hs : a.eval s = v) (hx : a.eval x = y)
    (hrun : (Builtin.append_ #[t, u] o.type #[v, y]).run P w = .ok v' w') (h : wpListIn F n P ops Q rest (a.put o.dst v') w') : wpListIn F n P ops Q (o :: rest) a w := by
  refine wpListIn_plain hgd fun K hK' => ?_
  unfold Oper.wpIn
  refine ⟨?_, ?_⟩
  · simp [Oper.about, ho, resolve, Target.leads, Sem.run_pure]
  · rw [Oper.semAt_plain F _ _ (by rw [ho]; intro c hc'; cases hc')]
    simp [execOp, ho, resolve, invoke, builtin, hs, hx, hrun, Result.andThen]
    exact hK' _ _ h

end Go.Proofs.YtpghlmcoajaiiaaGreatDoor

/- Boxes that a round's body leaves alone. -/
namespace Go.Proofs.YtpghlmcoajaiiaaGreatDoor
open Go.RowKit Go.Shelf
attribute [local go_sem] Oper.semAt_some

/-- Boxes that a body leaves alone. -/
def KeepC (n₀ : Nat) (bs : List Nat) (A B : World) : Prop := Below n₀ A B ∧ ∀ k ∈ bs, ∀ o, A.heap[k]? = some o → o.isCells = true → B.heap[k]? = some o
theorem KeepC.refl (n₀ : Nat) (bs : List Nat) (A : World) : KeepC n₀ bs A A := ⟨Below.refl _ _, fun _ _ _ h _ => h⟩
theorem keepC_t {n₀ : Nat} {bs : List Nat} {A B C : World} (h : KeepC n₀ bs A B) (k : KeepC n₀ bs B C) : KeepC n₀ bs A C := ⟨h.1.trans k.1, fun i hi o ho hc => k.2 i hi o (h.2 i hi o ho hc) hc⟩
theorem KeepC.drewN {n₀ : Nat} {bs : List Nat} {A B : World} (h : KeepC n₀ bs A B) (m : Nat) : KeepC n₀ bs A (B.drewN m) := ⟨below_drewN h.1 m, h.2⟩
theorem keepC_b {n₀ : Nat} {bs : List Nat} {w : World} (hn : n₀ ≤ w.heap.size) (W : World) (l : Nat) (o o' : Obj) (hl : w.heap.size ≤ l) (h : W.heap[l]? = some o) (hc : o.isCells = false) (hw : o.isWalk = false) : KeepC n₀ bs W (W.putObj l o') := by
  refine ⟨belowK_b hn W l o o' hl h hc hw, fun k _ o2 ho hc2 => ?_⟩
  have hne : k ≠ l := by
    intro e; subst e
    rw [h] at ho; cases ho
    rw [hc] at hc2; cases hc2
  rw [World.putObj_heap_other (by omega)]; exact ho
end Go.Proofs.YtpghlmcoajaiiaaGreatDoor

/- Records: the iterator over the records of pairs. -/
namespace Go.Proofs.YtpghlmcoajaiiaaGreatDoor
open Go.RowKit Go.Shelf
attribute [local go_sem] Oper.semAt_some

/-- The bytes of the k-th pair. -/
def datR (R : List (List UInt8 × Tv)) (k : Nat) : List UInt8 := ((R[k]?).map (·.2.data)).getD []
theorem datR_at {R : List (List UInt8 × Tv)} {k : Nat} {x : List UInt8 × Tv} (h : R[k]? = some x) : datR R k = x.2.data := by unfold datR; rw [h]; rfl
theorem each_any (a : Option Addr) (m c : Nat) (w : World) :
    Calls Tryz.prog 85 #[.slice a m c] w fun e w' => e = .returned (.func (.func 123) #[] #[.pointer (some ⟨w.heap.size, 0, none⟩)]) ∧ w.alloc (.cells #[.slice a m c] 184) = w' := by
  go_enter Tryz.func85, Tryz.ntmps85
  go_wp2
  go_ret
  exact ⟨rfl, rfl⟩
/-- Pairs at a block. -/
def PairsAt (W : World) (g : Nat) (R : List (List UInt8 × Tv)) : Prop := ∀ k x, R[k]? = some x → g < W.heap.size ∧ W.cell? ⟨g, k * 2, none⟩ = some (.string (strOf x.1)) ∧ W.cell? ⟨g, k * 2 + 1, none⟩ = some (.string (strOf x.2.data))
theorem PairsAt.same {W W' : World} {g : Nat} {R : List (List UInt8 × Tv)} (h : PairsAt W g R) (hs : W.heap.size ≤ W'.heap.size) (hb : g < W.heap.size → W'.heap[g]? = W.heap[g]?) : PairsAt W' g R := fun k x hx => by
  obtain ⟨h1, h2, h3⟩ := h k x hx
  exact ⟨by omega, (World.cell?_of_block (hb h1)).trans h2, (World.cell?_of_block (hb h1)).trans h3⟩
theorem pairs_at {W : World} {B : Nat} {E : TypeId} {a : Option Addr} {c : Nat} {R : List (List UInt8 × Tv)} (h : W.ownsRow B E 2 (.slice a R.length c) R.length (flatC (pairsC R))) : ∃ g, (0 < R.length → a = some ⟨g, 0, none⟩) ∧ PairsAt W g R ∧ (0 < R.length → B ≤ g ∧ ∃ o, W.heap[g]? = some o ∧ o.isCells = true) ∧ (R.length = 0 → g = 0) := by
  by_cases h0 : 0 < R.length
  · obtain ⟨a', c', e, _, _, hg⟩ := own_slice h
    cases e
    obtain ⟨g, rfl⟩ := hg h0
    have hr := Raw.of_sl h (show (pairsC R).length = R.length by unfold pairsC; simp)
    refine ⟨g, fun _ => rfl, fun k x hx => ?_, fun _ => ⟨own_ge h g rfl, ?_⟩, fun h => by omega⟩
    · have hk := (List.getElem?_eq_some_iff.1 hx).1
      have ht : TabR 2 (fun cs (y : List UInt8 × Tv) => cs = (pCell y).1) W (some ⟨g, 0, none⟩) R.length c R := Raw.tab hr ⟨by unfold pairsC; simp, fun i u y hu hy => by
        unfold pairsC at hu
        rw [List.getElem?_map, hy] at hu
        cases hu; rfl⟩
      obtain ⟨b, off, y, cs, e, hb, hy, _, rfl, hc⟩ := TabR.at ht hk
      cases e
      rw [hx] at hy
      cases hy
      have c0 := hc 0 _ rfl
      have c1 := hc 1 _ rfl
      simp only [Nat.zero_add, Nat.add_zero] at c0 c1
      exact ⟨hb, c0, c1⟩
    · rcases h.2 with ⟨h1, _⟩ | ⟨g', cap, cur, h1, _, h3, _⟩
      · cases h1
      · cases h1; exact ⟨_, h3, rfl⟩
  · exact ⟨0, fun h => absurd h h0, fun k x hx => absurd (List.getElem?_eq_some_iff.1 hx).1 (by omega), fun h => absurd h h0, fun _ => rfl⟩
set_option maxRecDepth 100000 in
set_option maxHeartbeats 4000000 in
theorem each1_in (n : Nat) (hn : 1 ≤ n) (l' Bs n₀ : Nat) (a : Option Addr) (g m c : Nat) (R : List (List UInt8 × Tv)) (hm : R.length = m) (ha : 0 < m → a = some ⟨g, 0, none⟩) (hm9 : m ≤ 100000) (hd9 : ∀ x ∈ R, x.2.data.length ≤ 100000) (J Jx : List (Fin m) → World → Prop)
    (hY : ∀ pre x W, J pre W → pre.length < m → YieldAt Fence.wide (n - 1) Tryz.prog l' #[rcV (getR (datR R x.1)), .int .i64 (getRE (datR R x.1))] W fun e W' =>
      (e = .returned (.bool true) ∧ J (pre ++ [x]) W' ∧ KeepC n₀ [Bs, g] W W') ∨ (e = .returned (.bool false) ∧ Jx (pre ++ [x]) W'))
    (W : World) (hn0 : n₀ ≤ W.heap.size) (hBs : W.heap[Bs]? = some (.cells #[.slice a m c] 184 (0, 0))) (hP : PairsAt W g R) (hPc : 0 < m → ∃ o, W.heap[g]? = some o ∧ o.isCells = true) (h0 : J [] W) (hJd : ∀ pre W W', J pre W → Below W.heap.size W W' → J pre W') :
    CallsIn Fence.wide n Tryz.prog 123 #[.func (.yield l') #[] #[], .pointer (some ⟨Bs, 0, none⟩)] W fun e W' => (∃ v, e = .returned v) ∧
      ((∃ ys, ys.map Fin.val = List.range m ∧ J ys W') ∨ (∃ pre, pre.map Fin.val = List.range pre.length ∧ Jx pre W')) := by
  refine callsIn_of_wp Tryz.func123 rfl trivial ?_ rfl
  simp only [Tryz.ntmps123, List.size_toArray, List.length_cons, List.length_nil, Nat.reduceAdd, Nat.reduceSub, Array.replicate_succ, Array.replicate_zero, List.push_toArray, List.append_toArray, List.nil_append, List.cons_append]
  have b0 : W.cell? ⟨Bs, 0, none⟩ = some (.slice a m c) := by simp [World.cell?, hBs]
  have HBs := Lib.hid hBs
  have HP := Lib.hid hP
  have HPc := Lib.hid hPc
  have HM := Lib.hid hm
  have HD := Lib.hid hd9
  clear hBs hP hPc hm hd9
  gi_wp2
  clear b0
  gi_loopw [7] (fun s7 wr => ∃ (k : Nat) (pre : List (Fin m)), pre.map Fin.val = List.range k ∧ s7 = .int .i64 (k : Int) ∧ k ≤ m ∧ J pre wr ∧ KeepC n₀ [Bs, g] W wr)
    (fun s7 _ => m - (intOf s7).toNat)
  case atStart => exact ⟨0, [], rfl, rfl, Nat.zero_le _, h0, KeepC.refl _ _ _⟩
  case round =>
    obtain ⟨k, pre, hpre, rfl, hk, hJ, hkc⟩ := hrel
    by_cases hlt : k < m
    · obtain rfl := ha (by omega)
      clear ha
      obtain ⟨o, ho, hoc⟩ := HPc.out (by omega)
      have hg' := hkc.2 g (by simp) o ho hoc
      have hPr := HP.out.same hkc.1.size (fun _ => by rw [ho, hg'])
      obtain ⟨x, hx⟩ : ∃ x, R[k]? = some x := ⟨_, List.getElem?_eq_getElem (by rw [HM.out]; exact hlt)⟩
      obtain ⟨hgl, c0, c1⟩ := hPr k x hx
      have d0 : decide ((k : Int) < (m : Int)) = true := by simp; omega
      obtain ⟨fk, hfk⟩ : ∃ f : Fin m, f.1 = k := ⟨⟨k, hlt⟩, rfl⟩
      have HFK := Lib.hid hfk
      have HPR : Hid ((pre ++ [fk]).map Fin.val = List.range (k + 1)) := Lib.hid (by rw [List.map_append, hpre, List.range_succ, List.map_singleton, hfk])
      clear hfk
      have HPL : Hid (pre.length < m) := Lib.hid (by
        have := congrArg List.length hpre
        simp at this; omega)
      have HDT := Lib.hid (datR_at hx)
      have hxd := HD.out x (List.mem_of_getElem? hx)
      obtain ⟨dd, hdd⟩ : ∃ z, x.2.data = z := ⟨_, rfl⟩
      obtain ⟨kk, hkk⟩ : ∃ z, x.1 = z := ⟨_, rfl⟩
      rw [hdd] at hxd c1 HDT
      rw [hkk] at c0
      have hA1 : Below wr.heap.size wr (wr.alloc (.cells #[.string (strOf kk), .string (strOf dd)] 250)) := Below.al (Below.refl _ _)
      have CG := recget_any dd (wr.alloc (.cells #[.string (strOf kk), .string (strOf dd)] 250)) hxd
      clear hpre hx hdd hkk hg' hPr ho hoc
      gi_wp2_with (first | (refine ⟨trivial, ?_⟩; gi_at_call 20; refine (callsIn_wide.2 CG).mono ?_; rintro e w2 ⟨rfl, hb2⟩))
      have hB2 : Below wr.heap.size wr w2 := below_via hA1 hb2
      have hJ2 := hJd pre wr w2 hJ hB2
      have hk2 : KeepC n₀ [Bs, g] wr w2 := ⟨hB2.mono (Nat.le_trans hn0 hkc.1.size), fun b _ o ho _ => (hB2.block b (Array.getElem?_eq_some_iff.1 ho).1).trans ho⟩
      obtain ⟨fn, tmps, assign, body, hy, hR⟩ := hY pre fk w2 hJ2 HPL.out
      rw [HFK.out, HDT.out] at hy
      have HKC := Lib.hid (keepC_t hkc hk2)
      clear CG hb2 hA1 hB2 hJ2 hk2 hJ hkc c0 c1
      gi_wp2
      rw [hy, Oper.uponIn_round]
      refine ⟨fun _ => hn, hR.mono ?_⟩
      rintro e W3 (⟨rfl, hJ3, hk3⟩ | ⟨rfl, hJx3⟩)
      · have hk4 := keepC_t HKC.out hk3
        clear hk3
        gi_wp2
        go_roundw
        case rel => exact ⟨k + 1, _, HPR.out, by go_num, by omega, hJ3, hk4⟩
        case measure => simp [intOf]; omega
      · gi_wp2
        refine bodyPost_ret (results_none rfl _ _ _) rfl ?_
        exact ⟨⟨_, rfl⟩, .inr ⟨_, by rw [HPR.out, List.length_append, List.length_singleton, ← (show pre.length = k from by have := congrArg List.length HPR.out; simpa using this)], hJx3⟩⟩
    · obtain rfl : k = m := by omega
      have d0 : decide ((k : Int) < (k : Int)) = false := by simp
      have HPR := Lib.hid hpre
      clear hpre hkc
      gi_wp2
      go_end0
      exact ⟨⟨_, rfl⟩, .inl ⟨_, HPR.out, hJ⟩⟩
theorem each_stops (n : Nat) (hn : 1 ≤ n) (Bs n₀ : Nat) (a : Option Addr) (g m c : Nat) (R : List (List UInt8 × Tv)) (hm : R.length = m) (ha : 0 < m → a = some ⟨g, 0, none⟩) (hm9 : m ≤ 100000) (hd9 : ∀ x ∈ R, x.2.data.length ≤ 100000) (w : World) (hn0 : n₀ ≤ w.heap.size)
    (hBs : w.heap[Bs]? = some (.cells #[.slice a m c] 184 (0, 0))) (hP : PairsAt w g R) (hPc : 0 < m → ∃ o, w.heap[g]? = some o ∧ o.isCells = true) :
    SeqStopsK Fence.wide n Tryz.prog 123 #[.pointer (some ⟨Bs, 0, none⟩)] (fun x : Fin m => #[rcV (getR (datR R x.1)), .int .i64 (getRE (datR R x.1))]) (KeepC n₀ [Bs, g])
      (fun ys => ys.map Fin.val = List.range m) (fun pre => pre.map Fin.val = List.range pre.length) m w := fun l' J Jx W hW hA _ hY h0 => by
  have h1 := (hW.block Bs (Array.getElem?_eq_some_iff.1 hBs).1).trans hBs
  refine each1_in n hn l' Bs n₀ a g m c R hm ha hm9 hd9 J Jx (fun pre x W1 g1 g2 => hY pre x W1 g1 g2) W (Nat.le_trans hn0 hW.size) h1 (hP.same hW.size (fun h => hW.block g h)) (fun h => ?_) h0 (fun pre X X' hX hb => hA pre X X' none hX ⟨hb.os, hb.tape, hb.output, hb.size, fun k hk _ => hb.block k hk⟩ (fun r e => by cases e))
  obtain ⟨o, ho, hoc⟩ := hPc h
  exact ⟨o, (hW.block g (Array.getElem?_eq_some_iff.1 ho).1).trans ho, hoc⟩
end Go.Proofs.YtpghlmcoajaiiaaGreatDoor
