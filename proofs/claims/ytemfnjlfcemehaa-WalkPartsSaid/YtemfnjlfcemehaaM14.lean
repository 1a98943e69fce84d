/- Texts that other texts of this claim lean on, one behind the other. -/
import Derived.Test.YtemfnjlfcemehaaM13
import Derived.Test.YtemfnjlfcemehaaM6
import Derived.Test.YtemfnjlfcemehaaM3
import Derived.Test.YtemfnjlfcemehaaM2
import Derived.Test.YtemfnjlfcemehaaM4
import Derived.Deep.RegionHeld3
import Derived.Test.YtemfnjlfcemehaaM11
/- A cursor is sought (printed by gen_treKe.py). -/
namespace Go.Proofs.Ytemfnjlfcemehaa
open Go.RowKit

/-- A cursor that will tell some entries. -/
def Cur (N B b : Nat) (F : Nat → Prop) (w : World) (v : Value) (R : List (List UInt8 × Tv)) : Prop := ∃ r, CurAt 105 F N B b w v r ∧ Settled N r ∧ restC 1 r = R
theorem CurAt.agree {E : TypeId} {F : Nat → Prop} {N B b : Nat} {w w' : World} {v : Value} {r : List (Tr × Nat)} (h : CurAt E F N B b w v r) (ha : AgreeF (fun x => F x ∨ x = b ∨ v.ownBlock = some x) w w') : CurAt E F N B b w' v r := by
  obtain ⟨h1, h2, h3, L, h4, h5⟩ := h
  refine ⟨fun p hp => ?_, h2, h3, L, own_agree h4 ha (fun g hg => .inr (.inr hg)), h5.mono (fun _ _ _ h => h.agree ⟨ha.1, fun x hx hlt => ha.2 x (.inl hx) hlt⟩)⟩
  obtain ⟨t, ht⟩ := h1 p hp
  simp at hp
  subst hp
  exact ⟨t, by rw [ha.2 b (.inr (.inl rfl)) (Array.getElem?_eq_some_iff.1 ht).1]; exact ht⟩
theorem CurAt.ge {E : TypeId} {F : Nat → Prop} {N B b : Nat} {w : World} {v : Value} {r : List (Tr × Nat)} (h : CurAt E F N B b w v r) : ∀ g, v.ownBlock = some g → B ≤ g := by
  obtain ⟨_, _, _, L, h4, _⟩ := h
  exact own_ge h4
theorem CurAt.nil {E : TypeId} {F : Nat → Prop} {N B b : Nat} {w : World} (h : Boxes w [(b, [.slice none 0 0])]) (hb : b < B) (hF : ∀ x, F x → x < b) : CurAt E F N B b w (.slice none 0 0) [] :=
  ⟨h, hb, hF, [], World.ownsRow_nil _ _ _ _, rfl, fun i x y hx _ => by simp at hx⟩
/-- On the way down. -/
def SeekMid (F : Nat → Prop) (N : Nat) (w : World) (key : List UInt8) (Z : List (Tr × Nat)) (g : Nat) (wr : World) : Prop :=
  ∃ p lf ka m kc va vn vc ca cn cc t r v, NodeOn F g w [.int .i64 p, .bool lf, .slice ka m kc, .slice va vn vc, .slice ca cn cc] t ∧ (∃ lo hi, Shape g lo hi t ∧ sumT t ≤ 200) ∧ seekC g t key r = Z ∧ ValidB (g + 1) r ∧ g + r.length = N ∧
    Boxes wr [(w.heap.size, [.int .i64 p, .bool lf, .slice ka m kc, .slice va vn vc, .slice ca cn cc])] ∧ CurAt 105 F N (w.heap.size + 2) (w.heap.size + 1) wr v r ∧ Below w.heap.size w wr
/-- What seeking leaves. -/
def SeekTo (F : Nat → Prop) (N : Nat) (w : World) (R : List (List UInt8 × Tv)) (e : Ending) (w' : World) : Prop :=
  ∃ v, e = .returned (.pointer (some ⟨w.heap.size + 1, 0, none⟩)) ∧ Cur N (w.heap.size + 2) (w.heap.size + 1) F w' v R ∧ Below w.heap.size w w'
/-- Where a step was pushed. -/
def Pushed (F : Nat → Prop) (N : Nat) (w wz : World) (words : List Value) (v' : Value) (r : List (Tr × Nat)) : Prop :=
  Boxes wz [(w.heap.size, words)] ∧ CurAt 105 F N (w.heap.size + 2) (w.heap.size + 1) wz v' r ∧ Below w.heap.size w wz
theorem push_at {F : Nat → Prop} {N : Nat} {w w1 : World} {v : Value} {r : List (Tr × Nat)} {words : List Value} (hx : Boxes w1 [(w.heap.size, words)]) (hc : CurAt 105 F N (w.heap.size + 2) (w.heap.size + 1) w1 v r) (hb : Below w.heap.size w w1) (hs2 : w.heap.size + 2 ≤ w1.heap.size) (hl : r.length ≤ 1000) {cs : List Value} {s : Tr × Nat} (hs : StepOn F N w1 cs s) :
    ∃ a' c' w', (Builtin.append_ #[101, 101] 101 #[v, .slice (some ⟨w1.heap.size, 0, none⟩) 1 1]).run Try.prog (w1.alloc (.cells cs.toArray 105)) = .ok (.slice a' (r.length + 1) c') w' ∧
      AgreeF (fun x => v.ownBlock ≠ some x ∧ x ≠ w.heap.size + 1) w1 w' ∧ AgreeF (fun x => v.ownBlock ≠ some x ∧ x ≠ w.heap.size + 1) w1 (w'.setCell ⟨w.heap.size + 1, 0, none⟩ (.slice a' (r.length + 1) c')) ∧
      Boxes w' [(w.heap.size + 1, [v])] ∧ Pushed F N w (w'.setCell ⟨w.heap.size + 1, 0, none⟩ (.slice a' (r.length + 1) c')) words (.slice a' (r.length + 1) c') (s :: r) := by
  obtain ⟨a', c', w', hrun, hx', hcP, hstP, hgP⟩ := hc.push (P := Try.prog) (t := 101) Try.underlying101 info_step hs2 (by omega) hs
  have hge := hc.ge
  have hA : AgreeF (fun x => v.ownBlock ≠ some x ∧ x ≠ w.heap.size + 1) w1 w' := ⟨hgP.size, fun x hx hlt => hgP.block x hlt (fun e => hx.1 e.symm)⟩
  refine ⟨a', c', w', hrun, hA, AgreeF.set hA (.inl fun h => h.2 rfl), hx', ⟨?_, hcP, ?_⟩⟩
  · have := hx.grown hgP (by intro q hq e; simp at hq; subst hq; have := hge _ e; simp at this; omega)
    exact this.set _ _ (by intro q hq; simp at hq; subst hq; simp)
  · exact hb.trans (hstP.toBelow (by omega) (fun g hg => by have := hge g hg; omega) hb.size)
theorem CurAt.set5 {E : TypeId} {F : Nat → Prop} {N B b c : Nat} {w : World} {v : Value} {r : List (Tr × Nat)} (h : CurAt E F N B b w v r) (hcb : c < b) (hF : ¬ F c) (y0 y1 y2 y3 y4 : Value) : CurAt E F N B b (set5 w c y0 y1 y2 y3 y4) v r := by
  have hB := h.2.1
  have hge := h.ge
  refine h.agree ?_
  have hn : ¬ (F c ∨ c = b ∨ v.ownBlock = some c) := by
    rintro (h | h | h)
    · exact hF h
    · omega
    · have := hge _ h; omega
  exact AgreeF.set (AgreeF.set (AgreeF.set (AgreeF.set (AgreeF.set (AgreeF.refl w) (.inl hn)) (.inl hn)) (.inl hn)) (.inl hn)) (.inl hn)
set_option maxRecDepth 100000 in
set_option maxHeartbeats 3000000 in
theorem seek_any {F : Nat → Prop} {N : Nat} {w : World} {cs : List Value} {t : Tr} {lo hi : List UInt8} (hF : ∀ x, F x → x < w.heap.size) (h : NodeOn F N w cs t) (hs : Shape N lo hi t) (hsum : sumT t ≤ 200) (hN : N ≤ 200) (key : List UInt8) (hlo : ¬ key < lo) (hhi : ltH hi key) :
    Calls Try.prog 20 #[.agg cs.toArray, .string (strOf key)] w (SeekTo F N w ((entsT N t).drop (posK key (keysOf (entsT N t))))) := by
  have hrest := seek_rest (key := key) [] hs hlo hhi
  rw [show belowC (N + 1) [] = [] from rfl, List.append_nil] at hrest
  obtain ⟨R, hR⟩ : ∃ R, (entsT N t).drop (posK key (keysOf (entsT N t))) = R := ⟨_, rfl⟩
  rw [hR] at hrest ⊢
  obtain ⟨Z, hZ⟩ : ∃ Z, seekC N t key [] = Z := ⟨_, rfl⟩
  rw [hZ] at hrest
  obtain ⟨ka, kc, va, vn, vc, ca, cn, cc, _, _, rfl, _⟩ := NodeOn.open_pos h
  have hx0 : Boxes ((w.alloc (.cells #[.int .i64 t.page, .bool t.isLeaf, .slice ka (cntT t) kc, .slice va vn vc, .slice ca cn cc] 33)).alloc (.cells #[.slice none 0 0] 103)) [(w.heap.size + 1, [.slice none 0 0]), (w.heap.size, [.int .i64 t.page, .bool t.isLeaf, .slice ka (cntT t) kc, .slice va vn vc, .slice ca cn cc])] := ((Boxes.nil w).alloc #[.int .i64 t.page, .bool t.isLeaf, .slice ka (cntT t) kc, .slice va vn vc, .slice ca cn cc] 33 (b := w.heap.size) rfl).alloc #[.slice none 0 0] 103 (b := w.heap.size + 1) (by simp)
  have hmid : SeekMid F N w key Z N ((w.alloc (.cells #[.int .i64 t.page, .bool t.isLeaf, .slice ka (cntT t) kc, .slice va vn vc, .slice ca cn cc] 33)).alloc (.cells #[.slice none 0 0] 103)) :=
    ⟨_, _, _, _, _, _, _, _, _, _, _, t, [], _, h, ⟨lo, hi, hs, hsum⟩, hZ, trivial, rfl, hx0.sub (by simp), CurAt.nil (hx0.sub (by simp)) (by omega) (fun x hx => by have := hF x hx; omega), Below.al (Below.al (Below.refl _ _))⟩
  have HMID := Lib.hid hmid
  have HREST := Lib.hid hrest
  clear hmid h hZ hR hs hsum hx0 hrest hlo hhi
  go_enter Try.func20, Try.ntmps20
  go_wp2_with fail
  go_loopg [6] N (fun g _ wr => SeekMid F N w key Z g wr)
  case atStart => exact HMID.out
  case round =>
    clear HMID
    obtain ⟨p, lf, ka, m, kc, va, vn, vc, ca, cn, cc, t, r, v, hn, ⟨lo, hi, hsh, hsum⟩, hZ, hvb, hgl, hx, hc, hb⟩ := hrel
    cases gk with
    | zero => exact hn.elim
    | succ g =>
    have hxl := hx.lt 0 rfl
    have hcnt := shape_cnt hsh hsum
    obtain ⟨a0, c0, rfl, _, _, _⟩ := hc.sl
    have hge := hc.ge
    have hcl := hc.1.lt 0 rfl
    cases t with
    | node p0 l =>
      have hl50 : l.length ≤ 50 := hcnt
      have hpos : 0 < l.length := List.length_pos_iff.2 (kids_ne (shape_kids hsh).1)
      obtain ⟨k, hk⟩ : ∃ k, wayF (keysOf l) key = k := ⟨_, rfl⟩
      have hkl : k < l.length := by
        rw [← hk]
        have := wayF_lt (ks := keysOf l) key (by simpa [keysOf] using hpos)
        simpa [keysOf] using this
      have hZk : seekC g (kidAt l k) key ((.node p0 l, k) :: r) = Z := by rw [← hZ, ← hk]; rfl
      have CW := fun W (hW : Below w.heap.size w W) => tway_any (hn.toIn.below hW) key (show cntT (.node p0 l) ≤ 1000 by show l.length ≤ 1000; omega)
      have hkk : (Tr.node p0 l).keys = keysOf l := rfl
      rw [hkk, hk] at CW
      clear hkk
      obtain ⟨ka', kc', va', vn', vc', ca', cn', cc', V, C, e, h1, h2, h3, h4, _⟩ := hn.open
      cases e
      dsimp only [Tr.page, Tr.isLeaf, cntT, Tr.keys] at hn hx CW h1 h2 h3
      have hcn : cn = l.length := by rw [← h3.1, h4.toR.lens.2.2]; rfl
      subst hcn
      obtain ⟨bc, oc, y, yc, eca, hbc, hy, _, hyc, hcell⟩ := TabR.at h3 hkl
      have hyc : yc = y.1 := hyc
      subst hyc eca
      have hkid := kid_tells h4.2.2 hy
      cases g with
      | zero => exact hkid.elim
      | succ g =>
      obtain ⟨q1, q2, q3, q4, q5, q6, q7, q8, _, _, ey, _⟩ := NodeOn.open_pos hkid
      rw [ey] at hcell hkid
      have n0 := hx.cell 0 0 rfl rfl
      have n1 := hx.cell 0 1 rfl rfl
      have n2 := hx.cell 0 2 rfl rfl
      have n3 := hx.cell 0 3 rfl rfl
      have n4 := hx.cell 0 4 rfl rfl
      have d0 : decide ((0 : Int) < (l.length : Int)) = true := by simp; omega
      have d0' : decide (0 < l.length) = true := by simp; omega
      have CW : ∀ W, Below w.heap.size w W → Calls Try.prog 46 #[.agg #[.int .i64 p0, .bool false, .slice ka l.length kc, .slice va vn vc, .slice (some ⟨bc, oc, none⟩) l.length cc], .string (strOf key)] W fun e w' => e = .returned (.int .i64 (k : Int)) ∧ Below W.heap.size W w' := CW
      have hcc2 := h3.lens.2.2
      obtain ⟨lo', hi', hsk, hsk2⟩ := kid_good hsh hkl
      have HCELL := Lib.hid hcell
      have HKID := Lib.hid hkid
      have HX := Lib.hid hx
      have HC := Lib.hid hc
      have HB := Lib.hid hb
      have HN := Lib.hid hn
      have HZ := Lib.hid hZk
      have HSK : Hid (∃ lo hi, Shape (g + 1) lo hi (kidAt l k) ∧ sumT (kidAt l k) ≤ 200) := Lib.hid ⟨lo', hi', hsk, hsk2⟩
      have HVB : Hid (ValidB (g + 1 + 1) ((.node p0 l, k) :: r)) := Lib.hid ⟨⟨lo, hi, hsh, hsum⟩, hkl, hvb⟩
      have HGL := Lib.hid hgl
      have HCL := Lib.hid hcl
      clear h1 h2 h3 h4 hcell hy ey hZ hZk hn hkid hk hx hc hb hsh hsum hvb hsk hsk2 hgl hcnt hcl
      go_wp2_with fail
      refine (CW _ HB.out).mono ?_
      rintro e w1 ⟨rfl, hb1⟩
      have hb1' := HB.out.trans (hb1.mono HB.out.size)
      have hx1 := HX.out.step hb1
      have hc1 := HC.out.below hb1
      have hlr : r.length ≤ 1000 := by have := HGL.out; omega
      have hs2 : w.heap.size + 2 ≤ w1.heap.size := by have := HCL.out; have := hb1.size; omega
      have hNg : g + 1 + 1 ≤ N := by have := HGL.out; omega
      obtain ⟨a', c', w', hrun, hA9, hA12, hx9, hxP, hcP, hbP⟩ := push_at hx1.drew (hc1.below (Below.dr (Below.refl _ _))) (Below.dr hb1') (by simpa using hs2) hlr (cs := [.int .i64 p0, .bool false, .slice ka l.length kc, .slice va vn vc, .slice (some ⟨bc, oc, none⟩) l.length cc, .int .i64 (k : Int)]) (s := (.node p0 l, k)) ⟨[.int .i64 p0, .bool false, .slice ka l.length kc, .slice va vn vc, .slice (some ⟨bc, oc, none⟩) l.length cc], rfl, (HN.out.more hNg).below (Below.dr hb1')⟩
      obtain ⟨n, hnl⟩ : ∃ n, r.length = n := ⟨_, rfl⟩
      rw [hnl] at hrun hA9 hA12 hxP hcP hbP hx9
      have HP : Hid (Pushed F N w (w'.setCell ⟨w.heap.size + 1, 0, none⟩ (.slice a' (n + 1) c')) [.int .i64 p0, .bool false, .slice ka l.length kc, .slice va vn vc, .slice (some ⟨bc, oc, none⟩) l.length cc] (.slice a' (n + 1) c') ((.node p0 l, k) :: r)) := Lib.hid ⟨hxP, hcP, hbP⟩
      have hcc1 := hc1.1.cell 0 0 rfl rfl
      rw [hnl] at hcc1
      have hlb : w.heap.size + 1 < w1.heap.size := by omega
      have hob : (Value.slice a0 n c0).ownBlock ≠ some w.heap.size := fun e => by have := hge w.heap.size (by rw [hnl]; exact e); omega
      have hla : w.heap.size < w1.heap.size := by omega
      have hne : w.heap.size ≠ w.heap.size + 1 := by omega
      have e0 : ∀ W, AgreeF (fun x => (Value.slice a0 n c0).ownBlock ≠ some x ∧ x ≠ w.heap.size + 1) w1 W → W.cell? ⟨w.heap.size, 0, none⟩ = _ := fun W hW => (hW.cell ⟨hob, hne⟩ hla).trans (hx1.cell 0 0 rfl rfl)
      have e1 : ∀ W, AgreeF (fun x => (Value.slice a0 n c0).ownBlock ≠ some x ∧ x ≠ w.heap.size + 1) w1 W → W.cell? ⟨w.heap.size, 1, none⟩ = _ := fun W hW => (hW.cell ⟨hob, hne⟩ hla).trans (hx1.cell 0 1 rfl rfl)
      have e2 : ∀ W, AgreeF (fun x => (Value.slice a0 n c0).ownBlock ≠ some x ∧ x ≠ w.heap.size + 1) w1 W → W.cell? ⟨w.heap.size, 2, none⟩ = _ := fun W hW => (hW.cell ⟨hob, hne⟩ hla).trans (hx1.cell 0 2 rfl rfl)
      have e3 : ∀ W, AgreeF (fun x => (Value.slice a0 n c0).ownBlock ≠ some x ∧ x ≠ w.heap.size + 1) w1 W → W.cell? ⟨w.heap.size, 3, none⟩ = _ := fun W hW => (hW.cell ⟨hob, hne⟩ hla).trans (hx1.cell 0 3 rfl rfl)
      have e4 : ∀ W, AgreeF (fun x => (Value.slice a0 n c0).ownBlock ≠ some x ∧ x ≠ w.heap.size + 1) w1 W → W.cell? ⟨w.heap.size, 4, none⟩ = _ := fun W hW => (hW.cell ⟨hob, hne⟩ hla).trans (hx1.cell 0 4 rfl rfl)
      have hA00 : AgreeF (fun x => (Value.slice a0 n c0).ownBlock ≠ some x ∧ x ≠ w.heap.size + 1) w1 w1.drew := AgreeF.refl _
      have hA9 : AgreeF (fun x => (Value.slice a0 n c0).ownBlock ≠ some x ∧ x ≠ w.heap.size + 1) w1 w' := hA9
      have hA12 : AgreeF (fun x => (Value.slice a0 n c0).ownBlock ≠ some x ∧ x ≠ w.heap.size + 1) w1 (w'.setCell ⟨w.heap.size + 1, 0, none⟩ (.slice a' (n + 1) c')) := hA12
      have f8 := hx9.cell 0 0 rfl rfl
      have f9 := hx9.frozen 0 0 rfl
      have HNL := Lib.hid hnl
      clear n0 n1 n2 n3 n4 HX HC HB HN hx1 hc1 hb1 hb1' hxP hcP hbP hx9 CW hge hnl HCL
      have HE : Hid (∀ wz, Pushed F N w wz [.int .i64 p0, .bool false, .slice ka l.length kc, .slice va vn vc, .slice (some ⟨bc, oc, none⟩) l.length cc] (.slice a' (n + 1) c') ((.node p0 l, k) :: r) → SeekMid F N w key Z (g + 1) (set5 wz w.heap.size (.int .i64 (kidAt l k).page) (.bool (kidAt l k).isLeaf) (.slice q1 (cntT (kidAt l k)) q2) (.slice q3 q4 q5) (.slice q6 q7 q8))) := Lib.hid (by
        rintro wz ⟨g1, g2, g3⟩
        exact ⟨_, _, _, _, _, _, _, _, _, _, _, kidAt l k, (.node p0 l, k) :: r, _, HKID.out, HSK.out, HZ.out, HVB.out, by have := HGL.out; simp at this ⊢; omega, set5_box g1 (by simp) _ _ _ _ _, g2.set5 (by omega) (fun h => by have := hF _ h; omega) _ _ _ _ _, set5_below g3 (Nat.le_refl _) _ _ _ _ _⟩)
      clear HKID HSK HZ HVB
      go_upto_region 4 with (fail)
      refine wp_region_noPanic ?_
      refine wp_region_held_drew (S := (fun W => AgreeF (fun x => (Value.slice a0 n c0).ownBlock ≠ some x ∧ x ≠ w.heap.size + 1) w1 W)) (by kernel_rfl) (by (repeat (with_reducible first | assumption | exact AgreeF.refl _ | apply AgreeF.al | apply AgreeF.dr))) (fun hHeld => ?_)
      refine wpAnyH_take (i := 0) (oi := { dst := some 23, op := Op.move (Operand.tmp 5), type := 35, pos := "walk.go:24", after := #[], guard := none }) (v := ?_) rfl (by kernel_rfl) (by kernel_rfl) (by kernel_rfl) (fun _ _ _ h => h) (Or.inl ⟨by rfl, ?_⟩) (by assumption) ?_
      rotate_left
      · (intro W hW; (try dsimp only at hW); go_simp <;> (with_reducible rfl))
      try simp only [Act.put, List.setIfInBounds_toArray, List.set_cons_zero, List.set_cons_succ]
      refine wpAnyH_take (i := 1) (oi := { dst := some 24, op := Op.move (Operand.tmp 5), type := 35, pos := "walk.go:24", after := #[], guard := none }) (v := ?_) rfl (by kernel_rfl) (by kernel_rfl) (by kernel_rfl) (fun _ _ _ h => h) (Or.inl ⟨by rfl, ?_⟩) (by assumption) ?_
      rotate_left
      · (intro W hW; (try dsimp only at hW); go_simp <;> (with_reducible rfl))
      try simp only [Act.put, List.setIfInBounds_toArray, List.set_cons_zero, List.set_cons_succ]
      refine wpAnyH_take (i := 2) (oi := { dst := some 25, op := Op.nilCheck (Operand.tmp 24), type := 0, pos := "walk.go:24", after := #[{ on := 1, ground := Ground.data }], guard := none }) (v := ?_) rfl (by kernel_rfl) (by kernel_rfl) (by kernel_rfl) (fun _ _ _ h => h) (Or.inl ⟨by rfl, ?_⟩) (by assumption) ?_
      rotate_left
      · (intro W hW; (try dsimp only at hW); go_simp <;> (with_reducible rfl))
      try simp only [Act.put, List.setIfInBounds_toArray, List.set_cons_zero, List.set_cons_succ]
      refine wpAnyH_take (i := 3) (oi := { dst := some 26, op := Op.fieldAddr 103 (Operand.tmp 25) 0, type := 0, pos := "walk.go:24", after := #[{ on := 2, ground := Ground.data }], guard := none }) (v := ?_) rfl (by kernel_rfl) (by kernel_rfl) (by kernel_rfl) (fun _ _ _ h => h) (Or.inl ⟨by rfl, ?_⟩) (by assumption) ?_
      rotate_left
      · (intro W hW; (try dsimp only at hW); go_simp <;> (with_reducible rfl))
      try simp only [Act.put, List.setIfInBounds_toArray, List.set_cons_zero, List.set_cons_succ]
      refine wpAnyH_take (i := 5) (oi := { dst := some 28, op := Op.load 33 (Operand.tmp 2), type := 33, pos := "walk.go:24", after := #[], guard := none }) (v := ?_) rfl (by kernel_rfl) (by kernel_rfl) (by kernel_rfl) (fun _ _ _ h => h) (Or.inl ⟨by rfl, ?_⟩) (by assumption) ?_
      rotate_left
      · (intro W hW; (try dsimp only at hW); go_simp <;> (with_reducible rfl))
      try simp only [Act.put, List.setIfInBounds_toArray, List.set_cons_zero, List.set_cons_succ]
      refine wpAnyH_take (i := 6) (oi := { dst := some 29, op := Op.move (Operand.tmp 6), type := 3, pos := "walk.go:24", after := #[], guard := none }) (v := ?_) rfl (by kernel_rfl) (by kernel_rfl) (by kernel_rfl) (fun _ _ _ h => h) (Or.inl ⟨by rfl, ?_⟩) (by assumption) ?_
      rotate_left
      · (intro W hW; (try dsimp only at hW); go_simp <;> (with_reducible rfl))
      try simp only [Act.put, List.setIfInBounds_toArray, List.set_cons_zero, List.set_cons_succ]
      refine wpAnyH_take (i := 7) (oi := { dst := some 30, op := Op.build 105 #[(0, Operand.tmp 28), (1, Operand.tmp 29)], type := 105, pos := "walk.go:24", after := #[{ on := 5, ground := Ground.data }, { on := 6, ground := Ground.data }], guard := none }) (v := ?_) rfl (by kernel_rfl) (by kernel_rfl) (by kernel_rfl) (fun _ _ _ h => h) (Or.inl ⟨by rfl, ?_⟩) (by assumption) ?_
      rotate_left
      · (intro W hW; (try dsimp only at hW); go_simp <;> (with_reducible rfl))
      try simp only [Act.put, List.setIfInBounds_toArray, List.set_cons_zero, List.set_cons_succ]
      refine wpAnyH_ready (rs := [4, 8]) (by kernel_rfl) (by simp) (AllReadyH.cons (o := { dst := some 27, op := Op.load 101 (Operand.tmp 26), type := 101, pos := "walk.go:24", after := #[{ on := 3, ground := Ground.data }], guard := none }) rfl (fun K hK => ?_) (AllReadyH.cons (o := { dst := some 31, op := Op.buildSlice 101 1 #[(0, Operand.tmp 30)], type := 101, pos := "walk.go:24", after := #[{ on := 7, ground := Ground.data }], guard := none }) rfl (fun K hK => ?_) AllReadyH.nil))
      · (rw [if_pos (by rfl)]; go_wp2_with (fail))
        refine hK.out _ _ (by (repeat (with_reducible first | assumption | exact AgreeF.refl _ | apply AgreeF.al | apply AgreeF.dr))) (fun hHeld => ?_)
        clear hK K
        try simp only [Act.put, List.setIfInBounds_toArray, List.set_cons_zero, List.set_cons_succ]
        refine wpAnyH_ready (rs := [8]) (by kernel_rfl) (by simp) (AllReadyH.cons (o := { dst := some 31, op := Op.buildSlice 101 1 #[(0, Operand.tmp 30)], type := 101, pos := "walk.go:24", after := #[{ on := 7, ground := Ground.data }], guard := none }) rfl (fun K hK => ?_) AllReadyH.nil)
        (rw [if_pos (by rfl)]; go_wp2_with (fail))
        refine hK.out _ _ (by (repeat (with_reducible first | assumption | exact AgreeF.refl _ | apply AgreeF.al | apply AgreeF.dr))) (fun hHeld => ?_)
        clear hK K
        try simp only [Act.put, List.setIfInBounds_toArray, List.set_cons_zero, List.set_cons_succ]
        refine wpAnyH_ready (rs := [9]) (by kernel_rfl) (by simp) (AllReadyH.cons (o := { dst := some 32, op := Op.call { callee := Callee.builtin Builtin.append, args := #[Operand.tmp 27, Operand.tmp 31], argTypes := #[101, 101] }, type := 101, pos := "walk.go:24", after := #[{ on := 4, ground := Ground.data }, { on := 8, ground := Ground.data }], guard := none }) rfl (fun K hK => ?_) AllReadyH.nil)
        (refine step_append_run rfl _ _ _ _ rfl rfl rfl hrun ?_)
        refine hK.out _ _ (by (repeat (with_reducible first | assumption | exact AgreeF.refl _ | apply AgreeF.al | apply AgreeF.dr))) (fun hHeld => ?_)
        clear hK K
        try simp only [Act.put, List.setIfInBounds_toArray, List.set_cons_zero, List.set_cons_succ]
        refine wpAnyH_take (i := 10) (oi := { dst := some 33, op := Op.nilCheck (Operand.tmp 23), type := 0, pos := "walk.go:24", after := #[{ on := 0, ground := Ground.data }, { on := 0, ground := Ground.phase }, { on := 1, ground := Ground.phase }, { on := 2, ground := Ground.phase }, { on := 3, ground := Ground.phase }, { on := 4, ground := Ground.phase }, { on := 5, ground := Ground.phase }, { on := 6, ground := Ground.phase }, { on := 7, ground := Ground.phase }, { on := 8, ground := Ground.phase }, { on := 9, ground := Ground.phase }], guard := none }) (v := ?_) rfl (by kernel_rfl) (by kernel_rfl) (by kernel_rfl) (fun _ _ _ h => h) (Or.inl ⟨by rfl, ?_⟩) (by assumption) ?_
        rotate_left
        · (intro W hW; (try dsimp only at hW); go_simp <;> (with_reducible rfl))
        try simp only [Act.put, List.setIfInBounds_toArray, List.set_cons_zero, List.set_cons_succ]
        refine wpAnyH_take (i := 11) (oi := { dst := some 34, op := Op.fieldAddr 103 (Operand.tmp 33) 0, type := 0, pos := "walk.go:24", after := #[{ on := 10, ground := Ground.data }, { on := 0, ground := Ground.phase }, { on := 1, ground := Ground.phase }, { on := 2, ground := Ground.phase }, { on := 3, ground := Ground.phase }, { on := 4, ground := Ground.phase }, { on := 5, ground := Ground.phase }, { on := 6, ground := Ground.phase }, { on := 7, ground := Ground.phase }, { on := 8, ground := Ground.phase }, { on := 9, ground := Ground.phase }], guard := none }) (v := ?_) rfl (by kernel_rfl) (by kernel_rfl) (by kernel_rfl) (fun _ _ _ h => h) (Or.inl ⟨by rfl, ?_⟩) (by assumption) ?_
        rotate_left
        · (intro W hW; (try dsimp only at hW); go_simp <;> (with_reducible rfl))
        try simp only [Act.put, List.setIfInBounds_toArray, List.set_cons_zero, List.set_cons_succ]
        refine wpAnyH_ready (rs := [12]) (by kernel_rfl) (by simp) (AllReadyH.cons (o := { dst := none, op := Op.store 101 (Operand.tmp 34) (Operand.tmp 32), type := 0, pos := "walk.go:24", after := #[{ on := 11, ground := Ground.data }, { on := 9, ground := Ground.data }, { on := 9, ground := Ground.chain }, { on := 0, ground := Ground.phase }, { on := 1, ground := Ground.phase }, { on := 2, ground := Ground.phase }, { on := 3, ground := Ground.phase }, { on := 4, ground := Ground.phase }, { on := 5, ground := Ground.phase }, { on := 6, ground := Ground.phase }, { on := 7, ground := Ground.phase }, { on := 8, ground := Ground.phase }, { on := 9, ground := Ground.phase }], guard := none }) rfl (fun K hK => ?_) AllReadyH.nil)
        (rw [if_pos (by rfl)]; go_wp2_with (fail))
        refine hK.out _ _ (by (repeat (with_reducible first | assumption | exact AgreeF.refl _ | apply AgreeF.al | apply AgreeF.dr))) (fun hHeld => ?_)
        clear hK K
        try simp only [Act.put, List.setIfInBounds_toArray, List.set_cons_zero, List.set_cons_succ]
        refine wpAnyH_done (by kernel_rfl) ?_ _
        refine NoPanic.normal ?_
        obtain ⟨wz, hwz⟩ : ∃ x, x = (w'.setCell ⟨w.heap.size + 1, 0, none⟩ (.slice a' (n + 1) c')) := ⟨_, rfl⟩
        rw [← hwz] at HP ⊢
        clear hwz f8 f9 hA00 hA9 hA12 hHeld e0 e1 e2 e3 e4 hrun hcc1
        have hxz := HP.out.1
        have n0 := hxz.cell 0 0 rfl rfl
        have n1 := hxz.cell 0 1 rfl rfl
        have n2 := hxz.cell 0 2 rfl rfl
        have n3 := hxz.cell 0 3 rfl rfl
        have n4 := hxz.cell 0 4 rfl rfl
        have u0 := hxz.frozen 0 0 rfl
        have u1 := hxz.frozen 0 1 rfl
        have u2 := hxz.frozen 0 2 rfl
        have u3 := hxz.frozen 0 3 rfl
        have u4 := hxz.frozen 0 4 rfl
        have hbz := HP.out.2.2
        have f0 := (hbz.cell (p := ⟨bc, oc + k * 5, none⟩) hbc).trans (HCELL.out 0 _ rfl)
        have f1 := (hbz.cell (p := ⟨bc, oc + k * 5 + 1, none⟩) hbc).trans (HCELL.out 1 _ rfl)
        have f2 := (hbz.cell (p := ⟨bc, oc + k * 5 + 2, none⟩) hbc).trans (HCELL.out 2 _ rfl)
        have f3 := (hbz.cell (p := ⟨bc, oc + k * 5 + 3, none⟩) hbc).trans (HCELL.out 3 _ rfl)
        have f4 := (hbz.cell (p := ⟨bc, oc + k * 5 + 4, none⟩) hbc).trans (HCELL.out 4 _ rfl)
        have HM := Lib.hid (HE.out wz HP.out)
        clear hxz hbz
        go_wp2_with fail
        go_roundg (g + 1)
        case measure => omega
        case rel => exact HM.out
      · (rw [if_pos (by rfl)]; go_wp2_with (fail))
        refine hK.out _ _ (by (repeat (with_reducible first | assumption | exact AgreeF.refl _ | apply AgreeF.al | apply AgreeF.dr))) (fun hHeld => ?_)
        clear hK K
        try simp only [Act.put, List.setIfInBounds_toArray, List.set_cons_zero, List.set_cons_succ]
        refine wpAnyH_ready (rs := [4]) (by kernel_rfl) (by simp) (AllReadyH.cons (o := { dst := some 27, op := Op.load 101 (Operand.tmp 26), type := 101, pos := "walk.go:24", after := #[{ on := 3, ground := Ground.data }], guard := none }) rfl (fun K hK => ?_) AllReadyH.nil)
        (rw [if_pos (by rfl)]; go_wp2_with (fail))
        refine hK.out _ _ (by (repeat (with_reducible first | assumption | exact AgreeF.refl _ | apply AgreeF.al | apply AgreeF.dr))) (fun hHeld => ?_)
        clear hK K
        try simp only [Act.put, List.setIfInBounds_toArray, List.set_cons_zero, List.set_cons_succ]
        refine wpAnyH_ready (rs := [9]) (by kernel_rfl) (by simp) (AllReadyH.cons (o := { dst := some 32, op := Op.call { callee := Callee.builtin Builtin.append, args := #[Operand.tmp 27, Operand.tmp 31], argTypes := #[101, 101] }, type := 101, pos := "walk.go:24", after := #[{ on := 4, ground := Ground.data }, { on := 8, ground := Ground.data }], guard := none }) rfl (fun K hK => ?_) AllReadyH.nil)
        (refine step_append_run rfl _ _ _ _ rfl rfl rfl hrun ?_)
        refine hK.out _ _ (by (repeat (with_reducible first | assumption | exact AgreeF.refl _ | apply AgreeF.al | apply AgreeF.dr))) (fun hHeld => ?_)
        clear hK K
        try simp only [Act.put, List.setIfInBounds_toArray, List.set_cons_zero, List.set_cons_succ]
        refine wpAnyH_take (i := 10) (oi := { dst := some 33, op := Op.nilCheck (Operand.tmp 23), type := 0, pos := "walk.go:24", after := #[{ on := 0, ground := Ground.data }, { on := 0, ground := Ground.phase }, { on := 1, ground := Ground.phase }, { on := 2, ground := Ground.phase }, { on := 3, ground := Ground.phase }, { on := 4, ground := Ground.phase }, { on := 5, ground := Ground.phase }, { on := 6, ground := Ground.phase }, { on := 7, ground := Ground.phase }, { on := 8, ground := Ground.phase }, { on := 9, ground := Ground.phase }], guard := none }) (v := ?_) rfl (by kernel_rfl) (by kernel_rfl) (by kernel_rfl) (fun _ _ _ h => h) (Or.inl ⟨by rfl, ?_⟩) (by assumption) ?_
        rotate_left
        · (intro W hW; (try dsimp only at hW); go_simp <;> (with_reducible rfl))
        try simp only [Act.put, List.setIfInBounds_toArray, List.set_cons_zero, List.set_cons_succ]
        refine wpAnyH_take (i := 11) (oi := { dst := some 34, op := Op.fieldAddr 103 (Operand.tmp 33) 0, type := 0, pos := "walk.go:24", after := #[{ on := 10, ground := Ground.data }, { on := 0, ground := Ground.phase }, { on := 1, ground := Ground.phase }, { on := 2, ground := Ground.phase }, { on := 3, ground := Ground.phase }, { on := 4, ground := Ground.phase }, { on := 5, ground := Ground.phase }, { on := 6, ground := Ground.phase }, { on := 7, ground := Ground.phase }, { on := 8, ground := Ground.phase }, { on := 9, ground := Ground.phase }], guard := none }) (v := ?_) rfl (by kernel_rfl) (by kernel_rfl) (by kernel_rfl) (fun _ _ _ h => h) (Or.inl ⟨by rfl, ?_⟩) (by assumption) ?_
        rotate_left
        · (intro W hW; (try dsimp only at hW); go_simp <;> (with_reducible rfl))
        try simp only [Act.put, List.setIfInBounds_toArray, List.set_cons_zero, List.set_cons_succ]
        refine wpAnyH_ready (rs := [12]) (by kernel_rfl) (by simp) (AllReadyH.cons (o := { dst := none, op := Op.store 101 (Operand.tmp 34) (Operand.tmp 32), type := 0, pos := "walk.go:24", after := #[{ on := 11, ground := Ground.data }, { on := 9, ground := Ground.data }, { on := 9, ground := Ground.chain }, { on := 0, ground := Ground.phase }, { on := 1, ground := Ground.phase }, { on := 2, ground := Ground.phase }, { on := 3, ground := Ground.phase }, { on := 4, ground := Ground.phase }, { on := 5, ground := Ground.phase }, { on := 6, ground := Ground.phase }, { on := 7, ground := Ground.phase }, { on := 8, ground := Ground.phase }, { on := 9, ground := Ground.phase }], guard := none }) rfl (fun K hK => ?_) AllReadyH.nil)
        (rw [if_pos (by rfl)]; go_wp2_with (fail))
        refine hK.out _ _ (by (repeat (with_reducible first | assumption | exact AgreeF.refl _ | apply AgreeF.al | apply AgreeF.dr))) (fun hHeld => ?_)
        clear hK K
        try simp only [Act.put, List.setIfInBounds_toArray, List.set_cons_zero, List.set_cons_succ]
        refine wpAnyH_done (by kernel_rfl) ?_ _
        refine NoPanic.normal ?_
        obtain ⟨wz, hwz⟩ : ∃ x, x = (w'.setCell ⟨w.heap.size + 1, 0, none⟩ (.slice a' (n + 1) c')) := ⟨_, rfl⟩
        rw [← hwz] at HP ⊢
        clear hwz f8 f9 hA00 hA9 hA12 hHeld e0 e1 e2 e3 e4 hrun hcc1
        have hxz := HP.out.1
        have n0 := hxz.cell 0 0 rfl rfl
        have n1 := hxz.cell 0 1 rfl rfl
        have n2 := hxz.cell 0 2 rfl rfl
        have n3 := hxz.cell 0 3 rfl rfl
        have n4 := hxz.cell 0 4 rfl rfl
        have u0 := hxz.frozen 0 0 rfl
        have u1 := hxz.frozen 0 1 rfl
        have u2 := hxz.frozen 0 2 rfl
        have u3 := hxz.frozen 0 3 rfl
        have u4 := hxz.frozen 0 4 rfl
        have hbz := HP.out.2.2
        have f0 := (hbz.cell (p := ⟨bc, oc + k * 5, none⟩) hbc).trans (HCELL.out 0 _ rfl)
        have f1 := (hbz.cell (p := ⟨bc, oc + k * 5 + 1, none⟩) hbc).trans (HCELL.out 1 _ rfl)
        have f2 := (hbz.cell (p := ⟨bc, oc + k * 5 + 2, none⟩) hbc).trans (HCELL.out 2 _ rfl)
        have f3 := (hbz.cell (p := ⟨bc, oc + k * 5 + 3, none⟩) hbc).trans (HCELL.out 3 _ rfl)
        have f4 := (hbz.cell (p := ⟨bc, oc + k * 5 + 4, none⟩) hbc).trans (HCELL.out 4 _ rfl)
        have HM := Lib.hid (HE.out wz HP.out)
        clear hxz hbz
        go_wp2_with fail
        go_roundg (g + 1)
        case measure => omega
        case rel => exact HM.out
    | leaf p0 l =>
      have hg0 : g = 0 := hsh.1
      subst hg0
      have hl50 : l.length ≤ 50 := hcnt
      obtain ⟨ka', kc', va', vn', vc', ca', cn', cc', V, C, e, h1, h2, h3, h4, _⟩ := hn.open
      cases e
      dsimp only [Tr.page, Tr.isLeaf, cntT, Tr.keys] at hn hx h1 h2 h3
      have CB := bsearch_any (h1.below hb) (by omega) hsh.2.1 key
      have hZk : (.leaf p0 l, posK key (keysOf l)) :: r = Z := hZ
      have hrest := HREST.out
      rw [← hZk] at hrest
      have hpo := posK_le key (keysOf l)
      have hkl : (keysOf l).length = l.length := by simp [keysOf]
      have n0 := hx.cell 0 0 rfl rfl
      have n1 := hx.cell 0 1 rfl rfl
      have n2 := hx.cell 0 2 rfl rfl
      have n3 := hx.cell 0 3 rfl rfl
      have n4 := hx.cell 0 4 rfl rfl
      obtain ⟨k, hk⟩ : ∃ k, posK key (keysOf l) = k := ⟨_, rfl⟩
      rw [hk] at CB hrest hpo
      generalize hasK key (keysOf l) = has at *
      have HVC : Hid (ValidC 1 ((.leaf p0 l, k) :: r)) := Lib.hid ⟨⟨lo, hi, hsh, hsum⟩, (by show k ≤ l.length; omega), hvb⟩
      have HGL := Lib.hid hgl
      have HR := Lib.hid hrest
      have hlr : r.length ≤ 1000 := by omega
      have hs2 : w.heap.size + 2 ≤ wr.heap.size := by omega
      have hN1 : 0 + 1 ≤ N := by omega
      obtain ⟨a', c', w', hrun, hA9, hA12, hx9, hxP, hcP, hbP⟩ := push_at hx.drew (hc.below (Below.dr (Below.refl _ _))) (Below.dr hb) (by simpa using hs2) hlr (cs := [.int .i64 p0, .bool true, .slice ka l.length kc, .slice va vn vc, .slice ca cn cc, .int .i64 (k : Int)]) (s := (.leaf p0 l, k)) ⟨[.int .i64 p0, .bool true, .slice ka l.length kc, .slice va vn vc, .slice ca cn cc], rfl, (hn.more hN1).below (Below.dr hb)⟩
      obtain ⟨n, hnl⟩ : ∃ n, r.length = n := ⟨_, rfl⟩
      rw [hnl] at hrun hA9 hA12 hxP hcP hbP hx9
      have HP : Hid (Pushed F N w (w'.setCell ⟨w.heap.size + 1, 0, none⟩ (.slice a' (n + 1) c')) [.int .i64 p0, .bool true, .slice ka l.length kc, .slice va vn vc, .slice ca cn cc] (.slice a' (n + 1) c') ((.leaf p0 l, k) :: r)) := Lib.hid ⟨hxP, hcP, hbP⟩
      have hcc1 := hc.1.cell 0 0 rfl rfl
      rw [hnl] at hcc1
      have hlb : w.heap.size + 1 < wr.heap.size := by omega
      have hob : (Value.slice a0 n c0).ownBlock ≠ some w.heap.size := fun e => by have := hge w.heap.size (by rw [hnl]; exact e); omega
      have hla : w.heap.size < wr.heap.size := by omega
      have hne : w.heap.size ≠ w.heap.size + 1 := by omega
      have e0 : ∀ W, AgreeF (fun x => (Value.slice a0 n c0).ownBlock ≠ some x ∧ x ≠ w.heap.size + 1) wr W → W.cell? ⟨w.heap.size, 0, none⟩ = _ := fun W hW => (hW.cell ⟨hob, hne⟩ hla).trans (hx.cell 0 0 rfl rfl)
      have e1 : ∀ W, AgreeF (fun x => (Value.slice a0 n c0).ownBlock ≠ some x ∧ x ≠ w.heap.size + 1) wr W → W.cell? ⟨w.heap.size, 1, none⟩ = _ := fun W hW => (hW.cell ⟨hob, hne⟩ hla).trans (hx.cell 0 1 rfl rfl)
      have e2 : ∀ W, AgreeF (fun x => (Value.slice a0 n c0).ownBlock ≠ some x ∧ x ≠ w.heap.size + 1) wr W → W.cell? ⟨w.heap.size, 2, none⟩ = _ := fun W hW => (hW.cell ⟨hob, hne⟩ hla).trans (hx.cell 0 2 rfl rfl)
      have e3 : ∀ W, AgreeF (fun x => (Value.slice a0 n c0).ownBlock ≠ some x ∧ x ≠ w.heap.size + 1) wr W → W.cell? ⟨w.heap.size, 3, none⟩ = _ := fun W hW => (hW.cell ⟨hob, hne⟩ hla).trans (hx.cell 0 3 rfl rfl)
      have e4 : ∀ W, AgreeF (fun x => (Value.slice a0 n c0).ownBlock ≠ some x ∧ x ≠ w.heap.size + 1) wr W → W.cell? ⟨w.heap.size, 4, none⟩ = _ := fun W hW => (hW.cell ⟨hob, hne⟩ hla).trans (hx.cell 0 4 rfl rfl)
      have hA00 : AgreeF (fun x => (Value.slice a0 n c0).ownBlock ≠ some x ∧ x ≠ w.heap.size + 1) wr wr.drew := AgreeF.refl _
      have hA9 : AgreeF (fun x => (Value.slice a0 n c0).ownBlock ≠ some x ∧ x ≠ w.heap.size + 1) wr w' := hA9
      have hA12 : AgreeF (fun x => (Value.slice a0 n c0).ownBlock ≠ some x ∧ x ≠ w.heap.size + 1) wr (w'.setCell ⟨w.heap.size + 1, 0, none⟩ (.slice a' (n + 1) c')) := hA12
      have f8 := hx9.cell 0 0 rfl rfl
      have f9 := hx9.frozen 0 0 rfl
      have HNL := Lib.hid hnl
      clear hnl hxP hcP hbP hx9 hge hrest hZk hZ hsh hn h1 h2 h3 h4 hx hc hb hk hvb hgl hcl
      go_wp2_with fail
      refine CB.mono ?_
      rintro e w1 ⟨rfl, rfl⟩
      clear CB
      go_upto_region 7 with (fail)
      refine wp_region_noPanic ?_
      refine wp_region_held_drew (S := (fun W => AgreeF (fun x => (Value.slice a0 n c0).ownBlock ≠ some x ∧ x ≠ w.heap.size + 1) wr W)) (by kernel_rfl) (by (repeat (with_reducible first | assumption | exact AgreeF.refl _ | apply AgreeF.al | apply AgreeF.dr))) (fun hHeld => ?_)
      refine wpAnyH_take (i := 0) (oi := { dst := some 47, op := Op.move (Operand.tmp 5), type := 35, pos := "walk.go:28", after := #[], guard := none }) (v := ?_) rfl (by kernel_rfl) (by kernel_rfl) (by kernel_rfl) (fun _ _ _ h => h) (Or.inl ⟨by rfl, ?_⟩) (by assumption) ?_
      rotate_left
      · (intro W hW; (try dsimp only at hW); go_simp <;> (with_reducible rfl))
      try simp only [Act.put, List.setIfInBounds_toArray, List.set_cons_zero, List.set_cons_succ]
      refine wpAnyH_take (i := 1) (oi := { dst := some 48, op := Op.move (Operand.tmp 5), type := 35, pos := "walk.go:28", after := #[], guard := none }) (v := ?_) rfl (by kernel_rfl) (by kernel_rfl) (by kernel_rfl) (fun _ _ _ h => h) (Or.inl ⟨by rfl, ?_⟩) (by assumption) ?_
      rotate_left
      · (intro W hW; (try dsimp only at hW); go_simp <;> (with_reducible rfl))
      try simp only [Act.put, List.setIfInBounds_toArray, List.set_cons_zero, List.set_cons_succ]
      refine wpAnyH_take (i := 2) (oi := { dst := some 49, op := Op.nilCheck (Operand.tmp 48), type := 0, pos := "walk.go:28", after := #[{ on := 1, ground := Ground.data }], guard := none }) (v := ?_) rfl (by kernel_rfl) (by kernel_rfl) (by kernel_rfl) (fun _ _ _ h => h) (Or.inl ⟨by rfl, ?_⟩) (by assumption) ?_
      rotate_left
      · (intro W hW; (try dsimp only at hW); go_simp <;> (with_reducible rfl))
      try simp only [Act.put, List.setIfInBounds_toArray, List.set_cons_zero, List.set_cons_succ]
      refine wpAnyH_take (i := 3) (oi := { dst := some 50, op := Op.fieldAddr 103 (Operand.tmp 49) 0, type := 0, pos := "walk.go:28", after := #[{ on := 2, ground := Ground.data }], guard := none }) (v := ?_) rfl (by kernel_rfl) (by kernel_rfl) (by kernel_rfl) (fun _ _ _ h => h) (Or.inl ⟨by rfl, ?_⟩) (by assumption) ?_
      rotate_left
      · (intro W hW; (try dsimp only at hW); go_simp <;> (with_reducible rfl))
      try simp only [Act.put, List.setIfInBounds_toArray, List.set_cons_zero, List.set_cons_succ]
      refine wpAnyH_take (i := 5) (oi := { dst := some 52, op := Op.load 33 (Operand.tmp 2), type := 33, pos := "walk.go:28", after := #[], guard := none }) (v := ?_) rfl (by kernel_rfl) (by kernel_rfl) (by kernel_rfl) (fun _ _ _ h => h) (Or.inl ⟨by rfl, ?_⟩) (by assumption) ?_
      rotate_left
      · (intro W hW; (try dsimp only at hW); go_simp <;> (with_reducible rfl))
      try simp only [Act.put, List.setIfInBounds_toArray, List.set_cons_zero, List.set_cons_succ]
      refine wpAnyH_take (i := 6) (oi := { dst := some 53, op := Op.move (Operand.tmp 7), type := 3, pos := "walk.go:28", after := #[], guard := none }) (v := ?_) rfl (by kernel_rfl) (by kernel_rfl) (by kernel_rfl) (fun _ _ _ h => h) (Or.inl ⟨by rfl, ?_⟩) (by assumption) ?_
      rotate_left
      · (intro W hW; (try dsimp only at hW); go_simp <;> (with_reducible rfl))
      try simp only [Act.put, List.setIfInBounds_toArray, List.set_cons_zero, List.set_cons_succ]
      refine wpAnyH_take (i := 7) (oi := { dst := some 54, op := Op.build 105 #[(0, Operand.tmp 52), (1, Operand.tmp 53)], type := 105, pos := "walk.go:28", after := #[{ on := 5, ground := Ground.data }, { on := 6, ground := Ground.data }], guard := none }) (v := ?_) rfl (by kernel_rfl) (by kernel_rfl) (by kernel_rfl) (fun _ _ _ h => h) (Or.inl ⟨by rfl, ?_⟩) (by assumption) ?_
      rotate_left
      · (intro W hW; (try dsimp only at hW); go_simp <;> (with_reducible rfl))
      try simp only [Act.put, List.setIfInBounds_toArray, List.set_cons_zero, List.set_cons_succ]
      refine wpAnyH_ready (rs := [4, 8]) (by kernel_rfl) (by simp) (AllReadyH.cons (o := { dst := some 51, op := Op.load 101 (Operand.tmp 50), type := 101, pos := "walk.go:28", after := #[{ on := 3, ground := Ground.data }], guard := none }) rfl (fun K hK => ?_) (AllReadyH.cons (o := { dst := some 55, op := Op.buildSlice 101 1 #[(0, Operand.tmp 54)], type := 101, pos := "walk.go:28", after := #[{ on := 7, ground := Ground.data }], guard := none }) rfl (fun K hK => ?_) AllReadyH.nil))
      · (rw [if_pos (by rfl)]; go_wp2_with (fail))
        refine hK.out _ _ (by (repeat (with_reducible first | assumption | exact AgreeF.refl _ | apply AgreeF.al | apply AgreeF.dr))) (fun hHeld => ?_)
        clear hK K
        try simp only [Act.put, List.setIfInBounds_toArray, List.set_cons_zero, List.set_cons_succ]
        refine wpAnyH_ready (rs := [8]) (by kernel_rfl) (by simp) (AllReadyH.cons (o := { dst := some 55, op := Op.buildSlice 101 1 #[(0, Operand.tmp 54)], type := 101, pos := "walk.go:28", after := #[{ on := 7, ground := Ground.data }], guard := none }) rfl (fun K hK => ?_) AllReadyH.nil)
        (rw [if_pos (by rfl)]; go_wp2_with (fail))
        refine hK.out _ _ (by (repeat (with_reducible first | assumption | exact AgreeF.refl _ | apply AgreeF.al | apply AgreeF.dr))) (fun hHeld => ?_)
        clear hK K
        try simp only [Act.put, List.setIfInBounds_toArray, List.set_cons_zero, List.set_cons_succ]
        refine wpAnyH_ready (rs := [9]) (by kernel_rfl) (by simp) (AllReadyH.cons (o := { dst := some 56, op := Op.call { callee := Callee.builtin Builtin.append, args := #[Operand.tmp 51, Operand.tmp 55], argTypes := #[101, 101] }, type := 101, pos := "walk.go:28", after := #[{ on := 4, ground := Ground.data }, { on := 8, ground := Ground.data }], guard := none }) rfl (fun K hK => ?_) AllReadyH.nil)
        (refine step_append_run rfl _ _ _ _ rfl rfl rfl hrun ?_)
        refine hK.out _ _ (by (repeat (with_reducible first | assumption | exact AgreeF.refl _ | apply AgreeF.al | apply AgreeF.dr))) (fun hHeld => ?_)
        clear hK K
        try simp only [Act.put, List.setIfInBounds_toArray, List.set_cons_zero, List.set_cons_succ]
        refine wpAnyH_take (i := 10) (oi := { dst := some 57, op := Op.nilCheck (Operand.tmp 47), type := 0, pos := "walk.go:28", after := #[{ on := 0, ground := Ground.data }, { on := 0, ground := Ground.phase }, { on := 1, ground := Ground.phase }, { on := 2, ground := Ground.phase }, { on := 3, ground := Ground.phase }, { on := 4, ground := Ground.phase }, { on := 5, ground := Ground.phase }, { on := 6, ground := Ground.phase }, { on := 7, ground := Ground.phase }, { on := 8, ground := Ground.phase }, { on := 9, ground := Ground.phase }], guard := none }) (v := ?_) rfl (by kernel_rfl) (by kernel_rfl) (by kernel_rfl) (fun _ _ _ h => h) (Or.inl ⟨by rfl, ?_⟩) (by assumption) ?_
        rotate_left
        · (intro W hW; (try dsimp only at hW); go_simp <;> (with_reducible rfl))
        try simp only [Act.put, List.setIfInBounds_toArray, List.set_cons_zero, List.set_cons_succ]
        refine wpAnyH_take (i := 11) (oi := { dst := some 58, op := Op.fieldAddr 103 (Operand.tmp 57) 0, type := 0, pos := "walk.go:28", after := #[{ on := 10, ground := Ground.data }, { on := 0, ground := Ground.phase }, { on := 1, ground := Ground.phase }, { on := 2, ground := Ground.phase }, { on := 3, ground := Ground.phase }, { on := 4, ground := Ground.phase }, { on := 5, ground := Ground.phase }, { on := 6, ground := Ground.phase }, { on := 7, ground := Ground.phase }, { on := 8, ground := Ground.phase }, { on := 9, ground := Ground.phase }], guard := none }) (v := ?_) rfl (by kernel_rfl) (by kernel_rfl) (by kernel_rfl) (fun _ _ _ h => h) (Or.inl ⟨by rfl, ?_⟩) (by assumption) ?_
        rotate_left
        · (intro W hW; (try dsimp only at hW); go_simp <;> (with_reducible rfl))
        try simp only [Act.put, List.setIfInBounds_toArray, List.set_cons_zero, List.set_cons_succ]
        refine wpAnyH_ready (rs := [12]) (by kernel_rfl) (by simp) (AllReadyH.cons (o := { dst := none, op := Op.store 101 (Operand.tmp 58) (Operand.tmp 56), type := 0, pos := "walk.go:28", after := #[{ on := 11, ground := Ground.data }, { on := 9, ground := Ground.data }, { on := 9, ground := Ground.chain }, { on := 0, ground := Ground.phase }, { on := 1, ground := Ground.phase }, { on := 2, ground := Ground.phase }, { on := 3, ground := Ground.phase }, { on := 4, ground := Ground.phase }, { on := 5, ground := Ground.phase }, { on := 6, ground := Ground.phase }, { on := 7, ground := Ground.phase }, { on := 8, ground := Ground.phase }, { on := 9, ground := Ground.phase }], guard := none }) rfl (fun K hK => ?_) AllReadyH.nil)
        (rw [if_pos (by rfl)]; go_wp2_with (fail))
        refine hK.out _ _ (by (repeat (with_reducible first | assumption | exact AgreeF.refl _ | apply AgreeF.al | apply AgreeF.dr))) (fun hHeld => ?_)
        clear hK K
        try simp only [Act.put, List.setIfInBounds_toArray, List.set_cons_zero, List.set_cons_succ]
        refine wpAnyH_done (by kernel_rfl) ?_ _
        refine NoPanic.normal ?_
        obtain ⟨wz, hwz⟩ : ∃ x, x = (w'.setCell ⟨w.heap.size + 1, 0, none⟩ (.slice a' (n + 1) c')) := ⟨_, rfl⟩
        rw [← hwz] at HP ⊢
        clear hwz f8 f9 hA00 hA9 hA12 hHeld e0 e1 e2 e3 e4 hrun hcc1
        obtain ⟨hxz, hcz, hbz⟩ := HP.out
        have hgez := hcz.ge
        have hn9 := HNL.out
        go_wp2_with fail
        refine (settle_any (g := 1) hcz (by have := hcz.1.lt 0 rfl; omega) HVC.out (.inr (by have := HGL.out; simp; omega)) hN).mono ?_
        rintro e w9 ⟨rfl, v9, r9, hc9, hs9, hr9, hst9⟩
        have HEND : Hid (SeekTo F N w R (.returned (.pointer (some ⟨w.heap.size + 1, 0, none⟩))) w9) := Lib.hid ⟨v9, rfl, ⟨r9, hc9, hs9, by rw [hr9]; exact HR.out⟩, hbz.trans (hst9.toBelow (by omega) (fun g hg => by have := hgez g hg; omega) hbz.size)⟩
        clear hcz hbz hxz hc9 hs9 hr9 hst9 hgez
        go_wp2_with fail
        go_ret
        exact HEND.out
      · (rw [if_pos (by rfl)]; go_wp2_with (fail))
        refine hK.out _ _ (by (repeat (with_reducible first | assumption | exact AgreeF.refl _ | apply AgreeF.al | apply AgreeF.dr))) (fun hHeld => ?_)
        clear hK K
        try simp only [Act.put, List.setIfInBounds_toArray, List.set_cons_zero, List.set_cons_succ]
        refine wpAnyH_ready (rs := [4]) (by kernel_rfl) (by simp) (AllReadyH.cons (o := { dst := some 51, op := Op.load 101 (Operand.tmp 50), type := 101, pos := "walk.go:28", after := #[{ on := 3, ground := Ground.data }], guard := none }) rfl (fun K hK => ?_) AllReadyH.nil)
        (rw [if_pos (by rfl)]; go_wp2_with (fail))
        refine hK.out _ _ (by (repeat (with_reducible first | assumption | exact AgreeF.refl _ | apply AgreeF.al | apply AgreeF.dr))) (fun hHeld => ?_)
        clear hK K
        try simp only [Act.put, List.setIfInBounds_toArray, List.set_cons_zero, List.set_cons_succ]
        refine wpAnyH_ready (rs := [9]) (by kernel_rfl) (by simp) (AllReadyH.cons (o := { dst := some 56, op := Op.call { callee := Callee.builtin Builtin.append, args := #[Operand.tmp 51, Operand.tmp 55], argTypes := #[101, 101] }, type := 101, pos := "walk.go:28", after := #[{ on := 4, ground := Ground.data }, { on := 8, ground := Ground.data }], guard := none }) rfl (fun K hK => ?_) AllReadyH.nil)
        (refine step_append_run rfl _ _ _ _ rfl rfl rfl hrun ?_)
        refine hK.out _ _ (by (repeat (with_reducible first | assumption | exact AgreeF.refl _ | apply AgreeF.al | apply AgreeF.dr))) (fun hHeld => ?_)
        clear hK K
        try simp only [Act.put, List.setIfInBounds_toArray, List.set_cons_zero, List.set_cons_succ]
        refine wpAnyH_take (i := 10) (oi := { dst := some 57, op := Op.nilCheck (Operand.tmp 47), type := 0, pos := "walk.go:28", after := #[{ on := 0, ground := Ground.data }, { on := 0, ground := Ground.phase }, { on := 1, ground := Ground.phase }, { on := 2, ground := Ground.phase }, { on := 3, ground := Ground.phase }, { on := 4, ground := Ground.phase }, { on := 5, ground := Ground.phase }, { on := 6, ground := Ground.phase }, { on := 7, ground := Ground.phase }, { on := 8, ground := Ground.phase }, { on := 9, ground := Ground.phase }], guard := none }) (v := ?_) rfl (by kernel_rfl) (by kernel_rfl) (by kernel_rfl) (fun _ _ _ h => h) (Or.inl ⟨by rfl, ?_⟩) (by assumption) ?_
        rotate_left
        · (intro W hW; (try dsimp only at hW); go_simp <;> (with_reducible rfl))
        try simp only [Act.put, List.setIfInBounds_toArray, List.set_cons_zero, List.set_cons_succ]
        refine wpAnyH_take (i := 11) (oi := { dst := some 58, op := Op.fieldAddr 103 (Operand.tmp 57) 0, type := 0, pos := "walk.go:28", after := #[{ on := 10, ground := Ground.data }, { on := 0, ground := Ground.phase }, { on := 1, ground := Ground.phase }, { on := 2, ground := Ground.phase }, { on := 3, ground := Ground.phase }, { on := 4, ground := Ground.phase }, { on := 5, ground := Ground.phase }, { on := 6, ground := Ground.phase }, { on := 7, ground := Ground.phase }, { on := 8, ground := Ground.phase }, { on := 9, ground := Ground.phase }], guard := none }) (v := ?_) rfl (by kernel_rfl) (by kernel_rfl) (by kernel_rfl) (fun _ _ _ h => h) (Or.inl ⟨by rfl, ?_⟩) (by assumption) ?_
        rotate_left
        · (intro W hW; (try dsimp only at hW); go_simp <;> (with_reducible rfl))
        try simp only [Act.put, List.setIfInBounds_toArray, List.set_cons_zero, List.set_cons_succ]
        refine wpAnyH_ready (rs := [12]) (by kernel_rfl) (by simp) (AllReadyH.cons (o := { dst := none, op := Op.store 101 (Operand.tmp 58) (Operand.tmp 56), type := 0, pos := "walk.go:28", after := #[{ on := 11, ground := Ground.data }, { on := 9, ground := Ground.data }, { on := 9, ground := Ground.chain }, { on := 0, ground := Ground.phase }, { on := 1, ground := Ground.phase }, { on := 2, ground := Ground.phase }, { on := 3, ground := Ground.phase }, { on := 4, ground := Ground.phase }, { on := 5, ground := Ground.phase }, { on := 6, ground := Ground.phase }, { on := 7, ground := Ground.phase }, { on := 8, ground := Ground.phase }, { on := 9, ground := Ground.phase }], guard := none }) rfl (fun K hK => ?_) AllReadyH.nil)
        (rw [if_pos (by rfl)]; go_wp2_with (fail))
        refine hK.out _ _ (by (repeat (with_reducible first | assumption | exact AgreeF.refl _ | apply AgreeF.al | apply AgreeF.dr))) (fun hHeld => ?_)
        clear hK K
        try simp only [Act.put, List.setIfInBounds_toArray, List.set_cons_zero, List.set_cons_succ]
        refine wpAnyH_done (by kernel_rfl) ?_ _
        refine NoPanic.normal ?_
        obtain ⟨wz, hwz⟩ : ∃ x, x = (w'.setCell ⟨w.heap.size + 1, 0, none⟩ (.slice a' (n + 1) c')) := ⟨_, rfl⟩
        rw [← hwz] at HP ⊢
        clear hwz f8 f9 hA00 hA9 hA12 hHeld e0 e1 e2 e3 e4 hrun hcc1
        obtain ⟨hxz, hcz, hbz⟩ := HP.out
        have hgez := hcz.ge
        have hn9 := HNL.out
        go_wp2_with fail
        refine (settle_any (g := 1) hcz (by have := hcz.1.lt 0 rfl; omega) HVC.out (.inr (by have := HGL.out; simp; omega)) hN).mono ?_
        rintro e w9 ⟨rfl, v9, r9, hc9, hs9, hr9, hst9⟩
        have HEND : Hid (SeekTo F N w R (.returned (.pointer (some ⟨w.heap.size + 1, 0, none⟩))) w9) := Lib.hid ⟨v9, rfl, ⟨r9, hc9, hs9, by rw [hr9]; exact HR.out⟩, hbz.trans (hst9.toBelow (by omega) (fun g hg => by have := hgez g hg; omega) hbz.size)⟩
        clear hcz hbz hxz hc9 hs9 hr9 hst9 hgez
        go_wp2_with fail
        go_ret
        exact HEND.out
end Go.Proofs.Ytemfnjlfcemehaa

/- A cursor: how deep it stands, what it would tell, what it tells; how many entries a tree has. -/
namespace Go.Proofs.Ytemfnjlfcemehaa
open Go.RowKit

/-- How deep a cursor stands. -/
def deepC (N : Nat) : List (List UInt8 × Tv) → Nat
  | [] => 0
  | _ :: _ => N
def keyH : List (List UInt8 × Tv) → List UInt8
  | [] => []
  | c :: _ => c.1
def valH : List (List UInt8 × Tv) → List UInt8
  | [] => []
  | c :: _ => c.2.data
def someH : List (List UInt8 × Tv) → Bool
  | [] => false
  | _ :: _ => true
/-- A cursor nowhere, or on an entry. -/
theorem Cur.cases {N B b : Nat} {F : Nat → Prop} {w : World} {v : Value} {R : List (List UInt8 × Tv)} (h : Cur N B b F w v R) :
    (R = [] ∧ CurAt 105 F N B b w v []) ∨ ∃ p l k q c T, CurAt 105 F N B b w v ((.leaf p l, k) :: q) ∧ l[k]? = some c ∧ R = c :: T ∧ T = restC 1 ((.leaf p l, k + 1) :: q) ∧ q.length + 1 = N ∧ ValidC 1 ((.leaf p l, k) :: q) := by
  obtain ⟨r, h1, h2, h3⟩ := h
  rcases h2 with rfl | ⟨p, l, k, q, rfl, hk, hl, hv⟩
  · exact .inl ⟨h3.symm, h1⟩
  · refine .inr ⟨p, l, k, q, l[k], _, h1, List.getElem?_eq_getElem hk, ?_, rfl, hl, hv⟩
    rw [← h3, rest_next q (List.getElem?_eq_getElem hk)]
theorem Cur.below {N B b : Nat} {F : Nat → Prop} {w w' : World} {v : Value} {R : List (List UInt8 × Tv)} (h : Cur N B b F w v R) (hb : Below w.heap.size w w') : Cur N B b F w' v R := by
  obtain ⟨r, h1, h2, h3⟩ := h
  exact ⟨r, h1.below hb, h2, h3⟩
theorem Cur.agree {N B b : Nat} {F : Nat → Prop} {w w' : World} {v : Value} {R : List (List UInt8 × Tv)} (h : Cur N B b F w v R) (ha : AgreeF (fun x => F x ∨ x = b ∨ v.ownBlock = some x) w w') : Cur N B b F w' v R := by
  obtain ⟨r, h1, h2, h3⟩ := h
  exact ⟨r, h1.agree ha, h2, h3⟩
theorem Cur.ge {N B b : Nat} {F : Nat → Prop} {w : World} {v : Value} {R : List (List UInt8 × Tv)} (h : Cur N B b F w v R) : ∀ g, v.ownBlock = some g → B ≤ g ∧ g < w.heap.size := by
  obtain ⟨r, h1, h2, h3⟩ := h
  obtain ⟨_, _, _, L, h4, _⟩ := h1
  exact fun g hg => World.ownsRow.lt h4 g hg
theorem Cur.lt9 {N B b : Nat} {F : Nat → Prop} {w : World} {v : Value} {R : List (List UInt8 × Tv)} (h : Cur N B b F w v R) : b < w.heap.size := by
  obtain ⟨r, h1, h2, h3⟩ := h
  exact h1.1.lt 0 rfl
theorem Cur.sl {N B b : Nat} {F : Nat → Prop} {w : World} {v : Value} {R : List (List UInt8 × Tv)} (h : Cur N B b F w v R) : ∃ a n c, v = .slice a n c ∧ n = deepC N R ∧ w.cell? ⟨b, 0, none⟩ = some v := by
  rcases h.cases with ⟨rfl, h1⟩ | ⟨p, l, k, q, c, T, h1, _, rfl, _, hq, _⟩
  · obtain ⟨a, c, rfl, _⟩ := h1.sl
    exact ⟨a, _, c, rfl, rfl, h1.1.cell 0 0 rfl rfl⟩
  · obtain ⟨a, c, rfl, _⟩ := h1.sl
    exact ⟨a, _, c, rfl, hq, h1.1.cell 0 0 rfl rfl⟩
theorem depth_cur {N B b : Nat} {F : Nat → Prop} {w : World} {v : Value} {R : List (List UInt8 × Tv)} (h : Cur N B b F w v R) :
    Calls Try.prog 23 #[.pointer (some ⟨b, 0, none⟩)] w fun e w' => e = .returned (.int .i64 (deepC N R : Int)) ∧ w = w' := by
  obtain ⟨a, n, c, rfl, hn, h0⟩ := h.sl
  rw [← hn]
  clear h hn
  go_enter Try.func23, Try.ntmps23
  go_wp2_with fail
  go_ret
  exact ⟨rfl, rfl⟩
theorem depth_nil (w : World) : Calls Try.prog 23 #[.pointer none] w fun e w' => e = .returned (.int .i64 0) ∧ w = w' := by
  go_enter Try.func23, Try.ntmps23
  go_wp2_with fail
  go_ret
  exact ⟨rfl, rfl⟩
def PeekTo (w : World) (R : List (List UInt8 × Tv)) (e : Ending) (w' : World) : Prop := e = .returned (.tuple #[.string (strOf (keyH R)), .bool (someH R)]) ∧ Below w.heap.size w w'
theorem peek_nil (w : World) : Calls Try.prog 22 #[.pointer none] w (PeekTo w []) := by
  go_enter Try.func22, Try.ntmps22
  go_wp2_with fail
  refine (depth_nil _).mono ?_
  rintro e w1 ⟨rfl, rfl⟩
  go_wp2_with fail
  go_ret2
  exact ⟨rfl, Below.refl _ _⟩
set_option maxRecDepth 100000 in
set_option maxHeartbeats 2000000 in
theorem peek_cur {N B b : Nat} {F : Nat → Prop} {w : World} {v : Value} {R : List (List UInt8 × Tv)} (h : Cur N B b F w v R) (hN : N ≤ 1000) :
    Calls Try.prog 22 #[.pointer (some ⟨b, 0, none⟩)] w (PeekTo w R) := by
  have CD := depth_cur h
  rcases h.cases with ⟨rfl, h1⟩ | ⟨p, l, k, q, c, T, h1, hk, rfl, _, hq, hv⟩
  · clear h h1
    go_enter Try.func22, Try.ntmps22
    go_wp2_with fail
    refine CD.mono ?_
    rintro e w1 ⟨rfl, rfl⟩
    clear CD
    have hd : deepC N [] = 0 := rfl
    rw [hd]
    go_wp2_with fail
    go_ret2
    exact ⟨rfl, Below.refl _ _⟩
  · have hd : deepC N (c :: T) = N := rfl
    rw [hd] at CD
    obtain ⟨n, hn⟩ : ∃ n, q.length = n := ⟨_, rfl⟩
    obtain rfl : N = n + 1 := by omega
    obtain ⟨a, cc, rfl, hcc, _, hg0⟩ := h1.sl
    obtain ⟨gb, rfl, _, hgw, _⟩ := hg0 (by simp)
    obtain ⟨a1, c1, a2, n2, c2, a3, n3, c3, _, hnode, hcells⟩ := h1.top
    have f0 := h1.1.cell 0 0 rfl rfl
    have hbw := h1.1.lt 0 rfl
    have hlen : ((Tr.leaf p l, k) :: q).length = n + 1 := by simp [hn]
    rw [hlen] at f0 hcc
    rw [hn] at hcells
    obtain ⟨ka', kc', va', vn', vc', ca', cn', cc', V, C, e, g1, _⟩ := hnode.open
    cases e
    have hkl : k < l.length := (List.getElem?_eq_some_iff.1 hk).1
    obtain ⟨bk, ok, rfl, hbk, hck⟩ := g1.key_at (show k < cntT (.leaf p l) from hkl)
    have hkk : (Tr.leaf p l).keys[k]?.getD [] = c.1 := by simp [Tr.keys, keysOf, hk]
    rw [hkk] at hck
    have g3 := g1.lens.2.2
    have g2 := g1.lens.2.1
    have hw1 : IntKind.i64.wrap ((n + 1 : Nat) - 1 : Int) = (n : Int) := by rw [IntWalk.i64_in _ (by omega)]; omega
    have hw1' : IntKind.i64.wrap ((n : Int) + 1 - 1) = (n : Int) := by rw [IntWalk.i64_in _ (by omega)]; omega
    have hnn : (n : Int) < ((n + 1 : Nat) : Int) := by omega
    have hwn : IntKind.i64.wrap (n : Int) = (n : Int) := IntWalk.i64_in _ (by omega)
    have h0n : (0 : Int) ≤ (n : Int) := by omega
    have hnc : (n : Int) ≤ (cc : Int) := by omega
    have hkc : (k : Int) < (cntT (.leaf p l) : Int) := by show (k : Int) < (l.length : Int); omega
    have hne0 : decide (((n + 1 : Nat) : Int) = 0) = false := by simp; omega
    have hne1 : (((n + 1 : Nat) : Int) == 0) = false := by simp; omega
    have hne2 : (((n : Int) + 1) == 0) = false := by simp; omega
    have hnn2 : (n : Int) < (n : Int) + 1 := by omega
    have h0k : (0 : Int) ≤ (k : Int) := by omega
    have L0 : ∀ W, Below w.heap.size w W → W.cell? ⟨b, 0, none⟩ = _ := fun W hW => (hW.cell (p := ⟨b, 0, none⟩) hbw).trans f0
    have D0 : ∀ W, Below w.heap.size w W → W.cell? ⟨gb, n * 6, none⟩ = _ := fun W hW => (hW.cell (p := ⟨gb, n * 6, none⟩) hgw).trans (hcells 0 _ rfl)
    have D1 : ∀ W, Below w.heap.size w W → W.cell? ⟨gb, n * 6 + 1, none⟩ = _ := fun W hW => (hW.cell (p := ⟨gb, n * 6 + 1, none⟩) hgw).trans (hcells 1 _ rfl)
    have D2 : ∀ W, Below w.heap.size w W → W.cell? ⟨gb, n * 6 + 2, none⟩ = _ := fun W hW => (hW.cell (p := ⟨gb, n * 6 + 2, none⟩) hgw).trans (hcells 2 _ rfl)
    have D3 : ∀ W, Below w.heap.size w W → W.cell? ⟨gb, n * 6 + 3, none⟩ = _ := fun W hW => (hW.cell (p := ⟨gb, n * 6 + 3, none⟩) hgw).trans (hcells 3 _ rfl)
    have D4 : ∀ W, Below w.heap.size w W → W.cell? ⟨gb, n * 6 + 4, none⟩ = _ := fun W hW => (hW.cell (p := ⟨gb, n * 6 + 4, none⟩) hgw).trans (hcells 4 _ rfl)
    have D5 : ∀ W, Below w.heap.size w W → W.cell? ⟨gb, n * 6 + 5, none⟩ = _ := fun W hW => (hW.cell (p := ⟨gb, n * 6 + 5, none⟩) hgw).trans (hcells 5 _ rfl)
    generalize cntT (.leaf p l) = m at *
    generalize (Tr.leaf p l).page = pp at *
    generalize (Tr.leaf p l).isLeaf = pl at *
    have hb0 : Below w.heap.size w w.drew := Below.dr (Below.refl _ _)
    clear h h1 hk hv hnode hcells g1 hlen hg0 hkk
    show Calls _ _ _ _ (PeekTo w (c :: T))
    go_enter Try.func22, Try.ntmps22
    go_wp2_with fail
    refine CD.mono ?_
    rintro e w1 ⟨rfl, rfl⟩
    clear CD
    go_wp2_with fail
    go_region_held3 (fun W => Below w.heap.size w W) (first | with_reducible assumption | (repeat (with_reducible first | assumption | exact Below.refl _ _ | apply Below.al | apply Below.dr))) (fail)
    go_wp2_with fail
    go_ret2
    exact ⟨rfl, Below.dr (Below.al (Below.refl _ _))⟩
/-- What going past an entry leaves. -/
def NextTo (N B b : Nat) (F : Nat → Prop) (v : Value) (w : World) (R : List (List UInt8 × Tv)) (e : Ending) (w' : World) : Prop :=
  e = .returned (.tuple #[.string (strOf (keyH R)), .string (strOf (valH R)), .bool (someH R)]) ∧ ∃ v', Cur N B b F w' v' R.tail ∧ CurStay b v w w' v'
theorem next_nil (w : World) : Calls Try.prog 24 #[.pointer none] w fun e w' => e = .returned (.tuple #[.string (strOf []), .string (strOf []), .bool false]) ∧ Below w.heap.size w w' := by
  go_enter Try.func24, Try.ntmps24
  go_wp2_with fail
  refine (peek_nil _).mono ?_
  rintro e w1 ⟨rfl, hb⟩
  have h1 : keyH [] = [] := rfl
  have h2 : someH [] = false := rfl
  rw [h1, h2]
  go_wp2_with fail
  refine bodyPost_ret (v := .tuple #[.string (strOf []), .string (strOf []), .bool false]) (by simp [results, Try.results24, go_sem, strOf]) rfl ⟨rfl, hb⟩
set_option maxRecDepth 100000 in
set_option maxHeartbeats 2000000 in
theorem next_cur {N B b : Nat} {F : Nat → Prop} {w : World} {v : Value} {R : List (List UInt8 × Tv)} (h : Cur N B b F w v R) (hB : B ≤ w.heap.size) (hN : N ≤ 200) :
    Calls Try.prog 24 #[.pointer (some ⟨b, 0, none⟩)] w (NextTo N B b F v w R) := by
  have CD := peek_cur h (by omega)
  rcases h.cases with ⟨rfl, h1⟩ | ⟨p, l, k, q, c, T, h1, hk, rfl, hT, hq, hv⟩
  · have HH := Lib.hid h
    clear h h1
    go_enter Try.func24, Try.ntmps24
    go_wp2_with fail
    refine CD.mono ?_
    rintro e w1 ⟨rfl, hb⟩
    clear CD
    have h1 : keyH [] = [] := rfl
    have h2 : someH [] = false := rfl
    rw [h1, h2]
    go_wp2_with fail
    refine bodyPost_ret (v := .tuple #[.string (strOf []), .string (strOf []), .bool false]) (by simp [results, Try.results24, go_sem, strOf]) rfl ⟨rfl, _, HH.out.below hb, CurStay.below hb⟩
  · have hd : deepC N (c :: T) = N := rfl
    obtain ⟨n, hn⟩ : ∃ n, q.length = n := ⟨_, rfl⟩
    obtain rfl : N = n + 1 := by omega
    have HH1 := Lib.hid h1
    have HT := Lib.hid hT
    have HV := Lib.hid hv
    have HNQ := Lib.hid hn
    have hkl : k < l.length := (List.getElem?_eq_some_iff.1 hk).1
    have HK := Lib.hid hk
    clear h h1 hT hv hn hk hq hd
    show Calls _ _ _ _ (NextTo (n + 1) B b F v w (c :: T))
    go_enter Try.func24, Try.ntmps24
    go_wp2_with fail
    refine CD.mono ?_
    rintro e w1 ⟨rfl, hb⟩
    clear CD
    have e1 : keyH (c :: T) = c.1 := rfl
    have e2 : someH (c :: T) = true := rfl
    rw [e1, e2]
    clear e1 e2
    have h1 := HH1.out.below hb
    have hst1 := CurStay.below (b := b) (v := v) hb
    have hB1 := Nat.le_trans hB hb.size
    clear hb
    obtain ⟨a, cc, rfl, hcc, _, hg0⟩ := h1.sl
    obtain ⟨gb, rfl, _, hgw, _⟩ := hg0 (by simp)
    obtain ⟨a1, c1, a2, n2, c2, a3, n3, c3, _, hnode, hcells⟩ := h1.top
    have f0 := h1.1.cell 0 0 rfl rfl
    have hlen : ((Tr.leaf p l, k) :: q).length = n + 1 := by simp [HNQ.out]
    rw [hlen] at f0 hcc
    rw [HNQ.out] at hcells
    have hw1 : IntKind.i64.wrap ((n + 1 : Nat) - 1 : Int) = (n : Int) := by rw [IntWalk.i64_in _ (by omega)]; omega
    have hw1' : IntKind.i64.wrap ((n : Int) + 1 - 1) = (n : Int) := by rw [IntWalk.i64_in _ (by omega)]; omega
    have hnn : (n : Int) < ((n + 1 : Nat) : Int) := by omega
    have hnn2 : (n : Int) < (n : Int) + 1 := by omega
    have hwn : IntKind.i64.wrap (n : Int) = (n : Int) := IntWalk.i64_in _ (by omega)
    have h0n : (0 : Int) ≤ (n : Int) := by omega
    have hnc : (n : Int) ≤ (cc : Int) := by omega
    have h0k : (0 : Int) ≤ (k : Int) := by omega
    obtain ⟨ka', kc', va', vn', vc', ca', cn', cc', V, C, e, _, g2, _, g4, _⟩ := hnode.open
    cases e
    have hvn : n2 = l.length := by rw [← g2.1, g4.toR.lens.2.1]; rfl
    subst hvn
    have g22 := g2.lens.2.1
    have g23 := g2.lens.2.2
    obtain ⟨bv, ov, tv, tcs, rfl, hbv, hyv, _, ⟨pa, pn, pc, rfl, _, _⟩, hcv⟩ := TabR.at (Raw.tab g2 g4.2.1) hkl
    have htv : tv = c.2 := by
      have hk := HK.out
      rw [List.getElem?_map, hk] at hyv
      exact (Option.some.inj hyv).symm
    subst htv
    have v0 := hcv 0 _ rfl
    have d3 := hcells 3 _ rfl
    have d5 := hcells 5 _ rfl
    have hkc : (k : Int) < (l.length : Int) := by omega
    have e3 : valH (c :: T) = c.2.data := rfl
    have HC1 := Lib.hid h1
    have HST1 := Lib.hid hst1
    clear hnode hcells g2 g4 hcv hyv hg0 h1 hst1
    go_wp2_with fail
    go_quiet (fail)
    go_upto_region 5 with (fail)
    obtain ⟨wy, hwy⟩ : ∃ x, x = w1.drewN nq := ⟨_, rfl⟩
    rw [← hwy]
    have hby : Below w1.heap.size w1 wy := by rw [hwy]; exact below_drewN (Below.refl _ _) _
    have d3' := (hby.cell (p := ⟨gb, n * 6 + 3, none⟩) hgw).trans d3
    have d5' := (hby.cell (p := ⟨gb, n * 6 + 5, none⟩) hgw).trans d5
    have v0' := (hby.cell (p := ⟨bv, ov + k * 2, none⟩) hbv).trans v0
    have HCY := Lib.hid (HC1.out.below hby)
    have HSTY := Lib.hid (HST1.out.trans (CurStay.below hby))
    have hgw' := Nat.lt_of_lt_of_le hgw hby.size
    have hBY := Nat.le_trans hB1 hby.size
    clear hwy d3 d5 v0 f0 hby hB1 hgw HC1 HST1
    go_quiet (fail)
    go_upto_region 6 with (fail)
    obtain ⟨wx, hwx⟩ : ∃ x, x = wy.drewN nq := ⟨_, rfl⟩
    rw [← hwx]
    have hbx : Below wy.heap.size wy wx := by rw [hwx]; exact below_drewN (Below.refl _ _) _
    have hcx := HCY.out.below hbx
    have hstx := HSTY.out.trans (CurStay.below hbx)
    have d5 := (hbx.cell (p := ⟨gb, n * 6 + 5, none⟩) hgw').trans d5'
    have hBX := Nat.le_trans hBY hbx.size
    obtain ⟨hbump, hbst⟩ := hcx.bump (k + 1)
    rw [HNQ.out] at hbump hbst
    have hcast : ((k + 1 : Nat) : Int) = (k : Int) + 1 := by omega
    rw [hcast] at hbump hbst
    obtain ⟨_, _, ee, _, _, hg1⟩ := hcx.sl
    cases ee
    obtain ⟨_, eg, _, _, hfz'⟩ := hg1 (by simp)
    cases eg
    have d5f := hfz' (n * 6 + 5)
    have hkl9 : k ≤ 1000 := by
      obtain ⟨⟨lo, hi, hsh, hsum⟩, _⟩ := HV.out
      have : l.length ≤ 50 := shape_cnt hsh hsum
      omega
    have hw3 : IntKind.i64.wrap ((k : Int) + 1) = (k : Int) + 1 := IntWalk.i64_in _ (by omega)
    have HBU := Lib.hid hbump
    have HBST := Lib.hid (hstx.trans hbst)
    have HVN : Hid (ValidC 1 ((.leaf p l, k + 1) :: q)) := Lib.hid (by
      obtain ⟨h1, _, h3⟩ := HV.out
      exact ⟨h1, (by show k + 1 ≤ l.length; omega), h3⟩)
    clear hwx d3' d5' v0' hbx HCY HSTY hBY hgw' hcx hstx hbump hbst hg1 hcast
    go_wp2_with fail
    obtain ⟨wz, hwz⟩ : ∃ x, x = wx.setCell ⟨gb, n * 6 + 5, none⟩ (.int .i64 ((k : Int) + 1)) := ⟨_, rfl⟩
    rw [← hwz] at HBU HBST ⊢
    have hBZ : B ≤ wz.heap.size := by rw [hwz]; simpa using hBX
    clear hwz d5 d5f hfz'
    refine (settle_any (g := 1) HBU.out hBZ HVN.out (.inr (by simp [HNQ.out]; omega)) hN).mono ?_
    rintro e w9 ⟨rfl, v9, r9, hc9, hs9, hr9, hst9⟩
    have HEND : Hid (NextTo (n + 1) B b F (.slice (some ⟨gb, 0, none⟩) ((Tr.leaf p l, k) :: q).length cc) w (c :: T) (.returned (.tuple #[.string (strOf c.1), .string (strOf c.2.data), .bool true])) w9) := Lib.hid ⟨rfl, v9, ⟨r9, hc9, hs9, by rw [hr9]; exact HT.out.symm⟩, HBST.out.trans hst9⟩
    clear hc9 hs9 hr9 hst9
    go_wp2_with fail
    refine bodyPost_ret (v := .tuple #[.string (strOf c.1), .string (strOf c.2.data), .bool true]) (by simp [results, Try.results24, go_sem]) rfl HEND.out
/-- How many entries the first so many kids have. -/
def cntTo (n : Nat) (l : List (List UInt8 × Tr)) (i : Nat) : Nat := ((l.take i).flatMap fun c => entsT n c.2).length
theorem cntTo_succ {n : Nat} {l : List (List UInt8 × Tr)} {i : Nat} (h : i < l.length) : cntTo n l (i + 1) = cntTo n l i + (entsT n (kidAt l i)).length := by
  have e : l[i]? = some l[i] := List.getElem?_eq_getElem h
  have ek : kidAt l i = l[i].2 := by simp [kidAt, h]
  unfold cntTo
  rw [List.take_succ_eq_append_of e, List.flatMap_append, List.length_append, ek, List.flatMap_singleton]
theorem cntTo_le {n : Nat} (l : List (List UInt8 × Tr)) (i : Nat) : cntTo n l i ≤ (l.flatMap fun c => entsT n c.2).length := by
  conv => rhs; rw [← List.take_append_drop i l]
  rw [List.flatMap_append, List.length_append]
  exact Nat.le_add_right _ _
theorem cntTo_all (n : Nat) (p : Int) (l : List (List UInt8 × Tr)) : (entsT (n + 1) (.node p l)).length = cntTo n l l.length := by
  unfold cntTo
  rw [List.take_length]; rfl
set_option maxRecDepth 100000 in
set_option maxHeartbeats 2000000 in
theorem count_node {n : Nat} (IH : ∀ {w : World} {cs : List Value} {t : Tr}, NodeIn n w cs t → (entsT n t).length ≤ 100000 → Calls Try.prog 26 #[.agg cs.toArray] w fun e w' => e = .returned (.int .i64 ((entsT n t).length : Int)) ∧ Below w.heap.size w w')
    {w : World} {cs : List Value} {p : Int} {l : List (List UInt8 × Tr)} (h : NodeIn (n + 1) w cs (.node p l)) (he : (entsT (n + 1) (.node p l)).length ≤ 100000) :
    Calls Try.prog 26 #[.agg cs.toArray] w fun e w' => e = .returned (.int .i64 ((entsT (n + 1) (.node p l)).length : Int)) ∧ Below w.heap.size w w' := by
  obtain ⟨ka, kn, kc, va, vn, vc, ca, cn, cc, K, V, C, rfl, _, _, h3, h4⟩ := h.open
  obtain ⟨e1, e2, e3⟩ := h3.lens
  have hcn : cn = l.length := by rw [← h3.1, h4.lens.2.2]; rfl
  subst hcn
  have hend := cntTo_all n p l
  have hall := fun i => Nat.le_trans (cntTo_le (n := n) l i) he
  have hsucc := fun i (hi : i < l.length) => cntTo_succ (n := n) (l := l) hi
  have hkids : ∀ i, i < l.length → ∃ b off u0 u1 u2 u3 u4 u5 u6 u7 u8 u9 u10, ca = some ⟨b, off, none⟩ ∧ b < w.heap.size ∧ NodeIn n w [.int .i64 u0, .bool u1, .slice u2 u3 u4, .slice u5 u6 u7, .slice u8 u9 u10] (kidAt l i) ∧ ∀ j v, [Value.int .i64 u0, .bool u1, .slice u2 u3 u4, .slice u5 u6 u7, .slice u8 u9 u10][j]? = some v → w.cell? ⟨b, off + i * 5 + j, none⟩ = some v := fun i hi => by
    obtain ⟨bc, oc, y, yc, eca, hbc, hy, _, hyc, hcell⟩ := TabR.at h3 hi
    have hyc : yc = y.1 := hyc
    subst hyc
    have hkid : NodeIn n w y.1 (kidAt l i) := h4.2.2.2 i y _ hy (by simp [kidAt, hi])
    cases n with
    | zero => exact hkid.elim
    | succ n =>
      obtain ⟨q1, q2, q3, q4, q5, q6, q7, q8, _, _, _, _, ey, _⟩ := hkid.open
      rw [ey] at hcell hkid
      exact ⟨bc, oc, _, _, _, _, _, _, _, _, _, _, _, eca, hbc, hkid, hcell⟩
  have HK := Lib.hid hkids
  have HALL := Lib.hid hall
  have HSUCC := Lib.hid hsucc
  have HEND := Lib.hid hend
  have hx0 : Boxes (w.alloc (.cells #[.int .i64 (Tr.node p l).page, .bool (Tr.node p l).isLeaf, .slice ka kn kc, .slice va vn vc, .slice ca l.length cc] 33)) [(w.heap.size, [.int .i64 (Tr.node p l).page, .bool (Tr.node p l).isLeaf, .slice ka kn kc, .slice va vn vc, .slice ca l.length cc])] := (Boxes.nil w).alloc #[.int .i64 (Tr.node p l).page, .bool (Tr.node p l).isLeaf, .slice ka kn kc, .slice va vn vc, .slice ca l.length cc] 33 (b := w.heap.size) rfl
  have n1 := hx0.cell 0 1 rfl rfl
  have n4 := hx0.cell 0 4 rfl rfl
  have HB0 : Hid (Below w.heap.size w (w.alloc (.cells #[.int .i64 (Tr.node p l).page, .bool (Tr.node p l).isLeaf, .slice ka kn kc, .slice va vn vc, .slice ca l.length cc] 33))) := Lib.hid (Below.al (Below.refl _ _))
  clear h h3 h4 hkids hall hsucc hend hx0 he
  rw [HEND.out]
  dsimp only [Tr.page, Tr.isLeaf] at *
  obtain ⟨m, hm⟩ : ∃ m, l.length = m := ⟨_, rfl⟩
  rw [hm] at e1 e2 n1 n4 HB0 ⊢
  have HM := Lib.hid hm
  clear hm
  go_enter Try.func26, Try.ntmps26
  go_wp2_with fail
  go_loopw [3, 14] (fun s3 s14 wr => ∃ i : Nat, i ≤ m ∧ s14 = .int .i64 i ∧ s3 = .int .i64 (cntTo n l i : Nat) ∧ Below w.heap.size w wr) (fun _ s _ => m - (intOf s).toNat)
  case atStart => exact ⟨0, Nat.zero_le _, rfl, rfl, HB0.out⟩
  case round =>
    obtain ⟨i, hi, rfl, rfl, hb⟩ := hrel
    clear HB0 n1 n4
    by_cases hlt : i < m
    · obtain ⟨b, off, u0, u1, u2, u3, u4, u5, u6, u7, u8, u9, u10, rfl, hbb, hkid, hcell⟩ := HK.out i (by rw [HM.out]; exact hlt)
      have c0 := (hb.cell (p := ⟨b, off + i * 5, none⟩) hbb).trans (hcell 0 _ rfl)
      have c1 := (hb.cell (p := ⟨b, off + i * 5 + 1, none⟩) hbb).trans (hcell 1 _ rfl)
      have c2 := (hb.cell (p := ⟨b, off + i * 5 + 2, none⟩) hbb).trans (hcell 2 _ rfl)
      have c3 := (hb.cell (p := ⟨b, off + i * 5 + 3, none⟩) hbb).trans (hcell 3 _ rfl)
      have c4 := (hb.cell (p := ⟨b, off + i * 5 + 4, none⟩) hbb).trans (hcell 4 _ rfl)
      have hS := HSUCC.out i (by rw [HM.out]; exact hlt)
      have hA := HALL.out (i + 1)
      have CI := fun W (hW : Below w.heap.size w W) => IH (hkid.below hW) (by omega)
      have HS := Lib.hid hS
      have HBB := Lib.hid hb
      rw [hS] at hA
      obtain ⟨x, hx⟩ : ∃ x, cntTo n l i = x := ⟨_, rfl⟩
      obtain ⟨y, hy⟩ : ∃ y, (entsT n (kidAt l i)).length = y := ⟨_, rfl⟩
      rw [hx, hy] at hA HS
      rw [hx]
      rw [hy] at CI
      clear hS hx hy hkid hcell hb
      go_wp2_with fail
      have hb8 : Below w.heap.size w (wr.alloc (.cells #[.int .i64 u0, .bool u1, .slice u2 u3 u4, .slice u5 u6 u7, .slice u8 u9 u10] 33)) := Below.al HBB.out
      refine (CI _ hb8).mono ?_
      rintro e w9 ⟨rfl, hb9⟩
      have HB9 : Hid (Below w.heap.size w w9) := Lib.hid (hb8.trans (hb9.mono hb8.size))
      have hadd : IntKind.i64.wrap ((x : Int) + (y : Int)) = (x : Int) + (y : Int) := IntWalk.i64_in _ (by omega)
      have hadd1 : IntKind.i64.wrap ((i : Int) + 1) = (i : Int) + 1 := IntWalk.i64_in _ (by have := HM.out; omega)
      clear CI hb9 hb8
      go_wp2_with fail
      go_roundw
      case rel => exact ⟨i + 1, hlt, by go_num, by rw [HS.out]; go_num, HB9.out⟩
      case measure => simp [intOf]; omega
    · obtain rfl : i = m := by omega
      have hlt' : decide ((i : Int) < (i : Int)) = false := by simp
      go_wp2_with fail
      go_ret
      exact ⟨rfl, hb⟩
theorem count_leaf {n : Nat} {w : World} {cs : List Value} {p : Int} {l : List (List UInt8 × Tv)} (h : NodeIn (n + 1) w cs (.leaf p l)) :
    Calls Try.prog 26 #[.agg cs.toArray] w fun e w' => e = .returned (.int .i64 ((entsT (n + 1) (.leaf p l)).length : Int)) ∧ Below w.heap.size w w' := by
  obtain ⟨ka, kn, kc, va, vn, vc, ca, cn, cc, K, V, C, rfl, h1, _, _, h4⟩ := h.open
  have hkn : kn = l.length := by rw [← h1.1, h4.lens.1]; rfl
  subst hkn
  show Calls _ _ _ _ fun e w' => e = .returned (.int .i64 (l.length : Int)) ∧ _
  have hx0 : Boxes (w.alloc (.cells #[.int .i64 (Tr.leaf p l).page, .bool (Tr.leaf p l).isLeaf, .slice ka l.length kc, .slice va vn vc, .slice ca cn cc] 33)) [(w.heap.size, [.int .i64 (Tr.leaf p l).page, .bool (Tr.leaf p l).isLeaf, .slice ka l.length kc, .slice va vn vc, .slice ca cn cc])] := (Boxes.nil w).alloc #[.int .i64 (Tr.leaf p l).page, .bool (Tr.leaf p l).isLeaf, .slice ka l.length kc, .slice va vn vc, .slice ca cn cc] 33 (b := w.heap.size) rfl
  have n1 := hx0.cell 0 1 rfl rfl
  have n2 := hx0.cell 0 2 rfl rfl
  have hb0 : Below w.heap.size w (w.alloc (.cells #[.int .i64 (Tr.leaf p l).page, .bool (Tr.leaf p l).isLeaf, .slice ka l.length kc, .slice va vn vc, .slice ca cn cc] 33)) := Below.al (Below.refl _ _)
  clear h h1 h4 hx0
  dsimp only [Tr.page, Tr.isLeaf] at *
  go_enter Try.func26, Try.ntmps26
  go_wp2_with fail
  go_ret
  exact ⟨rfl, hb0⟩
theorem count_any : ∀ {n : Nat} {w : World} {cs : List Value} {t : Tr}, NodeIn n w cs t → (entsT n t).length ≤ 100000 → Calls Try.prog 26 #[.agg cs.toArray] w fun e w' => e = .returned (.int .i64 ((entsT n t).length : Int)) ∧ Below w.heap.size w w'
  | 0, _, _, _, h, _ => h.elim
  | _n + 1, _, _, .leaf _p _l, h, _ => count_leaf h
  | _n + 1, _, _, .node _p _l, h, he => count_node (fun h he => count_any h he) h he
end Go.Proofs.Ytemfnjlfcemehaa

/- The walks of trees: the document's Entries. -/
namespace Go.Proofs.Ytemfnjlfcemehaa
open Go.RowKit

/-- An entry's words. -/
def entC (y : List UInt8 × Tv) : Cl 4 := ⟨[.string (strOf y.1), .string (strOf y.2.data), .slice none 0 0, .slice none 0 0], rfl, by intro u hu; simp at hu; rcases hu with rfl | rfl | rfl <;> rfl⟩
theorem info_Ce : RowInfo Try.prog 48 4 80 := row_info (by kernel_rfl)
theorem flat_entC (a : List (Cl 4)) (y : List UInt8 × Tv) : flatC (a ++ [entC y]) = flatC a ++ [.string (strOf y.1), .string (strOf y.2.data), .slice none 0 0, .slice none 0 0] := by
  rw [flatC_append]; exact congrArg (flatC a ++ ·) (List.append_nil _)
/-- What a round reads. -/
def EsS (B : Nat) (sl : Value) (b o : Nat) (k d : Value) (W : World) : Prop := (B < W.heap.size ∧ b < W.heap.size) ∧ W.cell? ⟨B, 2, none⟩ = some sl ∧ W.cell? ⟨b, o, none⟩ = some k ∧ W.cell? ⟨b, o + 1, none⟩ = some d
theorem EsS.below {B : Nat} {sl : Value} {b o : Nat} {k d : Value} {W W' : World} (h : EsS B sl b o k d W) (hb : Below W.heap.size W W') : EsS B sl b o k d W' :=
  ⟨⟨Nat.lt_of_lt_of_le h.1.1 hb.size, Nat.lt_of_lt_of_le h.1.2 hb.size⟩, (hb.cell (p := ⟨B, 2, none⟩) h.1.1).trans h.2.1, (hb.cell (p := ⟨b, o, none⟩) h.1.2).trans h.2.2.1, (hb.cell (p := ⟨b, o + 1, none⟩) h.1.2).trans h.2.2.2⟩
theorem EsS.dr {B : Nat} {sl : Value} {b o : Nat} {k d : Value} {W : World} (h : EsS B sl b o k d W) : EsS B sl b o k d W.drew := h
theorem EsS.al {B : Nat} {sl : Value} {b o : Nat} {k d : Value} {W : World} {ob : Obj} (h : EsS B sl b o k d W) : EsS B sl b o k d (W.alloc ob) := h.below (Below.al (Below.refl _ _))
theorem EsS.grown {B : Nat} {sl : Value} {b o : Nat} {k d : Value} {W W' : World} {row : Option Nat} (h : EsS B sl b o k d W) (hg : W.grownBy W' row) (h1 : row ≠ some B) (h2 : row ≠ some b) : EsS B sl b o k d W' := by
  have g : ∀ j off, j < W.heap.size → row ≠ some j → W'.cell? ⟨j, off, none⟩ = W.cell? ⟨j, off, none⟩ := fun j off hj hne => World.cell?_of_block (hg.block j hj (fun e => hne e.symm))
  exact ⟨⟨Nat.lt_of_lt_of_le h.1.1 hg.size, Nat.lt_of_lt_of_le h.1.2 hg.size⟩, (g B 2 h.1.1 h1).trans h.2.1, (g b o h.1.2 h2).trans h.2.2.1, (g b (o + 1) h.1.2 h2).trans h.2.2.2⟩
set_option maxRecDepth 100000 in
set_option maxHeartbeats 3000000 in
theorem entries_leaf {n : Nat} {F : Nat → Prop} {w : World} {cs : List Value} {p : Int} {l : List (List UInt8 × Tv)} (h : RNodeOn F (n + 1) w cs (.leaf p l)) (hm : l.length ≤ 1000) :
    Calls Try.prog 27 #[.agg cs.toArray] w (OwnRaw 48 4 w (l.map entC)) := by
  obtain ⟨a, c, rfl, h1, _⟩ := h.at
  obtain ⟨e1, e2, e3⟩ := h1.lens
  obtain ⟨m, hml⟩ : ∃ m, cntT (.leaf p l) = m := ⟨_, rfl⟩
  rw [hml] at h1 e1 e2 ⊢
  have hml : l.length = m := hml
  show Calls _ _ #[.agg #[.int .i64 p, .bool true, .slice a m c]] _ _
  have H1 := Lib.hid h1
  have hB0 : Below w.heap.size w (w.alloc (.cells #[.int .i64 p, .bool true, .slice a m c] 26)) := Below.al (Below.refl _ _)
  have HX0 := Lib.hid ((Boxes.nil w).alloc #[.int .i64 p, .bool true, .slice a m c] 26 (b := w.heap.size) rfl)
  have HB0 := Lib.hid hB0
  have HML := Lib.hid hml
  obtain ⟨ti, tz, i1, i2, i3, i4, i5⟩ := info_Ce
  clear h1 hB0 e1 h hml
  have hm : m ≤ 1000 := by rw [← HML.out]; exact hm
  go_enter Try.func27, Try.ntmps27
  go_wp2_with fail
  go_loopw [3, 4] (fun s3 s4 wr => ∃ (i : Nat), i ≤ m ∧ s4 = .int .i64 i ∧ Boxes wr [(w.heap.size, [.int .i64 p, .bool true, .slice a m c])] ∧ wr.ownsRow (w.heap.size + 1) 48 4 s3 i (flatC ((l.take i).map entC)) ∧ Below w.heap.size w wr) (fun _ s _ => m - (intOf s).toNat)
  case atStart => exact ⟨0, Nat.zero_le _, rfl, HX0.out, own_nil _ _ _ _, HB0.out⟩
  case round =>
    obtain ⟨i, hi, rfl, hx, hown, hb⟩ := hrel
    clear HX0 HB0
    have hx0 := hx.lt 0 rfl
    have n0 := hx.cell 0 0 rfl rfl
    have n1 := hx.cell 0 1 rfl rfl
    have n2 := hx.cell 0 2 rfl rfl
    by_cases hlt : i < m
    · obtain ⟨b, off, y, pa, pn, pc, ka, kn, kc, rfl, hbb, hy, _, _, _, _, _, c0, c1, c2, c3⟩ := RNodeOn.cell H1.out hlt
      rw [cellsR_leaf] at hy
      obtain ⟨x, hx1, hx2⟩ := Option.map_eq_some_iff.1 hy
      subst hx2
      have v0 := (hb.cell (p := ⟨b, off + i * 4, none⟩) hbb).trans c0
      have v1 := (hb.cell (p := ⟨b, off + i * 4 + 1, none⟩) hbb).trans c1
      have hts : (l.take (i + 1)).map entC = (l.take i).map entC ++ [entC x] := by rw [List.take_add_one, hx1]; simp
      obtain ⟨v8, w8, hr8, ho8, hg8, hv8⟩ := run_append_new (P := Try.prog) (w := wr.drew) (w.heap.size + 1) 24 48 ti tz 4 80 Try.underlying24 i1 i2 i3 i4 i5 (by decide) hown #[.string (strOf x.1), .string (strOf x.2.data), .slice none 0 0, .slice none 0 0] rfl (by intro u hu; simp at hu; rcases hu with rfl | rfl | rfl <;> rfl) (by unfold maxLen; omega) (by omega) (by show w.heap.size + 1 ≤ wr.heap.size; omega)
      have HO8 : Hid (w8.ownsRow (w.heap.size + 1) 48 4 v8 (i + 1) (flatC ((l.take (i + 1)).map entC))) := Lib.hid (by rw [hts, flat_entC]; exact ho8)
      have hge := own_ge hown
      have HX8 := Lib.hid ((hx.drew).grown hg8 (by intro p hp e; simp at hp; subst hp; have := hge _ e; simp at this; omega))
      have HB8 := Lib.hid (hb.drew.grown hg8 (by show w.heap.size ≤ wr.heap.size; omega) (fun k hk => by have := hge k hk; omega))
      have hS : EsS w.heap.size (.slice (some ⟨b, off, none⟩) m c) b (off + i * 4) (.string (strOf x.1)) (.string (strOf x.2.data)) wr.drew := ⟨⟨hx0, Nat.lt_of_lt_of_le hbb hb.size⟩, n2, v0, v1⟩
      have hSw : EsS w.heap.size (.slice (some ⟨b, off, none⟩) m c) b (off + i * 4) (.string (strOf x.1)) (.string (strOf x.2.data)) wr := hS
      have hS8 := hS.grown hg8 (fun e => by have := hge _ e; omega) (fun e => by have := hge _ e; omega)
      have t0 : ∀ W, EsS w.heap.size (.slice (some ⟨b, off, none⟩) m c) b (off + i * 4) (.string (strOf x.1)) (.string (strOf x.2.data)) W → W.cell? ⟨w.heap.size, 2, none⟩ = some (.slice (some ⟨b, off, none⟩) m c) := fun W h => h.2.1
      have t1 : ∀ W, EsS w.heap.size (.slice (some ⟨b, off, none⟩) m c) b (off + i * 4) (.string (strOf x.1)) (.string (strOf x.2.data)) W → W.cell? ⟨b, off + i * 4, none⟩ = some (.string (strOf x.1)) := fun W h => h.2.2.1
      have t2 : ∀ W, EsS w.heap.size (.slice (some ⟨b, off, none⟩) m c) b (off + i * 4) (.string (strOf x.1)) (.string (strOf x.2.data)) W → W.cell? ⟨b, off + i * 4 + 1, none⟩ = some (.string (strOf x.2.data)) := fun W h => h.2.2.2
      clear hx hown hb hts ho8 hg8 hv8 hge c0 c1 c2 c3 hx1 hy
      go_wp2_with fail
      go_region_held3 (fun W => EsS w.heap.size (.slice (some ⟨b, off, none⟩) m c) b (off + i * 4) (.string (strOf x.1)) (.string (strOf x.2.data)) W) (first | with_reducible assumption | (repeat (with_reducible first | assumption | apply EsS.dr | apply EsS.al))) (refine step_append_run rfl _ _ _ _ rfl rfl rfl hr8 ?_)
      go_wp2_with fail
      go_roundw
      case rel => exact ⟨i + 1, hlt, by go_num, HX8.out, HO8.out, HB8.out⟩
      case measure => simp [intOf]; omega
    · obtain rfl : i = m := by omega
      have HE : Hid (OwnRaw 48 4 w (l.map entC) (.returned u3) wr) := Lib.hid (by
        rw [List.take_of_length_le (by rw [HML.out]; exact Nat.le_refl _)] at hown
        exact ⟨u3, rfl, by rw [List.length_map, HML.out]; exact own_base hown (by omega), hb⟩)
      clear hx hown hb
      go_wp2_with fail
      go_ret
      exact HE.out
theorem entsK_take {n : Nat} {l : List (List UInt8 × Tr)} {i : Nat} {c : List UInt8 × Tr} (h : l[i]? = some c) : entsK n (l.take (i + 1)) = entsK n (l.take i) ++ entsT n c.2 := by
  rw [List.take_add_one, h, entsK_append]
  simp [entsK]
theorem entsK_part (n : Nat) (l : List (List UInt8 × Tr)) (i : Nat) : (entsK n (l.take i)).length ≤ (entsK n l).length := by
  conv => rhs; rw [← List.take_append_drop i l, entsK_append, List.length_append]
  omega
set_option maxRecDepth 100000 in
set_option maxHeartbeats 3000000 in
theorem entries_node {n : Nat} {F : Nat → Prop} (IH : ∀ {w : World} {cs : List Value} {t : Tr}, RNodeOn F n w cs t → Bnd n t → (entsT n t).length ≤ 100000 → Calls Try.prog 27 #[.agg cs.toArray] w (OwnRaw 48 4 w ((entsT n t).map entC)))
    {w : World} {cs : List Value} {p : Int} {l : List (List UInt8 × Tr)} (h : RNodeOn F (n + 1) w cs (.node p l)) (hbd : Bnd (n + 1) (.node p l)) (hen : (entsK n l).length ≤ 100000) :
    Calls Try.prog 27 #[.agg cs.toArray] w (OwnRaw 48 4 w ((entsK n l).map entC)) := by
  obtain ⟨a, c, rfl, h1, _⟩ := h.at
  obtain ⟨e1, e2, e3⟩ := h1.lens
  obtain ⟨m, hml⟩ : ∃ m, cntT (.node p l) = m := ⟨_, rfl⟩
  rw [hml] at h1 e1 e2 ⊢
  have hml : l.length = m := hml
  show Calls _ _ #[.agg #[.int .i64 p, .bool false, .slice a m c]] _ _
  have H1 := Lib.hid h1
  have hB0 : Below w.heap.size w (w.alloc (.cells #[.int .i64 p, .bool false, .slice a m c] 26)) := Below.al (Below.refl _ _)
  have HX0 := Lib.hid ((Boxes.nil w).alloc #[.int .i64 p, .bool false, .slice a m c] 26 (b := w.heap.size) rfl)
  have HB0 := Lib.hid hB0
  have HML := Lib.hid hml
  obtain ⟨ti, tz, i1, i2, i3, i4, i5⟩ := info_Ce
  have hm : m ≤ 1000 := by rw [← hml]; exact hbd.1
  have HBD := Lib.hid hbd.2
  clear h1 hB0 e1 h hml hbd
  go_enter Try.func27, Try.ntmps27
  go_wp2_with fail
  go_loopw [3, 4] (fun s3 s4 wr => ∃ (i : Nat), i ≤ m ∧ s4 = .int .i64 i ∧ Boxes wr [(w.heap.size, [.int .i64 p, .bool false, .slice a m c])] ∧ wr.ownsRow (w.heap.size + 1) 48 4 s3 (entsK n (l.take i)).length (flatC ((entsK n (l.take i)).map entC)) ∧ Below w.heap.size w wr) (fun _ s _ => m - (intOf s).toNat)
  case atStart => exact ⟨0, Nat.zero_le _, rfl, HX0.out, own_nil _ _ _ _, HB0.out⟩
  case round =>
    obtain ⟨i, hi, rfl, hx, hown, hb⟩ := hrel
    clear HX0 HB0
    have hx0 := hx.lt 0 rfl
    have n0 := hx.cell 0 0 rfl rfl
    have n1 := hx.cell 0 1 rfl rfl
    have n2 := hx.cell 0 2 rfl rfl
    by_cases hlt : i < m
    · obtain ⟨b, off, y, pa, pn, pc, ka, kn, kc, rfl, hbb, hy, _, _, _, hk, _, c0, c1, c2, c3⟩ := RNodeOn.cell H1.out hlt
      rw [cellsR_node] at hy
      obtain ⟨x, hx1, hx2⟩ := Option.map_eq_some_iff.1 hy
      subst hx2
      have v3 := (hb.cell (p := ⟨b, off + i * 4 + 3, none⟩) hbb).trans c3
      have hkn : kn = 1 := hk.1.symm
      subst hkn
      obtain ⟨kb, ko, ky, kcs, rfl, hkb, hky, hkl, hkid, hkc⟩ := TabR.at hk (Nat.lt_add_one 0)
      have hky : ky = x.2 := by simpa using hky.symm
      subst hky
      cases n with
      | zero => exact hkid.elim
      | succ n =>
      obtain ⟨xa, xc, ek, _, _⟩ := hkid.at
      subst ek
      have g0 := (hb.cell (p := ⟨kb, ko + 0 * 3, none⟩) hkb).trans (hkc 0 _ rfl)
      have g1 := (hb.cell (p := ⟨kb, ko + 0 * 3 + 1, none⟩) hkb).trans (hkc 1 _ rfl)
      have g2 := (hb.cell (p := ⟨kb, ko + 0 * 3 + 2, none⟩) hkb).trans (hkc 2 _ rfl)
      rw [Nat.zero_mul, Nat.add_zero] at g0 g1 g2
      have hts := entsK_take (n := n + 1) hx1
      have hp1 := entsK_part (n + 1) l (i + 1)
      have hp2 := congrArg List.length hts
      rw [List.length_append] at hp2
      have CE := IH (hkid.below hb) (HBD.out x (List.mem_of_getElem? hx1)).2 (by omega)
      obtain ⟨ct, hct⟩ : ∃ q, cntT x.2 = q := ⟨_, rfl⟩
      obtain ⟨pt, hpt⟩ : ∃ q, x.2.page = q := ⟨_, rfl⟩
      obtain ⟨lt, hlt2⟩ : ∃ q, x.2.isLeaf = q := ⟨_, rfl⟩
      rw [hct, hpt, hlt2] at CE
      rw [hct] at g2
      rw [hpt] at g0
      rw [hlt2] at g1
      have HX := Lib.hid hx
      have HB := Lib.hid hb
      have HO := Lib.hid hown
      have HTS := Lib.hid hts
      have hbb9 := Nat.lt_of_lt_of_le hbb hb.size
      have hkb9 := Nat.lt_of_lt_of_le hkb hb.size
      have hkc1 := hk.2.1
      have hkc2 := hk.lens.2.2
      clear hx hown hb hts c0 c1 c2 c3 hy hkid hkc hct hpt hlt2 hk
      obtain ⟨el, hel⟩ : ∃ q, (entsK (n + 1) (l.take i)).length = q := ⟨_, rfl⟩
      have HEL := Lib.hid hel
      rw [hel] at hp2
      clear hel
      go_wp2_with fail
      refine CE.mono ?_
      rintro e w2 ho2
      obtain ⟨L2, hL2⟩ : ∃ q, (entsT (n + 1) x.2).map entC = q := ⟨_, rfl⟩
      have hl9 : L2.length = (entsT (n + 1) x.2).length := by rw [← hL2]; exact List.length_map _
      rw [hL2] at ho2
      obtain ⟨a2, k2, he2, hl2, hm2, ho2, hb2⟩ := ho2.sl
      have hraw := Raw.of_sl ho2 rfl
      obtain ⟨ll, hll⟩ : ∃ q, L2.length = q := ⟨_, rfl⟩
      rw [hll] at hl9 hl2 hraw he2
      subst he2
      have HLL := Lib.hid hll
      have HL2 := Lib.hid hL2
      have HL9 := Lib.hid hl9
      obtain ⟨v8, w8, hr8, ho8, hg8, hv8⟩ := run_append_tab (α := Cl 4) (P := Try.prog) (w := w2) (w.heap.size + 1) 24 48 ti tz 4 80 Try.underlying24 i1 i2 i3 i4 i5 (by decide) (own_held HO.out hb2) (fun cs y => cs = y.1) (fun y => y.1) (fun _ _ h => h) (fun y => y.2.1) (fun y => y.2.2) hraw (by rw [hl9, HEL.out]; unfold maxLen; omega) (by rw [hl9, HEL.out]; omega) (by have := HB.out.size; have := hb2.size; omega)
      have hge := own_ge HO.out
      have HO8 : Hid (w8.ownsRow (w.heap.size + 1) 48 4 v8 (entsK (n + 1) (l.take (i + 1))).length (flatC ((entsK (n + 1) (l.take (i + 1))).map entC))) := Lib.hid (by
        rw [HTS.out, List.length_append, List.map_append, flatC_append, ← HL9.out, HL2.out]
        exact ho8)
      have HX8 := Lib.hid ((HX.out.step hb2).grown hg8 (by intro p hp e; simp at hp; subst hp; have := hge _ e; simp at this; omega))
      have HB8 := Lib.hid ((HB.out.trans (hb2.mono HB.out.size)).grown hg8 (Nat.le_trans HB.out.size hb2.size) (fun k hk => by have := hge k hk; omega))
      clear ho8 hg8 hv8 hge hraw ho2 hb2 CE hl9 hll hL2
      go_wp2_with (at_builtin; refine wpList_append_run rfl _ _ _ _ rfl rfl rfl hr8 ?_)
      go_roundw
      case rel => exact ⟨i + 1, hlt, by go_num, HX8.out, HO8.out, HB8.out⟩
      case measure => simp [intOf]; omega
    · obtain rfl : i = m := by omega
      have HE : Hid (OwnRaw 48 4 w ((entsK n l).map entC) (.returned u3) wr) := Lib.hid (by
        rw [List.take_of_length_le (by rw [HML.out]; exact Nat.le_refl _)] at hown
        exact ⟨u3, rfl, by rw [List.length_map]; exact own_base hown (by omega), hb⟩)
      clear hx hown hb
      go_wp2_with fail
      go_ret
      exact HE.out
theorem entries_any : ∀ {n : Nat} {F : Nat → Prop} {w : World} {cs : List Value} {t : Tr}, RNodeOn F n w cs t → Bnd n t → (entsT n t).length ≤ 100000 → Calls Try.prog 27 #[.agg cs.toArray] w (OwnRaw 48 4 w ((entsT n t).map entC))
  | 0, _, _, _, _, h, _, _ => h.elim
  | _n + 1, _, _, _, .leaf _p _l, h, hb, _ => entries_leaf h hb.1
  | _n + 1, _, _, _, .node _p _l, h, hb, he => entries_node (fun h hb he => entries_any h hb he) h hb he
end Go.Proofs.Ytemfnjlfcemehaa

/- Entries in a row; a node's words. -/
namespace Go.Proofs.Ytemfnjlfcemehaa
open Go.RowKit

/-- A node's words. -/
theorem NodeOn.words {F : Nat → Prop} {n : Nat} {w : World} {cs : List Value} {t : Tr} (h : NodeOn F n w cs t) :
    ∃ a1 c1 a2 n2 c2 a3 n3 c3, cs = [.int .i64 t.page, .bool t.isLeaf, .slice a1 (cntT t) c1, .slice a2 n2 c2, .slice a3 n3 c3] ∧ cntT t ≤ c1 ∧ c1 ≤ 9223372036854775807 := by
  obtain ⟨ka, kc, va, vn, vc, ca, cn, cc, V, C, e, h1, _⟩ := h.open_pos
  exact ⟨ka, kc, va, vn, vc, ca, cn, cc, e, h1.lens.2.1, h1.lens.2.2⟩
theorem Whole.low {n : Nat} {t : Tr} (h : Whole n t) : 0 < n := by
  cases n with
  | zero => exact h.1.1.elim
  | succ n => omega
/-- A row of entries. -/
def EntIn (w : World) (a : Option Addr) (m c : Nat) (E : List (List UInt8 × Tv)) : Prop := Raw 4 w a m c (E.map entC)
theorem EntIn.below {w w' : World} {a : Option Addr} {m c : Nat} {E : List (List UInt8 × Tv)} (h : EntIn w a m c E) (hb : Below w.heap.size w w') : EntIn w' a m c E := TabR.below (Nat.le_refl _) hb h
theorem EntIn.at {w : World} {a : Option Addr} {m c : Nat} {E : List (List UInt8 × Tv)} (h : EntIn w a m c E) {k : Nat} (hk : k < m) :
    ∃ b off y, a = some ⟨b, off, none⟩ ∧ b < w.heap.size ∧ E[k]? = some y ∧ w.cell? ⟨b, off + k * 4, none⟩ = some (.string (strOf y.1)) ∧ w.cell? ⟨b, off + k * 4 + 1, none⟩ = some (.string (strOf y.2.data)) := by
  obtain ⟨b, off, y, cs, e1, e2, e3, _, e5, e6⟩ := TabR.at h hk
  rw [List.getElem?_map] at e3
  obtain ⟨x, hx, rfl⟩ := Option.map_eq_some_iff.1 e3
  subst e5
  exact ⟨b, off, x, e1, e2, hx, e6 0 _ rfl, e6 1 _ rfl⟩
theorem EntIn.len {w : World} {a : Option Addr} {m c : Nat} {E : List (List UInt8 × Tv)} (h : EntIn w a m c E) : E.length = m ∧ m ≤ c ∧ c ≤ 9223372036854775807 := by
  have := TabR.lens h
  simpa using this
/-- What 'Entries' answers. -/
def EntsTo (W : World) (E : List (List UInt8 × Tv)) (e : Ending) (w' : World) : Prop :=
  ∃ a m c, e = .returned (.slice a m c) ∧ EntIn w' a m c E ∧ Below W.heap.size W w'
end Go.Proofs.Ytemfnjlfcemehaa
