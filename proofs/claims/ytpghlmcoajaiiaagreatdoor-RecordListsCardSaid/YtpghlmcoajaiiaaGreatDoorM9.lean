/- Texts that other texts of this claim lean on, one behind the other. -/
import Derived.Test.YtpghlmcoajaiiaaGreatDoorM8
import Derived.Deep.RegionHeld3
import Derived.Deep.DeepCutAuto
import Derived.Deep.CutBlock
/- The document's 'parted': the walk (printed by gen_treRp.py). -/
namespace Go.Proofs.YtpghlmcoajaiiaaGreatDoor
open Go.RowKit

/-- What 'parted' answers. -/
def PartedTo (F : Nat → Prop) (n : Nat) (w : World) (p : Int) (l : List (List UInt8 × Tr)) (k : Nat) (e : Ending) (w' : World) : Prop :=
  ∃ cs, e = .returned (.tuple #[.agg cs.toArray, .bool (splitT l k).isSome]) ∧ RNodeOn (Fr F w) n w' cs (match splitT l k with | none => .node p l | some m => .node 0 m) ∧ Below w.heap.size w w'
theorem parted_end {F : Nat → Prop} {n m d : Nat} {w w4 w' : World} {p : Int} {l mm : List (List UInt8 × Tr)} {k r : Nat} {a : Option Addr} (hsp : splitT l k = some mm) (hr : w.heap.size ≤ r) (hF : ∀ b, F b → b < w.heap.size) (hr4 : r < w4.heap.size)
    (h : RNodeOn (Fr F w4) (n + 1) w' [.int .i64 0, .bool (Tr.node 0 mm).isLeaf, .slice a m d] (.node 0 mm)) (hb : Below w.heap.size w w') :
    PartedTo F (n + 1) w p l k (.returned (.tuple #[.agg #[.int .i64 0, .bool false, .slice a m d], .bool true])) (((w'.setCell ⟨r, 0, none⟩ (.int .i64 0)).setCell ⟨r, 1, none⟩ (.bool false)).setCell ⟨r, 2, none⟩ (.slice a m d)) := by
  refine ⟨[.int .i64 0, .bool false, .slice a m d], by rw [hsp]; rfl, ?_, ((hb.setCell (by simpa using hr) _).setCell (by simpa using hr) _).setCell (by simpa using hr) _⟩
  rw [hsp]
  refine (h.put3 (r := r) (fun hg => ?_) _ _ _).mono (fun b hb => ?_)
  · rcases hg with hg | hg
    · have := hF _ hg; omega
    · omega
  · rcases hb with hb | hb
    · exact .inl hb
    · exact .inr (by omega)
set_option maxRecDepth 100000 in
set_option maxHeartbeats 2000000 in
theorem parted_any {F : Nat → Prop} {n : Nat} {w : World} {cs : List Value} {p : Int} {l : List (List UInt8 × Tr)} (hF : ∀ b, F b → b < w.heap.size) (h : RNodeOn F (n + 1) w cs (.node p l)) (hl9 : l.length ≤ 1000) {k : Nat} (hbd : Bnd n (kidAt l k)) (hk : k < l.length) :
    Calls Tryz.prog 165 #[.agg cs.toArray, .int .i64 (k : Int)] w (PartedTo F (n + 1) w p l k) := by
  have H := Lib.hid h
  obtain ⟨a, c, rfl, h1, hfa⟩ := h.at
  obtain ⟨e1, e2, e3⟩ := h1.lens
  obtain ⟨m, hml⟩ : ∃ m, cntT (.node p l) = m := ⟨_, rfl⟩
  have hlm : l.length = m := hml
  rw [hml] at h1 hfa e1 e2 ⊢
  rw [hlm] at hk
  have HFR := Lib.hid h1
  obtain ⟨b, off, y, pa, pn, pc, ka, kn, kc, rfl, hbb, hy, _, _, _, hkid, hfk, c0, c1, c2, c3⟩ := RNodeOn.cell h1 hk
  rw [cellsR_node] at hy
  obtain ⟨x, hx1, hx2⟩ := Option.map_eq_some_iff.1 hy
  subst hx2
  obtain ⟨xk, kid⟩ := x
  have s1 := hkid.lens.1
  obtain rfl : kn = 1 := s1.symm
  obtain ⟨bk, ok, kd, kcs, rfl, hbk, hyk, _, hon, hck⟩ := TabR.at hkid (show 0 < 1 by omega)
  cases hyk
  have hkey : keyAt l k = xk := by unfold keyAt; rw [hx1]; rfl
  have hkd : kidAt l k = kid := by unfold kidAt; rw [hx1]; rfl
  have hkb : Bnd n kid := by rw [← hkd]; exact hbd
  cases n with
  | zero => exact hon.elim
  | succ n =>
  obtain ⟨ak, ck, rfl, hkr, hfr⟩ := hon.at
  have hm9 : m ≤ 1000 := by rw [← hlm]; exact hl9
  have hsm : Small (sizesT kid) := hkb.small
  have hkm9 : cntT kid ≤ 1000 := by
    cases kid with
    | leaf q r => exact hkb.1
    | node q r => exact hkb.1
  obtain ⟨km, hkm⟩ : ∃ x, cntT kid = x := ⟨_, rfl⟩
  obtain ⟨kp, hkp⟩ : ∃ x, kid.page = x := ⟨_, rfl⟩
  obtain ⟨kl, hkl⟩ : ∃ x, kid.isLeaf = x := ⟨_, rfl⟩
  rw [hkm, hkp, hkl] at hon hck
  rw [hkm] at hkr hfr hkm9
  show Calls _ _ #[.agg #[.int .i64 p, .bool false, .slice (some ⟨b, off, none⟩) m c], .int .i64 (k : Int)] _ _
  obtain ⟨W2, hW2⟩ : ∃ x, (w.alloc (.cells #[.int .i64 p, .bool false, .slice (some ⟨b, off, none⟩) m c] 27)).alloc (.cells #[.int .i64 0, .bool false, .slice none 0 0] 27) = x := ⟨_, rfl⟩
  have hb2 : Below w.heap.size w W2 := by rw [← hW2]; exact Below.al (Below.al (Below.refl _ _))
  have hx2 : Boxes W2 [(w.heap.size + 1, [.int .i64 0, .bool false, .slice none 0 0]), (w.heap.size, [.int .i64 p, .bool false, .slice (some ⟨b, off, none⟩) m c])] := by
    rw [← hW2]
    exact ((Boxes.nil w).alloc #[.int .i64 p, .bool false, .slice (some ⟨b, off, none⟩) m c] 27 (b := w.heap.size) rfl).alloc #[.int .i64 0, .bool false, .slice none 0 0] 27 (b := w.heap.size + 1) (by simp)
  have hsz2 : W2.heap.size = w.heap.size + 2 := by rw [← hW2]; simp
  have n2 := hx2.cell 1 2 rfl rfl
  have v3 := (hb2.cell (p := ⟨b, off + k * 4 + 3, none⟩) hbb).trans c3
  have k0 : W2.cell? ⟨bk, ok, none⟩ = some (.int .i64 kp) := (hb2.cell (p := ⟨bk, ok, none⟩) hbk).trans (by simpa using hck 0 _ rfl)
  have k1 : W2.cell? ⟨bk, ok + 1, none⟩ = some (.bool kl) := (hb2.cell (p := ⟨bk, ok + 1, none⟩) hbk).trans (by simpa using hck 1 _ rfl)
  have k2 : W2.cell? ⟨bk, ok + 2, none⟩ = some (.slice ak km ck) := (hb2.cell (p := ⟨bk, ok + 2, none⟩) hbk).trans (by simpa using hck 2 _ rfl)
  obtain ⟨W3, hW3⟩ : ∃ x, W2.alloc (.cells #[.int .i64 kp, .bool kl, .slice ak km ck] 27) = x := ⟨_, rfl⟩
  have hb23 : Below W2.heap.size W2 W3 := by rw [← hW3]; exact Below.al (Below.refl _ _)
  have hb3 : Below w.heap.size w W3 := below_via hb2 hb23
  have hx3 : Boxes W3 [(w.heap.size + 2, [.int .i64 kp, .bool kl, .slice ak km ck]), (w.heap.size + 1, [.int .i64 0, .bool false, .slice none 0 0]), (w.heap.size, [.int .i64 p, .bool false, .slice (some ⟨b, off, none⟩) m c])] := by
    rw [← hW3]
    exact hx2.alloc #[.int .i64 kp, .bool kl, .slice ak km ck] 27 (b := w.heap.size + 2) (by omega)
  have g0 := hx3.cell 0 0 rfl rfl
  have g1 := hx3.cell 0 1 rfl rfl
  have g2 := hx3.cell 0 2 rfl rfl
  have CS := rsizes_any (hon.below hb3) hkb
  have HX3 := Lib.hid hx3
  have HB3 := Lib.hid hb3
  have HKR := Lib.hid hkr
  have HSM := Lib.hid hsm
  have HKEY := Lib.hid hkey
  have HKD := Lib.hid hkd
  have HKM := Lib.hid hkm
  have HKL := Lib.hid hkl
  have HX1 := Lib.hid hx1
  have HLM := Lib.hid hlm
  have HC0 := Lib.hid c0
  clear hx2 hx3 hb2 hb3 hb23 c0 c1 c2 c3 hck hon hkr hsm hkey hkd hkm hkl hkp hx1 hlm h h1 hkid hy hbd hml e1 s1 hl9
  go_enter Tryz.func165, Tryz.ntmps165
  go_wp2_with fail
  refine CS.mono ?_
  rintro e w4 ⟨v4, rfl, ho4, hb4⟩
  obtain ⟨a4, c4, rfl, hrow⟩ := Row.of_own ho4
  go_wp2_with fail
  refine (refAt_any _ _ _ _ _ hrow HSM.out).mono ?_
  rintro e w5 ⟨rfl, rfl⟩
  obtain ⟨z, hz⟩ : ∃ z, atF (sizesT kid) = z := ⟨_, rfl⟩
  rw [hz]
  have hx4 := HX3.out.step hb4
  have hbw4 := below_via HB3.out hb4
  by_cases hz0 : z = 0
  · subst hz0
    have hsp : splitT l k = none := by unfold splitT; rw [HKD.out, hz]; rfl
    have r0 := hx4.cell 2 0 rfl rfl
    have r1 := hx4.cell 2 1 rfl rfl
    have r2 := hx4.cell 2 2 rfl rfl
    have q0 := hx4.cell 1 0 rfl rfl
    have q1 := hx4.cell 1 1 rfl rfl
    have q2 := hx4.cell 1 2 rfl rfl
    have u0 := hx4.frozen 1 0 rfl
    have u1 := hx4.frozen 1 1 rfl
    have u2 := hx4.frozen 1 2 rfl
    clear ho4 hrow CS g0 g1 g2 n2 v3 k0 k1 k2
    go_wp2_with fail
    have hbe := ((hbw4.setCell (p := ⟨w.heap.size + 1, 0, none⟩) (by simp) (.int .i64 p)).setCell (p := ⟨w.heap.size + 1, 1, none⟩) (by simp) (.bool false)).setCell (p := ⟨w.heap.size + 1, 2, none⟩) (by simp) (.slice (some ⟨b, off, none⟩) m c)
    have hxw := (((hx4.sub (m := [(w.heap.size + 1, [.int .i64 0, .bool false, .slice none 0 0])]) (by simp)).put 0 (.int .i64 p) (by simp)).put 1 (.bool false) (by simp)).put 2 (.slice (some ⟨b, off, none⟩) m c) (by simp)
    have t0 := hxw.cell 0 0 rfl rfl
    have t1 := hxw.cell 0 1 rfl rfl
    have t2 := hxw.cell 0 2 rfl rfl
    have hend := H.out.below hbe
    rw [show cntT (.node p l) = m from HLM.out] at hend
    refine bodyPost_ret (v := .tuple #[.agg #[.int .i64 p, .bool false, .slice (some ⟨b, off, none⟩) m c], .bool false]) (by simp only [results, Tryz.results165]; simp [go_sem, t0, t1, t2]) rfl ?_
    refine ⟨[.int .i64 p, .bool false, .slice (some ⟨b, off, none⟩) m c], by rw [hsp]; rfl, ?_, hbe⟩
    rw [hsp]
    exact hend.mono (fun b h => .inl h)
  have hsl : (sizesT kid).length = km := by rw [← HKM.out]; cases kid <;> simp [sizesT, cntT]
  have hA : ∃ A : Nat, z = (A : Int) ∧ 0 < A ∧ A < km := by
    rcases atF_cases HSM.out with ⟨h1, _⟩ | ⟨_, A, h1, h2, h3, _⟩
    · rw [hz] at h1; exact absurd h1 hz0
    · exact ⟨A, by rw [← hz, h3], h1, by omega⟩
  obtain ⟨A, rfl, hA0, hAk⟩ := hA
  have HZ := Lib.hid hz
  have hz1 : ((A : Int) == 0) = false := by simp; omega
  have m1 := hx4.cell 0 1 rfl rfl
  have m1' : (w4.alloc (.cells #[.int .i64 0, .bool kl, .slice none 0 0] 27)).cell? ⟨w.heap.size + 2, 1, none⟩ = some (.bool kl) := (hx4.step (Below.al (Below.refl _ _))).cell 0 1 rfl rfl
  clear hrow ho4 CS g0 g1 g2 n2 v3 k0 k1 k2 hz0 hW2 hW3 hsz2
  go_upto_region 7 with (fail)
  obtain ⟨W6, hW6⟩ : ∃ x, x = ((w4.alloc (.cells #[.int .i64 0, .bool kl, .slice none 0 0] 27)).alloc (.cells #[.int .i64 0, .bool kl, .slice none 0 0] 27)) := ⟨_, rfl⟩
  rw [← hW6]
  have hx6 : Boxes W6 [(w4.heap.size + 1, [.int .i64 0, .bool kl, .slice none 0 0]), (w4.heap.size, [.int .i64 0, .bool kl, .slice none 0 0]), (w.heap.size + 2, [.int .i64 kp, .bool kl, .slice ak km ck]), (w.heap.size + 1, [.int .i64 0, .bool false, .slice none 0 0]), (w.heap.size, [.int .i64 p, .bool false, .slice (some ⟨b, off, none⟩) m c])] := by
    rw [hW6]
    exact (hx4.alloc #[.int .i64 0, .bool kl, .slice none 0 0] 27 (b := w4.heap.size) rfl).alloc #[.int .i64 0, .bool kl, .slice none 0 0] 27 (b := w4.heap.size + 1) (by simp)
  have hb46 : Below w4.heap.size w4 W6 := by rw [hW6]; exact Below.al (Below.al (Below.refl _ _))
  have hsz6 : W6.heap.size = w4.heap.size + 2 := by rw [hW6]; simp
  have hbw6 := below_via hbw4 hb46
  have hw34 : w.heap.size + 2 < w4.heap.size := hx4.lt 0 rfl
  have hx6d := hx6.drew
  have hbw6d : Below w.heap.size w W6.drew := hbw6.drew
  have hFB : ∀ b, F b → b < W6.heap.size := fun b hb => by have := hF b hb; omega
  have c0 : CellsF 145 F n W6.heap.size W6.drew (.slice none 0 0) [] := CellsF.nil _ _ _ _ _
  have hk6 := TabR.below (Nat.le_refl _) hbw6d HKR.out
  have r7 : TabR 4 (RcOn F n W6.drew) W6.drew ak A ck ((cellsR kid).take A) := TabR.mono (TabR.tk hk6 (show A ≤ km by omega)) (fun cs y hy => RcOn.below hy hbw6d)
  obtain ⟨v7, w7, hr7, c7, hg7⟩ := c0.row Tryz.underlying25 info_Cw (Nat.le_refl _) hFB (by simp) r7 (by omega)
  rw [List.nil_append] at c7
  obtain ⟨a7, d7, ev7, hd7, hd7m, _, _⟩ := (c7.own hFB).sl
  rw [List.length_take, cellsR_len, HKM.out, Nat.min_eq_left (by omega)] at ev7 hd7
  subst ev7
  have hx7 := hx6d.grown hg7 (by intro q hq e; cases e)
  have hb67 : Below W6.heap.size W6.drew w7 := (Below.refl _ _).grown hg7 (Nat.le_refl _) (fun g hg => by cases hg)
  obtain ⟨hkck, _⟩ := (show km ≤ ck ∧ ck ≤ 9223372036854775807 from HKR.out.lens.2)
  have hAck : A ≤ ck := by omega
  have hS6 : W6.drew.cell? ⟨w.heap.size + 2, 2, none⟩ = some (.slice ak km ck) := hx6d.cell 2 2 rfl rfl
  have hS7 : w7.cell? ⟨w.heap.size + 2, 2, none⟩ = some (.slice ak km ck) := hx7.cell 2 2 rfl rfl
  have hx7s := (hx7.sub (m := [(w4.heap.size, [.int .i64 0, .bool kl, .slice none 0 0]), (w4.heap.size + 1, [.int .i64 0, .bool kl, .slice none 0 0]), (w.heap.size + 2, [.int .i64 kp, .bool kl, .slice ak km ck]), (w.heap.size + 1, [.int .i64 0, .bool false, .slice none 0 0]), (w.heap.size, [.int .i64 p, .bool false, .slice (some ⟨b, off, none⟩) m c])]) (by simp)).put 2 (.slice a7 A d7) (by simp; omega)
  have hS8 : (w7.setCell ⟨w4.heap.size, 2, none⟩ (.slice a7 A d7)).cell? ⟨w.heap.size + 2, 2, none⟩ = some (.slice ak km ck) := hx7s.cell 2 2 rfl rfl
  have za6 := hx6d.cell 1 2 rfl rfl
  have za7 := hx7.cell 1 2 rfl rfl
  have u7 := hx7.frozen 1 2 rfl
  have C7 := Lib.hid c7
  have HX7 := Lib.hid hx7s
  have HB67 := Lib.hid hb67
  have HBW6 := Lib.hid hbw6d
  have HSZ6 := Lib.hid hsz6
  clear hx4 hx6 hx6d hx7 hx7s c0 c7 r7 hk6 hg7 hbw4 hbw6 hbw6d hb46 hb67 hz hsl hW6 m1 m1'
  refine wp_region_noPanic ?_
  refine wp_region_held_drew (S := (fun W => W.cell? ⟨w.heap.size + 2, 2, none⟩ = some (.slice ak km ck))) (by kernel_rfl) (by assumption) (fun hHeld => ?_)
  refine wpAnyH_take (i := 0) (oi := { dst := some 31, op := Op.fieldAddr 27 (Operand.tmp 8) 2, type := 0, pos := "ref.go:86", after := #[], guard := none }) (v := ?_) rfl (by kernel_rfl) (by kernel_rfl) (by kernel_rfl) (fun _ _ _ h => h) (Or.inl ⟨by rfl, ?_⟩) (by assumption) ?_
  rotate_left
  · (intro W hW; (try dsimp only at hW); go_simp <;> (with_reducible rfl))
  try simp only [Act.put, List.setIfInBounds_toArray, List.set_cons_zero, List.set_cons_succ]
  refine wpAnyH_take (i := 2) (oi := { dst := some 33, op := Op.fieldAddr 27 (Operand.tmp 6) 2, type := 0, pos := "ref.go:86", after := #[], guard := none }) (v := ?_) rfl (by kernel_rfl) (by kernel_rfl) (by kernel_rfl) (fun _ _ _ h => h) (Or.inl ⟨by rfl, ?_⟩) (by assumption) ?_
  rotate_left
  · (intro W hW; (try dsimp only at hW); go_simp <;> (with_reducible rfl))
  try simp only [Act.put, List.setIfInBounds_toArray, List.set_cons_zero, List.set_cons_succ]
  refine wpAnyH_take (i := 3) (oi := { dst := some 34, op := Op.load 25 (Operand.tmp 33), type := 25, pos := "ref.go:86", after := #[{ on := 2, ground := Ground.data }], guard := none }) (v := ?_) rfl (by kernel_rfl) (by kernel_rfl) (by kernel_rfl) (fun _ _ _ h => h) (Or.inl ⟨by rfl, ?_⟩) (by assumption) ?_
  rotate_left
  · (intro W hW; (try dsimp only at hW); go_simp <;> (with_reducible rfl))
  try simp only [Act.put, List.setIfInBounds_toArray, List.set_cons_zero, List.set_cons_succ]
  refine wpAnyH_take (i := 4) (oi := { dst := some 35, op := Op.move (Operand.tmp 7), type := 3, pos := "ref.go:86", after := #[], guard := none }) (v := ?_) rfl (by kernel_rfl) (by kernel_rfl) (by kernel_rfl) (fun _ _ _ h => h) (Or.inl ⟨by rfl, ?_⟩) (by assumption) ?_
  rotate_left
  · (intro W hW; (try dsimp only at hW); go_simp <;> (with_reducible rfl))
  try simp only [Act.put, List.setIfInBounds_toArray, List.set_cons_zero, List.set_cons_succ]
  refine wpAnyH_take (i := 5) (oi := { dst := some 36, op := Op.slice 25 (Operand.tmp 34) none (some (Operand.tmp 35)) none, type := 25, pos := "ref.go:86", after := #[{ on := 3, ground := Ground.data }, { on := 4, ground := Ground.data }], guard := none }) (v := ?_) rfl (by kernel_rfl) (by kernel_rfl) (by kernel_rfl) (fun _ _ _ h => h) (Or.inl ⟨by rfl, ?_⟩) (by assumption) ?_
  rotate_left
  · (intro W hW; (try dsimp only at hW); go_simp <;> (with_reducible rfl))
  try simp only [Act.put, List.setIfInBounds_toArray, List.set_cons_zero, List.set_cons_succ]
  refine wpAnyH_ready (rs := [1]) (by kernel_rfl) (by simp) (AllReadyH.cons (o := { dst := some 32, op := Op.load 25 (Operand.tmp 31), type := 25, pos := "ref.go:86", after := #[{ on := 0, ground := Ground.data }], guard := none }) rfl (fun K hK => ?_) AllReadyH.nil)
  (rw [if_pos (by rfl)]; go_wp2_with (fail))
  refine hK.out _ _ (by assumption) (fun hHeld => ?_)
  clear hK K
  try simp only [Act.put, List.setIfInBounds_toArray, List.set_cons_zero, List.set_cons_succ]
  refine wpAnyH_ready (rs := [6]) (by kernel_rfl) (by simp) (AllReadyH.cons (o := { dst := some 37, op := Op.call { callee := Callee.builtin Builtin.append, args := #[Operand.tmp 32, Operand.tmp 36], argTypes := #[25, 25] }, type := 25, pos := "ref.go:86", after := #[{ on := 1, ground := Ground.data }, { on := 5, ground := Ground.data }], guard := none }) rfl (fun K hK => ?_) AllReadyH.nil)
  (refine step_append_run rfl _ _ _ _ rfl rfl rfl hr7 ?_)
  refine hK.out _ _ (by assumption) (fun hHeld => ?_)
  clear hK K
  try simp only [Act.put, List.setIfInBounds_toArray, List.set_cons_zero, List.set_cons_succ]
  refine wpAnyH_take (i := 7) (oi := { dst := some 38, op := Op.fieldAddr 27 (Operand.tmp 8) 2, type := 0, pos := "ref.go:86", after := #[{ on := 0, ground := Ground.phase }, { on := 1, ground := Ground.phase }, { on := 2, ground := Ground.phase }, { on := 3, ground := Ground.phase }, { on := 4, ground := Ground.phase }, { on := 5, ground := Ground.phase }, { on := 6, ground := Ground.phase }], guard := none }) (v := ?_) rfl (by kernel_rfl) (by kernel_rfl) (by kernel_rfl) (fun _ _ _ h => h) (Or.inl ⟨by rfl, ?_⟩) (by assumption) ?_
  rotate_left
  · (intro W hW; (try dsimp only at hW); go_simp <;> (with_reducible rfl))
  try simp only [Act.put, List.setIfInBounds_toArray, List.set_cons_zero, List.set_cons_succ]
  refine wpAnyH_ready (rs := [8]) (by kernel_rfl) (by simp) (AllReadyH.cons (o := { dst := none, op := Op.store 25 (Operand.tmp 38) (Operand.tmp 37), type := 0, pos := "ref.go:86", after := #[{ on := 7, ground := Ground.data }, { on := 6, ground := Ground.data }, { on := 6, ground := Ground.chain }, { on := 0, ground := Ground.phase }, { on := 1, ground := Ground.phase }, { on := 2, ground := Ground.phase }, { on := 3, ground := Ground.phase }, { on := 4, ground := Ground.phase }, { on := 5, ground := Ground.phase }, { on := 6, ground := Ground.phase }], guard := none }) rfl (fun K hK => ?_) AllReadyH.nil)
  (rw [if_pos (by rfl)]; go_wp2_with (fail))
  refine hK.out _ _ (by assumption) (fun hHeld => ?_)
  clear hK K
  try simp only [Act.put, List.setIfInBounds_toArray, List.set_cons_zero, List.set_cons_succ]
  refine wpAnyH_done (by kernel_rfl) ?_ _
  refine NoPanic.normal ?_
  go_upto_region 8 with (fail)
  obtain ⟨W7, hW7⟩ : ∃ x, x = w7.setCell ⟨w4.heap.size, 2, none⟩ (.slice a7 A d7) := ⟨_, rfl⟩
  rw [← hW7] at HX7 hS8 ⊢
  have hx7 : Boxes W7 [(w4.heap.size, [.int .i64 0, .bool kl, .slice a7 A d7]), (w4.heap.size + 1, [.int .i64 0, .bool kl, .slice none 0 0]), (w.heap.size + 2, [.int .i64 kp, .bool kl, .slice ak km ck]), (w.heap.size + 1, [.int .i64 0, .bool false, .slice none 0 0]), (w.heap.size, [.int .i64 p, .bool false, .slice (some ⟨b, off, none⟩) m c])] := HX7.out
  have hs6 := HSZ6.out
  have hs67 := HB67.out.size
  have hs67 : W6.heap.size ≤ w7.heap.size := hs67
  have hsW7 : W7.heap.size = w7.heap.size := by rw [hW7]; simp
  have hb7 : Below w.heap.size w W7 := by rw [hW7]; exact (HBW6.out.trans (HB67.out.mono HBW6.out.size)).setCell (by simp; omega) _
  have c7 : CellsF 145 F n W6.heap.size W7 (.slice a7 A d7) ((cellsR kid).take A) := by
    rw [hW7]
    exact C7.out.set _ (fun e => by have : W6.heap.size ≤ w4.heap.size := (C7.out.ge e).1; omega) (fun hf => by have : w4.heap.size < w.heap.size := hF _ hf; omega)
  have hx7d := hx7.drew
  have hb7d : Below w.heap.size w W7.drew := hb7.drew
  have hFB7 : ∀ b, F b → b < W7.heap.size := fun b hb => by have := hF b hb; omega
  obtain ⟨a2, ha2, hsl2⟩ := slice_from elem_Cw size_Cw ak km ck A (by omega)
  obtain ⟨M, hM⟩ : ∃ M, km - A = M := ⟨_, rfl⟩
  have c0 : CellsF 145 F n W7.heap.size W7.drew (.slice none 0 0) [] := CellsF.nil _ _ _ _ _
  have r8 : TabR 4 (RcOn F n W7.drew) W7.drew a2 M (ck - A) ((cellsR kid).drop A) := by
    rw [ha2, ← hM]
    exact TabR.mono (TabR.dp (TabR.below (Nat.le_refl _) hb7d HKR.out) (show A ≤ km by omega)) (fun cs y hy => RcOn.below hy hb7d)
  rw [hM] at hsl2
  obtain ⟨v8, w8, hr8, c8, hg8⟩ := c0.row Tryz.underlying25 info_Cw (Nat.le_refl _) hFB7 (by simp) r8 (by omega)
  rw [List.nil_append] at c8
  obtain ⟨a8, d8, ev8, hd8, hd8m, _, _⟩ := (c8.own hFB7).sl
  rw [List.length_drop, cellsR_len, HKM.out, hM] at ev8 hd8
  subst ev8
  have hx8 := hx7d.grown hg8 (by intro q hq e; cases e)
  have hb78 : Below W7.heap.size W7.drew w8 := (Below.refl _ _).grown hg8 (Nat.le_refl _) (fun g hg => by cases hg)
  have hT6 : W7.drew.cell? ⟨w.heap.size + 2, 2, none⟩ = some (.slice ak km ck) := hx7d.cell 2 2 rfl rfl
  have hT7 : w8.cell? ⟨w.heap.size + 2, 2, none⟩ = some (.slice ak km ck) := hx8.cell 2 2 rfl rfl
  have hx8s := (hx8.swap).put 2 (.slice a8 M d8) (by simp; omega)
  have hT8 : (w8.setCell ⟨w4.heap.size + 1, 2, none⟩ (.slice a8 M d8)).cell? ⟨w.heap.size + 2, 2, none⟩ = some (.slice ak km ck) := hx8s.cell 2 2 rfl rfl
  have zb6 := hx7d.cell 1 2 rfl rfl
  have zb7 := hx8.cell 1 2 rfl rfl
  have ub7 := hx8.frozen 1 2 rfl
  have C8 := Lib.hid c8
  have C7 := Lib.hid c7
  have HX8 := Lib.hid hx8s
  have HB78 := Lib.hid hb78
  have HB7 := Lib.hid hb7d
  have HSW := Lib.hid hsW7
  clear hx7 hx7d hx8 hx8s c0 c7 c8 r8 hg8 hb7 hb7d hb78 hS6 hS7 hS8 za6 za7 u7 hr7 hW7 ha2
  refine wp_region_noPanic ?_
  refine wp_region_held_drew (S := (fun W => W.cell? ⟨w.heap.size + 2, 2, none⟩ = some (.slice ak km ck))) (by kernel_rfl) (by assumption) (fun hHeld => ?_)
  refine wpAnyH_take (i := 0) (oi := { dst := some 39, op := Op.fieldAddr 27 (Operand.tmp 9) 2, type := 0, pos := "ref.go:87", after := #[], guard := none }) (v := ?_) rfl (by kernel_rfl) (by kernel_rfl) (by kernel_rfl) (fun _ _ _ h => h) (Or.inl ⟨by rfl, ?_⟩) (by assumption) ?_
  rotate_left
  · (intro W hW; (try dsimp only at hW); go_simp <;> (with_reducible rfl))
  try simp only [Act.put, List.setIfInBounds_toArray, List.set_cons_zero, List.set_cons_succ]
  refine wpAnyH_take (i := 2) (oi := { dst := some 41, op := Op.fieldAddr 27 (Operand.tmp 6) 2, type := 0, pos := "ref.go:87", after := #[], guard := none }) (v := ?_) rfl (by kernel_rfl) (by kernel_rfl) (by kernel_rfl) (fun _ _ _ h => h) (Or.inl ⟨by rfl, ?_⟩) (by assumption) ?_
  rotate_left
  · (intro W hW; (try dsimp only at hW); go_simp <;> (with_reducible rfl))
  try simp only [Act.put, List.setIfInBounds_toArray, List.set_cons_zero, List.set_cons_succ]
  refine wpAnyH_take (i := 3) (oi := { dst := some 42, op := Op.load 25 (Operand.tmp 41), type := 25, pos := "ref.go:87", after := #[{ on := 2, ground := Ground.data }], guard := none }) (v := ?_) rfl (by kernel_rfl) (by kernel_rfl) (by kernel_rfl) (fun _ _ _ h => h) (Or.inl ⟨by rfl, ?_⟩) (by assumption) ?_
  rotate_left
  · (intro W hW; (try dsimp only at hW); go_simp <;> (with_reducible rfl))
  try simp only [Act.put, List.setIfInBounds_toArray, List.set_cons_zero, List.set_cons_succ]
  refine wpAnyH_take (i := 4) (oi := { dst := some 43, op := Op.move (Operand.tmp 7), type := 3, pos := "ref.go:87", after := #[], guard := none }) (v := ?_) rfl (by kernel_rfl) (by kernel_rfl) (by kernel_rfl) (fun _ _ _ h => h) (Or.inl ⟨by rfl, ?_⟩) (by assumption) ?_
  rotate_left
  · (intro W hW; (try dsimp only at hW); go_simp <;> (with_reducible rfl))
  try simp only [Act.put, List.setIfInBounds_toArray, List.set_cons_zero, List.set_cons_succ]
  refine wpAnyH_take (i := 5) (oi := { dst := some 44, op := Op.slice 25 (Operand.tmp 42) (some (Operand.tmp 43)) none none, type := 25, pos := "ref.go:87", after := #[{ on := 3, ground := Ground.data }, { on := 4, ground := Ground.data }], guard := none }) (v := ?_) rfl (by kernel_rfl) (by kernel_rfl) (by kernel_rfl) (fun _ _ _ h => h) (Or.inl ⟨by rfl, ?_⟩) (by assumption) ?_
  rotate_left
  · (intro W hW; (try dsimp only at hW); go_simp <;> (with_reducible rfl))
  try simp only [Act.put, List.setIfInBounds_toArray, List.set_cons_zero, List.set_cons_succ]
  refine wpAnyH_ready (rs := [1]) (by kernel_rfl) (by simp) (AllReadyH.cons (o := { dst := some 40, op := Op.load 25 (Operand.tmp 39), type := 25, pos := "ref.go:87", after := #[{ on := 0, ground := Ground.data }], guard := none }) rfl (fun K hK => ?_) AllReadyH.nil)
  (rw [if_pos (by rfl)]; go_wp2_with (fail))
  refine hK.out _ _ (by assumption) (fun hHeld => ?_)
  clear hK K
  try simp only [Act.put, List.setIfInBounds_toArray, List.set_cons_zero, List.set_cons_succ]
  refine wpAnyH_ready (rs := [6]) (by kernel_rfl) (by simp) (AllReadyH.cons (o := { dst := some 45, op := Op.call { callee := Callee.builtin Builtin.append, args := #[Operand.tmp 40, Operand.tmp 44], argTypes := #[25, 25] }, type := 25, pos := "ref.go:87", after := #[{ on := 1, ground := Ground.data }, { on := 5, ground := Ground.data }], guard := none }) rfl (fun K hK => ?_) AllReadyH.nil)
  (refine step_append_run rfl _ _ _ _ rfl rfl rfl hr8 ?_)
  refine hK.out _ _ (by assumption) (fun hHeld => ?_)
  clear hK K
  try simp only [Act.put, List.setIfInBounds_toArray, List.set_cons_zero, List.set_cons_succ]
  refine wpAnyH_take (i := 7) (oi := { dst := some 46, op := Op.fieldAddr 27 (Operand.tmp 9) 2, type := 0, pos := "ref.go:87", after := #[{ on := 0, ground := Ground.phase }, { on := 1, ground := Ground.phase }, { on := 2, ground := Ground.phase }, { on := 3, ground := Ground.phase }, { on := 4, ground := Ground.phase }, { on := 5, ground := Ground.phase }, { on := 6, ground := Ground.phase }], guard := none }) (v := ?_) rfl (by kernel_rfl) (by kernel_rfl) (by kernel_rfl) (fun _ _ _ h => h) (Or.inl ⟨by rfl, ?_⟩) (by assumption) ?_
  rotate_left
  · (intro W hW; (try dsimp only at hW); go_simp <;> (with_reducible rfl))
  try simp only [Act.put, List.setIfInBounds_toArray, List.set_cons_zero, List.set_cons_succ]
  refine wpAnyH_ready (rs := [8]) (by kernel_rfl) (by simp) (AllReadyH.cons (o := { dst := none, op := Op.store 25 (Operand.tmp 46) (Operand.tmp 45), type := 0, pos := "ref.go:87", after := #[{ on := 7, ground := Ground.data }, { on := 6, ground := Ground.data }, { on := 6, ground := Ground.chain }, { on := 0, ground := Ground.phase }, { on := 1, ground := Ground.phase }, { on := 2, ground := Ground.phase }, { on := 3, ground := Ground.phase }, { on := 4, ground := Ground.phase }, { on := 5, ground := Ground.phase }, { on := 6, ground := Ground.phase }], guard := none }) rfl (fun K hK => ?_) AllReadyH.nil)
  (rw [if_pos (by rfl)]; go_wp2_with (fail))
  refine hK.out _ _ (by assumption) (fun hHeld => ?_)
  clear hK K
  try simp only [Act.put, List.setIfInBounds_toArray, List.set_cons_zero, List.set_cons_succ]
  refine wpAnyH_done (by kernel_rfl) ?_ _
  refine NoPanic.normal ?_
  go_upto_region 9 with (fail)
  obtain ⟨W8, hW8⟩ : ∃ x, x = w8.setCell ⟨w4.heap.size + 1, 2, none⟩ (.slice a8 M d8) := ⟨_, rfl⟩
  rw [← hW8] at HX8 ⊢
  have hx8 : Boxes W8 [(w4.heap.size + 1, [.int .i64 0, .bool kl, .slice a8 M d8]), (w4.heap.size, [.int .i64 0, .bool kl, .slice a7 A d7]), (w.heap.size + 2, [.int .i64 kp, .bool kl, .slice ak km ck]), (w.heap.size + 1, [.int .i64 0, .bool false, .slice none 0 0]), (w.heap.size, [.int .i64 p, .bool false, .slice (some ⟨b, off, none⟩) m c])] := HX8.out
  have hsw := HSW.out
  have hb78 : Below W7.heap.size W7 w8 := ((Below.refl _ _).drew).trans HB78.out
  have hb8 : Below w.heap.size w W8 := by rw [hW8]; exact (HB7.out.trans (HB78.out.mono HB7.out.size)).setCell (by simp; omega) _
  have c8 : CellsF 145 F n W7.heap.size W8 (.slice a8 M d8) ((cellsR kid).drop A) := by
    rw [hW8]
    exact C8.out.set _ (fun e => by have : W7.heap.size ≤ w4.heap.size + 1 := (C8.out.ge e).1; omega) (fun hf => by have : w4.heap.size + 1 < w.heap.size := hF _ hf; omega)
  have c7 : CellsF 145 F n W6.heap.size W8 (.slice a7 A d7) ((cellsR kid).take A) := by
    rw [hW8]
    exact (C7.out.below hb78).set _ (fun e => by have : W6.heap.size ≤ w4.heap.size + 1 := (C7.out.ge e).1; omega) (fun hf => by have : w4.heap.size + 1 < w.heap.size := hF _ hf; omega)
  have hM0 : 0 < M := by omega
  obtain ⟨y, r, hyr⟩ : ∃ y r, (cellsR kid).drop A = y :: r := by
    cases hd : (cellsR kid).drop A with
    | nil =>
      have := congrArg List.length hd
      rw [List.length_drop, cellsR_len, HKM.out] at this
      simp at this
      omega
    | cons y r => exact ⟨y, r, rfl⟩
  have hpk := part_key A kid hyr
  rw [hyr] at c8
  obtain ⟨g, rfl, hg7, hgf⟩ : ∃ g, a8 = some ⟨g, 0, none⟩ ∧ W7.heap.size ≤ g ∧ W8.frozen? ⟨g, 0, none⟩ = false := by
    obtain ⟨L8, o8, _⟩ := c8
    rcases o8.2 with ⟨e, _⟩ | ⟨g, cap, cur, e, hg, hh, _⟩
    · cases e; omega
    · cases e; exact ⟨g, rfl, hg, by simp [World.frozen?, hh]⟩
  obtain ⟨_, _, e8, _, _, t8, _⟩ := (c8.own (fun b hb => by have := hF b hb; omega)).sl
  have hl8 : (y :: r).length = M := by cases e8; rfl
  rw [hl8] at e8 t8
  cases e8
  obtain ⟨_, _, y', _, _, _, _, _, _, eg, _, hy', _, _, _, _, _, d0, _⟩ := RNodeOn.cell t8 hM0
  cases eg
  cases hy'
  have d0 : W8.cell? ⟨g, 0, none⟩ = some (.string (strOf y.key)) := by simpa using d0
  have p2 := hx8.cell 0 2 rfl rfl
  have p1 := hx8.cell 2 1 rfl rfl
  have D8 := Lib.hid c8
  have D7 := Lib.hid c7
  have HLT7 : Hid (∀ q, (Value.slice a7 A d7).ownBlock = some q → q < W7.heap.size) := Lib.hid (fun q hq => (C7.out.ge hq).2)
  have HX8 := Lib.hid hx8
  have HB8 := Lib.hid hb8
  have HYR := Lib.hid hyr
  have HPK := Lib.hid hpk
  clear hx8 hb8 c7 c8 hyr hpk t8 hb78 hW8 hT6 hT7 hT8 zb6 zb7 ub7 hr8 hl8
  go_upto_if 54 with (fail)
  go_cut [] (fun wq => Boxes wq [(w4.heap.size + 1, [.int .i64 0, .bool kl, .slice (some ⟨g, 0, none⟩) M d8]), (w4.heap.size, [.int .i64 0, .bool kl, .slice a7 A d7]), (w.heap.size + 2, [.int .i64 kp, .bool kl, .slice ak km ck]), (w.heap.size + 1, [.int .i64 0, .bool false, .slice none 0 0]), (w.heap.size, [.int .i64 p, .bool false, .slice (some ⟨b, off, none⟩) m c])] ∧ CellsF 145 F n W7.heap.size wq (.slice (some ⟨g, 0, none⟩) M d8) (cellsR (partT A kid).2.1) ∧ CellsF 145 F n W6.heap.size wq (.slice a7 A d7) ((cellsR kid).take A) ∧ Below w.heap.size w wq)
  case first =>
    cases kid with
    | leaf kq kr =>
      obtain rfl : kl = true := HKL.out.symm
      go_wp2_with fail
      go_meet
      exact ⟨HX8.out, by rw [cells_part_leaf, HYR.out]; exact D8.out, D7.out, HB8.out⟩
    | node kq kr =>
      obtain rfl : kl = false := HKL.out.symm
      have hw8 := HX8.out.lt 0 rfl
      have hx9 := HX8.out.set ⟨g, 0, none⟩ (.string (strOf [])) (by intro q hq; simp at hq; rcases hq with rfl | rfl | rfl | rfl | rfl <;> simp <;> omega)
      have c9 := D8.out.key0 (fun hf => by have : g < w.heap.size := hF _ hf; omega) []
      have c7 := D7.out.set (p := ⟨g, 0, none⟩) (.string (strOf [])) (fun e => by have : g < W7.heap.size := HLT7.out g e; omega) (fun hf => by have : g < w.heap.size := hF _ hf; omega)
      have hb9 := HB8.out.setCell (p := ⟨g, 0, none⟩) (show w.heap.size ≤ g by omega) (.string (strOf []))
      have HX9 := Lib.hid hx9
      have HC9 := Lib.hid c9
      have HC7 := Lib.hid c7
      have HB9 := Lib.hid hb9
      clear hx9 c9 c7 hb9
      go_wp2_with fail
      go_meet
      exact ⟨HX9.out, by rw [cells_part_node A kq kr HYR.out]; exact HC9.out, HC7.out, HB9.out⟩
  case rest =>
  obtain ⟨hx, c8, c7, hbw⟩ := hcut
  have hs6 := HSZ6.out
  have hs7 : w.heap.size ≤ W7.heap.size := by have := HB7.out.size; exact this
  have hxl := hx.lt 0 rfl
  obtain ⟨q1, q2, q3, q4, q5⟩ := cells_part A kid
  have nA : RNodeOn (Fr F w4) (n + 1) wc [.int .i64 0, .bool kl, .slice a7 A d7] (partT A kid).1 := by
    have := (c7.own (fun b hb => by have := hF b hb; omega))
    rw [← q1] at this
    have := this.node (w := w4) (by omega)
    rw [q2, q3, HKL.out] at this
    exact this
  have nB : RNodeOn (Fr F w4) (n + 1) wc [.int .i64 0, .bool kl, .slice (some ⟨g, 0, none⟩) M d8] (partT A kid).2.1 := by
    have := (c8.own (fun b hb => by have := hF b hb; omega)).node (w := w4) (by omega)
    rw [q4, q5, HKL.out] at this
    exact this
  obtain ⟨mm, hsp, hcm⟩ := split_cells HX1.out HZ.out hA0 p
  have hkey : (partT A kid).2.2 = y.key := HPK.out
  rw [hkey] at hcm
  have hml : cntT (.node 0 mm) = m + 1 := by
    have := congrArg List.length hcm
    rw [cellsR_len] at this
    simp only [List.length_append, List.length_take, List.length_drop, List.length_cons, List.length_nil, cellsR_len] at this
    have h2 : cntT (.node p l) = m := HLM.out
    rw [h2] at this
    omega
  have CW : ∀ (W : World) (ra rb z : Nat), Below wc.heap.size wc W → wc.heap.size ≤ ra → wc.heap.size ≤ rb → BoxAt W ra #[.int .i64 0, .bool kl, .slice a7 A d7] → BoxAt W rb #[.int .i64 0, .bool kl, .slice (some ⟨g, 0, none⟩) M d8] →
      BoxAt W z #[.string (strOf xk), .string ⟨#[]⟩, .slice none 0 0, .slice (some ⟨ra, 0, none⟩) 1 1, .string (strOf y.key), .string ⟨#[]⟩, .slice none 0 0, .slice (some ⟨rb, 0, none⟩) 1 1] →
      Calls Tryz.prog 129 #[.slice (some ⟨b, off, none⟩) m c, .int .i64 (k : Int), .slice (some ⟨z, 0, none⟩) 2 2] W (RowTo (Fr F w4) (n + 1) wc (.node 0 mm) (m + 1)) := fun W ra rb z hb r1 r2 hA hB hz =>
    with_two rfl hml hb (fun b hb => .inr (by omega)) (TabR.mono (TabR.below (Nat.le_refl _) hbw HFR.out) (fun _ _ hy => RcOn.mono (fun b hf => Fr.old b hf) (RcOn.below hy hbw))) hk (by omega) hcm rfl nA nB r1 r2 hA hB hz
  have hG : ∀ j bb x W, bb ≠ w.heap.size + 1 → bb < wc.heap.size → wc.cell? ⟨bb, j, none⟩ = some x → AgreeF (fun x => x ≠ w.heap.size + 1) wc W → W.cell? ⟨bb, j, none⟩ = some x := fun j bb x W h1 h2 h3 hW => (hW.cell h1 h2).trans h3
  have hbl8 := hx.lt 0 rfl
  have hbl7 := hx.lt 1 rfl
  have hbl0 := hx.lt 4 rfl
  have hbbw : b < wc.heap.size := Nat.lt_of_lt_of_le hbb hbw.size
  have n2 : ∀ W, AgreeF (fun x => x ≠ w.heap.size + 1) wc W → W.cell? ⟨w.heap.size, 2, none⟩ = some (.slice (some ⟨b, off, none⟩) m c) := fun W hW => hG _ _ _ W (by omega) hbl0 (hx.cell 4 2 rfl rfl) hW
  have nk : ∀ W, AgreeF (fun x => x ≠ w.heap.size + 1) wc W → W.cell? ⟨b, off + k * 4, none⟩ = some (.string (strOf xk)) := fun W hW => hG _ _ _ W (by omega) hbbw ((hbw.cell (p := ⟨b, off + k * 4, none⟩) hbb).trans HC0.out) hW
  have t0 : ∀ W, AgreeF (fun x => x ≠ w.heap.size + 1) wc W → W.cell? ⟨w4.heap.size, 0, none⟩ = some (.int .i64 0) := fun W hW => hG _ _ _ W (by omega) hbl7 (hx.cell 1 0 rfl rfl) hW
  have t1 : ∀ W, AgreeF (fun x => x ≠ w.heap.size + 1) wc W → W.cell? ⟨w4.heap.size, 1, none⟩ = some (.bool kl) := fun W hW => hG _ _ _ W (by omega) hbl7 (hx.cell 1 1 rfl rfl) hW
  have t2 : ∀ W, AgreeF (fun x => x ≠ w.heap.size + 1) wc W → W.cell? ⟨w4.heap.size, 2, none⟩ = some (.slice a7 A d7) := fun W hW => hG _ _ _ W (by omega) hbl7 (hx.cell 1 2 rfl rfl) hW
  have u0 : ∀ W, AgreeF (fun x => x ≠ w.heap.size + 1) wc W → W.cell? ⟨w4.heap.size + 1, 0, none⟩ = some (.int .i64 0) := fun W hW => hG _ _ _ W (by omega) hbl8 (hx.cell 0 0 rfl rfl) hW
  have u1 : ∀ W, AgreeF (fun x => x ≠ w.heap.size + 1) wc W → W.cell? ⟨w4.heap.size + 1, 1, none⟩ = some (.bool kl) := fun W hW => hG _ _ _ W (by omega) hbl8 (hx.cell 0 1 rfl rfl) hW
  have u2 : ∀ W, AgreeF (fun x => x ≠ w.heap.size + 1) wc W → W.cell? ⟨w4.heap.size + 1, 2, none⟩ = some (.slice (some ⟨g, 0, none⟩) M d8) := fun W hW => hG _ _ _ W (by omega) hbl8 (hx.cell 0 2 rfl rfl) hW
  have HX := Lib.hid (hx.sub (m := [(w.heap.size + 1, [.int .i64 0, .bool false, .slice none 0 0])]) (by simp))
  have HBW := Lib.hid hbw
  have HSP := Lib.hid hsp
  have hwz := hbw.size
  have hA00 : AgreeF (fun x => x ≠ w.heap.size + 1) wc wc.drew := agr _
  clear hx c8 c7 hbw q1 q2 q3 q4 q5 nA nB hsp hcm hkey hG d0 p1 p2 hml
  go_upto_region 12 with (fail)
  refine wp_region_noPanic ?_
  refine wp_region_held_drew (S := (fun W => AgreeF (fun x => x ≠ w.heap.size + 1) wc W)) (by kernel_rfl) (by (repeat (with_reducible first | assumption | exact agr _ | apply agal | apply agdr | apply agst))) (fun hHeld => ?_)
  refine wpAnyH_take (i := 0) (oi := { dst := some 59, op := Op.fieldAddr 27 (Operand.tmp 2) 2, type := 0, pos := "ref.go:92", after := #[], guard := none }) (v := ?_) rfl (by kernel_rfl) (by kernel_rfl) (by kernel_rfl) (fun _ _ _ h => h) (Or.inl ⟨by rfl, ?_⟩) (by assumption) ?_
  rotate_left
  · (intro W hW; (try dsimp only at hW); go_simp <;> (with_reducible rfl))
  try simp only [Act.put, List.setIfInBounds_toArray, List.set_cons_zero, List.set_cons_succ]
  refine wpAnyH_take (i := 1) (oi := { dst := some 60, op := Op.load 25 (Operand.tmp 59), type := 25, pos := "ref.go:92", after := #[{ on := 0, ground := Ground.data }], guard := none }) (v := ?_) rfl (by kernel_rfl) (by kernel_rfl) (by kernel_rfl) (fun _ _ _ h => h) (Or.inl ⟨by rfl, ?_⟩) (by assumption) ?_
  rotate_left
  · (intro W hW; (try dsimp only at hW); go_simp <;> (with_reducible rfl))
  try simp only [Act.put, List.setIfInBounds_toArray, List.set_cons_zero, List.set_cons_succ]
  refine wpAnyH_take (i := 2) (oi := { dst := some 61, op := Op.move (Operand.tmp 1), type := 3, pos := "ref.go:92", after := #[], guard := none }) (v := ?_) rfl (by kernel_rfl) (by kernel_rfl) (by kernel_rfl) (fun _ _ _ h => h) (Or.inl ⟨by rfl, ?_⟩) (by assumption) ?_
  rotate_left
  · (intro W hW; (try dsimp only at hW); go_simp <;> (with_reducible rfl))
  try simp only [Act.put, List.setIfInBounds_toArray, List.set_cons_zero, List.set_cons_succ]
  refine wpAnyH_take (i := 3) (oi := { dst := some 62, op := Op.fieldAddr 27 (Operand.tmp 2) 2, type := 0, pos := "ref.go:92", after := #[], guard := none }) (v := ?_) rfl (by kernel_rfl) (by kernel_rfl) (by kernel_rfl) (fun _ _ _ h => h) (Or.inl ⟨by rfl, ?_⟩) (by assumption) ?_
  rotate_left
  · (intro W hW; (try dsimp only at hW); go_simp <;> (with_reducible rfl))
  try simp only [Act.put, List.setIfInBounds_toArray, List.set_cons_zero, List.set_cons_succ]
  refine wpAnyH_take (i := 4) (oi := { dst := some 63, op := Op.load 25 (Operand.tmp 62), type := 25, pos := "ref.go:92", after := #[{ on := 3, ground := Ground.data }], guard := none }) (v := ?_) rfl (by kernel_rfl) (by kernel_rfl) (by kernel_rfl) (fun _ _ _ h => h) (Or.inl ⟨by rfl, ?_⟩) (by assumption) ?_
  rotate_left
  · (intro W hW; (try dsimp only at hW); go_simp <;> (with_reducible rfl))
  try simp only [Act.put, List.setIfInBounds_toArray, List.set_cons_zero, List.set_cons_succ]
  refine wpAnyH_take (i := 5) (oi := { dst := some 64, op := Op.move (Operand.tmp 1), type := 3, pos := "ref.go:92", after := #[], guard := none }) (v := ?_) rfl (by kernel_rfl) (by kernel_rfl) (by kernel_rfl) (fun _ _ _ h => h) (Or.inl ⟨by rfl, ?_⟩) (by assumption) ?_
  rotate_left
  · (intro W hW; (try dsimp only at hW); go_simp <;> (with_reducible rfl))
  try simp only [Act.put, List.setIfInBounds_toArray, List.set_cons_zero, List.set_cons_succ]
  refine wpAnyH_take (i := 6) (oi := { dst := some 65, op := Op.indexAddr 25 (Operand.tmp 63) (Operand.tmp 64), type := 0, pos := "ref.go:92", after := #[{ on := 4, ground := Ground.data }, { on := 5, ground := Ground.data }], guard := none }) (v := ?_) rfl (by kernel_rfl) (by kernel_rfl) (by kernel_rfl) (fun _ _ _ h => h) (Or.inl ⟨by rfl, ?_⟩) (by assumption) ?_
  rotate_left
  · (intro W hW; (try dsimp only at hW); go_simp <;> (with_reducible rfl))
  try simp only [Act.put, List.setIfInBounds_toArray, List.set_cons_zero, List.set_cons_succ]
  refine wpAnyH_take (i := 7) (oi := { dst := some 66, op := Op.fieldAddr 145 (Operand.tmp 65) 0, type := 0, pos := "ref.go:92", after := #[{ on := 6, ground := Ground.data }], guard := none }) (v := ?_) rfl (by kernel_rfl) (by kernel_rfl) (by kernel_rfl) (fun _ _ _ h => h) (Or.inl ⟨by rfl, ?_⟩) (by assumption) ?_
  rotate_left
  · (intro W hW; (try dsimp only at hW); go_simp <;> (with_reducible rfl))
  try simp only [Act.put, List.setIfInBounds_toArray, List.set_cons_zero, List.set_cons_succ]
  refine wpAnyH_take (i := 8) (oi := { dst := some 67, op := Op.load 9 (Operand.tmp 66), type := 9, pos := "ref.go:92", after := #[{ on := 7, ground := Ground.data }], guard := none }) (v := ?_) rfl (by kernel_rfl) (by kernel_rfl) (by kernel_rfl) (fun _ _ _ h => h) (Or.inl ⟨by rfl, ?_⟩) (by assumption) ?_
  rotate_left
  · (intro W hW; (try dsimp only at hW); go_simp <;> (with_reducible rfl))
  try simp only [Act.put, List.setIfInBounds_toArray, List.set_cons_zero, List.set_cons_succ]
  refine wpAnyH_take (i := 9) (oi := { dst := some 68, op := Op.load 27 (Operand.tmp 8), type := 27, pos := "ref.go:92", after := #[], guard := none }) (v := ?_) rfl (by kernel_rfl) (by kernel_rfl) (by kernel_rfl) (fun _ _ _ h => h) (Or.inl ⟨by rfl, ?_⟩) (by assumption) ?_
  rotate_left
  · (intro W hW; (try dsimp only at hW); go_simp <;> (with_reducible rfl))
  try simp only [Act.put, List.setIfInBounds_toArray, List.set_cons_zero, List.set_cons_succ]
  refine wpAnyH_take (i := 12) (oi := { dst := some 71, op := Op.move (Operand.tmp 10), type := 9, pos := "ref.go:92", after := #[], guard := none }) (v := ?_) rfl (by kernel_rfl) (by kernel_rfl) (by kernel_rfl) (fun _ _ _ h => h) (Or.inl ⟨by rfl, ?_⟩) (by assumption) ?_
  rotate_left
  · (intro W hW; (try dsimp only at hW); go_simp <;> (with_reducible rfl))
  try simp only [Act.put, List.setIfInBounds_toArray, List.set_cons_zero, List.set_cons_succ]
  refine wpAnyH_take (i := 13) (oi := { dst := some 72, op := Op.load 27 (Operand.tmp 9), type := 27, pos := "ref.go:92", after := #[], guard := none }) (v := ?_) rfl (by kernel_rfl) (by kernel_rfl) (by kernel_rfl) (fun _ _ _ h => h) (Or.inl ⟨by rfl, ?_⟩) (by assumption) ?_
  rotate_left
  · (intro W hW; (try dsimp only at hW); go_simp <;> (with_reducible rfl))
  try simp only [Act.put, List.setIfInBounds_toArray, List.set_cons_zero, List.set_cons_succ]
  refine wpAnyH_ready (rs := [10, 14]) (by kernel_rfl) (by simp) (AllReadyH.cons (o := { dst := some 69, op := Op.buildSlice 143 1 #[(0, Operand.tmp 68)], type := 143, pos := "ref.go:92", after := #[{ on := 9, ground := Ground.data }], guard := none }) rfl (fun K hK => ?_) (AllReadyH.cons (o := { dst := some 73, op := Op.buildSlice 143 1 #[(0, Operand.tmp 72)], type := 143, pos := "ref.go:92", after := #[{ on := 13, ground := Ground.data }], guard := none }) rfl (fun K hK => ?_) AllReadyH.nil))
  · (rw [if_pos (by rfl)]; go_wp2_with (fail))
    refine hK.out _ _ (by (repeat (with_reducible first | assumption | exact agr _ | apply agal | apply agdr | apply agst))) (fun hHeld => ?_)
    clear hK K
    try simp only [Act.put, List.setIfInBounds_toArray, List.set_cons_zero, List.set_cons_succ]
    refine wpAnyH_take (i := 11) (oi := { dst := some 70, op := Op.build 145 #[(0, Operand.tmp 67), (2, Operand.tmp 69)], type := 145, pos := "ref.go:92", after := #[{ on := 8, ground := Ground.data }, { on := 10, ground := Ground.data }], guard := none }) (v := ?_) rfl (by kernel_rfl) (by kernel_rfl) (by kernel_rfl) (fun _ _ _ h => h) (Or.inl ⟨by rfl, ?_⟩) (by assumption) ?_
    rotate_left
    · (intro W hW; (try dsimp only at hW); go_simp <;> (with_reducible rfl))
    try simp only [Act.put, List.setIfInBounds_toArray, List.set_cons_zero, List.set_cons_succ]
    refine wpAnyH_ready (rs := [14]) (by kernel_rfl) (by simp) (AllReadyH.cons (o := { dst := some 73, op := Op.buildSlice 143 1 #[(0, Operand.tmp 72)], type := 143, pos := "ref.go:92", after := #[{ on := 13, ground := Ground.data }], guard := none }) rfl (fun K hK => ?_) AllReadyH.nil)
    (rw [if_pos (by rfl)]; go_wp2_with (fail))
    refine hK.out _ _ (by (repeat (with_reducible first | assumption | exact agr _ | apply agal | apply agdr | apply agst))) (fun hHeld => ?_)
    clear hK K
    try simp only [Act.put, List.setIfInBounds_toArray, List.set_cons_zero, List.set_cons_succ]
    refine wpAnyH_take (i := 15) (oi := { dst := some 74, op := Op.build 145 #[(0, Operand.tmp 71), (2, Operand.tmp 73)], type := 145, pos := "ref.go:92", after := #[{ on := 12, ground := Ground.data }, { on := 14, ground := Ground.data }], guard := none }) (v := ?_) rfl (by kernel_rfl) (by kernel_rfl) (by kernel_rfl) (fun _ _ _ h => h) (Or.inl ⟨by rfl, ?_⟩) (by assumption) ?_
    rotate_left
    · (intro W hW; (try dsimp only at hW); go_simp <;> (with_reducible rfl))
    try simp only [Act.put, List.setIfInBounds_toArray, List.set_cons_zero, List.set_cons_succ]
    refine wpAnyH_ready (rs := [16]) (by kernel_rfl) (by simp) (AllReadyH.cons (o := { dst := some 75, op := Op.buildSlice 25 2 #[(0, Operand.tmp 70), (1, Operand.tmp 74)], type := 25, pos := "ref.go:92", after := #[{ on := 11, ground := Ground.data }, { on := 15, ground := Ground.data }], guard := none }) rfl (fun K hK => ?_) AllReadyH.nil)
    (rw [if_pos (by rfl)]; go_wp2_with (fail))
    refine hK.out _ _ (by (repeat (with_reducible first | assumption | exact agr _ | apply agal | apply agdr | apply agst))) (fun hHeld => ?_)
    clear hK K
    try simp only [Act.put, List.setIfInBounds_toArray, List.set_cons_zero, List.set_cons_succ]
    refine wpAnyH_ready (rs := [17]) (by kernel_rfl) (by simp) (AllReadyH.cons (o := { dst := some 76, op := Op.call { callee := Callee.value (Operand.func 129), args := #[Operand.tmp 60, Operand.tmp 61, Operand.tmp 75], argTypes := #[25, 3, 25] }, type := 25, pos := "ref.go:92", after := #[{ on := 1, ground := Ground.data }, { on := 2, ground := Ground.data }, { on := 16, ground := Ground.data }], guard := none }) rfl (fun K hK => ?_) AllReadyH.nil)
    (rw [if_pos (by rfl)]; go_simp; (with_reducible refine (CW _ ?ra1 ?rb1 _ ?hb1 ?r11 ?r21 ?hA1 ?hB1 ?hz1).mono ?fin1); (case hz1 => ((repeat (with_reducible first | assumption | exact BoxAt.here3 | exact BoxAt.here2 | exact BoxAt.here | apply BoxAt.dr | apply BoxAt.al)); done)); (case hA1 => ((repeat (with_reducible first | assumption | exact BoxAt.here3 | exact BoxAt.here2 | exact BoxAt.here | apply BoxAt.dr | apply BoxAt.al)); done)); (case hB1 => ((repeat (with_reducible first | assumption | exact BoxAt.here3 | exact BoxAt.here2 | exact BoxAt.here | apply BoxAt.dr | apply BoxAt.al)); done)); (case hb1 => (repeat (with_reducible first | assumption | exact Below.refl _ _ | apply Below.al | apply Below.dr))); (case r11 => (with_reducible first | exact Nat.le_refl _ | (simp only [World.heap_alloc_size, World.heap_drew]; omega) | omega)); (case r21 => (with_reducible first | exact Nat.le_refl _ | (simp only [World.heap_alloc_size, World.heap_drew]; omega) | omega)); rintro e w13 ⟨a13, d13, rfl, n13, hb13⟩; have hA13 : AgreeF (fun x => x ≠ w.heap.size + 1) wc w13 := AgreeF.of_below hb13; have hx13 := HX.out.step hb13; have z0 := hx13.cell 0 0 rfl rfl; have z1 := hx13.cell 0 1 rfl rfl; have z2 := hx13.cell 0 2 rfl rfl; have y0 := hx13.frozen 0 0 rfl; have y1 := hx13.frozen 0 1 rfl; have y2 := hx13.frozen 0 2 rfl; go_wp2_with (fail))
    refine hK.out _ _ (by (repeat (with_reducible first | assumption | exact agr _ | apply agal | apply agdr | apply agst))) (fun hHeld => ?_)
    clear hK K
    try simp only [Act.put, List.setIfInBounds_toArray, List.set_cons_zero, List.set_cons_succ]
    refine wpAnyH_take (i := 18) (oi := { dst := some 77, op := Op.build 27 #[(2, Operand.tmp 76)], type := 27, pos := "ref.go:92", after := #[{ on := 17, ground := Ground.data }], guard := none }) (v := ?_) rfl (by kernel_rfl) (by kernel_rfl) (by kernel_rfl) (fun _ _ _ h => h) (Or.inl ⟨by rfl, ?_⟩) (by assumption) ?_
    rotate_left
    · (intro W hW; (try dsimp only at hW); go_simp <;> (with_reducible rfl))
    try simp only [Act.put, List.setIfInBounds_toArray, List.set_cons_zero, List.set_cons_succ]
    refine wpAnyH_ready (rs := [19]) (by kernel_rfl) (by simp) (AllReadyH.cons (o := { dst := none, op := Op.store 27 (Operand.tmp 4) (Operand.tmp 77), type := 0, pos := "ref.go:92", after := #[{ on := 18, ground := Ground.data }, { on := 17, ground := Ground.chain }, { on := 0, ground := Ground.phase }, { on := 1, ground := Ground.phase }, { on := 2, ground := Ground.phase }, { on := 3, ground := Ground.phase }, { on := 4, ground := Ground.phase }, { on := 5, ground := Ground.phase }, { on := 6, ground := Ground.phase }, { on := 7, ground := Ground.phase }, { on := 8, ground := Ground.phase }, { on := 9, ground := Ground.phase }, { on := 10, ground := Ground.phase }, { on := 11, ground := Ground.phase }, { on := 12, ground := Ground.phase }, { on := 13, ground := Ground.phase }, { on := 14, ground := Ground.phase }, { on := 15, ground := Ground.phase }, { on := 16, ground := Ground.phase }, { on := 17, ground := Ground.phase }, { on := 18, ground := Ground.phase }], guard := none }) rfl (fun K hK => ?_) AllReadyH.nil)
    (rw [if_pos (by rfl)]; go_wp2_with (fail))
    refine hK.out _ _ (by (repeat (with_reducible first | assumption | exact agr _ | apply agal | apply agdr | apply agst))) (fun hHeld => ?_)
    clear hK K
    try simp only [Act.put, List.setIfInBounds_toArray, List.set_cons_zero, List.set_cons_succ]
    refine wpAnyH_take (i := 20) (oi := { dst := some 5, op := Op.assign (Operand.const (Value.bool true)), type := 4, pos := "ref.go:92", after := #[{ on := 19, ground := Ground.chain }, { on := 0, ground := Ground.phase }, { on := 1, ground := Ground.phase }, { on := 2, ground := Ground.phase }, { on := 3, ground := Ground.phase }, { on := 4, ground := Ground.phase }, { on := 5, ground := Ground.phase }, { on := 6, ground := Ground.phase }, { on := 7, ground := Ground.phase }, { on := 8, ground := Ground.phase }, { on := 9, ground := Ground.phase }, { on := 10, ground := Ground.phase }, { on := 11, ground := Ground.phase }, { on := 12, ground := Ground.phase }, { on := 13, ground := Ground.phase }, { on := 14, ground := Ground.phase }, { on := 15, ground := Ground.phase }, { on := 16, ground := Ground.phase }, { on := 17, ground := Ground.phase }, { on := 18, ground := Ground.phase }, { on := 19, ground := Ground.phase }], guard := none }) (v := ?_) rfl (by kernel_rfl) (by kernel_rfl) (by kernel_rfl) (fun _ _ _ h => h) (Or.inl ⟨by rfl, ?_⟩) (by assumption) ?_
    rotate_left
    · (intro W hW; (try dsimp only at hW); go_simp <;> (with_reducible rfl))
    try simp only [Act.put, List.setIfInBounds_toArray, List.set_cons_zero, List.set_cons_succ]
    refine wpAnyH_done (by kernel_rfl) ?_ _
    refine NoPanic.normal ?_
    go_wp2_with fail
    have hbe : Below w.heap.size w w13 := below_via HBW.out hb13
    have hxe := ((hx13.put 0 (.int .i64 0) (by simp)).put 1 (.bool false) (by simp)).put 2 (.slice a13 (m + 1) d13) (by simp)
    have t0 := hxe.cell 0 0 rfl rfl
    have t1 := hxe.cell 0 1 rfl rfl
    have t2 := hxe.cell 0 2 rfl rfl
    refine bodyPost_ret (v := .tuple #[.agg #[.int .i64 0, .bool false, .slice a13 (m + 1) d13], .bool true]) (by simp only [results, Tryz.results165]; simp [go_sem, t0, t1, t2]) rfl ?_
    exact parted_end HSP.out (by omega) hF (by omega) n13 hbe
  · (rw [if_pos (by rfl)]; go_wp2_with (fail))
    refine hK.out _ _ (by (repeat (with_reducible first | assumption | exact agr _ | apply agal | apply agdr | apply agst))) (fun hHeld => ?_)
    clear hK K
    try simp only [Act.put, List.setIfInBounds_toArray, List.set_cons_zero, List.set_cons_succ]
    refine wpAnyH_take (i := 15) (oi := { dst := some 74, op := Op.build 145 #[(0, Operand.tmp 71), (2, Operand.tmp 73)], type := 145, pos := "ref.go:92", after := #[{ on := 12, ground := Ground.data }, { on := 14, ground := Ground.data }], guard := none }) (v := ?_) rfl (by kernel_rfl) (by kernel_rfl) (by kernel_rfl) (fun _ _ _ h => h) (Or.inl ⟨by rfl, ?_⟩) (by assumption) ?_
    rotate_left
    · (intro W hW; (try dsimp only at hW); go_simp <;> (with_reducible rfl))
    try simp only [Act.put, List.setIfInBounds_toArray, List.set_cons_zero, List.set_cons_succ]
    refine wpAnyH_ready (rs := [10]) (by kernel_rfl) (by simp) (AllReadyH.cons (o := { dst := some 69, op := Op.buildSlice 143 1 #[(0, Operand.tmp 68)], type := 143, pos := "ref.go:92", after := #[{ on := 9, ground := Ground.data }], guard := none }) rfl (fun K hK => ?_) AllReadyH.nil)
    (rw [if_pos (by rfl)]; go_wp2_with (fail))
    refine hK.out _ _ (by (repeat (with_reducible first | assumption | exact agr _ | apply agal | apply agdr | apply agst))) (fun hHeld => ?_)
    clear hK K
    try simp only [Act.put, List.setIfInBounds_toArray, List.set_cons_zero, List.set_cons_succ]
    refine wpAnyH_take (i := 11) (oi := { dst := some 70, op := Op.build 145 #[(0, Operand.tmp 67), (2, Operand.tmp 69)], type := 145, pos := "ref.go:92", after := #[{ on := 8, ground := Ground.data }, { on := 10, ground := Ground.data }], guard := none }) (v := ?_) rfl (by kernel_rfl) (by kernel_rfl) (by kernel_rfl) (fun _ _ _ h => h) (Or.inl ⟨by rfl, ?_⟩) (by assumption) ?_
    rotate_left
    · (intro W hW; (try dsimp only at hW); go_simp <;> (with_reducible rfl))
    try simp only [Act.put, List.setIfInBounds_toArray, List.set_cons_zero, List.set_cons_succ]
    refine wpAnyH_ready (rs := [16]) (by kernel_rfl) (by simp) (AllReadyH.cons (o := { dst := some 75, op := Op.buildSlice 25 2 #[(0, Operand.tmp 70), (1, Operand.tmp 74)], type := 25, pos := "ref.go:92", after := #[{ on := 11, ground := Ground.data }, { on := 15, ground := Ground.data }], guard := none }) rfl (fun K hK => ?_) AllReadyH.nil)
    (rw [if_pos (by rfl)]; go_wp2_with (fail))
    refine hK.out _ _ (by (repeat (with_reducible first | assumption | exact agr _ | apply agal | apply agdr | apply agst))) (fun hHeld => ?_)
    clear hK K
    try simp only [Act.put, List.setIfInBounds_toArray, List.set_cons_zero, List.set_cons_succ]
    refine wpAnyH_ready (rs := [17]) (by kernel_rfl) (by simp) (AllReadyH.cons (o := { dst := some 76, op := Op.call { callee := Callee.value (Operand.func 129), args := #[Operand.tmp 60, Operand.tmp 61, Operand.tmp 75], argTypes := #[25, 3, 25] }, type := 25, pos := "ref.go:92", after := #[{ on := 1, ground := Ground.data }, { on := 2, ground := Ground.data }, { on := 16, ground := Ground.data }], guard := none }) rfl (fun K hK => ?_) AllReadyH.nil)
    (rw [if_pos (by rfl)]; go_simp; (with_reducible refine (CW _ ?ra2 ?rb2 _ ?hb2 ?r12 ?r22 ?hA2 ?hB2 ?hz2).mono ?fin2); (case hz2 => ((repeat (with_reducible first | assumption | exact BoxAt.here3 | exact BoxAt.here2 | exact BoxAt.here | apply BoxAt.dr | apply BoxAt.al)); done)); (case hA2 => ((repeat (with_reducible first | assumption | exact BoxAt.here3 | exact BoxAt.here2 | exact BoxAt.here | apply BoxAt.dr | apply BoxAt.al)); done)); (case hB2 => ((repeat (with_reducible first | assumption | exact BoxAt.here3 | exact BoxAt.here2 | exact BoxAt.here | apply BoxAt.dr | apply BoxAt.al)); done)); (case hb2 => (repeat (with_reducible first | assumption | exact Below.refl _ _ | apply Below.al | apply Below.dr))); (case r12 => (with_reducible first | exact Nat.le_refl _ | (simp only [World.heap_alloc_size, World.heap_drew]; omega) | omega)); (case r22 => (with_reducible first | exact Nat.le_refl _ | (simp only [World.heap_alloc_size, World.heap_drew]; omega) | omega)); rintro e w13 ⟨a13, d13, rfl, n13, hb13⟩; have hA13 : AgreeF (fun x => x ≠ w.heap.size + 1) wc w13 := AgreeF.of_below hb13; have hx13 := HX.out.step hb13; have z0 := hx13.cell 0 0 rfl rfl; have z1 := hx13.cell 0 1 rfl rfl; have z2 := hx13.cell 0 2 rfl rfl; have y0 := hx13.frozen 0 0 rfl; have y1 := hx13.frozen 0 1 rfl; have y2 := hx13.frozen 0 2 rfl; go_wp2_with (fail))
    refine hK.out _ _ (by (repeat (with_reducible first | assumption | exact agr _ | apply agal | apply agdr | apply agst))) (fun hHeld => ?_)
    clear hK K
    try simp only [Act.put, List.setIfInBounds_toArray, List.set_cons_zero, List.set_cons_succ]
    refine wpAnyH_take (i := 18) (oi := { dst := some 77, op := Op.build 27 #[(2, Operand.tmp 76)], type := 27, pos := "ref.go:92", after := #[{ on := 17, ground := Ground.data }], guard := none }) (v := ?_) rfl (by kernel_rfl) (by kernel_rfl) (by kernel_rfl) (fun _ _ _ h => h) (Or.inl ⟨by rfl, ?_⟩) (by assumption) ?_
    rotate_left
    · (intro W hW; (try dsimp only at hW); go_simp <;> (with_reducible rfl))
    try simp only [Act.put, List.setIfInBounds_toArray, List.set_cons_zero, List.set_cons_succ]
    refine wpAnyH_ready (rs := [19]) (by kernel_rfl) (by simp) (AllReadyH.cons (o := { dst := none, op := Op.store 27 (Operand.tmp 4) (Operand.tmp 77), type := 0, pos := "ref.go:92", after := #[{ on := 18, ground := Ground.data }, { on := 17, ground := Ground.chain }, { on := 0, ground := Ground.phase }, { on := 1, ground := Ground.phase }, { on := 2, ground := Ground.phase }, { on := 3, ground := Ground.phase }, { on := 4, ground := Ground.phase }, { on := 5, ground := Ground.phase }, { on := 6, ground := Ground.phase }, { on := 7, ground := Ground.phase }, { on := 8, ground := Ground.phase }, { on := 9, ground := Ground.phase }, { on := 10, ground := Ground.phase }, { on := 11, ground := Ground.phase }, { on := 12, ground := Ground.phase }, { on := 13, ground := Ground.phase }, { on := 14, ground := Ground.phase }, { on := 15, ground := Ground.phase }, { on := 16, ground := Ground.phase }, { on := 17, ground := Ground.phase }, { on := 18, ground := Ground.phase }], guard := none }) rfl (fun K hK => ?_) AllReadyH.nil)
    (rw [if_pos (by rfl)]; go_wp2_with (fail))
    refine hK.out _ _ (by (repeat (with_reducible first | assumption | exact agr _ | apply agal | apply agdr | apply agst))) (fun hHeld => ?_)
    clear hK K
    try simp only [Act.put, List.setIfInBounds_toArray, List.set_cons_zero, List.set_cons_succ]
    refine wpAnyH_take (i := 20) (oi := { dst := some 5, op := Op.assign (Operand.const (Value.bool true)), type := 4, pos := "ref.go:92", after := #[{ on := 19, ground := Ground.chain }, { on := 0, ground := Ground.phase }, { on := 1, ground := Ground.phase }, { on := 2, ground := Ground.phase }, { on := 3, ground := Ground.phase }, { on := 4, ground := Ground.phase }, { on := 5, ground := Ground.phase }, { on := 6, ground := Ground.phase }, { on := 7, ground := Ground.phase }, { on := 8, ground := Ground.phase }, { on := 9, ground := Ground.phase }, { on := 10, ground := Ground.phase }, { on := 11, ground := Ground.phase }, { on := 12, ground := Ground.phase }, { on := 13, ground := Ground.phase }, { on := 14, ground := Ground.phase }, { on := 15, ground := Ground.phase }, { on := 16, ground := Ground.phase }, { on := 17, ground := Ground.phase }, { on := 18, ground := Ground.phase }, { on := 19, ground := Ground.phase }], guard := none }) (v := ?_) rfl (by kernel_rfl) (by kernel_rfl) (by kernel_rfl) (fun _ _ _ h => h) (Or.inl ⟨by rfl, ?_⟩) (by assumption) ?_
    rotate_left
    · (intro W hW; (try dsimp only at hW); go_simp <;> (with_reducible rfl))
    try simp only [Act.put, List.setIfInBounds_toArray, List.set_cons_zero, List.set_cons_succ]
    refine wpAnyH_done (by kernel_rfl) ?_ _
    refine NoPanic.normal ?_
    go_wp2_with fail
    have hbe : Below w.heap.size w w13 := below_via HBW.out hb13
    have hxe := ((hx13.put 0 (.int .i64 0) (by simp)).put 1 (.bool false) (by simp)).put 2 (.slice a13 (m + 1) d13) (by simp)
    have t0 := hxe.cell 0 0 rfl rfl
    have t1 := hxe.cell 0 1 rfl rfl
    have t2 := hxe.cell 0 2 rfl rfl
    refine bodyPost_ret (v := .tuple #[.agg #[.int .i64 0, .bool false, .slice a13 (m + 1) d13], .bool true]) (by simp only [results, Tryz.results165]; simp [go_sem, t0, t1, t2]) rfl ?_
    exact parted_end HSP.out (by omega) hF (by omega) n13 hbe
end Go.Proofs.YtpghlmcoajaiiaaGreatDoor
