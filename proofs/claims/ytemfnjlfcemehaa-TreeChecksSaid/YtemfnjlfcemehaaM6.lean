/- Texts that other texts of this claim lean on, one behind the other. -/
import Derived.Test.YtemfnjlfcemehaaM5
import Derived.Test.YtemfnjlfcemehaaM2
import Derived.Test.YtemfnjlfcemehaaM3
import Derived.Test.YtemfnjlfcemehaaM4
import Derived.Deep.LoopGhost
/- The walks of trees: the top (printed by gen_treT.py). -/
namespace Go.Proofs.Ytemfnjlfcemehaa
open Go.RowKit

theorem agree_set5 {G : Nat → Prop} {w : World} {b : Nat} (h : ¬ G b) (y0 y1 y2 y3 y4 : Value) : AgreeF G w (set5 w b y0 y1 y2 y3 y4) := (((((AgreeF.of_below (Below.refl _ _)).set (.inl h)).set (.inl h)).set (.inl h)).set (.inl h)).set (.inl h)
theorem NodeOn.open_pos {F : Nat → Prop} {n : Nat} {w : World} {cs : List Value} {t : Tr} (h : NodeOn F n w cs t) :
    ∃ ka kc va vn vc ca cn cc V C, cs = [.int .i64 t.page, .bool t.isLeaf, .slice ka (cntT t) kc, .slice va vn vc, .slice ca cn cc] ∧ Raw 1 w ka (cntT t) kc (t.keys.map kCell) ∧ Raw 2 w va vn vc V ∧ Raw 5 w ca cn cc C := by
  cases n with
  | zero => exact h.elim
  | succ n =>
    obtain ⟨ka, kc, va, vn, vc, ca, cn, cc, V, C, e, h1, h2, h3, _⟩ := h.open
    exact ⟨ka, kc, va, vn, vc, ca, cn, cc, V, C, e, h1, h2, h3⟩
/-- What the top asks of a tree. -/
def TopOk : Nat → Tr → Prop
  | 0, _ => False
  | n + 1, t => Bnd (n + 1) t ∧ (t.isLeaf = false → 0 < cntT t) ∧ ∀ p l, t = .node p l → l.length = 1 → TopOk n (kidAt l 0)
theorem topT_kid {n : Nat} {p : Int} {l : List (List UInt8 × Tr)} (h : l.length = 1) : topT (n + 1) (.node p l) = topT n (kidAt l 0) := by
  show (if l.length = 1 then _ else _) = _
  rw [if_pos h]
theorem topT_same {n : Nat} {t : Tr} (h : ∀ p l, t = .node p l → l.length ≠ 1) (ha : atF (sizesT t) = 0) : topT (n + 1) t = t := by
  cases t with
  | leaf p l => show (if _ then _ else _) = _; rw [if_pos ha]
  | node p l =>
    show (if l.length = 1 then _ else if _ then _ else _) = _
    rw [if_neg (h p l rfl), if_pos ha]
theorem topT_mend {n : Nat} {t : Tr} (h : ∀ p l, t = .node p l → l.length ≠ 1) (ha : atF (sizesT t) ≠ 0) : topT (n + 1) t = mendT 0 [([], t)] 0 := by
  cases t with
  | leaf p l => show (if _ then _ else _) = _; rw [if_neg ha]
  | node p l =>
    show (if l.length = 1 then _ else if _ then _ else _) = _
    rw [if_neg (h p l rfl), if_neg ha]
set_option maxRecDepth 100000 in
set_option maxHeartbeats 2000000 in
theorem ttop_any : ∀ {N : Nat} {F : Nat → Prop} {w : World} {cs : List Value} {t : Tr}, NodeOn F N w cs t → TopOk N t → Calls Try.prog 42 #[.agg cs.toArray] w (NodeTo F (N + 1) w (topT N t))
  | 0, _, _, _, _, h, _ => h.elim
  | N + 1, F, w, cs, t, h, ho => by
    have IH := fun {F : Nat → Prop} {w : World} {cs : List Value} {t : Tr} (h : NodeOn F N w cs t) (ho : TopOk N t) => ttop_any h ho
    obtain ⟨o1, o2, o3⟩ := ho
    have hlt := h.lt
    obtain ⟨ka, kc, va, vn, vc, ca, cn, cc, V, C, rfl, h1, h2, h3, h4, f1, f2, f3⟩ := hlt.open
    obtain ⟨lf, hlf⟩ : ∃ x, t.isLeaf = x := ⟨_, rfl⟩
    obtain ⟨p, hp⟩ : ∃ x, t.page = x := ⟨_, rfl⟩
    obtain ⟨m, hm⟩ : ∃ x, cntT t = x := ⟨_, rfl⟩
    obtain ⟨_, r1, r2⟩ := h4.toR.lens
    have hcn : cn = if lf then 0 else m := by rw [← h3.1, r2, hlf, hm]
    have hm9 : m ≤ 1000 := by rw [← hm]; exact o1.cnt
    rw [hlf, hp, hm] at hlt ⊢
    have hB0 : Below w.heap.size w ((w.alloc (.cells #[.int .i64 p, .bool lf, .slice ka m kc, .slice va vn vc, .slice ca cn cc] 33)).alloc (.cells #[.int .i64 0, .bool false, .slice none 0 0, .slice none 0 0, .slice none 0 0] 33)) := Below.al (Below.al (Below.refl _ _))
    have hX0 : Boxes _ [(w.heap.size + 1, [.int .i64 0, .bool false, .slice none 0 0, .slice none 0 0, .slice none 0 0]), (w.heap.size, [.int .i64 p, .bool lf, .slice ka m kc, .slice va vn vc, .slice ca cn cc])] := (((Boxes.nil w).alloc #[.int .i64 p, .bool lf, .slice ka m kc, .slice va vn vc, .slice ca cn cc] 33 rfl).alloc #[.int .i64 0, .bool false, .slice none 0 0, .slice none 0 0, .slice none 0 0] 33 (b := w.heap.size + 1) (by simp))
    obtain ⟨wA, hwA⟩ : ∃ wA, (w.alloc (.cells #[.int .i64 p, .bool lf, .slice ka m kc, .slice va vn vc, .slice ca cn cc] 33)).alloc (.cells #[.int .i64 0, .bool false, .slice none 0 0, .slice none 0 0, .slice none 0 0] 33) = wA := ⟨_, rfl⟩
    have hzA : w.heap.size + 2 ≤ wA.heap.size := by rw [← hwA]; simp
    rw [hwA] at hB0 hX0
    have CS := tsizes_any (hlt.below hB0).toIn o1
    obtain ⟨S, hS⟩ : ∃ x, sizesT t = x := ⟨_, rfl⟩
    rw [hS] at CS
    have hSm := o1.small
    rw [hS] at hSm
    have hSm := Lib.hid hSm
    have n0 := hX0.cell 1 0 rfl rfl
    have n1 := hX0.cell 1 1 rfl rfl
    have n2 := hX0.cell 1 2 rfl rfl
    have n3 := hX0.cell 1 3 rfl rfl
    have n4 := hX0.cell 1 4 rfl rfl
    have HN := Lib.hid hlt
    have HX := Lib.hid hX0
    have HB := Lib.hid hB0
    have H3 := Lib.hid h3
    have H4 := Lib.hid h4
    have HLF := Lib.hid hlf
    have HM := Lib.hid hm
    have HO1 := Lib.hid o1
    have HO2 := Lib.hid o2
    have HO3 := Lib.hid o3
    have HS := Lib.hid hS
    have HCN := Lib.hid hcn
    have hF : ∀ b, Fr (fun b => F b ∧ b < w.heap.size) wA b → Fr F w b := fun b h => by rcases h with h | h; exact .inl h.1; exact .inr (by omega)
    have hne : ¬ Fr (fun b => F b ∧ b < w.heap.size) wA (w.heap.size + 1) := fun h => by rcases h with h | h <;> omega
    have HF := Lib.hid hF
    clear h h1 h2 h3 h4 hlt o1 o2 o3 hX0 hB0 hlf hp hm r1 r2 hS hcn hF
    by_cases hkid : lf = false ∧ m = 1
    · obtain ⟨rfl, rfl⟩ := hkid
      have hcn : cn = 1 := HCN.out
      subst hcn
      obtain ⟨bc, oc, y, yc, eca, hbc, hy, _, hyc, hcell⟩ := TabR.at H3.out (show 0 < 1 by omega)
      have hyc : yc = y.1 := hyc
      subst hyc eca
      cases t with
      | leaf p0 l => have := HLF.out; simp [Tr.isLeaf] at this
      | node p0 l =>
      have hl1 : l.length = 1 := HM.out
      have hkid := kid_tells H4.out.2.2 hy
      obtain ⟨q1, q2, q3, q4, q5, q6, q7, q8, _, _, ey, _⟩ := (NodeOn.open_pos hkid)
      rw [ey] at hcell hkid
      have e0 := (HB.out.cell (p := ⟨bc, oc, none⟩) hbc).trans (by have := hcell 0 _ rfl; simpa using this)
      have e1 := (HB.out.cell (p := ⟨bc, oc + 1, none⟩) hbc).trans (by have := hcell 1 _ rfl; simpa using this)
      have e2 := (HB.out.cell (p := ⟨bc, oc + 2, none⟩) hbc).trans (by have := hcell 2 _ rfl; simpa using this)
      have e3 := (HB.out.cell (p := ⟨bc, oc + 3, none⟩) hbc).trans (by have := hcell 3 _ rfl; simpa using this)
      have e4 := (HB.out.cell (p := ⟨bc, oc + 4, none⟩) hbc).trans (by have := hcell 4 _ rfl; simpa using this)
      have CT := IH (hkid.below HB.out) (HO3.out p0 l rfl hl1)
      have HTE : Hid (topT (N + 1) (.node p0 l) = topT N (kidAt l 0)) := Lib.hid (topT_kid hl1)
      clear hcell hkid ey hy CS IH hl1
      generalize (kidAt l 0).page = kp at *
      generalize (kidAt l 0).isLeaf = kl at *
      generalize cntT (kidAt l 0) = kcn at *
      go_enter Try.func42, Try.ntmps42
      go_wp2_with fail
      refine CT.mono ?_
      rintro e w1 ⟨x, rfl, hn, hb1⟩
      obtain ⟨x1, x3, x4, x5, x6, x7, x8, x9, _, _, ex, _⟩ := NodeOn.open_pos hn
      subst ex
      generalize (topT N (kidAt l 0)).page = xp at *
      generalize (topT N (kidAt l 0)).isLeaf = xl at *
      generalize cntT (topT N (kidAt l 0)) = x2 at *
      have hX1 := HX.out.step hb1
      have hBW := HB.out.trans (hb1.mono HB.out.size)
      have hz1 : w.heap.size + 2 ≤ w1.heap.size := Nat.le_trans hzA hb1.size
      clear CT n0 n1 n2 n3 n4 e0 e1 e2 e3 e4
      have hX7 := set5_box (hX1.sub (m := [(w.heap.size + 1, [.int .i64 0, .bool false, .slice none 0 0, .slice none 0 0, .slice none 0 0])]) (by simp)) (by simp) (.int .i64 xp) (.bool xl) (.slice x1 x2 x3) (.slice x4 x5 x6) (.slice x7 x8 x9)
      have hB7 := set5_below hBW (b := w.heap.size + 1) (by omega) (.int .i64 xp) (.bool xl) (.slice x1 x2 x3) (.slice x4 x5 x6) (.slice x7 x8 x9)
      have hN7 := NodeOn.more (m := N + 2) (NodeOn.mono HF.out (hn.agree (agree_set5 hne (.int .i64 xp) (.bool xl) (.slice x1 x2 x3) (.slice x4 x5 x6) (.slice x7 x8 x9)))) (by omega)
      rw [← HTE.out] at hN7
      have fin : Hid (NodeTo F (N + 2) w (topT (N + 1) (.node p0 l)) (.returned (.agg #[.int .i64 xp, .bool xl, .slice x1 x2 x3, .slice x4 x5 x6, .slice x7 x8 x9])) (set5 _ (w.heap.size + 1) (.int .i64 xp) (.bool xl) (.slice x1 x2 x3) (.slice x4 x5 x6) (.slice x7 x8 x9))) := Lib.hid ⟨[.int .i64 xp, .bool xl, .slice x1 x2 x3, .slice x4 x5 x6, .slice x7 x8 x9], rfl, hN7, hB7⟩
      have t0 := hX7.cell 0 0 rfl rfl
      have t1 := hX7.cell 0 1 rfl rfl
      have t2 := hX7.cell 0 2 rfl rfl
      have t3 := hX7.cell 0 3 rfl rfl
      have t4 := hX7.cell 0 4 rfl rfl
      unfold set5 at t0 t1 t2 t3 t4
      have z0 := hX1.cell 0 0 rfl rfl
      have z1 := hX1.cell 0 1 rfl rfl
      have z2 := hX1.cell 0 2 rfl rfl
      have z3 := hX1.cell 0 3 rfl rfl
      have z4 := hX1.cell 0 4 rfl rfl
      have u0 := hX1.frozen 0 0 rfl
      have u1 := hX1.frozen 0 1 rfl
      have u2 := hX1.frozen 0 2 rfl
      have u3 := hX1.frozen 0 3 rfl
      have u4 := hX1.frozen 0 4 rfl
      clear hX7 hB7 hN7
      go_wp2_with fail
      refine bodyPost_ret (v := .agg #[.int .i64 xp, .bool xl, .slice x1 x2 x3, .slice x4 x5 x6, .slice x7 x8 x9]) (by simp [results, Try.results42, go_sem, t0, t1, t2, t3, t4]) rfl ?_
      exact fin.out
    · have hrest : Hid (∀ p l, t = .node p l → l.length ≠ 1) := Lib.hid (fun p l e hl => hkid ⟨by rw [← HLF.out, e]; rfl, by rw [← HM.out, e]; exact hl⟩)
      have hguard : lf = true ∨ ((m : Int) == 1) = false := by
        cases lf with
        | true => exact .inl rfl
        | false => exact .inr (by simp; intro e; exact hkid ⟨rfl, by omega⟩)
      clear hkid IH
      rcases hguard with rfl | hguard
      · go_enter Try.func42, Try.ntmps42
        go_wp2_with fail
        refine CS.mono ?_
        rintro e w1 ⟨v1, rfl, ho1, hb1⟩
        obtain ⟨sa, sc, rfl, hrow⟩ := Row.of_own ho1
        clear CS ho1
        go_wp2_with fail
        refine (at_any _ _ _ _ _ hrow hSm.out).mono ?_
        rintro e w2 ⟨rfl, hb2⟩
        have hbA := below_via hb1 hb2
        have hX2 := HX.out.step hbA
        have hBW := HB.out.trans (hbA.mono HB.out.size)
        have hz2 : w.heap.size + 2 ≤ w2.heap.size := Nat.le_trans hzA hbA.size
        clear hb1 hb2 hrow n0 n1 n2 n3 n4 hbA
        have n0 := hX2.cell 1 0 rfl rfl
        have n1 := hX2.cell 1 1 rfl rfl
        have n2 := hX2.cell 1 2 rfl rfl
        have n3 := hX2.cell 1 3 rfl rfl
        have n4 := hX2.cell 1 4 rfl rfl
        by_cases hat : atF S = 0
        · have HAT := Lib.hid hat
          have HTE : Hid (topT (N + 1) t = t) := Lib.hid (topT_same hrest.out (by rw [HS.out]; exact hat))
          rw [hat]
          clear hat
          have hX7 := set5_box (hX2.sub (m := [(w.heap.size + 1, [.int .i64 0, .bool false, .slice none 0 0, .slice none 0 0, .slice none 0 0])]) (by simp)) (by simp) (.int .i64 p) (.bool true) (.slice ka m kc) (.slice va vn vc) (.slice ca cn cc)
          have hB7 := set5_below hBW (b := w.heap.size + 1) (by omega) (.int .i64 p) (.bool true) (.slice ka m kc) (.slice va vn vc) (.slice ca cn cc)
          have hN7 := NodeOn.more (m := N + 2) (NodeOn.mono (G := Fr F w) (fun b h => .inl h.1) (HN.out.below hB7)) (by omega)
          rw [← HTE.out] at hN7
          have fin : Hid (NodeTo F (N + 2) w (topT (N + 1) t) (.returned (.agg #[.int .i64 p, .bool true, .slice ka m kc, .slice va vn vc, .slice ca cn cc])) (set5 _ (w.heap.size + 1) (.int .i64 p) (.bool true) (.slice ka m kc) (.slice va vn vc) (.slice ca cn cc))) := Lib.hid ⟨[.int .i64 p, .bool true, .slice ka m kc, .slice va vn vc, .slice ca cn cc], rfl, hN7, hB7⟩
          have t0 := hX7.cell 0 0 rfl rfl
          have t1 := hX7.cell 0 1 rfl rfl
          have t2 := hX7.cell 0 2 rfl rfl
          have t3 := hX7.cell 0 3 rfl rfl
          have t4 := hX7.cell 0 4 rfl rfl
          unfold set5 at t0 t1 t2 t3 t4
          have z0 := hX2.cell 0 0 rfl rfl
          have z1 := hX2.cell 0 1 rfl rfl
          have z2 := hX2.cell 0 2 rfl rfl
          have z3 := hX2.cell 0 3 rfl rfl
          have z4 := hX2.cell 0 4 rfl rfl
          have u0 := hX2.frozen 0 0 rfl
          have u1 := hX2.frozen 0 1 rfl
          have u2 := hX2.frozen 0 2 rfl
          have u3 := hX2.frozen 0 3 rfl
          have u4 := hX2.frozen 0 4 rfl
          clear hX7 hB7 hN7
          go_wp2_with fail
          refine bodyPost_ret (v := .agg #[.int .i64 p, .bool true, .slice ka m kc, .slice va vn vc, .slice ca cn cc]) (by simp [results, Try.results42, go_sem, t0, t1, t2, t3, t4]) rfl ?_
          exact fin.out
        · have HTE : Hid (topT (N + 1) t = mendT 0 [([], t)] 0) := Lib.hid (topT_mend hrest.out (by rw [HS.out]; exact hat))
          have hae : ((atF S : Int) == 0) = false := by simpa using hat
          generalize atF S = A at *
          clear hat
          have hSe : Calls Try.prog 44 #[.agg #[.int .i64 0, .bool false, .slice (some ⟨w2.heap.size, 0, none⟩) 1 1, .slice none 0 0, .slice (some ⟨w2.heap.size + 1, 0, none⟩) 1 1], .int .i64 0] ((w2.alloc (.cells #[.string ⟨#[]⟩] 9)).alloc (.cells #[.int .i64 p, .bool true, .slice ka m kc, .slice va vn vc, .slice ca cn cc] 33)) (NodeTo (fun b => (F b ∧ b < w.heap.size) ∨ w.heap.size + 2 ≤ b) (N + 2) ((w2.alloc (.cells #[.string ⟨#[]⟩] 9)).alloc (.cells #[.int .i64 p, .bool true, .slice ka m kc, .slice va vn vc, .slice ca cn cc] 33)) (mendT 0 [([], t)] 0)) := by
            have hW : Below w2.heap.size w2 ((w2.alloc (.cells #[.string ⟨#[]⟩] 9)).alloc (.cells #[.int .i64 p, .bool true, .slice ka m kc, .slice va vn vc, .slice ca cn cc] 33)) := Below.al (Below.al (Below.refl _ _))
            obtain ⟨cN, hcN⟩ : ∃ c : Cl 5, c.1 = [.int .i64 p, .bool true, .slice ka m kc, .slice va vn vc, .slice ca cn cc] := ⟨⟨[.int .i64 p, .bool true, .slice ka m kc, .slice va vn vc, .slice ca cn cc], rfl, by intro u hu; simp at hu; rcases hu with rfl | rfl | rfl | rfl | rfl <;> rfl⟩, rfl⟩
            have hnode : NodeOn (fun b => (F b ∧ b < w.heap.size) ∨ w.heap.size + 2 ≤ b) (N + 2) ((w2.alloc (.cells #[.string ⟨#[]⟩] 9)).alloc (.cells #[.int .i64 p, .bool true, .slice ka m kc, .slice va vn vc, .slice ca cn cc] 33)) [.int .i64 0, .bool false, .slice (some ⟨w2.heap.size, 0, none⟩) 1 1, .slice none 0 0, .slice (some ⟨w2.heap.size + 1, 0, none⟩) 1 1] (.node 0 [([], t)]) := by
              refine NodeOn.shut (V := []) (C := [cN]) rfl rfl (K := [kCell []]) rfl (raw_box (L := [kCell []]) (BoxAt.al BoxAt.here) (by simp)) (Raw.nil0 _ _) (raw_box (L := [cN]) (by simpa [flatC, hcN] using (BoxAt.here2 (w := w2) (o := .cells #[.string ⟨#[]⟩] 9) (cs := #[.int .i64 p, .bool true, .slice ka m kc, .slice va vn vc, .slice ca cn cc]) (t := 33))) (by simp)) ?_ (Fa.zero _ _) ?_ ⟨tells_keys _, rfl, Tells.one ?_⟩
              · exact .inr fun b off e => by cases e; exact .inr (by omega)
              · exact .inr fun b off e => by cases e; exact .inr (by omega)
              · rw [hcN]
                exact NodeOn.mono (fun b h => .inl h) (HN.out.below (hBW.trans (hW.mono hBW.size)))
            exact tmend_any hnode 0 (by simp) ⟨by simp, fun c hc => by simp at hc; subst hc; exact HO1.out, fun c hc d hd => by simp at hc hd; subst hc hd; rfl, fun c hc hl => by simp at hc; subst hc; exact HO2.out hl, fun j hj => by simp at hj⟩
          have hX2a : Boxes (w2.alloc (.cells #[.string ⟨#[]⟩] 9)) _ := Boxes.al hX2
          have s0 := hX2a.cell 1 0 rfl rfl
          have s1 := hX2a.cell 1 1 rfl rfl
          have s2 := hX2a.cell 1 2 rfl rfl
          have s3 := hX2a.cell 1 3 rfl rfl
          have s4 := hX2a.cell 1 4 rfl rfl
          go_wp2_with fail
          clear hX2a s0 s1 s2 s3 s4
          refine hSe.mono ?_
          rintro e w3 ⟨x, rfl, hn, hb3⟩
          obtain ⟨x1, x3, x4, x5, x6, x7, x8, x9, _, _, ex, _⟩ := NodeOn.open_pos hn
          subst ex
          rw [← HTE.out] at hn ⊢
          have hb3' : Below w2.heap.size w2 w3 := below_via (Below.al (Below.al (Below.refl _ _))) hb3
          have hX3 := hX2.step hb3'
          have hBW3 := hBW.trans (hb3'.mono hBW.size)
          have hne3 : ¬ Fr (fun b => (F b ∧ b < w.heap.size) ∨ w.heap.size + 2 ≤ b) ((w2.alloc (.cells #[.string ⟨#[]⟩] 9)).alloc (.cells #[.int .i64 p, .bool true, .slice ka m kc, .slice va vn vc, .slice ca cn cc] 33)) (w.heap.size + 1) := fun h => by
            rcases h with h | h
            · omega
            · simp at h; omega
          have hF3 : ∀ b, Fr (fun b => (F b ∧ b < w.heap.size) ∨ w.heap.size + 2 ≤ b) ((w2.alloc (.cells #[.string ⟨#[]⟩] 9)).alloc (.cells #[.int .i64 p, .bool true, .slice ka m kc, .slice va vn vc, .slice ca cn cc] 33)) b → Fr F w b := fun b h => by
            rcases h with h | h
            · rcases h with h | h; exact .inl h.1; exact .inr (by omega)
            · simp at h; exact .inr (by omega)
          have hne := hne3
          generalize (topT (N + 1) t).page = xp at *
          generalize (topT (N + 1) t).isLeaf = xl at *
          generalize cntT (topT (N + 1) t) = x2 at *
          clear hSe n0 n1 n2 n3 n4
          have hX7 := set5_box (hX3.sub (m := [(w.heap.size + 1, [.int .i64 0, .bool false, .slice none 0 0, .slice none 0 0, .slice none 0 0])]) (by simp)) (by simp) (.int .i64 xp) (.bool xl) (.slice x1 x2 x3) (.slice x4 x5 x6) (.slice x7 x8 x9)
          have hB7 := set5_below hBW3 (b := w.heap.size + 1) (by omega) (.int .i64 xp) (.bool xl) (.slice x1 x2 x3) (.slice x4 x5 x6) (.slice x7 x8 x9)
          have hN7 := NodeOn.mono hF3 (hn.agree (agree_set5 hne (.int .i64 xp) (.bool xl) (.slice x1 x2 x3) (.slice x4 x5 x6) (.slice x7 x8 x9)))
          have fin : Hid (NodeTo F (N + 2) w (topT (N + 1) t) (.returned (.agg #[.int .i64 xp, .bool xl, .slice x1 x2 x3, .slice x4 x5 x6, .slice x7 x8 x9])) (set5 _ (w.heap.size + 1) (.int .i64 xp) (.bool xl) (.slice x1 x2 x3) (.slice x4 x5 x6) (.slice x7 x8 x9))) := Lib.hid ⟨[.int .i64 xp, .bool xl, .slice x1 x2 x3, .slice x4 x5 x6, .slice x7 x8 x9], rfl, hN7, hB7⟩
          have t0 := hX7.cell 0 0 rfl rfl
          have t1 := hX7.cell 0 1 rfl rfl
          have t2 := hX7.cell 0 2 rfl rfl
          have t3 := hX7.cell 0 3 rfl rfl
          have t4 := hX7.cell 0 4 rfl rfl
          unfold set5 at t0 t1 t2 t3 t4
          have z0 := hX3.cell 0 0 rfl rfl
          have z1 := hX3.cell 0 1 rfl rfl
          have z2 := hX3.cell 0 2 rfl rfl
          have z3 := hX3.cell 0 3 rfl rfl
          have z4 := hX3.cell 0 4 rfl rfl
          have u0 := hX3.frozen 0 0 rfl
          have u1 := hX3.frozen 0 1 rfl
          have u2 := hX3.frozen 0 2 rfl
          have u3 := hX3.frozen 0 3 rfl
          have u4 := hX3.frozen 0 4 rfl
          clear hX7 hB7 hN7
          go_wp2_with fail
          refine bodyPost_ret (v := .agg #[.int .i64 xp, .bool xl, .slice x1 x2 x3, .slice x4 x5 x6, .slice x7 x8 x9]) (by simp [results, Try.results42, go_sem, t0, t1, t2, t3, t4]) rfl ?_
          exact fin.out
      · cases lf with
        | true =>
          go_enter Try.func42, Try.ntmps42
          go_wp2_with fail
          refine CS.mono ?_
          rintro e w1 ⟨v1, rfl, ho1, hb1⟩
          obtain ⟨sa, sc, rfl, hrow⟩ := Row.of_own ho1
          clear CS ho1
          go_wp2_with fail
          refine (at_any _ _ _ _ _ hrow hSm.out).mono ?_
          rintro e w2 ⟨rfl, hb2⟩
          have hbA := below_via hb1 hb2
          have hX2 := HX.out.step hbA
          have hBW := HB.out.trans (hbA.mono HB.out.size)
          have hz2 : w.heap.size + 2 ≤ w2.heap.size := Nat.le_trans hzA hbA.size
          clear hb1 hb2 hrow n0 n1 n2 n3 n4 hbA
          have n0 := hX2.cell 1 0 rfl rfl
          have n1 := hX2.cell 1 1 rfl rfl
          have n2 := hX2.cell 1 2 rfl rfl
          have n3 := hX2.cell 1 3 rfl rfl
          have n4 := hX2.cell 1 4 rfl rfl
          by_cases hat : atF S = 0
          · have HAT := Lib.hid hat
            have HTE : Hid (topT (N + 1) t = t) := Lib.hid (topT_same hrest.out (by rw [HS.out]; exact hat))
            rw [hat]
            clear hat
            have hX7 := set5_box (hX2.sub (m := [(w.heap.size + 1, [.int .i64 0, .bool false, .slice none 0 0, .slice none 0 0, .slice none 0 0])]) (by simp)) (by simp) (.int .i64 p) (.bool true) (.slice ka m kc) (.slice va vn vc) (.slice ca cn cc)
            have hB7 := set5_below hBW (b := w.heap.size + 1) (by omega) (.int .i64 p) (.bool true) (.slice ka m kc) (.slice va vn vc) (.slice ca cn cc)
            have hN7 := NodeOn.more (m := N + 2) (NodeOn.mono (G := Fr F w) (fun b h => .inl h.1) (HN.out.below hB7)) (by omega)
            rw [← HTE.out] at hN7
            have fin : Hid (NodeTo F (N + 2) w (topT (N + 1) t) (.returned (.agg #[.int .i64 p, .bool true, .slice ka m kc, .slice va vn vc, .slice ca cn cc])) (set5 _ (w.heap.size + 1) (.int .i64 p) (.bool true) (.slice ka m kc) (.slice va vn vc) (.slice ca cn cc))) := Lib.hid ⟨[.int .i64 p, .bool true, .slice ka m kc, .slice va vn vc, .slice ca cn cc], rfl, hN7, hB7⟩
            have t0 := hX7.cell 0 0 rfl rfl
            have t1 := hX7.cell 0 1 rfl rfl
            have t2 := hX7.cell 0 2 rfl rfl
            have t3 := hX7.cell 0 3 rfl rfl
            have t4 := hX7.cell 0 4 rfl rfl
            unfold set5 at t0 t1 t2 t3 t4
            have z0 := hX2.cell 0 0 rfl rfl
            have z1 := hX2.cell 0 1 rfl rfl
            have z2 := hX2.cell 0 2 rfl rfl
            have z3 := hX2.cell 0 3 rfl rfl
            have z4 := hX2.cell 0 4 rfl rfl
            have u0 := hX2.frozen 0 0 rfl
            have u1 := hX2.frozen 0 1 rfl
            have u2 := hX2.frozen 0 2 rfl
            have u3 := hX2.frozen 0 3 rfl
            have u4 := hX2.frozen 0 4 rfl
            clear hX7 hB7 hN7
            go_wp2_with fail
            refine bodyPost_ret (v := .agg #[.int .i64 p, .bool true, .slice ka m kc, .slice va vn vc, .slice ca cn cc]) (by simp [results, Try.results42, go_sem, t0, t1, t2, t3, t4]) rfl ?_
            exact fin.out
          · have HTE : Hid (topT (N + 1) t = mendT 0 [([], t)] 0) := Lib.hid (topT_mend hrest.out (by rw [HS.out]; exact hat))
            have hae : ((atF S : Int) == 0) = false := by simpa using hat
            generalize atF S = A at *
            clear hat
            have hSe : Calls Try.prog 44 #[.agg #[.int .i64 0, .bool false, .slice (some ⟨w2.heap.size, 0, none⟩) 1 1, .slice none 0 0, .slice (some ⟨w2.heap.size + 1, 0, none⟩) 1 1], .int .i64 0] ((w2.alloc (.cells #[.string ⟨#[]⟩] 9)).alloc (.cells #[.int .i64 p, .bool true, .slice ka m kc, .slice va vn vc, .slice ca cn cc] 33)) (NodeTo (fun b => (F b ∧ b < w.heap.size) ∨ w.heap.size + 2 ≤ b) (N + 2) ((w2.alloc (.cells #[.string ⟨#[]⟩] 9)).alloc (.cells #[.int .i64 p, .bool true, .slice ka m kc, .slice va vn vc, .slice ca cn cc] 33)) (mendT 0 [([], t)] 0)) := by
              have hW : Below w2.heap.size w2 ((w2.alloc (.cells #[.string ⟨#[]⟩] 9)).alloc (.cells #[.int .i64 p, .bool true, .slice ka m kc, .slice va vn vc, .slice ca cn cc] 33)) := Below.al (Below.al (Below.refl _ _))
              obtain ⟨cN, hcN⟩ : ∃ c : Cl 5, c.1 = [.int .i64 p, .bool true, .slice ka m kc, .slice va vn vc, .slice ca cn cc] := ⟨⟨[.int .i64 p, .bool true, .slice ka m kc, .slice va vn vc, .slice ca cn cc], rfl, by intro u hu; simp at hu; rcases hu with rfl | rfl | rfl | rfl | rfl <;> rfl⟩, rfl⟩
              have hnode : NodeOn (fun b => (F b ∧ b < w.heap.size) ∨ w.heap.size + 2 ≤ b) (N + 2) ((w2.alloc (.cells #[.string ⟨#[]⟩] 9)).alloc (.cells #[.int .i64 p, .bool true, .slice ka m kc, .slice va vn vc, .slice ca cn cc] 33)) [.int .i64 0, .bool false, .slice (some ⟨w2.heap.size, 0, none⟩) 1 1, .slice none 0 0, .slice (some ⟨w2.heap.size + 1, 0, none⟩) 1 1] (.node 0 [([], t)]) := by
                refine NodeOn.shut (V := []) (C := [cN]) rfl rfl (K := [kCell []]) rfl (raw_box (L := [kCell []]) (BoxAt.al BoxAt.here) (by simp)) (Raw.nil0 _ _) (raw_box (L := [cN]) (by simpa [flatC, hcN] using (BoxAt.here2 (w := w2) (o := .cells #[.string ⟨#[]⟩] 9) (cs := #[.int .i64 p, .bool true, .slice ka m kc, .slice va vn vc, .slice ca cn cc]) (t := 33))) (by simp)) ?_ (Fa.zero _ _) ?_ ⟨tells_keys _, rfl, Tells.one ?_⟩
                · exact .inr fun b off e => by cases e; exact .inr (by omega)
                · exact .inr fun b off e => by cases e; exact .inr (by omega)
                · rw [hcN]
                  exact NodeOn.mono (fun b h => .inl h) (HN.out.below (hBW.trans (hW.mono hBW.size)))
              exact tmend_any hnode 0 (by simp) ⟨by simp, fun c hc => by simp at hc; subst hc; exact HO1.out, fun c hc d hd => by simp at hc hd; subst hc hd; rfl, fun c hc hl => by simp at hc; subst hc; exact HO2.out hl, fun j hj => by simp at hj⟩
            have hX2a : Boxes (w2.alloc (.cells #[.string ⟨#[]⟩] 9)) _ := Boxes.al hX2
            have s0 := hX2a.cell 1 0 rfl rfl
            have s1 := hX2a.cell 1 1 rfl rfl
            have s2 := hX2a.cell 1 2 rfl rfl
            have s3 := hX2a.cell 1 3 rfl rfl
            have s4 := hX2a.cell 1 4 rfl rfl
            go_wp2_with fail
            clear hX2a s0 s1 s2 s3 s4
            refine hSe.mono ?_
            rintro e w3 ⟨x, rfl, hn, hb3⟩
            obtain ⟨x1, x3, x4, x5, x6, x7, x8, x9, _, _, ex, _⟩ := NodeOn.open_pos hn
            subst ex
            rw [← HTE.out] at hn ⊢
            have hb3' : Below w2.heap.size w2 w3 := below_via (Below.al (Below.al (Below.refl _ _))) hb3
            have hX3 := hX2.step hb3'
            have hBW3 := hBW.trans (hb3'.mono hBW.size)
            have hne3 : ¬ Fr (fun b => (F b ∧ b < w.heap.size) ∨ w.heap.size + 2 ≤ b) ((w2.alloc (.cells #[.string ⟨#[]⟩] 9)).alloc (.cells #[.int .i64 p, .bool true, .slice ka m kc, .slice va vn vc, .slice ca cn cc] 33)) (w.heap.size + 1) := fun h => by
              rcases h with h | h
              · omega
              · simp at h; omega
            have hF3 : ∀ b, Fr (fun b => (F b ∧ b < w.heap.size) ∨ w.heap.size + 2 ≤ b) ((w2.alloc (.cells #[.string ⟨#[]⟩] 9)).alloc (.cells #[.int .i64 p, .bool true, .slice ka m kc, .slice va vn vc, .slice ca cn cc] 33)) b → Fr F w b := fun b h => by
              rcases h with h | h
              · rcases h with h | h; exact .inl h.1; exact .inr (by omega)
              · simp at h; exact .inr (by omega)
            have hne := hne3
            generalize (topT (N + 1) t).page = xp at *
            generalize (topT (N + 1) t).isLeaf = xl at *
            generalize cntT (topT (N + 1) t) = x2 at *
            clear hSe n0 n1 n2 n3 n4
            have hX7 := set5_box (hX3.sub (m := [(w.heap.size + 1, [.int .i64 0, .bool false, .slice none 0 0, .slice none 0 0, .slice none 0 0])]) (by simp)) (by simp) (.int .i64 xp) (.bool xl) (.slice x1 x2 x3) (.slice x4 x5 x6) (.slice x7 x8 x9)
            have hB7 := set5_below hBW3 (b := w.heap.size + 1) (by omega) (.int .i64 xp) (.bool xl) (.slice x1 x2 x3) (.slice x4 x5 x6) (.slice x7 x8 x9)
            have hN7 := NodeOn.mono hF3 (hn.agree (agree_set5 hne (.int .i64 xp) (.bool xl) (.slice x1 x2 x3) (.slice x4 x5 x6) (.slice x7 x8 x9)))
            have fin : Hid (NodeTo F (N + 2) w (topT (N + 1) t) (.returned (.agg #[.int .i64 xp, .bool xl, .slice x1 x2 x3, .slice x4 x5 x6, .slice x7 x8 x9])) (set5 _ (w.heap.size + 1) (.int .i64 xp) (.bool xl) (.slice x1 x2 x3) (.slice x4 x5 x6) (.slice x7 x8 x9))) := Lib.hid ⟨[.int .i64 xp, .bool xl, .slice x1 x2 x3, .slice x4 x5 x6, .slice x7 x8 x9], rfl, hN7, hB7⟩
            have t0 := hX7.cell 0 0 rfl rfl
            have t1 := hX7.cell 0 1 rfl rfl
            have t2 := hX7.cell 0 2 rfl rfl
            have t3 := hX7.cell 0 3 rfl rfl
            have t4 := hX7.cell 0 4 rfl rfl
            unfold set5 at t0 t1 t2 t3 t4
            have z0 := hX3.cell 0 0 rfl rfl
            have z1 := hX3.cell 0 1 rfl rfl
            have z2 := hX3.cell 0 2 rfl rfl
            have z3 := hX3.cell 0 3 rfl rfl
            have z4 := hX3.cell 0 4 rfl rfl
            have u0 := hX3.frozen 0 0 rfl
            have u1 := hX3.frozen 0 1 rfl
            have u2 := hX3.frozen 0 2 rfl
            have u3 := hX3.frozen 0 3 rfl
            have u4 := hX3.frozen 0 4 rfl
            clear hX7 hB7 hN7
            go_wp2_with fail
            refine bodyPost_ret (v := .agg #[.int .i64 xp, .bool xl, .slice x1 x2 x3, .slice x4 x5 x6, .slice x7 x8 x9]) (by simp [results, Try.results42, go_sem, t0, t1, t2, t3, t4]) rfl ?_
            exact fin.out
        | false =>
          have hcm : cn = m := HCN.out
          subst hcm
          go_enter Try.func42, Try.ntmps42
          go_wp2_with fail
          refine CS.mono ?_
          rintro e w1 ⟨v1, rfl, ho1, hb1⟩
          obtain ⟨sa, sc, rfl, hrow⟩ := Row.of_own ho1
          clear CS ho1
          go_wp2_with fail
          refine (at_any _ _ _ _ _ hrow hSm.out).mono ?_
          rintro e w2 ⟨rfl, hb2⟩
          have hbA := below_via hb1 hb2
          have hX2 := HX.out.step hbA
          have hBW := HB.out.trans (hbA.mono HB.out.size)
          have hz2 : w.heap.size + 2 ≤ w2.heap.size := Nat.le_trans hzA hbA.size
          clear hb1 hb2 hrow n0 n1 n2 n3 n4 hbA
          have n0 := hX2.cell 1 0 rfl rfl
          have n1 := hX2.cell 1 1 rfl rfl
          have n2 := hX2.cell 1 2 rfl rfl
          have n3 := hX2.cell 1 3 rfl rfl
          have n4 := hX2.cell 1 4 rfl rfl
          by_cases hat : atF S = 0
          · have HAT := Lib.hid hat
            have HTE : Hid (topT (N + 1) t = t) := Lib.hid (topT_same hrest.out (by rw [HS.out]; exact hat))
            rw [hat]
            clear hat
            have hX7 := set5_box (hX2.sub (m := [(w.heap.size + 1, [.int .i64 0, .bool false, .slice none 0 0, .slice none 0 0, .slice none 0 0])]) (by simp)) (by simp) (.int .i64 p) (.bool false) (.slice ka cn kc) (.slice va vn vc) (.slice ca cn cc)
            have hB7 := set5_below hBW (b := w.heap.size + 1) (by omega) (.int .i64 p) (.bool false) (.slice ka cn kc) (.slice va vn vc) (.slice ca cn cc)
            have hN7 := NodeOn.more (m := N + 2) (NodeOn.mono (G := Fr F w) (fun b h => .inl h.1) (HN.out.below hB7)) (by omega)
            rw [← HTE.out] at hN7
            have fin : Hid (NodeTo F (N + 2) w (topT (N + 1) t) (.returned (.agg #[.int .i64 p, .bool false, .slice ka cn kc, .slice va vn vc, .slice ca cn cc])) (set5 _ (w.heap.size + 1) (.int .i64 p) (.bool false) (.slice ka cn kc) (.slice va vn vc) (.slice ca cn cc))) := Lib.hid ⟨[.int .i64 p, .bool false, .slice ka cn kc, .slice va vn vc, .slice ca cn cc], rfl, hN7, hB7⟩
            have t0 := hX7.cell 0 0 rfl rfl
            have t1 := hX7.cell 0 1 rfl rfl
            have t2 := hX7.cell 0 2 rfl rfl
            have t3 := hX7.cell 0 3 rfl rfl
            have t4 := hX7.cell 0 4 rfl rfl
            unfold set5 at t0 t1 t2 t3 t4
            have z0 := hX2.cell 0 0 rfl rfl
            have z1 := hX2.cell 0 1 rfl rfl
            have z2 := hX2.cell 0 2 rfl rfl
            have z3 := hX2.cell 0 3 rfl rfl
            have z4 := hX2.cell 0 4 rfl rfl
            have u0 := hX2.frozen 0 0 rfl
            have u1 := hX2.frozen 0 1 rfl
            have u2 := hX2.frozen 0 2 rfl
            have u3 := hX2.frozen 0 3 rfl
            have u4 := hX2.frozen 0 4 rfl
            clear hX7 hB7 hN7
            go_wp2_with fail
            refine bodyPost_ret (v := .agg #[.int .i64 p, .bool false, .slice ka cn kc, .slice va vn vc, .slice ca cn cc]) (by simp [results, Try.results42, go_sem, t0, t1, t2, t3, t4]) rfl ?_
            exact fin.out
          · have HTE : Hid (topT (N + 1) t = mendT 0 [([], t)] 0) := Lib.hid (topT_mend hrest.out (by rw [HS.out]; exact hat))
            have hae : ((atF S : Int) == 0) = false := by simpa using hat
            generalize atF S = A at *
            clear hat
            have hSe : Calls Try.prog 44 #[.agg #[.int .i64 0, .bool false, .slice (some ⟨w2.heap.size, 0, none⟩) 1 1, .slice none 0 0, .slice (some ⟨w2.heap.size + 1, 0, none⟩) 1 1], .int .i64 0] ((w2.alloc (.cells #[.string ⟨#[]⟩] 9)).alloc (.cells #[.int .i64 p, .bool false, .slice ka cn kc, .slice va vn vc, .slice ca cn cc] 33)) (NodeTo (fun b => (F b ∧ b < w.heap.size) ∨ w.heap.size + 2 ≤ b) (N + 2) ((w2.alloc (.cells #[.string ⟨#[]⟩] 9)).alloc (.cells #[.int .i64 p, .bool false, .slice ka cn kc, .slice va vn vc, .slice ca cn cc] 33)) (mendT 0 [([], t)] 0)) := by
              have hW : Below w2.heap.size w2 ((w2.alloc (.cells #[.string ⟨#[]⟩] 9)).alloc (.cells #[.int .i64 p, .bool false, .slice ka cn kc, .slice va vn vc, .slice ca cn cc] 33)) := Below.al (Below.al (Below.refl _ _))
              obtain ⟨cN, hcN⟩ : ∃ c : Cl 5, c.1 = [.int .i64 p, .bool false, .slice ka cn kc, .slice va vn vc, .slice ca cn cc] := ⟨⟨[.int .i64 p, .bool false, .slice ka cn kc, .slice va vn vc, .slice ca cn cc], rfl, by intro u hu; simp at hu; rcases hu with rfl | rfl | rfl | rfl | rfl <;> rfl⟩, rfl⟩
              have hnode : NodeOn (fun b => (F b ∧ b < w.heap.size) ∨ w.heap.size + 2 ≤ b) (N + 2) ((w2.alloc (.cells #[.string ⟨#[]⟩] 9)).alloc (.cells #[.int .i64 p, .bool false, .slice ka cn kc, .slice va vn vc, .slice ca cn cc] 33)) [.int .i64 0, .bool false, .slice (some ⟨w2.heap.size, 0, none⟩) 1 1, .slice none 0 0, .slice (some ⟨w2.heap.size + 1, 0, none⟩) 1 1] (.node 0 [([], t)]) := by
                refine NodeOn.shut (V := []) (C := [cN]) rfl rfl (K := [kCell []]) rfl (raw_box (L := [kCell []]) (BoxAt.al BoxAt.here) (by simp)) (Raw.nil0 _ _) (raw_box (L := [cN]) (by simpa [flatC, hcN] using (BoxAt.here2 (w := w2) (o := .cells #[.string ⟨#[]⟩] 9) (cs := #[.int .i64 p, .bool false, .slice ka cn kc, .slice va vn vc, .slice ca cn cc]) (t := 33))) (by simp)) ?_ (Fa.zero _ _) ?_ ⟨tells_keys _, rfl, Tells.one ?_⟩
                · exact .inr fun b off e => by cases e; exact .inr (by omega)
                · exact .inr fun b off e => by cases e; exact .inr (by omega)
                · rw [hcN]
                  exact NodeOn.mono (fun b h => .inl h) (HN.out.below (hBW.trans (hW.mono hBW.size)))
              exact tmend_any hnode 0 (by simp) ⟨by simp, fun c hc => by simp at hc; subst hc; exact HO1.out, fun c hc d hd => by simp at hc hd; subst hc hd; rfl, fun c hc hl => by simp at hc; subst hc; exact HO2.out hl, fun j hj => by simp at hj⟩
            have hX2a : Boxes (w2.alloc (.cells #[.string ⟨#[]⟩] 9)) _ := Boxes.al hX2
            have s0 := hX2a.cell 1 0 rfl rfl
            have s1 := hX2a.cell 1 1 rfl rfl
            have s2 := hX2a.cell 1 2 rfl rfl
            have s3 := hX2a.cell 1 3 rfl rfl
            have s4 := hX2a.cell 1 4 rfl rfl
            go_wp2_with fail
            clear hX2a s0 s1 s2 s3 s4
            refine hSe.mono ?_
            rintro e w3 ⟨x, rfl, hn, hb3⟩
            obtain ⟨x1, x3, x4, x5, x6, x7, x8, x9, _, _, ex, _⟩ := NodeOn.open_pos hn
            subst ex
            rw [← HTE.out] at hn ⊢
            have hb3' : Below w2.heap.size w2 w3 := below_via (Below.al (Below.al (Below.refl _ _))) hb3
            have hX3 := hX2.step hb3'
            have hBW3 := hBW.trans (hb3'.mono hBW.size)
            have hne3 : ¬ Fr (fun b => (F b ∧ b < w.heap.size) ∨ w.heap.size + 2 ≤ b) ((w2.alloc (.cells #[.string ⟨#[]⟩] 9)).alloc (.cells #[.int .i64 p, .bool false, .slice ka cn kc, .slice va vn vc, .slice ca cn cc] 33)) (w.heap.size + 1) := fun h => by
              rcases h with h | h
              · omega
              · simp at h; omega
            have hF3 : ∀ b, Fr (fun b => (F b ∧ b < w.heap.size) ∨ w.heap.size + 2 ≤ b) ((w2.alloc (.cells #[.string ⟨#[]⟩] 9)).alloc (.cells #[.int .i64 p, .bool false, .slice ka cn kc, .slice va vn vc, .slice ca cn cc] 33)) b → Fr F w b := fun b h => by
              rcases h with h | h
              · rcases h with h | h; exact .inl h.1; exact .inr (by omega)
              · simp at h; exact .inr (by omega)
            have hne := hne3
            generalize (topT (N + 1) t).page = xp at *
            generalize (topT (N + 1) t).isLeaf = xl at *
            generalize cntT (topT (N + 1) t) = x2 at *
            clear hSe n0 n1 n2 n3 n4
            have hX7 := set5_box (hX3.sub (m := [(w.heap.size + 1, [.int .i64 0, .bool false, .slice none 0 0, .slice none 0 0, .slice none 0 0])]) (by simp)) (by simp) (.int .i64 xp) (.bool xl) (.slice x1 x2 x3) (.slice x4 x5 x6) (.slice x7 x8 x9)
            have hB7 := set5_below hBW3 (b := w.heap.size + 1) (by omega) (.int .i64 xp) (.bool xl) (.slice x1 x2 x3) (.slice x4 x5 x6) (.slice x7 x8 x9)
            have hN7 := NodeOn.mono hF3 (hn.agree (agree_set5 hne (.int .i64 xp) (.bool xl) (.slice x1 x2 x3) (.slice x4 x5 x6) (.slice x7 x8 x9)))
            have fin : Hid (NodeTo F (N + 2) w (topT (N + 1) t) (.returned (.agg #[.int .i64 xp, .bool xl, .slice x1 x2 x3, .slice x4 x5 x6, .slice x7 x8 x9])) (set5 _ (w.heap.size + 1) (.int .i64 xp) (.bool xl) (.slice x1 x2 x3) (.slice x4 x5 x6) (.slice x7 x8 x9))) := Lib.hid ⟨[.int .i64 xp, .bool xl, .slice x1 x2 x3, .slice x4 x5 x6, .slice x7 x8 x9], rfl, hN7, hB7⟩
            have t0 := hX7.cell 0 0 rfl rfl
            have t1 := hX7.cell 0 1 rfl rfl
            have t2 := hX7.cell 0 2 rfl rfl
            have t3 := hX7.cell 0 3 rfl rfl
            have t4 := hX7.cell 0 4 rfl rfl
            unfold set5 at t0 t1 t2 t3 t4
            have z0 := hX3.cell 0 0 rfl rfl
            have z1 := hX3.cell 0 1 rfl rfl
            have z2 := hX3.cell 0 2 rfl rfl
            have z3 := hX3.cell 0 3 rfl rfl
            have z4 := hX3.cell 0 4 rfl rfl
            have u0 := hX3.frozen 0 0 rfl
            have u1 := hX3.frozen 0 1 rfl
            have u2 := hX3.frozen 0 2 rfl
            have u3 := hX3.frozen 0 3 rfl
            have u4 := hX3.frozen 0 4 rfl
            clear hX7 hB7 hN7
            go_wp2_with fail
            refine bodyPost_ret (v := .agg #[.int .i64 xp, .bool xl, .slice x1 x2 x3, .slice x4 x5 x6, .slice x7 x8 x9]) (by simp [results, Try.results42, go_sem, t0, t1, t2, t3, t4]) rfl ?_
            exact fin.out
end Go.Proofs.Ytemfnjlfcemehaa

/- Worlds that have the same but of one block: words for walks that end in a store; what a put asks. -/
namespace Go.Proofs.Ytemfnjlfcemehaa
open Go.RowKit

theorem AgreeF.refl {F : Nat → Prop} (w : World) : AgreeF F w w := ⟨Nat.le_refl _, fun _ _ _ => rfl⟩
theorem AgreeF.below {F : Nat → Prop} {a w w' : World} (h : AgreeF F a w) (hb : Below w.heap.size w w') : AgreeF F a w' := h.trans (.of_below hb)
theorem AgreeF.al {F : Nat → Prop} {a w : World} {o : Obj} (h : AgreeF F a w) : AgreeF F a (w.alloc o) := h.below (Below.al (Below.refl _ _))
theorem AgreeF.dr {F : Nat → Prop} {a w : World} (h : AgreeF F a w) : AgreeF F a w.drew := h
theorem AgreeF.st {r : Nat} {a w : World} {i : Nat} {u : Value} (h : AgreeF (fun b => b ≠ r) a w) : AgreeF (fun b => b ≠ r) a (w.setCell ⟨r, i, none⟩ u) := h.set (.inl fun h => h rfl)
theorem AgreeF.boxes {r : Nat} {a w : World} {l : List (Nat × List Value)} (h : AgreeF (fun b => b ≠ r) a w) (hx : Boxes a l) (hl : ∀ p ∈ l, p.1 ≠ r) : Boxes w l := by
  intro p hp
  obtain ⟨t, ht⟩ := hx p hp
  exact ⟨t, (h.2 p.1 (hl p hp) (Array.getElem?_eq_some_iff.1 ht).1).trans ht⟩
/-- What a put asks of a tree. -/
def PutOk : Nat → Tr → List UInt8 → Tv → Prop
  | 0, _, _, _ => False
  | _ + 1, .leaf _ l, _, _ => l.length ≤ 900 ∧ (keysOf l).Pairwise (fun a b => a < b)
  | n + 1, .node _ l, key, v => 0 < l.length ∧ l.length ≤ 1000 ∧ PutOk n (kidAt l (wayF (keysOf l) key)) key v ∧ ∃ m, n = m + 1 ∧ MendOk m (l.set (wayF (keysOf l) key) (keyAt l (wayF (keysOf l) key), putT n (kidAt l (wayF (keysOf l) key)) key v))
theorem set_keys {l : List (List UInt8 × Tr)} {k : Nat} (hk : k < l.length) (t : Tr) : keysOf (l.set k (keyAt l k, t)) = keysOf l := by
  obtain ⟨a, c, b, rfl, rfl⟩ := list_at hk
  rw [keyAt_at, List.set_append_right _ _ (Nat.le_refl _), Nat.sub_self, List.set_cons_zero]
  simp [keysOf]
theorem setR {F : Nat → Prop} {n : Nat} {w : World} {p : Int} {l : List (List UInt8 × Tr)} {k : Nat} {K : List (Cl 1)} {V : List (Cl 2)} {C : List (Cl 5)} {B : Cl 5} {t : Tr} (h : NodeRF F n w K V C (.node p l)) (hk : k < l.length) (hB : NodeOn F n w B.1 t) :
    NodeRF F n w ((keysOf (l.set k (keyAt l k, t))).map kCell) [] (swapL C k 1 [B]) (.node 0 (l.set k (keyAt l k, t))) := by
  obtain ⟨a, c, b, rfl, rfl⟩ := list_at hk
  rw [keyAt_at, List.set_append_right _ _ (Nat.le_refl _), Nat.sub_self, List.set_cons_zero]
  refine ⟨tells_keys _, rfl, ?_⟩
  have := (h.2.2).swap (Tells.one hB) a.length 1
  have h2 : (a.map (·.2)).length = a.length := by simp
  simpa [swapL, mid_drop h2] using this
theorem wayF_lt {ks : List (List UInt8)} (key : List UInt8) (h : 0 < ks.length) : wayF ks key < ks.length := (wayF_spec (key := key) (List.length_pos_iff.1 h)).1
def oldN (b : Bool) : Nat := if b then 1 else 0
theorem putL_swap (key : List UInt8) (v : Tv) (l : List (List UInt8 × Tv)) : putL key v l = swapL l (posK key (keysOf l)) (oldN (hasK key (keysOf l))) [(key, v)] := by
  rw [putL_pos]; rfl
theorem pos_old {key : List UInt8} {ks : List (List UInt8)} : posK key ks + oldN (hasK key ks) ≤ ks.length := by
  have := posK_le key ks
  unfold oldN
  split
  · rename_i h
    unfold hasK at h
    by_cases hp : posK key ks < ks.length
    · omega
    · rw [List.getElem?_eq_none (by omega)] at h; simp at h
  · omega
def vCell (v : List UInt8) : Cl 2 := ⟨[.string (strOf v), .slice none 0 0], rfl, by intro u hu; simp at hu; rcases hu with rfl | rfl <;> rfl⟩
theorem vCell_is (F : Nat → Prop) (w : World) (d : List UInt8) : TvOn F w (vCell d).1 ⟨d, []⟩ := ⟨none, 0, 0, rfl, ⟨rfl, Nat.le_refl _, by unfold maxLen; omega, fun _ => rfl, .inl rfl⟩, Fa.zero _ _⟩
theorem putR {F : Nat → Prop} {n : Nat} {w : World} {p : Int} {l : List (List UInt8 × Tv)} {K : List (Cl 1)} {V : List (Cl 2)} {C : List (Cl 5)} (key d : List UInt8) (h : NodeRF F n w K V C (.leaf p l)) :
    NodeRF F n w ((keysOf (putL key ⟨d, []⟩ l)).map kCell) (swapL V (posK key (keysOf l)) (oldN (hasK key (keysOf l))) [vCell d]) [] (.leaf 0 (putL key ⟨d, []⟩ l)) ∧ keysOf (putL key ⟨d, []⟩ l) = swapL (keysOf l) (posK key (keysOf l)) (oldN (hasK key (keysOf l))) [key] := by
  rw [putL_swap]
  refine ⟨⟨tells_keys _, ?_, rfl⟩, ?_⟩
  · rw [swap_map]; exact (h.2.1).swap (Tells.one (vCell_is F w d)) _ _
  · unfold keysOf; rw [swap_map]; rfl
/-- A node that a call answers, its cells told. -/
def NodeGo (G : Nat → Prop) (n : Nat) (W : World) (T : Tr) (e : Ending) (w' : World) : Prop :=
  ∃ p l a k c a2 n2 c2 a3 n3 c3, e = .returned (.agg #[.int .i64 p, .bool l, .slice a k c, .slice a2 n2 c2, .slice a3 n3 c3]) ∧ NodeOn G n w' [.int .i64 p, .bool l, .slice a k c, .slice a2 n2 c2, .slice a3 n3 c3] T ∧ Below W.heap.size W w'
theorem NodeTo.go {F G : Nat → Prop} {n : Nat} {W : World} {T : Tr} {e : Ending} {w' : World} (h : NodeTo F n W T e w') (hG : ∀ b, Fr F W b → G b) : NodeGo G n W T e w' := by
  obtain ⟨x, rfl, hn, hb⟩ := h
  obtain ⟨g1, g2, g3, g4, g5, g6, g7, g8, _, _, ey, _⟩ := NodeOn.open_pos hn
  subst ey
  exact ⟨_, _, _, _, _, _, _, _, _, _, _, rfl, NodeOn.mono hG hn, hb⟩
/-- A walk's end: five cells stored into the result's box. -/
theorem node_end {F : Nat → Prop} {n : Nat} {w w3 : World} {T : Tr} {p : Int} {l : Bool} {a : Option Addr} {k c : Nat} {a2 : Option Addr} {n2 c2 : Nat} {a3 : Option Addr} {n3 c3 : Nat} {x0 x1 x2 x3 x4 : Value} (hB : Below w.heap.size w w3) (hX : Boxes w3 [(w.heap.size + 1, [x0, x1, x2, x3, x4])])
    (hn : NodeOn (fun b => (F b ∧ b < w.heap.size) ∨ w.heap.size + 2 ≤ b) n w3 [.int .i64 p, .bool l, .slice a k c, .slice a2 n2 c2, .slice a3 n3 c3] T) :
    Boxes (set5 w3 (w.heap.size + 1) (.int .i64 p) (.bool l) (.slice a k c) (.slice a2 n2 c2) (.slice a3 n3 c3)) [(w.heap.size + 1, [.int .i64 p, .bool l, .slice a k c, .slice a2 n2 c2, .slice a3 n3 c3])] ∧
    NodeTo F n w T (.returned (.agg #[.int .i64 p, .bool l, .slice a k c, .slice a2 n2 c2, .slice a3 n3 c3])) (set5 w3 (w.heap.size + 1) (.int .i64 p) (.bool l) (.slice a k c) (.slice a2 n2 c2) (.slice a3 n3 c3)) := by
  have hne : ¬ ((F (w.heap.size + 1) ∧ w.heap.size + 1 < w.heap.size) ∨ w.heap.size + 2 ≤ w.heap.size + 1) := by omega
  refine ⟨set5_box hX (by simp) _ _ _ _ _, [.int .i64 p, .bool l, .slice a k c, .slice a2 n2 c2, .slice a3 n3 c3], rfl, NodeOn.mono (fun b h => ?_) (hn.agree (agree_set5 hne _ _ _ _ _)), set5_below hB (by omega) _ _ _ _ _⟩
  rcases h with h | h
  · exact .inl h.1
  · exact .inr (by omega)
end Go.Proofs.Ytemfnjlfcemehaa

/- The walks of trees: a key's value put (printed by gen_treU.py). -/
namespace Go.Proofs.Ytemfnjlfcemehaa
open Go.RowKit

set_option maxRecDepth 100000 in
set_option maxHeartbeats 2000000 in
theorem tput_any : ∀ {N : Nat} {F : Nat → Prop} {w : World} {cs : List Value} {t : Tr} (key d : List UInt8), NodeOn F N w cs t → PutOk N t key ⟨d, []⟩ → Calls Try.prog 59 #[.agg cs.toArray, .string (strOf key), .string (strOf d)] w (NodeTo F N w (putT N t key ⟨d, []⟩))
  | 0, _, _, _, _, _, _, h, _ => h.elim
  | N + 1, F, w, cs, .node p l, key, d, h, ho => by
    have IH := fun {F : Nat → Prop} {w : World} {cs : List Value} {t : Tr} (h : NodeOn F N w cs t) (ho : PutOk N t key ⟨d, []⟩) => tput_any key d h ho
    obtain ⟨o1, o2, o3, M, rfl, o4⟩ := ho
    have hlt := h.lt
    obtain ⟨ka, kc, va, vn, vc, ca, cn, cc, V, C, rfl, h1, h2, h3, h4, f1, f2, f3⟩ := hlt.open
    obtain ⟨_, r1, r2⟩ := h4.toR.lens
    have hV : V = [] := h4.2.1
    have hcn : cn = l.length := by rw [← h3.1, r2]; rfl
    have hvn : vn = 0 := by rw [← h2.1, hV]; rfl
    subst hV hcn hvn
    obtain ⟨k, hkx⟩ : ∃ k, wayF (keysOf l) key = k := ⟨_, rfl⟩
    have hk : k < l.length := by rw [← hkx]; have := wayF_lt (ks := keysOf l) key (by simpa [keysOf] using o1); simpa [keysOf] using this
    rw [hkx] at o3 o4
    obtain ⟨bc, oc, y, yc, eca, hbc, hy, _, hyc, hcell⟩ := TabR.at h3 hk
    have hyc : yc = y.1 := hyc
    subst hyc eca
    have hkid := kid_tells h4.2.2 hy
    obtain ⟨q1, q2, q3, q4, q5, q6, q7, q8, _, _, ey, _⟩ := NodeOn.open_pos hkid
    rw [ey] at hcell hkid
    have hcA : cntT (Tr.node p l) = l.length := rfl
    have hpA : (Tr.node p l).page = p := rfl
    have hfA : (Tr.node p l).isLeaf = false := rfl
    have hkA : (Tr.node p l).keys = keysOf l := rfl
    rw [hcA, hpA, hfA] at hlt ⊢
    rw [hcA, hkA] at h1
    rw [hkA] at h4
    rw [hcA] at f1
    obtain ⟨m, hm⟩ : ∃ m, l.length = m := ⟨_, rfl⟩
    rw [hm] at hk h1 h3 hlt o1 o2 f1 f3 ⊢
    have hB0 : Below w.heap.size w ((w.alloc (.cells #[.int .i64 p, .bool false, .slice ka m kc, .slice va 0 vc, .slice (some ⟨bc, oc, none⟩) m cc] 33)).alloc (.cells #[.int .i64 0, .bool false, .slice none 0 0, .slice none 0 0, .slice none 0 0] 33)) := Below.al (Below.al (Below.refl _ _))
    have hX0 : Boxes _ [(w.heap.size + 1, [.int .i64 0, .bool false, .slice none 0 0, .slice none 0 0, .slice none 0 0]), (w.heap.size, [.int .i64 p, .bool false, .slice ka m kc, .slice va 0 vc, .slice (some ⟨bc, oc, none⟩) m cc])] := (((Boxes.nil w).alloc #[.int .i64 p, .bool false, .slice ka m kc, .slice va 0 vc, .slice (some ⟨bc, oc, none⟩) m cc] 33 rfl).alloc #[.int .i64 0, .bool false, .slice none 0 0, .slice none 0 0, .slice none 0 0] 33 (b := w.heap.size + 1) (by simp))
    obtain ⟨wA, hwA⟩ : ∃ wA, (w.alloc (.cells #[.int .i64 p, .bool false, .slice ka m kc, .slice va 0 vc, .slice (some ⟨bc, oc, none⟩) m cc] 33)).alloc (.cells #[.int .i64 0, .bool false, .slice none 0 0, .slice none 0 0, .slice none 0 0] 33) = wA := ⟨_, rfl⟩
    have hzA : w.heap.size + 2 ≤ wA.heap.size := by rw [← hwA]; simp
    rw [hwA] at hB0 hX0
    have CW := tway_any (hlt.below hB0).toIn key (by rw [hcA, hm]; omega)
    rw [hkA, hkx] at CW
    have n0 := hX0.cell 1 0 rfl rfl
    have n1 := hX0.cell 1 1 rfl rfl
    have n2 := hX0.cell 1 2 rfl rfl
    have n3 := hX0.cell 1 3 rfl rfl
    have n4 := hX0.cell 1 4 rfl rfl
    obtain ⟨T1, hT1⟩ : ∃ x, putT (M + 1) (kidAt l k) key ⟨d, []⟩ = x := ⟨_, rfl⟩
    rw [hT1] at o4
    have HPT : Hid (putT (M + 1 + 1) (.node p l) key ⟨d, []⟩ = mendT 0 (l.set k (keyAt l k, T1)) k) := Lib.hid (by
      show mendT 0 (l.set (wayF (keysOf l) key) (keyAt l (wayF (keysOf l) key), putT (M + 1) (kidAt l (wayF (keysOf l) key)) key ⟨d, []⟩)) (wayF (keysOf l) key) = _
      rw [hkx, hT1])
    have HX := Lib.hid hX0
    have HB := Lib.hid hB0
    have H1 := Lib.hid h1
    have H3 := Lib.hid h3
    have H4 := Lib.hid h4
    have HN := Lib.hid hlt
    have HO3 := Lib.hid o3
    have HO4 := Lib.hid o4
    have HM := Lib.hid hm
    have HT1 := Lib.hid hT1
    have HKID := Lib.hid hkid
    have HCELL := Lib.hid hcell
    have hl2 := h1.lens
    have hl3 := h3.lens
    obtain ⟨_, e2, e3⟩ := hl2
    obtain ⟨_, e5, e6⟩ := hl3
    clear h h1 h2 h3 h4 hlt o3 o4 hX0 hB0 r1 r2 hcA hpA hfA hkA hm hkx hT1 hkid hy ey hcell
    go_enter Try.func59, Try.ntmps59
    go_wp2_with fail
    refine CW.mono ?_
    rintro e wB ⟨rfl, hbB⟩
    have HX := Lib.hid (HX.out.step hbB)
    have HBW := Lib.hid (HB.out.trans (hbB.mono HB.out.size))
    have hzB : w.heap.size + 2 ≤ wB.heap.size := Nat.le_trans hzA hbB.size
    clear CW n0 n1 n2 n3 n4 hbB hwA
    have HC1 : ∀ W, Below wB.heap.size wB W → Calls Try.prog 59 #[.agg #[.int .i64 (kidAt l k).page, .bool (kidAt l k).isLeaf, .slice q1 (cntT (kidAt l k)) q2, .slice q3 q4 q5, .slice q6 q7 q8], .string (strOf key), .string (strOf d)] W (NodeGo (fun b => (F b ∧ b < w.heap.size) ∨ w.heap.size + 2 ≤ b) (M + 1) W T1) := fun W hW => by
      have := IH (HKID.out.below (below_via HBW.out hW)) HO3.out
      rw [HT1.out] at this
      exact this.mono fun e w' h => h.go fun b h => by rcases h with h | h; exact .inl h; exact .inr (by have := hW.size; omega)
    obtain ⟨kp, hkp⟩ : ∃ x, (kidAt l k).page = x := ⟨_, rfl⟩
    obtain ⟨kl, hkl⟩ : ∃ x, (kidAt l k).isLeaf = x := ⟨_, rfl⟩
    obtain ⟨kcn, hkc⟩ : ∃ x, cntT (kidAt l k) = x := ⟨_, rfl⟩
    rw [hkp, hkl, hkc] at HC1 HCELL
    clear hkp hkl hkc
    obtain ⟨TM, hTM⟩ : ∃ x, mendT 0 (l.set k (keyAt l k, T1)) k = x := ⟨_, rfl⟩
    have HC2 : ∀ (W : World) (x : Nat) (p1 : Int) (l1 : Bool) (a1 : Option Addr) (m1 c1 : Nat) (b1 : Option Addr) (m2 c2 : Nat) (b2 : Option Addr) (m3 c3 : Nat), Below wB.heap.size wB W → NodeOn (fun b => (F b ∧ b < w.heap.size) ∨ w.heap.size + 2 ≤ b) (M + 1) W [.int .i64 p1, .bool l1, .slice a1 m1 c1, .slice b1 m2 c2, .slice b2 m3 c3] T1 → BoxAt W x #[.int .i64 p1, .bool l1, .slice a1 m1 c1, .slice b1 m2 c2, .slice b2 m3 c3] →
        Calls Try.prog 71 #[.slice (some ⟨bc, oc, none⟩) m cc, .int .i64 (k : Int), .int .i64 1, .slice (some ⟨x, 0, none⟩) 1 1] W (fun e w' => ∃ b c, e = .returned (.slice b m c) ∧ Below W.heap.size W w' ∧ Below wB.heap.size wB w' ∧
          Calls Try.prog 44 #[.agg #[.int .i64 0, .bool false, .slice ka m kc, .slice none 0 0, .slice b m c], .int .i64 (k : Int)] w' (NodeGo (fun b => (F b ∧ b < w.heap.size) ∨ w.heap.size + 2 ≤ b) (M + 2) w' TM)) := fun W x p1 l1 a1 m1 c1 b1 m2 c2 b2 m3 c3 hW hn hX => by
      obtain ⟨cB, hcB⟩ : ∃ c : Cl 5, c.1 = [.int .i64 p1, .bool l1, .slice a1 m1 c1, .slice b1 m2 c2, .slice b2 m3 c3] := ⟨⟨[.int .i64 p1, .bool l1, .slice a1 m1 c1, .slice b1 m2 c2, .slice b2 m3 c3], rfl, by intro u hu; simp at hu; rcases hu with rfl | rfl | rfl | rfl | rfl <;> rfl⟩, rfl⟩
      have h3l := H3.out.1
      have := swap_n (H3.out.below (below_via HBW.out hW)) (raw_box (L := [cB]) (by simpa [flatC, hcB] using hX) (by simp)) k 1 (by omega) (by simp; omega)
      have h2 : Calls Try.prog 71 #[.slice (some ⟨bc, oc, none⟩) m cc, .int .i64 (k : Int), .int .i64 1, .slice (some ⟨x, 0, none⟩) 1 1] W (OwnRaw 33 5 W (swapL C k 1 [cB])) := by simpa using this
      refine h2.mono fun e w' h => ?_
      obtain ⟨a2, c2, rfl, _, _, ho, hb⟩ := h.sl
      have hlen : (swapL C k 1 [cB]).length = m := by
        have := len_swapL (l := C) (s := [cB]) (i := k) (j := 1) (by omega)
        simp at this
        omega
      rw [hlen] at ho ⊢
      have hW' := below_via hW hb
      refine ⟨a2, c2, rfl, hb, hW', ?_⟩
      have hk' : k < l.length := by rw [HM.out]; exact hk
      have hnode : NodeOn (fun b => (F b ∧ b < w.heap.size) ∨ w.heap.size + 2 ≤ b) (M + 2) w' [.int .i64 0, .bool false, .slice ka m kc, .slice none 0 0, .slice a2 m c2] (.node 0 (l.set k (keyAt l k, T1))) := by
        have hs := setR (p := p) (B := cB) (t := T1) (NodeRF.mono (G := fun b => (F b ∧ b < w.heap.size) ∨ w.heap.size + 2 ≤ b) (H4.out.below (below_via HBW.out hW')) (fun b h => .inl h)) hk' (by rw [hcB]; exact hn.below hb)
        refine NodeOn.shut rfl rfl ?_ (H1.out.below (below_via HBW.out hW')) (Raw.nil0 _ _) (Raw.of_sl ho hlen) (f1.mono fun b h => .inl h) (Fa.zero _ _) (Fa.of_own ho fun b h => .inr (by have := hW.size; omega)) hs
        rw [show (Tr.node 0 (l.set k (keyAt l k, T1))).keys = keysOf (l.set k (keyAt l k, T1)) from rfl, set_keys hk']
      have := tmend_any hnode k (by simpa using hk') HO4.out
      rw [hTM] at this
      exact this.mono fun e w'' h => h.go fun b h => by rcases h with h | h; exact h; exact .inr (by have := hW'.size; omega)
    have HTM := Lib.hid hTM
    have HF1 := Lib.hid f1
    have hA0 : AgreeF (fun b => b ≠ w.heap.size + 1) wB wB.drew := AgreeF.dr (AgreeF.refl _)
    have fk2 : ∀ W, AgreeF (fun b => b ≠ w.heap.size + 1) wB W → W.cell? ⟨w.heap.size, 2, none⟩ = some (.slice ka m kc) := fun W hW => (hW.cell (by simp) (HX.out.lt 1 rfl)).trans (HX.out.cell 1 2 rfl rfl)
    have fk4 : ∀ W, AgreeF (fun b => b ≠ w.heap.size + 1) wB W → W.cell? ⟨w.heap.size, 4, none⟩ = some (.slice (some ⟨bc, oc, none⟩) m cc) := fun W hW => (hW.cell (by simp) (HX.out.lt 1 rfl)).trans (HX.out.cell 1 4 rfl rfl)
    have hbc' : bc ≠ w.heap.size + 1 := by have : bc < w.heap.size := hbc; omega
    have hbc2 : bc < wB.heap.size := Nat.lt_of_lt_of_le hbc HBW.out.size
    have kc0 : ∀ W, AgreeF (fun b => b ≠ w.heap.size + 1) wB W → W.cell? ⟨bc, oc + k * 5, none⟩ = some (.int .i64 kp) := fun W hW => (hW.cell hbc' hbc2).trans ((HBW.out.cell (p := ⟨bc, oc + k * 5, none⟩) hbc).trans (HCELL.out 0 _ rfl))
    have kc1 : ∀ W, AgreeF (fun b => b ≠ w.heap.size + 1) wB W → W.cell? ⟨bc, oc + k * 5 + 1, none⟩ = some (.bool kl) := fun W hW => (hW.cell hbc' hbc2).trans ((HBW.out.cell (p := ⟨bc, oc + k * 5 + 1, none⟩) hbc).trans (HCELL.out 1 _ rfl))
    have kc2 : ∀ W, AgreeF (fun b => b ≠ w.heap.size + 1) wB W → W.cell? ⟨bc, oc + k * 5 + 2, none⟩ = some (.slice q1 kcn q2) := fun W hW => (hW.cell hbc' hbc2).trans ((HBW.out.cell (p := ⟨bc, oc + k * 5 + 2, none⟩) hbc).trans (HCELL.out 2 _ rfl))
    have kc3 : ∀ W, AgreeF (fun b => b ≠ w.heap.size + 1) wB W → W.cell? ⟨bc, oc + k * 5 + 3, none⟩ = some (.slice q3 q4 q5) := fun W hW => (hW.cell hbc' hbc2).trans ((HBW.out.cell (p := ⟨bc, oc + k * 5 + 3, none⟩) hbc).trans (HCELL.out 3 _ rfl))
    have kc4 : ∀ W, AgreeF (fun b => b ≠ w.heap.size + 1) wB W → W.cell? ⟨bc, oc + k * 5 + 4, none⟩ = some (.slice q6 q7 q8) := fun W hW => (hW.cell hbc' hbc2).trans ((HBW.out.cell (p := ⟨bc, oc + k * 5 + 4, none⟩) hbc).trans (HCELL.out 4 _ rfl))
    clear hTM f1 f2 f3 hbc
    go_wp2_with fail
    go_upto_region 3 with (fail)
    go_region_held3 (fun W => AgreeF (fun b => b ≠ w.heap.size + 1) wB W) (first | with_reducible assumption | (repeat (with_reducible first | assumption | exact AgreeF.refl _ | apply AgreeF.al | apply AgreeF.dr | apply AgreeF.st))) (first | (go_at_call 59; (with_reducible refine (HC1 _ ?_).mono ?_); (focus (repeat (with_reducible first | assumption | exact Below.refl _ _ | apply Below.al | apply Below.dr))); rintro e w1 ⟨p1, l1, a1, m1, c1, b1, m2, c2, b2, m3, c3, rfl, hn1, hb1⟩; have hB1 : Below wB.heap.size wB w1 := below_via (by (repeat (with_reducible first | assumption | exact Below.refl _ _ | apply Below.al | apply Below.dr))) hb1; have hA1 : AgreeF (fun b => b ≠ w.heap.size + 1) wB w1 := .of_below hB1) | (go_at_call 71; (with_reducible refine (HC2 _ _ p1 l1 a1 m1 c1 b1 m2 c2 b2 m3 c3 ?_ ?_ ?_).mono ?_); (focus (repeat (with_reducible first | assumption | exact Below.refl _ _ | apply Below.al | apply Below.dr))); (focus (exact NodeOn.below hn1 (Below.al (Below.refl _ _)))); (focus (repeat (with_reducible first | assumption | exact BoxAt.here3 | exact BoxAt.here2 | exact BoxAt.here | apply BoxAt.dr | apply BoxAt.al))); rintro e w2 ⟨b, c, rfl, hb2, hB2, hcm⟩; have hA2 : AgreeF (fun b => b ≠ w.heap.size + 1) wB w2 := .of_below hB2) | (go_at_call 44; (with_reducible refine hcm.mono ?_); rintro e w3 ⟨p3, l3, d1, k1, e1, d2, k2, e2, d3, k3, e3, rfl, hn3, hb3⟩; have hB3 : Below wB.heap.size wB w3 := below_via hB2 hb3; have hA3 : AgreeF (fun b => b ≠ w.heap.size + 1) wB w3 := .of_below hB3; have hX3 := HX.out.step hB3; have z0 : w3.cell? ⟨w.heap.size + 1, 0, none⟩ = _ := hX3.cell 0 0 rfl rfl; have u0 : w3.frozen? ⟨w.heap.size + 1, 0, none⟩ = false := hX3.frozen 0 0 rfl; have z1 : w3.cell? ⟨w.heap.size + 1, 1, none⟩ = _ := hX3.cell 0 1 rfl rfl; have u1 : w3.frozen? ⟨w.heap.size + 1, 1, none⟩ = false := hX3.frozen 0 1 rfl; have z2 : w3.cell? ⟨w.heap.size + 1, 2, none⟩ = _ := hX3.cell 0 2 rfl rfl; have u2 : w3.frozen? ⟨w.heap.size + 1, 2, none⟩ = false := hX3.frozen 0 2 rfl; have z3 : w3.cell? ⟨w.heap.size + 1, 3, none⟩ = _ := hX3.cell 0 3 rfl rfl; have u3 : w3.frozen? ⟨w.heap.size + 1, 3, none⟩ = false := hX3.frozen 0 3 rfl; have z4 : w3.cell? ⟨w.heap.size + 1, 4, none⟩ = _ := hX3.cell 0 4 rfl rfl; have u4 : w3.frozen? ⟨w.heap.size + 1, 4, none⟩ = false := hX3.frozen 0 4 rfl))
    have hend := node_end (F := F) (HBW.out.trans (hB3.mono HBW.out.size)) (hX3.sub (m := [(w.heap.size + 1, [.int .i64 0, .bool false, .slice none 0 0, .slice none 0 0, .slice none 0 0])]) (by simp)) hn3
    have t0 := hend.1.cell 0 0 rfl rfl
    have t1 := hend.1.cell 0 1 rfl rfl
    have t2 := hend.1.cell 0 2 rfl rfl
    have t3 := hend.1.cell 0 3 rfl rfl
    have t4 := hend.1.cell 0 4 rfl rfl
    have fin := Lib.hid hend.2
    unfold set5 at t0 t1 t2 t3 t4
    clear hcm fk2 fk4 kc0 kc1 kc2 kc3 kc4 HC1 HC2
    clear hend z0 z1 z2 z3 z4 u0 u1 u2 u3 u4
    go_wp2_with fail
    refine bodyPost_ret (v := .agg #[.int .i64 p3, .bool l3, .slice d1 k1 e1, .slice d2 k2 e2, .slice d3 k3 e3]) (by simp [results, Try.results59, go_sem, t0, t1, t2, t3, t4]) rfl ?_
    rw [HPT.out, HTM.out]
    exact fin.out
  | N + 1, F, w, cs, .leaf p l, key, d, h, ho => by
    obtain ⟨o1, o2⟩ := ho
    have hlt := h.lt
    obtain ⟨ka, kc, va, vn, vc, ca, cn, cc, V, C, rfl, h1, h2, h3, h4, f1, f2, f3⟩ := hlt.open
    obtain ⟨_, r1, r2⟩ := h4.toR.lens
    have hC : C = [] := h4.2.2
    have hvn : vn = l.length := by rw [← h2.1, r1]; rfl
    have hcn : cn = 0 := by rw [← h3.1, hC]; rfl
    subst hC hcn hvn
    have hcA : cntT (Tr.leaf p l) = l.length := rfl
    have hpA : (Tr.leaf p l).page = p := rfl
    have hfA : (Tr.leaf p l).isLeaf = true := rfl
    have hkA : (Tr.leaf p l).keys = keysOf l := rfl
    rw [hcA, hpA, hfA] at hlt ⊢
    rw [hcA, hkA] at h1
    rw [hkA] at h4
    rw [hcA] at f1
    have hkl : (keysOf l).length = l.length := by simp [keysOf]
    obtain ⟨m, hm⟩ : ∃ m, l.length = m := ⟨_, rfl⟩
    rw [hm] at h1 h2 hlt o1 f1 f2 hkl ⊢
    have hB0 : Below w.heap.size w ((w.alloc (.cells #[.int .i64 p, .bool true, .slice ka m kc, .slice va m vc, .slice ca 0 cc] 33)).alloc (.cells #[.int .i64 0, .bool false, .slice none 0 0, .slice none 0 0, .slice none 0 0] 33)) := Below.al (Below.al (Below.refl _ _))
    have hX0 : Boxes _ [(w.heap.size + 1, [.int .i64 0, .bool false, .slice none 0 0, .slice none 0 0, .slice none 0 0]), (w.heap.size, [.int .i64 p, .bool true, .slice ka m kc, .slice va m vc, .slice ca 0 cc])] := (((Boxes.nil w).alloc #[.int .i64 p, .bool true, .slice ka m kc, .slice va m vc, .slice ca 0 cc] 33 rfl).alloc #[.int .i64 0, .bool false, .slice none 0 0, .slice none 0 0, .slice none 0 0] 33 (b := w.heap.size + 1) (by simp))
    obtain ⟨wB, hwB⟩ : ∃ wA, (w.alloc (.cells #[.int .i64 p, .bool true, .slice ka m kc, .slice va m vc, .slice ca 0 cc] 33)).alloc (.cells #[.int .i64 0, .bool false, .slice none 0 0, .slice none 0 0, .slice none 0 0] 33) = wA := ⟨_, rfl⟩
    have hzB : w.heap.size + 2 ≤ wB.heap.size := by rw [← hwB]; simp
    rw [hwB] at hB0 hX0
    have CB := bsearch_any (h1.below hB0) (by omega) o2 key
    have hpo := pos_old (key := key) (ks := keysOf l)
    rw [hkl] at hpo
    obtain ⟨hr1, hr2⟩ := putR (p := p) key d h4
    obtain ⟨pos, hpos⟩ : ∃ x, posK key (keysOf l) = x := ⟨_, rfl⟩
    obtain ⟨has, hhas⟩ : ∃ x, hasK key (keysOf l) = x := ⟨_, rfl⟩
    rw [hpos, hhas] at CB hpo hr1 hr2
    obtain ⟨old, hold⟩ : ∃ x, oldN has = x := ⟨_, rfl⟩
    rw [hold] at hpo hr1 hr2
    obtain ⟨LK, hLK⟩ : ∃ L, swapL ((keysOf l).map kCell) pos old [kCell key] = L := ⟨_, rfl⟩
    obtain ⟨LV, hLV⟩ : ∃ L, swapL V pos old [vCell d] = L := ⟨_, rfl⟩
    rw [hLV] at hr1
    have hk1 := h1.lens
    have hv1 := h2.lens
    have HC1 : ∀ (W : World) (x : Nat), Below wB.heap.size wB W → BoxAt W x #[.string (strOf key)] → Calls Try.prog 70 #[.slice ka m kc, .int .i64 (pos : Int), .int .i64 (old : Int), .slice (some ⟨x, 0, none⟩) 1 1] W (RowOut 9 1 wB W LK) := fun W x hW hX => by
      have := swap_s (h1.below (below_via hB0 hW)) (raw_box (L := [kCell key]) hX (by simp)) pos old hpo (by simp; omega)
      rw [hLK] at this
      exact this.mono fun e w' h => OwnRaw.row hW h
    have HC2 : ∀ (W : World) (x : Nat), Below wB.heap.size wB W → BoxAt W x #[.string (strOf d), .slice none 0 0] → Calls Try.prog 87 #[.slice va m vc, .int .i64 (pos : Int), .int .i64 (old : Int), .slice (some ⟨x, 0, none⟩) 1 1] W (RowOut 100 2 wB W LV) := fun W x hW hX => by
      have := swap_v (h2.below (below_via hB0 hW)) (raw_box (L := [vCell d]) hX (by simp)) pos old hpo (by simp; omega)
      rw [hLV] at this
      exact this.mono fun e w' h => OwnRaw.row hW h
    have hnode : Hid (∀ (W : World) (a1 a2 : Option Addr) (c1 c2 : Nat), Below wB.heap.size wB W → W.ownsRow wB.heap.size 9 1 (.slice a1 LK.length c1) LK.length (flatC LK) → W.ownsRow wB.heap.size 100 2 (.slice a2 LV.length c2) LV.length (flatC LV) →
        NodeOn (fun b => (F b ∧ b < w.heap.size) ∨ w.heap.size + 2 ≤ b) (N + 1) W [.int .i64 0, .bool true, .slice a1 LK.length c1, .slice a2 LV.length c2, .slice none 0 0] (.leaf 0 (putL key ⟨d, []⟩ l))) := Lib.hid (fun W a1 a2 c1 c2 hW g1 g2 => by
      refine NodeOn.shut rfl rfl ?_ (Raw.of_sl g1 rfl) (Raw.of_sl g2 rfl) (Raw.nil0 _ _) (Fa.of_own g1 fun b h => .inr (by omega)) (Fa.of_own g2 fun b h => .inr (by omega)) (Fa.zero _ _) (NodeRF.mono (NodeRF.below hr1 (below_via hB0 hW)) (fun b h => .inl h))
      rw [show (Tr.leaf 0 (putL key ⟨d, []⟩ l)).keys = keysOf (putL key ⟨d, []⟩ l) from rfl, hr2, swap_map, ← hLK]; rfl)
    have HX := Lib.hid hX0
    have HB := Lib.hid hB0
    have HPT : Hid (putT (N + 1) (.leaf p l) key ⟨d, []⟩ = .leaf 0 (putL key ⟨d, []⟩ l)) := Lib.hid rfl
    have hn1 := hX0.cell 1 1 rfl rfl
    have hn2 := hX0.cell 1 2 rfl rfl
    have HAS := Lib.hid (show old = oldN has from hold.symm)
    clear h h1 h2 h3 h4 hlt hX0 hB0 r1 r2 hcA hpA hfA hkA hm hpos hhas hold hLK hLV hr1 hr2 hkl hk1 hv1 f1 f2 f3 o1 o2
    go_enter Try.func59, Try.ntmps59
    go_wp2_with fail
    refine CB.mono ?_
    rintro e wB ⟨rfl, rfl⟩
    clear CB hn1 hn2 hwB
    have hA0 : AgreeF (fun b => b ≠ w.heap.size + 1) wB wB.drew := AgreeF.dr (AgreeF.refl _)
    have fk2 : ∀ W, AgreeF (fun b => b ≠ w.heap.size + 1) wB W → W.cell? ⟨w.heap.size, 2, none⟩ = some (.slice ka m kc) := fun W hW => (hW.cell (by simp) (HX.out.lt 1 rfl)).trans (HX.out.cell 1 2 rfl rfl)
    have fk3 : ∀ W, AgreeF (fun b => b ≠ w.heap.size + 1) wB W → W.cell? ⟨w.heap.size, 3, none⟩ = some (.slice va m vc) := fun W hW => (hW.cell (by simp) (HX.out.lt 1 rfl)).trans (HX.out.cell 1 3 rfl rfl)
    cases has with
    | false =>
      have ho0 : (old : Int) = 0 := by rw [HAS.out]; rfl
      rw [ho0] at HC1 HC2
      clear ho0
      go_wp2_with fail
      go_upto_region 8 with (fail)
      go_region_held3 (fun W => AgreeF (fun b => b ≠ w.heap.size + 1) wB W) (first | with_reducible assumption | (repeat (with_reducible first | assumption | exact AgreeF.refl _ | apply AgreeF.al | apply AgreeF.dr | apply AgreeF.st))) (first | (go_at_call 70; (with_reducible refine (HC1 _ _ ?_ ?_).mono ?_); (focus (repeat (with_reducible first | assumption | exact Below.refl _ _ | apply Below.al | apply Below.dr))); (focus (repeat (with_reducible first | assumption | exact BoxAt.here3 | exact BoxAt.here2 | exact BoxAt.here | apply BoxAt.dr | apply BoxAt.al))); rintro e w1 hq1; obtain ⟨a1, c1, rfl, i11, i12, ho1, hb1, hB1⟩ := hq1; have hA1 : AgreeF (fun b => b ≠ w.heap.size + 1) wB w1 := .of_below hB1; have U1 := fun b cs h => BoxAt.below (b := b) (cs := cs) h hb1) | (go_at_call 87; (with_reducible refine (HC2 _ _ ?_ ?_).mono ?_); (focus (repeat (with_reducible first | assumption | exact Below.refl _ _ | apply Below.al | apply Below.dr))); (focus (repeat (with_reducible first | assumption | exact BoxAt.here3 | exact BoxAt.here2 | exact BoxAt.here | apply BoxAt.dr | apply BoxAt.al | apply U1))); rintro e w2 hq2; obtain ⟨a2, c2, rfl, i21, i22, ho2, hb2, hB2⟩ := hq2; have hA2 : AgreeF (fun b => b ≠ w.heap.size + 1) wB w2 := .of_below hB2; have U2 := fun b cs h => BoxAt.below (b := b) (cs := cs) h hb2; have hk12 := below_via (a := w1) (by (repeat (with_reducible first | exact Below.refl _ _ | apply Below.al | apply Below.dr))) hb2; have hX3 := HX.out.step hB2; have z0 : w2.cell? ⟨w.heap.size + 1, 0, none⟩ = _ := hX3.cell 0 0 rfl rfl; have u0 : w2.frozen? ⟨w.heap.size + 1, 0, none⟩ = false := hX3.frozen 0 0 rfl; have z1 : w2.cell? ⟨w.heap.size + 1, 1, none⟩ = _ := hX3.cell 0 1 rfl rfl; have u1 : w2.frozen? ⟨w.heap.size + 1, 1, none⟩ = false := hX3.frozen 0 1 rfl; have z2 : w2.cell? ⟨w.heap.size + 1, 2, none⟩ = _ := hX3.cell 0 2 rfl rfl; have u2 : w2.frozen? ⟨w.heap.size + 1, 2, none⟩ = false := hX3.frozen 0 2 rfl; have z3 : w2.cell? ⟨w.heap.size + 1, 3, none⟩ = _ := hX3.cell 0 3 rfl rfl; have u3 : w2.frozen? ⟨w.heap.size + 1, 3, none⟩ = false := hX3.frozen 0 3 rfl; have z4 : w2.cell? ⟨w.heap.size + 1, 4, none⟩ = _ := hX3.cell 0 4 rfl rfl; have u4 : w2.frozen? ⟨w.heap.size + 1, 4, none⟩ = false := hX3.frozen 0 4 rfl))
      all_goals
        have hn3 := hnode.out w2 _ _ _ _ hB2 (own_held ho1 hk12) ho2
        have hend := node_end (F := F) (HB.out.trans (hB2.mono HB.out.size)) (hX3.sub (m := [(w.heap.size + 1, [.int .i64 0, .bool false, .slice none 0 0, .slice none 0 0, .slice none 0 0])]) (by simp)) hn3
        have t0 := hend.1.cell 0 0 rfl rfl
        have t1 := hend.1.cell 0 1 rfl rfl
        have t2 := hend.1.cell 0 2 rfl rfl
        have t3 := hend.1.cell 0 3 rfl rfl
        have t4 := hend.1.cell 0 4 rfl rfl
        have fin := Lib.hid hend.2
        unfold set5 at t0 t1 t2 t3 t4
        clear hend z0 z1 z2 z3 z4 u0 u1 u2 u3 u4 fk2 fk3 HC1 HC2 hn3
        go_wp2_with fail
        refine bodyPost_ret (v := .agg #[.int .i64 0, .bool true, .slice a1 LK.length c1, .slice a2 LV.length c2, .slice none 0 0]) (by simp [results, Try.results59, go_sem, t0, t1, t2, t3, t4]) rfl ?_
        rw [HPT.out]
        exact fin.out
    | true =>
      have ho0 : (old : Int) = 1 := by rw [HAS.out]; rfl
      rw [ho0] at HC1 HC2
      clear ho0
      go_wp2_with fail
      go_upto_region 8 with (fail)
      go_region_held3 (fun W => AgreeF (fun b => b ≠ w.heap.size + 1) wB W) (first | with_reducible assumption | (repeat (with_reducible first | assumption | exact AgreeF.refl _ | apply AgreeF.al | apply AgreeF.dr | apply AgreeF.st))) (first | (go_at_call 70; (with_reducible refine (HC1 _ _ ?_ ?_).mono ?_); (focus (repeat (with_reducible first | assumption | exact Below.refl _ _ | apply Below.al | apply Below.dr))); (focus (repeat (with_reducible first | assumption | exact BoxAt.here3 | exact BoxAt.here2 | exact BoxAt.here | apply BoxAt.dr | apply BoxAt.al))); rintro e w1 hq1; obtain ⟨a1, c1, rfl, i11, i12, ho1, hb1, hB1⟩ := hq1; have hA1 : AgreeF (fun b => b ≠ w.heap.size + 1) wB w1 := .of_below hB1; have U1 := fun b cs h => BoxAt.below (b := b) (cs := cs) h hb1) | (go_at_call 87; (with_reducible refine (HC2 _ _ ?_ ?_).mono ?_); (focus (repeat (with_reducible first | assumption | exact Below.refl _ _ | apply Below.al | apply Below.dr))); (focus (repeat (with_reducible first | assumption | exact BoxAt.here3 | exact BoxAt.here2 | exact BoxAt.here | apply BoxAt.dr | apply BoxAt.al | apply U1))); rintro e w2 hq2; obtain ⟨a2, c2, rfl, i21, i22, ho2, hb2, hB2⟩ := hq2; have hA2 : AgreeF (fun b => b ≠ w.heap.size + 1) wB w2 := .of_below hB2; have U2 := fun b cs h => BoxAt.below (b := b) (cs := cs) h hb2; have hk12 := below_via (a := w1) (by (repeat (with_reducible first | exact Below.refl _ _ | apply Below.al | apply Below.dr))) hb2; have hX3 := HX.out.step hB2; have z0 : w2.cell? ⟨w.heap.size + 1, 0, none⟩ = _ := hX3.cell 0 0 rfl rfl; have u0 : w2.frozen? ⟨w.heap.size + 1, 0, none⟩ = false := hX3.frozen 0 0 rfl; have z1 : w2.cell? ⟨w.heap.size + 1, 1, none⟩ = _ := hX3.cell 0 1 rfl rfl; have u1 : w2.frozen? ⟨w.heap.size + 1, 1, none⟩ = false := hX3.frozen 0 1 rfl; have z2 : w2.cell? ⟨w.heap.size + 1, 2, none⟩ = _ := hX3.cell 0 2 rfl rfl; have u2 : w2.frozen? ⟨w.heap.size + 1, 2, none⟩ = false := hX3.frozen 0 2 rfl; have z3 : w2.cell? ⟨w.heap.size + 1, 3, none⟩ = _ := hX3.cell 0 3 rfl rfl; have u3 : w2.frozen? ⟨w.heap.size + 1, 3, none⟩ = false := hX3.frozen 0 3 rfl; have z4 : w2.cell? ⟨w.heap.size + 1, 4, none⟩ = _ := hX3.cell 0 4 rfl rfl; have u4 : w2.frozen? ⟨w.heap.size + 1, 4, none⟩ = false := hX3.frozen 0 4 rfl))
      all_goals
        have hn3 := hnode.out w2 _ _ _ _ hB2 (own_held ho1 hk12) ho2
        have hend := node_end (F := F) (HB.out.trans (hB2.mono HB.out.size)) (hX3.sub (m := [(w.heap.size + 1, [.int .i64 0, .bool false, .slice none 0 0, .slice none 0 0, .slice none 0 0])]) (by simp)) hn3
        have t0 := hend.1.cell 0 0 rfl rfl
        have t1 := hend.1.cell 0 1 rfl rfl
        have t2 := hend.1.cell 0 2 rfl rfl
        have t3 := hend.1.cell 0 3 rfl rfl
        have t4 := hend.1.cell 0 4 rfl rfl
        have fin := Lib.hid hend.2
        unfold set5 at t0 t1 t2 t3 t4
        clear hend z0 z1 z2 z3 z4 u0 u1 u2 u3 u4 fk2 fk3 HC1 HC2 hn3
        go_wp2_with fail
        refine bodyPost_ret (v := .agg #[.int .i64 0, .bool true, .slice a1 LK.length c1, .slice a2 LV.length c2, .slice none 0 0]) (by simp [results, Try.results59, go_sem, t0, t1, t2, t3, t4]) rfl ?_
        rw [HPT.out]
        exact fin.out
end Go.Proofs.Ytemfnjlfcemehaa

/- Trees that may be, without a key; the top once more; entries of the top: plain laws. -/
namespace Go.Proofs.Ytemfnjlfcemehaa

/-! entries, whatever the fuel -/
theorem kids_each {P : List UInt8 → List UInt8 → Tr → Prop} : ∀ {l : List (List UInt8 × Tr)} {lo hi : List UInt8}, KidsP P lo hi l → ∀ c ∈ l, ∃ lo' hi', P lo' hi' c.2
  | [c], lo, hi, h, d, hd => by
    rcases List.mem_cons.1 hd with rfl | hd
    · exact ⟨_, _, h⟩
    · cases hd
  | c :: e :: r, lo, hi, h, d, hd => by
    rcases List.mem_cons.1 hd with rfl | hd
    · exact ⟨_, _, h.1⟩
    · exact kids_each h.2.2.2.2 d hd
theorem flatMap_same {α β : Type} {f g : α → List β} : ∀ {l : List α}, (∀ x ∈ l, f x = g x) → l.flatMap f = l.flatMap g
  | [], _ => rfl
  | x :: r, h => by
    rw [List.flatMap_cons, List.flatMap_cons, h x (by simp), flatMap_same (fun y hy => h y (by simp [hy]))]
theorem ents_more : ∀ {n m : Nat} {lo hi : List UInt8} {t : Tr}, Shape n lo hi t → n ≤ m → entsT m t = entsT n t
  | 0, _, _, _, _, h, _ => h.elim
  | _ + 1, 0, _, _, _, _, h => by omega
  | _ + 1, _ + 1, _, _, .leaf p l, _, _ => rfl
  | n + 1, m + 1, lo, hi, .node p l, h, hm => by
    rw [ents_node, ents_node]
    refine flatMap_same (fun c hc => ?_)
    obtain ⟨lo', hi', hg⟩ := kids_each (shape_kids h).1 c hc
    exact ents_more hg.1 (by omega)
theorem ents_top : ∀ {N n : Nat} {t : Tr}, Shape n [] [] t → n ≤ N → entsT (N + 1) (topT N t) = entsT n t
  | 0, n, _, h, hn => by
    obtain rfl : n = 0 := by omega
    exact h.elim
  | N + 1, 0, _, h, hn => h.elim
  | N + 1, n + 1, .leaf p l, h, hn => by
    unfold topT
    split
    · rfl
    · rw [show ([([], Tr.leaf p l)] : List (List UInt8 × Tr)) = [] ++ ([], Tr.leaf p l) :: [] from rfl]
      have := ents_mend (n := N) (p := 0) (a := []) (b := []) (k := []) (t := .leaf p l) (by intro c hc; simp at hc; rw [hc])
      rw [List.length_nil] at this
      rw [this]
      simp [entsK, entsT]
  | N + 1, n + 1, .node p l, h, hn => by
    unfold topT
    split
    · rename_i h1
      obtain ⟨c, rfl⟩ := List.length_eq_one_iff.1 h1
      have hg : Good n [] [] c.2 := (shape_kids h).1
      have e : entsT (n + 1) (.node p [c]) = entsT n c.2 := by rw [ents_node]; simp [entsK]
      have e2 : kidAt [c] 0 = c.2 := rfl
      rw [e, e2]
      have h3 := ents_top hg.1 (show n ≤ N by omega)
      obtain ⟨m, hm1, hm2⟩ := top_ok hg.1 (by have := hg.2.2; omega) (show n ≤ N by omega)
      rw [← h3]
      rw [ents_more hm2.1 (show m ≤ N + 1 + 1 by omega), ents_more hm2.1 (show m ≤ N + 1 by omega)]
    · split
      · exact ents_more h (by omega)
      · rw [show ([([], Tr.node p l)] : List (List UInt8 × Tr)) = [] ++ ([], Tr.node p l) :: [] from rfl]
        have := ents_mend (n := N) (p := 0) (a := []) (b := []) (k := []) (t := .node p l) (by intro c hc; simp at hc; rw [hc])
        rw [List.length_nil] at this
        rw [this]
        rw [show entsK (N + 1) ([] ++ ([], Tr.node p l) :: []) = entsT (N + 1) (.node p l) by simp [entsK]]
        exact ents_more h (by omega)
/-- A top of no cells is the empty tree. -/
theorem top_some : ∀ {N n : Nat} {t : Tr}, Shape n [] [] t → sumT t ≤ 200 → (∀ p l, t = .leaf p l → p = 0 ∨ l ≠ []) → n ≤ N → emptyB (topT N t) = true ∨ 0 < cntT (topT N t)
  | 0, n, _, h, _, _, hn => by
    obtain rfl : n = 0 := by omega
    exact h.elim
  | N + 1, 0, _, h, _, _, hn => h.elim
  | N + 1, n + 1, .leaf p l, h, hs, h0, hn => by
    unfold topT
    split
    · cases l with
      | nil =>
        rcases h0 p [] rfl with rfl | h0
        · exact .inl rfl
        · exact absurd rfl h0
      | cons c r => exact .inr (by simp [cntT])
    · rename_i hat
      rw [part_two hat]
      exact .inr (by simp [cntT])
  | N + 1, n + 1, .node p l, h, hs, h0, hn => by
    unfold topT
    split
    · rename_i h1
      obtain ⟨c, rfl⟩ := List.length_eq_one_iff.1 h1
      have hg : Good n [] [] c.2 := (shape_kids h).1
      have e2 : kidAt [c] 0 = c.2 := rfl
      rw [e2]
      refine top_some hg.1 (by have := hg.2.2; omega) (fun p l e => .inr (fun el => ?_)) (show n ≤ N by omega)
      have := hg.2.1
      rw [e, el, sum_leaf] at this
      simp [sumI_nil] at this
    · split
      · have := List.length_pos_iff.2 (kids_ne (shape_kids h).1)
        exact .inr (by simpa [cntT] using this)
      · rename_i hat
        rw [part_two hat]
        exact .inr (by simp [cntT])

/-! whole trees -/
/-- A whole tree that may be, and is told so. -/
def Whole (n : Nat) (t : Tr) : Prop := Root n t ∧ (emptyB t = true ∨ 0 < cntT t)
theorem whole_empty : Whole 1 (.leaf 0 []) := ⟨root_empty, .inl rfl⟩
def putW (n : Nat) (t : Tr) (key : List UInt8) (v : Tv) : Tr := topT n (putT n t key v)
theorem whole_put {n : Nat} {t : Tr} {key : List UInt8} {v : Tv} (h : Whole n t) (hk : keyOk key) (hv : valOk v) : ∃ m, m ≤ n + 1 ∧ Whole m (putW n t key v) ∧ entsT m (putW n t key v) = putL key v (entsT n t) := by
  obtain ⟨h1, h2, h3⟩ := put_ok h.1.1 h.1.2.1 h.1.2.2 hk (knil key) (ltH_nil _) hv
  obtain ⟨m, e1, e2⟩ := top_ok (N := n) h1 (by omega) (Nat.le_refl _)
  refine ⟨m, e1, ⟨e2, top_some h1 (by omega) (fun p l e => .inr (fun el => ?_)) (Nat.le_refl _)⟩, ?_⟩
  · have := h3 p l e
    rw [el] at this
    simp at this
  · have g1 := ents_top (N := n) h1 (Nat.le_refl _)
    have g2 := ents_put h.1.1 hk (knil key) (ltH_nil _) hv h.1.2.1 h.1.2.2
    show entsT m (topT n (putT n t key v)) = _
    rw [← g2, ← g1, ents_more e2.1 e1]

/-! a key struck out -/
def delL (key : List UInt8) (l : List (List UInt8 × Tv)) : List (List UInt8 × Tv) := l.filter fun c => c.1 != key
def delT : Nat → Tr → List UInt8 → Tr
  | 0, t, _ => t
  | _ + 1, .leaf _ l, key => .leaf 0 (delL key l)
  | n + 1, .node _ l, key => mendT 0 (l.set (wayF (keysOf l) key) (keyAt l (wayF (keysOf l) key), delT n (kidAt l (wayF (keysOf l) key)) key)) (wayF (keysOf l) key)
theorem delL_sum (key : List UInt8) (p : Int) : ∀ l : List (List UInt8 × Tv), sumT (.leaf 0 (delL key l)) ≤ sumT (.leaf p l)
  | [] => Int.le_refl _
  | c :: r => by
    have ih := delL_sum key p r
    unfold delL at ih ⊢
    rw [sum_leaf_cons p p]
    rw [List.filter_cons]
    split
    · rw [sum_leaf_cons 0 0]; omega
    · omega
theorem delL_ok {lo hi key : List UInt8} {l : List (List UInt8 × Tv)} (h : LeafOk lo hi l) : LeafOk lo hi (delL key l) := by
  refine ⟨?_, fun c hc => h.2 c ((List.mem_filter.1 hc).1)⟩
  have h1 := h.1
  unfold keysOf at h1 ⊢
  exact List.Pairwise.sublist (List.Sublist.map _ List.filter_sublist) h1
theorem delL_none {key : List UInt8} {l : List (List UInt8 × Tv)} (h : ∀ c ∈ l, c.1 ≠ key) : delL key l = l := by
  unfold delL
  rw [List.filter_eq_self]
  intro c hc
  simpa using h c hc
theorem delL_append (key : List UInt8) (l m : List (List UInt8 × Tv)) : delL key (l ++ m) = delL key l ++ delL key m := by simp [delL]
/-- Without a key: what comes of it may be, but for what its own cells come to. -/
theorem del_ok : ∀ {n : Nat} {lo hi key : List UInt8} {t : Tr}, Shape n lo hi t → sumT t ≤ 122 → (∀ p l, t = .node p l → 2 ≤ l.length) → ¬ key < lo → ltH hi key →
    Shape n lo hi (delT n t key) ∧ sumT (delT n t key) ≤ 160 ∧ (∀ p l, delT n t key = .leaf p l → p = 0) ∧ entsT n (delT n t key) = delL key (entsT n t)
  | 0, _, _, _, _, h, _, _, _, _ => h.elim
  | n + 1, lo, hi, key, .leaf p l, h, hs, _, hlo, hhi => by
    obtain ⟨rfl, hl⟩ := h
    have h1 := delL_sum key p l
    exact ⟨⟨rfl, delL_ok hl⟩, by unfold delT; omega, fun q m e => by cases e; rfl, rfl⟩
  | n + 1, lo, hi, key, .node p l, h, hs, h2, hlo, hhi => by
    obtain ⟨h1, h0⟩ := shape_kids h
    have hl2 := h2 p l rfl
    obtain ⟨a, c, b, lo', hi', e, hal, hc, hp, g1, g2⟩ := way_focus h1 hlo hhi
    obtain ⟨i1, i2, i3, i4⟩ := del_ok hp.1 hp.2.2 (fun q m e => good_len (p := q) (by rw [← e]; exact hp)) g1 g2
    have hset : l.set (wayF (keysOf l) key) (keyAt l (wayF (keysOf l) key), delT n (kidAt l (wayF (keysOf l) key)) key) = a ++ (c.1, delT n c.2 key) :: b := by
      rw [← hal]
      conv => lhs; rw [e]
      rw [keyAt_at, kidAt_at, List.set_append_right _ _ (Nat.le_refl _), Nat.sub_self, List.set_cons_zero]
    have hdel : delT (n + 1) (.node p l) key = mendT 0 (a ++ (c.1, delT n c.2 key) :: b) a.length := by
      show mendT 0 _ _ = _
      rw [hset, hal]
    have hab : a ≠ [] ∨ b ≠ [] := by
      rw [e] at hl2
      cases a with
      | nil => cases b with
        | nil => simp at hl2
        | cons => exact .inr (by simp)
      | cons => exact .inl (by simp)
    have hk0 : keyAt (a ++ (c.1, delT n c.2 key) :: b) 0 = [] := by
      rw [e] at h0
      cases a <;> simpa [keyAt] using h0
    obtain ⟨q, m, e1, e2, e3, e4, e5⟩ := mend_ok (p := 0) hc i1 i2 hk0 (.inr hab)
    have hkind := kids_kind h1
    have hents : entsT (n + 1) (mendT 0 (a ++ (c.1, delT n c.2 key) :: b) a.length) = delL key (entsT (n + 1) (.node p l)) := by
      cases n with
      | zero => exact hp.1.elim
      | succ n =>
        rw [ents_mend (by
          intro d hd
          have ht : (delT (n + 1) c.2 key).isLeaf = decide (n + 1 = 1) := shape_kind i1
          rw [ht]
          rcases List.mem_append.1 hd with hd | hd
          · exact hkind d (by rw [e]; simp [hd])
          · rcases List.mem_cons.1 hd with rfl | hd
            · exact ht
            · exact hkind d (by rw [e]; simp [hd]))]
        rw [ents_node, e, entsK_append, entsK_cons, entsK_append, entsK_cons, i4]
        obtain ⟨q1, q2, q3⟩ := hc
        have hA : ∀ d ∈ entsK (n + 1) a, d.1 ≠ key := by
          rcases q1 with ⟨rfl, _⟩ | ⟨ha, e1, e2, e3, rfl⟩
          · intro d hd; simp [entsK] at hd
          · intro d hd he
            have := (kids_ents (fun h => shape_ents h) e1).2 d hd
            have := klt_le (this.2.2.1.resolve_left e2.1) g1
            rw [he] at this
            exact klt_irrefl _ this
        have hB : ∀ d ∈ entsK (n + 1) b, d.1 ≠ key := by
          rcases q2 with ⟨rfl, _⟩ | ⟨d, r, rfl, rfl, e1, e2, e3⟩
          · intro d hd; simp [entsK] at hd
          · intro d' hd he
            have := (kids_ents (fun h => shape_ents h) e3).2 d' hd
            have := klt_le (g2.resolve_left e1.1) this.2.1
            rw [he] at this
            exact klt_irrefl _ this
        rw [delL_append, delL_append, delL_none hA, delL_none hB]
    rw [hdel]
    refine ⟨?_, ?_, ?_, hents⟩
    · rw [e1]; exact shape_node e2 e3
    · rw [e1]
      have hsm : sumT (.node 0 (a ++ (c.1, delT n c.2 key) :: b)) = sumT (.node p l) := by
        rw [e, sum_node_append 0 0 0, sum_node_cons 0 0, sum_node_append p 0 0, sum_node_cons 0 0 c]
      have hq : sumT (.node q m) = sumT (.node 0 m) := rfl
      omega
    · rw [e1]; intro p' l' e; cases e
def delW (n : Nat) (t : Tr) (key : List UInt8) : Tr := if findT n t key = none then t else topT n (delT n t key)
theorem whole_del {n : Nat} {t : Tr} {key : List UInt8} (h : Whole n t) : ∃ m, m ≤ n + 1 ∧ Whole m (delW n t key) ∧ entsT m (delW n t key) = delL key (entsT n t) := by
  unfold delW
  split
  · rename_i hf
    rw [find_ok h.1.1 (knil key) (ltH_nil _)] at hf
    refine ⟨n, by omega, h, (delL_none (fun c hc he => ?_)).symm⟩
    unfold lookT at hf
    rw [Option.map_eq_none_iff, List.find?_eq_none] at hf
    exact hf c hc (by simpa using he)
  · obtain ⟨h1, h2, h3, h4⟩ := del_ok h.1.1 h.1.2.1 h.1.2.2 (knil key) (ltH_nil _)
    obtain ⟨m, e1, e2⟩ := top_ok (N := n) h1 (by omega) (Nat.le_refl _)
    refine ⟨m, e1, ⟨e2, top_some h1 (by omega) (fun p l e => .inl (h3 p l e)) (Nat.le_refl _)⟩, ?_⟩
    have g1 := ents_top (N := n) h1 (Nat.le_refl _)
    rw [← h4, ← g1, ents_more e2.1 e1]
theorem whole_find {n : Nat} {t : Tr} (h : Whole n t) (key : List UInt8) : findT n t key = lookT (entsT n t) key := find_ok h.1.1 (knil key) (ltH_nil _)
theorem whole_check {n : Nat} {t : Tr} (h : Whole n t) : checkT n t = true := check_ok h.1 (Nat.le_refl _) h.2
theorem whole_ents {n : Nat} {t : Tr} (h : Whole n t) : LeafOk [] [] (entsT n t) := shape_ents h.1.1
end Go.Proofs.Ytemfnjlfcemehaa

/- The walks of trees: Put, Empty. -/
namespace Go.Proofs.Ytemfnjlfcemehaa
open Go.RowKit

set_option maxRecDepth 100000 in
set_option maxHeartbeats 1000000 in
theorem tPut_any {N : Nat} {F : Nat → Prop} {w : World} {cs : List Value} {t : Tr} (key d : List UInt8) (h : NodeOn F N w cs t) (ho : PutOk N t key ⟨d, []⟩) (ht : TopOk N (putT N t key ⟨d, []⟩)) :
    Calls Try.prog 33 #[.agg cs.toArray, .string (strOf key), .string (strOf d)] w (NodeTo F (N + 1) w (putW N t key ⟨d, []⟩)) := by
  have hlt := h.lt
  obtain ⟨ka, kc, va, vn, vc, ca, cn, cc, V, C, rfl, _⟩ := NodeOn.open_pos h
  obtain ⟨lf, hlf⟩ : ∃ x, t.isLeaf = x := ⟨_, rfl⟩
  obtain ⟨p, hp⟩ : ∃ x, t.page = x := ⟨_, rfl⟩
  obtain ⟨m, hm⟩ : ∃ x, cntT t = x := ⟨_, rfl⟩
  rw [hlf, hp, hm] at hlt ⊢
  have hB0 : Below w.heap.size w ((w.alloc (.cells #[.int .i64 p, .bool lf, .slice ka m kc, .slice va vn vc, .slice ca cn cc] 33)).alloc (.cells #[.int .i64 0, .bool false, .slice none 0 0, .slice none 0 0, .slice none 0 0] 33)) := Below.al (Below.al (Below.refl _ _))
  have hX0 : Boxes _ [(w.heap.size + 1, [.int .i64 0, .bool false, .slice none 0 0, .slice none 0 0, .slice none 0 0]), (w.heap.size, [.int .i64 p, .bool lf, .slice ka m kc, .slice va vn vc, .slice ca cn cc])] := (((Boxes.nil w).alloc #[.int .i64 p, .bool lf, .slice ka m kc, .slice va vn vc, .slice ca cn cc] 33 rfl).alloc #[.int .i64 0, .bool false, .slice none 0 0, .slice none 0 0, .slice none 0 0] 33 (b := w.heap.size + 1) (by simp))
  obtain ⟨wA, hwA⟩ : ∃ wA, (w.alloc (.cells #[.int .i64 p, .bool lf, .slice ka m kc, .slice va vn vc, .slice ca cn cc] 33)).alloc (.cells #[.int .i64 0, .bool false, .slice none 0 0, .slice none 0 0, .slice none 0 0] 33) = wA := ⟨_, rfl⟩
  have hzA : w.heap.size + 2 ≤ wA.heap.size := by rw [← hwA]; simp
  rw [hwA] at hB0 hX0
  have C1 : Calls Try.prog 59 #[.agg #[.int .i64 p, .bool lf, .slice ka m kc, .slice va vn vc, .slice ca cn cc], .string (strOf key), .string (strOf d)] wA (NodeGo (fun b => (F b ∧ b < w.heap.size) ∨ w.heap.size + 2 ≤ b) N wA (putT N t key ⟨d, []⟩)) :=
    (tput_any key d (hlt.below hB0) ho).mono fun e w' h => h.go fun b h => by rcases h with h | h; exact .inl h; exact .inr (by omega)
  obtain ⟨T, hT⟩ : ∃ x, putT N t key ⟨d, []⟩ = x := ⟨_, rfl⟩
  have HT : Hid (putW N t key ⟨d, []⟩ = topT N T) := Lib.hid (by rw [← hT]; rfl)
  rw [hT] at C1 ht
  have HX := Lib.hid hX0
  have HB := Lib.hid hB0
  have HTO := Lib.hid ht
  have n0 := hX0.cell 1 0 rfl rfl
  have n1 := hX0.cell 1 1 rfl rfl
  have n2 := hX0.cell 1 2 rfl rfl
  have n3 := hX0.cell 1 3 rfl rfl
  have n4 := hX0.cell 1 4 rfl rfl
  clear h hlt ho ht hX0 hB0 hlf hp hm hT
  go_enter Try.func33, Try.ntmps33
  go_wp2_with fail
  refine C1.mono ?_
  rintro e w1 ⟨p1, l1, a1, m1, c1, b1, m2, c2, b2, m3, c3, rfl, hn1, hb1⟩
  have hX1 := HX.out.step hb1
  have hB1 := HB.out.trans (hb1.mono HB.out.size)
  have hz1 : w.heap.size + 2 ≤ w1.heap.size := Nat.le_trans hzA hb1.size
  have C2 : Calls Try.prog 42 #[.agg #[.int .i64 p1, .bool l1, .slice a1 m1 c1, .slice b1 m2 c2, .slice b2 m3 c3]] w1 (NodeGo (fun b => (F b ∧ b < w.heap.size) ∨ w.heap.size + 2 ≤ b) (N + 1) w1 (topT N T)) :=
    (ttop_any hn1 HTO.out).mono fun e w' h => h.go fun b h => by rcases h with h | h; exact h; exact .inr (by omega)
  have HX1 := Lib.hid hX1
  have HB1 := Lib.hid hB1
  clear C1 hn1 hb1 hX1 hB1 n0 n1 n2 n3 n4 hwA
  go_wp2_with fail
  refine C2.mono ?_
  rintro e w2 ⟨p3, l3, d1, k1, e1, d2, k2, e2, d3, k3, e3, rfl, hn3, hb3⟩
  have hX3 := HX1.out.step hb3
  have hend := node_end (F := F) (HB1.out.trans (hb3.mono HB1.out.size)) (hX3.sub (m := [(w.heap.size + 1, [.int .i64 0, .bool false, .slice none 0 0, .slice none 0 0, .slice none 0 0])]) (by simp)) hn3
  have t0 := hend.1.cell 0 0 rfl rfl
  have t1 := hend.1.cell 0 1 rfl rfl
  have t2 := hend.1.cell 0 2 rfl rfl
  have t3 := hend.1.cell 0 3 rfl rfl
  have t4 := hend.1.cell 0 4 rfl rfl
  have fin := Lib.hid hend.2
  unfold set5 at t0 t1 t2 t3 t4
  have z0 := hX3.cell 0 0 rfl rfl
  have z1 := hX3.cell 0 1 rfl rfl
  have z2 := hX3.cell 0 2 rfl rfl
  have z3 := hX3.cell 0 3 rfl rfl
  have z4 := hX3.cell 0 4 rfl rfl
  have u0 := hX3.frozen 0 0 rfl
  have u1 := hX3.frozen 0 1 rfl
  have u2 := hX3.frozen 0 2 rfl
  have u3 := hX3.frozen 0 3 rfl
  have u4 := hX3.frozen 0 4 rfl
  clear hend C2 hn3 hb3 hX3
  go_wp2_with fail
  refine bodyPost_ret (v := .agg #[.int .i64 p3, .bool l3, .slice d1 k1 e1, .slice d2 k2 e2, .slice d3 k3 e3]) (by simp [results, Try.results33, go_sem, t0, t1, t2, t3, t4]) rfl ?_
  rw [HT.out]
  exact fin.out
theorem tempty_any (w : World) (F : Nat → Prop) : Calls Try.prog 31 #[] w (NodeTo F 1 w (.leaf 0 [])) := by
  go_enter Try.func31, Try.ntmps31
  go_wp2_with fail
  refine bodyPost_ret (v := .agg #[.int .i64 0, .bool true, .slice none 0 0, .slice none 0 0, .slice none 0 0]) (by simp [results, Try.results31, go_sem]) rfl ⟨[.int .i64 0, .bool true, .slice none 0 0, .slice none 0 0, .slice none 0 0], rfl, ?_, ?_⟩
  · exact NodeOn.shut (V := []) (C := []) rfl rfl (K := []) rfl (Raw.nil0 _ _) (Raw.nil0 _ _) (Raw.nil0 _ _) (Fa.zero _ _) (Fa.zero _ _) (Fa.zero _ _) ⟨Tells.nil, Tells.nil, rfl⟩
  · exact Below.al (Below.refl _ _)
end Go.Proofs.Ytemfnjlfcemehaa

/- The walks of trees: a key found. -/
namespace Go.Proofs.Ytemfnjlfcemehaa
open Go.RowKit

/-- What finding asks of a tree. -/
def FindOk : Nat → Tr → List UInt8 → Prop
  | 0, _, _ => False
  | _ + 1, .leaf _ l, _ => l.length ≤ 1000 ∧ (keysOf l).Pairwise (fun a b => a < b)
  | n + 1, .node _ l, key => 0 < l.length ∧ l.length ≤ 1000 ∧ FindOk n (kidAt l (wayF (keysOf l) key)) key
theorem pos_oldF {key : List UInt8} {ks : List (List UInt8)} (h : hasK key ks = true) : posK key ks < ks.length := by
  unfold hasK at h
  by_cases hp : posK key ks < ks.length
  · exact hp
  · rw [List.getElem?_eq_none (by omega)] at h; simp at h
def FoundPost (w : World) (r : Option (List UInt8)) (e : Ending) (w' : World) : Prop := e = .returned (.tuple #[.string (strOf (r.getD [])), .bool r.isSome]) ∧ Below w.heap.size w w'
def FindMid (w : World) (key : List UInt8) (R : Option (List UInt8)) (g : Nat) (wr : World) : Prop :=
  ∃ p lf ka m kc va vn vc ca cn cc t, NodeIn g w [.int .i64 p, .bool lf, .slice ka m kc, .slice va vn vc, .slice ca cn cc] t ∧ FindOk g t key ∧ findT g t key = R ∧ Boxes wr [(w.heap.size, [.int .i64 p, .bool lf, .slice ka m kc, .slice va vn vc, .slice ca cn cc])] ∧ Below w.heap.size w wr
set_option maxRecDepth 100000 in
set_option maxHeartbeats 2000000 in
theorem tfind_any {N : Nat} {w : World} {cs : List Value} {t : Tr} (h : NodeIn N w cs t) (key : List UInt8) (ho : FindOk N t key) :
    Calls Try.prog 28 #[.agg cs.toArray, .string (strOf key)] w (FoundPost w (findT N t key)) := by
  obtain ⟨R, hR⟩ : ∃ R, findT N t key = R := ⟨_, rfl⟩
  rw [hR]
  cases N with
  | zero => exact h.elim
  | succ N =>
  obtain ⟨ka, kc, va, vn, vc, ca, cn, cc, V, C, rfl, _⟩ := h.openK
  have hmid : FindMid w key R (N + 1) (w.alloc (.cells #[.int .i64 t.page, .bool t.isLeaf, .slice ka (cntT t) kc, .slice va vn vc, .slice ca cn cc] 33)) :=
    ⟨_, _, _, _, _, _, _, _, _, _, _, t, h, ho, hR, (Boxes.nil w).alloc #[.int .i64 t.page, .bool t.isLeaf, .slice ka (cntT t) kc, .slice va vn vc, .slice ca cn cc] 33 rfl, Below.al (Below.refl _ _)⟩
  have HMID := Lib.hid hmid
  clear hmid h ho hR
  go_enter Try.func28, Try.ntmps28
  go_wp2_with fail
  go_loopg [8] (N + 1) (fun g _ wr => FindMid w key R g wr)
  case atStart => exact HMID.out
  case round =>
    clear HMID
    obtain ⟨p, lf, ka, m, kc, va, vn, vc, ca, cn, cc, t, hn, ho, hR, hx, hb⟩ := hrel
    cases gk with
    | zero => exact hn.elim
    | succ g =>
    have hxl := hx.lt 0 rfl
    cases t with
    | node p0 l =>
      obtain ⟨o1, o2, o3⟩ := ho
      obtain ⟨k, hk⟩ : ∃ k, wayF (keysOf l) key = k := ⟨_, rfl⟩
      have hkl : k < l.length := by
        rw [← hk]
        have := (wayF_spec (ks := keysOf l) (key := key) (by intro e; have : (keysOf l).length = l.length := by simp [keysOf]
                                                             rw [e] at this; simp at this; omega)).1
        simpa [keysOf] using this
      have hRk : findT g (kidAt l k) key = R := by rw [← hR, ← hk]; rfl
      rw [hk] at o3
      have CW := fun W (hW : Below w.heap.size w W) => tway_any (hn.below hW) key o2
      have hkk : (Tr.node p0 l).keys = keysOf l := rfl
      rw [hkk, hk] at CW
      clear hkk
      obtain ⟨ka', kc', va', vn', vc', ca', cn', cc', V, C, e, h1, h2, h3, h4⟩ := hn.openK
      cases e
      dsimp only [Tr.page, Tr.isLeaf, cntT, Tr.keys] at hn hx CW h1 h2 h3
      have hcn : cn = l.length := by rw [← h3.1, h4.lens.2.2]; rfl
      subst hcn
      obtain ⟨bc, oc, y, yc, eca, hbc, hy, _, hyc, hcell⟩ := TabR.at h3 hkl
      have hyc : yc = y.1 := hyc
      subst hyc eca
      have hkid : NodeIn g w y.1 (kidAt l k) := h4.2.2.2 k y _ hy (by simp [kidAt, hkl])
      cases g with
      | zero => exact hkid.elim
      | succ g =>
      obtain ⟨q1, q2, q3, q4, q5, q6, q7, q8, _, _, ey, _⟩ := hkid.openK
      rw [ey] at hcell hkid
      have e0 := (hb.cell (p := ⟨bc, oc + k * 5, none⟩) hbc).trans (hcell 0 _ rfl)
      have e1 := (hb.cell (p := ⟨bc, oc + k * 5 + 1, none⟩) hbc).trans (hcell 1 _ rfl)
      have e2 := (hb.cell (p := ⟨bc, oc + k * 5 + 2, none⟩) hbc).trans (hcell 2 _ rfl)
      have e3 := (hb.cell (p := ⟨bc, oc + k * 5 + 3, none⟩) hbc).trans (hcell 3 _ rfl)
      have e4 := (hb.cell (p := ⟨bc, oc + k * 5 + 4, none⟩) hbc).trans (hcell 4 _ rfl)
      have n0 := hx.cell 0 0 rfl rfl
      have n1 := hx.cell 0 1 rfl rfl
      have n2 := hx.cell 0 2 rfl rfl
      have n3 := hx.cell 0 3 rfl rfl
      have n4 := hx.cell 0 4 rfl rfl
      have d0 : decide ((0 : Int) < (l.length : Int)) = true := by simp; omega
      have d0' : decide (0 < l.length) = true := by simp; omega
      have hbc9 : bc < wr.heap.size := Nat.lt_of_lt_of_le hbc hb.size
      have CW : ∀ W, Below w.heap.size w W → Calls Try.prog 46 #[.agg #[.int .i64 p0, .bool false, .slice ka l.length kc, .slice va vn vc, .slice (some ⟨bc, oc, none⟩) l.length cc], .string (strOf key)] W fun e w' => e = .returned (.int .i64 (k : Int)) ∧ Below W.heap.size W w' := CW
      have HB := Lib.hid hb
      have HX := Lib.hid hx
      have HKID := Lib.hid hkid
      have HRK := Lib.hid hRk
      have HO3 := Lib.hid o3
      have hcc := h3.lens.2.1
      have hcc2 := h3.lens.2.2
      clear h1 h2 h3 h4 hcell hy ey hR hRk o3 hn hkid hk
      go_wp2_with fail
      go_region_with ((go_at_call 46; (with_reducible refine (CW _ ?_).mono ?_); (focus (first | exact hb | exact Below.dr hb)); rintro e w1 ⟨rfl, hb1⟩; have hx1 := (Boxes.dr hx).step hb1; have m0 := hx1.cell 0 0 rfl rfl; have u0 := hx1.frozen 0 0 rfl; have m1 := hx1.cell 0 1 rfl rfl; have u1 := hx1.frozen 0 1 rfl; have m2 := hx1.cell 0 2 rfl rfl; have u2 := hx1.frozen 0 2 rfl; have m3 := hx1.cell 0 3 rfl rfl; have u3 := hx1.frozen 0 3 rfl; have m4 := hx1.cell 0 4 rfl rfl; have u4 := hx1.frozen 0 4 rfl; have f0 := (hb1.cell (p := ⟨bc, oc + k * 5, none⟩) hbc9).trans e0; have f1 := (hb1.cell (p := ⟨bc, oc + k * 5 + 1, none⟩) hbc9).trans e1; have f2 := (hb1.cell (p := ⟨bc, oc + k * 5 + 2, none⟩) hbc9).trans e2; have f3 := (hb1.cell (p := ⟨bc, oc + k * 5 + 3, none⟩) hbc9).trans e3; have f4 := (hb1.cell (p := ⟨bc, oc + k * 5 + 4, none⟩) hbc9).trans e4; have hbw1 := (Below.dr HB.out).trans (hb1.mono HB.out.size)))
      all_goals
        go_wp2_with fail
        go_roundg (g + 1)
        case measure => omega
        case rel =>
          have hm : FindMid w key R (g + 1) (set5 w1 w.heap.size (.int .i64 (kidAt l k).page) (.bool (kidAt l k).isLeaf) (.slice q1 (cntT (kidAt l k)) q2) (.slice q3 q4 q5) (.slice q6 q7 q8)) :=
            ⟨_, _, _, _, _, _, _, _, _, _, _, kidAt l k, HKID.out, HO3.out, HRK.out, set5_box hx1 (by simp) _ _ _ _ _, set5_below hbw1 (Nat.le_refl _) _ _ _ _ _⟩
          exact hm
    | leaf p0 l =>
      obtain ⟨o1, o2⟩ := ho
      obtain ⟨ka', kc', va', vn', vc', ca', cn', cc', V, C, e, h1, h2, h3, h4⟩ := hn.openK
      cases e
      dsimp only [Tr.page, Tr.isLeaf, cntT, Tr.keys] at hn hx h1 h2 h3
      have hvn : vn = l.length := by rw [← h2.1, h4.lens.2.1]; rfl
      subst hvn
      have n0 := hx.cell 0 0 rfl rfl
      have n1 := hx.cell 0 1 rfl rfl
      have n2 := hx.cell 0 2 rfl rfl
      have n3 := hx.cell 0 3 rfl rfl
      have n4 := hx.cell 0 4 rfl rfl
      have CB := bsearch_any (h1.below hb) (by omega) o2 key
      have hRl : R = if hasK key (keysOf l) then (l[posK key (keysOf l)]?).map (·.2.data) else none := by rw [← hR]; exact look_pos o2
      have hV : ∀ i, i < l.length → ∃ b off, va = some ⟨b, off, none⟩ ∧ b < w.heap.size ∧ w.cell? ⟨b, off + i * 2, none⟩ = some (.string (strOf ((l[i]?.map (·.2.data)).getD []))) := fun i hi => by
        obtain ⟨b, off, y, cs, e1, e2, e3, _, e5, e6⟩ := TabR.at (Raw.tab h2 h4.2.1) hi
        obtain ⟨a, n, c, rfl, _⟩ := e5
        refine ⟨b, off, e1, e2, ?_⟩
        rw [show l[i]?.map (·.2.data) = some y.data by simp [hi] at e3; simp [hi, e3]]
        exact e6 0 _ rfl
      have hpo := posK_le key (keysOf l)
      have hkl : (keysOf l).length = l.length := by simp [keysOf]
      have hhas : hasK key (keysOf l) = true → posK key (keysOf l) < l.length := fun h => by
        have := pos_oldF (key := key) (ks := keysOf l) h
        omega
      have hvc := h2.lens
      obtain ⟨_, v2, v3⟩ := hvc
      have HB := Lib.hid hb
      have HV := Lib.hid hV
      clear h1 h2 h3 h4 hn hx hR hV o2
      generalize posK key (keysOf l) = pos at *
      generalize hasK key (keysOf l) = has at *
      cases has with
      | false =>
        have HE : Hid (FoundPost w R (.returned (.tuple #[.string ⟨#[]⟩, .bool false])) wr) := Lib.hid ⟨by rw [hRl]; rfl, hb⟩
        clear hRl hb hhas
        go_wp2_with fail
        refine CB.mono ?_
        rintro e w1 ⟨rfl, rfl⟩
        go_wp2_with fail
        go_ret2
        exact HE.out
      | true =>
        have hp := hhas rfl
        obtain ⟨b, off, rfl, hbb, hcell⟩ := HV.out pos hp
        obtain ⟨c, hc⟩ : ∃ c, l[pos]? = some c := ⟨_, List.getElem?_eq_getElem hp⟩
        rw [hc] at hcell
        have hcell' := (hb.cell (p := ⟨b, off + pos * 2, none⟩) hbb).trans hcell
        have HE : Hid (FoundPost w R (.returned (.tuple #[.string (strOf c.2.data), .bool true])) wr) := Lib.hid ⟨by rw [hRl, hc]; rfl, hb⟩
        simp only [Option.map_some, Option.getD_some] at hcell'
        clear hRl hb hhas hcell hc
        generalize c.2.data = dat at *
        go_wp2_with fail
        refine CB.mono ?_
        rintro e w1 ⟨rfl, rfl⟩
        go_wp2_with fail
        go_ret2
        exact HE.out
end Go.Proofs.Ytemfnjlfcemehaa
