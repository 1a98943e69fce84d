/- Texts that other texts of this claim lean on, one behind the other. -/
import Derived.Test.YtemfnjlfcemehaaM5
import Derived.Test.YtemfnjlfcemehaaM3
import Derived.Test.YtemfnjlfcemehaaM2
import Derived.Test.YtemfnjlfcemehaaM1
import Derived.OwnWalk
/- The walks of trees: the top (printed by gen_treT.py). -/
namespace Go.Proofs.Ytemfnjlfcemehaa
open Go.RowKit

theorem agree_set5 {G : Nat → Prop} {w : World} {b : Nat} (h : ¬ G b) (y0 y1 y2 y3 y4 : Value) : AgreeF G w (set5 w b y0 y1 y2 y3 y4) := (((((AgreeF.of_below (Below.refl _ _)).set (.inl h)).set (.inl h)).set (.inl h)).set (.inl h)).set (.inl h)
theorem NodeOn.open_pos {F : Nat → Prop} {n : Nat} {w : World} {cs : List Value} {t : Tr} (h : NodeOn F n w cs t) :
    ∃ ka kc va vn vc ca cn cc V C, cs = [.int .i64 t.page, .bool t.isLeaf, .slice ka (cntT t) kc, .slice va vn vc, .slice ca cn cc] ∧ Raw 1 w ka (cntT t) kc (t.keys.map kCell) ∧ Raw 2 w va vn vc V ∧ Raw 5 w ca cn cc C := by
  cases n with
  | zero => exact h.elim
  | succ n =>
    obtain ⟨ka, kc, va, vn, vc, ca, cn, cc, V, C, e, h1, h2, h3, _⟩ := h.open
    exact ⟨ka, kc, va, vn, vc, ca, cn, cc, V, C, e, h1, h2, h3⟩
/-- What the top asks of a tree. -/
def TopOk : Nat → Tr → Prop
  | 0, _ => False
  | n + 1, t => Bnd (n + 1) t ∧ (t.isLeaf = false → 0 < cntT t) ∧ ∀ p l, t = .node p l → l.length = 1 → TopOk n (kidAt l 0)
theorem topT_kid {n : Nat} {p : Int} {l : List (List UInt8 × Tr)} (h : l.length = 1) : topT (n + 1) (.node p l) = topT n (kidAt l 0) := by
  show (if l.length = 1 then _ else _) = _
  rw [if_pos h]
theorem topT_same {n : Nat} {t : Tr} (h : ∀ p l, t = .node p l → l.length ≠ 1) (ha : atF (sizesT t) = 0) : topT (n + 1) t = t := by
  cases t with
  | leaf p l => show (if _ then _ else _) = _; rw [if_pos ha]
  | node p l =>
    show (if l.length = 1 then _ else if _ then _ else _) = _
    rw [if_neg (h p l rfl), if_pos ha]
theorem topT_mend {n : Nat} {t : Tr} (h : ∀ p l, t = .node p l → l.length ≠ 1) (ha : atF (sizesT t) ≠ 0) : topT (n + 1) t = mendT 0 [([], t)] 0 := by
  cases t with
  | leaf p l => show (if _ then _ else _) = _; rw [if_neg ha]
  | node p l =>
    show (if l.length = 1 then _ else if _ then _ else _) = _
    rw [if_neg (h p l rfl), if_neg ha]
set_option maxRecDepth 100000 in
set_option maxHeartbeats 2000000 in
theorem ttop_any : ∀ {N : Nat} {F : Nat → Prop} {w : World} {cs : List Value} {t : Tr}, NodeOn F N w cs t → TopOk N t → Calls Try.prog 42 #[.agg cs.toArray] w (NodeTo F (N + 1) w (topT N t))
  | 0, _, _, _, _, h, _ => h.elim
  | N + 1, F, w, cs, t, h, ho => by
    have IH := fun {F : Nat → Prop} {w : World} {cs : List Value} {t : Tr} (h : NodeOn F N w cs t) (ho : TopOk N t) => ttop_any h ho
    obtain ⟨o1, o2, o3⟩ := ho
    have hlt := h.lt
    obtain ⟨ka, kc, va, vn, vc, ca, cn, cc, V, C, rfl, h1, h2, h3, h4, f1, f2, f3⟩ := hlt.open
    obtain ⟨lf, hlf⟩ : ∃ x, t.isLeaf = x := ⟨_, rfl⟩
    obtain ⟨p, hp⟩ : ∃ x, t.page = x := ⟨_, rfl⟩
    obtain ⟨m, hm⟩ : ∃ x, cntT t = x := ⟨_, rfl⟩
    obtain ⟨_, r1, r2⟩ := h4.toR.lens
    have hcn : cn = if lf then 0 else m := by rw [← h3.1, r2, hlf, hm]
    have hm9 : m ≤ 1000 := by rw [← hm]; exact o1.cnt
    rw [hlf, hp, hm] at hlt ⊢
    have hB0 : Below w.heap.size w ((w.alloc (.cells #[.int .i64 p, .bool lf, .slice ka m kc, .slice va vn vc, .slice ca cn cc] 33)).alloc (.cells #[.int .i64 0, .bool false, .slice none 0 0, .slice none 0 0, .slice none 0 0] 33)) := Below.al (Below.al (Below.refl _ _))
    have hX0 : Boxes _ [(w.heap.size + 1, [.int .i64 0, .bool false, .slice none 0 0, .slice none 0 0, .slice none 0 0]), (w.heap.size, [.int .i64 p, .bool lf, .slice ka m kc, .slice va vn vc, .slice ca cn cc])] := (((Boxes.nil w).alloc #[.int .i64 p, .bool lf, .slice ka m kc, .slice va vn vc, .slice ca cn cc] 33 rfl).alloc #[.int .i64 0, .bool false, .slice none 0 0, .slice none 0 0, .slice none 0 0] 33 (b := w.heap.size + 1) (by simp))
    obtain ⟨wA, hwA⟩ : ∃ wA, (w.alloc (.cells #[.int .i64 p, .bool lf, .slice ka m kc, .slice va vn vc, .slice ca cn cc] 33)).alloc (.cells #[.int .i64 0, .bool false, .slice none 0 0, .slice none 0 0, .slice none 0 0] 33) = wA := ⟨_, rfl⟩
    have hzA : w.heap.size + 2 ≤ wA.heap.size := by rw [← hwA]; simp
    rw [hwA] at hB0 hX0
    have CS := tsizes_any (hlt.below hB0).toIn o1
    obtain ⟨S, hS⟩ : ∃ x, sizesT t = x := ⟨_, rfl⟩
    rw [hS] at CS
    have hSm := o1.small
    rw [hS] at hSm
    have hSm := Lib.hid hSm
    have n0 := hX0.cell 1 0 rfl rfl
    have n1 := hX0.cell 1 1 rfl rfl
    have n2 := hX0.cell 1 2 rfl rfl
    have n3 := hX0.cell 1 3 rfl rfl
    have n4 := hX0.cell 1 4 rfl rfl
    have HN := Lib.hid hlt
    have HX := Lib.hid hX0
    have HB := Lib.hid hB0
    have H3 := Lib.hid h3
    have H4 := Lib.hid h4
    have HLF := Lib.hid hlf
    have HM := Lib.hid hm
    have HO1 := Lib.hid o1
    have HO2 := Lib.hid o2
    have HO3 := Lib.hid o3
    have HS := Lib.hid hS
    have HCN := Lib.hid hcn
    have hF : ∀ b, Fr (fun b => F b ∧ b < w.heap.size) wA b → Fr F w b := fun b h => by rcases h with h | h; exact .inl h.1; exact .inr (by omega)
    have hne : ¬ Fr (fun b => F b ∧ b < w.heap.size) wA (w.heap.size + 1) := fun h => by rcases h with h | h <;> omega
    have HF := Lib.hid hF
    clear h h1 h2 h3 h4 hlt o1 o2 o3 hX0 hB0 hlf hp hm r1 r2 hS hcn hF
    by_cases hkid : lf = false ∧ m = 1
    · obtain ⟨rfl, rfl⟩ := hkid
      have hcn : cn = 1 := HCN.out
      subst hcn
      obtain ⟨bc, oc, y, yc, eca, hbc, hy, _, hyc, hcell⟩ := TabR.at H3.out (show 0 < 1 by omega)
      have hyc : yc = y.1 := hyc
      subst hyc eca
      cases t with
      | leaf p0 l => have := HLF.out; simp [Tr.isLeaf] at this
      | node p0 l =>
      have hl1 : l.length = 1 := HM.out
      have hkid := kid_tells H4.out.2.2 hy
      obtain ⟨q1, q2, q3, q4, q5, q6, q7, q8, _, _, ey, _⟩ := (NodeOn.open_pos hkid)
      rw [ey] at hcell hkid
      have e0 := (HB.out.cell (p := ⟨bc, oc, none⟩) hbc).trans (by have := hcell 0 _ rfl; simpa using this)
      have e1 := (HB.out.cell (p := ⟨bc, oc + 1, none⟩) hbc).trans (by have := hcell 1 _ rfl; simpa using this)
      have e2 := (HB.out.cell (p := ⟨bc, oc + 2, none⟩) hbc).trans (by have := hcell 2 _ rfl; simpa using this)
      have e3 := (HB.out.cell (p := ⟨bc, oc + 3, none⟩) hbc).trans (by have := hcell 3 _ rfl; simpa using this)
      have e4 := (HB.out.cell (p := ⟨bc, oc + 4, none⟩) hbc).trans (by have := hcell 4 _ rfl; simpa using this)
      have CT := IH (hkid.below HB.out) (HO3.out p0 l rfl hl1)
      have HTE : Hid (topT (N + 1) (.node p0 l) = topT N (kidAt l 0)) := Lib.hid (topT_kid hl1)
      clear hcell hkid ey hy CS IH hl1
      generalize (kidAt l 0).page = kp at *
      generalize (kidAt l 0).isLeaf = kl at *
      generalize cntT (kidAt l 0) = kcn at *
      go_enter Try.func42, Try.ntmps42
      go_wp2_with fail
      refine CT.mono ?_
      rintro e w1 ⟨x, rfl, hn, hb1⟩
      obtain ⟨x1, x3, x4, x5, x6, x7, x8, x9, _, _, ex, _⟩ := NodeOn.open_pos hn
      subst ex
      generalize (topT N (kidAt l 0)).page = xp at *
      generalize (topT N (kidAt l 0)).isLeaf = xl at *
      generalize cntT (topT N (kidAt l 0)) = x2 at *
      have hX1 := HX.out.step hb1
      have hBW := HB.out.trans (hb1.mono HB.out.size)
      have hz1 : w.heap.size + 2 ≤ w1.heap.size := Nat.le_trans hzA hb1.size
      clear CT n0 n1 n2 n3 n4 e0 e1 e2 e3 e4
      have hX7 := set5_box (hX1.sub (m := [(w.heap.size + 1, [.int .i64 0, .bool false, .slice none 0 0, .slice none 0 0, .slice none 0 0])]) (by simp)) (by simp) (.int .i64 xp) (.bool xl) (.slice x1 x2 x3) (.slice x4 x5 x6) (.slice x7 x8 x9)
      have hB7 := set5_below hBW (b := w.heap.size + 1) (by omega) (.int .i64 xp) (.bool xl) (.slice x1 x2 x3) (.slice x4 x5 x6) (.slice x7 x8 x9)
      have hN7 := NodeOn.more (m := N + 2) (NodeOn.mono HF.out (hn.agree (agree_set5 hne (.int .i64 xp) (.bool xl) (.slice x1 x2 x3) (.slice x4 x5 x6) (.slice x7 x8 x9)))) (by omega)
      rw [← HTE.out] at hN7
      have fin : Hid (NodeTo F (N + 2) w (topT (N + 1) (.node p0 l)) (.returned (.agg #[.int .i64 xp, .bool xl, .slice x1 x2 x3, .slice x4 x5 x6, .slice x7 x8 x9])) (set5 _ (w.heap.size + 1) (.int .i64 xp) (.bool xl) (.slice x1 x2 x3) (.slice x4 x5 x6) (.slice x7 x8 x9))) := Lib.hid ⟨[.int .i64 xp, .bool xl, .slice x1 x2 x3, .slice x4 x5 x6, .slice x7 x8 x9], rfl, hN7, hB7⟩
      have t0 := hX7.cell 0 0 rfl rfl
      have t1 := hX7.cell 0 1 rfl rfl
      have t2 := hX7.cell 0 2 rfl rfl
      have t3 := hX7.cell 0 3 rfl rfl
      have t4 := hX7.cell 0 4 rfl rfl
      unfold set5 at t0 t1 t2 t3 t4
      have z0 := hX1.cell 0 0 rfl rfl
      have z1 := hX1.cell 0 1 rfl rfl
      have z2 := hX1.cell 0 2 rfl rfl
      have z3 := hX1.cell 0 3 rfl rfl
      have z4 := hX1.cell 0 4 rfl rfl
      have u0 := hX1.frozen 0 0 rfl
      have u1 := hX1.frozen 0 1 rfl
      have u2 := hX1.frozen 0 2 rfl
      have u3 := hX1.frozen 0 3 rfl
      have u4 := hX1.frozen 0 4 rfl
      clear hX7 hB7 hN7
      go_wp2_with fail
      refine bodyPost_ret (v := .agg #[.int .i64 xp, .bool xl, .slice x1 x2 x3, .slice x4 x5 x6, .slice x7 x8 x9]) (by simp [results, Try.results42, go_sem, t0, t1, t2, t3, t4]) rfl ?_
      exact fin.out
    · have hrest : Hid (∀ p l, t = .node p l → l.length ≠ 1) := Lib.hid (fun p l e hl => hkid ⟨by rw [← HLF.out, e]; rfl, by rw [← HM.out, e]; exact hl⟩)
      have hguard : lf = true ∨ ((m : Int) == 1) = false := by
        cases lf with
        | true => exact .inl rfl
        | false => exact .inr (by simp; intro e; exact hkid ⟨rfl, by omega⟩)
      clear hkid IH
      rcases hguard with rfl | hguard
      · go_enter Try.func42, Try.ntmps42
        go_wp2_with fail
        refine CS.mono ?_
        rintro e w1 ⟨v1, rfl, ho1, hb1⟩
        obtain ⟨sa, sc, rfl, hrow⟩ := Row.of_own ho1
        clear CS ho1
        go_wp2_with fail
        refine (at_any _ _ _ _ _ hrow hSm.out).mono ?_
        rintro e w2 ⟨rfl, hb2⟩
        have hbA := below_via hb1 hb2
        have hX2 := HX.out.step hbA
        have hBW := HB.out.trans (hbA.mono HB.out.size)
        have hz2 : w.heap.size + 2 ≤ w2.heap.size := Nat.le_trans hzA hbA.size
        clear hb1 hb2 hrow n0 n1 n2 n3 n4 hbA
        have n0 := hX2.cell 1 0 rfl rfl
        have n1 := hX2.cell 1 1 rfl rfl
        have n2 := hX2.cell 1 2 rfl rfl
        have n3 := hX2.cell 1 3 rfl rfl
        have n4 := hX2.cell 1 4 rfl rfl
        by_cases hat : atF S = 0
        · have HAT := Lib.hid hat
          have HTE : Hid (topT (N + 1) t = t) := Lib.hid (topT_same hrest.out (by rw [HS.out]; exact hat))
          rw [hat]
          clear hat
          have hX7 := set5_box (hX2.sub (m := [(w.heap.size + 1, [.int .i64 0, .bool false, .slice none 0 0, .slice none 0 0, .slice none 0 0])]) (by simp)) (by simp) (.int .i64 p) (.bool true) (.slice ka m kc) (.slice va vn vc) (.slice ca cn cc)
          have hB7 := set5_below hBW (b := w.heap.size + 1) (by omega) (.int .i64 p) (.bool true) (.slice ka m kc) (.slice va vn vc) (.slice ca cn cc)
          have hN7 := NodeOn.more (m := N + 2) (NodeOn.mono (G := Fr F w) (fun b h => .inl h.1) (HN.out.below hB7)) (by omega)
          rw [← HTE.out] at hN7
          have fin : Hid (NodeTo F (N + 2) w (topT (N + 1) t) (.returned (.agg #[.int .i64 p, .bool true, .slice ka m kc, .slice va vn vc, .slice ca cn cc])) (set5 _ (w.heap.size + 1) (.int .i64 p) (.bool true) (.slice ka m kc) (.slice va vn vc) (.slice ca cn cc))) := Lib.hid ⟨[.int .i64 p, .bool true, .slice ka m kc, .slice va vn vc, .slice ca cn cc], rfl, hN7, hB7⟩
          have t0 := hX7.cell 0 0 rfl rfl
          have t1 := hX7.cell 0 1 rfl rfl
          have t2 := hX7.cell 0 2 rfl rfl
          have t3 := hX7.cell 0 3 rfl rfl
          have t4 := hX7.cell 0 4 rfl rfl
          unfold set5 at t0 t1 t2 t3 t4
          have z0 := hX2.cell 0 0 rfl rfl
          have z1 := hX2.cell 0 1 rfl rfl
          have z2 := hX2.cell 0 2 rfl rfl
          have z3 := hX2.cell 0 3 rfl rfl
          have z4 := hX2.cell 0 4 rfl rfl
          have u0 := hX2.frozen 0 0 rfl
          have u1 := hX2.frozen 0 1 rfl
          have u2 := hX2.frozen 0 2 rfl
          have u3 := hX2.frozen 0 3 rfl
          have u4 := hX2.frozen 0 4 rfl
          clear hX7 hB7 hN7
          go_wp2_with fail
          refine bodyPost_ret (v := .agg #[.int .i64 p, .bool true, .slice ka m kc, .slice va vn vc, .slice ca cn cc]) (by simp [results, Try.results42, go_sem, t0, t1, t2, t3, t4]) rfl ?_
          exact fin.out
        · have HTE : Hid (topT (N + 1) t = mendT 0 [([], t)] 0) := Lib.hid (topT_mend hrest.out (by rw [HS.out]; exact hat))
          have hae : ((atF S : Int) == 0) = false := by simpa using hat
          generalize atF S = A at *
          clear hat
          have hSe : Calls Try.prog 44 #[.agg #[.int .i64 0, .bool false, .slice (some ⟨w2.heap.size, 0, none⟩) 1 1, .slice none 0 0, .slice (some ⟨w2.heap.size + 1, 0, none⟩) 1 1], .int .i64 0] ((w2.alloc (.cells #[.string ⟨#[]⟩] 9)).alloc (.cells #[.int .i64 p, .bool true, .slice ka m kc, .slice va vn vc, .slice ca cn cc] 33)) (NodeTo (fun b => (F b ∧ b < w.heap.size) ∨ w.heap.size + 2 ≤ b) (N + 2) ((w2.alloc (.cells #[.string ⟨#[]⟩] 9)).alloc (.cells #[.int .i64 p, .bool true, .slice ka m kc, .slice va vn vc, .slice ca cn cc] 33)) (mendT 0 [([], t)] 0)) := by
            have hW : Below w2.heap.size w2 ((w2.alloc (.cells #[.string ⟨#[]⟩] 9)).alloc (.cells #[.int .i64 p, .bool true, .slice ka m kc, .slice va vn vc, .slice ca cn cc] 33)) := Below.al (Below.al (Below.refl _ _))
            obtain ⟨cN, hcN⟩ : ∃ c : Cl 5, c.1 = [.int .i64 p, .bool true, .slice ka m kc, .slice va vn vc, .slice ca cn cc] := ⟨⟨[.int .i64 p, .bool true, .slice ka m kc, .slice va vn vc, .slice ca cn cc], rfl, by intro u hu; simp at hu; rcases hu with rfl | rfl | rfl | rfl | rfl <;> rfl⟩, rfl⟩
            have hnode : NodeOn (fun b => (F b ∧ b < w.heap.size) ∨ w.heap.size + 2 ≤ b) (N + 2) ((w2.alloc (.cells #[.string ⟨#[]⟩] 9)).alloc (.cells #[.int .i64 p, .bool true, .slice ka m kc, .slice va vn vc, .slice ca cn cc] 33)) [.int .i64 0, .bool false, .slice (some ⟨w2.heap.size, 0, none⟩) 1 1, .slice none 0 0, .slice (some ⟨w2.heap.size + 1, 0, none⟩) 1 1] (.node 0 [([], t)]) := by
              refine NodeOn.shut (V := []) (C := [cN]) rfl rfl (K := [kCell []]) rfl (raw_box (L := [kCell []]) (BoxAt.al BoxAt.here) (by simp)) (Raw.nil0 _ _) (raw_box (L := [cN]) (by simpa [flatC, hcN] using (BoxAt.here2 (w := w2) (o := .cells #[.string ⟨#[]⟩] 9) (cs := #[.int .i64 p, .bool true, .slice ka m kc, .slice va vn vc, .slice ca cn cc]) (t := 33))) (by simp)) ?_ (Fa.zero _ _) ?_ ⟨tells_keys _, rfl, Tells.one ?_⟩
              · exact .inr fun b off e => by cases e; exact .inr (by omega)
              · exact .inr fun b off e => by cases e; exact .inr (by omega)
              · rw [hcN]
                exact NodeOn.mono (fun b h => .inl h) (HN.out.below (hBW.trans (hW.mono hBW.size)))
            exact tmend_any hnode 0 (by simp) ⟨by simp, fun c hc => by simp at hc; subst hc; exact HO1.out, fun c hc d hd => by simp at hc hd; subst hc hd; rfl, fun c hc hl => by simp at hc; subst hc; exact HO2.out hl, fun j hj => by simp at hj⟩
          have hX2a : Boxes (w2.alloc (.cells #[.string ⟨#[]⟩] 9)) _ := Boxes.al hX2
          have s0 := hX2a.cell 1 0 rfl rfl
          have s1 := hX2a.cell 1 1 rfl rfl
          have s2 := hX2a.cell 1 2 rfl rfl
          have s3 := hX2a.cell 1 3 rfl rfl
          have s4 := hX2a.cell 1 4 rfl rfl
          go_wp2_with fail
          clear hX2a s0 s1 s2 s3 s4
          refine hSe.mono ?_
          rintro e w3 ⟨x, rfl, hn, hb3⟩
          obtain ⟨x1, x3, x4, x5, x6, x7, x8, x9, _, _, ex, _⟩ := NodeOn.open_pos hn
          subst ex
          rw [← HTE.out] at hn ⊢
          have hb3' : Below w2.heap.size w2 w3 := below_via (Below.al (Below.al (Below.refl _ _))) hb3
          have hX3 := hX2.step hb3'
          have hBW3 := hBW.trans (hb3'.mono hBW.size)
          have hne3 : ¬ Fr (fun b => (F b ∧ b < w.heap.size) ∨ w.heap.size + 2 ≤ b) ((w2.alloc (.cells #[.string ⟨#[]⟩] 9)).alloc (.cells #[.int .i64 p, .bool true, .slice ka m kc, .slice va vn vc, .slice ca cn cc] 33)) (w.heap.size + 1) := fun h => by
            rcases h with h | h
            · omega
            · simp at h; omega
          have hF3 : ∀ b, Fr (fun b => (F b ∧ b < w.heap.size) ∨ w.heap.size + 2 ≤ b) ((w2.alloc (.cells #[.string ⟨#[]⟩] 9)).alloc (.cells #[.int .i64 p, .bool true, .slice ka m kc, .slice va vn vc, .slice ca cn cc] 33)) b → Fr F w b := fun b h => by
            rcases h with h | h
            · rcases h with h | h; exact .inl h.1; exact .inr (by omega)
            · simp at h; exact .inr (by omega)
          have hne := hne3
          generalize (topT (N + 1) t).page = xp at *
          generalize (topT (N + 1) t).isLeaf = xl at *
          generalize cntT (topT (N + 1) t) = x2 at *
          clear hSe n0 n1 n2 n3 n4
          have hX7 := set5_box (hX3.sub (m := [(w.heap.size + 1, [.int .i64 0, .bool false, .slice none 0 0, .slice none 0 0, .slice none 0 0])]) (by simp)) (by simp) (.int .i64 xp) (.bool xl) (.slice x1 x2 x3) (.slice x4 x5 x6) (.slice x7 x8 x9)
          have hB7 := set5_below hBW3 (b := w.heap.size + 1) (by omega) (.int .i64 xp) (.bool xl) (.slice x1 x2 x3) (.slice x4 x5 x6) (.slice x7 x8 x9)
          have hN7 := NodeOn.mono hF3 (hn.agree (agree_set5 hne (.int .i64 xp) (.bool xl) (.slice x1 x2 x3) (.slice x4 x5 x6) (.slice x7 x8 x9)))
          have fin : Hid (NodeTo F (N + 2) w (topT (N + 1) t) (.returned (.agg #[.int .i64 xp, .bool xl, .slice x1 x2 x3, .slice x4 x5 x6, .slice x7 x8 x9])) (set5 _ (w.heap.size + 1) (.int .i64 xp) (.bool xl) (.slice x1 x2 x3) (.slice x4 x5 x6) (.slice x7 x8 x9))) := Lib.hid ⟨[.int .i64 xp, .bool xl, .slice x1 x2 x3, .slice x4 x5 x6, .slice x7 x8 x9], rfl, hN7, hB7⟩
          have t0 := hX7.cell 0 0 rfl rfl
          have t1 := hX7.cell 0 1 rfl rfl
          have t2 := hX7.cell 0 2 rfl rfl
          have t3 := hX7.cell 0 3 rfl rfl
          have t4 := hX7.cell 0 4 rfl rfl
          unfold set5 at t0 t1 t2 t3 t4
          have z0 := hX3.cell 0 0 rfl rfl
          have z1 := hX3.cell 0 1 rfl rfl
          have z2 := hX3.cell 0 2 rfl rfl
          have z3 := hX3.cell 0 3 rfl rfl
          have z4 := hX3.cell 0 4 rfl rfl
          have u0 := hX3.frozen 0 0 rfl
          have u1 := hX3.frozen 0 1 rfl
          have u2 := hX3.frozen 0 2 rfl
          have u3 := hX3.frozen 0 3 rfl
          have u4 := hX3.frozen 0 4 rfl
          clear hX7 hB7 hN7
          go_wp2_with fail
          refine bodyPost_ret (v := .agg #[.int .i64 xp, .bool xl, .slice x1 x2 x3, .slice x4 x5 x6, .slice x7 x8 x9]) (by simp [results, Try.results42, go_sem, t0, t1, t2, t3, t4]) rfl ?_
          exact fin.out
      · cases lf with
        | true =>
          go_enter Try.func42, Try.ntmps42
          go_wp2_with fail
          refine CS.mono ?_
          rintro e w1 ⟨v1, rfl, ho1, hb1⟩
          obtain ⟨sa, sc, rfl, hrow⟩ := Row.of_own ho1
          clear CS ho1
          go_wp2_with fail
          refine (at_any _ _ _ _ _ hrow hSm.out).mono ?_
          rintro e w2 ⟨rfl, hb2⟩
          have hbA := below_via hb1 hb2
          have hX2 := HX.out.step hbA
          have hBW := HB.out.trans (hbA.mono HB.out.size)
          have hz2 : w.heap.size + 2 ≤ w2.heap.size := Nat.le_trans hzA hbA.size
          clear hb1 hb2 hrow n0 n1 n2 n3 n4 hbA
          have n0 := hX2.cell 1 0 rfl rfl
          have n1 := hX2.cell 1 1 rfl rfl
          have n2 := hX2.cell 1 2 rfl rfl
          have n3 := hX2.cell 1 3 rfl rfl
          have n4 := hX2.cell 1 4 rfl rfl
          by_cases hat : atF S = 0
          · have HAT := Lib.hid hat
            have HTE : Hid (topT (N + 1) t = t) := Lib.hid (topT_same hrest.out (by rw [HS.out]; exact hat))
            rw [hat]
            clear hat
            have hX7 := set5_box (hX2.sub (m := [(w.heap.size + 1, [.int .i64 0, .bool false, .slice none 0 0, .slice none 0 0, .slice none 0 0])]) (by simp)) (by simp) (.int .i64 p) (.bool true) (.slice ka m kc) (.slice va vn vc) (.slice ca cn cc)
            have hB7 := set5_below hBW (b := w.heap.size + 1) (by omega) (.int .i64 p) (.bool true) (.slice ka m kc) (.slice va vn vc) (.slice ca cn cc)
            have hN7 := NodeOn.more (m := N + 2) (NodeOn.mono (G := Fr F w) (fun b h => .inl h.1) (HN.out.below hB7)) (by omega)
            rw [← HTE.out] at hN7
            have fin : Hid (NodeTo F (N + 2) w (topT (N + 1) t) (.returned (.agg #[.int .i64 p, .bool true, .slice ka m kc, .slice va vn vc, .slice ca cn cc])) (set5 _ (w.heap.size + 1) (.int .i64 p) (.bool true) (.slice ka m kc) (.slice va vn vc) (.slice ca cn cc))) := Lib.hid ⟨[.int .i64 p, .bool true, .slice ka m kc, .slice va vn vc, .slice ca cn cc], rfl, hN7, hB7⟩
            have t0 := hX7.cell 0 0 rfl rfl
            have t1 := hX7.cell 0 1 rfl rfl
            have t2 := hX7.cell 0 2 rfl rfl
            have t3 := hX7.cell 0 3 rfl rfl
            have t4 := hX7.cell 0 4 rfl rfl
            unfold set5 at t0 t1 t2 t3 t4
            have z0 := hX2.cell 0 0 rfl rfl
            have z1 := hX2.cell 0 1 rfl rfl
            have z2 := hX2.cell 0 2 rfl rfl
            have z3 := hX2.cell 0 3 rfl rfl
            have z4 := hX2.cell 0 4 rfl rfl
            have u0 := hX2.frozen 0 0 rfl
            have u1 := hX2.frozen 0 1 rfl
            have u2 := hX2.frozen 0 2 rfl
            have u3 := hX2.frozen 0 3 rfl
            have u4 := hX2.frozen 0 4 rfl
            clear hX7 hB7 hN7
            go_wp2_with fail
            refine bodyPost_ret (v := .agg #[.int .i64 p, .bool true, .slice ka m kc, .slice va vn vc, .slice ca cn cc]) (by simp [results, Try.results42, go_sem, t0, t1, t2, t3, t4]) rfl ?_
            exact fin.out
          · have HTE : Hid (topT (N + 1) t = mendT 0 [([], t)] 0) := Lib.hid (topT_mend hrest.out (by rw [HS.out]; exact hat))
            have hae : ((atF S : Int) == 0) = false := by simpa using hat
            generalize atF S = A at *
            clear hat
            have hSe : Calls Try.prog 44 #[.agg #[.int .i64 0, .bool false, .slice (some ⟨w2.heap.size, 0, none⟩) 1 1, .slice none 0 0, .slice (some ⟨w2.heap.size + 1, 0, none⟩) 1 1], .int .i64 0] ((w2.alloc (.cells #[.string ⟨#[]⟩] 9)).alloc (.cells #[.int .i64 p, .bool true, .slice ka m kc, .slice va vn vc, .slice ca cn cc] 33)) (NodeTo (fun b => (F b ∧ b < w.heap.size) ∨ w.heap.size + 2 ≤ b) (N + 2) ((w2.alloc (.cells #[.string ⟨#[]⟩] 9)).alloc (.cells #[.int .i64 p, .bool true, .slice ka m kc, .slice va vn vc, .slice ca cn cc] 33)) (mendT 0 [([], t)] 0)) := by
              have hW : Below w2.heap.size w2 ((w2.alloc (.cells #[.string ⟨#[]⟩] 9)).alloc (.cells #[.int .i64 p, .bool true, .slice ka m kc, .slice va vn vc, .slice ca cn cc] 33)) := Below.al (Below.al (Below.refl _ _))
              obtain ⟨cN, hcN⟩ : ∃ c : Cl 5, c.1 = [.int .i64 p, .bool true, .slice ka m kc, .slice va vn vc, .slice ca cn cc] := ⟨⟨[.int .i64 p, .bool true, .slice ka m kc, .slice va vn vc, .slice ca cn cc], rfl, by intro u hu; simp at hu; rcases hu with rfl | rfl | rfl | rfl | rfl <;> rfl⟩, rfl⟩
              have hnode : NodeOn (fun b => (F b ∧ b < w.heap.size) ∨ w.heap.size + 2 ≤ b) (N + 2) ((w2.alloc (.cells #[.string ⟨#[]⟩] 9)).alloc (.cells #[.int .i64 p, .bool true, .slice ka m kc, .slice va vn vc, .slice ca cn cc] 33)) [.int .i64 0, .bool false, .slice (some ⟨w2.heap.size, 0, none⟩) 1 1, .slice none 0 0, .slice (some ⟨w2.heap.size + 1, 0, none⟩) 1 1] (.node 0 [([], t)]) := by
                refine NodeOn.shut (V := []) (C := [cN]) rfl rfl (K := [kCell []]) rfl (raw_box (L := [kCell []]) (BoxAt.al BoxAt.here) (by simp)) (Raw.nil0 _ _) (raw_box (L := [cN]) (by simpa [flatC, hcN] using (BoxAt.here2 (w := w2) (o := .cells #[.string ⟨#[]⟩] 9) (cs := #[.int .i64 p, .bool true, .slice ka m kc, .slice va vn vc, .slice ca cn cc]) (t := 33))) (by simp)) ?_ (Fa.zero _ _) ?_ ⟨tells_keys _, rfl, Tells.one ?_⟩
                · exact .inr fun b off e => by cases e; exact .inr (by omega)
                · exact .inr fun b off e => by cases e; exact .inr (by omega)
                · rw [hcN]
                  exact NodeOn.mono (fun b h => .inl h) (HN.out.below (hBW.trans (hW.mono hBW.size)))
              exact tmend_any hnode 0 (by simp) ⟨by simp, fun c hc => by simp at hc; subst hc; exact HO1.out, fun c hc d hd => by simp at hc hd; subst hc hd; rfl, fun c hc hl => by simp at hc; subst hc; exact HO2.out hl, fun j hj => by simp at hj⟩
            have hX2a : Boxes (w2.alloc (.cells #[.string ⟨#[]⟩] 9)) _ := Boxes.al hX2
            have s0 := hX2a.cell 1 0 rfl rfl
            have s1 := hX2a.cell 1 1 rfl rfl
            have s2 := hX2a.cell 1 2 rfl rfl
            have s3 := hX2a.cell 1 3 rfl rfl
            have s4 := hX2a.cell 1 4 rfl rfl
            go_wp2_with fail
            clear hX2a s0 s1 s2 s3 s4
            refine hSe.mono ?_
            rintro e w3 ⟨x, rfl, hn, hb3⟩
            obtain ⟨x1, x3, x4, x5, x6, x7, x8, x9, _, _, ex, _⟩ := NodeOn.open_pos hn
            subst ex
            rw [← HTE.out] at hn ⊢
            have hb3' : Below w2.heap.size w2 w3 := below_via (Below.al (Below.al (Below.refl _ _))) hb3
            have hX3 := hX2.step hb3'
            have hBW3 := hBW.trans (hb3'.mono hBW.size)
            have hne3 : ¬ Fr (fun b => (F b ∧ b < w.heap.size) ∨ w.heap.size + 2 ≤ b) ((w2.alloc (.cells #[.string ⟨#[]⟩] 9)).alloc (.cells #[.int .i64 p, .bool true, .slice ka m kc, .slice va vn vc, .slice ca cn cc] 33)) (w.heap.size + 1) := fun h => by
              rcases h with h | h
              · omega
              · simp at h; omega
            have hF3 : ∀ b, Fr (fun b => (F b ∧ b < w.heap.size) ∨ w.heap.size + 2 ≤ b) ((w2.alloc (.cells #[.string ⟨#[]⟩] 9)).alloc (.cells #[.int .i64 p, .bool true, .slice ka m kc, .slice va vn vc, .slice ca cn cc] 33)) b → Fr F w b := fun b h => by
              rcases h with h | h
              · rcases h with h | h; exact .inl h.1; exact .inr (by omega)
              · simp at h; exact .inr (by omega)
            have hne := hne3
            generalize (topT (N + 1) t).page = xp at *
            generalize (topT (N + 1) t).isLeaf = xl at *
            generalize cntT (topT (N + 1) t) = x2 at *
            clear hSe n0 n1 n2 n3 n4
            have hX7 := set5_box (hX3.sub (m := [(w.heap.size + 1, [.int .i64 0, .bool false, .slice none 0 0, .slice none 0 0, .slice none 0 0])]) (by simp)) (by simp) (.int .i64 xp) (.bool xl) (.slice x1 x2 x3) (.slice x4 x5 x6) (.slice x7 x8 x9)
            have hB7 := set5_below hBW3 (b := w.heap.size + 1) (by omega) (.int .i64 xp) (.bool xl) (.slice x1 x2 x3) (.slice x4 x5 x6) (.slice x7 x8 x9)
            have hN7 := NodeOn.mono hF3 (hn.agree (agree_set5 hne (.int .i64 xp) (.bool xl) (.slice x1 x2 x3) (.slice x4 x5 x6) (.slice x7 x8 x9)))
            have fin : Hid (NodeTo F (N + 2) w (topT (N + 1) t) (.returned (.agg #[.int .i64 xp, .bool xl, .slice x1 x2 x3, .slice x4 x5 x6, .slice x7 x8 x9])) (set5 _ (w.heap.size + 1) (.int .i64 xp) (.bool xl) (.slice x1 x2 x3) (.slice x4 x5 x6) (.slice x7 x8 x9))) := Lib.hid ⟨[.int .i64 xp, .bool xl, .slice x1 x2 x3, .slice x4 x5 x6, .slice x7 x8 x9], rfl, hN7, hB7⟩
            have t0 := hX7.cell 0 0 rfl rfl
            have t1 := hX7.cell 0 1 rfl rfl
            have t2 := hX7.cell 0 2 rfl rfl
            have t3 := hX7.cell 0 3 rfl rfl
            have t4 := hX7.cell 0 4 rfl rfl
            unfold set5 at t0 t1 t2 t3 t4
            have z0 := hX3.cell 0 0 rfl rfl
            have z1 := hX3.cell 0 1 rfl rfl
            have z2 := hX3.cell 0 2 rfl rfl
            have z3 := hX3.cell 0 3 rfl rfl
            have z4 := hX3.cell 0 4 rfl rfl
            have u0 := hX3.frozen 0 0 rfl
            have u1 := hX3.frozen 0 1 rfl
            have u2 := hX3.frozen 0 2 rfl
            have u3 := hX3.frozen 0 3 rfl
            have u4 := hX3.frozen 0 4 rfl
            clear hX7 hB7 hN7
            go_wp2_with fail
            refine bodyPost_ret (v := .agg #[.int .i64 xp, .bool xl, .slice x1 x2 x3, .slice x4 x5 x6, .slice x7 x8 x9]) (by simp [results, Try.results42, go_sem, t0, t1, t2, t3, t4]) rfl ?_
            exact fin.out
        | false =>
          have hcm : cn = m := HCN.out
          subst hcm
          go_enter Try.func42, Try.ntmps42
          go_wp2_with fail
          refine CS.mono ?_
          rintro e w1 ⟨v1, rfl, ho1, hb1⟩
          obtain ⟨sa, sc, rfl, hrow⟩ := Row.of_own ho1
          clear CS ho1
          go_wp2_with fail
          refine (at_any _ _ _ _ _ hrow hSm.out).mono ?_
          rintro e w2 ⟨rfl, hb2⟩
          have hbA := below_via hb1 hb2
          have hX2 := HX.out.step hbA
          have hBW := HB.out.trans (hbA.mono HB.out.size)
          have hz2 : w.heap.size + 2 ≤ w2.heap.size := Nat.le_trans hzA hbA.size
          clear hb1 hb2 hrow n0 n1 n2 n3 n4 hbA
          have n0 := hX2.cell 1 0 rfl rfl
          have n1 := hX2.cell 1 1 rfl rfl
          have n2 := hX2.cell 1 2 rfl rfl
          have n3 := hX2.cell 1 3 rfl rfl
          have n4 := hX2.cell 1 4 rfl rfl
          by_cases hat : atF S = 0
          · have HAT := Lib.hid hat
            have HTE : Hid (topT (N + 1) t = t) := Lib.hid (topT_same hrest.out (by rw [HS.out]; exact hat))
            rw [hat]
            clear hat
            have hX7 := set5_box (hX2.sub (m := [(w.heap.size + 1, [.int .i64 0, .bool false, .slice none 0 0, .slice none 0 0, .slice none 0 0])]) (by simp)) (by simp) (.int .i64 p) (.bool false) (.slice ka cn kc) (.slice va vn vc) (.slice ca cn cc)
            have hB7 := set5_below hBW (b := w.heap.size + 1) (by omega) (.int .i64 p) (.bool false) (.slice ka cn kc) (.slice va vn vc) (.slice ca cn cc)
            have hN7 := NodeOn.more (m := N + 2) (NodeOn.mono (G := Fr F w) (fun b h => .inl h.1) (HN.out.below hB7)) (by omega)
            rw [← HTE.out] at hN7
            have fin : Hid (NodeTo F (N + 2) w (topT (N + 1) t) (.returned (.agg #[.int .i64 p, .bool false, .slice ka cn kc, .slice va vn vc, .slice ca cn cc])) (set5 _ (w.heap.size + 1) (.int .i64 p) (.bool false) (.slice ka cn kc) (.slice va vn vc) (.slice ca cn cc))) := Lib.hid ⟨[.int .i64 p, .bool false, .slice ka cn kc, .slice va vn vc, .slice ca cn cc], rfl, hN7, hB7⟩
            have t0 := hX7.cell 0 0 rfl rfl
            have t1 := hX7.cell 0 1 rfl rfl
            have t2 := hX7.cell 0 2 rfl rfl
            have t3 := hX7.cell 0 3 rfl rfl
            have t4 := hX7.cell 0 4 rfl rfl
            unfold set5 at t0 t1 t2 t3 t4
            have z0 := hX2.cell 0 0 rfl rfl
            have z1 := hX2.cell 0 1 rfl rfl
            have z2 := hX2.cell 0 2 rfl rfl
            have z3 := hX2.cell 0 3 rfl rfl
            have z4 := hX2.cell 0 4 rfl rfl
            have u0 := hX2.frozen 0 0 rfl
            have u1 := hX2.frozen 0 1 rfl
            have u2 := hX2.frozen 0 2 rfl
            have u3 := hX2.frozen 0 3 rfl
            have u4 := hX2.frozen 0 4 rfl
            clear hX7 hB7 hN7
            go_wp2_with fail
            refine bodyPost_ret (v := .agg #[.int .i64 p, .bool false, .slice ka cn kc, .slice va vn vc, .slice ca cn cc]) (by simp [results, Try.results42, go_sem, t0, t1, t2, t3, t4]) rfl ?_
            exact fin.out
          · have HTE : Hid (topT (N + 1) t = mendT 0 [([], t)] 0) := Lib.hid (topT_mend hrest.out (by rw [HS.out]; exact hat))
            have hae : ((atF S : Int) == 0) = false := by simpa using hat
            generalize atF S = A at *
            clear hat
            have hSe : Calls Try.prog 44 #[.agg #[.int .i64 0, .bool false, .slice (some ⟨w2.heap.size, 0, none⟩) 1 1, .slice none 0 0, .slice (some ⟨w2.heap.size + 1, 0, none⟩) 1 1], .int .i64 0] ((w2.alloc (.cells #[.string ⟨#[]⟩] 9)).alloc (.cells #[.int .i64 p, .bool false, .slice ka cn kc, .slice va vn vc, .slice ca cn cc] 33)) (NodeTo (fun b => (F b ∧ b < w.heap.size) ∨ w.heap.size + 2 ≤ b) (N + 2) ((w2.alloc (.cells #[.string ⟨#[]⟩] 9)).alloc (.cells #[.int .i64 p, .bool false, .slice ka cn kc, .slice va vn vc, .slice ca cn cc] 33)) (mendT 0 [([], t)] 0)) := by
              have hW : Below w2.heap.size w2 ((w2.alloc (.cells #[.string ⟨#[]⟩] 9)).alloc (.cells #[.int .i64 p, .bool false, .slice ka cn kc, .slice va vn vc, .slice ca cn cc] 33)) := Below.al (Below.al (Below.refl _ _))
              obtain ⟨cN, hcN⟩ : ∃ c : Cl 5, c.1 = [.int .i64 p, .bool false, .slice ka cn kc, .slice va vn vc, .slice ca cn cc] := ⟨⟨[.int .i64 p, .bool false, .slice ka cn kc, .slice va vn vc, .slice ca cn cc], rfl, by intro u hu; simp at hu; rcases hu with rfl | rfl | rfl | rfl | rfl <;> rfl⟩, rfl⟩
              have hnode : NodeOn (fun b => (F b ∧ b < w.heap.size) ∨ w.heap.size + 2 ≤ b) (N + 2) ((w2.alloc (.cells #[.string ⟨#[]⟩] 9)).alloc (.cells #[.int .i64 p, .bool false, .slice ka cn kc, .slice va vn vc, .slice ca cn cc] 33)) [.int .i64 0, .bool false, .slice (some ⟨w2.heap.size, 0, none⟩) 1 1, .slice none 0 0, .slice (some ⟨w2.heap.size + 1, 0, none⟩) 1 1] (.node 0 [([], t)]) := by
                refine NodeOn.shut (V := []) (C := [cN]) rfl rfl (K := [kCell []]) rfl (raw_box (L := [kCell []]) (BoxAt.al BoxAt.here) (by simp)) (Raw.nil0 _ _) (raw_box (L := [cN]) (by simpa [flatC, hcN] using (BoxAt.here2 (w := w2) (o := .cells #[.string ⟨#[]⟩] 9) (cs := #[.int .i64 p, .bool false, .slice ka cn kc, .slice va vn vc, .slice ca cn cc]) (t := 33))) (by simp)) ?_ (Fa.zero _ _) ?_ ⟨tells_keys _, rfl, Tells.one ?_⟩
                · exact .inr fun b off e => by cases e; exact .inr (by omega)
                · exact .inr fun b off e => by cases e; exact .inr (by omega)
                · rw [hcN]
                  exact NodeOn.mono (fun b h => .inl h) (HN.out.below (hBW.trans (hW.mono hBW.size)))
              exact tmend_any hnode 0 (by simp) ⟨by simp, fun c hc => by simp at hc; subst hc; exact HO1.out, fun c hc d hd => by simp at hc hd; subst hc hd; rfl, fun c hc hl => by simp at hc; subst hc; exact HO2.out hl, fun j hj => by simp at hj⟩
            have hX2a : Boxes (w2.alloc (.cells #[.string ⟨#[]⟩] 9)) _ := Boxes.al hX2
            have s0 := hX2a.cell 1 0 rfl rfl
            have s1 := hX2a.cell 1 1 rfl rfl
            have s2 := hX2a.cell 1 2 rfl rfl
            have s3 := hX2a.cell 1 3 rfl rfl
            have s4 := hX2a.cell 1 4 rfl rfl
            go_wp2_with fail
            clear hX2a s0 s1 s2 s3 s4
            refine hSe.mono ?_
            rintro e w3 ⟨x, rfl, hn, hb3⟩
            obtain ⟨x1, x3, x4, x5, x6, x7, x8, x9, _, _, ex, _⟩ := NodeOn.open_pos hn
            subst ex
            rw [← HTE.out] at hn ⊢
            have hb3' : Below w2.heap.size w2 w3 := below_via (Below.al (Below.al (Below.refl _ _))) hb3
            have hX3 := hX2.step hb3'
            have hBW3 := hBW.trans (hb3'.mono hBW.size)
            have hne3 : ¬ Fr (fun b => (F b ∧ b < w.heap.size) ∨ w.heap.size + 2 ≤ b) ((w2.alloc (.cells #[.string ⟨#[]⟩] 9)).alloc (.cells #[.int .i64 p, .bool false, .slice ka cn kc, .slice va vn vc, .slice ca cn cc] 33)) (w.heap.size + 1) := fun h => by
              rcases h with h | h
              · omega
              · simp at h; omega
            have hF3 : ∀ b, Fr (fun b => (F b ∧ b < w.heap.size) ∨ w.heap.size + 2 ≤ b) ((w2.alloc (.cells #[.string ⟨#[]⟩] 9)).alloc (.cells #[.int .i64 p, .bool false, .slice ka cn kc, .slice va vn vc, .slice ca cn cc] 33)) b → Fr F w b := fun b h => by
              rcases h with h | h
              · rcases h with h | h; exact .inl h.1; exact .inr (by omega)
              · simp at h; exact .inr (by omega)
            have hne := hne3
            generalize (topT (N + 1) t).page = xp at *
            generalize (topT (N + 1) t).isLeaf = xl at *
            generalize cntT (topT (N + 1) t) = x2 at *
            clear hSe n0 n1 n2 n3 n4
            have hX7 := set5_box (hX3.sub (m := [(w.heap.size + 1, [.int .i64 0, .bool false, .slice none 0 0, .slice none 0 0, .slice none 0 0])]) (by simp)) (by simp) (.int .i64 xp) (.bool xl) (.slice x1 x2 x3) (.slice x4 x5 x6) (.slice x7 x8 x9)
            have hB7 := set5_below hBW3 (b := w.heap.size + 1) (by omega) (.int .i64 xp) (.bool xl) (.slice x1 x2 x3) (.slice x4 x5 x6) (.slice x7 x8 x9)
            have hN7 := NodeOn.mono hF3 (hn.agree (agree_set5 hne (.int .i64 xp) (.bool xl) (.slice x1 x2 x3) (.slice x4 x5 x6) (.slice x7 x8 x9)))
            have fin : Hid (NodeTo F (N + 2) w (topT (N + 1) t) (.returned (.agg #[.int .i64 xp, .bool xl, .slice x1 x2 x3, .slice x4 x5 x6, .slice x7 x8 x9])) (set5 _ (w.heap.size + 1) (.int .i64 xp) (.bool xl) (.slice x1 x2 x3) (.slice x4 x5 x6) (.slice x7 x8 x9))) := Lib.hid ⟨[.int .i64 xp, .bool xl, .slice x1 x2 x3, .slice x4 x5 x6, .slice x7 x8 x9], rfl, hN7, hB7⟩
            have t0 := hX7.cell 0 0 rfl rfl
            have t1 := hX7.cell 0 1 rfl rfl
            have t2 := hX7.cell 0 2 rfl rfl
            have t3 := hX7.cell 0 3 rfl rfl
            have t4 := hX7.cell 0 4 rfl rfl
            unfold set5 at t0 t1 t2 t3 t4
            have z0 := hX3.cell 0 0 rfl rfl
            have z1 := hX3.cell 0 1 rfl rfl
            have z2 := hX3.cell 0 2 rfl rfl
            have z3 := hX3.cell 0 3 rfl rfl
            have z4 := hX3.cell 0 4 rfl rfl
            have u0 := hX3.frozen 0 0 rfl
            have u1 := hX3.frozen 0 1 rfl
            have u2 := hX3.frozen 0 2 rfl
            have u3 := hX3.frozen 0 3 rfl
            have u4 := hX3.frozen 0 4 rfl
            clear hX7 hB7 hN7
            go_wp2_with fail
            refine bodyPost_ret (v := .agg #[.int .i64 xp, .bool xl, .slice x1 x2 x3, .slice x4 x5 x6, .slice x7 x8 x9]) (by simp [results, Try.results42, go_sem, t0, t1, t2, t3, t4]) rfl ?_
            exact fin.out
end Go.Proofs.Ytemfnjlfcemehaa

/- Worlds that have the same but of one block: words for walks that end in a store; what a put asks. -/
namespace Go.Proofs.Ytemfnjlfcemehaa
open Go.RowKit

theorem AgreeF.refl {F : Nat → Prop} (w : World) : AgreeF F w w := ⟨Nat.le_refl _, fun _ _ _ => rfl⟩
theorem AgreeF.below {F : Nat → Prop} {a w w' : World} (h : AgreeF F a w) (hb : Below w.heap.size w w') : AgreeF F a w' := h.trans (.of_below hb)
theorem AgreeF.al {F : Nat → Prop} {a w : World} {o : Obj} (h : AgreeF F a w) : AgreeF F a (w.alloc o) := h.below (Below.al (Below.refl _ _))
theorem AgreeF.dr {F : Nat → Prop} {a w : World} (h : AgreeF F a w) : AgreeF F a w.drew := h
theorem AgreeF.st {r : Nat} {a w : World} {i : Nat} {u : Value} (h : AgreeF (fun b => b ≠ r) a w) : AgreeF (fun b => b ≠ r) a (w.setCell ⟨r, i, none⟩ u) := h.set (.inl fun h => h rfl)
theorem AgreeF.boxes {r : Nat} {a w : World} {l : List (Nat × List Value)} (h : AgreeF (fun b => b ≠ r) a w) (hx : Boxes a l) (hl : ∀ p ∈ l, p.1 ≠ r) : Boxes w l := by
  intro p hp
  obtain ⟨t, ht⟩ := hx p hp
  exact ⟨t, (h.2 p.1 (hl p hp) (Array.getElem?_eq_some_iff.1 ht).1).trans ht⟩
/-- What a put asks of a tree. -/
def PutOk : Nat → Tr → List UInt8 → Tv → Prop
  | 0, _, _, _ => False
  | _ + 1, .leaf _ l, _, _ => l.length ≤ 900 ∧ (keysOf l).Pairwise (fun a b => a < b)
  | n + 1, .node _ l, key, v => 0 < l.length ∧ l.length ≤ 1000 ∧ PutOk n (kidAt l (wayF (keysOf l) key)) key v ∧ ∃ m, n = m + 1 ∧ MendOk m (l.set (wayF (keysOf l) key) (keyAt l (wayF (keysOf l) key), putT n (kidAt l (wayF (keysOf l) key)) key v))
theorem set_keys {l : List (List UInt8 × Tr)} {k : Nat} (hk : k < l.length) (t : Tr) : keysOf (l.set k (keyAt l k, t)) = keysOf l := by
  obtain ⟨a, c, b, rfl, rfl⟩ := list_at hk
  rw [keyAt_at, List.set_append_right _ _ (Nat.le_refl _), Nat.sub_self, List.set_cons_zero]
  simp [keysOf]
theorem setR {F : Nat → Prop} {n : Nat} {w : World} {p : Int} {l : List (List UInt8 × Tr)} {k : Nat} {K : List (Cl 1)} {V : List (Cl 2)} {C : List (Cl 5)} {B : Cl 5} {t : Tr} (h : NodeRF F n w K V C (.node p l)) (hk : k < l.length) (hB : NodeOn F n w B.1 t) :
    NodeRF F n w ((keysOf (l.set k (keyAt l k, t))).map kCell) [] (swapL C k 1 [B]) (.node 0 (l.set k (keyAt l k, t))) := by
  obtain ⟨a, c, b, rfl, rfl⟩ := list_at hk
  rw [keyAt_at, List.set_append_right _ _ (Nat.le_refl _), Nat.sub_self, List.set_cons_zero]
  refine ⟨tells_keys _, rfl, ?_⟩
  have := (h.2.2).swap (Tells.one hB) a.length 1
  have h2 : (a.map (·.2)).length = a.length := by simp
  simpa [swapL, mid_drop h2] using this
theorem wayF_lt {ks : List (List UInt8)} (key : List UInt8) (h : 0 < ks.length) : wayF ks key < ks.length := (wayF_spec (key := key) (List.length_pos_iff.1 h)).1
def oldN (b : Bool) : Nat := if b then 1 else 0
theorem putL_swap (key : List UInt8) (v : Tv) (l : List (List UInt8 × Tv)) : putL key v l = swapL l (posK key (keysOf l)) (oldN (hasK key (keysOf l))) [(key, v)] := by
  rw [putL_pos]; rfl
theorem pos_old {key : List UInt8} {ks : List (List UInt8)} : posK key ks + oldN (hasK key ks) ≤ ks.length := by
  have := posK_le key ks
  unfold oldN
  split
  · rename_i h
    unfold hasK at h
    by_cases hp : posK key ks < ks.length
    · omega
    · rw [List.getElem?_eq_none (by omega)] at h; simp at h
  · omega
def vCell (v : List UInt8) : Cl 2 := ⟨[.string (strOf v), .slice none 0 0], rfl, by intro u hu; simp at hu; rcases hu with rfl | rfl <;> rfl⟩
theorem vCell_is (F : Nat → Prop) (w : World) (d : List UInt8) : TvOn F w (vCell d).1 ⟨d, []⟩ := ⟨none, 0, 0, rfl, ⟨rfl, Nat.le_refl _, by unfold maxLen; omega, fun _ => rfl, .inl rfl⟩, Fa.zero _ _⟩
theorem putR {F : Nat → Prop} {n : Nat} {w : World} {p : Int} {l : List (List UInt8 × Tv)} {K : List (Cl 1)} {V : List (Cl 2)} {C : List (Cl 5)} (key d : List UInt8) (h : NodeRF F n w K V C (.leaf p l)) :
    NodeRF F n w ((keysOf (putL key ⟨d, []⟩ l)).map kCell) (swapL V (posK key (keysOf l)) (oldN (hasK key (keysOf l))) [vCell d]) [] (.leaf 0 (putL key ⟨d, []⟩ l)) ∧ keysOf (putL key ⟨d, []⟩ l) = swapL (keysOf l) (posK key (keysOf l)) (oldN (hasK key (keysOf l))) [key] := by
  rw [putL_swap]
  refine ⟨⟨tells_keys _, ?_, rfl⟩, ?_⟩
  · rw [swap_map]; exact (h.2.1).swap (Tells.one (vCell_is F w d)) _ _
  · unfold keysOf; rw [swap_map]; rfl
/-- A node that a call answers, its cells told. -/
def NodeGo (G : Nat → Prop) (n : Nat) (W : World) (T : Tr) (e : Ending) (w' : World) : Prop :=
  ∃ p l a k c a2 n2 c2 a3 n3 c3, e = .returned (.agg #[.int .i64 p, .bool l, .slice a k c, .slice a2 n2 c2, .slice a3 n3 c3]) ∧ NodeOn G n w' [.int .i64 p, .bool l, .slice a k c, .slice a2 n2 c2, .slice a3 n3 c3] T ∧ Below W.heap.size W w'
theorem NodeTo.go {F G : Nat → Prop} {n : Nat} {W : World} {T : Tr} {e : Ending} {w' : World} (h : NodeTo F n W T e w') (hG : ∀ b, Fr F W b → G b) : NodeGo G n W T e w' := by
  obtain ⟨x, rfl, hn, hb⟩ := h
  obtain ⟨g1, g2, g3, g4, g5, g6, g7, g8, _, _, ey, _⟩ := NodeOn.open_pos hn
  subst ey
  exact ⟨_, _, _, _, _, _, _, _, _, _, _, rfl, NodeOn.mono hG hn, hb⟩
/-- A walk's end: five cells stored into the result's box. -/
theorem node_end {F : Nat → Prop} {n : Nat} {w w3 : World} {T : Tr} {p : Int} {l : Bool} {a : Option Addr} {k c : Nat} {a2 : Option Addr} {n2 c2 : Nat} {a3 : Option Addr} {n3 c3 : Nat} {x0 x1 x2 x3 x4 : Value} (hB : Below w.heap.size w w3) (hX : Boxes w3 [(w.heap.size + 1, [x0, x1, x2, x3, x4])])
    (hn : NodeOn (fun b => (F b ∧ b < w.heap.size) ∨ w.heap.size + 2 ≤ b) n w3 [.int .i64 p, .bool l, .slice a k c, .slice a2 n2 c2, .slice a3 n3 c3] T) :
    Boxes (set5 w3 (w.heap.size + 1) (.int .i64 p) (.bool l) (.slice a k c) (.slice a2 n2 c2) (.slice a3 n3 c3)) [(w.heap.size + 1, [.int .i64 p, .bool l, .slice a k c, .slice a2 n2 c2, .slice a3 n3 c3])] ∧
    NodeTo F n w T (.returned (.agg #[.int .i64 p, .bool l, .slice a k c, .slice a2 n2 c2, .slice a3 n3 c3])) (set5 w3 (w.heap.size + 1) (.int .i64 p) (.bool l) (.slice a k c) (.slice a2 n2 c2) (.slice a3 n3 c3)) := by
  have hne : ¬ ((F (w.heap.size + 1) ∧ w.heap.size + 1 < w.heap.size) ∨ w.heap.size + 2 ≤ w.heap.size + 1) := by omega
  refine ⟨set5_box hX (by simp) _ _ _ _ _, [.int .i64 p, .bool l, .slice a k c, .slice a2 n2 c2, .slice a3 n3 c3], rfl, NodeOn.mono (fun b h => ?_) (hn.agree (agree_set5 hne _ _ _ _ _)), set5_below hB (by omega) _ _ _ _ _⟩
  rcases h with h | h
  · exact .inl h.1
  · exact .inr (by omega)
end Go.Proofs.Ytemfnjlfcemehaa

/- The laws' own functions of the chapters on trees: puts, steps; small, value (printed by gen_trePt.py). -/
namespace Go.Proofs.Ytemfnjlfcemehaa
open Go.RowKit

def fillT (f : UInt8) (n : Nat) : List UInt8 := List.replicate n f
def partF (f : UInt8) (n k : Nat) : List UInt8 := List.replicate k f ++ List.replicate (n - k) 0
theorem set_partF (f : UInt8) (n k : Nat) (h : k < n) : (partF f n k).set k f = partF f n (k + 1) := by
  unfold partF
  rw [List.set_append_right _ _ (by simp), List.length_replicate, Nat.sub_self]
  obtain ⟨m, hm⟩ : ∃ m, n - k = m + 1 := ⟨n - k - 1, by omega⟩
  rw [hm, List.replicate_succ, List.set_cons_zero, show n - (k + 1) = m by omega, List.replicate_succ', List.append_assoc]
  rfl
/-- A put. -/
structure Pt where
  key : List UInt8
  fill : UInt8
  size : Int
def ptC (y : Pt) : List Value := [.string (strOf y.key), .int .u8 (y.fill.toNat : Int), .int .i64 y.size]
def IsPt (cs : List Value) (y : Pt) : Prop := cs = ptC y
def Pts (w : World) (a : Option Addr) (n c : Nat) (l : List Pt) : Prop := TabR 3 IsPt w a n c l
def okP (y : Pt) : Bool := (y.key != []) && (decide (y.key.length ≤ 16) && (decide (0 ≤ y.size) && decide (y.size ≤ 400)))
def smallP (l : List Pt) : Bool := l.all okP && decide (l.length ≤ 80)
/-- A step. -/
structure St where
  key : List UInt8
  size : Int
def stC (y : St) : List Value := [.string (strOf y.key), .int .i64 y.size]
def IsSt (cs : List Value) (y : St) : Prop := cs = stC y
def Sts (w : World) (a : Option Addr) (n c : Nat) (l : List St) : Prop := TabR 2 IsSt w a n c l
def okS (y : St) : Bool := (y.key != []) && (decide (y.key.length ≤ 16) && decide (y.size ≤ 400))
def smallS (l : List St) : Bool := l.all okS && decide (l.length ≤ 120)
theorem Pts.at {w : World} {a : Option Addr} {n c : Nat} {l : List Pt} (h : Pts w a n c l) {k : Nat} (hk : k < n) :
    ∃ b off y, a = some ⟨b, off, none⟩ ∧ b < w.heap.size ∧ l[k]? = some y ∧ w.cell? ⟨b, off + k * 3, none⟩ = some (.string (strOf y.key)) ∧ w.cell? ⟨b, off + k * 3 + 1, none⟩ = some (.int .u8 (y.fill.toNat : Int)) ∧ w.cell? ⟨b, off + k * 3 + 2, none⟩ = some (.int .i64 y.size) := by
  obtain ⟨b, off, y, cs, e1, e2, e3, _, e5, e6⟩ := TabR.at h hk
  obtain rfl : cs = ptC y := e5
  exact ⟨b, off, y, e1, e2, e3, e6 0 _ rfl, e6 1 _ rfl, e6 2 _ rfl⟩
theorem Sts.at {w : World} {a : Option Addr} {n c : Nat} {l : List St} (h : Sts w a n c l) {k : Nat} (hk : k < n) :
    ∃ b off y, a = some ⟨b, off, none⟩ ∧ b < w.heap.size ∧ l[k]? = some y ∧ w.cell? ⟨b, off + k * 2, none⟩ = some (.string (strOf y.key)) ∧ w.cell? ⟨b, off + k * 2 + 1, none⟩ = some (.int .i64 y.size) := by
  obtain ⟨b, off, y, cs, e1, e2, e3, _, e5, e6⟩ := TabR.at h hk
  obtain rfl : cs = stC y := e5
  exact ⟨b, off, y, e1, e2, e3, e6 0 _ rfl, e6 1 _ rfl⟩
theorem all_bad {α : Type} {p : α → Bool} {l : List α} {i : Nat} {y : α} (hy : l[i]? = some y) (hp : p y = false) : l.all p = false := by
  rw [List.all_eq_false]
  exact ⟨y, List.mem_of_getElem? hy, by rw [hp]; decide⟩
theorem all_next {α : Type} {p : α → Bool} {l : List α} {i : Nat} {y : α} (hy : l[i]? = some y) (hp : p y = true) (h : (l.take i).all p = true) : (l.take (i + 1)).all p = true := by
  rw [List.take_add_one, hy, List.all_append, h]
  simp [hp]
theorem all_whole {α : Type} {p : α → Bool} {l : List α} {n : Nat} (hn : l.length ≤ n) (h : (l.take n).all p = true) : l.all p = true := by
  rwa [List.take_of_length_le hn] at h

set_option maxRecDepth 100000 in
set_option maxHeartbeats 1000000 in
theorem small15_any {w : World} {a : Option Addr} {n c : Nat} {l : List Pt} (h : Pts w a n c l) :
    Calls Try.prog 30 #[.slice a n c] w fun e w' => e = .returned (.bool (smallP l)) ∧ w' = w := by
  obtain ⟨e1, e2, e3⟩ := TabR.lens h
  have H := Lib.hid h
  have HL := Lib.hid e1
  clear h e1
  go_enter Try.func30, Try.ntmps30
  go_wp2
  go_loopw [3] (fun s wr => ∃ i : Nat, i ≤ n ∧ s = .int .i64 i ∧ wr = w ∧ (l.take i).all okP = true) (fun s _ => n - (intOf s).toNat)
  case atStart => exact ⟨0, Nat.zero_le _, rfl, rfl, rfl⟩
  case round =>
    obtain ⟨i, hi, rfl, rfl, hall⟩ := hrel
    by_cases hlt : i < n
    · obtain ⟨b, off, y, rfl, hbb, hy, c0, c1, c2⟩ := H.out.at hlt
      have HG : Hid (okP y = true → (l.take (i + 1)).all okP = true) := Lib.hid (fun hp => all_next hy hp hall)
      have HBAD : Hid (okP y = false → smallP l = false) := Lib.hid (fun hp => by unfold smallP; rw [all_bad hy hp]; rfl)
      obtain ⟨k, fi, sz⟩ := y
      clear hy hall
      have hsz := strOf_size k
      obtain ⟨m, hm⟩ : ∃ m, k.length = m := ⟨_, rfl⟩
      rw [hm] at hsz
      have HM := Lib.hid hm
      clear hm
      by_cases kb : k = []
      · have f1 := str_empty kb
        have hs := HBAD.out (by unfold okP; simp [kb])
        have HS := Lib.hid hs
        clear kb HG HBAD hs
        go_wp2
        go_ret
        exact ⟨ret_bool HS.out.symm, rfl⟩
      · have f1 := str_some kb
        by_cases k16 : m ≤ 16
        · have d1 : decide ((16 : Int) < m) = false := by simp; omega
          have d1' : decide (16 < m) = false := by simp; omega
          by_cases s0 : 0 ≤ sz
          · have d3 : decide (sz < (0 : Int)) = false := by simp; omega
            by_cases s4 : sz ≤ 400
            · have d4 : decide ((400 : Int) < sz) = false := by simp; omega
              have HR := Lib.hid (HG.out (by unfold okP; simp [kb, HM.out, k16, s4, s0]))
              clear kb HG HBAD k16
              go_wp2
              go_roundw
              case rel => exact ⟨i + 1, hlt, by go_num, by first | rfl | trivial, HR.out⟩
              case measure => simp [intOf]; omega
            · have d4 : decide ((400 : Int) < sz) = true := by simp; omega
              have hs := HBAD.out (by unfold okP; simp [s4])
              have HS := Lib.hid hs
              clear kb HG HBAD hs k16 s4
              go_wp2
              go_ret
              exact ⟨ret_bool HS.out.symm, rfl⟩
          · have d3 : decide (sz < (0 : Int)) = true := by simp; omega
            have hs := HBAD.out (by unfold okP; simp [s0])
            have HS := Lib.hid hs
            clear kb HG HBAD hs k16 s0
            go_wp2
            go_ret
            exact ⟨ret_bool HS.out.symm, rfl⟩
        · have d1 : decide ((16 : Int) < m) = true := by simp; omega
          have d1' : decide (16 < m) = true := by simp; omega
          have hs := HBAD.out (by unfold okP; simp [HM.out, k16])
          have HS := Lib.hid hs
          clear kb HG HBAD hs k16
          go_wp2
          go_ret
          exact ⟨ret_bool HS.out.symm, rfl⟩
    · obtain rfl : i = n := by omega
      have hs : smallP l = decide (i ≤ 80) := by
        unfold smallP
        rw [all_whole (by rw [HL.out]; exact Nat.le_refl _) hall, HL.out, Bool.true_and]
      have HS := Lib.hid hs
      clear hall hs
      by_cases hl : i ≤ 80
      · have d2 : decide ((i : Int) ≤ 80) = true := by simp; omega
        have d2' : decide (i ≤ 80) = true := by simp; omega
        go_wp2
        go_ret
        exact ⟨ret_bool (by rw [HS.out, d2']), rfl⟩
      · have d2 : decide ((i : Int) ≤ 80) = false := by simp; omega
        have d2' : decide (i ≤ 80) = false := by simp; omega
        go_wp2
        go_ret
        exact ⟨ret_bool (by rw [HS.out, d2']), rfl⟩

set_option maxRecDepth 100000 in
set_option maxHeartbeats 1000000 in
theorem small16_any {w : World} {a : Option Addr} {n c : Nat} {l : List St} (h : Sts w a n c l) :
    Calls Try.prog 49 #[.slice a n c] w fun e w' => e = .returned (.bool (smallS l)) ∧ w' = w := by
  obtain ⟨e1, e2, e3⟩ := TabR.lens h
  have H := Lib.hid h
  have HL := Lib.hid e1
  clear h e1
  go_enter Try.func49, Try.ntmps49
  go_wp2
  go_loopw [3] (fun s wr => ∃ i : Nat, i ≤ n ∧ s = .int .i64 i ∧ wr = w ∧ (l.take i).all okS = true) (fun s _ => n - (intOf s).toNat)
  case atStart => exact ⟨0, Nat.zero_le _, rfl, rfl, rfl⟩
  case round =>
    obtain ⟨i, hi, rfl, rfl, hall⟩ := hrel
    by_cases hlt : i < n
    · obtain ⟨b, off, y, rfl, hbb, hy, c0, c1⟩ := H.out.at hlt
      have HG : Hid (okS y = true → (l.take (i + 1)).all okS = true) := Lib.hid (fun hp => all_next hy hp hall)
      have HBAD : Hid (okS y = false → smallS l = false) := Lib.hid (fun hp => by unfold smallS; rw [all_bad hy hp]; rfl)
      obtain ⟨k, sz⟩ := y
      clear hy hall
      have hsz := strOf_size k
      obtain ⟨m, hm⟩ : ∃ m, k.length = m := ⟨_, rfl⟩
      rw [hm] at hsz
      have HM := Lib.hid hm
      clear hm
      by_cases kb : k = []
      · have f1 := str_empty kb
        have hs := HBAD.out (by unfold okS; simp [kb])
        have HS := Lib.hid hs
        clear kb HG HBAD hs
        go_wp2
        go_ret
        exact ⟨ret_bool HS.out.symm, rfl⟩
      · have f1 := str_some kb
        by_cases k16 : m ≤ 16
        · have d1 : decide ((16 : Int) < m) = false := by simp; omega
          have d1' : decide (16 < m) = false := by simp; omega
          by_cases s4 : sz ≤ 400
          · have d4 : decide ((400 : Int) < sz) = false := by simp; omega
            have HR := Lib.hid (HG.out (by unfold okS; simp [kb, HM.out, k16, s4]))
            clear kb HG HBAD k16
            go_wp2
            go_roundw
            case rel => exact ⟨i + 1, hlt, by go_num, by first | rfl | trivial, HR.out⟩
            case measure => simp [intOf]; omega
          · have d4 : decide ((400 : Int) < sz) = true := by simp; omega
            have hs := HBAD.out (by unfold okS; simp [s4])
            have HS := Lib.hid hs
            clear kb HG HBAD hs k16 s4
            go_wp2
            go_ret
            exact ⟨ret_bool HS.out.symm, rfl⟩
        · have d1 : decide ((16 : Int) < m) = true := by simp; omega
          have d1' : decide (16 < m) = true := by simp; omega
          have hs := HBAD.out (by unfold okS; simp [HM.out, k16])
          have HS := Lib.hid hs
          clear kb HG HBAD hs k16
          go_wp2
          go_ret
          exact ⟨ret_bool HS.out.symm, rfl⟩
    · obtain rfl : i = n := by omega
      have hs : smallS l = decide (i ≤ 120) := by
        unfold smallS
        rw [all_whole (by rw [HL.out]; exact Nat.le_refl _) hall, HL.out, Bool.true_and]
      have HS := Lib.hid hs
      clear hall hs
      by_cases hl : i ≤ 120
      · have d2 : decide ((i : Int) ≤ 120) = true := by simp; omega
        have d2' : decide (i ≤ 120) = true := by simp; omega
        go_wp2
        go_ret
        exact ⟨ret_bool (by rw [HS.out, d2']), rfl⟩
      · have d2 : decide ((i : Int) ≤ 120) = false := by simp; omega
        have d2' : decide (i ≤ 120) = false := by simp; omega
        go_wp2
        go_ret
        exact ⟨ret_bool (by rw [HS.out, d2']), rfl⟩

theorem info_b : (Try.prog.info? 5).map (fun i => (i.zero, i.size, i.bytes)) = some (some (.int .u8 0), 1, 1) := by kernel_rfl
set_option maxRecDepth 100000 in
set_option maxHeartbeats 1000000 in
theorem value16_any (n : Nat) (hn : n ≤ 400) (w : World) : Calls Try.prog 50 #[.int .i64 n] w fun e w' => e = .returned (.string (strOf (fillT 0 n))) ∧ Below w.heap.size w w' := by
  obtain ⟨i0, hi, hz0, hz1, hz2⟩ := info_parts info_b
  go_enter Try.func50, Try.ntmps50
  go_wp2_with (at_make; refine wpList_make_full _ rfl _ _ 72 rfl w.heap.size 5 i0 _ 1 Try.underlying72 hi hz0 hz1 .i64 .i64 _ _ n rfl rfl rfl rfl (by rw [hz2]; omega) (by unfold maxLen; omega) (by simp) ?_)
  intro w1 hown hg
  have hB : Below w.heap.size w w1 := (Below.refl _ _).grown hg (Nat.le_refl _) (fun k e => by cases e)
  have hown' : w1.ownsRow w.heap.size 5 1 (.slice (some ⟨w.heap.size, 0, none⟩) n n) n ((toI (fillT 0 n)).map (Value.int .u8)) := by
    simp only [made_list] at hown
    simpa [toI, fillT] using hown
  have hcv := conv_string Try.underlying72 Try.underlying5 Try.underlying9 (Bs.own hown')
  have HB := Lib.hid hB
  clear hown hg hown' hB
  go_wp2
  go_ret
  exact ⟨rfl, HB.out⟩
set_option maxRecDepth 100000 in
set_option maxHeartbeats 1000000 in
theorem value15_any (y : Pt) (n : Nat) (hy : y.size = n) (hn : n ≤ 400) (w : World) : Calls Try.prog 34 #[.agg (ptC y).toArray] w fun e w' => e = .returned (.string (strOf (fillT y.fill n))) ∧ Below w.heap.size w w' := by
  obtain ⟨i0, hi, hz0, hz1, hz2⟩ := info_parts info_b
  obtain ⟨key, f, sz⟩ := y
  have hy : sz = n := hy
  subst hy
  have hX0 := (Boxes.nil w).alloc #[.string (strOf key), .int .u8 (f.toNat : Int), .int .i64 n] 64 (b := w.heap.size) rfl
  have hB0 : Below w.heap.size w (w.alloc (.cells #[.string (strOf key), .int .u8 (f.toNat : Int), .int .i64 n] 64)) := Below.al (Below.refl _ _)
  have q2 := hX0.cell 0 2 rfl rfl
  show Calls _ _ #[.agg #[.string (strOf key), .int .u8 (f.toNat : Int), .int .i64 n]] _ _
  go_enter Try.func34, Try.ntmps34
  go_wp2_with (at_make; refine wpList_make_full _ rfl _ _ 72 rfl w.heap.size 5 i0 _ 1 Try.underlying72 hi hz0 hz1 .i64 .i64 _ _ n rfl rfl rfl rfl (by rw [hz2]; omega) (by unfold maxLen; omega) (by simp) ?_)
  intro w1 hown hg
  have hB := hB0.grown hg (by simp) (fun k e => by cases e)
  have hX1 := hX0.grown hg (by intro p _ e; cases e)
  have hown' : w1.ownsRow w.heap.size 5 1 (.slice (some ⟨w.heap.size + 1, 0, none⟩) n n) n ((toI (partF f n 0)).map (Value.int .u8)) := by
    simp only [made_list] at hown
    simpa [toI, partF] using hown
  clear hown hg hB0 hX0 q2
  go_wp2
  go_loopw [4] (fun i wr => ∃ k : Nat, k ≤ n ∧ i = .int .i64 k ∧ wr.ownsRow w.heap.size 5 1 (.slice (some ⟨w.heap.size + 1, 0, none⟩) n n) n ((toI (partF f n k)).map (Value.int .u8)) ∧ Below w.heap.size w wr ∧ Boxes wr [(w.heap.size, [.string (strOf key), .int .u8 (f.toNat : Int), .int .i64 n])]) (fun i _ => n - (intOf i).toNat)
  case atStart => exact ⟨0, Nat.zero_le _, rfl, hown', hB, hX1⟩
  case round =>
    clear hown' hB hX1
    obtain ⟨k, hk, rfl, hr, hb, hx⟩ := hrel
    have b1 := hx.cell 0 1 rfl rfl
    have b2 := hx.cell 0 2 rfl rfl
    by_cases hlt : k < n
    · have hc := hr.cellAt k (by omega)
      have hf := hr.frozenAt k
      have hst := hr.stored k (.int .u8 (f.toNat : Int))
      have hlist : ((toI (partF f n k)).map (Value.int .u8)).set k (.int .u8 (f.toNat : Int)) = (toI (partF f n (k + 1))).map (Value.int .u8) := by
        rw [← set_partF f n k hlt]
        simp only [toI, List.map_set]
      rw [hlist] at hst
      have hst := hst.1
      clear hlist
      rw [List.getElem?_map, toI, List.getElem?_map] at hc
      have hc' : ∃ v, wr.cell? ⟨w.heap.size + 1, k, none⟩ = some v := by
        rw [hc, partF, List.getElem?_append_right (by simp), List.length_replicate, Nat.sub_self, List.getElem?_replicate, if_pos (by omega)]
        exact ⟨_, rfl⟩
      obtain ⟨v0, hc'⟩ := hc'
      clear hc
      have HS := Lib.hid hst
      have HX := Lib.hid (hx.set ⟨w.heap.size + 1, k, none⟩ (.int .u8 (f.toNat : Int)) (by intro p hp; simp at hp; subst hp; simp))
      have HB := Lib.hid (hb.setCell (p := ⟨w.heap.size + 1, k, none⟩) (by simp) (.int .u8 (f.toNat : Int)))
      clear hst hx hr hb
      go_wp2
      go_roundw
      case rel => exact ⟨k + 1, by omega, by go_num, HS.out, HB.out, HX.out⟩
      case measure => simp [intOf]; omega
    · obtain rfl : k = n := by omega
      have hfe : partF f k k = fillT f k := by unfold partF fillT; rw [Nat.sub_self, List.replicate_zero, List.append_nil]
      have hr' : wr.ownsRow w.heap.size 5 1 (.slice (some ⟨w.heap.size + 1, 0, none⟩) k k) k ((toI (fillT f k)).map (Value.int .u8)) := by
        rw [← hfe]; exact hr
      have hcv := conv_string Try.underlying72 Try.underlying5 Try.underlying9 (Bs.own hr')
      have HB := Lib.hid hb
      clear hfe hr hr' hx hb
      go_wp2
      go_ret
      exact ⟨rfl, HB.out⟩
end Go.Proofs.Ytemfnjlfcemehaa

/- Trees that may be, without a key; the top once more; entries of the top: plain laws. -/
namespace Go.Proofs.Ytemfnjlfcemehaa

/-! entries, whatever the fuel -/
theorem kids_each {P : List UInt8 → List UInt8 → Tr → Prop} : ∀ {l : List (List UInt8 × Tr)} {lo hi : List UInt8}, KidsP P lo hi l → ∀ c ∈ l, ∃ lo' hi', P lo' hi' c.2
  | [c], lo, hi, h, d, hd => by
    rcases List.mem_cons.1 hd with rfl | hd
    · exact ⟨_, _, h⟩
    · cases hd
  | c :: e :: r, lo, hi, h, d, hd => by
    rcases List.mem_cons.1 hd with rfl | hd
    · exact ⟨_, _, h.1⟩
    · exact kids_each h.2.2.2.2 d hd
theorem flatMap_same {α β : Type} {f g : α → List β} : ∀ {l : List α}, (∀ x ∈ l, f x = g x) → l.flatMap f = l.flatMap g
  | [], _ => rfl
  | x :: r, h => by
    rw [List.flatMap_cons, List.flatMap_cons, h x (by simp), flatMap_same (fun y hy => h y (by simp [hy]))]
theorem ents_more : ∀ {n m : Nat} {lo hi : List UInt8} {t : Tr}, Shape n lo hi t → n ≤ m → entsT m t = entsT n t
  | 0, _, _, _, _, h, _ => h.elim
  | _ + 1, 0, _, _, _, _, h => by omega
  | _ + 1, _ + 1, _, _, .leaf p l, _, _ => rfl
  | n + 1, m + 1, lo, hi, .node p l, h, hm => by
    rw [ents_node, ents_node]
    refine flatMap_same (fun c hc => ?_)
    obtain ⟨lo', hi', hg⟩ := kids_each (shape_kids h).1 c hc
    exact ents_more hg.1 (by omega)
theorem ents_top : ∀ {N n : Nat} {t : Tr}, Shape n [] [] t → n ≤ N → entsT (N + 1) (topT N t) = entsT n t
  | 0, n, _, h, hn => by
    obtain rfl : n = 0 := by omega
    exact h.elim
  | N + 1, 0, _, h, hn => h.elim
  | N + 1, n + 1, .leaf p l, h, hn => by
    unfold topT
    split
    · rfl
    · rw [show ([([], Tr.leaf p l)] : List (List UInt8 × Tr)) = [] ++ ([], Tr.leaf p l) :: [] from rfl]
      have := ents_mend (n := N) (p := 0) (a := []) (b := []) (k := []) (t := .leaf p l) (by intro c hc; simp at hc; rw [hc])
      rw [List.length_nil] at this
      rw [this]
      simp [entsK, entsT]
  | N + 1, n + 1, .node p l, h, hn => by
    unfold topT
    split
    · rename_i h1
      obtain ⟨c, rfl⟩ := List.length_eq_one_iff.1 h1
      have hg : Good n [] [] c.2 := (shape_kids h).1
      have e : entsT (n + 1) (.node p [c]) = entsT n c.2 := by rw [ents_node]; simp [entsK]
      have e2 : kidAt [c] 0 = c.2 := rfl
      rw [e, e2]
      have h3 := ents_top hg.1 (show n ≤ N by omega)
      obtain ⟨m, hm1, hm2⟩ := top_ok hg.1 (by have := hg.2.2; omega) (show n ≤ N by omega)
      rw [← h3]
      rw [ents_more hm2.1 (show m ≤ N + 1 + 1 by omega), ents_more hm2.1 (show m ≤ N + 1 by omega)]
    · split
      · exact ents_more h (by omega)
      · rw [show ([([], Tr.node p l)] : List (List UInt8 × Tr)) = [] ++ ([], Tr.node p l) :: [] from rfl]
        have := ents_mend (n := N) (p := 0) (a := []) (b := []) (k := []) (t := .node p l) (by intro c hc; simp at hc; rw [hc])
        rw [List.length_nil] at this
        rw [this]
        rw [show entsK (N + 1) ([] ++ ([], Tr.node p l) :: []) = entsT (N + 1) (.node p l) by simp [entsK]]
        exact ents_more h (by omega)
/-- A top of no cells is the empty tree. -/
theorem top_some : ∀ {N n : Nat} {t : Tr}, Shape n [] [] t → sumT t ≤ 200 → (∀ p l, t = .leaf p l → p = 0 ∨ l ≠ []) → n ≤ N → emptyB (topT N t) = true ∨ 0 < cntT (topT N t)
  | 0, n, _, h, _, _, hn => by
    obtain rfl : n = 0 := by omega
    exact h.elim
  | N + 1, 0, _, h, _, _, hn => h.elim
  | N + 1, n + 1, .leaf p l, h, hs, h0, hn => by
    unfold topT
    split
    · cases l with
      | nil =>
        rcases h0 p [] rfl with rfl | h0
        · exact .inl rfl
        · exact absurd rfl h0
      | cons c r => exact .inr (by simp [cntT])
    · rename_i hat
      rw [part_two hat]
      exact .inr (by simp [cntT])
  | N + 1, n + 1, .node p l, h, hs, h0, hn => by
    unfold topT
    split
    · rename_i h1
      obtain ⟨c, rfl⟩ := List.length_eq_one_iff.1 h1
      have hg : Good n [] [] c.2 := (shape_kids h).1
      have e2 : kidAt [c] 0 = c.2 := rfl
      rw [e2]
      refine top_some hg.1 (by have := hg.2.2; omega) (fun p l e => .inr (fun el => ?_)) (show n ≤ N by omega)
      have := hg.2.1
      rw [e, el, sum_leaf] at this
      simp [sumI_nil] at this
    · split
      · have := List.length_pos_iff.2 (kids_ne (shape_kids h).1)
        exact .inr (by simpa [cntT] using this)
      · rename_i hat
        rw [part_two hat]
        exact .inr (by simp [cntT])

/-! whole trees -/
/-- A whole tree that may be, and is told so. -/
def Whole (n : Nat) (t : Tr) : Prop := Root n t ∧ (emptyB t = true ∨ 0 < cntT t)
theorem whole_empty : Whole 1 (.leaf 0 []) := ⟨root_empty, .inl rfl⟩
def putW (n : Nat) (t : Tr) (key : List UInt8) (v : Tv) : Tr := topT n (putT n t key v)
theorem whole_put {n : Nat} {t : Tr} {key : List UInt8} {v : Tv} (h : Whole n t) (hk : keyOk key) (hv : valOk v) : ∃ m, m ≤ n + 1 ∧ Whole m (putW n t key v) ∧ entsT m (putW n t key v) = putL key v (entsT n t) := by
  obtain ⟨h1, h2, h3⟩ := put_ok h.1.1 h.1.2.1 h.1.2.2 hk (knil key) (ltH_nil _) hv
  obtain ⟨m, e1, e2⟩ := top_ok (N := n) h1 (by omega) (Nat.le_refl _)
  refine ⟨m, e1, ⟨e2, top_some h1 (by omega) (fun p l e => .inr (fun el => ?_)) (Nat.le_refl _)⟩, ?_⟩
  · have := h3 p l e
    rw [el] at this
    simp at this
  · have g1 := ents_top (N := n) h1 (Nat.le_refl _)
    have g2 := ents_put h.1.1 hk (knil key) (ltH_nil _) hv h.1.2.1 h.1.2.2
    show entsT m (topT n (putT n t key v)) = _
    rw [← g2, ← g1, ents_more e2.1 e1]

/-! a key struck out -/
def delL (key : List UInt8) (l : List (List UInt8 × Tv)) : List (List UInt8 × Tv) := l.filter fun c => c.1 != key
def delT : Nat → Tr → List UInt8 → Tr
  | 0, t, _ => t
  | _ + 1, .leaf _ l, key => .leaf 0 (delL key l)
  | n + 1, .node _ l, key => mendT 0 (l.set (wayF (keysOf l) key) (keyAt l (wayF (keysOf l) key), delT n (kidAt l (wayF (keysOf l) key)) key)) (wayF (keysOf l) key)
theorem delL_sum (key : List UInt8) (p : Int) : ∀ l : List (List UInt8 × Tv), sumT (.leaf 0 (delL key l)) ≤ sumT (.leaf p l)
  | [] => Int.le_refl _
  | c :: r => by
    have ih := delL_sum key p r
    unfold delL at ih ⊢
    rw [sum_leaf_cons p p]
    rw [List.filter_cons]
    split
    · rw [sum_leaf_cons 0 0]; omega
    · omega
theorem delL_ok {lo hi key : List UInt8} {l : List (List UInt8 × Tv)} (h : LeafOk lo hi l) : LeafOk lo hi (delL key l) := by
  refine ⟨?_, fun c hc => h.2 c ((List.mem_filter.1 hc).1)⟩
  have h1 := h.1
  unfold keysOf at h1 ⊢
  exact List.Pairwise.sublist (List.Sublist.map _ List.filter_sublist) h1
theorem delL_none {key : List UInt8} {l : List (List UInt8 × Tv)} (h : ∀ c ∈ l, c.1 ≠ key) : delL key l = l := by
  unfold delL
  rw [List.filter_eq_self]
  intro c hc
  simpa using h c hc
theorem delL_append (key : List UInt8) (l m : List (List UInt8 × Tv)) : delL key (l ++ m) = delL key l ++ delL key m := by simp [delL]
/-- Without a key: what comes of it may be, but for what its own cells come to. -/
theorem del_ok : ∀ {n : Nat} {lo hi key : List UInt8} {t : Tr}, Shape n lo hi t → sumT t ≤ 122 → (∀ p l, t = .node p l → 2 ≤ l.length) → ¬ key < lo → ltH hi key →
    Shape n lo hi (delT n t key) ∧ sumT (delT n t key) ≤ 160 ∧ (∀ p l, delT n t key = .leaf p l → p = 0) ∧ entsT n (delT n t key) = delL key (entsT n t)
  | 0, _, _, _, _, h, _, _, _, _ => h.elim
  | n + 1, lo, hi, key, .leaf p l, h, hs, _, hlo, hhi => by
    obtain ⟨rfl, hl⟩ := h
    have h1 := delL_sum key p l
    exact ⟨⟨rfl, delL_ok hl⟩, by unfold delT; omega, fun q m e => by cases e; rfl, rfl⟩
  | n + 1, lo, hi, key, .node p l, h, hs, h2, hlo, hhi => by
    obtain ⟨h1, h0⟩ := shape_kids h
    have hl2 := h2 p l rfl
    obtain ⟨a, c, b, lo', hi', e, hal, hc, hp, g1, g2⟩ := way_focus h1 hlo hhi
    obtain ⟨i1, i2, i3, i4⟩ := del_ok hp.1 hp.2.2 (fun q m e => good_len (p := q) (by rw [← e]; exact hp)) g1 g2
    have hset : l.set (wayF (keysOf l) key) (keyAt l (wayF (keysOf l) key), delT n (kidAt l (wayF (keysOf l) key)) key) = a ++ (c.1, delT n c.2 key) :: b := by
      rw [← hal]
      conv => lhs; rw [e]
      rw [keyAt_at, kidAt_at, List.set_append_right _ _ (Nat.le_refl _), Nat.sub_self, List.set_cons_zero]
    have hdel : delT (n + 1) (.node p l) key = mendT 0 (a ++ (c.1, delT n c.2 key) :: b) a.length := by
      show mendT 0 _ _ = _
      rw [hset, hal]
    have hab : a ≠ [] ∨ b ≠ [] := by
      rw [e] at hl2
      cases a with
      | nil => cases b with
        | nil => simp at hl2
        | cons => exact .inr (by simp)
      | cons => exact .inl (by simp)
    have hk0 : keyAt (a ++ (c.1, delT n c.2 key) :: b) 0 = [] := by
      rw [e] at h0
      cases a <;> simpa [keyAt] using h0
    obtain ⟨q, m, e1, e2, e3, e4, e5⟩ := mend_ok (p := 0) hc i1 i2 hk0 (.inr hab)
    have hkind := kids_kind h1
    have hents : entsT (n + 1) (mendT 0 (a ++ (c.1, delT n c.2 key) :: b) a.length) = delL key (entsT (n + 1) (.node p l)) := by
      cases n with
      | zero => exact hp.1.elim
      | succ n =>
        rw [ents_mend (by
          intro d hd
          have ht : (delT (n + 1) c.2 key).isLeaf = decide (n + 1 = 1) := shape_kind i1
          rw [ht]
          rcases List.mem_append.1 hd with hd | hd
          · exact hkind d (by rw [e]; simp [hd])
          · rcases List.mem_cons.1 hd with rfl | hd
            · exact ht
            · exact hkind d (by rw [e]; simp [hd]))]
        rw [ents_node, e, entsK_append, entsK_cons, entsK_append, entsK_cons, i4]
        obtain ⟨q1, q2, q3⟩ := hc
        have hA : ∀ d ∈ entsK (n + 1) a, d.1 ≠ key := by
          rcases q1 with ⟨rfl, _⟩ | ⟨ha, e1, e2, e3, rfl⟩
          · intro d hd; simp [entsK] at hd
          · intro d hd he
            have := (kids_ents (fun h => shape_ents h) e1).2 d hd
            have := klt_le (this.2.2.1.resolve_left e2.1) g1
            rw [he] at this
            exact klt_irrefl _ this
        have hB : ∀ d ∈ entsK (n + 1) b, d.1 ≠ key := by
          rcases q2 with ⟨rfl, _⟩ | ⟨d, r, rfl, rfl, e1, e2, e3⟩
          · intro d hd; simp [entsK] at hd
          · intro d' hd he
            have := (kids_ents (fun h => shape_ents h) e3).2 d' hd
            have := klt_le (g2.resolve_left e1.1) this.2.1
            rw [he] at this
            exact klt_irrefl _ this
        rw [delL_append, delL_append, delL_none hA, delL_none hB]
    rw [hdel]
    refine ⟨?_, ?_, ?_, hents⟩
    · rw [e1]; exact shape_node e2 e3
    · rw [e1]
      have hsm : sumT (.node 0 (a ++ (c.1, delT n c.2 key) :: b)) = sumT (.node p l) := by
        rw [e, sum_node_append 0 0 0, sum_node_cons 0 0, sum_node_append p 0 0, sum_node_cons 0 0 c]
      have hq : sumT (.node q m) = sumT (.node 0 m) := rfl
      omega
    · rw [e1]; intro p' l' e; cases e
def delW (n : Nat) (t : Tr) (key : List UInt8) : Tr := if findT n t key = none then t else topT n (delT n t key)
theorem whole_del {n : Nat} {t : Tr} {key : List UInt8} (h : Whole n t) : ∃ m, m ≤ n + 1 ∧ Whole m (delW n t key) ∧ entsT m (delW n t key) = delL key (entsT n t) := by
  unfold delW
  split
  · rename_i hf
    rw [find_ok h.1.1 (knil key) (ltH_nil _)] at hf
    refine ⟨n, by omega, h, (delL_none (fun c hc he => ?_)).symm⟩
    unfold lookT at hf
    rw [Option.map_eq_none_iff, List.find?_eq_none] at hf
    exact hf c hc (by simpa using he)
  · obtain ⟨h1, h2, h3, h4⟩ := del_ok h.1.1 h.1.2.1 h.1.2.2 (knil key) (ltH_nil _)
    obtain ⟨m, e1, e2⟩ := top_ok (N := n) h1 (by omega) (Nat.le_refl _)
    refine ⟨m, e1, ⟨e2, top_some h1 (by omega) (fun p l e => .inl (h3 p l e)) (Nat.le_refl _)⟩, ?_⟩
    have g1 := ents_top (N := n) h1 (Nat.le_refl _)
    rw [← h4, ← g1, ents_more e2.1 e1]
theorem whole_find {n : Nat} {t : Tr} (h : Whole n t) (key : List UInt8) : findT n t key = lookT (entsT n t) key := find_ok h.1.1 (knil key) (ltH_nil _)
theorem whole_check {n : Nat} {t : Tr} (h : Whole n t) : checkT n t = true := check_ok h.1 (Nat.le_refl _) h.2
theorem whole_ents {n : Nat} {t : Tr} (h : Whole n t) : LeafOk [] [] (entsT n t) := shape_ents h.1.1
end Go.Proofs.Ytemfnjlfcemehaa

/- Entries as a set of pairs: put, struck out, in whichever order: plain laws. -/
namespace Go.Proofs.Ytemfnjlfcemehaa

def Srt (l : List (List UInt8 × Tv)) : Prop := (keysOf l).Pairwise (fun a b => a < b)
theorem srt_cons {c : List UInt8 × Tv} {r : List (List UInt8 × Tv)} : Srt (c :: r) ↔ (∀ d ∈ r, c.1 < d.1) ∧ Srt r := by
  unfold Srt keysOf
  rw [List.map_cons, List.pairwise_cons]
  constructor
  · intro h; exact ⟨fun d hd => h.1 d.1 (List.mem_map_of_mem hd), h.2⟩
  · intro h; exact ⟨fun x hx => by obtain ⟨d, hd, rfl⟩ := List.mem_map.1 hx; exact h.1 d hd, h.2⟩
/-- Rows that rise and have the same entries are the same. -/
theorem srt_ext : ∀ {l m : List (List UInt8 × Tv)}, Srt l → Srt m → (∀ c, c ∈ l ↔ c ∈ m) → l = m
  | [], [], _, _, _ => rfl
  | [], d :: m, _, _, h => absurd ((h d).2 (by simp)) (by simp)
  | c :: l, [], _, _, h => absurd ((h c).1 (by simp)) (by simp)
  | c :: l, d :: m, hl, hm, h => by
    obtain ⟨l1, l2⟩ := srt_cons.1 hl
    obtain ⟨m1, m2⟩ := srt_cons.1 hm
    have hcd : c = d := by
      rcases List.mem_cons.1 ((h c).1 (by simp)) with e | hc
      · exact e
      · rcases List.mem_cons.1 ((h d).2 (by simp)) with e | hd
        · exact e.symm
        · exact absurd (klt_trans (m1 c hc) (l1 d hd)) (klt_irrefl _)
    subst hcd
    rw [srt_ext l2 m2 (fun x => ⟨fun hx => ?_, fun hx => ?_⟩)]
    · rcases List.mem_cons.1 ((h x).1 (by simp [hx])) with e | hx'
      · subst e; exact absurd (l1 _ hx) (klt_irrefl _)
      · exact hx'
    · rcases List.mem_cons.1 ((h x).2 (by simp [hx])) with e | hx'
      · subst e; exact absurd (m1 _ hx) (klt_irrefl _)
      · exact hx'
theorem srt_put {key : List UInt8} {v : Tv} {l : List (List UInt8 × Tv)} (h : Srt l) : Srt (putL key v l) := putL_sorted h
theorem srt_del {key : List UInt8} {l : List (List UInt8 × Tv)} (h : Srt l) : Srt (delL key l) := by
  unfold Srt keysOf at *
  exact List.Pairwise.sublist (List.Sublist.map _ List.filter_sublist) h
theorem mem_put {key : List UInt8} {v : Tv} : ∀ {l : List (List UInt8 × Tv)}, Srt l → ∀ c, c ∈ putL key v l ↔ c = (key, v) ∨ c ∈ l ∧ c.1 ≠ key
  | [], _, c => by simp [putL]
  | d :: r, h, c => by
    obtain ⟨h1, h2⟩ := srt_cons.1 h
    have ih := mem_put (key := key) (v := v) h2 c
    show c ∈ (if d.1 < key then d :: putL key v r else if d.1 = key then (key, v) :: r else (key, v) :: d :: r) ↔ _
    split
    · rename_i hd
      rw [List.mem_cons, ih, List.mem_cons]
      constructor
      · rintro (rfl | rfl | ⟨a, b⟩)
        · exact .inr ⟨.inl rfl, fun e => klt_irrefl key (by rw [e] at hd; exact hd)⟩
        · exact .inl rfl
        · exact .inr ⟨.inr a, b⟩
      · rintro (rfl | ⟨rfl | a, b⟩)
        · exact .inr (.inl rfl)
        · exact .inl rfl
        · exact .inr (.inr ⟨a, b⟩)
    · rename_i hd
      split
      · rename_i he
        rw [List.mem_cons, List.mem_cons]
        constructor
        · rintro (rfl | a)
          · exact .inl rfl
          · refine .inr ⟨.inr a, fun e => ?_⟩
            have := h1 c a
            rw [he, e] at this
            exact klt_irrefl _ this
        · rintro (rfl | ⟨rfl | a, b⟩)
          · exact .inl rfl
          · exact absurd he b
          · exact .inr a
      · rename_i he
        rw [List.mem_cons, List.mem_cons]
        have hlt : key < d.1 := ((ktri d.1 key).resolve_left hd).resolve_left he
        constructor
        · rintro (rfl | rfl | a)
          · exact .inl rfl
          · exact .inr ⟨.inl rfl, he⟩
          · refine .inr ⟨.inr a, fun e => ?_⟩
            have := klt_trans hlt (h1 c a)
            rw [e] at this
            exact klt_irrefl _ this
        · rintro (rfl | ⟨rfl | a, b⟩)
          · exact .inl rfl
          · exact .inr (.inl rfl)
          · exact .inr (.inr a)
theorem mem_del {key : List UInt8} {l : List (List UInt8 × Tv)} (c : List UInt8 × Tv) : c ∈ delL key l ↔ c ∈ l ∧ c.1 ≠ key := by
  unfold delL
  rw [List.mem_filter]; simp
theorem srt_key {l : List (List UInt8 × Tv)} (h : Srt l) {c d : List UInt8 × Tv} (hc : c ∈ l) (hd : d ∈ l) (e : c.1 = d.1) : c = d := by
  induction l with
  | nil => cases hc
  | cons x r ih =>
    obtain ⟨h1, h2⟩ := srt_cons.1 h
    rcases List.mem_cons.1 hc with e1 | hc' <;> rcases List.mem_cons.1 hd with e2 | hd'
    · rw [e1, e2]
    · have := h1 d hd'; rw [← e1, e] at this; exact absurd this (klt_irrefl _)
    · have := h1 c hc'; rw [← e2, e] at this; exact absurd this (klt_irrefl _)
    · exact ih h2 hc' hd'
theorem put_length {key : List UInt8} {v : Tv} {l : List (List UInt8 × Tv)} (h : Srt l) : (putL key v l).length = l.length + (if (lookT l key).isSome then 0 else 1) := by
  rw [putL_pos, look_pos h]
  have hle := posK_le key (keysOf l)
  have hlen : (keysOf l).length = l.length := by simp [keysOf]
  by_cases hk : hasK key (keysOf l) = true
  · have hpos : posK key (keysOf l) < l.length := by
      unfold hasK at hk
      rw [← hlen]
      by_cases hp : posK key (keysOf l) < (keysOf l).length
      · exact hp
      · rw [List.getElem?_eq_none (by omega)] at hk; simp at hk
    rw [if_pos hk, if_pos hk]
    simp [hpos, List.length_take, List.length_drop]; omega
  · rw [if_neg hk, if_neg hk]
    simp [List.length_take, List.length_drop]; omega
theorem del_length {key : List UInt8} : ∀ {l : List (List UInt8 × Tv)}, Srt l → (delL key l).length + (if (lookT l key).isSome then 1 else 0) = l.length
  | [], _ => by simp [delL, lookT]
  | c :: r, h => by
    obtain ⟨h1, h2⟩ := srt_cons.1 h
    have ih := del_length (key := key) h2
    unfold delL lookT at *
    rw [List.filter_cons, List.find?_cons]
    by_cases he : c.1 = key
    · have e1 : (c.1 == key) = true := by simpa using he
      have e2 : (c.1 != key) = false := by simp [he]
      have hn : r.filter (fun c => c.1 != key) = r := by
        rw [List.filter_eq_self]
        intro d hd
        have := h1 d hd
        rw [he] at this
        simp
        intro e; rw [e] at this; exact klt_irrefl _ this
      rw [e1, e2, hn]; simp
    · have e1 : (c.1 == key) = false := by simpa using he
      have e2 : (c.1 != key) = true := by simp [he]
      rw [e1, e2]; simp at ih ⊢; omega
theorem look_mem {l : List (List UInt8 × Tv)} (h : Srt l) {c : List UInt8 × Tv} (hc : c ∈ l) : lookT l c.1 = some c.2.data := by
  unfold lookT
  cases hf : l.find? (fun d => d.1 == c.1) with
  | none =>
    rw [List.find?_eq_none] at hf
    exact absurd (hf c hc) (by simp)
  | some d =>
    have h1 := List.mem_of_find?_eq_some hf
    have h2 : (d.1 == c.1) = true := List.find?_some (p := fun (d : List UInt8 × Tv) => d.1 == c.1) hf
    have := srt_key h h1 hc (by simpa using h2)
    subst this; rfl
theorem look_not {l : List (List UInt8 × Tv)} {key : List UInt8} (h : lookT l key = none) (c : List UInt8 × Tv) (hc : c ∈ l) : c.1 ≠ key := by
  unfold lookT at h
  rw [Option.map_eq_none_iff, List.find?_eq_none] at h
  intro e
  exact h c hc (by simpa using e)
theorem look_del {l : List (List UInt8 × Tv)} (key : List UInt8) : lookT (delL key l) key = none := by
  unfold lookT
  rw [Option.map_eq_none_iff, List.find?_eq_none]
  intro c hc
  have := (mem_del c).1 hc
  simpa using this.2
theorem look_put {l : List (List UInt8 × Tv)} (h : Srt l) (key : List UInt8) (v : Tv) : lookT (putL key v l) key = some v.data :=
  look_mem (c := (key, v)) (srt_put h) ((mem_put h _).2 (.inl rfl))

/-! many put, many struck out -/
def putsL : List (List UInt8 × Tv) → List (List UInt8 × Tv) → List (List UInt8 × Tv)
  | [], l => l
  | p :: r, l => putsL r (putL p.1 p.2 l)
theorem puts_append (p q l : List (List UInt8 × Tv)) : putsL (p ++ q) l = putsL q (putsL p l) := by
  induction p generalizing l with
  | nil => rfl
  | cons c r ih => exact ih _
theorem srt_puts : ∀ {p l : List (List UInt8 × Tv)}, Srt l → Srt (putsL p l)
  | [], _, h => h
  | _c :: r, _, h => srt_puts (p := r) (srt_put h)
/-- Where each key has one value the entries are just those that were put. -/
theorem mem_puts {f : List UInt8 → Tv} : ∀ {p l : List (List UInt8 × Tv)}, Srt l → (∀ c ∈ p, c.2 = f c.1) → (∀ c ∈ l, c.2 = f c.1) → ∀ c, c ∈ putsL p l ↔ c ∈ p ∨ c ∈ l
  | [], l, _, _, _, c => by simp [putsL]
  | d :: r, l, h, hp, hl, c => by
    show c ∈ putsL r (putL d.1 d.2 l) ↔ _
    have hd := hp d (by simp)
    have hm := mem_put (key := d.1) (v := d.2) h
    rw [mem_puts (f := f) (srt_put h) (fun c hc => hp c (by simp [hc])) (fun c hc => by
      rcases (hm c).1 hc with e | ⟨e, _⟩
      · rw [e]; exact hd
      · exact hl c e) c, hm c, List.mem_cons]
    constructor
    · rintro (a | rfl | ⟨a, _⟩)
      · exact .inl (.inr a)
      · exact .inl (.inl rfl)
      · exact .inr a
    · rintro ((rfl | a) | a)
      · exact .inr (.inl rfl)
      · exact .inl a
      · by_cases e : c.1 = d.1
        · refine .inr (.inl ?_)
          have := hl c a
          have : c = (c.1, c.2) := rfl
          rw [this, hl c a, e, ← hd]
        · exact .inr (.inr ⟨a, e⟩)
def delsL : List (List UInt8) → List (List UInt8 × Tv) → List (List UInt8 × Tv)
  | [], l => l
  | k :: r, l => delsL r (delL k l)
theorem srt_dels : ∀ {p : List (List UInt8)} {l : List (List UInt8 × Tv)}, Srt l → Srt (delsL p l)
  | [], _, h => h
  | _c :: r, _, h => srt_dels (p := r) (srt_del h)
theorem mem_dels : ∀ {p : List (List UInt8)} {l : List (List UInt8 × Tv)} (c : List UInt8 × Tv), c ∈ delsL p l ↔ c ∈ l ∧ c.1 ∉ p
  | [], l, c => by simp [delsL]
  | k :: r, l, c => by
    show c ∈ delsL r (delL k l) ↔ _
    rw [mem_dels c, mem_del]
    simp only [List.mem_cons, not_or]
    constructor
    · rintro ⟨⟨a, b⟩, d⟩; exact ⟨a, b, d⟩
    · rintro ⟨a, b, d⟩; exact ⟨⟨a, b⟩, d⟩
theorem puts_length : ∀ {p l : List (List UInt8 × Tv)}, Srt l → (keysOf p).Nodup → (∀ c ∈ p, ∀ d ∈ l, c.1 ≠ d.1) → (putsL p l).length = p.length + l.length
  | [], l, _, _, _ => by simp [putsL]
  | c :: r, l, h, hn, hd => by
    show (putsL r (putL c.1 c.2 l)).length = _
    unfold keysOf at hn
    rw [List.map_cons, List.nodup_cons] at hn
    rw [puts_length (srt_put h) hn.2 (fun x hx y hy e => by
      rcases (mem_put h y).1 hy with rfl | ⟨hy, _⟩
      · exact hn.1 (List.mem_map.2 ⟨x, hx, e⟩)
      · exact hd x (by simp [hx]) y hy e)]
    rw [put_length h]
    have : lookT l c.1 = none := by
      unfold lookT
      rw [Option.map_eq_none_iff, List.find?_eq_none]
      intro d hdl
      have := hd c (by simp) d hdl
      simp
      exact fun e => this e.symm
    rw [this]
    simp; omega
end Go.Proofs.Ytemfnjlfcemehaa

/- Words that laws of trees share: boxes and rows in worlds that agree; small puts and steps. -/
namespace Go.Proofs.Ytemfnjlfcemehaa
open Go.RowKit

theorem Boxes.agree {F : Nat → Prop} {w w' : World} {l : List (Nat × List Value)} (h : Boxes w l) (ha : AgreeF F w w') (hl : ∀ p ∈ l, F p.1) : Boxes w' l := fun p hp => by
  obtain ⟨t, ht⟩ := h p hp
  exact ⟨t, (ha.2 p.1 (hl p hp) (Array.getElem?_eq_some_iff.1 ht).1).trans ht⟩
theorem own_agree {w w' : World} {base : Nat} {e : TypeId} {size : Nat} {v : Value} {n : Nat} {xs : List Value} {F : Nat → Prop} (h : w.ownsRow base e size v n xs) (ha : AgreeF F w w') (hF : ∀ g, v.ownBlock = some g → F g) : w'.ownsRow base e size v n xs := by
  refine ⟨h.1, h.2.imp id fun ⟨g, cap, cur, e1, hg, hh, r⟩ => ⟨g, cap, cur, e1, hg, ?_, r⟩⟩
  subst e1
  rw [ha.2 g (hF g rfl) (Array.getElem?_eq_some_iff.1 hh).1]; exact hh
theorem _root_.List.take_succ_eq_append_of {α : Type} {l : List α} {i : Nat} {y : α} (h : l[i]? = some y) : l.take (i + 1) = l.take i ++ [y] := by
  rw [List.take_add_one, h]; rfl
theorem fr_le {F : Nat → Prop} {W w5 : World} {B b : Nat} (hF : ∀ b, F b → B ≤ b) (hB : B ≤ w5.heap.size) (hW : w5.heap.size ≤ W.heap.size) (h : Fr F W b) : B ≤ b := by
  rcases h with h | h
  · exact hF b h
  · omega
theorem fr_not {F : Nat → Prop} {W : World} {b : Nat} (hF : ¬ F b) (hW : b < W.heap.size) : ¬ Fr F W b := fun h => by
  rcases h with h | h
  · exact hF h
  · omega
theorem lt_alloc (w : World) (o : Obj) : w.heap.size < (w.alloc o).heap.size := by rw [World.size_alloc]; omega
theorem le_alloc {B : Nat} {w : World} (h : B ≤ w.heap.size) (o : Obj) : B ≤ (w.alloc o).heap.size := by rw [World.size_alloc]; omega
theorem okP_facts {l : List Pt} (h : smallP l = true) : l.length ≤ 80 ∧ ∀ y ∈ l, keyOk y.key ∧ ∃ n : Nat, y.size = n ∧ n ≤ 400 := by
  unfold smallP at h
  rw [Bool.and_eq_true] at h
  refine ⟨by simpa using h.2, fun y hy => ?_⟩
  have := List.all_eq_true.1 h.1 y hy
  unfold okP at this
  simp at this
  exact ⟨⟨this.1, this.2.1⟩, y.size.toNat, by omega, by omega⟩
theorem okS_facts {l : List St} (h : smallS l = true) : l.length ≤ 120 ∧ ∀ y ∈ l, keyOk y.key ∧ y.size ≤ 400 := by
  unfold smallS at h
  rw [Bool.and_eq_true] at h
  refine ⟨by simpa using h.2, fun y hy => ?_⟩
  have := List.all_eq_true.1 h.1 y hy
  unfold okS at this
  simp at this
  exact ⟨⟨this.1, this.2.1⟩, this.2.2⟩
theorem fillT_len (f : UInt8) (n : Nat) : (fillT f n).length = n := by simp [fillT]
theorem put_some {N M : Nat} {t T : Tr} {key : List UInt8} {v : Tv} (h : entsT M T = putL key v (entsT N t)) {k : Nat} (hk : (entsT N t).length ≤ k) (hs : Srt (entsT N t)) : (entsT M T).length ≤ k + 1 := by
  rw [h, put_length hs]; split <;> omega
/-- Whole trees' entries stand in order. -/
theorem Whole.srt {n : Nat} {t : Tr} (h : Whole n t) : Srt (entsT n t) := (whole_ents h).1
end Go.Proofs.Ytemfnjlfcemehaa

/- A node that is built: three rows of the call's own that grow. -/
namespace Go.Proofs.Ytemfnjlfcemehaa
open Go.RowKit

/-- A row of the call's own, what its elements tell. -/
def RowQ {α : Type} (sz : Nat) (Q : List Value → α → Prop) (E : TypeId) (B : Nat) (w : World) (v : Value) (l : List α) : Prop := ∃ L : List (Cl sz), w.ownsRow B E sz v l.length (flatC L) ∧ Tells Q L l
/-- A row's block stays, or is new. -/
def Turn (w : World) (v v' : Value) : Prop := v'.ownBlock = v.ownBlock ∨ ∀ g, v'.ownBlock = some g → w.heap.size ≤ g
theorem Turn.ne {w : World} {v v' : Value} (h : Turn w v v') {b : Nat} (hb : v.ownBlock ≠ some b) (hlt : b < w.heap.size) : v'.ownBlock ≠ some b := fun e => by
  rcases h with h | h
  · rw [h] at e; exact hb e
  · have := h b e; omega
section
variable {α : Type} {sz : Nat} {Q : List Value → α → Prop} {E : TypeId} {B : Nat} {w : World} {v : Value} {l : List α}
theorem RowQ.nil (w : World) : RowQ sz Q E B w (.slice none 0 0) [] := ⟨[], own_nil w E sz B, Tells.nil⟩
theorem RowQ.lt (h : RowQ sz Q E B w v l) {g : Nat} (hg : v.ownBlock = some g) : B ≤ g ∧ g < w.heap.size := by
  obtain ⟨L, h1, _⟩ := h
  exact World.ownsRow.lt h1 g hg
theorem RowQ.keep {Q' : List Value → α → Prop} {w' : World} (h : RowQ sz Q E B w v l) (ha : AgreeF (fun b => v.ownBlock = some b) w w') (hQ : ∀ cs y, Q cs y → Q' cs y) : RowQ sz Q' E B w' v l := by
  obtain ⟨L, h1, h2⟩ := h
  exact ⟨L, own_agree h1 ha (fun g hg => hg), h2.mono (fun _ _ _ h => hQ _ _ h)⟩
theorem RowQ.sl (h : RowQ sz Q E B w v l) : ∃ a c, v = .slice a l.length c ∧ l.length ≤ c ∧ c ≤ 9223372036854775807 ∧ TabR sz Q w a l.length c l ∧ Fa (fun b => B ≤ b) a l.length := by
  obtain ⟨L, h1, h2⟩ := h
  have hlen : L.length = l.length := h2.1
  rcases h1.2 with ⟨rfl, h0⟩ | ⟨g, cap, cur, rfl, hg, hh, hn, hm, hr⟩
  · have : l = [] := List.eq_nil_of_length_eq_zero h0
    subst this
    exact ⟨none, 0, rfl, by simp, by omega, ⟨rfl, by simp, by unfold maxLen; omega, fun _ => rfl, .inl rfl⟩, .inl rfl⟩
  · refine ⟨_, cap, rfl, hn, by unfold maxLen at hm; omega, ?_, Fa.of_own h1 (fun b hb => hb)⟩
    obtain ⟨a', c', e, hr'⟩ := Raw.of_own h1 hlen
    cases e
    exact hr'.tab h2
theorem RowQ.push {P : Program} {t : TypeId} {bytes : Nat} (ht : P.underlying t = some (.slice E)) (hi : RowInfo P E sz bytes) (hsz : 0 < sz) (hby : bytes ≤ 1000) (h : RowQ sz Q E B w v l) (hB : B ≤ w.heap.size) (hl : l.length ≤ 100000) {cs : List Value} (hlen : cs.length = sz) (hone : ∀ u ∈ cs, u.oneCell' = true) :
    ∃ v' w', (Builtin.append_ #[t, t] t #[v, .slice (some ⟨w.heap.size, 0, none⟩) 1 1]).run P (w.alloc (.cells cs.toArray E)) = .ok v' w' ∧ w.grownBy w' v.ownBlock ∧ Turn w v v' ∧
      ∀ (Q' : List Value → α → Prop) (y : α), (∀ cs y, Q cs y → Q' cs y) → Q' cs y → RowQ sz Q' E B w' v' (l ++ [y]) := by
  obtain ⟨L, h1, h2⟩ := h
  obtain ⟨i, z, i1, i2, i3, i4, i5⟩ := hi
  have hbb : (l.length + 1) * bytes ≤ 140737488355328 := Nat.le_trans (Nat.mul_le_mul (show l.length + 1 ≤ 100001 by omega) hby) (by decide)
  obtain ⟨v', w', hr, ho, hg, hv⟩ := run_append_new (P := P) B t E i z sz bytes ht i1 i2 i3 i4 i5 hsz h1 cs.toArray (by simpa using hlen) (by simpa using hone) (by unfold maxLen; omega) hbb hB
  refine ⟨v', w', hr, hg, ?_, fun Q' y hQ hy => ⟨L ++ [⟨cs, hlen, hone⟩], ?_, (h2.mono (fun _ _ _ h => hQ _ _ h)).append (Tells.one hy)⟩⟩
  · rcases hv with hv | hv
    · exact .inl hv
    · exact .inr fun g e => by rw [hv] at e; have := Option.some.inj e; omega
  · have e : flatC (L ++ [⟨cs, hlen, hone⟩]) = flatC L ++ cs := by rw [flatC_append]; exact congrArg (flatC L ++ ·) (List.append_nil cs)
    rw [e, List.length_append]; exact ho
end
/-- The blocks that what is in the rows may stand on. -/
def G3 (F : Nat → Prop) (B : Nat) (v1 v2 v3 : Value) (b : Nat) : Prop := (F b ∨ B ≤ b) ∧ v1.ownBlock ≠ some b ∧ v2.ownBlock ≠ some b ∧ v3.ownBlock ≠ some b
theorem TvOn.lt {F : Nat → Prop} {w : World} {cs : List Value} {v : Tv} (h : TvOn F w cs v) : TvOn (fun b => F b ∧ b < w.heap.size) w cs v := by
  obtain ⟨a, n, c, e, h, f⟩ := h
  exact ⟨a, n, c, e, h, f.and h.block⟩
theorem tvKeep {G G' : Nat → Prop} {w w' : World} {cs : List Value} {y : Tv} (h : TvOn G w cs y) (ha : AgreeF G w w') (hG : ∀ b, G b → b < w.heap.size → G' b) : TvOn G' w' cs y :=
  (h.lt.agree ⟨ha.1, fun b hb hlt => ha.2 b hb.1 hlt⟩).mono (fun b hb => hG b hb.1 hb.2)
theorem nodeKeep {G G' : Nat → Prop} {n : Nat} {w w' : World} {cs : List Value} {y : Tr} (h : NodeOn G n w cs y) (ha : AgreeF G w w') (hG : ∀ b, G b → b < w.heap.size → G' b) : NodeOn G' n w' cs y :=
  (h.lt.agree ⟨ha.1, fun b hb hlt => ha.2 b hb.1 hlt⟩).mono (fun b hb => hG b hb.1 hb.2)
/-- Three rows that grow: keys, values, kids. -/
structure NodeRows (T1 T2 T3 : TypeId) (F : Nat → Prop) (n B : Nat) (w : World) (v1 v2 v3 : Value) (K : List (List UInt8)) (V : List Tv) (C : List Tr) : Prop where
  k : RowQ 1 IsKey T1 B w v1 K
  v : RowQ 2 (TvOn (G3 F B v1 v2 v3) w) T2 B w v2 V
  c : RowQ 5 (NodeOn (G3 F B v1 v2 v3) n w) T3 B w v3 C
  d12 : ∀ g, v1.ownBlock = some g → v2.ownBlock ≠ some g
  d13 : ∀ g, v1.ownBlock = some g → v3.ownBlock ≠ some g
  d23 : ∀ g, v2.ownBlock = some g → v3.ownBlock ≠ some g
section
variable {T1 T2 T3 : TypeId} {F : Nat → Prop} {n B : Nat} {w : World} {v1 v2 v3 : Value} {K : List (List UInt8)} {V : List Tv} {C : List Tr}
theorem NodeRows.nil (T1 T2 T3 : TypeId) (F : Nat → Prop) (n B : Nat) (w : World) : NodeRows T1 T2 T3 F n B w (.slice none 0 0) (.slice none 0 0) (.slice none 0 0) [] [] [] :=
  ⟨RowQ.nil w, RowQ.nil w, RowQ.nil w, fun g h => (by cases h), fun g h => (by cases h), fun g h => (by cases h)⟩
theorem NodeRows.agree {w' : World} (h : NodeRows T1 T2 T3 F n B w v1 v2 v3 K V C) (ha : AgreeF (fun b => F b ∨ B ≤ b) w w') : NodeRows T1 T2 T3 F n B w' v1 v2 v3 K V C where
  k := h.k.keep (ha.sub fun _ hb => .inr (h.k.lt hb).1) (fun _ _ h => h)
  v := h.v.keep (ha.sub fun _ hb => .inr (h.v.lt hb).1) (fun _ _ h => h.agree (ha.sub fun _ hb => hb.1))
  c := h.c.keep (ha.sub fun _ hb => .inr (h.c.lt hb).1) (fun _ _ h => h.agree (ha.sub fun _ hb => hb.1))
  d12 := h.d12
  d13 := h.d13
  d23 := h.d23
theorem NodeRows.below {w' : World} (h : NodeRows T1 T2 T3 F n B w v1 v2 v3 K V C) (hb : Below w.heap.size w w') : NodeRows T1 T2 T3 F n B w' v1 v2 v3 K V C := h.agree (.of_below hb)
theorem NodeRows.set {p : Addr} {u : Value} (h : NodeRows T1 T2 T3 F n B w v1 v2 v3 K V C) (hp : p.block < B) (hF : ¬ F p.block) : NodeRows T1 T2 T3 F n B (w.setCell p u) v1 v2 v3 K V C :=
  h.agree (AgreeF.set (AgreeF.refl w) (.inl fun hf => by rcases hf with hf | hf; exact hF hf; omega))
theorem NodeRows.pushK {P : Program} {t : TypeId} {bytes : Nat} (ht : P.underlying t = some (.slice T1)) (hi : RowInfo P T1 1 bytes) (hby : bytes ≤ 1000) (h : NodeRows T1 T2 T3 F n B w v1 v2 v3 K V C) (hB : B ≤ w.heap.size) (hl : K.length ≤ 100000) (key : List UInt8) :
    ∃ v' w', (Builtin.append_ #[t, t] t #[v1, .slice (some ⟨w.heap.size, 0, none⟩) 1 1]).run P (w.alloc (.cells #[.string (strOf key)] T1)) = .ok v' w' ∧ w.grownBy w' v1.ownBlock ∧ Turn w v1 v' ∧ NodeRows T1 T2 T3 F n B w' v' v2 v3 (K ++ [key]) V C := by
  obtain ⟨v', w', hr, hg, ht', hq⟩ := h.k.push (P := P) (t := t) ht hi (by decide) hby hB hl (cs := [.string (strOf key)]) rfl (by intro u hu; simp at hu; subst hu; rfl)
  have hag : AgreeF (fun b => v1.ownBlock ≠ some b) w w' := ⟨hg.size, fun b hb hlt => hg.block b hlt (fun e => hb e.symm)⟩
  have hG : ∀ b, G3 F B v1 v2 v3 b → b < w.heap.size → G3 F B v' v2 v3 b := fun b hb hlt => ⟨hb.1, ht'.ne hb.2.1 hlt, hb.2.2⟩
  refine ⟨v', w', hr, hg, ht', ⟨hq IsKey key (fun _ _ h => h) rfl, h.v.keep (hag.sub fun b hb e => h.d12 b e hb) (fun _ _ h => tvKeep h (hag.sub fun b hb => hb.2.1) hG), h.c.keep (hag.sub fun b hb e => h.d13 b e hb) (fun _ _ h => nodeKeep h (hag.sub fun b hb => hb.2.1) hG), fun g e e2 => ?_, fun g e e2 => ?_, h.d23⟩⟩
  · exact ht'.ne (fun e3 => h.d12 g e3 e2) (h.v.lt e2).2 e
  · exact ht'.ne (fun e3 => h.d13 g e3 e2) (h.c.lt e2).2 e
theorem NodeRows.pushV {P : Program} {t : TypeId} {bytes : Nat} (ht : P.underlying t = some (.slice T2)) (hi : RowInfo P T2 2 bytes) (hby : bytes ≤ 1000) (h : NodeRows T1 T2 T3 F n B w v1 v2 v3 K V C) (hB : B ≤ w.heap.size) (hl : V.length ≤ 100000) {cs : List Value} {tv : Tv} (hy : TvOn (G3 F B v1 v2 v3) w cs tv) :
    ∃ v' w', (Builtin.append_ #[t, t] t #[v2, .slice (some ⟨w.heap.size, 0, none⟩) 1 1]).run P (w.alloc (.cells cs.toArray T2)) = .ok v' w' ∧ w.grownBy w' v2.ownBlock ∧ Turn w v2 v' ∧ NodeRows T1 T2 T3 F n B w' v1 v' v3 K (V ++ [tv]) C := by
  obtain ⟨v', w', hr, hg, ht', hq⟩ := h.v.push (P := P) (t := t) ht hi (by decide) hby hB hl (cs := cs) (by obtain ⟨_, _, _, rfl, _⟩ := hy; rfl) (hy.toIn.one)
  have hag : AgreeF (fun b => v2.ownBlock ≠ some b) w w' := ⟨hg.size, fun b hb hlt => hg.block b hlt (fun e => hb e.symm)⟩
  have hG : ∀ b, G3 F B v1 v2 v3 b → b < w.heap.size → G3 F B v1 v' v3 b := fun b hb hlt => ⟨hb.1, hb.2.1, ht'.ne hb.2.2.1 hlt, hb.2.2.2⟩
  refine ⟨v', w', hr, hg, ht', ⟨h.k.keep (hag.sub fun b hb e => h.d12 b hb e) (fun _ _ h => h), hq _ tv (fun _ _ h => tvKeep h (hag.sub fun b hb => hb.2.2.1) hG) (tvKeep hy (hag.sub fun b hb => hb.2.2.1) hG), h.c.keep (hag.sub fun b hb e => h.d23 b e hb) (fun _ _ h => nodeKeep h (hag.sub fun b hb => hb.2.2.1) hG), fun g e e2 => ?_, h.d13, fun g e e2 => ?_⟩⟩
  · exact ht'.ne (h.d12 g e) (h.k.lt e).2 e2
  · exact ht'.ne (fun e3 => h.d23 g e3 e2) (h.c.lt e2).2 e
theorem NodeRows.pushC {P : Program} {t : TypeId} {bytes : Nat} (ht : P.underlying t = some (.slice T3)) (hi : RowInfo P T3 5 bytes) (hby : bytes ≤ 1000) (h : NodeRows T1 T2 T3 F n B w v1 v2 v3 K V C) (hB : B ≤ w.heap.size) (hl : C.length ≤ 100000) {cs : List Value} {kid : Tr} (hy : NodeOn (G3 F B v1 v2 v3) n w cs kid) :
    ∃ v' w', (Builtin.append_ #[t, t] t #[v3, .slice (some ⟨w.heap.size, 0, none⟩) 1 1]).run P (w.alloc (.cells cs.toArray T3)) = .ok v' w' ∧ w.grownBy w' v3.ownBlock ∧ Turn w v3 v' ∧ NodeRows T1 T2 T3 F n B w' v1 v2 v' K V (C ++ [kid]) := by
  obtain ⟨v', w', hr, hg, ht', hq⟩ := h.c.push (P := P) (t := t) ht hi (by decide) hby hB hl (cs := cs) (by obtain ⟨_, _, _, _, _, _, _, _, _, _, rfl, _⟩ := NodeOn.open_pos hy; rfl) (hy.one)
  have hag : AgreeF (fun b => v3.ownBlock ≠ some b) w w' := ⟨hg.size, fun b hb hlt => hg.block b hlt (fun e => hb e.symm)⟩
  have hG : ∀ b, G3 F B v1 v2 v3 b → b < w.heap.size → G3 F B v1 v2 v' b := fun b hb hlt => ⟨hb.1, hb.2.1, hb.2.2.1, ht'.ne hb.2.2.2 hlt⟩
  refine ⟨v', w', hr, hg, ht', ⟨h.k.keep (hag.sub fun b hb e => h.d13 b hb e) (fun _ _ h => h), h.v.keep (hag.sub fun b hb e => h.d23 b hb e) (fun _ _ h => tvKeep h (hag.sub fun b hb => hb.2.2.2) hG), hq _ kid (fun _ _ h => nodeKeep h (hag.sub fun b hb => hb.2.2.2) hG) (nodeKeep hy (hag.sub fun b hb => hb.2.2.2) hG), h.d12, fun g e e2 => ?_, fun g e e2 => ?_⟩⟩
  · exact ht'.ne (h.d13 g e) (h.k.lt e).2 e2
  · exact ht'.ne (h.d23 g e) (h.v.lt e).2 e2
/-- All three rows as slices. -/
theorem NodeRows.sl (h : NodeRows T1 T2 T3 F n B w v1 v2 v3 K V C) : ∃ a1 c1 a2 c2 a3 c3, v1 = .slice a1 K.length c1 ∧ v2 = .slice a2 V.length c2 ∧ v3 = .slice a3 C.length c3 := by
  obtain ⟨a1, c1, rfl, _⟩ := h.k.sl
  obtain ⟨a2, c2, rfl, _⟩ := h.v.sl
  obtain ⟨a3, c3, rfl, _⟩ := h.c.sl
  exact ⟨a1, c1, a2, c2, a3, c3, rfl, rfl, rfl⟩
/-- A leaf that was built. -/
theorem NodeRows.leaf {G : Nat → Prop} {p : Int} {l : List (List UInt8 × Tv)} (h : NodeRows T1 T2 T3 F n B w v1 v2 v3 (keysOf l) (l.map (·.2)) []) (hG : ∀ b, F b ∨ B ≤ b → G b) (m : Nat) : NodeOn G (m + 1) w [.int .i64 p, .bool true, v1, v2, v3] (.leaf p l) := by
  obtain ⟨a1, c1, rfl, _, _, h1, f1⟩ := h.k.sl
  obtain ⟨a2, c2, rfl, _, _, h2, f2⟩ := h.v.sl
  obtain ⟨a3, c3, rfl, _, _, h3, f3⟩ := h.c.sl
  exact ⟨a1, _, c1, a2, _, c2, a3, c3, rfl, h1, f1.mono (fun b hb => hG b (.inr hb)), TabR.mono h2 (fun _ _ h => h.mono (fun b hb => hG b hb.1)), f2.mono (fun b hb => hG b (.inr hb)), unit_any h3⟩
/-- A branch that was built. -/
theorem NodeRows.node {G : Nat → Prop} {p : Int} {l : List (List UInt8 × Tr)} (h : NodeRows T1 T2 T3 F n B w v1 v2 v3 (keysOf l) [] (l.map (·.2))) (hG : ∀ b, F b ∨ B ≤ b → G b) : NodeOn G (n + 1) w [.int .i64 p, .bool false, v1, v2, v3] (.node p l) := by
  obtain ⟨a1, c1, rfl, _, _, h1, f1⟩ := h.k.sl
  obtain ⟨a2, c2, rfl, _, _, h2, f2⟩ := h.v.sl
  obtain ⟨a3, c3, rfl, _, _, h3, f3⟩ := h.c.sl
  exact ⟨a1, _, c1, a2, c2, a3, _, c3, rfl, h1, f1.mono (fun b hb => hG b (.inr hb)), unit_any h2, TabR.mono h3 (fun _ _ h => NodeOn.mono (fun b hb => hG b hb.1) h), f3.mono (fun b hb => hG b (.inr hb))⟩
end
end Go.Proofs.Ytemfnjlfcemehaa
