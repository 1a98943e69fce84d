/- Texts that other texts of this claim lean on, one behind the other. -/
import Derived.Test.YtpghlmcoajaiiaaGreatDoorM5
import Derived.Test.YtpghlmcoajaiiaaGreatDoorM3
import Derived.Test.YtpghlmcoajaiiaaGreatDoorM2
import Derived.Test.YtpghlmcoajaiiaaGreatDoorM1
import Derived.OwnWalk
import Derived.Lib.Builder
import Derived.Lib.UnsafeStr
import Derived.Laws.Externs
import Derived.Shelf.RegionOpenPlain
import Derived.Deep.RegionHeld3
/- The walks of trees: the top (printed by gen_treT.py). -/
namespace Go.Proofs.YtpghlmcoajaiiaaGreatDoor
open Go.RowKit

theorem agree_set5 {G : Nat → Prop} {w : World} {b : Nat} (h : ¬ G b) (y0 y1 y2 y3 y4 : Value) : AgreeF G w (set5 w b y0 y1 y2 y3 y4) := (((((AgreeF.of_below (Below.refl _ _)).set (.inl h)).set (.inl h)).set (.inl h)).set (.inl h)).set (.inl h)
theorem NodeOn.open_pos {F : Nat → Prop} {n : Nat} {w : World} {cs : List Value} {t : Tr} (h : NodeOn F n w cs t) :
    ∃ ka kc va vn vc ca cn cc V C, cs = [.int .i64 t.page, .bool t.isLeaf, .slice ka (cntT t) kc, .slice va vn vc, .slice ca cn cc] ∧ Raw 1 w ka (cntT t) kc (t.keys.map kCell) ∧ Raw 2 w va vn vc V ∧ Raw 5 w ca cn cc C := by
  cases n with
  | zero => exact h.elim
  | succ n =>
    obtain ⟨ka, kc, va, vn, vc, ca, cn, cc, V, C, e, h1, h2, h3, _⟩ := h.open
    exact ⟨ka, kc, va, vn, vc, ca, cn, cc, V, C, e, h1, h2, h3⟩
/-- What the top asks of a tree. -/
def TopOk : Nat → Tr → Prop
  | 0, _ => False
  | n + 1, t => Bnd (n + 1) t ∧ (t.isLeaf = false → 0 < cntT t) ∧ ∀ p l, t = .node p l → l.length = 1 → TopOk n (kidAt l 0)
theorem topT_kid {n : Nat} {p : Int} {l : List (List UInt8 × Tr)} (h : l.length = 1) : topT (n + 1) (.node p l) = topT n (kidAt l 0) := by
  show (if l.length = 1 then _ else _) = _
  rw [if_pos h]
theorem topT_same {n : Nat} {t : Tr} (h : ∀ p l, t = .node p l → l.length ≠ 1) (ha : atF (sizesT t) = 0) : topT (n + 1) t = t := by
  cases t with
  | leaf p l => show (if _ then _ else _) = _; rw [if_pos ha]
  | node p l =>
    show (if l.length = 1 then _ else if _ then _ else _) = _
    rw [if_neg (h p l rfl), if_pos ha]
theorem topT_mend {n : Nat} {t : Tr} (h : ∀ p l, t = .node p l → l.length ≠ 1) (ha : atF (sizesT t) ≠ 0) : topT (n + 1) t = mendT 0 [([], t)] 0 := by
  cases t with
  | leaf p l => show (if _ then _ else _) = _; rw [if_neg ha]
  | node p l =>
    show (if l.length = 1 then _ else if _ then _ else _) = _
    rw [if_neg (h p l rfl), if_neg ha]
set_option maxRecDepth 100000 in
set_option maxHeartbeats 2000000 in
theorem ttop_any : ∀ {N : Nat} {F : Nat → Prop} {w : World} {cs : List Value} {t : Tr}, NodeOn F N w cs t → TopOk N t → Calls Tryz.prog 119 #[.agg cs.toArray] w (NodeTo F (N + 1) w (topT N t))
  | 0, _, _, _, _, h, _ => h.elim
  | N + 1, F, w, cs, t, h, ho => by
    have IH := fun {F : Nat → Prop} {w : World} {cs : List Value} {t : Tr} (h : NodeOn F N w cs t) (ho : TopOk N t) => ttop_any h ho
    obtain ⟨o1, o2, o3⟩ := ho
    have hlt := h.lt
    obtain ⟨ka, kc, va, vn, vc, ca, cn, cc, V, C, rfl, h1, h2, h3, h4, f1, f2, f3⟩ := hlt.open
    obtain ⟨lf, hlf⟩ : ∃ x, t.isLeaf = x := ⟨_, rfl⟩
    obtain ⟨p, hp⟩ : ∃ x, t.page = x := ⟨_, rfl⟩
    obtain ⟨m, hm⟩ : ∃ x, cntT t = x := ⟨_, rfl⟩
    obtain ⟨_, r1, r2⟩ := h4.toR.lens
    have hcn : cn = if lf then 0 else m := by rw [← h3.1, r2, hlf, hm]
    have hm9 : m ≤ 1000 := by rw [← hm]; exact o1.cnt
    rw [hlf, hp, hm] at hlt ⊢
    have hB0 : Below w.heap.size w ((w.alloc (.cells #[.int .i64 p, .bool lf, .slice ka m kc, .slice va vn vc, .slice ca cn cc] 50)).alloc (.cells #[.int .i64 0, .bool false, .slice none 0 0, .slice none 0 0, .slice none 0 0] 50)) := Below.al (Below.al (Below.refl _ _))
    have hX0 : Boxes _ [(w.heap.size + 1, [.int .i64 0, .bool false, .slice none 0 0, .slice none 0 0, .slice none 0 0]), (w.heap.size, [.int .i64 p, .bool lf, .slice ka m kc, .slice va vn vc, .slice ca cn cc])] := (((Boxes.nil w).alloc #[.int .i64 p, .bool lf, .slice ka m kc, .slice va vn vc, .slice ca cn cc] 50 rfl).alloc #[.int .i64 0, .bool false, .slice none 0 0, .slice none 0 0, .slice none 0 0] 50 (b := w.heap.size + 1) (by simp))
    obtain ⟨wA, hwA⟩ : ∃ wA, (w.alloc (.cells #[.int .i64 p, .bool lf, .slice ka m kc, .slice va vn vc, .slice ca cn cc] 50)).alloc (.cells #[.int .i64 0, .bool false, .slice none 0 0, .slice none 0 0, .slice none 0 0] 50) = wA := ⟨_, rfl⟩
    have hzA : w.heap.size + 2 ≤ wA.heap.size := by rw [← hwA]; simp
    rw [hwA] at hB0 hX0
    have CS := tsizes_any (hlt.below hB0).toIn o1
    obtain ⟨S, hS⟩ : ∃ x, sizesT t = x := ⟨_, rfl⟩
    rw [hS] at CS
    have hSm := o1.small
    rw [hS] at hSm
    have hSm := Lib.hid hSm
    have n0 := hX0.cell 1 0 rfl rfl
    have n1 := hX0.cell 1 1 rfl rfl
    have n2 := hX0.cell 1 2 rfl rfl
    have n3 := hX0.cell 1 3 rfl rfl
    have n4 := hX0.cell 1 4 rfl rfl
    have HN := Lib.hid hlt
    have HX := Lib.hid hX0
    have HB := Lib.hid hB0
    have H3 := Lib.hid h3
    have H4 := Lib.hid h4
    have HLF := Lib.hid hlf
    have HM := Lib.hid hm
    have HO1 := Lib.hid o1
    have HO2 := Lib.hid o2
    have HO3 := Lib.hid o3
    have HS := Lib.hid hS
    have HCN := Lib.hid hcn
    have hF : ∀ b, Fr (fun b => F b ∧ b < w.heap.size) wA b → Fr F w b := fun b h => by rcases h with h | h; exact .inl h.1; exact .inr (by omega)
    have hne : ¬ Fr (fun b => F b ∧ b < w.heap.size) wA (w.heap.size + 1) := fun h => by rcases h with h | h <;> omega
    have HF := Lib.hid hF
    clear h h1 h2 h3 h4 hlt o1 o2 o3 hX0 hB0 hlf hp hm r1 r2 hS hcn hF
    by_cases hkid : lf = false ∧ m = 1
    · obtain ⟨rfl, rfl⟩ := hkid
      have hcn : cn = 1 := HCN.out
      subst hcn
      obtain ⟨bc, oc, y, yc, eca, hbc, hy, _, hyc, hcell⟩ := TabR.at H3.out (show 0 < 1 by omega)
      have hyc : yc = y.1 := hyc
      subst hyc eca
      cases t with
      | leaf p0 l => have := HLF.out; simp [Tr.isLeaf] at this
      | node p0 l =>
      have hl1 : l.length = 1 := HM.out
      have hkid := kid_tells H4.out.2.2 hy
      obtain ⟨q1, q2, q3, q4, q5, q6, q7, q8, _, _, ey, _⟩ := (NodeOn.open_pos hkid)
      rw [ey] at hcell hkid
      have e0 := (HB.out.cell (p := ⟨bc, oc, none⟩) hbc).trans (by have := hcell 0 _ rfl; simpa using this)
      have e1 := (HB.out.cell (p := ⟨bc, oc + 1, none⟩) hbc).trans (by have := hcell 1 _ rfl; simpa using this)
      have e2 := (HB.out.cell (p := ⟨bc, oc + 2, none⟩) hbc).trans (by have := hcell 2 _ rfl; simpa using this)
      have e3 := (HB.out.cell (p := ⟨bc, oc + 3, none⟩) hbc).trans (by have := hcell 3 _ rfl; simpa using this)
      have e4 := (HB.out.cell (p := ⟨bc, oc + 4, none⟩) hbc).trans (by have := hcell 4 _ rfl; simpa using this)
      have CT := IH (hkid.below HB.out) (HO3.out p0 l rfl hl1)
      have HTE : Hid (topT (N + 1) (.node p0 l) = topT N (kidAt l 0)) := Lib.hid (topT_kid hl1)
      clear hcell hkid ey hy CS IH hl1
      generalize (kidAt l 0).page = kp at *
      generalize (kidAt l 0).isLeaf = kl at *
      generalize cntT (kidAt l 0) = kcn at *
      go_enter Tryz.func119, Tryz.ntmps119
      go_wp2_with fail
      refine CT.mono ?_
      rintro e w1 ⟨x, rfl, hn, hb1⟩
      obtain ⟨x1, x3, x4, x5, x6, x7, x8, x9, _, _, ex, _⟩ := NodeOn.open_pos hn
      subst ex
      generalize (topT N (kidAt l 0)).page = xp at *
      generalize (topT N (kidAt l 0)).isLeaf = xl at *
      generalize cntT (topT N (kidAt l 0)) = x2 at *
      have hX1 := HX.out.step hb1
      have hBW := HB.out.trans (hb1.mono HB.out.size)
      have hz1 : w.heap.size + 2 ≤ w1.heap.size := Nat.le_trans hzA hb1.size
      clear CT n0 n1 n2 n3 n4 e0 e1 e2 e3 e4
      have hX7 := set5_box (hX1.sub (m := [(w.heap.size + 1, [.int .i64 0, .bool false, .slice none 0 0, .slice none 0 0, .slice none 0 0])]) (by simp)) (by simp) (.int .i64 xp) (.bool xl) (.slice x1 x2 x3) (.slice x4 x5 x6) (.slice x7 x8 x9)
      have hB7 := set5_below hBW (b := w.heap.size + 1) (by omega) (.int .i64 xp) (.bool xl) (.slice x1 x2 x3) (.slice x4 x5 x6) (.slice x7 x8 x9)
      have hN7 := NodeOn.more (m := N + 2) (NodeOn.mono HF.out (hn.agree (agree_set5 hne (.int .i64 xp) (.bool xl) (.slice x1 x2 x3) (.slice x4 x5 x6) (.slice x7 x8 x9)))) (by omega)
      rw [← HTE.out] at hN7
      have fin : Hid (NodeTo F (N + 2) w (topT (N + 1) (.node p0 l)) (.returned (.agg #[.int .i64 xp, .bool xl, .slice x1 x2 x3, .slice x4 x5 x6, .slice x7 x8 x9])) (set5 _ (w.heap.size + 1) (.int .i64 xp) (.bool xl) (.slice x1 x2 x3) (.slice x4 x5 x6) (.slice x7 x8 x9))) := Lib.hid ⟨[.int .i64 xp, .bool xl, .slice x1 x2 x3, .slice x4 x5 x6, .slice x7 x8 x9], rfl, hN7, hB7⟩
      have t0 := hX7.cell 0 0 rfl rfl
      have t1 := hX7.cell 0 1 rfl rfl
      have t2 := hX7.cell 0 2 rfl rfl
      have t3 := hX7.cell 0 3 rfl rfl
      have t4 := hX7.cell 0 4 rfl rfl
      unfold set5 at t0 t1 t2 t3 t4
      have z0 := hX1.cell 0 0 rfl rfl
      have z1 := hX1.cell 0 1 rfl rfl
      have z2 := hX1.cell 0 2 rfl rfl
      have z3 := hX1.cell 0 3 rfl rfl
      have z4 := hX1.cell 0 4 rfl rfl
      have u0 := hX1.frozen 0 0 rfl
      have u1 := hX1.frozen 0 1 rfl
      have u2 := hX1.frozen 0 2 rfl
      have u3 := hX1.frozen 0 3 rfl
      have u4 := hX1.frozen 0 4 rfl
      clear hX7 hB7 hN7
      go_wp2_with fail
      refine bodyPost_ret (v := .agg #[.int .i64 xp, .bool xl, .slice x1 x2 x3, .slice x4 x5 x6, .slice x7 x8 x9]) (by simp [results, Tryz.results119, go_sem, t0, t1, t2, t3, t4]) rfl ?_
      exact fin.out
    · have hrest : Hid (∀ p l, t = .node p l → l.length ≠ 1) := Lib.hid (fun p l e hl => hkid ⟨by rw [← HLF.out, e]; rfl, by rw [← HM.out, e]; exact hl⟩)
      have hguard : lf = true ∨ ((m : Int) == 1) = false := by
        cases lf with
        | true => exact .inl rfl
        | false => exact .inr (by simp; intro e; exact hkid ⟨rfl, by omega⟩)
      clear hkid IH
      rcases hguard with rfl | hguard
      · go_enter Tryz.func119, Tryz.ntmps119
        go_wp2_with fail
        refine CS.mono ?_
        rintro e w1 ⟨v1, rfl, ho1, hb1⟩
        obtain ⟨sa, sc, rfl, hrow⟩ := Row.of_own ho1
        clear CS ho1
        go_wp2_with fail
        refine (at_any _ _ _ _ _ hrow hSm.out).mono ?_
        rintro e w2 ⟨rfl, hb2⟩
        have hbA := below_via hb1 hb2
        have hX2 := HX.out.step hbA
        have hBW := HB.out.trans (hbA.mono HB.out.size)
        have hz2 : w.heap.size + 2 ≤ w2.heap.size := Nat.le_trans hzA hbA.size
        clear hb1 hb2 hrow n0 n1 n2 n3 n4 hbA
        have n0 := hX2.cell 1 0 rfl rfl
        have n1 := hX2.cell 1 1 rfl rfl
        have n2 := hX2.cell 1 2 rfl rfl
        have n3 := hX2.cell 1 3 rfl rfl
        have n4 := hX2.cell 1 4 rfl rfl
        by_cases hat : atF S = 0
        · have HAT := Lib.hid hat
          have HTE : Hid (topT (N + 1) t = t) := Lib.hid (topT_same hrest.out (by rw [HS.out]; exact hat))
          rw [hat]
          clear hat
          have hX7 := set5_box (hX2.sub (m := [(w.heap.size + 1, [.int .i64 0, .bool false, .slice none 0 0, .slice none 0 0, .slice none 0 0])]) (by simp)) (by simp) (.int .i64 p) (.bool true) (.slice ka m kc) (.slice va vn vc) (.slice ca cn cc)
          have hB7 := set5_below hBW (b := w.heap.size + 1) (by omega) (.int .i64 p) (.bool true) (.slice ka m kc) (.slice va vn vc) (.slice ca cn cc)
          have hN7 := NodeOn.more (m := N + 2) (NodeOn.mono (G := Fr F w) (fun b h => .inl h.1) (HN.out.below hB7)) (by omega)
          rw [← HTE.out] at hN7
          have fin : Hid (NodeTo F (N + 2) w (topT (N + 1) t) (.returned (.agg #[.int .i64 p, .bool true, .slice ka m kc, .slice va vn vc, .slice ca cn cc])) (set5 _ (w.heap.size + 1) (.int .i64 p) (.bool true) (.slice ka m kc) (.slice va vn vc) (.slice ca cn cc))) := Lib.hid ⟨[.int .i64 p, .bool true, .slice ka m kc, .slice va vn vc, .slice ca cn cc], rfl, hN7, hB7⟩
          have t0 := hX7.cell 0 0 rfl rfl
          have t1 := hX7.cell 0 1 rfl rfl
          have t2 := hX7.cell 0 2 rfl rfl
          have t3 := hX7.cell 0 3 rfl rfl
          have t4 := hX7.cell 0 4 rfl rfl
          unfold set5 at t0 t1 t2 t3 t4
          have z0 := hX2.cell 0 0 rfl rfl
          have z1 := hX2.cell 0 1 rfl rfl
          have z2 := hX2.cell 0 2 rfl rfl
          have z3 := hX2.cell 0 3 rfl rfl
          have z4 := hX2.cell 0 4 rfl rfl
          have u0 := hX2.frozen 0 0 rfl
          have u1 := hX2.frozen 0 1 rfl
          have u2 := hX2.frozen 0 2 rfl
          have u3 := hX2.frozen 0 3 rfl
          have u4 := hX2.frozen 0 4 rfl
          clear hX7 hB7 hN7
          go_wp2_with fail
          refine bodyPost_ret (v := .agg #[.int .i64 p, .bool true, .slice ka m kc, .slice va vn vc, .slice ca cn cc]) (by simp [results, Tryz.results119, go_sem, t0, t1, t2, t3, t4]) rfl ?_
          exact fin.out
        · have HTE : Hid (topT (N + 1) t = mendT 0 [([], t)] 0) := Lib.hid (topT_mend hrest.out (by rw [HS.out]; exact hat))
          have hae : ((atF S : Int) == 0) = false := by simpa using hat
          generalize atF S = A at *
          clear hat
          have hSe : Calls Tryz.prog 156 #[.agg #[.int .i64 0, .bool false, .slice (some ⟨w2.heap.size, 0, none⟩) 1 1, .slice none 0 0, .slice (some ⟨w2.heap.size + 1, 0, none⟩) 1 1], .int .i64 0] ((w2.alloc (.cells #[.string ⟨#[]⟩] 9)).alloc (.cells #[.int .i64 p, .bool true, .slice ka m kc, .slice va vn vc, .slice ca cn cc] 50)) (NodeTo (fun b => (F b ∧ b < w.heap.size) ∨ w.heap.size + 2 ≤ b) (N + 2) ((w2.alloc (.cells #[.string ⟨#[]⟩] 9)).alloc (.cells #[.int .i64 p, .bool true, .slice ka m kc, .slice va vn vc, .slice ca cn cc] 50)) (mendT 0 [([], t)] 0)) := by
            have hW : Below w2.heap.size w2 ((w2.alloc (.cells #[.string ⟨#[]⟩] 9)).alloc (.cells #[.int .i64 p, .bool true, .slice ka m kc, .slice va vn vc, .slice ca cn cc] 50)) := Below.al (Below.al (Below.refl _ _))
            obtain ⟨cN, hcN⟩ : ∃ c : Cl 5, c.1 = [.int .i64 p, .bool true, .slice ka m kc, .slice va vn vc, .slice ca cn cc] := ⟨⟨[.int .i64 p, .bool true, .slice ka m kc, .slice va vn vc, .slice ca cn cc], rfl, by intro u hu; simp at hu; rcases hu with rfl | rfl | rfl | rfl | rfl <;> rfl⟩, rfl⟩
            have hnode : NodeOn (fun b => (F b ∧ b < w.heap.size) ∨ w.heap.size + 2 ≤ b) (N + 2) ((w2.alloc (.cells #[.string ⟨#[]⟩] 9)).alloc (.cells #[.int .i64 p, .bool true, .slice ka m kc, .slice va vn vc, .slice ca cn cc] 50)) [.int .i64 0, .bool false, .slice (some ⟨w2.heap.size, 0, none⟩) 1 1, .slice none 0 0, .slice (some ⟨w2.heap.size + 1, 0, none⟩) 1 1] (.node 0 [([], t)]) := by
              refine NodeOn.shut (V := []) (C := [cN]) rfl rfl (K := [kCell []]) rfl (raw_box (L := [kCell []]) (BoxAt.al BoxAt.here) (by simp)) (Raw.nil0 _ _) (raw_box (L := [cN]) (by simpa [flatC, hcN] using (BoxAt.here2 (w := w2) (o := .cells #[.string ⟨#[]⟩] 9) (cs := #[.int .i64 p, .bool true, .slice ka m kc, .slice va vn vc, .slice ca cn cc]) (t := 50))) (by simp)) ?_ (Fa.zero _ _) ?_ ⟨tells_keys _, rfl, Tells.one ?_⟩
              · exact .inr fun b off e => by cases e; exact .inr (by omega)
              · exact .inr fun b off e => by cases e; exact .inr (by omega)
              · rw [hcN]
                exact NodeOn.mono (fun b h => .inl h) (HN.out.below (hBW.trans (hW.mono hBW.size)))
            exact tmend_any hnode 0 (by simp) ⟨by simp, fun c hc => by simp at hc; subst hc; exact HO1.out, fun c hc d hd => by simp at hc hd; subst hc hd; rfl, fun c hc hl => by simp at hc; subst hc; exact HO2.out hl, fun j hj => by simp at hj⟩
          have hX2a : Boxes (w2.alloc (.cells #[.string ⟨#[]⟩] 9)) _ := Boxes.al hX2
          have s0 := hX2a.cell 1 0 rfl rfl
          have s1 := hX2a.cell 1 1 rfl rfl
          have s2 := hX2a.cell 1 2 rfl rfl
          have s3 := hX2a.cell 1 3 rfl rfl
          have s4 := hX2a.cell 1 4 rfl rfl
          go_wp2_with fail
          clear hX2a s0 s1 s2 s3 s4
          refine hSe.mono ?_
          rintro e w3 ⟨x, rfl, hn, hb3⟩
          obtain ⟨x1, x3, x4, x5, x6, x7, x8, x9, _, _, ex, _⟩ := NodeOn.open_pos hn
          subst ex
          rw [← HTE.out] at hn ⊢
          have hb3' : Below w2.heap.size w2 w3 := below_via (Below.al (Below.al (Below.refl _ _))) hb3
          have hX3 := hX2.step hb3'
          have hBW3 := hBW.trans (hb3'.mono hBW.size)
          have hne3 : ¬ Fr (fun b => (F b ∧ b < w.heap.size) ∨ w.heap.size + 2 ≤ b) ((w2.alloc (.cells #[.string ⟨#[]⟩] 9)).alloc (.cells #[.int .i64 p, .bool true, .slice ka m kc, .slice va vn vc, .slice ca cn cc] 50)) (w.heap.size + 1) := fun h => by
            rcases h with h | h
            · omega
            · simp at h; omega
          have hF3 : ∀ b, Fr (fun b => (F b ∧ b < w.heap.size) ∨ w.heap.size + 2 ≤ b) ((w2.alloc (.cells #[.string ⟨#[]⟩] 9)).alloc (.cells #[.int .i64 p, .bool true, .slice ka m kc, .slice va vn vc, .slice ca cn cc] 50)) b → Fr F w b := fun b h => by
            rcases h with h | h
            · rcases h with h | h; exact .inl h.1; exact .inr (by omega)
            · simp at h; exact .inr (by omega)
          have hne := hne3
          generalize (topT (N + 1) t).page = xp at *
          generalize (topT (N + 1) t).isLeaf = xl at *
          generalize cntT (topT (N + 1) t) = x2 at *
          clear hSe n0 n1 n2 n3 n4
          have hX7 := set5_box (hX3.sub (m := [(w.heap.size + 1, [.int .i64 0, .bool false, .slice none 0 0, .slice none 0 0, .slice none 0 0])]) (by simp)) (by simp) (.int .i64 xp) (.bool xl) (.slice x1 x2 x3) (.slice x4 x5 x6) (.slice x7 x8 x9)
          have hB7 := set5_below hBW3 (b := w.heap.size + 1) (by omega) (.int .i64 xp) (.bool xl) (.slice x1 x2 x3) (.slice x4 x5 x6) (.slice x7 x8 x9)
          have hN7 := NodeOn.mono hF3 (hn.agree (agree_set5 hne (.int .i64 xp) (.bool xl) (.slice x1 x2 x3) (.slice x4 x5 x6) (.slice x7 x8 x9)))
          have fin : Hid (NodeTo F (N + 2) w (topT (N + 1) t) (.returned (.agg #[.int .i64 xp, .bool xl, .slice x1 x2 x3, .slice x4 x5 x6, .slice x7 x8 x9])) (set5 _ (w.heap.size + 1) (.int .i64 xp) (.bool xl) (.slice x1 x2 x3) (.slice x4 x5 x6) (.slice x7 x8 x9))) := Lib.hid ⟨[.int .i64 xp, .bool xl, .slice x1 x2 x3, .slice x4 x5 x6, .slice x7 x8 x9], rfl, hN7, hB7⟩
          have t0 := hX7.cell 0 0 rfl rfl
          have t1 := hX7.cell 0 1 rfl rfl
          have t2 := hX7.cell 0 2 rfl rfl
          have t3 := hX7.cell 0 3 rfl rfl
          have t4 := hX7.cell 0 4 rfl rfl
          unfold set5 at t0 t1 t2 t3 t4
          have z0 := hX3.cell 0 0 rfl rfl
          have z1 := hX3.cell 0 1 rfl rfl
          have z2 := hX3.cell 0 2 rfl rfl
          have z3 := hX3.cell 0 3 rfl rfl
          have z4 := hX3.cell 0 4 rfl rfl
          have u0 := hX3.frozen 0 0 rfl
          have u1 := hX3.frozen 0 1 rfl
          have u2 := hX3.frozen 0 2 rfl
          have u3 := hX3.frozen 0 3 rfl
          have u4 := hX3.frozen 0 4 rfl
          clear hX7 hB7 hN7
          go_wp2_with fail
          refine bodyPost_ret (v := .agg #[.int .i64 xp, .bool xl, .slice x1 x2 x3, .slice x4 x5 x6, .slice x7 x8 x9]) (by simp [results, Tryz.results119, go_sem, t0, t1, t2, t3, t4]) rfl ?_
          exact fin.out
      · cases lf with
        | true =>
          go_enter Tryz.func119, Tryz.ntmps119
          go_wp2_with fail
          refine CS.mono ?_
          rintro e w1 ⟨v1, rfl, ho1, hb1⟩
          obtain ⟨sa, sc, rfl, hrow⟩ := Row.of_own ho1
          clear CS ho1
          go_wp2_with fail
          refine (at_any _ _ _ _ _ hrow hSm.out).mono ?_
          rintro e w2 ⟨rfl, hb2⟩
          have hbA := below_via hb1 hb2
          have hX2 := HX.out.step hbA
          have hBW := HB.out.trans (hbA.mono HB.out.size)
          have hz2 : w.heap.size + 2 ≤ w2.heap.size := Nat.le_trans hzA hbA.size
          clear hb1 hb2 hrow n0 n1 n2 n3 n4 hbA
          have n0 := hX2.cell 1 0 rfl rfl
          have n1 := hX2.cell 1 1 rfl rfl
          have n2 := hX2.cell 1 2 rfl rfl
          have n3 := hX2.cell 1 3 rfl rfl
          have n4 := hX2.cell 1 4 rfl rfl
          by_cases hat : atF S = 0
          · have HAT := Lib.hid hat
            have HTE : Hid (topT (N + 1) t = t) := Lib.hid (topT_same hrest.out (by rw [HS.out]; exact hat))
            rw [hat]
            clear hat
            have hX7 := set5_box (hX2.sub (m := [(w.heap.size + 1, [.int .i64 0, .bool false, .slice none 0 0, .slice none 0 0, .slice none 0 0])]) (by simp)) (by simp) (.int .i64 p) (.bool true) (.slice ka m kc) (.slice va vn vc) (.slice ca cn cc)
            have hB7 := set5_below hBW (b := w.heap.size + 1) (by omega) (.int .i64 p) (.bool true) (.slice ka m kc) (.slice va vn vc) (.slice ca cn cc)
            have hN7 := NodeOn.more (m := N + 2) (NodeOn.mono (G := Fr F w) (fun b h => .inl h.1) (HN.out.below hB7)) (by omega)
            rw [← HTE.out] at hN7
            have fin : Hid (NodeTo F (N + 2) w (topT (N + 1) t) (.returned (.agg #[.int .i64 p, .bool true, .slice ka m kc, .slice va vn vc, .slice ca cn cc])) (set5 _ (w.heap.size + 1) (.int .i64 p) (.bool true) (.slice ka m kc) (.slice va vn vc) (.slice ca cn cc))) := Lib.hid ⟨[.int .i64 p, .bool true, .slice ka m kc, .slice va vn vc, .slice ca cn cc], rfl, hN7, hB7⟩
            have t0 := hX7.cell 0 0 rfl rfl
            have t1 := hX7.cell 0 1 rfl rfl
            have t2 := hX7.cell 0 2 rfl rfl
            have t3 := hX7.cell 0 3 rfl rfl
            have t4 := hX7.cell 0 4 rfl rfl
            unfold set5 at t0 t1 t2 t3 t4
            have z0 := hX2.cell 0 0 rfl rfl
            have z1 := hX2.cell 0 1 rfl rfl
            have z2 := hX2.cell 0 2 rfl rfl
            have z3 := hX2.cell 0 3 rfl rfl
            have z4 := hX2.cell 0 4 rfl rfl
            have u0 := hX2.frozen 0 0 rfl
            have u1 := hX2.frozen 0 1 rfl
            have u2 := hX2.frozen 0 2 rfl
            have u3 := hX2.frozen 0 3 rfl
            have u4 := hX2.frozen 0 4 rfl
            clear hX7 hB7 hN7
            go_wp2_with fail
            refine bodyPost_ret (v := .agg #[.int .i64 p, .bool true, .slice ka m kc, .slice va vn vc, .slice ca cn cc]) (by simp [results, Tryz.results119, go_sem, t0, t1, t2, t3, t4]) rfl ?_
            exact fin.out
          · have HTE : Hid (topT (N + 1) t = mendT 0 [([], t)] 0) := Lib.hid (topT_mend hrest.out (by rw [HS.out]; exact hat))
            have hae : ((atF S : Int) == 0) = false := by simpa using hat
            generalize atF S = A at *
            clear hat
            have hSe : Calls Tryz.prog 156 #[.agg #[.int .i64 0, .bool false, .slice (some ⟨w2.heap.size, 0, none⟩) 1 1, .slice none 0 0, .slice (some ⟨w2.heap.size + 1, 0, none⟩) 1 1], .int .i64 0] ((w2.alloc (.cells #[.string ⟨#[]⟩] 9)).alloc (.cells #[.int .i64 p, .bool true, .slice ka m kc, .slice va vn vc, .slice ca cn cc] 50)) (NodeTo (fun b => (F b ∧ b < w.heap.size) ∨ w.heap.size + 2 ≤ b) (N + 2) ((w2.alloc (.cells #[.string ⟨#[]⟩] 9)).alloc (.cells #[.int .i64 p, .bool true, .slice ka m kc, .slice va vn vc, .slice ca cn cc] 50)) (mendT 0 [([], t)] 0)) := by
              have hW : Below w2.heap.size w2 ((w2.alloc (.cells #[.string ⟨#[]⟩] 9)).alloc (.cells #[.int .i64 p, .bool true, .slice ka m kc, .slice va vn vc, .slice ca cn cc] 50)) := Below.al (Below.al (Below.refl _ _))
              obtain ⟨cN, hcN⟩ : ∃ c : Cl 5, c.1 = [.int .i64 p, .bool true, .slice ka m kc, .slice va vn vc, .slice ca cn cc] := ⟨⟨[.int .i64 p, .bool true, .slice ka m kc, .slice va vn vc, .slice ca cn cc], rfl, by intro u hu; simp at hu; rcases hu with rfl | rfl | rfl | rfl | rfl <;> rfl⟩, rfl⟩
              have hnode : NodeOn (fun b => (F b ∧ b < w.heap.size) ∨ w.heap.size + 2 ≤ b) (N + 2) ((w2.alloc (.cells #[.string ⟨#[]⟩] 9)).alloc (.cells #[.int .i64 p, .bool true, .slice ka m kc, .slice va vn vc, .slice ca cn cc] 50)) [.int .i64 0, .bool false, .slice (some ⟨w2.heap.size, 0, none⟩) 1 1, .slice none 0 0, .slice (some ⟨w2.heap.size + 1, 0, none⟩) 1 1] (.node 0 [([], t)]) := by
                refine NodeOn.shut (V := []) (C := [cN]) rfl rfl (K := [kCell []]) rfl (raw_box (L := [kCell []]) (BoxAt.al BoxAt.here) (by simp)) (Raw.nil0 _ _) (raw_box (L := [cN]) (by simpa [flatC, hcN] using (BoxAt.here2 (w := w2) (o := .cells #[.string ⟨#[]⟩] 9) (cs := #[.int .i64 p, .bool true, .slice ka m kc, .slice va vn vc, .slice ca cn cc]) (t := 50))) (by simp)) ?_ (Fa.zero _ _) ?_ ⟨tells_keys _, rfl, Tells.one ?_⟩
                · exact .inr fun b off e => by cases e; exact .inr (by omega)
                · exact .inr fun b off e => by cases e; exact .inr (by omega)
                · rw [hcN]
                  exact NodeOn.mono (fun b h => .inl h) (HN.out.below (hBW.trans (hW.mono hBW.size)))
              exact tmend_any hnode 0 (by simp) ⟨by simp, fun c hc => by simp at hc; subst hc; exact HO1.out, fun c hc d hd => by simp at hc hd; subst hc hd; rfl, fun c hc hl => by simp at hc; subst hc; exact HO2.out hl, fun j hj => by simp at hj⟩
            have hX2a : Boxes (w2.alloc (.cells #[.string ⟨#[]⟩] 9)) _ := Boxes.al hX2
            have s0 := hX2a.cell 1 0 rfl rfl
            have s1 := hX2a.cell 1 1 rfl rfl
            have s2 := hX2a.cell 1 2 rfl rfl
            have s3 := hX2a.cell 1 3 rfl rfl
            have s4 := hX2a.cell 1 4 rfl rfl
            go_wp2_with fail
            clear hX2a s0 s1 s2 s3 s4
            refine hSe.mono ?_
            rintro e w3 ⟨x, rfl, hn, hb3⟩
            obtain ⟨x1, x3, x4, x5, x6, x7, x8, x9, _, _, ex, _⟩ := NodeOn.open_pos hn
            subst ex
            rw [← HTE.out] at hn ⊢
            have hb3' : Below w2.heap.size w2 w3 := below_via (Below.al (Below.al (Below.refl _ _))) hb3
            have hX3 := hX2.step hb3'
            have hBW3 := hBW.trans (hb3'.mono hBW.size)
            have hne3 : ¬ Fr (fun b => (F b ∧ b < w.heap.size) ∨ w.heap.size + 2 ≤ b) ((w2.alloc (.cells #[.string ⟨#[]⟩] 9)).alloc (.cells #[.int .i64 p, .bool true, .slice ka m kc, .slice va vn vc, .slice ca cn cc] 50)) (w.heap.size + 1) := fun h => by
              rcases h with h | h
              · omega
              · simp at h; omega
            have hF3 : ∀ b, Fr (fun b => (F b ∧ b < w.heap.size) ∨ w.heap.size + 2 ≤ b) ((w2.alloc (.cells #[.string ⟨#[]⟩] 9)).alloc (.cells #[.int .i64 p, .bool true, .slice ka m kc, .slice va vn vc, .slice ca cn cc] 50)) b → Fr F w b := fun b h => by
              rcases h with h | h
              · rcases h with h | h; exact .inl h.1; exact .inr (by omega)
              · simp at h; exact .inr (by omega)
            have hne := hne3
            generalize (topT (N + 1) t).page = xp at *
            generalize (topT (N + 1) t).isLeaf = xl at *
            generalize cntT (topT (N + 1) t) = x2 at *
            clear hSe n0 n1 n2 n3 n4
            have hX7 := set5_box (hX3.sub (m := [(w.heap.size + 1, [.int .i64 0, .bool false, .slice none 0 0, .slice none 0 0, .slice none 0 0])]) (by simp)) (by simp) (.int .i64 xp) (.bool xl) (.slice x1 x2 x3) (.slice x4 x5 x6) (.slice x7 x8 x9)
            have hB7 := set5_below hBW3 (b := w.heap.size + 1) (by omega) (.int .i64 xp) (.bool xl) (.slice x1 x2 x3) (.slice x4 x5 x6) (.slice x7 x8 x9)
            have hN7 := NodeOn.mono hF3 (hn.agree (agree_set5 hne (.int .i64 xp) (.bool xl) (.slice x1 x2 x3) (.slice x4 x5 x6) (.slice x7 x8 x9)))
            have fin : Hid (NodeTo F (N + 2) w (topT (N + 1) t) (.returned (.agg #[.int .i64 xp, .bool xl, .slice x1 x2 x3, .slice x4 x5 x6, .slice x7 x8 x9])) (set5 _ (w.heap.size + 1) (.int .i64 xp) (.bool xl) (.slice x1 x2 x3) (.slice x4 x5 x6) (.slice x7 x8 x9))) := Lib.hid ⟨[.int .i64 xp, .bool xl, .slice x1 x2 x3, .slice x4 x5 x6, .slice x7 x8 x9], rfl, hN7, hB7⟩
            have t0 := hX7.cell 0 0 rfl rfl
            have t1 := hX7.cell 0 1 rfl rfl
            have t2 := hX7.cell 0 2 rfl rfl
            have t3 := hX7.cell 0 3 rfl rfl
            have t4 := hX7.cell 0 4 rfl rfl
            unfold set5 at t0 t1 t2 t3 t4
            have z0 := hX3.cell 0 0 rfl rfl
            have z1 := hX3.cell 0 1 rfl rfl
            have z2 := hX3.cell 0 2 rfl rfl
            have z3 := hX3.cell 0 3 rfl rfl
            have z4 := hX3.cell 0 4 rfl rfl
            have u0 := hX3.frozen 0 0 rfl
            have u1 := hX3.frozen 0 1 rfl
            have u2 := hX3.frozen 0 2 rfl
            have u3 := hX3.frozen 0 3 rfl
            have u4 := hX3.frozen 0 4 rfl
            clear hX7 hB7 hN7
            go_wp2_with fail
            refine bodyPost_ret (v := .agg #[.int .i64 xp, .bool xl, .slice x1 x2 x3, .slice x4 x5 x6, .slice x7 x8 x9]) (by simp [results, Tryz.results119, go_sem, t0, t1, t2, t3, t4]) rfl ?_
            exact fin.out
        | false =>
          have hcm : cn = m := HCN.out
          subst hcm
          go_enter Tryz.func119, Tryz.ntmps119
          go_wp2_with fail
          refine CS.mono ?_
          rintro e w1 ⟨v1, rfl, ho1, hb1⟩
          obtain ⟨sa, sc, rfl, hrow⟩ := Row.of_own ho1
          clear CS ho1
          go_wp2_with fail
          refine (at_any _ _ _ _ _ hrow hSm.out).mono ?_
          rintro e w2 ⟨rfl, hb2⟩
          have hbA := below_via hb1 hb2
          have hX2 := HX.out.step hbA
          have hBW := HB.out.trans (hbA.mono HB.out.size)
          have hz2 : w.heap.size + 2 ≤ w2.heap.size := Nat.le_trans hzA hbA.size
          clear hb1 hb2 hrow n0 n1 n2 n3 n4 hbA
          have n0 := hX2.cell 1 0 rfl rfl
          have n1 := hX2.cell 1 1 rfl rfl
          have n2 := hX2.cell 1 2 rfl rfl
          have n3 := hX2.cell 1 3 rfl rfl
          have n4 := hX2.cell 1 4 rfl rfl
          by_cases hat : atF S = 0
          · have HAT := Lib.hid hat
            have HTE : Hid (topT (N + 1) t = t) := Lib.hid (topT_same hrest.out (by rw [HS.out]; exact hat))
            rw [hat]
            clear hat
            have hX7 := set5_box (hX2.sub (m := [(w.heap.size + 1, [.int .i64 0, .bool false, .slice none 0 0, .slice none 0 0, .slice none 0 0])]) (by simp)) (by simp) (.int .i64 p) (.bool false) (.slice ka cn kc) (.slice va vn vc) (.slice ca cn cc)
            have hB7 := set5_below hBW (b := w.heap.size + 1) (by omega) (.int .i64 p) (.bool false) (.slice ka cn kc) (.slice va vn vc) (.slice ca cn cc)
            have hN7 := NodeOn.more (m := N + 2) (NodeOn.mono (G := Fr F w) (fun b h => .inl h.1) (HN.out.below hB7)) (by omega)
            rw [← HTE.out] at hN7
            have fin : Hid (NodeTo F (N + 2) w (topT (N + 1) t) (.returned (.agg #[.int .i64 p, .bool false, .slice ka cn kc, .slice va vn vc, .slice ca cn cc])) (set5 _ (w.heap.size + 1) (.int .i64 p) (.bool false) (.slice ka cn kc) (.slice va vn vc) (.slice ca cn cc))) := Lib.hid ⟨[.int .i64 p, .bool false, .slice ka cn kc, .slice va vn vc, .slice ca cn cc], rfl, hN7, hB7⟩
            have t0 := hX7.cell 0 0 rfl rfl
            have t1 := hX7.cell 0 1 rfl rfl
            have t2 := hX7.cell 0 2 rfl rfl
            have t3 := hX7.cell 0 3 rfl rfl
            have t4 := hX7.cell 0 4 rfl rfl
            unfold set5 at t0 t1 t2 t3 t4
            have z0 := hX2.cell 0 0 rfl rfl
            have z1 := hX2.cell 0 1 rfl rfl
            have z2 := hX2.cell 0 2 rfl rfl
            have z3 := hX2.cell 0 3 rfl rfl
            have z4 := hX2.cell 0 4 rfl rfl
            have u0 := hX2.frozen 0 0 rfl
            have u1 := hX2.frozen 0 1 rfl
            have u2 := hX2.frozen 0 2 rfl
            have u3 := hX2.frozen 0 3 rfl
            have u4 := hX2.frozen 0 4 rfl
            clear hX7 hB7 hN7
            go_wp2_with fail
            refine bodyPost_ret (v := .agg #[.int .i64 p, .bool false, .slice ka cn kc, .slice va vn vc, .slice ca cn cc]) (by simp [results, Tryz.results119, go_sem, t0, t1, t2, t3, t4]) rfl ?_
            exact fin.out
          · have HTE : Hid (topT (N + 1) t = mendT 0 [([], t)] 0) := Lib.hid (topT_mend hrest.out (by rw [HS.out]; exact hat))
            have hae : ((atF S : Int) == 0) = false := by simpa using hat
            generalize atF S = A at *
            clear hat
            have hSe : Calls Tryz.prog 156 #[.agg #[.int .i64 0, .bool false, .slice (some ⟨w2.heap.size, 0, none⟩) 1 1, .slice none 0 0, .slice (some ⟨w2.heap.size + 1, 0, none⟩) 1 1], .int .i64 0] ((w2.alloc (.cells #[.string ⟨#[]⟩] 9)).alloc (.cells #[.int .i64 p, .bool false, .slice ka cn kc, .slice va vn vc, .slice ca cn cc] 50)) (NodeTo (fun b => (F b ∧ b < w.heap.size) ∨ w.heap.size + 2 ≤ b) (N + 2) ((w2.alloc (.cells #[.string ⟨#[]⟩] 9)).alloc (.cells #[.int .i64 p, .bool false, .slice ka cn kc, .slice va vn vc, .slice ca cn cc] 50)) (mendT 0 [([], t)] 0)) := by
              have hW : Below w2.heap.size w2 ((w2.alloc (.cells #[.string ⟨#[]⟩] 9)).alloc (.cells #[.int .i64 p, .bool false, .slice ka cn kc, .slice va vn vc, .slice ca cn cc] 50)) := Below.al (Below.al (Below.refl _ _))
              obtain ⟨cN, hcN⟩ : ∃ c : Cl 5, c.1 = [.int .i64 p, .bool false, .slice ka cn kc, .slice va vn vc, .slice ca cn cc] := ⟨⟨[.int .i64 p, .bool false, .slice ka cn kc, .slice va vn vc, .slice ca cn cc], rfl, by intro u hu; simp at hu; rcases hu with rfl | rfl | rfl | rfl | rfl <;> rfl⟩, rfl⟩
              have hnode : NodeOn (fun b => (F b ∧ b < w.heap.size) ∨ w.heap.size + 2 ≤ b) (N + 2) ((w2.alloc (.cells #[.string ⟨#[]⟩] 9)).alloc (.cells #[.int .i64 p, .bool false, .slice ka cn kc, .slice va vn vc, .slice ca cn cc] 50)) [.int .i64 0, .bool false, .slice (some ⟨w2.heap.size, 0, none⟩) 1 1, .slice none 0 0, .slice (some ⟨w2.heap.size + 1, 0, none⟩) 1 1] (.node 0 [([], t)]) := by
                refine NodeOn.shut (V := []) (C := [cN]) rfl rfl (K := [kCell []]) rfl (raw_box (L := [kCell []]) (BoxAt.al BoxAt.here) (by simp)) (Raw.nil0 _ _) (raw_box (L := [cN]) (by simpa [flatC, hcN] using (BoxAt.here2 (w := w2) (o := .cells #[.string ⟨#[]⟩] 9) (cs := #[.int .i64 p, .bool false, .slice ka cn kc, .slice va vn vc, .slice ca cn cc]) (t := 50))) (by simp)) ?_ (Fa.zero _ _) ?_ ⟨tells_keys _, rfl, Tells.one ?_⟩
                · exact .inr fun b off e => by cases e; exact .inr (by omega)
                · exact .inr fun b off e => by cases e; exact .inr (by omega)
                · rw [hcN]
                  exact NodeOn.mono (fun b h => .inl h) (HN.out.below (hBW.trans (hW.mono hBW.size)))
              exact tmend_any hnode 0 (by simp) ⟨by simp, fun c hc => by simp at hc; subst hc; exact HO1.out, fun c hc d hd => by simp at hc hd; subst hc hd; rfl, fun c hc hl => by simp at hc; subst hc; exact HO2.out hl, fun j hj => by simp at hj⟩
            have hX2a : Boxes (w2.alloc (.cells #[.string ⟨#[]⟩] 9)) _ := Boxes.al hX2
            have s0 := hX2a.cell 1 0 rfl rfl
            have s1 := hX2a.cell 1 1 rfl rfl
            have s2 := hX2a.cell 1 2 rfl rfl
            have s3 := hX2a.cell 1 3 rfl rfl
            have s4 := hX2a.cell 1 4 rfl rfl
            go_wp2_with fail
            clear hX2a s0 s1 s2 s3 s4
            refine hSe.mono ?_
            rintro e w3 ⟨x, rfl, hn, hb3⟩
            obtain ⟨x1, x3, x4, x5, x6, x7, x8, x9, _, _, ex, _⟩ := NodeOn.open_pos hn
            subst ex
            rw [← HTE.out] at hn ⊢
            have hb3' : Below w2.heap.size w2 w3 := below_via (Below.al (Below.al (Below.refl _ _))) hb3
            have hX3 := hX2.step hb3'
            have hBW3 := hBW.trans (hb3'.mono hBW.size)
            have hne3 : ¬ Fr (fun b => (F b ∧ b < w.heap.size) ∨ w.heap.size + 2 ≤ b) ((w2.alloc (.cells #[.string ⟨#[]⟩] 9)).alloc (.cells #[.int .i64 p, .bool false, .slice ka cn kc, .slice va vn vc, .slice ca cn cc] 50)) (w.heap.size + 1) := fun h => by
              rcases h with h | h
              · omega
              · simp at h; omega
            have hF3 : ∀ b, Fr (fun b => (F b ∧ b < w.heap.size) ∨ w.heap.size + 2 ≤ b) ((w2.alloc (.cells #[.string ⟨#[]⟩] 9)).alloc (.cells #[.int .i64 p, .bool false, .slice ka cn kc, .slice va vn vc, .slice ca cn cc] 50)) b → Fr F w b := fun b h => by
              rcases h with h | h
              · rcases h with h | h; exact .inl h.1; exact .inr (by omega)
              · simp at h; exact .inr (by omega)
            have hne := hne3
            generalize (topT (N + 1) t).page = xp at *
            generalize (topT (N + 1) t).isLeaf = xl at *
            generalize cntT (topT (N + 1) t) = x2 at *
            clear hSe n0 n1 n2 n3 n4
            have hX7 := set5_box (hX3.sub (m := [(w.heap.size + 1, [.int .i64 0, .bool false, .slice none 0 0, .slice none 0 0, .slice none 0 0])]) (by simp)) (by simp) (.int .i64 xp) (.bool xl) (.slice x1 x2 x3) (.slice x4 x5 x6) (.slice x7 x8 x9)
            have hB7 := set5_below hBW3 (b := w.heap.size + 1) (by omega) (.int .i64 xp) (.bool xl) (.slice x1 x2 x3) (.slice x4 x5 x6) (.slice x7 x8 x9)
            have hN7 := NodeOn.mono hF3 (hn.agree (agree_set5 hne (.int .i64 xp) (.bool xl) (.slice x1 x2 x3) (.slice x4 x5 x6) (.slice x7 x8 x9)))
            have fin : Hid (NodeTo F (N + 2) w (topT (N + 1) t) (.returned (.agg #[.int .i64 xp, .bool xl, .slice x1 x2 x3, .slice x4 x5 x6, .slice x7 x8 x9])) (set5 _ (w.heap.size + 1) (.int .i64 xp) (.bool xl) (.slice x1 x2 x3) (.slice x4 x5 x6) (.slice x7 x8 x9))) := Lib.hid ⟨[.int .i64 xp, .bool xl, .slice x1 x2 x3, .slice x4 x5 x6, .slice x7 x8 x9], rfl, hN7, hB7⟩
            have t0 := hX7.cell 0 0 rfl rfl
            have t1 := hX7.cell 0 1 rfl rfl
            have t2 := hX7.cell 0 2 rfl rfl
            have t3 := hX7.cell 0 3 rfl rfl
            have t4 := hX7.cell 0 4 rfl rfl
            unfold set5 at t0 t1 t2 t3 t4
            have z0 := hX3.cell 0 0 rfl rfl
            have z1 := hX3.cell 0 1 rfl rfl
            have z2 := hX3.cell 0 2 rfl rfl
            have z3 := hX3.cell 0 3 rfl rfl
            have z4 := hX3.cell 0 4 rfl rfl
            have u0 := hX3.frozen 0 0 rfl
            have u1 := hX3.frozen 0 1 rfl
            have u2 := hX3.frozen 0 2 rfl
            have u3 := hX3.frozen 0 3 rfl
            have u4 := hX3.frozen 0 4 rfl
            clear hX7 hB7 hN7
            go_wp2_with fail
            refine bodyPost_ret (v := .agg #[.int .i64 xp, .bool xl, .slice x1 x2 x3, .slice x4 x5 x6, .slice x7 x8 x9]) (by simp [results, Tryz.results119, go_sem, t0, t1, t2, t3, t4]) rfl ?_
            exact fin.out
end Go.Proofs.YtpghlmcoajaiiaaGreatDoor

/- Worlds that have the same but of one block: words for walks that end in a store; what a put asks. -/
namespace Go.Proofs.YtpghlmcoajaiiaaGreatDoor
open Go.RowKit

theorem AgreeF.refl {F : Nat → Prop} (w : World) : AgreeF F w w := ⟨Nat.le_refl _, fun _ _ _ => rfl⟩
theorem AgreeF.below {F : Nat → Prop} {a w w' : World} (h : AgreeF F a w) (hb : Below w.heap.size w w') : AgreeF F a w' := h.trans (.of_below hb)
theorem AgreeF.al {F : Nat → Prop} {a w : World} {o : Obj} (h : AgreeF F a w) : AgreeF F a (w.alloc o) := h.below (Below.al (Below.refl _ _))
theorem AgreeF.dr {F : Nat → Prop} {a w : World} (h : AgreeF F a w) : AgreeF F a w.drew := h
theorem AgreeF.st {r : Nat} {a w : World} {i : Nat} {u : Value} (h : AgreeF (fun b => b ≠ r) a w) : AgreeF (fun b => b ≠ r) a (w.setCell ⟨r, i, none⟩ u) := h.set (.inl fun h => h rfl)
theorem AgreeF.boxes {r : Nat} {a w : World} {l : List (Nat × List Value)} (h : AgreeF (fun b => b ≠ r) a w) (hx : Boxes a l) (hl : ∀ p ∈ l, p.1 ≠ r) : Boxes w l := by
  intro p hp
  obtain ⟨t, ht⟩ := hx p hp
  exact ⟨t, (h.2 p.1 (hl p hp) (Array.getElem?_eq_some_iff.1 ht).1).trans ht⟩
/-- What a put asks of a tree. -/
def PutOk : Nat → Tr → List UInt8 → Tv → Prop
  | 0, _, _, _ => False
  | _ + 1, .leaf _ l, _, _ => l.length ≤ 900 ∧ (keysOf l).Pairwise (fun a b => a < b)
  | n + 1, .node _ l, key, v => 0 < l.length ∧ l.length ≤ 1000 ∧ PutOk n (kidAt l (wayF (keysOf l) key)) key v ∧ ∃ m, n = m + 1 ∧ MendOk m (l.set (wayF (keysOf l) key) (keyAt l (wayF (keysOf l) key), putT n (kidAt l (wayF (keysOf l) key)) key v))
theorem set_keys {l : List (List UInt8 × Tr)} {k : Nat} (hk : k < l.length) (t : Tr) : keysOf (l.set k (keyAt l k, t)) = keysOf l := by
  obtain ⟨a, c, b, rfl, rfl⟩ := list_at hk
  rw [keyAt_at, List.set_append_right _ _ (Nat.le_refl _), Nat.sub_self, List.set_cons_zero]
  simp [keysOf]
theorem setR {F : Nat → Prop} {n : Nat} {w : World} {p : Int} {l : List (List UInt8 × Tr)} {k : Nat} {K : List (Cl 1)} {V : List (Cl 2)} {C : List (Cl 5)} {B : Cl 5} {t : Tr} (h : NodeRF F n w K V C (.node p l)) (hk : k < l.length) (hB : NodeOn F n w B.1 t) :
    NodeRF F n w ((keysOf (l.set k (keyAt l k, t))).map kCell) [] (swapL C k 1 [B]) (.node 0 (l.set k (keyAt l k, t))) := by
  obtain ⟨a, c, b, rfl, rfl⟩ := list_at hk
  rw [keyAt_at, List.set_append_right _ _ (Nat.le_refl _), Nat.sub_self, List.set_cons_zero]
  refine ⟨tells_keys _, rfl, ?_⟩
  have := (h.2.2).swap (Tells.one hB) a.length 1
  have h2 : (a.map (·.2)).length = a.length := by simp
  simpa [swapL, mid_drop h2] using this
theorem wayF_lt {ks : List (List UInt8)} (key : List UInt8) (h : 0 < ks.length) : wayF ks key < ks.length := (wayF_spec (key := key) (List.length_pos_iff.1 h)).1
def oldN (b : Bool) : Nat := if b then 1 else 0
theorem putL_swap (key : List UInt8) (v : Tv) (l : List (List UInt8 × Tv)) : putL key v l = swapL l (posK key (keysOf l)) (oldN (hasK key (keysOf l))) [(key, v)] := by
  rw [putL_pos]; rfl
theorem pos_old {key : List UInt8} {ks : List (List UInt8)} : posK key ks + oldN (hasK key ks) ≤ ks.length := by
  have := posK_le key ks
  unfold oldN
  split
  · rename_i h
    unfold hasK at h
    by_cases hp : posK key ks < ks.length
    · omega
    · rw [List.getElem?_eq_none (by omega)] at h; simp at h
  · omega
def vCell (v : List UInt8) : Cl 2 := ⟨[.string (strOf v), .slice none 0 0], rfl, by intro u hu; simp at hu; rcases hu with rfl | rfl <;> rfl⟩
theorem vCell_is (F : Nat → Prop) (w : World) (d : List UInt8) : TvOn F w (vCell d).1 ⟨d, []⟩ := ⟨none, 0, 0, rfl, ⟨rfl, Nat.le_refl _, by unfold maxLen; omega, fun _ => rfl, .inl rfl⟩, Fa.zero _ _⟩
theorem putR {F : Nat → Prop} {n : Nat} {w : World} {p : Int} {l : List (List UInt8 × Tv)} {K : List (Cl 1)} {V : List (Cl 2)} {C : List (Cl 5)} (key d : List UInt8) (h : NodeRF F n w K V C (.leaf p l)) :
    NodeRF F n w ((keysOf (putL key ⟨d, []⟩ l)).map kCell) (swapL V (posK key (keysOf l)) (oldN (hasK key (keysOf l))) [vCell d]) [] (.leaf 0 (putL key ⟨d, []⟩ l)) ∧ keysOf (putL key ⟨d, []⟩ l) = swapL (keysOf l) (posK key (keysOf l)) (oldN (hasK key (keysOf l))) [key] := by
  rw [putL_swap]
  refine ⟨⟨tells_keys _, ?_, rfl⟩, ?_⟩
  · rw [swap_map]; exact (h.2.1).swap (Tells.one (vCell_is F w d)) _ _
  · unfold keysOf; rw [swap_map]; rfl
/-- A node that a call answers, its cells told. -/
def NodeGo (G : Nat → Prop) (n : Nat) (W : World) (T : Tr) (e : Ending) (w' : World) : Prop :=
  ∃ p l a k c a2 n2 c2 a3 n3 c3, e = .returned (.agg #[.int .i64 p, .bool l, .slice a k c, .slice a2 n2 c2, .slice a3 n3 c3]) ∧ NodeOn G n w' [.int .i64 p, .bool l, .slice a k c, .slice a2 n2 c2, .slice a3 n3 c3] T ∧ Below W.heap.size W w'
theorem NodeTo.go {F G : Nat → Prop} {n : Nat} {W : World} {T : Tr} {e : Ending} {w' : World} (h : NodeTo F n W T e w') (hG : ∀ b, Fr F W b → G b) : NodeGo G n W T e w' := by
  obtain ⟨x, rfl, hn, hb⟩ := h
  obtain ⟨g1, g2, g3, g4, g5, g6, g7, g8, _, _, ey, _⟩ := NodeOn.open_pos hn
  subst ey
  exact ⟨_, _, _, _, _, _, _, _, _, _, _, rfl, NodeOn.mono hG hn, hb⟩
/-- A walk's end: five cells stored into the result's box. -/
theorem node_end {F : Nat → Prop} {n : Nat} {w w3 : World} {T : Tr} {p : Int} {l : Bool} {a : Option Addr} {k c : Nat} {a2 : Option Addr} {n2 c2 : Nat} {a3 : Option Addr} {n3 c3 : Nat} {x0 x1 x2 x3 x4 : Value} (hB : Below w.heap.size w w3) (hX : Boxes w3 [(w.heap.size + 1, [x0, x1, x2, x3, x4])])
    (hn : NodeOn (fun b => (F b ∧ b < w.heap.size) ∨ w.heap.size + 2 ≤ b) n w3 [.int .i64 p, .bool l, .slice a k c, .slice a2 n2 c2, .slice a3 n3 c3] T) :
    Boxes (set5 w3 (w.heap.size + 1) (.int .i64 p) (.bool l) (.slice a k c) (.slice a2 n2 c2) (.slice a3 n3 c3)) [(w.heap.size + 1, [.int .i64 p, .bool l, .slice a k c, .slice a2 n2 c2, .slice a3 n3 c3])] ∧
    NodeTo F n w T (.returned (.agg #[.int .i64 p, .bool l, .slice a k c, .slice a2 n2 c2, .slice a3 n3 c3])) (set5 w3 (w.heap.size + 1) (.int .i64 p) (.bool l) (.slice a k c) (.slice a2 n2 c2) (.slice a3 n3 c3)) := by
  have hne : ¬ ((F (w.heap.size + 1) ∧ w.heap.size + 1 < w.heap.size) ∨ w.heap.size + 2 ≤ w.heap.size + 1) := by omega
  refine ⟨set5_box hX (by simp) _ _ _ _ _, [.int .i64 p, .bool l, .slice a k c, .slice a2 n2 c2, .slice a3 n3 c3], rfl, NodeOn.mono (fun b h => ?_) (hn.agree (agree_set5 hne _ _ _ _ _)), set5_below hB (by omega) _ _ _ _ _⟩
  rcases h with h | h
  · exact .inl h.1
  · exact .inr (by omega)
end Go.Proofs.YtpghlmcoajaiiaaGreatDoor

/- The laws' own functions of the chapters on trees: puts, steps; small, value (printed by gen_trePt.py). -/
namespace Go.Proofs.YtpghlmcoajaiiaaGreatDoor
open Go.RowKit

def fillT (f : UInt8) (n : Nat) : List UInt8 := List.replicate n f
def partF (f : UInt8) (n k : Nat) : List UInt8 := List.replicate k f ++ List.replicate (n - k) 0
theorem set_partF (f : UInt8) (n k : Nat) (h : k < n) : (partF f n k).set k f = partF f n (k + 1) := by
  unfold partF
  rw [List.set_append_right _ _ (by simp), List.length_replicate, Nat.sub_self]
  obtain ⟨m, hm⟩ : ∃ m, n - k = m + 1 := ⟨n - k - 1, by omega⟩
  rw [hm, List.replicate_succ, List.set_cons_zero, show n - (k + 1) = m by omega, List.replicate_succ', List.append_assoc]
  rfl
/-- A put. -/
structure Pt where
  key : List UInt8
  fill : UInt8
  size : Int
def ptC (y : Pt) : List Value := [.string (strOf y.key), .int .u8 (y.fill.toNat : Int), .int .i64 y.size]
def IsPt (cs : List Value) (y : Pt) : Prop := cs = ptC y
def Pts (w : World) (a : Option Addr) (n c : Nat) (l : List Pt) : Prop := TabR 3 IsPt w a n c l
def okP (y : Pt) : Bool := (y.key != []) && (decide (y.key.length ≤ 16) && (decide (0 ≤ y.size) && decide (y.size ≤ 400)))
def smallP (l : List Pt) : Bool := l.all okP && decide (l.length ≤ 80)
/-- A step. -/
structure St where
  key : List UInt8
  size : Int
def stC (y : St) : List Value := [.string (strOf y.key), .int .i64 y.size]
def IsSt (cs : List Value) (y : St) : Prop := cs = stC y
def Sts (w : World) (a : Option Addr) (n c : Nat) (l : List St) : Prop := TabR 2 IsSt w a n c l
def okS (y : St) : Bool := (y.key != []) && (decide (y.key.length ≤ 16) && decide (y.size ≤ 400))
def smallS (l : List St) : Bool := l.all okS && decide (l.length ≤ 120)
theorem Pts.at {w : World} {a : Option Addr} {n c : Nat} {l : List Pt} (h : Pts w a n c l) {k : Nat} (hk : k < n) :
    ∃ b off y, a = some ⟨b, off, none⟩ ∧ b < w.heap.size ∧ l[k]? = some y ∧ w.cell? ⟨b, off + k * 3, none⟩ = some (.string (strOf y.key)) ∧ w.cell? ⟨b, off + k * 3 + 1, none⟩ = some (.int .u8 (y.fill.toNat : Int)) ∧ w.cell? ⟨b, off + k * 3 + 2, none⟩ = some (.int .i64 y.size) := by
  obtain ⟨b, off, y, cs, e1, e2, e3, _, e5, e6⟩ := TabR.at h hk
  obtain rfl : cs = ptC y := e5
  exact ⟨b, off, y, e1, e2, e3, e6 0 _ rfl, e6 1 _ rfl, e6 2 _ rfl⟩
theorem Sts.at {w : World} {a : Option Addr} {n c : Nat} {l : List St} (h : Sts w a n c l) {k : Nat} (hk : k < n) :
    ∃ b off y, a = some ⟨b, off, none⟩ ∧ b < w.heap.size ∧ l[k]? = some y ∧ w.cell? ⟨b, off + k * 2, none⟩ = some (.string (strOf y.key)) ∧ w.cell? ⟨b, off + k * 2 + 1, none⟩ = some (.int .i64 y.size) := by
  obtain ⟨b, off, y, cs, e1, e2, e3, _, e5, e6⟩ := TabR.at h hk
  obtain rfl : cs = stC y := e5
  exact ⟨b, off, y, e1, e2, e3, e6 0 _ rfl, e6 1 _ rfl⟩
theorem all_bad {α : Type} {p : α → Bool} {l : List α} {i : Nat} {y : α} (hy : l[i]? = some y) (hp : p y = false) : l.all p = false := by
  rw [List.all_eq_false]
  exact ⟨y, List.mem_of_getElem? hy, by rw [hp]; decide⟩
theorem all_next {α : Type} {p : α → Bool} {l : List α} {i : Nat} {y : α} (hy : l[i]? = some y) (hp : p y = true) (h : (l.take i).all p = true) : (l.take (i + 1)).all p = true := by
  rw [List.take_add_one, hy, List.all_append, h]
  simp [hp]
theorem all_whole {α : Type} {p : α → Bool} {l : List α} {n : Nat} (hn : l.length ≤ n) (h : (l.take n).all p = true) : l.all p = true := by
  rwa [List.take_of_length_le hn] at h



theorem info_b : (Tryz.prog.info? 5).map (fun i => (i.zero, i.size, i.bytes)) = some (some (.int .u8 0), 1, 1) := by kernel_rfl
end Go.Proofs.YtpghlmcoajaiiaaGreatDoor

/- Trees that may be, without a key; the top once more; entries of the top: plain laws. -/
namespace Go.Proofs.YtpghlmcoajaiiaaGreatDoor

/-! entries, whatever the fuel -/
theorem kids_each {P : List UInt8 → List UInt8 → Tr → Prop} : ∀ {l : List (List UInt8 × Tr)} {lo hi : List UInt8}, KidsP P lo hi l → ∀ c ∈ l, ∃ lo' hi', P lo' hi' c.2
  | [c], lo, hi, h, d, hd => by
    rcases List.mem_cons.1 hd with rfl | hd
    · exact ⟨_, _, h⟩
    · cases hd
  | c :: e :: r, lo, hi, h, d, hd => by
    rcases List.mem_cons.1 hd with rfl | hd
    · exact ⟨_, _, h.1⟩
    · exact kids_each h.2.2.2.2 d hd
theorem flatMap_same {α β : Type} {f g : α → List β} : ∀ {l : List α}, (∀ x ∈ l, f x = g x) → l.flatMap f = l.flatMap g
  | [], _ => rfl
  | x :: r, h => by
    rw [List.flatMap_cons, List.flatMap_cons, h x (by simp), flatMap_same (fun y hy => h y (by simp [hy]))]
theorem ents_more : ∀ {n m : Nat} {lo hi : List UInt8} {t : Tr}, Shape n lo hi t → n ≤ m → entsT m t = entsT n t
  | 0, _, _, _, _, h, _ => h.elim
  | _ + 1, 0, _, _, _, _, h => by omega
  | _ + 1, _ + 1, _, _, .leaf p l, _, _ => rfl
  | n + 1, m + 1, lo, hi, .node p l, h, hm => by
    rw [ents_node, ents_node]
    refine flatMap_same (fun c hc => ?_)
    obtain ⟨lo', hi', hg⟩ := kids_each (shape_kids h).1 c hc
    exact ents_more hg.1 (by omega)
theorem ents_top : ∀ {N n : Nat} {t : Tr}, Shape n [] [] t → n ≤ N → entsT (N + 1) (topT N t) = entsT n t
  | 0, n, _, h, hn => by
    obtain rfl : n = 0 := by omega
    exact h.elim
  | N + 1, 0, _, h, hn => h.elim
  | N + 1, n + 1, .leaf p l, h, hn => by
    unfold topT
    split
    · rfl
    · rw [show ([([], Tr.leaf p l)] : List (List UInt8 × Tr)) = [] ++ ([], Tr.leaf p l) :: [] from rfl]
      have := ents_mend (n := N) (p := 0) (a := []) (b := []) (k := []) (t := .leaf p l) (by intro c hc; simp at hc; rw [hc])
      rw [List.length_nil] at this
      rw [this]
      simp [entsK, entsT]
  | N + 1, n + 1, .node p l, h, hn => by
    unfold topT
    split
    · rename_i h1
      obtain ⟨c, rfl⟩ := List.length_eq_one_iff.1 h1
      have hg : Good n [] [] c.2 := (shape_kids h).1
      have e : entsT (n + 1) (.node p [c]) = entsT n c.2 := by rw [ents_node]; simp [entsK]
      have e2 : kidAt [c] 0 = c.2 := rfl
      rw [e, e2]
      have h3 := ents_top hg.1 (show n ≤ N by omega)
      obtain ⟨m, hm1, hm2⟩ := top_ok hg.1 (by have := hg.2.2; omega) (show n ≤ N by omega)
      rw [← h3]
      rw [ents_more hm2.1 (show m ≤ N + 1 + 1 by omega), ents_more hm2.1 (show m ≤ N + 1 by omega)]
    · split
      · exact ents_more h (by omega)
      · rw [show ([([], Tr.node p l)] : List (List UInt8 × Tr)) = [] ++ ([], Tr.node p l) :: [] from rfl]
        have := ents_mend (n := N) (p := 0) (a := []) (b := []) (k := []) (t := .node p l) (by intro c hc; simp at hc; rw [hc])
        rw [List.length_nil] at this
        rw [this]
        rw [show entsK (N + 1) ([] ++ ([], Tr.node p l) :: []) = entsT (N + 1) (.node p l) by simp [entsK]]
        exact ents_more h (by omega)
/-- A top of no cells is the empty tree. -/
theorem top_some : ∀ {N n : Nat} {t : Tr}, Shape n [] [] t → sumT t ≤ 200 → (∀ p l, t = .leaf p l → p = 0 ∨ l ≠ []) → n ≤ N → emptyB (topT N t) = true ∨ 0 < cntT (topT N t)
  | 0, n, _, h, _, _, hn => by
    obtain rfl : n = 0 := by omega
    exact h.elim
  | N + 1, 0, _, h, _, _, hn => h.elim
  | N + 1, n + 1, .leaf p l, h, hs, h0, hn => by
    unfold topT
    split
    · cases l with
      | nil =>
        rcases h0 p [] rfl with rfl | h0
        · exact .inl rfl
        · exact absurd rfl h0
      | cons c r => exact .inr (by simp [cntT])
    · rename_i hat
      rw [part_two hat]
      exact .inr (by simp [cntT])
  | N + 1, n + 1, .node p l, h, hs, h0, hn => by
    unfold topT
    split
    · rename_i h1
      obtain ⟨c, rfl⟩ := List.length_eq_one_iff.1 h1
      have hg : Good n [] [] c.2 := (shape_kids h).1
      have e2 : kidAt [c] 0 = c.2 := rfl
      rw [e2]
      refine top_some hg.1 (by have := hg.2.2; omega) (fun p l e => .inr (fun el => ?_)) (show n ≤ N by omega)
      have := hg.2.1
      rw [e, el, sum_leaf] at this
      simp [sumI_nil] at this
    · split
      · have := List.length_pos_iff.2 (kids_ne (shape_kids h).1)
        exact .inr (by simpa [cntT] using this)
      · rename_i hat
        rw [part_two hat]
        exact .inr (by simp [cntT])

/-! whole trees -/
/-- A whole tree that may be, and is told so. -/
def Whole (n : Nat) (t : Tr) : Prop := Root n t ∧ (emptyB t = true ∨ 0 < cntT t)
theorem whole_empty : Whole 1 (.leaf 0 []) := ⟨root_empty, .inl rfl⟩
def putW (n : Nat) (t : Tr) (key : List UInt8) (v : Tv) : Tr := topT n (putT n t key v)
theorem whole_put {n : Nat} {t : Tr} {key : List UInt8} {v : Tv} (h : Whole n t) (hk : keyOk key) (hv : valOk v) : ∃ m, m ≤ n + 1 ∧ Whole m (putW n t key v) ∧ entsT m (putW n t key v) = putL key v (entsT n t) := by
  obtain ⟨h1, h2, h3⟩ := put_ok h.1.1 h.1.2.1 h.1.2.2 hk (knil key) (ltH_nil _) hv
  obtain ⟨m, e1, e2⟩ := top_ok (N := n) h1 (by omega) (Nat.le_refl _)
  refine ⟨m, e1, ⟨e2, top_some h1 (by omega) (fun p l e => .inr (fun el => ?_)) (Nat.le_refl _)⟩, ?_⟩
  · have := h3 p l e
    rw [el] at this
    simp at this
  · have g1 := ents_top (N := n) h1 (Nat.le_refl _)
    have g2 := ents_put h.1.1 hk (knil key) (ltH_nil _) hv h.1.2.1 h.1.2.2
    show entsT m (topT n (putT n t key v)) = _
    rw [← g2, ← g1, ents_more e2.1 e1]

/-! a key struck out -/
def delL (key : List UInt8) (l : List (List UInt8 × Tv)) : List (List UInt8 × Tv) := l.filter fun c => c.1 != key
def delT : Nat → Tr → List UInt8 → Tr
  | 0, t, _ => t
  | _ + 1, .leaf _ l, key => .leaf 0 (delL key l)
  | n + 1, .node _ l, key => mendT 0 (l.set (wayF (keysOf l) key) (keyAt l (wayF (keysOf l) key), delT n (kidAt l (wayF (keysOf l) key)) key)) (wayF (keysOf l) key)
theorem delL_sum (key : List UInt8) (p : Int) : ∀ l : List (List UInt8 × Tv), sumT (.leaf 0 (delL key l)) ≤ sumT (.leaf p l)
  | [] => Int.le_refl _
  | c :: r => by
    have ih := delL_sum key p r
    unfold delL at ih ⊢
    rw [sum_leaf_cons p p]
    rw [List.filter_cons]
    split
    · rw [sum_leaf_cons 0 0]; omega
    · omega
theorem delL_ok {lo hi key : List UInt8} {l : List (List UInt8 × Tv)} (h : LeafOk lo hi l) : LeafOk lo hi (delL key l) := by
  refine ⟨?_, fun c hc => h.2 c ((List.mem_filter.1 hc).1)⟩
  have h1 := h.1
  unfold keysOf at h1 ⊢
  exact List.Pairwise.sublist (List.Sublist.map _ List.filter_sublist) h1
theorem delL_none {key : List UInt8} {l : List (List UInt8 × Tv)} (h : ∀ c ∈ l, c.1 ≠ key) : delL key l = l := by
  unfold delL
  rw [List.filter_eq_self]
  intro c hc
  simpa using h c hc
theorem delL_append (key : List UInt8) (l m : List (List UInt8 × Tv)) : delL key (l ++ m) = delL key l ++ delL key m := by simp [delL]
/-- Without a key: what comes of it may be, but for what its own cells come to. -/
theorem del_ok : ∀ {n : Nat} {lo hi key : List UInt8} {t : Tr}, Shape n lo hi t → sumT t ≤ 122 → (∀ p l, t = .node p l → 2 ≤ l.length) → ¬ key < lo → ltH hi key →
    Shape n lo hi (delT n t key) ∧ sumT (delT n t key) ≤ 160 ∧ (∀ p l, delT n t key = .leaf p l → p = 0) ∧ entsT n (delT n t key) = delL key (entsT n t)
  | 0, _, _, _, _, h, _, _, _, _ => h.elim
  | n + 1, lo, hi, key, .leaf p l, h, hs, _, hlo, hhi => by
    obtain ⟨rfl, hl⟩ := h
    have h1 := delL_sum key p l
    exact ⟨⟨rfl, delL_ok hl⟩, by unfold delT; omega, fun q m e => by cases e; rfl, rfl⟩
  | n + 1, lo, hi, key, .node p l, h, hs, h2, hlo, hhi => by
    obtain ⟨h1, h0⟩ := shape_kids h
    have hl2 := h2 p l rfl
    obtain ⟨a, c, b, lo', hi', e, hal, hc, hp, g1, g2⟩ := way_focus h1 hlo hhi
    obtain ⟨i1, i2, i3, i4⟩ := del_ok hp.1 hp.2.2 (fun q m e => good_len (p := q) (by rw [← e]; exact hp)) g1 g2
    have hset : l.set (wayF (keysOf l) key) (keyAt l (wayF (keysOf l) key), delT n (kidAt l (wayF (keysOf l) key)) key) = a ++ (c.1, delT n c.2 key) :: b := by
      rw [← hal]
      conv => lhs; rw [e]
      rw [keyAt_at, kidAt_at, List.set_append_right _ _ (Nat.le_refl _), Nat.sub_self, List.set_cons_zero]
    have hdel : delT (n + 1) (.node p l) key = mendT 0 (a ++ (c.1, delT n c.2 key) :: b) a.length := by
      show mendT 0 _ _ = _
      rw [hset, hal]
    have hab : a ≠ [] ∨ b ≠ [] := by
      rw [e] at hl2
      cases a with
      | nil => cases b with
        | nil => simp at hl2
        | cons => exact .inr (by simp)
      | cons => exact .inl (by simp)
    have hk0 : keyAt (a ++ (c.1, delT n c.2 key) :: b) 0 = [] := by
      rw [e] at h0
      cases a <;> simpa [keyAt] using h0
    obtain ⟨q, m, e1, e2, e3, e4, e5⟩ := mend_ok (p := 0) hc i1 i2 hk0 (.inr hab)
    have hkind := kids_kind h1
    have hents : entsT (n + 1) (mendT 0 (a ++ (c.1, delT n c.2 key) :: b) a.length) = delL key (entsT (n + 1) (.node p l)) := by
      cases n with
      | zero => exact hp.1.elim
      | succ n =>
        rw [ents_mend (by
          intro d hd
          have ht : (delT (n + 1) c.2 key).isLeaf = decide (n + 1 = 1) := shape_kind i1
          rw [ht]
          rcases List.mem_append.1 hd with hd | hd
          · exact hkind d (by rw [e]; simp [hd])
          · rcases List.mem_cons.1 hd with rfl | hd
            · exact ht
            · exact hkind d (by rw [e]; simp [hd]))]
        rw [ents_node, e, entsK_append, entsK_cons, entsK_append, entsK_cons, i4]
        obtain ⟨q1, q2, q3⟩ := hc
        have hA : ∀ d ∈ entsK (n + 1) a, d.1 ≠ key := by
          rcases q1 with ⟨rfl, _⟩ | ⟨ha, e1, e2, e3, rfl⟩
          · intro d hd; simp [entsK] at hd
          · intro d hd he
            have := (kids_ents (fun h => shape_ents h) e1).2 d hd
            have := klt_le (this.2.2.1.resolve_left e2.1) g1
            rw [he] at this
            exact klt_irrefl _ this
        have hB : ∀ d ∈ entsK (n + 1) b, d.1 ≠ key := by
          rcases q2 with ⟨rfl, _⟩ | ⟨d, r, rfl, rfl, e1, e2, e3⟩
          · intro d hd; simp [entsK] at hd
          · intro d' hd he
            have := (kids_ents (fun h => shape_ents h) e3).2 d' hd
            have := klt_le (g2.resolve_left e1.1) this.2.1
            rw [he] at this
            exact klt_irrefl _ this
        rw [delL_append, delL_append, delL_none hA, delL_none hB]
    rw [hdel]
    refine ⟨?_, ?_, ?_, hents⟩
    · rw [e1]; exact shape_node e2 e3
    · rw [e1]
      have hsm : sumT (.node 0 (a ++ (c.1, delT n c.2 key) :: b)) = sumT (.node p l) := by
        rw [e, sum_node_append 0 0 0, sum_node_cons 0 0, sum_node_append p 0 0, sum_node_cons 0 0 c]
      have hq : sumT (.node q m) = sumT (.node 0 m) := rfl
      omega
    · rw [e1]; intro p' l' e; cases e
def delW (n : Nat) (t : Tr) (key : List UInt8) : Tr := if findT n t key = none then t else topT n (delT n t key)
theorem whole_del {n : Nat} {t : Tr} {key : List UInt8} (h : Whole n t) : ∃ m, m ≤ n + 1 ∧ Whole m (delW n t key) ∧ entsT m (delW n t key) = delL key (entsT n t) := by
  unfold delW
  split
  · rename_i hf
    rw [find_ok h.1.1 (knil key) (ltH_nil _)] at hf
    refine ⟨n, by omega, h, (delL_none (fun c hc he => ?_)).symm⟩
    unfold lookT at hf
    rw [Option.map_eq_none_iff, List.find?_eq_none] at hf
    exact hf c hc (by simpa using he)
  · obtain ⟨h1, h2, h3, h4⟩ := del_ok h.1.1 h.1.2.1 h.1.2.2 (knil key) (ltH_nil _)
    obtain ⟨m, e1, e2⟩ := top_ok (N := n) h1 (by omega) (Nat.le_refl _)
    refine ⟨m, e1, ⟨e2, top_some h1 (by omega) (fun p l e => .inl (h3 p l e)) (Nat.le_refl _)⟩, ?_⟩
    have g1 := ents_top (N := n) h1 (Nat.le_refl _)
    rw [← h4, ← g1, ents_more e2.1 e1]
theorem whole_find {n : Nat} {t : Tr} (h : Whole n t) (key : List UInt8) : findT n t key = lookT (entsT n t) key := find_ok h.1.1 (knil key) (ltH_nil _)
theorem whole_check {n : Nat} {t : Tr} (h : Whole n t) : checkT n t = true := check_ok h.1 (Nat.le_refl _) h.2
theorem whole_ents {n : Nat} {t : Tr} (h : Whole n t) : LeafOk [] [] (entsT n t) := shape_ents h.1.1
end Go.Proofs.YtpghlmcoajaiiaaGreatDoor

/- Entries as a set of pairs: put, struck out, in whichever order: plain laws. -/
namespace Go.Proofs.YtpghlmcoajaiiaaGreatDoor

def Srt (l : List (List UInt8 × Tv)) : Prop := (keysOf l).Pairwise (fun a b => a < b)
theorem srt_cons {c : List UInt8 × Tv} {r : List (List UInt8 × Tv)} : Srt (c :: r) ↔ (∀ d ∈ r, c.1 < d.1) ∧ Srt r := by
  unfold Srt keysOf
  rw [List.map_cons, List.pairwise_cons]
  constructor
  · intro h; exact ⟨fun d hd => h.1 d.1 (List.mem_map_of_mem hd), h.2⟩
  · intro h; exact ⟨fun x hx => by obtain ⟨d, hd, rfl⟩ := List.mem_map.1 hx; exact h.1 d hd, h.2⟩
/-- Rows that rise and have the same entries are the same. -/
theorem srt_ext : ∀ {l m : List (List UInt8 × Tv)}, Srt l → Srt m → (∀ c, c ∈ l ↔ c ∈ m) → l = m
  | [], [], _, _, _ => rfl
  | [], d :: m, _, _, h => absurd ((h d).2 (by simp)) (by simp)
  | c :: l, [], _, _, h => absurd ((h c).1 (by simp)) (by simp)
  | c :: l, d :: m, hl, hm, h => by
    obtain ⟨l1, l2⟩ := srt_cons.1 hl
    obtain ⟨m1, m2⟩ := srt_cons.1 hm
    have hcd : c = d := by
      rcases List.mem_cons.1 ((h c).1 (by simp)) with e | hc
      · exact e
      · rcases List.mem_cons.1 ((h d).2 (by simp)) with e | hd
        · exact e.symm
        · exact absurd (klt_trans (m1 c hc) (l1 d hd)) (klt_irrefl _)
    subst hcd
    rw [srt_ext l2 m2 (fun x => ⟨fun hx => ?_, fun hx => ?_⟩)]
    · rcases List.mem_cons.1 ((h x).1 (by simp [hx])) with e | hx'
      · subst e; exact absurd (l1 _ hx) (klt_irrefl _)
      · exact hx'
    · rcases List.mem_cons.1 ((h x).2 (by simp [hx])) with e | hx'
      · subst e; exact absurd (m1 _ hx) (klt_irrefl _)
      · exact hx'
theorem srt_put {key : List UInt8} {v : Tv} {l : List (List UInt8 × Tv)} (h : Srt l) : Srt (putL key v l) := putL_sorted h
theorem srt_del {key : List UInt8} {l : List (List UInt8 × Tv)} (h : Srt l) : Srt (delL key l) := by
  unfold Srt keysOf at *
  exact List.Pairwise.sublist (List.Sublist.map _ List.filter_sublist) h
theorem mem_put {key : List UInt8} {v : Tv} : ∀ {l : List (List UInt8 × Tv)}, Srt l → ∀ c, c ∈ putL key v l ↔ c = (key, v) ∨ c ∈ l ∧ c.1 ≠ key
  | [], _, c => by simp [putL]
  | d :: r, h, c => by
    obtain ⟨h1, h2⟩ := srt_cons.1 h
    have ih := mem_put (key := key) (v := v) h2 c
    show c ∈ (if d.1 < key then d :: putL key v r else if d.1 = key then (key, v) :: r else (key, v) :: d :: r) ↔ _
    split
    · rename_i hd
      rw [List.mem_cons, ih, List.mem_cons]
      constructor
      · rintro (rfl | rfl | ⟨a, b⟩)
        · exact .inr ⟨.inl rfl, fun e => klt_irrefl key (by rw [e] at hd; exact hd)⟩
        · exact .inl rfl
        · exact .inr ⟨.inr a, b⟩
      · rintro (rfl | ⟨rfl | a, b⟩)
        · exact .inr (.inl rfl)
        · exact .inl rfl
        · exact .inr (.inr ⟨a, b⟩)
    · rename_i hd
      split
      · rename_i he
        rw [List.mem_cons, List.mem_cons]
        constructor
        · rintro (rfl | a)
          · exact .inl rfl
          · refine .inr ⟨.inr a, fun e => ?_⟩
            have := h1 c a
            rw [he, e] at this
            exact klt_irrefl _ this
        · rintro (rfl | ⟨rfl | a, b⟩)
          · exact .inl rfl
          · exact absurd he b
          · exact .inr a
      · rename_i he
        rw [List.mem_cons, List.mem_cons]
        have hlt : key < d.1 := ((ktri d.1 key).resolve_left hd).resolve_left he
        constructor
        · rintro (rfl | rfl | a)
          · exact .inl rfl
          · exact .inr ⟨.inl rfl, he⟩
          · refine .inr ⟨.inr a, fun e => ?_⟩
            have := klt_trans hlt (h1 c a)
            rw [e] at this
            exact klt_irrefl _ this
        · rintro (rfl | ⟨rfl | a, b⟩)
          · exact .inl rfl
          · exact .inr (.inl rfl)
          · exact .inr (.inr a)
theorem mem_del {key : List UInt8} {l : List (List UInt8 × Tv)} (c : List UInt8 × Tv) : c ∈ delL key l ↔ c ∈ l ∧ c.1 ≠ key := by
  unfold delL
  rw [List.mem_filter]; simp
theorem srt_key {l : List (List UInt8 × Tv)} (h : Srt l) {c d : List UInt8 × Tv} (hc : c ∈ l) (hd : d ∈ l) (e : c.1 = d.1) : c = d := by
  induction l with
  | nil => cases hc
  | cons x r ih =>
    obtain ⟨h1, h2⟩ := srt_cons.1 h
    rcases List.mem_cons.1 hc with e1 | hc' <;> rcases List.mem_cons.1 hd with e2 | hd'
    · rw [e1, e2]
    · have := h1 d hd'; rw [← e1, e] at this; exact absurd this (klt_irrefl _)
    · have := h1 c hc'; rw [← e2, e] at this; exact absurd this (klt_irrefl _)
    · exact ih h2 hc' hd'
theorem put_length {key : List UInt8} {v : Tv} {l : List (List UInt8 × Tv)} (h : Srt l) : (putL key v l).length = l.length + (if (lookT l key).isSome then 0 else 1) := by
  rw [putL_pos, look_pos h]
  have hle := posK_le key (keysOf l)
  have hlen : (keysOf l).length = l.length := by simp [keysOf]
  by_cases hk : hasK key (keysOf l) = true
  · have hpos : posK key (keysOf l) < l.length := by
      unfold hasK at hk
      rw [← hlen]
      by_cases hp : posK key (keysOf l) < (keysOf l).length
      · exact hp
      · rw [List.getElem?_eq_none (by omega)] at hk; simp at hk
    rw [if_pos hk, if_pos hk]
    simp [hpos, List.length_take, List.length_drop]; omega
  · rw [if_neg hk, if_neg hk]
    simp [List.length_take, List.length_drop]; omega
theorem del_length {key : List UInt8} : ∀ {l : List (List UInt8 × Tv)}, Srt l → (delL key l).length + (if (lookT l key).isSome then 1 else 0) = l.length
  | [], _ => by simp [delL, lookT]
  | c :: r, h => by
    obtain ⟨h1, h2⟩ := srt_cons.1 h
    have ih := del_length (key := key) h2
    unfold delL lookT at *
    rw [List.filter_cons, List.find?_cons]
    by_cases he : c.1 = key
    · have e1 : (c.1 == key) = true := by simpa using he
      have e2 : (c.1 != key) = false := by simp [he]
      have hn : r.filter (fun c => c.1 != key) = r := by
        rw [List.filter_eq_self]
        intro d hd
        have := h1 d hd
        rw [he] at this
        simp
        intro e; rw [e] at this; exact klt_irrefl _ this
      rw [e1, e2, hn]; simp
    · have e1 : (c.1 == key) = false := by simpa using he
      have e2 : (c.1 != key) = true := by simp [he]
      rw [e1, e2]; simp at ih ⊢; omega
theorem look_mem {l : List (List UInt8 × Tv)} (h : Srt l) {c : List UInt8 × Tv} (hc : c ∈ l) : lookT l c.1 = some c.2.data := by
  unfold lookT
  cases hf : l.find? (fun d => d.1 == c.1) with
  | none =>
    rw [List.find?_eq_none] at hf
    exact absurd (hf c hc) (by simp)
  | some d =>
    have h1 := List.mem_of_find?_eq_some hf
    have h2 : (d.1 == c.1) = true := List.find?_some (p := fun (d : List UInt8 × Tv) => d.1 == c.1) hf
    have := srt_key h h1 hc (by simpa using h2)
    subst this; rfl
theorem look_not {l : List (List UInt8 × Tv)} {key : List UInt8} (h : lookT l key = none) (c : List UInt8 × Tv) (hc : c ∈ l) : c.1 ≠ key := by
  unfold lookT at h
  rw [Option.map_eq_none_iff, List.find?_eq_none] at h
  intro e
  exact h c hc (by simpa using e)
theorem look_del {l : List (List UInt8 × Tv)} (key : List UInt8) : lookT (delL key l) key = none := by
  unfold lookT
  rw [Option.map_eq_none_iff, List.find?_eq_none]
  intro c hc
  have := (mem_del c).1 hc
  simpa using this.2
theorem look_put {l : List (List UInt8 × Tv)} (h : Srt l) (key : List UInt8) (v : Tv) : lookT (putL key v l) key = some v.data :=
  look_mem (c := (key, v)) (srt_put h) ((mem_put h _).2 (.inl rfl))

/-! many put, many struck out -/
def putsL : List (List UInt8 × Tv) → List (List UInt8 × Tv) → List (List UInt8 × Tv)
  | [], l => l
  | p :: r, l => putsL r (putL p.1 p.2 l)
theorem puts_append (p q l : List (List UInt8 × Tv)) : putsL (p ++ q) l = putsL q (putsL p l) := by
  induction p generalizing l with
  | nil => rfl
  | cons c r ih => exact ih _
theorem srt_puts : ∀ {p l : List (List UInt8 × Tv)}, Srt l → Srt (putsL p l)
  | [], _, h => h
  | _c :: r, _, h => srt_puts (p := r) (srt_put h)
/-- Where each key has one value the entries are just those that were put. -/
theorem mem_puts {f : List UInt8 → Tv} : ∀ {p l : List (List UInt8 × Tv)}, Srt l → (∀ c ∈ p, c.2 = f c.1) → (∀ c ∈ l, c.2 = f c.1) → ∀ c, c ∈ putsL p l ↔ c ∈ p ∨ c ∈ l
  | [], l, _, _, _, c => by simp [putsL]
  | d :: r, l, h, hp, hl, c => by
    show c ∈ putsL r (putL d.1 d.2 l) ↔ _
    have hd := hp d (by simp)
    have hm := mem_put (key := d.1) (v := d.2) h
    rw [mem_puts (f := f) (srt_put h) (fun c hc => hp c (by simp [hc])) (fun c hc => by
      rcases (hm c).1 hc with e | ⟨e, _⟩
      · rw [e]; exact hd
      · exact hl c e) c, hm c, List.mem_cons]
    constructor
    · rintro (a | rfl | ⟨a, _⟩)
      · exact .inl (.inr a)
      · exact .inl (.inl rfl)
      · exact .inr a
    · rintro ((rfl | a) | a)
      · exact .inr (.inl rfl)
      · exact .inl a
      · by_cases e : c.1 = d.1
        · refine .inr (.inl ?_)
          have := hl c a
          have : c = (c.1, c.2) := rfl
          rw [this, hl c a, e, ← hd]
        · exact .inr (.inr ⟨a, e⟩)
def delsL : List (List UInt8) → List (List UInt8 × Tv) → List (List UInt8 × Tv)
  | [], l => l
  | k :: r, l => delsL r (delL k l)
theorem srt_dels : ∀ {p : List (List UInt8)} {l : List (List UInt8 × Tv)}, Srt l → Srt (delsL p l)
  | [], _, h => h
  | _c :: r, _, h => srt_dels (p := r) (srt_del h)
theorem mem_dels : ∀ {p : List (List UInt8)} {l : List (List UInt8 × Tv)} (c : List UInt8 × Tv), c ∈ delsL p l ↔ c ∈ l ∧ c.1 ∉ p
  | [], l, c => by simp [delsL]
  | k :: r, l, c => by
    show c ∈ delsL r (delL k l) ↔ _
    rw [mem_dels c, mem_del]
    simp only [List.mem_cons, not_or]
    constructor
    · rintro ⟨⟨a, b⟩, d⟩; exact ⟨a, b, d⟩
    · rintro ⟨a, b, d⟩; exact ⟨⟨a, b⟩, d⟩
theorem puts_length : ∀ {p l : List (List UInt8 × Tv)}, Srt l → (keysOf p).Nodup → (∀ c ∈ p, ∀ d ∈ l, c.1 ≠ d.1) → (putsL p l).length = p.length + l.length
  | [], l, _, _, _ => by simp [putsL]
  | c :: r, l, h, hn, hd => by
    show (putsL r (putL c.1 c.2 l)).length = _
    unfold keysOf at hn
    rw [List.map_cons, List.nodup_cons] at hn
    rw [puts_length (srt_put h) hn.2 (fun x hx y hy e => by
      rcases (mem_put h y).1 hy with rfl | ⟨hy, _⟩
      · exact hn.1 (List.mem_map.2 ⟨x, hx, e⟩)
      · exact hd x (by simp [hx]) y hy e)]
    rw [put_length h]
    have : lookT l c.1 = none := by
      unfold lookT
      rw [Option.map_eq_none_iff, List.find?_eq_none]
      intro d hdl
      have := hd c (by simp) d hdl
      simp
      exact fun e => this e.symm
    rw [this]
    simp; omega
end Go.Proofs.YtpghlmcoajaiiaaGreatDoor

/- Words that laws of trees share: boxes and rows in worlds that agree; small puts and steps. -/
namespace Go.Proofs.YtpghlmcoajaiiaaGreatDoor
open Go.RowKit

theorem Boxes.agree {F : Nat → Prop} {w w' : World} {l : List (Nat × List Value)} (h : Boxes w l) (ha : AgreeF F w w') (hl : ∀ p ∈ l, F p.1) : Boxes w' l := fun p hp => by
  obtain ⟨t, ht⟩ := h p hp
  exact ⟨t, (ha.2 p.1 (hl p hp) (Array.getElem?_eq_some_iff.1 ht).1).trans ht⟩
theorem own_agree {w w' : World} {base : Nat} {e : TypeId} {size : Nat} {v : Value} {n : Nat} {xs : List Value} {F : Nat → Prop} (h : w.ownsRow base e size v n xs) (ha : AgreeF F w w') (hF : ∀ g, v.ownBlock = some g → F g) : w'.ownsRow base e size v n xs := by
  refine ⟨h.1, h.2.imp id fun ⟨g, cap, cur, e1, hg, hh, r⟩ => ⟨g, cap, cur, e1, hg, ?_, r⟩⟩
  subst e1
  rw [ha.2 g (hF g rfl) (Array.getElem?_eq_some_iff.1 hh).1]; exact hh
theorem _root_.List.take_succ_eq_append_of {α : Type} {l : List α} {i : Nat} {y : α} (h : l[i]? = some y) : l.take (i + 1) = l.take i ++ [y] := by
  rw [List.take_add_one, h]; rfl
theorem fr_le {F : Nat → Prop} {W w5 : World} {B b : Nat} (hF : ∀ b, F b → B ≤ b) (hB : B ≤ w5.heap.size) (hW : w5.heap.size ≤ W.heap.size) (h : Fr F W b) : B ≤ b := by
  rcases h with h | h
  · exact hF b h
  · omega
theorem fr_not {F : Nat → Prop} {W : World} {b : Nat} (hF : ¬ F b) (hW : b < W.heap.size) : ¬ Fr F W b := fun h => by
  rcases h with h | h
  · exact hF h
  · omega
theorem lt_alloc (w : World) (o : Obj) : w.heap.size < (w.alloc o).heap.size := by rw [World.size_alloc]; omega
theorem le_alloc {B : Nat} {w : World} (h : B ≤ w.heap.size) (o : Obj) : B ≤ (w.alloc o).heap.size := by rw [World.size_alloc]; omega
theorem okP_facts {l : List Pt} (h : smallP l = true) : l.length ≤ 80 ∧ ∀ y ∈ l, keyOk y.key ∧ ∃ n : Nat, y.size = n ∧ n ≤ 400 := by
  unfold smallP at h
  rw [Bool.and_eq_true] at h
  refine ⟨by simpa using h.2, fun y hy => ?_⟩
  have := List.all_eq_true.1 h.1 y hy
  unfold okP at this
  simp at this
  exact ⟨⟨this.1, this.2.1⟩, y.size.toNat, by omega, by omega⟩
theorem okS_facts {l : List St} (h : smallS l = true) : l.length ≤ 120 ∧ ∀ y ∈ l, keyOk y.key ∧ y.size ≤ 400 := by
  unfold smallS at h
  rw [Bool.and_eq_true] at h
  refine ⟨by simpa using h.2, fun y hy => ?_⟩
  have := List.all_eq_true.1 h.1 y hy
  unfold okS at this
  simp at this
  exact ⟨⟨this.1, this.2.1⟩, this.2.2⟩
theorem fillT_len (f : UInt8) (n : Nat) : (fillT f n).length = n := by simp [fillT]
theorem put_some {N M : Nat} {t T : Tr} {key : List UInt8} {v : Tv} (h : entsT M T = putL key v (entsT N t)) {k : Nat} (hk : (entsT N t).length ≤ k) (hs : Srt (entsT N t)) : (entsT M T).length ≤ k + 1 := by
  rw [h, put_length hs]; split <;> omega
/-- Whole trees' entries stand in order. -/
theorem Whole.srt {n : Nat} {t : Tr} (h : Whole n t) : Srt (entsT n t) := (whole_ents h).1
end Go.Proofs.YtpghlmcoajaiiaaGreatDoor

/- strings.Builder: what is written stands in it. -/
namespace Go.Proofs.YtpghlmcoajaiiaaGreatDoor
open Go.RowKit

/-- A builder at block b, whose bytes stand at block R or behind. -/
def Bd (R b : Nat) (w : World) (l : List UInt8) : Prop :=
  ∃ ad v, w.heap[b]? = some (.cells #[.pointer ad, v] 160 (0, 0)) ∧ (ad = none ∨ ad = some ⟨b, 0, none⟩) ∧ w.ownsRow R 5 1 v l.length ((toI l).map (Value.int .u8)) ∧ v.ownBlock ≠ some b ∧ R ≤ w.heap.size
/-- What a write leaves. -/
def BdStay (R b : Nat) (w w' : World) : Prop := (∀ B, B ≤ b → B ≤ R → Below B w w') ∧ AgreeF (fun x => x ≠ b ∧ x < R) w w' ∧ w.heap.size ≤ w'.heap.size
theorem info_bld : (Tryz.prog.info? 160).map (·.size) = some 2 := by kernel_rfl
theorem lies_bld : liesAt Tryz.prog Tryz.prog.depth 160 (2 / Tryz.prog.cellsOf 160) 0 160 1 = true := by kernel_rfl
set_option maxRecDepth 100000 in
theorem copyCheck_nil {b : Nat} {w : World} {v : Value} (h : w.heap[b]? = some (.cells #[.pointer none, v] 160 (0, 0))) :
    Calls Tryz.prog 111 #[.pointer (some ⟨b, 0, none⟩)] w fun e w' => e = .returned (.tuple #[]) ∧ w.setCell ⟨b, 0, none⟩ (.pointer (some ⟨b, 0, none⟩)) = w' := by
  obtain ⟨j, hj, hjs⟩ := Option.map_eq_some_iff.1 info_bld
  have hsh : w.shape? b = some (160, 2) := by simp [World.shape?, h]
  have h0 : w.cell? ⟨b, 0, none⟩ = some (.pointer none) := by simp [World.cell?, h]
  have f0 : w.frozen? ⟨b, 0, none⟩ = false := by simp [World.frozen?, h]
  have r1 := Lib.run_to_unsafe (P := Tryz.prog) w (src := 158) (dst := 288) ⟨b, 0, none⟩ Tryz.underlying158 Tryz.underlying288 hj (by rw [hjs]; decide) hsh (Nat.zero_lt_succ 1)
  have r2 := Lib.run_from_unsafe (P := Tryz.prog) w (src := 288) (dst := 158) ⟨b, 0, none⟩ Tryz.underlying288 Tryz.underlying158 hj hsh lies_bld
  clear hsh h
  go_enter Tryz.func111, Tryz.ntmps111
  go_wp2_with fail
  rw [run_callFunc_extern Tryz.func152 (by kernel_rfl) (by kernel_rfl) (by kernel_rfl) (e := Extern.AbiNoEscape.same) (by kernel_rfl)]
  rw [Lib.run_noEscape]
  simp only [Result.andThen]
  rw [Oper.upon_value]
  go_wp2
  go_end0
  exact ⟨rfl, rfl⟩
set_option maxRecDepth 100000 in
theorem copyCheck_own {b : Nat} {w : World} {v : Value} (h : w.heap[b]? = some (.cells #[.pointer (some ⟨b, 0, none⟩), v] 160 (0, 0))) :
    Calls Tryz.prog 111 #[.pointer (some ⟨b, 0, none⟩)] w fun e w' => e = .returned (.tuple #[]) ∧ w = w' := by
  obtain ⟨j, hj, hjs⟩ := Option.map_eq_some_iff.1 info_bld
  have h0 : w.cell? ⟨b, 0, none⟩ = some (.pointer (some ⟨b, 0, none⟩)) := by simp [World.cell?, h]
  have r1 := Lib.run_neq_ptr_same (P := Tryz.prog) w (tp := 158) ⟨b, 0, none⟩ Tryz.underlying158 hj
  clear h
  go_enter Tryz.func111, Tryz.ntmps111
  go_wp2_with fail
  go_end0
  exact ⟨rfl, rfl⟩
theorem bd_cell {w : World} {b : Nat} {x y : Value} (h : w.heap[b]? = some (.cells #[x, y] 160 (0, 0))) : w.cell? ⟨b, 0, none⟩ = some x ∧ w.cell? ⟨b, 1, none⟩ = some y ∧ w.frozen? ⟨b, 0, none⟩ = false ∧ w.frozen? ⟨b, 1, none⟩ = false ∧ b < w.heap.size :=
  ⟨by simp [World.cell?, h], by simp [World.cell?, h], by simp [World.frozen?, h], by simp [World.frozen?, h], (Array.getElem?_eq_some_iff.1 h).1⟩
theorem bd_set {w : World} {b : Nat} {x y : Value} (h : w.heap[b]? = some (.cells #[x, y] 160 (0, 0))) (i : Nat) (u : Value) :
    (w.setCell ⟨b, i, none⟩ u).heap[b]? = some (.cells (#[x, y].setIfInBounds i u) 160 (0, 0)) := by
  rw [heap_setCell_at i u h]
theorem row_agree {k : IntKind} {w w' : World} {a : Option Addr} {n c : Nat} {l : List Int} {F : Nat → Prop} (h : Row k w a n c l) (ha : AgreeF F w w') (hF : ∀ x, a = some x → F x.block) : Row k w' a n c l := by
  obtain ⟨h1, h2, h3, h4, h5⟩ := h
  refine ⟨h1, h2, h3, h4, h5.imp id ?_⟩
  rintro ⟨b, off, rfl, hb, hc⟩
  exact ⟨b, off, rfl, Nat.lt_of_lt_of_le hb ha.1, fun i hi => (ha.cell (hF _ rfl) hb).trans (hc i hi)⟩
set_option maxRecDepth 100000 in
theorem bwrite_own {R b : Nat} {w : World} {v : Value} {l m : List UInt8} (hR : R ≤ w.heap.size) (hbk : w.heap[b]? = some (.cells #[.pointer (some ⟨b, 0, none⟩), v] 160 (0, 0))) (hown : w.ownsRow R 5 1 v l.length ((toI l).map (Value.int .u8))) (hne : v.ownBlock ≠ some b)
    {pa : Option Addr} {pn pc : Nat} (hp : Bs w pa pn pc m) (hsz : l.length + pn ≤ 140737488355328) (w0 : World) (C0 : Calls Tryz.prog 111 #[.pointer (some ⟨b, 0, none⟩)] w0 fun e w' => e = .returned (.tuple #[]) ∧ w = w') :
    Calls Tryz.prog 63 #[.pointer (some ⟨b, 0, none⟩), .slice pa pn pc] w0 fun e w' => e = .returned (.tuple #[.int .i64 pn, .nilIface]) ∧ Bd R b w' (l ++ m) ∧ BdStay R b w w' := by
  obtain ⟨i0, hi, hz0, hz1, hz2⟩ := info_parts info_u8
  have hlt := (bd_cell hbk).2.2.2.2
  obtain ⟨v2, w2, hr2, ho2, hg2, hv2⟩ := run_append_row (P := Tryz.prog) (w := w) R 42 5 i0 _ 1 Tryz.underlying42 hi hz0 hz1 hz2 rfl hown hp (by unfold maxLen; omega) (by omega) (by omega)
  have hbk2 : w2.heap[b]? = some (.cells #[.pointer (some ⟨b, 0, none⟩), v] 160 (0, 0)) := by
    rw [hg2.block b hlt (fun e => hne e.symm)]; exact hbk
  have hne2 : v2.ownBlock ≠ some b := by
    rcases hv2 with h | h
    · rw [h]; exact hne
    · rw [h]; intro e; have := Option.some.inj e; omega
  obtain ⟨c0, c1, _, _, _⟩ := bd_cell hbk
  obtain ⟨d0, d1, f0, f1, hlt2⟩ := bd_cell hbk2
  have hbel : BdStay R b w (w2.setCell ⟨b, 1, none⟩ v2) := by
    have hsz9 := hg2.size
    refine ⟨fun B h1 h2 => ((Below.refl B w).grown hg2 (by omega) (fun k hk => Nat.le_trans h2 (own_ge hown k hk))).setCell (p := ⟨b, 1, none⟩) h1 _, ?_, by simpa using hsz9⟩
    refine ⟨by simpa using hsz9, fun x hx hlt => ?_⟩
    rw [Below.heap_setCell w2 ⟨b, 1, none⟩ v2 x hx.1]
    exact hg2.block x hlt (fun e => by have := own_ge hown x e.symm; omega)
  have hfin : Bd R b (w2.setCell ⟨b, 1, none⟩ v2) (l ++ m) := by
    refine ⟨some ⟨b, 0, none⟩, v2, by rw [bd_set hbk2]; rfl, .inr rfl, ?_, hne2, by have := hg2.size; simp; omega⟩
    have := own_agree (w' := w2.setCell ⟨b, 1, none⟩ v2) (F := fun x => x ≠ b) ho2 ((AgreeF.refl w2).set (p := ⟨b, 1, none⟩) (.inl (by simp))) (fun g hg => by intro e; subst e; exact hne2 hg)
    have e9 : m.length = pn := by rw [← toI_length]; exact hp.1
    rw [← toI_append, List.map_append, List.length_append, e9]
    exact this
  obtain ⟨ao, n', cap, rfl⟩ : ∃ ao n' cap, v2 = .slice ao n' cap := by
    rcases ho2.2 with ⟨hv, _⟩ | ⟨g, cap, cur, hv, _⟩
    · exact ⟨_, _, _, hv⟩
    · exact ⟨_, _, _, hv⟩
  have HF := Lib.hid hfin
  have HB9 := Lib.hid hbel
  clear hfin hbel ho2 hg2 hv2 hne2 hbk hbk2 hown hne hp hi hz0 hz1 hz2
  go_enter Tryz.func63, Tryz.ntmps63
  go_wp2_with fail
  refine C0.mono ?_
  rintro e w' ⟨rfl, rfl⟩
  go_wp2_with (at_builtin; refine wpList_append_run rfl _ _ _ _ rfl rfl rfl hr2 ?_)
  go_ret2
  exact ⟨rfl, HF.out, HB9.out⟩
theorem bd_below {R b : Nat} {w w' : World} {l : List UInt8} (h : Bd R b w l) (hb : Below w.heap.size w w') : Bd R b w' l := by
  obtain ⟨ad, v, h1, h2, h3, h4, h5⟩ := h
  refine ⟨ad, v, (hb.block b (bd_cell h1).2.2.2.2).trans h1, h2, own_held h3 hb, h4, Nat.le_trans h5 hb.size⟩
/-- What is written stands behind what was. -/
theorem bwrite_any {R b : Nat} {w : World} {l m : List UInt8} (h : Bd R b w l) {pa : Option Addr} {pn pc : Nat} (hp : Bs w pa pn pc m) (hne : ∀ x, pa = some x → x.block ≠ b) (hsz : l.length + pn ≤ 140737488355328) :
    Calls Tryz.prog 63 #[.pointer (some ⟨b, 0, none⟩), .slice pa pn pc] w fun e w' => e = .returned (.tuple #[.int .i64 pn, .nilIface]) ∧ Bd R b w' (l ++ m) ∧ BdStay R b w w' := by
  obtain ⟨ad, v, h1, h2, h3, h4, h5⟩ := h
  rcases h2 with rfl | rfl
  · have hag : AgreeF (fun x => x ≠ b) w (w.setCell ⟨b, 0, none⟩ (.pointer (some ⟨b, 0, none⟩))) := (AgreeF.refl w).set (.inl (by simp))
    refine (bwrite_own (by simpa using h5) (by rw [bd_set h1]; rfl) (own_agree h3 hag (fun g hg => by intro e; subst e; exact h4 hg)) h4 (row_agree hp hag hne) hsz w (copyCheck_nil h1)).mono ?_
    rintro e w' ⟨rfl, g1, g2, g3, g4⟩
    refine ⟨rfl, g1, fun B q1 q2 => ((Below.refl B w).setCell (p := ⟨b, 0, none⟩) q1 _).trans (g2 B q1 q2), ?_, by simpa using g4⟩
    exact AgreeF.trans ((AgreeF.refl w).set (.inl (by simp))) g3
  · exact bwrite_own h5 h1 h3 h4 hp hsz w (copyCheck_own h1)
set_option maxRecDepth 100000 in
set_option maxHeartbeats 2000000 in
set_option maxRecDepth 100000 in
/-- What was written. -/
theorem bstring_any {R b : Nat} {w : World} {l : List UInt8} (h : Bd R b w l) (h0 : l ≠ []) {B : Nat} (hBR : B ≤ R) :
    Calls Tryz.prog 66 #[.pointer (some ⟨b, 0, none⟩)] w fun e w' => e = .returned (.string (strOf l)) ∧ Below B w w' := by
  obtain ⟨ad, v, hbk, _, hown, hne, hR⟩ := h
  have hl0 : l.length ≠ 0 := by simpa using h0
  obtain ⟨g, cap, cur, rfl, hbg, hg, hnc, hcm, hcs, htake⟩ : ∃ g cap cur, v = .slice (some ⟨g, 0, none⟩) l.length cap ∧ R ≤ g ∧ w.heap[g]? = some (.cells cur 5 (0, 0)) ∧ l.length ≤ cap ∧ cap ≤ maxLen ∧ cur.size = cap * 1 ∧ cur.toList.take (l.length * 1) = (toI l).map (Value.int .u8) := by
    rcases hown.2 with ⟨_, hz⟩ | ⟨g, cap, cur, hv, r⟩
    · exact absurd hz hl0
    · exact ⟨g, cap, cur, hv, r⟩
  have c1 : w.drew.cell? ⟨b, 1, none⟩ = some (.slice (some ⟨g, 0, none⟩) l.length cap) := (bd_cell hbk).2.1
  have hSD : (Builtin.unsafeSliceData_ #[42] 237 #[.slice (some ⟨g, 0, none⟩) l.length cap]).run Tryz.prog w.drew = .ok (.pointer (some ⟨g, 0, none⟩)) w.drew :=
    Lib.run_unsafeSliceData_row _ _ _ _ _ _ (by omega)
  have hUS : (Builtin.unsafeString_ #[237, 3] 9 #[.pointer (some ⟨g, 0, none⟩), .int .i64 l.length]).run Tryz.prog w.drew = .ok (.string ⟨l.toArray⟩) (w.drew.freeze ⟨g, 0, none⟩ l.length) := by
    refine Lib.run_unsafeString_row w.drew 237 3 9 5 Tryz.underlying237 (by kernel_rfl) g cur.size (by have hg' : w.drew.heap[g]? = some (.cells cur 5 (0, 0)) := hg; simp [World.shape?, hg']) l h0 (by omega) (by unfold maxLen at hcm; omega) ?_
    intro j x hx
    have := hown.cells (g := g) rfl j (.int .u8 x.toNat) (by simp [toI, hx])
    exact this
  have HFR : Hid (Below B w (w.drew.freeze ⟨g, 0, none⟩ l.length)) := Lib.hid (Lib.below_freeze (Below.dr (Below.refl B w)) (p := ⟨g, 0, none⟩) (Nat.le_trans hBR hbg) _)
  have mixed : Tryz.prog.follows Departure.mixedOrders = true := by kernel_rfl
  clear hbk hown hne hg hcs htake
  go_enter Tryz.func66, Tryz.ntmps66
  go_wp2
  go_region_o
  all_goals (go_wp2; go_ret; exact ⟨rfl, HFR.out⟩)
end Go.Proofs.YtpghlmcoajaiiaaGreatDoor

/- Sums of bytes, bit by bit; plain laws, no program in sight. -/
namespace Go.Proofs.YtpghlmcoajaiiaaGreatDoor

/-- One bit. -/
def stepB (x : Nat) : Nat := if x % 2 = 1 then (x / 2) ^^^ 3988292384 else x / 2
def steps : Nat → Nat → Nat
  | 0, x => x
  | n + 1, x => steps n (stepB x)
theorem steps_add (m n x : Nat) : steps (m + n) x = steps n (steps m x) := by
  induction m generalizing x with
  | zero => simp [steps]
  | succ m ih => rw [show m + 1 + n = (m + n) + 1 by omega]; simp only [steps]; exact ih _
theorem steps_succ (n x : Nat) : steps (n + 1) x = stepB (steps n x) := by
  rw [steps_add n 1]; rfl
/-- One byte. -/
def stepC (x : Nat) (b : UInt8) : Nat := steps 8 (x ^^^ b.toNat)
/-- The inner state behind bytes. -/
def crcX (x : Nat) (l : List UInt8) : Nat := l.foldl stepC x
def crcOn (sum : Nat) (l : List UInt8) : Nat := 4294967295 - crcX (4294967295 - sum) l
def crcOf (l : List UInt8) : Nat := crcOn 0 l

theorem xor_lt {a b : Nat} (ha : a < 4294967296) (hb : b < 4294967296) : a ^^^ b < 4294967296 := Nat.xor_lt_two_pow (n := 32) ha hb
theorem stepB_lt {x : Nat} (h : x < 4294967296) : stepB x < 4294967296 := by
  unfold stepB; split
  · exact xor_lt (by omega) (by omega)
  · omega
theorem steps_lt (n : Nat) {x : Nat} (h : x < 4294967296) : steps n x < 4294967296 := by
  induction n generalizing x with
  | zero => exact h
  | succ n ih => exact ih (stepB_lt h)
theorem stepC_lt {x : Nat} (h : x < 4294967296) (b : UInt8) : stepC x b < 4294967296 := steps_lt 8 (xor_lt h (by have := b.toNat_lt; omega))
theorem crcX_lt (l : List UInt8) {x : Nat} (h : x < 4294967296) : crcX x l < 4294967296 := by
  induction l generalizing x with
  | nil => exact h
  | cons b l ih => exact ih (stepC_lt h b)
theorem crcOn_lt (sum : Nat) (l : List UInt8) : crcOn sum l < 4294967296 := by unfold crcOn; omega
theorem crcX_snoc (x : Nat) (l : List UInt8) (b : UInt8) : crcX x (l ++ [b]) = stepC (crcX x l) b := by simp [crcX]

/-! a step can be told from what it leaves -/
theorem testBit_poly (x : Nat) (h : x < 2147483648) : (x ^^^ 3988292384).testBit 31 = true := by
  rw [Nat.testBit_xor, Nat.testBit_lt_two_pow (show x < 2 ^ 31 from h)]
  decide
theorem stepB_inj {x y : Nat} (hx : x < 4294967296) (hy : y < 4294967296) (h : stepB x = stepB y) : x = y := by
  have bit : ∀ z, z < 4294967296 → (stepB z).testBit 31 = decide (z % 2 = 1) := by
    intro z hz
    unfold stepB; split
    · rename_i h1; rw [testBit_poly _ (by omega)]; simp [h1]
    · rename_i h1; rw [Nat.testBit_lt_two_pow (show z / 2 < 2 ^ 31 by omega)]; simp [h1]
  have hb := bit x hx
  rw [h, bit y hy] at hb
  have hp : (x % 2 = 1 ↔ y % 2 = 1) := by
    constructor
    · intro e; by_cases e' : y % 2 = 1
      · exact e'
      · simp [e, e'] at hb
    · intro e; by_cases e' : x % 2 = 1
      · exact e'
      · simp [e, e'] at hb
  unfold stepB at h
  by_cases e : x % 2 = 1
  · rw [if_pos e, if_pos (hp.1 e)] at h
    have h2 : x / 2 = y / 2 := by
      have := congrArg (· ^^^ 3988292384) h
      simpa [Nat.xor_assoc] using this
    have := hp.1 e
    omega
  · rw [if_neg e, if_neg (fun e' => e (hp.2 e'))] at h
    have : ¬ y % 2 = 1 := fun e' => e (hp.2 e')
    omega
theorem steps_inj (n : Nat) {x y : Nat} (hx : x < 4294967296) (hy : y < 4294967296) (h : steps n x = steps n y) : x = y := by
  induction n generalizing x y with
  | zero => exact h
  | succ n ih => exact stepB_inj hx hy (ih (stepB_lt hx) (stepB_lt hy) h)
theorem xor_cancel {a b c : Nat} (h : a ^^^ c = b ^^^ c) : a = b := by
  have := congrArg (· ^^^ c) h
  simpa [Nat.xor_assoc] using this
theorem stepC_inj {x y : Nat} {b : UInt8} (hx : x < 4294967296) (hy : y < 4294967296) (h : stepC x b = stepC y b) : x = y :=
  xor_cancel (steps_inj 8 (xor_lt hx (by have := b.toNat_lt; omega)) (xor_lt hy (by have := b.toNat_lt; omega)) h)
theorem stepC_byte {x : Nat} {b c : UInt8} (hx : x < 4294967296) (h : stepC x b = stepC x c) : b = c := by
  have h1 := steps_inj 8 (xor_lt hx (by have := b.toNat_lt; omega)) (xor_lt hx (by have := c.toNat_lt; omega)) h
  rw [Nat.xor_comm x, Nat.xor_comm x] at h1
  exact UInt8.toNat_inj.1 (xor_cancel h1)
theorem crcX_inj (l : List UInt8) {x y : Nat} (hx : x < 4294967296) (hy : y < 4294967296) (h : crcX x l = crcX y l) : x = y := by
  induction l generalizing x y with
  | nil => exact h
  | cons b l ih => exact stepC_inj hx hy (ih (stepC_lt hx b) (stepC_lt hy b) h)
/-- A byte that is another one is told by the sum. -/
theorem crcOf_turned (a r : List UInt8) {b c : UInt8} (h : crcOf (a ++ b :: r) = crcOf (a ++ c :: r)) : b = c := by
  have hl := crcX_lt a (x := 4294967295 - 0) (by omega)
  have e : ∀ d : UInt8, crcX (4294967295 - 0) (a ++ d :: r) = crcX (stepC (crcX (4294967295 - 0) a) d) r := by intro d; simp [crcX]
  have h1 := crcX_lt r (stepC_lt hl b)
  have h2 := crcX_lt r (stepC_lt hl c)
  unfold crcOf crcOn at h
  rw [e b, e c] at h
  exact stepC_byte hl (crcX_inj r (stepC_lt hl b) (stepC_lt hl c) (by omega))

/-! half a byte by a table -/
def half : List Nat := [0, 498536548, 997073096, 651767980, 1994146192, 1802195444, 1303535960, 1342533948, 3988292384, 4027552580, 3604390888, 3412177804, 2607071920, 2262029012, 2685067896, 3183342108]
theorem half_eq (k : Nat) (h : k < 16) : half[k]? = some (steps 4 k) := by
  have : ∀ k : Fin 16, half[k.val]? = some (steps 4 k.val) := by decide
  exact this ⟨k, h⟩
theorem stepB_xor (a b : Nat) (ha : a % 2 = 0) : stepB (a ^^^ b) = a / 2 ^^^ stepB b := by
  have hp : (a ^^^ b) % 2 = b % 2 := by
    have := Nat.xor_mod_two_pow (a := a) (b := b) (n := 1)
    simp only [Nat.pow_one] at this
    rw [this, ha, Nat.zero_xor]
    try omega
  have hd : (a ^^^ b) / 2 = a / 2 ^^^ b / 2 := by
    have := Nat.shiftRight_xor_distrib (a := a) (b := b) (i := 1)
    simpa [Nat.shiftRight_eq_div_pow] using this
  unfold stepB
  rw [hp, hd]
  by_cases hb : b % 2 = 1
  · rw [if_pos hb, if_pos hb, Nat.xor_assoc]
  · rw [if_neg hb, if_neg hb]
theorem steps_xor (n a b : Nat) (ha : a % 2 ^ n = 0) : steps n (a ^^^ b) = a / 2 ^ n ^^^ steps n b := by
  induction n generalizing a b with
  | zero => simp [steps]
  | succ n ih =>
    have h2 : a % 2 = 0 := by
      have : 2 ∣ a := Nat.dvd_trans (by rw [Nat.pow_succ]; exact Nat.dvd_mul_left 2 _) (Nat.dvd_of_mod_eq_zero ha)
      omega
    have h3 : a / 2 % 2 ^ n = 0 := by
      have hd := Nat.dvd_of_mod_eq_zero ha
      rw [Nat.pow_succ] at hd
      obtain ⟨q, rfl⟩ := hd
      rw [Nat.mul_comm (2 ^ n) 2, Nat.mul_assoc, Nat.mul_div_cancel_left _ (by decide), Nat.mul_mod_right]
    simp only [steps]
    rw [stepB_xor a b h2, ih (a / 2) (stepB b) h3, Nat.div_div_eq_div_mul, Nat.pow_succ, Nat.mul_comm 2]
/-- Four bits at once. -/
theorem steps_four (x : Nat) : steps 4 x = x / 16 ^^^ (half[x % 16]?.getD 0) := by
  have e : x = 16 * (x / 16) ^^^ x % 16 := by
    have h1 : 16 * (x / 16) ^^^ x % 16 = 16 * (x / 16) + x % 16 := by
      have hb : x % 16 < 2 ^ 4 := by omega
      apply Nat.eq_of_testBit_eq
      intro j
      have e1 := Nat.testBit_two_pow_mul_add (x / 16) hb j
      have e2 : (2 ^ 4 * (x / 16)).testBit j = (decide (j ≥ 4) && (x / 16).testBit (j - 4)) := Nat.testBit_two_pow_mul ..
      rw [Nat.testBit_xor]
      show ((2 ^ 4 * (x / 16)).testBit j ^^ (x % 16).testBit j) = (2 ^ 4 * (x / 16) + x % 16).testBit j
      rw [e1, e2]
      by_cases hj : j < 4
      · have h4 : ¬ j ≥ 4 := by omega
        rw [if_pos hj]; simp [h4]
      · have h0 : (x % 16).testBit j = false := Nat.testBit_lt_two_pow (Nat.lt_of_lt_of_le hb (Nat.pow_le_pow_right (by decide) (by omega)))
        have h4 : j ≥ 4 := by omega
        rw [if_neg hj, h0]; simp [h4]
    rw [h1]; omega
  have h2 := steps_xor 4 (16 * (x / 16)) (x % 16) (by omega)
  rw [← e] at h2
  rw [h2, half_eq (x % 16) (by omega)]
  simp
theorem not32 (s : Nat) (h : s < 4294967296) : 4294967295 ^^^ s = 4294967295 - s := by
  apply Nat.eq_of_testBit_eq
  intro i
  have e := Nat.testBit_two_pow_sub_succ (n := 32) h i
  have e1 : 2 ^ 32 - (s + 1) = 4294967295 - s := by omega
  have e2 := Nat.testBit_two_pow_sub_one 32 i
  rw [e1] at e
  rw [Nat.testBit_xor, e]
  show ((2 ^ 32 - 1).testBit i ^^ s.testBit i) = _
  rw [e2]
  by_cases hi : i < 32
  · simp [hi]
  · have : s.testBit i = false := Nat.testBit_lt_two_pow (Nat.lt_of_lt_of_le h (show 2 ^ 32 ≤ 2 ^ i from Nat.pow_le_pow_right (by decide) (by omega)))
    simp [hi, this]

end Go.Proofs.YtpghlmcoajaiiaaGreatDoor
