/- Texts that other texts of this claim lean on, one behind the other. -/
import Derived.Test.YtpghlmcoajaiiaaGreatDoorM5
import Derived.Test.YtpghlmcoajaiiaaGreatDoorM3
import Derived.Test.YtpghlmcoajaiiaaGreatDoorM2
import Derived.Deep.LoopGhost
import Derived.Test.YtpghlmcoajaiiaaGreatDoorM6
import Derived.Lib.Bytealg
import Derived.Deep.RegionHeld3
import Derived.Deep.DeepCutAuto
/- The walks of trees: a key's value put (printed by gen_treU.py). -/
namespace Go.Proofs.YtpghlmcoajaiiaaGreatDoor
open Go.RowKit

set_option maxRecDepth 100000 in
set_option maxHeartbeats 2000000 in
theorem tput_any : ∀ {N : Nat} {F : Nat → Prop} {w : World} {cs : List Value} {t : Tr} (key d : List UInt8), NodeOn F N w cs t → PutOk N t key ⟨d, []⟩ → Calls Tryz.prog 120 #[.agg cs.toArray, .string (strOf key), .string (strOf d)] w (NodeTo F N w (putT N t key ⟨d, []⟩))
  | 0, _, _, _, _, _, _, h, _ => h.elim
  | N + 1, F, w, cs, .node p l, key, d, h, ho => by
    have IH := fun {F : Nat → Prop} {w : World} {cs : List Value} {t : Tr} (h : NodeOn F N w cs t) (ho : PutOk N t key ⟨d, []⟩) => tput_any key d h ho
    obtain ⟨o1, o2, o3, M, rfl, o4⟩ := ho
    have hlt := h.lt
    obtain ⟨ka, kc, va, vn, vc, ca, cn, cc, V, C, rfl, h1, h2, h3, h4, f1, f2, f3⟩ := hlt.open
    obtain ⟨_, r1, r2⟩ := h4.toR.lens
    have hV : V = [] := h4.2.1
    have hcn : cn = l.length := by rw [← h3.1, r2]; rfl
    have hvn : vn = 0 := by rw [← h2.1, hV]; rfl
    subst hV hcn hvn
    obtain ⟨k, hkx⟩ : ∃ k, wayF (keysOf l) key = k := ⟨_, rfl⟩
    have hk : k < l.length := by rw [← hkx]; have := wayF_lt (ks := keysOf l) key (by simpa [keysOf] using o1); simpa [keysOf] using this
    rw [hkx] at o3 o4
    obtain ⟨bc, oc, y, yc, eca, hbc, hy, _, hyc, hcell⟩ := TabR.at h3 hk
    have hyc : yc = y.1 := hyc
    subst hyc eca
    have hkid := kid_tells h4.2.2 hy
    obtain ⟨q1, q2, q3, q4, q5, q6, q7, q8, _, _, ey, _⟩ := NodeOn.open_pos hkid
    rw [ey] at hcell hkid
    have hcA : cntT (Tr.node p l) = l.length := rfl
    have hpA : (Tr.node p l).page = p := rfl
    have hfA : (Tr.node p l).isLeaf = false := rfl
    have hkA : (Tr.node p l).keys = keysOf l := rfl
    rw [hcA, hpA, hfA] at hlt ⊢
    rw [hcA, hkA] at h1
    rw [hkA] at h4
    rw [hcA] at f1
    obtain ⟨m, hm⟩ : ∃ m, l.length = m := ⟨_, rfl⟩
    rw [hm] at hk h1 h3 hlt o1 o2 f1 f3 ⊢
    have hB0 : Below w.heap.size w ((w.alloc (.cells #[.int .i64 p, .bool false, .slice ka m kc, .slice va 0 vc, .slice (some ⟨bc, oc, none⟩) m cc] 50)).alloc (.cells #[.int .i64 0, .bool false, .slice none 0 0, .slice none 0 0, .slice none 0 0] 50)) := Below.al (Below.al (Below.refl _ _))
    have hX0 : Boxes _ [(w.heap.size + 1, [.int .i64 0, .bool false, .slice none 0 0, .slice none 0 0, .slice none 0 0]), (w.heap.size, [.int .i64 p, .bool false, .slice ka m kc, .slice va 0 vc, .slice (some ⟨bc, oc, none⟩) m cc])] := (((Boxes.nil w).alloc #[.int .i64 p, .bool false, .slice ka m kc, .slice va 0 vc, .slice (some ⟨bc, oc, none⟩) m cc] 50 rfl).alloc #[.int .i64 0, .bool false, .slice none 0 0, .slice none 0 0, .slice none 0 0] 50 (b := w.heap.size + 1) (by simp))
    obtain ⟨wA, hwA⟩ : ∃ wA, (w.alloc (.cells #[.int .i64 p, .bool false, .slice ka m kc, .slice va 0 vc, .slice (some ⟨bc, oc, none⟩) m cc] 50)).alloc (.cells #[.int .i64 0, .bool false, .slice none 0 0, .slice none 0 0, .slice none 0 0] 50) = wA := ⟨_, rfl⟩
    have hzA : w.heap.size + 2 ≤ wA.heap.size := by rw [← hwA]; simp
    rw [hwA] at hB0 hX0
    have CW := tway_any (hlt.below hB0).toIn key (by rw [hcA, hm]; omega)
    rw [hkA, hkx] at CW
    have n0 := hX0.cell 1 0 rfl rfl
    have n1 := hX0.cell 1 1 rfl rfl
    have n2 := hX0.cell 1 2 rfl rfl
    have n3 := hX0.cell 1 3 rfl rfl
    have n4 := hX0.cell 1 4 rfl rfl
    obtain ⟨T1, hT1⟩ : ∃ x, putT (M + 1) (kidAt l k) key ⟨d, []⟩ = x := ⟨_, rfl⟩
    rw [hT1] at o4
    have HPT : Hid (putT (M + 1 + 1) (.node p l) key ⟨d, []⟩ = mendT 0 (l.set k (keyAt l k, T1)) k) := Lib.hid (by
      show mendT 0 (l.set (wayF (keysOf l) key) (keyAt l (wayF (keysOf l) key), putT (M + 1) (kidAt l (wayF (keysOf l) key)) key ⟨d, []⟩)) (wayF (keysOf l) key) = _
      rw [hkx, hT1])
    have HX := Lib.hid hX0
    have HB := Lib.hid hB0
    have H1 := Lib.hid h1
    have H3 := Lib.hid h3
    have H4 := Lib.hid h4
    have HN := Lib.hid hlt
    have HO3 := Lib.hid o3
    have HO4 := Lib.hid o4
    have HM := Lib.hid hm
    have HT1 := Lib.hid hT1
    have HKID := Lib.hid hkid
    have HCELL := Lib.hid hcell
    have hl2 := h1.lens
    have hl3 := h3.lens
    obtain ⟨_, e2, e3⟩ := hl2
    obtain ⟨_, e5, e6⟩ := hl3
    clear h h1 h2 h3 h4 hlt o3 o4 hX0 hB0 r1 r2 hcA hpA hfA hkA hm hkx hT1 hkid hy ey hcell
    go_enter Tryz.func120, Tryz.ntmps120
    go_wp2_with fail
    refine CW.mono ?_
    rintro e wB ⟨rfl, hbB⟩
    have HX := Lib.hid (HX.out.step hbB)
    have HBW := Lib.hid (HB.out.trans (hbB.mono HB.out.size))
    have hzB : w.heap.size + 2 ≤ wB.heap.size := Nat.le_trans hzA hbB.size
    clear CW n0 n1 n2 n3 n4 hbB hwA
    have HC1 : ∀ W, Below wB.heap.size wB W → Calls Tryz.prog 120 #[.agg #[.int .i64 (kidAt l k).page, .bool (kidAt l k).isLeaf, .slice q1 (cntT (kidAt l k)) q2, .slice q3 q4 q5, .slice q6 q7 q8], .string (strOf key), .string (strOf d)] W (NodeGo (fun b => (F b ∧ b < w.heap.size) ∨ w.heap.size + 2 ≤ b) (M + 1) W T1) := fun W hW => by
      have := IH (HKID.out.below (below_via HBW.out hW)) HO3.out
      rw [HT1.out] at this
      exact this.mono fun e w' h => h.go fun b h => by rcases h with h | h; exact .inl h; exact .inr (by have := hW.size; omega)
    obtain ⟨kp, hkp⟩ : ∃ x, (kidAt l k).page = x := ⟨_, rfl⟩
    obtain ⟨kl, hkl⟩ : ∃ x, (kidAt l k).isLeaf = x := ⟨_, rfl⟩
    obtain ⟨kcn, hkc⟩ : ∃ x, cntT (kidAt l k) = x := ⟨_, rfl⟩
    rw [hkp, hkl, hkc] at HC1 HCELL
    clear hkp hkl hkc
    obtain ⟨TM, hTM⟩ : ∃ x, mendT 0 (l.set k (keyAt l k, T1)) k = x := ⟨_, rfl⟩
    have HC2 : ∀ (W : World) (x : Nat) (p1 : Int) (l1 : Bool) (a1 : Option Addr) (m1 c1 : Nat) (b1 : Option Addr) (m2 c2 : Nat) (b2 : Option Addr) (m3 c3 : Nat), Below wB.heap.size wB W → NodeOn (fun b => (F b ∧ b < w.heap.size) ∨ w.heap.size + 2 ≤ b) (M + 1) W [.int .i64 p1, .bool l1, .slice a1 m1 c1, .slice b1 m2 c2, .slice b2 m3 c3] T1 → BoxAt W x #[.int .i64 p1, .bool l1, .slice a1 m1 c1, .slice b1 m2 c2, .slice b2 m3 c3] →
        Calls Tryz.prog 158 #[.slice (some ⟨bc, oc, none⟩) m cc, .int .i64 (k : Int), .int .i64 1, .slice (some ⟨x, 0, none⟩) 1 1] W (fun e w' => ∃ b c, e = .returned (.slice b m c) ∧ Below W.heap.size W w' ∧ Below wB.heap.size wB w' ∧
          Calls Tryz.prog 156 #[.agg #[.int .i64 0, .bool false, .slice ka m kc, .slice none 0 0, .slice b m c], .int .i64 (k : Int)] w' (NodeGo (fun b => (F b ∧ b < w.heap.size) ∨ w.heap.size + 2 ≤ b) (M + 2) w' TM)) := fun W x p1 l1 a1 m1 c1 b1 m2 c2 b2 m3 c3 hW hn hX => by
      obtain ⟨cB, hcB⟩ : ∃ c : Cl 5, c.1 = [.int .i64 p1, .bool l1, .slice a1 m1 c1, .slice b1 m2 c2, .slice b2 m3 c3] := ⟨⟨[.int .i64 p1, .bool l1, .slice a1 m1 c1, .slice b1 m2 c2, .slice b2 m3 c3], rfl, by intro u hu; simp at hu; rcases hu with rfl | rfl | rfl | rfl | rfl <;> rfl⟩, rfl⟩
      have h3l := H3.out.1
      have := swap_n (H3.out.below (below_via HBW.out hW)) (raw_box (L := [cB]) (by simpa [flatC, hcB] using hX) (by simp)) k 1 (by omega) (by simp; omega)
      have h2 : Calls Tryz.prog 158 #[.slice (some ⟨bc, oc, none⟩) m cc, .int .i64 (k : Int), .int .i64 1, .slice (some ⟨x, 0, none⟩) 1 1] W (OwnRaw 50 5 W (swapL C k 1 [cB])) := by simpa using this
      refine h2.mono fun e w' h => ?_
      obtain ⟨a2, c2, rfl, _, _, ho, hb⟩ := h.sl
      have hlen : (swapL C k 1 [cB]).length = m := by
        have := len_swapL (l := C) (s := [cB]) (i := k) (j := 1) (by omega)
        simp at this
        omega
      rw [hlen] at ho ⊢
      have hW' := below_via hW hb
      refine ⟨a2, c2, rfl, hb, hW', ?_⟩
      have hk' : k < l.length := by rw [HM.out]; exact hk
      have hnode : NodeOn (fun b => (F b ∧ b < w.heap.size) ∨ w.heap.size + 2 ≤ b) (M + 2) w' [.int .i64 0, .bool false, .slice ka m kc, .slice none 0 0, .slice a2 m c2] (.node 0 (l.set k (keyAt l k, T1))) := by
        have hs := setR (p := p) (B := cB) (t := T1) (NodeRF.mono (G := fun b => (F b ∧ b < w.heap.size) ∨ w.heap.size + 2 ≤ b) (H4.out.below (below_via HBW.out hW')) (fun b h => .inl h)) hk' (by rw [hcB]; exact hn.below hb)
        refine NodeOn.shut rfl rfl ?_ (H1.out.below (below_via HBW.out hW')) (Raw.nil0 _ _) (Raw.of_sl ho hlen) (f1.mono fun b h => .inl h) (Fa.zero _ _) (Fa.of_own ho fun b h => .inr (by have := hW.size; omega)) hs
        rw [show (Tr.node 0 (l.set k (keyAt l k, T1))).keys = keysOf (l.set k (keyAt l k, T1)) from rfl, set_keys hk']
      have := tmend_any hnode k (by simpa using hk') HO4.out
      rw [hTM] at this
      exact this.mono fun e w'' h => h.go fun b h => by rcases h with h | h; exact h; exact .inr (by have := hW'.size; omega)
    have HTM := Lib.hid hTM
    have HF1 := Lib.hid f1
    have hA0 : AgreeF (fun b => b ≠ w.heap.size + 1) wB wB.drew := AgreeF.dr (AgreeF.refl _)
    have fk2 : ∀ W, AgreeF (fun b => b ≠ w.heap.size + 1) wB W → W.cell? ⟨w.heap.size, 2, none⟩ = some (.slice ka m kc) := fun W hW => (hW.cell (by simp) (HX.out.lt 1 rfl)).trans (HX.out.cell 1 2 rfl rfl)
    have fk4 : ∀ W, AgreeF (fun b => b ≠ w.heap.size + 1) wB W → W.cell? ⟨w.heap.size, 4, none⟩ = some (.slice (some ⟨bc, oc, none⟩) m cc) := fun W hW => (hW.cell (by simp) (HX.out.lt 1 rfl)).trans (HX.out.cell 1 4 rfl rfl)
    have hbc' : bc ≠ w.heap.size + 1 := by have : bc < w.heap.size := hbc; omega
    have hbc2 : bc < wB.heap.size := Nat.lt_of_lt_of_le hbc HBW.out.size
    have kc0 : ∀ W, AgreeF (fun b => b ≠ w.heap.size + 1) wB W → W.cell? ⟨bc, oc + k * 5, none⟩ = some (.int .i64 kp) := fun W hW => (hW.cell hbc' hbc2).trans ((HBW.out.cell (p := ⟨bc, oc + k * 5, none⟩) hbc).trans (HCELL.out 0 _ rfl))
    have kc1 : ∀ W, AgreeF (fun b => b ≠ w.heap.size + 1) wB W → W.cell? ⟨bc, oc + k * 5 + 1, none⟩ = some (.bool kl) := fun W hW => (hW.cell hbc' hbc2).trans ((HBW.out.cell (p := ⟨bc, oc + k * 5 + 1, none⟩) hbc).trans (HCELL.out 1 _ rfl))
    have kc2 : ∀ W, AgreeF (fun b => b ≠ w.heap.size + 1) wB W → W.cell? ⟨bc, oc + k * 5 + 2, none⟩ = some (.slice q1 kcn q2) := fun W hW => (hW.cell hbc' hbc2).trans ((HBW.out.cell (p := ⟨bc, oc + k * 5 + 2, none⟩) hbc).trans (HCELL.out 2 _ rfl))
    have kc3 : ∀ W, AgreeF (fun b => b ≠ w.heap.size + 1) wB W → W.cell? ⟨bc, oc + k * 5 + 3, none⟩ = some (.slice q3 q4 q5) := fun W hW => (hW.cell hbc' hbc2).trans ((HBW.out.cell (p := ⟨bc, oc + k * 5 + 3, none⟩) hbc).trans (HCELL.out 3 _ rfl))
    have kc4 : ∀ W, AgreeF (fun b => b ≠ w.heap.size + 1) wB W → W.cell? ⟨bc, oc + k * 5 + 4, none⟩ = some (.slice q6 q7 q8) := fun W hW => (hW.cell hbc' hbc2).trans ((HBW.out.cell (p := ⟨bc, oc + k * 5 + 4, none⟩) hbc).trans (HCELL.out 4 _ rfl))
    clear hTM f1 f2 f3 hbc
    go_wp2_with fail
    go_upto_region 3 with (fail)
    go_region_held3 (fun W => AgreeF (fun b => b ≠ w.heap.size + 1) wB W) (first | with_reducible assumption | (repeat (with_reducible first | assumption | exact AgreeF.refl _ | apply AgreeF.al | apply AgreeF.dr | apply AgreeF.st))) (first | (go_at_call 120; (with_reducible refine (HC1 _ ?_).mono ?_); (focus (repeat (with_reducible first | assumption | exact Below.refl _ _ | apply Below.al | apply Below.dr))); rintro e w1 ⟨p1, l1, a1, m1, c1, b1, m2, c2, b2, m3, c3, rfl, hn1, hb1⟩; have hB1 : Below wB.heap.size wB w1 := below_via (by (repeat (with_reducible first | assumption | exact Below.refl _ _ | apply Below.al | apply Below.dr))) hb1; have hA1 : AgreeF (fun b => b ≠ w.heap.size + 1) wB w1 := .of_below hB1) | (go_at_call 158; (with_reducible refine (HC2 _ _ p1 l1 a1 m1 c1 b1 m2 c2 b2 m3 c3 ?_ ?_ ?_).mono ?_); (focus (repeat (with_reducible first | assumption | exact Below.refl _ _ | apply Below.al | apply Below.dr))); (focus (exact NodeOn.below hn1 (Below.al (Below.refl _ _)))); (focus (repeat (with_reducible first | assumption | exact BoxAt.here3 | exact BoxAt.here2 | exact BoxAt.here | apply BoxAt.dr | apply BoxAt.al))); rintro e w2 ⟨b, c, rfl, hb2, hB2, hcm⟩; have hA2 : AgreeF (fun b => b ≠ w.heap.size + 1) wB w2 := .of_below hB2) | (go_at_call 156; (with_reducible refine hcm.mono ?_); rintro e w3 ⟨p3, l3, d1, k1, e1, d2, k2, e2, d3, k3, e3, rfl, hn3, hb3⟩; have hB3 : Below wB.heap.size wB w3 := below_via hB2 hb3; have hA3 : AgreeF (fun b => b ≠ w.heap.size + 1) wB w3 := .of_below hB3; have hX3 := HX.out.step hB3; have z0 : w3.cell? ⟨w.heap.size + 1, 0, none⟩ = _ := hX3.cell 0 0 rfl rfl; have u0 : w3.frozen? ⟨w.heap.size + 1, 0, none⟩ = false := hX3.frozen 0 0 rfl; have z1 : w3.cell? ⟨w.heap.size + 1, 1, none⟩ = _ := hX3.cell 0 1 rfl rfl; have u1 : w3.frozen? ⟨w.heap.size + 1, 1, none⟩ = false := hX3.frozen 0 1 rfl; have z2 : w3.cell? ⟨w.heap.size + 1, 2, none⟩ = _ := hX3.cell 0 2 rfl rfl; have u2 : w3.frozen? ⟨w.heap.size + 1, 2, none⟩ = false := hX3.frozen 0 2 rfl; have z3 : w3.cell? ⟨w.heap.size + 1, 3, none⟩ = _ := hX3.cell 0 3 rfl rfl; have u3 : w3.frozen? ⟨w.heap.size + 1, 3, none⟩ = false := hX3.frozen 0 3 rfl; have z4 : w3.cell? ⟨w.heap.size + 1, 4, none⟩ = _ := hX3.cell 0 4 rfl rfl; have u4 : w3.frozen? ⟨w.heap.size + 1, 4, none⟩ = false := hX3.frozen 0 4 rfl))
    have hend := node_end (F := F) (HBW.out.trans (hB3.mono HBW.out.size)) (hX3.sub (m := [(w.heap.size + 1, [.int .i64 0, .bool false, .slice none 0 0, .slice none 0 0, .slice none 0 0])]) (by simp)) hn3
    have t0 := hend.1.cell 0 0 rfl rfl
    have t1 := hend.1.cell 0 1 rfl rfl
    have t2 := hend.1.cell 0 2 rfl rfl
    have t3 := hend.1.cell 0 3 rfl rfl
    have t4 := hend.1.cell 0 4 rfl rfl
    have fin := Lib.hid hend.2
    unfold set5 at t0 t1 t2 t3 t4
    clear hcm fk2 fk4 kc0 kc1 kc2 kc3 kc4 HC1 HC2
    clear hend z0 z1 z2 z3 z4 u0 u1 u2 u3 u4
    go_wp2_with fail
    refine bodyPost_ret (v := .agg #[.int .i64 p3, .bool l3, .slice d1 k1 e1, .slice d2 k2 e2, .slice d3 k3 e3]) (by simp [results, Tryz.results120, go_sem, t0, t1, t2, t3, t4]) rfl ?_
    rw [HPT.out, HTM.out]
    exact fin.out
  | N + 1, F, w, cs, .leaf p l, key, d, h, ho => by
    obtain ⟨o1, o2⟩ := ho
    have hlt := h.lt
    obtain ⟨ka, kc, va, vn, vc, ca, cn, cc, V, C, rfl, h1, h2, h3, h4, f1, f2, f3⟩ := hlt.open
    obtain ⟨_, r1, r2⟩ := h4.toR.lens
    have hC : C = [] := h4.2.2
    have hvn : vn = l.length := by rw [← h2.1, r1]; rfl
    have hcn : cn = 0 := by rw [← h3.1, hC]; rfl
    subst hC hcn hvn
    have hcA : cntT (Tr.leaf p l) = l.length := rfl
    have hpA : (Tr.leaf p l).page = p := rfl
    have hfA : (Tr.leaf p l).isLeaf = true := rfl
    have hkA : (Tr.leaf p l).keys = keysOf l := rfl
    rw [hcA, hpA, hfA] at hlt ⊢
    rw [hcA, hkA] at h1
    rw [hkA] at h4
    rw [hcA] at f1
    have hkl : (keysOf l).length = l.length := by simp [keysOf]
    obtain ⟨m, hm⟩ : ∃ m, l.length = m := ⟨_, rfl⟩
    rw [hm] at h1 h2 hlt o1 f1 f2 hkl ⊢
    have hB0 : Below w.heap.size w ((w.alloc (.cells #[.int .i64 p, .bool true, .slice ka m kc, .slice va m vc, .slice ca 0 cc] 50)).alloc (.cells #[.int .i64 0, .bool false, .slice none 0 0, .slice none 0 0, .slice none 0 0] 50)) := Below.al (Below.al (Below.refl _ _))
    have hX0 : Boxes _ [(w.heap.size + 1, [.int .i64 0, .bool false, .slice none 0 0, .slice none 0 0, .slice none 0 0]), (w.heap.size, [.int .i64 p, .bool true, .slice ka m kc, .slice va m vc, .slice ca 0 cc])] := (((Boxes.nil w).alloc #[.int .i64 p, .bool true, .slice ka m kc, .slice va m vc, .slice ca 0 cc] 50 rfl).alloc #[.int .i64 0, .bool false, .slice none 0 0, .slice none 0 0, .slice none 0 0] 50 (b := w.heap.size + 1) (by simp))
    obtain ⟨wB, hwB⟩ : ∃ wA, (w.alloc (.cells #[.int .i64 p, .bool true, .slice ka m kc, .slice va m vc, .slice ca 0 cc] 50)).alloc (.cells #[.int .i64 0, .bool false, .slice none 0 0, .slice none 0 0, .slice none 0 0] 50) = wA := ⟨_, rfl⟩
    have hzB : w.heap.size + 2 ≤ wB.heap.size := by rw [← hwB]; simp
    rw [hwB] at hB0 hX0
    have CB := bsearch_any (h1.below hB0) (by omega) o2 key
    have hpo := pos_old (key := key) (ks := keysOf l)
    rw [hkl] at hpo
    obtain ⟨hr1, hr2⟩ := putR (p := p) key d h4
    obtain ⟨pos, hpos⟩ : ∃ x, posK key (keysOf l) = x := ⟨_, rfl⟩
    obtain ⟨has, hhas⟩ : ∃ x, hasK key (keysOf l) = x := ⟨_, rfl⟩
    rw [hpos, hhas] at CB hpo hr1 hr2
    obtain ⟨old, hold⟩ : ∃ x, oldN has = x := ⟨_, rfl⟩
    rw [hold] at hpo hr1 hr2
    obtain ⟨LK, hLK⟩ : ∃ L, swapL ((keysOf l).map kCell) pos old [kCell key] = L := ⟨_, rfl⟩
    obtain ⟨LV, hLV⟩ : ∃ L, swapL V pos old [vCell d] = L := ⟨_, rfl⟩
    rw [hLV] at hr1
    have hk1 := h1.lens
    have hv1 := h2.lens
    have HC1 : ∀ (W : World) (x : Nat), Below wB.heap.size wB W → BoxAt W x #[.string (strOf key)] → Calls Tryz.prog 160 #[.slice ka m kc, .int .i64 (pos : Int), .int .i64 (old : Int), .slice (some ⟨x, 0, none⟩) 1 1] W (RowOut 9 1 wB W LK) := fun W x hW hX => by
      have := swap_s (h1.below (below_via hB0 hW)) (raw_box (L := [kCell key]) hX (by simp)) pos old hpo (by simp; omega)
      rw [hLK] at this
      exact this.mono fun e w' h => OwnRaw.row hW h
    have HC2 : ∀ (W : World) (x : Nat), Below wB.heap.size wB W → BoxAt W x #[.string (strOf d), .slice none 0 0] → Calls Tryz.prog 161 #[.slice va m vc, .int .i64 (pos : Int), .int .i64 (old : Int), .slice (some ⟨x, 0, none⟩) 1 1] W (RowOut 101 2 wB W LV) := fun W x hW hX => by
      have := swap_v (h2.below (below_via hB0 hW)) (raw_box (L := [vCell d]) hX (by simp)) pos old hpo (by simp; omega)
      rw [hLV] at this
      exact this.mono fun e w' h => OwnRaw.row hW h
    have hnode : Hid (∀ (W : World) (a1 a2 : Option Addr) (c1 c2 : Nat), Below wB.heap.size wB W → W.ownsRow wB.heap.size 9 1 (.slice a1 LK.length c1) LK.length (flatC LK) → W.ownsRow wB.heap.size 101 2 (.slice a2 LV.length c2) LV.length (flatC LV) →
        NodeOn (fun b => (F b ∧ b < w.heap.size) ∨ w.heap.size + 2 ≤ b) (N + 1) W [.int .i64 0, .bool true, .slice a1 LK.length c1, .slice a2 LV.length c2, .slice none 0 0] (.leaf 0 (putL key ⟨d, []⟩ l))) := Lib.hid (fun W a1 a2 c1 c2 hW g1 g2 => by
      refine NodeOn.shut rfl rfl ?_ (Raw.of_sl g1 rfl) (Raw.of_sl g2 rfl) (Raw.nil0 _ _) (Fa.of_own g1 fun b h => .inr (by omega)) (Fa.of_own g2 fun b h => .inr (by omega)) (Fa.zero _ _) (NodeRF.mono (NodeRF.below hr1 (below_via hB0 hW)) (fun b h => .inl h))
      rw [show (Tr.leaf 0 (putL key ⟨d, []⟩ l)).keys = keysOf (putL key ⟨d, []⟩ l) from rfl, hr2, swap_map, ← hLK]; rfl)
    have HX := Lib.hid hX0
    have HB := Lib.hid hB0
    have HPT : Hid (putT (N + 1) (.leaf p l) key ⟨d, []⟩ = .leaf 0 (putL key ⟨d, []⟩ l)) := Lib.hid rfl
    have hn1 := hX0.cell 1 1 rfl rfl
    have hn2 := hX0.cell 1 2 rfl rfl
    have HAS := Lib.hid (show old = oldN has from hold.symm)
    clear h h1 h2 h3 h4 hlt hX0 hB0 r1 r2 hcA hpA hfA hkA hm hpos hhas hold hLK hLV hr1 hr2 hkl hk1 hv1 f1 f2 f3 o1 o2
    go_enter Tryz.func120, Tryz.ntmps120
    go_wp2_with fail
    refine CB.mono ?_
    rintro e wB ⟨rfl, rfl⟩
    clear CB hn1 hn2 hwB
    have hA0 : AgreeF (fun b => b ≠ w.heap.size + 1) wB wB.drew := AgreeF.dr (AgreeF.refl _)
    have fk2 : ∀ W, AgreeF (fun b => b ≠ w.heap.size + 1) wB W → W.cell? ⟨w.heap.size, 2, none⟩ = some (.slice ka m kc) := fun W hW => (hW.cell (by simp) (HX.out.lt 1 rfl)).trans (HX.out.cell 1 2 rfl rfl)
    have fk3 : ∀ W, AgreeF (fun b => b ≠ w.heap.size + 1) wB W → W.cell? ⟨w.heap.size, 3, none⟩ = some (.slice va m vc) := fun W hW => (hW.cell (by simp) (HX.out.lt 1 rfl)).trans (HX.out.cell 1 3 rfl rfl)
    cases has with
    | false =>
      have ho0 : (old : Int) = 0 := by rw [HAS.out]; rfl
      rw [ho0] at HC1 HC2
      clear ho0
      go_wp2_with fail
      go_upto_region 8 with (fail)
      go_region_held3 (fun W => AgreeF (fun b => b ≠ w.heap.size + 1) wB W) (first | with_reducible assumption | (repeat (with_reducible first | assumption | exact AgreeF.refl _ | apply AgreeF.al | apply AgreeF.dr | apply AgreeF.st))) (first | (go_at_call 160; (with_reducible refine (HC1 _ _ ?_ ?_).mono ?_); (focus (repeat (with_reducible first | assumption | exact Below.refl _ _ | apply Below.al | apply Below.dr))); (focus (repeat (with_reducible first | assumption | exact BoxAt.here3 | exact BoxAt.here2 | exact BoxAt.here | apply BoxAt.dr | apply BoxAt.al))); rintro e w1 hq1; obtain ⟨a1, c1, rfl, i11, i12, ho1, hb1, hB1⟩ := hq1; have hA1 : AgreeF (fun b => b ≠ w.heap.size + 1) wB w1 := .of_below hB1; have U1 := fun b cs h => BoxAt.below (b := b) (cs := cs) h hb1) | (go_at_call 161; (with_reducible refine (HC2 _ _ ?_ ?_).mono ?_); (focus (repeat (with_reducible first | assumption | exact Below.refl _ _ | apply Below.al | apply Below.dr))); (focus (repeat (with_reducible first | assumption | exact BoxAt.here3 | exact BoxAt.here2 | exact BoxAt.here | apply BoxAt.dr | apply BoxAt.al | apply U1))); rintro e w2 hq2; obtain ⟨a2, c2, rfl, i21, i22, ho2, hb2, hB2⟩ := hq2; have hA2 : AgreeF (fun b => b ≠ w.heap.size + 1) wB w2 := .of_below hB2; have U2 := fun b cs h => BoxAt.below (b := b) (cs := cs) h hb2; have hk12 := below_via (a := w1) (by (repeat (with_reducible first | exact Below.refl _ _ | apply Below.al | apply Below.dr))) hb2; have hX3 := HX.out.step hB2; have z0 : w2.cell? ⟨w.heap.size + 1, 0, none⟩ = _ := hX3.cell 0 0 rfl rfl; have u0 : w2.frozen? ⟨w.heap.size + 1, 0, none⟩ = false := hX3.frozen 0 0 rfl; have z1 : w2.cell? ⟨w.heap.size + 1, 1, none⟩ = _ := hX3.cell 0 1 rfl rfl; have u1 : w2.frozen? ⟨w.heap.size + 1, 1, none⟩ = false := hX3.frozen 0 1 rfl; have z2 : w2.cell? ⟨w.heap.size + 1, 2, none⟩ = _ := hX3.cell 0 2 rfl rfl; have u2 : w2.frozen? ⟨w.heap.size + 1, 2, none⟩ = false := hX3.frozen 0 2 rfl; have z3 : w2.cell? ⟨w.heap.size + 1, 3, none⟩ = _ := hX3.cell 0 3 rfl rfl; have u3 : w2.frozen? ⟨w.heap.size + 1, 3, none⟩ = false := hX3.frozen 0 3 rfl; have z4 : w2.cell? ⟨w.heap.size + 1, 4, none⟩ = _ := hX3.cell 0 4 rfl rfl; have u4 : w2.frozen? ⟨w.heap.size + 1, 4, none⟩ = false := hX3.frozen 0 4 rfl))
      all_goals
        have hn3 := hnode.out w2 _ _ _ _ hB2 (own_held ho1 hk12) ho2
        have hend := node_end (F := F) (HB.out.trans (hB2.mono HB.out.size)) (hX3.sub (m := [(w.heap.size + 1, [.int .i64 0, .bool false, .slice none 0 0, .slice none 0 0, .slice none 0 0])]) (by simp)) hn3
        have t0 := hend.1.cell 0 0 rfl rfl
        have t1 := hend.1.cell 0 1 rfl rfl
        have t2 := hend.1.cell 0 2 rfl rfl
        have t3 := hend.1.cell 0 3 rfl rfl
        have t4 := hend.1.cell 0 4 rfl rfl
        have fin := Lib.hid hend.2
        unfold set5 at t0 t1 t2 t3 t4
        clear hend z0 z1 z2 z3 z4 u0 u1 u2 u3 u4 fk2 fk3 HC1 HC2 hn3
        go_wp2_with fail
        refine bodyPost_ret (v := .agg #[.int .i64 0, .bool true, .slice a1 LK.length c1, .slice a2 LV.length c2, .slice none 0 0]) (by simp [results, Tryz.results120, go_sem, t0, t1, t2, t3, t4]) rfl ?_
        rw [HPT.out]
        exact fin.out
    | true =>
      have ho0 : (old : Int) = 1 := by rw [HAS.out]; rfl
      rw [ho0] at HC1 HC2
      clear ho0
      go_wp2_with fail
      go_upto_region 8 with (fail)
      go_region_held3 (fun W => AgreeF (fun b => b ≠ w.heap.size + 1) wB W) (first | with_reducible assumption | (repeat (with_reducible first | assumption | exact AgreeF.refl _ | apply AgreeF.al | apply AgreeF.dr | apply AgreeF.st))) (first | (go_at_call 160; (with_reducible refine (HC1 _ _ ?_ ?_).mono ?_); (focus (repeat (with_reducible first | assumption | exact Below.refl _ _ | apply Below.al | apply Below.dr))); (focus (repeat (with_reducible first | assumption | exact BoxAt.here3 | exact BoxAt.here2 | exact BoxAt.here | apply BoxAt.dr | apply BoxAt.al))); rintro e w1 hq1; obtain ⟨a1, c1, rfl, i11, i12, ho1, hb1, hB1⟩ := hq1; have hA1 : AgreeF (fun b => b ≠ w.heap.size + 1) wB w1 := .of_below hB1; have U1 := fun b cs h => BoxAt.below (b := b) (cs := cs) h hb1) | (go_at_call 161; (with_reducible refine (HC2 _ _ ?_ ?_).mono ?_); (focus (repeat (with_reducible first | assumption | exact Below.refl _ _ | apply Below.al | apply Below.dr))); (focus (repeat (with_reducible first | assumption | exact BoxAt.here3 | exact BoxAt.here2 | exact BoxAt.here | apply BoxAt.dr | apply BoxAt.al | apply U1))); rintro e w2 hq2; obtain ⟨a2, c2, rfl, i21, i22, ho2, hb2, hB2⟩ := hq2; have hA2 : AgreeF (fun b => b ≠ w.heap.size + 1) wB w2 := .of_below hB2; have U2 := fun b cs h => BoxAt.below (b := b) (cs := cs) h hb2; have hk12 := below_via (a := w1) (by (repeat (with_reducible first | exact Below.refl _ _ | apply Below.al | apply Below.dr))) hb2; have hX3 := HX.out.step hB2; have z0 : w2.cell? ⟨w.heap.size + 1, 0, none⟩ = _ := hX3.cell 0 0 rfl rfl; have u0 : w2.frozen? ⟨w.heap.size + 1, 0, none⟩ = false := hX3.frozen 0 0 rfl; have z1 : w2.cell? ⟨w.heap.size + 1, 1, none⟩ = _ := hX3.cell 0 1 rfl rfl; have u1 : w2.frozen? ⟨w.heap.size + 1, 1, none⟩ = false := hX3.frozen 0 1 rfl; have z2 : w2.cell? ⟨w.heap.size + 1, 2, none⟩ = _ := hX3.cell 0 2 rfl rfl; have u2 : w2.frozen? ⟨w.heap.size + 1, 2, none⟩ = false := hX3.frozen 0 2 rfl; have z3 : w2.cell? ⟨w.heap.size + 1, 3, none⟩ = _ := hX3.cell 0 3 rfl rfl; have u3 : w2.frozen? ⟨w.heap.size + 1, 3, none⟩ = false := hX3.frozen 0 3 rfl; have z4 : w2.cell? ⟨w.heap.size + 1, 4, none⟩ = _ := hX3.cell 0 4 rfl rfl; have u4 : w2.frozen? ⟨w.heap.size + 1, 4, none⟩ = false := hX3.frozen 0 4 rfl))
      all_goals
        have hn3 := hnode.out w2 _ _ _ _ hB2 (own_held ho1 hk12) ho2
        have hend := node_end (F := F) (HB.out.trans (hB2.mono HB.out.size)) (hX3.sub (m := [(w.heap.size + 1, [.int .i64 0, .bool false, .slice none 0 0, .slice none 0 0, .slice none 0 0])]) (by simp)) hn3
        have t0 := hend.1.cell 0 0 rfl rfl
        have t1 := hend.1.cell 0 1 rfl rfl
        have t2 := hend.1.cell 0 2 rfl rfl
        have t3 := hend.1.cell 0 3 rfl rfl
        have t4 := hend.1.cell 0 4 rfl rfl
        have fin := Lib.hid hend.2
        unfold set5 at t0 t1 t2 t3 t4
        clear hend z0 z1 z2 z3 z4 u0 u1 u2 u3 u4 fk2 fk3 HC1 HC2 hn3
        go_wp2_with fail
        refine bodyPost_ret (v := .agg #[.int .i64 0, .bool true, .slice a1 LK.length c1, .slice a2 LV.length c2, .slice none 0 0]) (by simp [results, Tryz.results120, go_sem, t0, t1, t2, t3, t4]) rfl ?_
        rw [HPT.out]
        exact fin.out
end Go.Proofs.YtpghlmcoajaiiaaGreatDoor

/- The walks of trees: Put, Empty. -/
namespace Go.Proofs.YtpghlmcoajaiiaaGreatDoor
open Go.RowKit

set_option maxRecDepth 100000 in
set_option maxHeartbeats 1000000 in
theorem tPut_any {N : Nat} {F : Nat → Prop} {w : World} {cs : List Value} {t : Tr} (key d : List UInt8) (h : NodeOn F N w cs t) (ho : PutOk N t key ⟨d, []⟩) (ht : TopOk N (putT N t key ⟨d, []⟩)) :
    Calls Tryz.prog 75 #[.agg cs.toArray, .string (strOf key), .string (strOf d)] w (NodeTo F (N + 1) w (putW N t key ⟨d, []⟩)) := by
  have hlt := h.lt
  obtain ⟨ka, kc, va, vn, vc, ca, cn, cc, V, C, rfl, _⟩ := NodeOn.open_pos h
  obtain ⟨lf, hlf⟩ : ∃ x, t.isLeaf = x := ⟨_, rfl⟩
  obtain ⟨p, hp⟩ : ∃ x, t.page = x := ⟨_, rfl⟩
  obtain ⟨m, hm⟩ : ∃ x, cntT t = x := ⟨_, rfl⟩
  rw [hlf, hp, hm] at hlt ⊢
  have hB0 : Below w.heap.size w ((w.alloc (.cells #[.int .i64 p, .bool lf, .slice ka m kc, .slice va vn vc, .slice ca cn cc] 50)).alloc (.cells #[.int .i64 0, .bool false, .slice none 0 0, .slice none 0 0, .slice none 0 0] 50)) := Below.al (Below.al (Below.refl _ _))
  have hX0 : Boxes _ [(w.heap.size + 1, [.int .i64 0, .bool false, .slice none 0 0, .slice none 0 0, .slice none 0 0]), (w.heap.size, [.int .i64 p, .bool lf, .slice ka m kc, .slice va vn vc, .slice ca cn cc])] := (((Boxes.nil w).alloc #[.int .i64 p, .bool lf, .slice ka m kc, .slice va vn vc, .slice ca cn cc] 50 rfl).alloc #[.int .i64 0, .bool false, .slice none 0 0, .slice none 0 0, .slice none 0 0] 50 (b := w.heap.size + 1) (by simp))
  obtain ⟨wA, hwA⟩ : ∃ wA, (w.alloc (.cells #[.int .i64 p, .bool lf, .slice ka m kc, .slice va vn vc, .slice ca cn cc] 50)).alloc (.cells #[.int .i64 0, .bool false, .slice none 0 0, .slice none 0 0, .slice none 0 0] 50) = wA := ⟨_, rfl⟩
  have hzA : w.heap.size + 2 ≤ wA.heap.size := by rw [← hwA]; simp
  rw [hwA] at hB0 hX0
  have C1 : Calls Tryz.prog 120 #[.agg #[.int .i64 p, .bool lf, .slice ka m kc, .slice va vn vc, .slice ca cn cc], .string (strOf key), .string (strOf d)] wA (NodeGo (fun b => (F b ∧ b < w.heap.size) ∨ w.heap.size + 2 ≤ b) N wA (putT N t key ⟨d, []⟩)) :=
    (tput_any key d (hlt.below hB0) ho).mono fun e w' h => h.go fun b h => by rcases h with h | h; exact .inl h; exact .inr (by omega)
  obtain ⟨T, hT⟩ : ∃ x, putT N t key ⟨d, []⟩ = x := ⟨_, rfl⟩
  have HT : Hid (putW N t key ⟨d, []⟩ = topT N T) := Lib.hid (by rw [← hT]; rfl)
  rw [hT] at C1 ht
  have HX := Lib.hid hX0
  have HB := Lib.hid hB0
  have HTO := Lib.hid ht
  have n0 := hX0.cell 1 0 rfl rfl
  have n1 := hX0.cell 1 1 rfl rfl
  have n2 := hX0.cell 1 2 rfl rfl
  have n3 := hX0.cell 1 3 rfl rfl
  have n4 := hX0.cell 1 4 rfl rfl
  clear h hlt ho ht hX0 hB0 hlf hp hm hT
  go_enter Tryz.func75, Tryz.ntmps75
  go_wp2_with fail
  refine C1.mono ?_
  rintro e w1 ⟨p1, l1, a1, m1, c1, b1, m2, c2, b2, m3, c3, rfl, hn1, hb1⟩
  have hX1 := HX.out.step hb1
  have hB1 := HB.out.trans (hb1.mono HB.out.size)
  have hz1 : w.heap.size + 2 ≤ w1.heap.size := Nat.le_trans hzA hb1.size
  have C2 : Calls Tryz.prog 119 #[.agg #[.int .i64 p1, .bool l1, .slice a1 m1 c1, .slice b1 m2 c2, .slice b2 m3 c3]] w1 (NodeGo (fun b => (F b ∧ b < w.heap.size) ∨ w.heap.size + 2 ≤ b) (N + 1) w1 (topT N T)) :=
    (ttop_any hn1 HTO.out).mono fun e w' h => h.go fun b h => by rcases h with h | h; exact h; exact .inr (by omega)
  have HX1 := Lib.hid hX1
  have HB1 := Lib.hid hB1
  clear C1 hn1 hb1 hX1 hB1 n0 n1 n2 n3 n4 hwA
  go_wp2_with fail
  refine C2.mono ?_
  rintro e w2 ⟨p3, l3, d1, k1, e1, d2, k2, e2, d3, k3, e3, rfl, hn3, hb3⟩
  have hX3 := HX1.out.step hb3
  have hend := node_end (F := F) (HB1.out.trans (hb3.mono HB1.out.size)) (hX3.sub (m := [(w.heap.size + 1, [.int .i64 0, .bool false, .slice none 0 0, .slice none 0 0, .slice none 0 0])]) (by simp)) hn3
  have t0 := hend.1.cell 0 0 rfl rfl
  have t1 := hend.1.cell 0 1 rfl rfl
  have t2 := hend.1.cell 0 2 rfl rfl
  have t3 := hend.1.cell 0 3 rfl rfl
  have t4 := hend.1.cell 0 4 rfl rfl
  have fin := Lib.hid hend.2
  unfold set5 at t0 t1 t2 t3 t4
  have z0 := hX3.cell 0 0 rfl rfl
  have z1 := hX3.cell 0 1 rfl rfl
  have z2 := hX3.cell 0 2 rfl rfl
  have z3 := hX3.cell 0 3 rfl rfl
  have z4 := hX3.cell 0 4 rfl rfl
  have u0 := hX3.frozen 0 0 rfl
  have u1 := hX3.frozen 0 1 rfl
  have u2 := hX3.frozen 0 2 rfl
  have u3 := hX3.frozen 0 3 rfl
  have u4 := hX3.frozen 0 4 rfl
  clear hend C2 hn3 hb3 hX3
  go_wp2_with fail
  refine bodyPost_ret (v := .agg #[.int .i64 p3, .bool l3, .slice d1 k1 e1, .slice d2 k2 e2, .slice d3 k3 e3]) (by simp [results, Tryz.results75, go_sem, t0, t1, t2, t3, t4]) rfl ?_
  rw [HT.out]
  exact fin.out
theorem tempty_any (w : World) (F : Nat → Prop) : Calls Tryz.prog 50 #[] w (NodeTo F 1 w (.leaf 0 [])) := by
  go_enter Tryz.func50, Tryz.ntmps50
  go_wp2_with fail
  refine bodyPost_ret (v := .agg #[.int .i64 0, .bool true, .slice none 0 0, .slice none 0 0, .slice none 0 0]) (by simp [results, Tryz.results50, go_sem]) rfl ⟨[.int .i64 0, .bool true, .slice none 0 0, .slice none 0 0, .slice none 0 0], rfl, ?_, ?_⟩
  · exact NodeOn.shut (V := []) (C := []) rfl rfl (K := []) rfl (Raw.nil0 _ _) (Raw.nil0 _ _) (Raw.nil0 _ _) (Fa.zero _ _) (Fa.zero _ _) (Fa.zero _ _) ⟨Tells.nil, Tells.nil, rfl⟩
  · exact Below.al (Below.refl _ _)
end Go.Proofs.YtpghlmcoajaiiaaGreatDoor

/- The walks of trees: a key found. -/
namespace Go.Proofs.YtpghlmcoajaiiaaGreatDoor
open Go.RowKit

/-- What finding asks of a tree. -/
def FindOk : Nat → Tr → List UInt8 → Prop
  | 0, _, _ => False
  | _ + 1, .leaf _ l, _ => l.length ≤ 1000 ∧ (keysOf l).Pairwise (fun a b => a < b)
  | n + 1, .node _ l, key => 0 < l.length ∧ l.length ≤ 1000 ∧ FindOk n (kidAt l (wayF (keysOf l) key)) key
end Go.Proofs.YtpghlmcoajaiiaaGreatDoor

/- What the walks ask of trees that may be. -/
namespace Go.Proofs.YtpghlmcoajaiiaaGreatDoor
open Go.RowKit

theorem shape_cnt {n : Nat} {lo hi : List UInt8} {t : Tr} (h : Shape n lo hi t) (hs : sumT t ≤ 200) : cntT t ≤ 50 := by
  have h1 := len_sum (fun x hx => (shape_cells h x hx).1)
  have e : (sizesT t).length = cntT t := sizes_len t
  have : sumI (sizesT t) = sumT t := rfl
  omega
theorem kid_keys {P : List UInt8 → List UInt8 → Tr → Prop} {lo hi : List UInt8} {l : List (List UInt8 × Tr)} (h : KidsP P lo hi l) (h0 : keyAt l 0 = []) : ∀ c ∈ l, c.1.length ≤ 16 := by
  cases l with
  | nil => intro c hc; cases hc
  | cons c r =>
    intro d hd
    rcases List.mem_cons.1 hd with rfl | hd
    · have : d.1 = [] := by simpa [keyAt] using h0
      rw [this]; simp
    · exact (kids_keys h d hd).2
theorem shape_bnd : ∀ {n : Nat} {lo hi : List UInt8} {t : Tr}, Shape n lo hi t → sumT t ≤ 200 → Bnd n t
  | 0, _, _, _, h, _ => h.elim
  | n + 1, lo, hi, .leaf p l, h, hs => by
    have hc := shape_cnt h hs
    obtain ⟨rfl, hl⟩ := h
    have : l.length ≤ 50 := hc
    refine ⟨by omega, fun c hm => ?_⟩
    obtain ⟨h1, _, _, h2⟩ := hl.2 c hm
    have := h1.2
    have := h2.1
    omega
  | n + 1, lo, hi, .node p l, h, hs => by
    have hc := shape_cnt h hs
    obtain ⟨h1, h0⟩ := shape_kids h
    have : l.length ≤ 50 := hc
    refine ⟨by omega, fun c hm => ⟨by have := kid_keys h1 h0 c hm; omega, ?_⟩⟩
    obtain ⟨lo', hi', g⟩ := kids_each h1 c hm
    exact shape_bnd g.1 (by have := g.2.2; omega)
theorem bnd_join {n : Nat} {key : List UInt8} {x y : Tr} (hx : Bnd (n + 1) x) (hy : Bnd (n + 1) y) (h1 : cntT x ≤ 400) (h2 : cntT y ≤ 400) (hk : key.length ≤ 200) : Bnd (n + 1) (joinT key x y) := by
  cases x with
  | leaf p l =>
    cases y with
    | leaf q m =>
      have h1 : l.length ≤ 400 := h1
      have h2 : m.length ≤ 400 := h2
      refine ⟨by simp; omega, fun c hc => ?_⟩
      rcases List.mem_append.1 hc with hc | hc
      · exact hx.2 c hc
      · exact hy.2 c hc
    | node q m => exact hx
  | node p l =>
    cases y with
    | leaf q m => exact hx
    | node q m =>
      have h1 : l.length ≤ 400 := h1
      have h2 : m.length ≤ 400 := h2
      have e : (firstK key m).length = m.length := by cases m <;> rfl
      refine ⟨by rw [List.length_append]; omega, fun c hc => ?_⟩
      rcases List.mem_append.1 hc with hc | hc
      · exact hx.2 c hc
      · cases m with
        | nil => cases hc
        | cons d r =>
          rcases List.mem_cons.1 hc with rfl | hc
          · exact ⟨hk, (hy.2 d (by simp)).2⟩
          · exact hy.2 c (List.mem_cons_of_mem _ hc)
theorem mendOk_of {m : Nat} {l : List (List UInt8 × Tr)} (hlen : l.length ≤ 1000) (h : ∀ c ∈ l, c.1.length ≤ 200 ∧ ∃ lo hi, Shape (m + 1) lo hi c.2 ∧ sumT c.2 ≤ 200) : MendOk m l where
  len := hlen
  bnd := fun c hc => by obtain ⟨_, lo, hi, h1, h2⟩ := h c hc; exact shape_bnd h1 h2
  kind := fun c hc d hd => by
    obtain ⟨_, lo, hi, h1, _⟩ := h c hc
    obtain ⟨_, lo', hi', h2, _⟩ := h d hd
    rw [shape_kind h1, shape_kind h2]
  some_ := fun c hc hl => by
    obtain ⟨_, lo, hi, h1, _⟩ := h c hc
    cases hcc : c.2 with
    | leaf p l => rw [hcc] at hl; cases hl
    | node p l => rw [hcc] at h1; exact List.length_pos_iff.2 (kids_ne (shape_kids h1).1)
  both := fun j hj => by
    obtain ⟨c, hc, ec⟩ := kid_mem (l := l) (k := j) (by omega)
    obtain ⟨d, hd, ed⟩ := kid_mem (l := l) (k := j + 1) hj
    obtain ⟨_, lo, hi, h1, s1⟩ := h c hc
    obtain ⟨_, lo', hi', h2, s2⟩ := h d hd
    have hk : (keyAt l (j + 1)).length ≤ 200 := by
      have := (h l[j + 1] (List.getElem_mem hj)).1
      simpa [keyAt, hj] using this
    rw [← ec, ← ed]
    exact bnd_join (shape_bnd h1 s1) (shape_bnd h2 s2) (by have := shape_cnt h1 s1; omega) (by have := shape_cnt h2 s2; omega) hk
theorem node_kids {n : Nat} {lo hi : List UInt8} {p : Int} {l : List (List UInt8 × Tr)} (h : Shape (n + 1) lo hi (.node p l)) : ∀ c ∈ l, c.1.length ≤ 200 ∧ ∃ lo hi, Shape n lo hi c.2 ∧ sumT c.2 ≤ 200 := by
  obtain ⟨h1, h0⟩ := shape_kids h
  intro c hc
  obtain ⟨lo', hi', g⟩ := kids_each h1 c hc
  exact ⟨by have := kid_keys h1 h0 c hc; omega, lo', hi', g.1, by have := g.2.2; omega⟩
theorem set_kids {n : Nat} {l : List (List UInt8 × Tr)} (h : ∀ c ∈ l, c.1.length ≤ 200 ∧ ∃ lo hi, Shape n lo hi c.2 ∧ sumT c.2 ≤ 200) {k : Nat} {key : List UInt8} {T : Tr} (hk : key.length ≤ 200) {lo hi : List UInt8} (hT : Shape n lo hi T) (hs : sumT T ≤ 200) :
    ∀ c ∈ l.set k (key, T), c.1.length ≤ 200 ∧ ∃ lo hi, Shape n lo hi c.2 ∧ sumT c.2 ≤ 200 := by
  intro c hc
  rcases List.mem_or_eq_of_mem_set hc with hc | rfl
  · exact h c hc
  · exact ⟨hk, lo, hi, hT, hs⟩
theorem key_len {n : Nat} {l : List (List UInt8 × Tr)} (h : ∀ c ∈ l, c.1.length ≤ 200 ∧ ∃ lo hi, Shape n lo hi c.2 ∧ sumT c.2 ≤ 200) (k : Nat) : (keyAt l k).length ≤ 200 := by
  unfold keyAt
  cases e : l[k]? with
  | none => simp
  | some c => exact (h c (List.mem_of_getElem? e)).1
theorem putOk_of : ∀ {n : Nat} {lo hi key : List UInt8} {v : Tv} {t : Tr}, Shape n lo hi t → sumT t ≤ 122 → (∀ p l, t = .node p l → 2 ≤ l.length) → keyOk key → ¬ key < lo → ltH hi key → valOk v → PutOk n t key v
  | 0, _, _, _, _, _, h, _, _, _, _, _, _ => h.elim
  | n + 1, lo, hi, key, v, .leaf p l, h, hs, _, hk, hlo, hhi, hv => by
    have hc : l.length ≤ 50 := shape_cnt h (by omega)
    obtain ⟨rfl, hl⟩ := h
    exact ⟨by omega, hl.1⟩
  | n + 1, lo, hi, key, v, .node p l, h, hs, h2, hk, hlo, hhi, hv => by
    have hc : l.length ≤ 50 := shape_cnt h (by omega)
    have hall := node_kids h
    obtain ⟨h1, h0⟩ := shape_kids h
    have hl2 := h2 p l rfl
    obtain ⟨a, c, b, lo', hi', e, hal, hcx, hp, g1, g2⟩ := way_focus h1 hlo hhi
    have hkid : kidAt l (wayF (keysOf l) key) = c.2 := by
      rw [← hal]
      conv => lhs; rw [e]
      exact kidAt_at a b c
    have i0 := putOk_of hp.1 hp.2.2 (fun q m e => good_len (p := q) (by rw [← e]; exact hp)) hk g1 g2 hv
    obtain ⟨i1, i2, _⟩ := put_ok hp.1 hp.2.2 (fun q m e => good_len (p := q) (by rw [← e]; exact hp)) hk g1 g2 hv
    cases n with
    | zero => exact hp.1.elim
    | succ m =>
      refine ⟨by omega, by omega, by rw [hkid]; exact i0, m, rfl, ?_⟩
      rw [hkid]
      exact mendOk_of (by simp; omega) (set_kids hall (key_len hall _) i1 (by omega))
theorem topOk_of : ∀ {n : Nat} {t : Tr}, Shape n [] [] t → sumT t ≤ 200 → TopOk n t
  | 0, _, h, _ => h.elim
  | n + 1, t, h, hs => by
    refine ⟨shape_bnd h hs, fun hl => ?_, fun p l e h1 => ?_⟩
    · cases t with
      | leaf p l => cases hl
      | node p l => exact List.length_pos_iff.2 (kids_ne (shape_kids h).1)
    · subst e
      obtain ⟨hk, h0⟩ := shape_kids h
      obtain ⟨c, rfl⟩ := List.length_eq_one_iff.1 h1
      have hg : Good n [] [] c.2 := hk
      have := topOk_of hg.1 (by have := hg.2.2; omega)
      simpa [kidAt] using this
theorem findOk_of : ∀ {n : Nat} {lo hi key : List UInt8} {t : Tr}, Shape n lo hi t → sumT t ≤ 200 → FindOk n t key
  | 0, _, _, _, _, h, _ => h.elim
  | n + 1, lo, hi, key, .leaf p l, h, hs => by
    have hc : l.length ≤ 50 := shape_cnt h hs
    obtain ⟨rfl, hl⟩ := h
    exact ⟨by omega, hl.1⟩
  | n + 1, lo, hi, key, .node p l, h, hs => by
    have hc : l.length ≤ 50 := shape_cnt h hs
    have hall := node_kids h
    have hpos := List.length_pos_iff.2 (kids_ne (shape_kids h).1)
    obtain ⟨c, hm, e⟩ := kid_mem (l := l) (k := wayF (keysOf l) key) (by have := wayF_lt (ks := keysOf l) key (by simpa [keysOf] using hpos); simpa [keysOf] using this)
    obtain ⟨_, lo', hi', g1, g2⟩ := hall c hm
    exact ⟨hpos, by omega, by rw [← e]; exact findOk_of g1 g2⟩
/-! whole trees -/
theorem Whole.bnd {n : Nat} {t : Tr} (h : Whole n t) : Bnd n t := shape_bnd h.1.1 (by have := h.1.2.1; omega)
theorem Whole.find {n : Nat} {t : Tr} (h : Whole n t) (key : List UInt8) : FindOk n t key := findOk_of h.1.1 (by have := h.1.2.1; omega)
theorem Whole.put {n : Nat} {t : Tr} {key : List UInt8} {v : Tv} (h : Whole n t) (hk : keyOk key) (hv : valOk v) : PutOk n t key v ∧ TopOk n (putT n t key v) := by
  obtain ⟨i1, i2, _⟩ := put_ok h.1.1 h.1.2.1 h.1.2.2 hk (knil key) (ltH_nil _) hv
  exact ⟨putOk_of h.1.1 h.1.2.1 h.1.2.2 hk (knil key) (ltH_nil _) hv, topOk_of i1 (by omega)⟩
/-- A tree as deep as it is. -/
theorem NodeOn.less {F : Nat → Prop} : ∀ {m n : Nat} {lo hi : List UInt8} {w : World} {cs : List Value} {t : Tr}, NodeOn F n w cs t → Shape m lo hi t → NodeOn F m w cs t
  | 0, _, _, _, _, _, _, _, h => h.elim
  | _, 0, _, _, _, _, _, h, _ => h.elim
  | m + 1, n + 1, lo, hi, w, cs, .leaf p l, h, _ => h
  | m + 1, n + 1, lo, hi, w, cs, .node p l, h, hs => by
    obtain ⟨ka, kn, kc, va, vc, ca, cn, cc, e, h1, f1, h2, h3, f3⟩ := h
    refine ⟨ka, kn, kc, va, vc, ca, cn, cc, e, h1, f1, h2, ?_, f3⟩
    have hall := node_kids hs
    exact TabR.agree h3 (Fa.mono f3 (fun _ h => h)) (AgreeF.refl w) (fun cs y hy h => by
      obtain ⟨c, hc, rfl⟩ := List.mem_map.1 hy
      obtain ⟨_, lo', hi', g, _⟩ := hall c hc
      exact NodeOn.less h g)
/-- A tree that a put leaves. -/
def PutTo (F : Nat → Prop) (n : Nat) (w : World) (t : Tr) (key : List UInt8) (v : Tv) (e : Ending) (w' : World) : Prop :=
  ∃ m cs, m ≤ n + 1 ∧ e = .returned (.agg cs.toArray) ∧ NodeOn (Fr F w) m w' cs (putW n t key v) ∧ Whole m (putW n t key v) ∧ entsT m (putW n t key v) = putL key v (entsT n t) ∧ Below w.heap.size w w'
theorem tPut_whole {n : Nat} {F : Nat → Prop} {w : World} {cs : List Value} {t : Tr} (h : NodeOn F n w cs t) (hw : Whole n t) (key d : List UInt8) (hk : keyOk key) (hd : d.length ≤ 400) :
    Calls Tryz.prog 75 #[.agg cs.toArray, .string (strOf key), .string (strOf d)] w (PutTo F n w t key ⟨d, []⟩) := by
  have hv : valOk ⟨d, []⟩ := ⟨hd, fun h => absurd rfl h⟩
  obtain ⟨h1, h2⟩ := hw.put hk hv
  refine (tPut_any key d h h1 h2).mono ?_
  rintro e w' ⟨cs', rfl, h3, h4⟩
  obtain ⟨m, e1, e2, e3⟩ := whole_put hw hk hv
  exact ⟨m, cs', e1, rfl, h3.less e2.1.1, e2, e3, h4⟩
end Go.Proofs.YtpghlmcoajaiiaaGreatDoor

/- The empty tree stands on no block. -/
namespace Go.Proofs.YtpghlmcoajaiiaaGreatDoor
open Go.RowKit

theorem empty_on2 {F G : Nat → Prop} {w : World} {cs : List Value} (h : NodeOn G 1 w cs (.leaf 0 [])) : ∃ a1 c1 a2 c2 a3 c3, cs = [.int .i64 0, .bool true, .slice a1 0 c1, .slice a2 0 c2, .slice a3 0 c3] ∧ NodeOn F 1 w cs (.leaf 0 []) := by
  obtain ⟨ka, kn, kc, va, vn, vc, ca, cc, e, h1, _, h2, _, h3⟩ := h
  obtain rfl : kn = 0 := h1.1.symm
  obtain rfl : vn = 0 := h2.1.symm
  exact ⟨ka, kc, va, vc, ca, cc, e, ka, 0, kc, va, 0, vc, ca, cc, e, h1, Fa.zero _ _, unit_any (α := Tv) h2, Fa.zero _ _, h3⟩
end Go.Proofs.YtpghlmcoajaiiaaGreatDoor

/- Views: what stands nowhere; which text may be a key. -/
namespace Go.Proofs.YtpghlmcoajaiiaaGreatDoor
open Go.RowKit

def keyB1 (l : List UInt8) : Bool := decide (l ≠ []) && decide (l.length ≤ 16)
set_option maxRecDepth 100000 in
theorem nowhere_any (w : World) : Calls Tryz.prog 76 #[] w (RetStr w [0, 0]) := by
  have C := num_any 0 2 w (by omega)
  have hn : numF 0 2 = [0, 0] := by decide
  rw [hn] at C
  go_enter Tryz.func76, Tryz.ntmps76
  go_wp2_with fail
  refine C.mono ?_
  rintro e w' ⟨v, rfl, ho, hb⟩
  obtain ⟨a, c, rfl, hr, _⟩ := own_bs ho hb.size
  have hcv := conv_string (P := Tryz.prog) Tryz.underlying42 Tryz.underlying5 Tryz.underlying9 hr
  rw [show ([0, 0] : List UInt8).length = 2 from rfl] at hcv
  clear ho hr C
  go_wp2_with fail
  go_ret
  exact ⟨rfl, hb⟩
set_option maxRecDepth 100000 in
theorem vkey_any (l : List UInt8) (w : World) : Calls Tryz.prog 72 #[.string (strOf l)] w fun e w' => e = .returned (.bool (keyB1 l)) ∧ w = w' := by
  have hs := strOf_size l
  by_cases h0 : l = []
  · obtain ⟨e1, e2⟩ := str_empty h0
    have HK : Hid (keyB1 l = false) := Lib.hid (by unfold keyB1; simp [h0])
    clear h0
    go_enter Tryz.func72, Tryz.ntmps72
    go_wp2_with fail
    go_ret
    exact ⟨by rw [HK.out]; rfl, rfl⟩
  · obtain ⟨e1, e2⟩ := str_some h0
    obtain ⟨n, hn⟩ : ∃ n, l.length = n := ⟨_, rfl⟩
    have HK : Hid (keyB1 l = decide ((n : Int) ≤ 16)) := Lib.hid (by
      unfold keyB1
      rw [hn, decide_eq_true h0, Bool.true_and]
      by_cases h : n ≤ 16
      · rw [decide_eq_true h, decide_eq_true (by omega)]
      · rw [decide_eq_false h, decide_eq_false (by omega)])
    rw [hn] at hs
    clear h0 hn
    go_enter Tryz.func72, Tryz.ntmps72
    go_wp2_with fail
    go_ret
    exact ⟨by rw [HK.out]; rfl, rfl⟩
set_option maxRecDepth 100000 in
set_option maxHeartbeats 1000000 in
set_option maxRecDepth 100000 in
theorem vempty_any (w : World) (F : Nat → Prop) : Calls Tryz.prog 30 #[] w fun e w' => ∃ a1 c1 a2 c2 a3 c3, e = .returned (.agg #[.int .i64 0, .bool true, .slice a1 0 c1, .slice a2 0 c2, .slice a3 0 c3, .slice none 0 0]) ∧ NodeOn F 1 w' [.int .i64 0, .bool true, .slice a1 0 c1, .slice a2 0 c2, .slice a3 0 c3] (.leaf 0 []) ∧ Below w.heap.size w w' := by
  obtain ⟨W1, hW1⟩ : ∃ x, w.alloc (.cells #[.int .i64 0, .bool false, .slice none 0 0, .slice none 0 0, .slice none 0 0, .slice none 0 0] 75) = x := ⟨_, rfl⟩
  have hx1 : Boxes W1 [(w.heap.size, [.int .i64 0, .bool false, .slice none 0 0, .slice none 0 0, .slice none 0 0, .slice none 0 0])] := by
    rw [← hW1]
    exact (Boxes.nil w).alloc #[.int .i64 0, .bool false, .slice none 0 0, .slice none 0 0, .slice none 0 0, .slice none 0 0] 75 (b := w.heap.size) rfl
  have hb1 : Below w.heap.size w W1 := by rw [← hW1]; exact Below.al (Below.refl _ _)
  have C := tempty_any W1 (fun _ => False)
  go_enter Tryz.func30, Tryz.ntmps30
  go_wp2_with fail
  refine C.mono ?_
  rintro e w2 ⟨cs, rfl, hn, hb2⟩
  obtain ⟨x1, k1, x2, k2, x3, k3, ecs, hn⟩ := empty_on2 (F := fun _ => False) hn
  subst ecs
  have hx2 := hx1.step hb2
  have g0 := hx2.cell 0 0 rfl rfl
  have y0 := hx2.frozen 0 0 rfl
  have g1 := hx2.cell 0 1 rfl rfl
  have y1 := hx2.frozen 0 1 rfl
  have g2 := hx2.cell 0 2 rfl rfl
  have y2 := hx2.frozen 0 2 rfl
  have g3 := hx2.cell 0 3 rfl rfl
  have y3 := hx2.frozen 0 3 rfl
  have g4 := hx2.cell 0 4 rfl rfl
  have y4 := hx2.frozen 0 4 rfl
  have g5 := hx2.cell 0 5 rfl rfl
  have y5 := hx2.frozen 0 5 rfl
  have HB := Lib.hid (below_via hb1 hb2)
  have HN := Lib.hid hn
  clear hx1 hx2 hb1 hb2 hn C hW1
  go_wp2_with fail
  refine bodyPost_ret (v := .agg #[.int .i64 0, .bool true, .slice x1 0 k1, .slice x2 0 k2, .slice x3 0 k3, .slice none 0 0]) (by simp [results, Tryz.results30, go_sem, g0, g1, g2, g3, g4, g5]) rfl ⟨x1, k1, x2, k2, x3, k3, rfl, ?_, ?_⟩
  · have := HN.out.agree (w' := (((((w2.setCell ⟨w.heap.size, 0, none⟩ (.int .i64 0)).setCell ⟨w.heap.size, 1, none⟩ (.bool true)).setCell ⟨w.heap.size, 2, none⟩ (.slice x1 0 k1)).setCell ⟨w.heap.size, 3, none⟩ (.slice x2 0 k2)).setCell ⟨w.heap.size, 4, none⟩ (.slice x3 0 k3)).setCell ⟨w.heap.size, 5, none⟩ (.slice none 0 0)) ((((((AgreeF.refl w2).set (.inl (fun h => h))).set (.inl (fun h => h))).set (.inl (fun h => h))).set (.inl (fun h => h))).set (.inl (fun h => h)) |>.set (.inl (fun h => h)))
    exact this.mono (fun b h => h.elim)
  · exact ((((((HB.out.setCell (Nat.le_refl _) _).setCell (Nat.le_refl _) _).setCell (Nat.le_refl _) _).setCell (Nat.le_refl _) _).setCell (Nat.le_refl _) _).setCell (Nat.le_refl _) _)
end Go.Proofs.YtpghlmcoajaiiaaGreatDoor

/- Views: where a bucket stands (comparing names). -/
namespace Go.Proofs.YtpghlmcoajaiiaaGreatDoor
open Go.RowKit

/-- What comparing two names tells. -/
def cmpN (a b : List UInt8) : Int := Lib.compareBytes a b
theorem cmpN_eq : ∀ (a b : List UInt8), cmpN a b = if a < b then -1 else if a = b then 0 else 1
  | [], [] => by simp [cmpN, Lib.compareBytes]
  | [], y :: s => by simp [cmpN, Lib.compareBytes]
  | x :: r, [] => by simp [cmpN, Lib.compareBytes]
  | x :: r, y :: s => by
    have ih := cmpN_eq r s
    unfold cmpN at ih ⊢
    show (if x < y then (-1 : Int) else if y < x then 1 else Lib.compareBytes r s) = _
    by_cases h1 : x < y
    · rw [if_pos h1, if_pos (List.cons_lt_cons_iff.2 (.inl h1))]
    · rw [if_neg h1]
      by_cases h2 : y < x
      · have hne : x ≠ y := fun e => by subst e; exact h1 h2
        rw [if_pos h2, if_neg (fun h => ?_), if_neg (fun h => hne (List.cons.inj h).1)]
        rcases List.cons_lt_cons_iff.1 h with h | ⟨h, _⟩
        · exact h1 h
        · exact hne h
      · have e : x = y := by
          have a1 : ¬ x.toNat < y.toNat := h1
          have a2 : ¬ y.toNat < x.toNat := h2
          exact UInt8.toNat_inj.1 (by omega)
        subst e
        rw [if_neg h2, ih]
        by_cases h3 : r < s
        · rw [if_pos h3, if_pos (List.cons_lt_cons_iff.2 (.inr ⟨rfl, h3⟩))]
        · rw [if_neg h3]
          have h5 : ¬ (x :: r < x :: s) := fun h => by
            rcases List.cons_lt_cons_iff.1 h with h | ⟨_, h⟩
            · exact h1 h
            · exact h3 h
          rw [if_neg h5]
          by_cases h4 : r = s
          · rw [if_pos h4, if_pos (by rw [h4])]
          · rw [if_neg h4, if_neg (fun h => h4 (List.cons.inj h).2)]
theorem cmpN_neg (a b : List UInt8) : decide (cmpN a b < 0) = decide (a < b) := by
  rw [cmpN_eq]
  by_cases h : a < b
  · rw [if_pos h, decide_eq_true h]; rfl
  · rw [if_neg h, decide_eq_false h]; split <;> rfl
theorem cmpN_zero (a b : List UInt8) : (cmpN a b == 0) = decide (a = b) := by
  rw [cmpN_eq]
  by_cases h : a < b
  · rw [if_pos h]
    have : a ≠ b := fun e => by subst e; exact klt_irrefl _ h
    rw [decide_eq_false this]; rfl
  · rw [if_neg h]
    by_cases e : a = b
    · rw [if_pos e, decide_eq_true e]; rfl
    · rw [if_neg e, decide_eq_false e]; rfl
set_option maxRecDepth 100000 in
theorem cmpstr_any (a b : List UInt8) (w : World) : Calls Tryz.prog 153 #[.string (strOf a), .string (strOf b)] w fun e w' => e = .returned (.int .i64 (cmpN a b)) ∧ w = w' := by
  obtain ⟨z, hz⟩ : ∃ z, cmpN a b = z := ⟨_, rfl⟩
  have hc := Lib.run_compareString (P := Tryz.prog) (strOf a) (strOf b) w
  rw [show Lib.compareBytes (strOf a).data.toList (strOf b).data.toList = z from hz] at hc
  rw [hz]
  go_enter Tryz.func153, Tryz.ntmps153
  go_wp2_with fail
  rw [run_callFunc_extern Tryz.func187 (by kernel_rfl) (by kernel_rfl) (by kernel_rfl) (e := Extern.BytealgCompare.compare) (by kernel_rfl), hc]
  simp only [Result.andThen]
  rw [Oper.upon_value]
  go_wp2
  go_ret
  exact ⟨rfl, rfl⟩
set_option maxRecDepth 100000 in
theorem compare_any (a b : List UInt8) (w : World) : Calls Tryz.prog 116 #[.string (strOf a), .string (strOf b)] w fun e w' => e = .returned (.int .i64 (cmpN a b)) ∧ w = w' := by
  have C := cmpstr_any a b w
  go_enter Tryz.func116, Tryz.ntmps116
  go_wp2_with fail
  refine C.mono ?_
  rintro e w' ⟨rfl, rfl⟩
  go_wp2_with fail
  go_ret
  exact ⟨rfl, rfl⟩
set_option maxRecDepth 100000 in
theorem find1_any (name key : List UInt8) (x1 x2 x3 x4 x5 : Value) (w : World) : Calls Tryz.prog 115 #[.agg #[.string (strOf name), x1, x2, x3, x4, x5], .string (strOf key)] w fun e w' => e = .returned (.int .i64 (cmpN name key)) ∧ Below w.heap.size w w' := by
  obtain ⟨W1, hW1⟩ : ∃ x, w.alloc (.cells #[.string (strOf name), x1, x2, x3, x4, x5] 173) = x := ⟨_, rfl⟩
  have hx1 : Boxes W1 [(w.heap.size, [.string (strOf name), x1, x2, x3, x4, x5])] := by
    rw [← hW1]
    exact (Boxes.nil w).alloc #[.string (strOf name), x1, x2, x3, x4, x5] 173 (b := w.heap.size) rfl
  have hb1 : Below w.heap.size w W1 := by rw [← hW1]; exact Below.al (Below.refl _ _)
  have g0 := hx1.cell 0 0 rfl rfl
  have C := compare_any name key W1
  clear hx1
  go_enter Tryz.func115, Tryz.ntmps115
  go_wp2_with fail
  refine C.mono ?_
  rintro e w' ⟨rfl, rfl⟩
  go_wp2_with fail
  go_ret
  exact ⟨rfl, hb1⟩
/-- A bucket's words, as its name alone tells. -/
def NmOn (cs : List Value) (k : List UInt8) : Prop := ∃ x1 x2 x3 x4 x5, cs = [.string (strOf k), x1, x2, x3, x4, x5]
theorem TabR.nm {w : World} {a : Option Addr} {n c : Nat} {ks : List (List UInt8)} (h : TabR 6 NmOn w a n c ks) {k : Nat} (hk : k < n) :
    ∃ b off x1 x2 x3 x4 x5, a = some ⟨b, off, none⟩ ∧ b < w.heap.size ∧ w.cell? ⟨b, off + k * 6, none⟩ = some (.string (strOf (ks[k]?.getD []))) ∧ w.cell? ⟨b, off + k * 6 + 1, none⟩ = some x1 ∧ w.cell? ⟨b, off + k * 6 + 2, none⟩ = some x2 ∧ w.cell? ⟨b, off + k * 6 + 3, none⟩ = some x3 ∧ w.cell? ⟨b, off + k * 6 + 4, none⟩ = some x4 ∧ w.cell? ⟨b, off + k * 6 + 5, none⟩ = some x5 := by
  obtain ⟨b, off, y, cs, e1, e2, e3, _, hy, e6⟩ := TabR.at h hk
  obtain ⟨x1, x2, x3, x4, x5, rfl⟩ := hy
  rw [e3]
  exact ⟨b, off, x1, x2, x3, x4, x5, e1, e2, e6 0 _ rfl, e6 1 _ rfl, e6 2 _ rfl, e6 3 _ rfl, e6 4 _ rfl, e6 5 _ rfl⟩
set_option maxRecDepth 100000 in
set_option maxHeartbeats 4000000 in
set_option maxRecDepth 100000 in
theorem bfind_any {w : World} {a : Option Addr} {n c : Nat} {ks : List (List UInt8)} (h : TabR 6 NmOn w a n c ks) (hn : n ≤ 100000) (hs : ks.Pairwise (fun a b => a < b)) (key : List UInt8) :
    Calls Tryz.prog 114 #[.slice a n c, .string (strOf key), .func (.func 115) #[] #[]] w fun e w' => e = .returned (.tuple #[.int .i64 (posK key ks : Int), .bool (hasK key ks)]) ∧ Below w.heap.size w w' := by
  obtain ⟨h1, h2, h3⟩ := h.lens
  have H := Lib.hid h
  have HL := Lib.hid h1
  have HS : Hid (∀ i j, i < j → j < n → ks[i]?.getD [] < ks[j]?.getD []) := Lib.hid (fun i j hij hj => pair_get hs hij (by omega))
  clear h h1 hs
  go_enter Tryz.func114, Tryz.ntmps114
  go_wp2_with fail
  go_loopw [9, 10] (fun s7 s8 wr => ∃ i j : Nat, i ≤ j ∧ j ≤ n ∧ s7 = .int .i64 i ∧ s8 = .int .i64 j ∧ (∀ m, m < i → ks[m]?.getD [] < key) ∧ (∀ m, j ≤ m → m < n → ¬ ks[m]?.getD [] < key) ∧ Below w.heap.size w wr) (fun s7 s8 _ => (intOf s8).toNat - (intOf s7).toNat)
  case atStart => exact ⟨0, n, Nat.zero_le _, Nat.le_refl _, rfl, rfl, (fun m hm => by omega), (fun m h1 h2 => by omega), Below.refl _ _⟩
  case round =>
    obtain ⟨i, j, hij, hj, rfl, rfl, r1, r2, hb⟩ := hrel
    have R1 := Lib.hid r1
    have R2 := Lib.hid r2
    clear r1 r2
    by_cases hlt : i < j
    · have hm : (i + j) / 2 < n := by omega
      obtain ⟨b, off, x1, x2, x3, x4, x5, rfl, hbb, c0, c1, c2, c3, c4, c5⟩ := TabR.nm H.out hm
      have d0 : decide ((i : Int) < j) = true := by simp; omega
      have d0' : decide (i < j) = true := by simp; omega
      have hb2 : 2 * ((i + j) / 2) ≤ i + j ∧ i + j ≤ 2 * ((i + j) / 2) + 1 := by omega
      have hcast : ((i : Int) + j) / 2 = ((i + j) / 2 : Nat) := by omega
      generalize (i + j) / 2 = m at *
      have HC := Lib.hid hcast
      clear hcast
      have hcm : ((i : Int) + j) / 2 = (m : Int) := HC.out
      have k0 := (hb.cell (p := ⟨b, off + m * 6, none⟩) hbb).trans c0
      have k1 := (hb.cell (p := ⟨b, off + m * 6 + 1, none⟩) hbb).trans c1
      have k2 := (hb.cell (p := ⟨b, off + m * 6 + 2, none⟩) hbb).trans c2
      have k3 := (hb.cell (p := ⟨b, off + m * 6 + 3, none⟩) hbb).trans c3
      have k4 := (hb.cell (p := ⟨b, off + m * 6 + 4, none⟩) hbb).trans c4
      have k5 := (hb.cell (p := ⟨b, off + m * 6 + 5, none⟩) hbb).trans c5
      obtain ⟨k, hk⟩ : ∃ k, ks[m]?.getD [] = k := ⟨_, rfl⟩
      rw [hk] at k0
      have HK := Lib.hid hk
      have CF := find1_any k key x1 x2 x3 x4 x5 wr
      have hng := cmpN_neg k key
      obtain ⟨cm, hcm9⟩ : ∃ z, cmpN k key = z := ⟨_, rfl⟩
      rw [hcm9] at CF hng
      clear hk c0 c1 c2 c3 c4 c5 hcm9
      have HBX := Lib.hid hb
      clear hb
      go_wp2_with fail
      refine CF.mono ?_
      rintro e w2 ⟨rfl, hb9⟩
      have HB9 := Lib.hid (below_via HBX.out hb9)
      clear CF hb9 k0 k1 k2 k3 k4 k5
      by_cases hd : k < key
      · have d3 : decide (cm < 0) = true := by rw [hng]; exact decide_eq_true hd
        have HN : Hid (∀ q, q < m + 1 → ks[q]?.getD [] < key) := Lib.hid (fun q hq => by
          have hmk : ks[m]?.getD [] < key := by rw [HK.out]; exact hd
          by_cases e : q = m
          · rw [e]; exact hmk
          · exact klt_trans (HS.out q m (by omega) hm) hmk)
        clear hd hng
        go_wp2_with fail
        go_roundw
        case rel => exact ⟨m + 1, j, by omega, hj, by go_num, rfl, HN.out, R2.out, HB9.out⟩
        case measure => simp [intOf]; omega
      · have d3 : decide (cm < 0) = false := by rw [hng]; exact decide_eq_false hd
        have HN : Hid (∀ q, m ≤ q → q < n → ¬ ks[q]?.getD [] < key) := Lib.hid (fun q hq hqn hc => by
          have hmk : ¬ ks[m]?.getD [] < key := by rw [HK.out]; exact hd
          by_cases e : q = m
          · rw [e] at hc; exact hmk hc
          · exact hmk (klt_trans (HS.out m q (by omega) hqn) hc))
        clear hd hng
        go_wp2_with fail
        go_roundw
        case rel => exact ⟨i, m, by omega, by omega, rfl, by go_num, R1.out, HN.out, HB9.out⟩
        case measure => simp [intOf]; omega
    · obtain rfl : i = j := by omega
      have hpos : posK key ks = i := posK_eq (by rw [HL.out]; exact hj) R1.out (fun h => R2.out i (Nat.le_refl _) (by rw [← HL.out]; exact h))
      have d0 : decide ((i : Int) < i) = false := by simp
      by_cases hin : i < n
      · obtain ⟨b, off, x1, x2, x3, x4, x5, rfl, hbb, c0, c1, c2, c3, c4, c5⟩ := TabR.nm H.out hin
        have d1 : decide ((i : Int) < n) = true := by simp; omega
        have d1' : decide (i < n) = true := by simp; omega
        have k0 := (hb.cell (p := ⟨b, off + i * 6, none⟩) hbb).trans c0
        have k1 := (hb.cell (p := ⟨b, off + i * 6 + 1, none⟩) hbb).trans c1
        have k2 := (hb.cell (p := ⟨b, off + i * 6 + 2, none⟩) hbb).trans c2
        have k3 := (hb.cell (p := ⟨b, off + i * 6 + 3, none⟩) hbb).trans c3
        have k4 := (hb.cell (p := ⟨b, off + i * 6 + 4, none⟩) hbb).trans c4
        have k5 := (hb.cell (p := ⟨b, off + i * 6 + 5, none⟩) hbb).trans c5
        have hhas : hasK key ks = (ks[i]?.getD [] == key) := by
          unfold hasK
          rw [hpos, List.getElem?_eq_getElem (by rw [HL.out]; exact hin)]
          simp
        obtain ⟨k, hk⟩ : ∃ k, ks[i]?.getD [] = k := ⟨_, rfl⟩
        rw [hk] at k0 hhas
        have CF := find1_any k key x1 x2 x3 x4 x5 wr
        have hng := cmpN_zero k key
        obtain ⟨cm, hcm9⟩ : ∃ z, cmpN k key = z := ⟨_, rfl⟩
        rw [hcm9] at CF hng
        obtain ⟨hk9, hhk9⟩ : ∃ z, hasK key ks = z := ⟨_, rfl⟩
        rw [hhk9] at hhas
        have HH := Lib.hid hhk9
        have heq : (cm == 0) = hk9 := by rw [hng, hhas]; by_cases e : k = key <;> simp [e]
        have HP := Lib.hid hpos
        have HBX := Lib.hid hb
        clear hk hpos hhas hng hcm9 hhk9 hb c0 c1 c2 c3 c4 c5
        go_wp2_with fail
        refine CF.mono ?_
        rintro e w2 ⟨rfl, hb9⟩
        have HB9 := Lib.hid (below_via HBX.out hb9)
        clear CF hb9 k0 k1 k2 k3 k4 k5
        go_wp2_with fail
        go_ret2
        exact ⟨by rw [HP.out, HH.out]; rfl, HB9.out⟩
      · have d1 : decide ((i : Int) < n) = false := by simp; omega
        have d1' : decide (i < n) = false := by simp; omega
        have hhas : hasK key ks = false := by
          unfold hasK
          rw [hpos, List.getElem?_eq_none (by rw [HL.out]; omega)]
          rfl
        have HP := Lib.hid hpos
        have HH := Lib.hid hhas
        have HBX := Lib.hid hb
        clear hpos hhas hb
        go_wp2_with fail
        go_ret2
        exact ⟨by rw [HP.out, HH.out]; rfl, HBX.out⟩
end Go.Proofs.YtpghlmcoajaiiaaGreatDoor

/- Views: where a bucket stands. -/
namespace Go.Proofs.YtpghlmcoajaiiaaGreatDoor
open Go.RowKit

set_option maxRecDepth 100000 in
set_option maxHeartbeats 1000000 in
set_option maxRecDepth 100000 in
theorem vfind_any {w : World} {a : Option Addr} {n c : Nat} {ks : List (List UInt8)} (h : TabR 6 NmOn w a n c ks) (hn : n ≤ 100000) (hs : ks.Pairwise (fun a b => a < b)) (d0 d1 d2 d3 d4 : Value) (key : List UInt8) :
    Calls Tryz.prog 71 #[.agg #[d0, d1, d2, d3, d4, .slice a n c], .string (strOf key)] w fun e w' => e = .returned (.tuple #[.int .i64 (posK key ks : Int), .bool (hasK key ks)]) ∧ Below w.heap.size w w' := by
  obtain ⟨W1, hW1⟩ : ∃ x, w.alloc (.cells #[d0, d1, d2, d3, d4, .slice a n c] 75) = x := ⟨_, rfl⟩
  have hx1 : Boxes W1 [(w.heap.size, [d0, d1, d2, d3, d4, .slice a n c])] := by
    rw [← hW1]
    exact (Boxes.nil w).alloc #[d0, d1, d2, d3, d4, .slice a n c] 75 (b := w.heap.size) rfl
  have hb1 : Below w.heap.size w W1 := by rw [← hW1]; exact Below.al (Below.refl _ _)
  have g5 := hx1.cell 0 5 rfl rfl
  have C := bfind_any (h.below (Nat.le_refl _) hb1) hn hs key
  have HB := Lib.hid hb1
  obtain ⟨P, hP⟩ : ∃ z, posK key ks = z := ⟨_, rfl⟩
  obtain ⟨B, hB⟩ : ∃ z, hasK key ks = z := ⟨_, rfl⟩
  rw [hP, hB] at C ⊢
  clear hx1 hb1 h hP hB hs
  go_enter Tryz.func71, Tryz.ntmps71
  go_wp2_with fail
  refine C.mono ?_
  rintro e w2 ⟨rfl, hb2⟩
  have HB2 := Lib.hid (below_via HB.out hb2)
  clear C hb2
  go_wp2_with fail
  go_ret2
  exact ⟨rfl, HB2.out⟩
end Go.Proofs.YtpghlmcoajaiiaaGreatDoor

/- Views: rows of buckets: cloned; one put behind. -/
namespace Go.Proofs.YtpghlmcoajaiiaaGreatDoor
open Go.RowKit

theorem elem_bk : Tryz.prog.underlying 73 = some (.slice (Tryz.prog.elem 73)) := by kernel_rfl
theorem size_bk (w : World) : (sizeOf (Tryz.prog.elem 73)).run Tryz.prog w = .ok 6 w := by kernel_rfl
theorem info_bk : RowInfo Tryz.prog 173 6 104 := row_info (by kernel_rfl)
set_option maxRecDepth 100000 in
set_option maxHeartbeats 2000000 in
theorem clone_b {w : World} {a : Option Addr} {n c : Nat} {L : List (Cl 6)} (h : Raw 6 w a n c L) (hn : n ≤ 100000) :
    Calls Tryz.prog 74 #[.slice a n c] w (OwnRaw 173 6 w L) := by
  obtain ⟨i0, z0, hi, hz0, hz1, hz2, hz3⟩ := info_bk
  obtain ⟨e1, e2, e3⟩ := h.lens
  cases a with
  | none =>
    have hc := h.2.2.2.1 rfl
    obtain rfl : n = 0 := by omega
    obtain rfl : c = 0 := by omega
    have hl0 : L = [] := List.eq_nil_of_length_eq_zero e1
    have HE : Hid (OwnRaw 173 6 w L (.returned (.slice none 0 0)) w) := Lib.hid ⟨_, rfl, by rw [hl0]; exact own_nil _ _ _ _, Below.refl _ _⟩
    clear hl0 e1 hc hz0 hz1 hz2 hz3
    have hq : ∀ W : World, (binOp .eql 73 (.slice none 0 0) (.slice none 0 0)).run Tryz.prog W = .ok (.bool true) W := fun W => Lib.run_eql_slice_nil W _ _ none 0 0 0 0 Tryz.underlying73
    go_enter Tryz.func74, Tryz.ntmps74
    go_wp2
    go_ret
    exact HE.out
  | some x =>
    have hq : ∀ W : World, (binOp .eql 73 (.slice (some x) n c) (.slice none 0 0)).run Tryz.prog W = .ok (.bool false) W := fun W => Lib.run_eql_slice_nil W _ _ (some x) n c 0 0 Tryz.underlying73
    have hB0 : Below w.heap.size w (w.alloc (.cells #[] 173)) := (Below.refl _ _).alloc (Nat.le_refl _) _
    obtain ⟨v', w', hr, ho, hg, _⟩ := run_append_raw (P := Tryz.prog) w.heap.size 73 173 i0 z0 6 104 Tryz.underlying73 hi hz0 hz1 hz2 hz3 (by decide) (L := []) (own_empty w 173 6 rfl (Nat.le_refl _)) (h.below hB0) (by unfold maxLen; omega) (by omega) hB0.size
    have HE : Hid (OwnRaw 173 6 w L (.returned v') w') := Lib.hid ⟨v', rfl, by rw [e1]; simpa using ho, hB0.grown hg hB0.size (own_ge (own_empty w 173 6 rfl (Nat.le_refl _)))⟩
    clear ho hg hB0 e1 hz0 hz1 hz2 hz3 h
    go_enter Tryz.func74, Tryz.ntmps74
    go_wp2_with (at_builtin; refine wpList_append_run rfl _ _ _ _ rfl rfl rfl hr ?_)
    go_ret
    exact HE.out
set_option maxRecDepth 100000 in
set_option maxHeartbeats 2000000 in
set_option maxRecDepth 100000 in
/-- Behind the last one: an append to a row of the call's own. -/
theorem insert_b {w : World} {B : Nat} {v : Value} {n : Nat} {L : List (Cl 6)} (hown : w.ownsRow B 173 6 v n (flatC L)) (hB : B ≤ w.heap.size) (hn : n ≤ 100000) {a2 : Option Addr} {c2 : Nat} {x : Cl 6} (h2 : Raw 6 w a2 1 c2 [x]) :
    Calls Tryz.prog 73 #[v, .int .i64 (n : Int), .slice a2 1 c2] w fun e w' => ∃ v', e = .returned v' ∧ w'.ownsRow B 173 6 v' (n + 1) (flatC (L ++ [x])) ∧ w.grownBy w' v.ownBlock ∧ (v'.ownBlock = v.ownBlock ∨ v'.ownBlock = some w.heap.size) := by
  obtain ⟨i0, z0, hi, hz0, hz1, hz2, hz3⟩ := info_bk
  obtain ⟨v', w', hr, ho, hg, hv⟩ := run_append_raw (P := Tryz.prog) B 73 173 i0 z0 6 104 Tryz.underlying73 hi hz0 hz1 hz2 hz3 (by decide) (L := L) hown h2 (by unfold maxLen; omega) (by omega) hB
  obtain ⟨ao, cap, rfl, hc1, hc2⟩ : ∃ ao cap, v = .slice ao n cap ∧ n ≤ cap ∧ cap ≤ maxLen := by
    rcases hown.2 with ⟨h1, h2⟩ | ⟨g, cap, cur, h1, _, _, h4, h5, _⟩
    · exact ⟨none, 0, by rw [h1, h2], by omega, by unfold maxLen; omega⟩
    · exact ⟨_, cap, h1, h4, h5⟩
  unfold maxLen at hc2
  obtain ⟨ad, had, hsl⟩ := slice_from (P := Tryz.prog) elem_bk size_bk ao n cap n (Nat.le_refl _)
  have hl2 := h2.lens
  have HE : Hid (w'.ownsRow B 173 6 v' (n + 1) (flatC (L ++ [x])) ∧ w.grownBy w' (Value.slice ao n cap).ownBlock ∧ (v'.ownBlock = (Value.slice ao n cap).ownBlock ∨ v'.ownBlock = some w.heap.size)) := Lib.hid ⟨ho, hg, hv⟩
  have d0 : ((n : Int) == (n : Int)) = true := by simp
  clear ho hg hv hown hi hz0 hz1 hz2 hz3 had
  go_enter Tryz.func73, Tryz.ntmps73
  go_wp2_with (at_builtin; refine wpList_append_run rfl _ _ _ _ rfl rfl rfl hr ?_)
  go_ret
  exact ⟨v', rfl, HE.out.1, HE.out.2.1, HE.out.2.2⟩
end Go.Proofs.YtpghlmcoajaiiaaGreatDoor

/- Views in memory. -/
namespace Go.Proofs.YtpghlmcoajaiiaaGreatDoor
open Go.RowKit

/-- A bucket: its name; its tree, and how many levels it is read with. -/
structure Bkt where
  name : List UInt8
  lv : Nat
  tree : Tr
/-- A view. -/
structure Vw where
  lv : Nat
  dir : Tr
  l : List Bkt
/-- A bucket's words. -/
def BkOn (F : Nat → Prop) (w : World) (cs : List Value) (b : Bkt) : Prop := ∃ ts, cs = .string (strOf b.name) :: ts ∧ NodeOn F b.lv w ts b.tree
theorem BkOn.nm {F : Nat → Prop} {w : World} {cs : List Value} {b : Bkt} (h : BkOn F w cs b) : NmOn cs b.name := by
  obtain ⟨ts, rfl, h⟩ := h
  obtain ⟨_, _, _, _, _, _, _, _, _, _, e, _⟩ := h.open_pos
  subst e
  exact ⟨_, _, _, _, _, rfl⟩
theorem BkOn.agree {F : Nat → Prop} {w w' : World} {cs : List Value} {b : Bkt} (h : BkOn F w cs b) (ha : AgreeF F w w') : BkOn F w' cs b := by
  obtain ⟨ts, e, h⟩ := h
  exact ⟨ts, e, h.agree ha⟩
theorem BkOn.mono {F G : Nat → Prop} {w : World} {cs : List Value} {b : Bkt} (h : BkOn F w cs b) (hg : ∀ x, F x → G x) : BkOn G w cs b := by
  obtain ⟨ts, e, h⟩ := h
  exact ⟨ts, e, NodeOn.mono hg h⟩
/-- A view's words, on blocks F. -/
def ViewOn (F : Nat → Prop) (w : World) (cs : List Value) (v : Vw) : Prop :=
  ∃ ds a c, cs = ds ++ [.slice a v.l.length c] ∧ NodeOn F v.lv w ds v.dir ∧ TabR 6 (BkOn F w) w a v.l.length c v.l ∧ Fa F a v.l.length
theorem ViewOn.agree {F : Nat → Prop} {w w' : World} {cs : List Value} {v : Vw} (h : ViewOn F w cs v) (ha : AgreeF F w w') : ViewOn F w' cs v := by
  obtain ⟨ds, a, c, e, h1, h2, h3⟩ := h
  exact ⟨ds, a, c, e, h1.agree ha, h2.agree h3 ha (fun cs y _ h => h.agree ha), h3⟩
theorem ViewOn.below {F : Nat → Prop} {w w' : World} {cs : List Value} {v : Vw} (h : ViewOn F w cs v) (hb : Below w.heap.size w w') : ViewOn F w' cs v := h.agree (.of_below hb)
theorem ViewOn.mono {F G : Nat → Prop} {w : World} {cs : List Value} {v : Vw} (h : ViewOn F w cs v) (hg : ∀ x, F x → G x) : ViewOn G w cs v := by
  obtain ⟨ds, a, c, e, h1, h2, h3⟩ := h
  exact ⟨ds, a, c, e, NodeOn.mono hg h1, TabR.mono h2 (fun cs y h => h.mono hg), h3.mono hg⟩
/-- Its names alone. -/
theorem tab_names {F : Nat → Prop} {w : World} {a : Option Addr} {n c : Nat} {l : List Bkt} (h : TabR 6 (BkOn F w) w a n c l) : TabR 6 NmOn w a n c (l.map (·.name)) := by
  obtain ⟨h1, h2, h3, h4, h5⟩ := h
  refine ⟨by simpa using h1, h2, h3, h4, h5.imp id ?_⟩
  rintro ⟨b, off, e, hb, hc⟩
  refine ⟨b, off, e, hb, fun i y hy => ?_⟩
  rw [List.getElem?_map] at hy
  obtain ⟨x, hx, rfl⟩ := Option.map_eq_some_iff.1 hy
  obtain ⟨cs, q1, q2, q3⟩ := hc i x hx
  exact ⟨cs, q1, q2.nm, q3⟩
end Go.Proofs.YtpghlmcoajaiiaaGreatDoor

/- Views: a bucket made behind all others. -/
namespace Go.Proofs.YtpghlmcoajaiiaaGreatDoor
open Go.RowKit

/-- What a view's row of buckets is, raw. -/
theorem ViewOn.raw {F : Nat → Prop} {w : World} {cs : List Value} {v : Vw} (h : ViewOn F w cs v) :
    ∃ a1 c1 a2 n2 c2 a3 n3 c3 a c, cs = [.int .i64 v.dir.page, .bool v.dir.isLeaf, .slice a1 (cntT v.dir) c1, .slice a2 n2 c2, .slice a3 n3 c3, .slice a v.l.length c] ∧ NodeOn F v.lv w [.int .i64 v.dir.page, .bool v.dir.isLeaf, .slice a1 (cntT v.dir) c1, .slice a2 n2 c2, .slice a3 n3 c3] v.dir ∧ TabR 6 (BkOn F w) w a v.l.length c v.l ∧ Fa F a v.l.length := by
  obtain ⟨ds, a, c, e, h1, h2, h3⟩ := h
  obtain ⟨a1, c1, a2, n2, c2, a3, n3, c3, V, C, e1, _⟩ := h1.open_pos
  subst e1
  exact ⟨_, _, _, _, _, _, _, _, a, c, e, h1, h2, h3⟩
theorem BkOn.one {F : Nat → Prop} {w : World} : ∀ cs (y : Bkt), BkOn F w cs y → ∀ u ∈ cs, u.oneCell' = true := by
  rintro cs y ⟨ts, rfl, h⟩ u hu
  obtain ⟨a1, c1, a2, n2, c2, a3, n3, c3, V, C, e1, _⟩ := h.open_pos
  subst e1
  simp at hu
  rcases hu with rfl | rfl | rfl | rfl | rfl | rfl <;> rfl
theorem tells_snoc {α : Type} {sz : Nat} {R : List Value → α → Prop} {L : List (Cl sz)} {l : List α} (h : Tells R L l) {x : Cl sz} {y : α} (hy : R x.1 y) : Tells R (L ++ [x]) (l ++ [y]) := by
  obtain ⟨h1, h2⟩ := h
  refine ⟨by simp [h1], fun i a b ha hb => ?_⟩
  by_cases hi : i < L.length
  · rw [List.getElem?_append_left hi] at ha
    rw [List.getElem?_append_left (by omega)] at hb
    exact h2 i a b ha hb
  · rw [List.getElem?_append_right (by omega)] at ha
    rw [List.getElem?_append_right (by omega)] at hb
    have e : i = L.length := by
      have := (List.getElem?_eq_some_iff.1 ha).1
      simp at this; omega
    subst e
    rw [Nat.sub_self] at ha
    rw [h1, Nat.sub_self] at hb
    simp at ha hb
    subst ha hb
    exact hy
/-- A fresh row of one. -/
theorem raw_one {w : World} {b : Nat} {x0 x1 x2 x3 x4 x5 : Value} (h : Boxes w [(b, [x0, x1, x2, x3, x4, x5])]) (x : Cl 6) (hx : x.1 = [x0, x1, x2, x3, x4, x5]) : Raw 6 w (some ⟨b, 0, none⟩) 1 1 [x] := by
  refine ⟨rfl, Nat.le_refl _, by unfold maxLen; omega, (fun h => by cases h), .inr ⟨b, 0, rfl, h.lt 0 rfl, fun i y hy => ?_⟩⟩
  have hi : i = 0 := by
    have := (List.getElem?_eq_some_iff.1 hy).1
    simp at this; exact this
  subst hi
  obtain rfl : x = y := by simpa using hy
  refine ⟨x.1, by rw [hx]; rfl, rfl, fun j v hv => ?_⟩
  rw [hx] at hv
  have := h.cell 0 j rfl hv
  simpa using this
set_option maxRecDepth 100000 in
set_option maxHeartbeats 4000000 in
set_option maxRecDepth 100000 in
theorem vmake_any {F : Nat → Prop} {w : World} {cs : List Value} {v : Vw} (hF : ∀ b, F b → b < w.heap.size) (h : ViewOn F w cs v) (hw : Whole v.lv v.dir) (hn : v.l.length ≤ 1000) (hs : (v.l.map (·.name)).Pairwise (fun a b => a < b)) (name : List UInt8) (hk : keyOk name) (hlast : posK name (v.l.map (·.name)) = v.l.length) :
    Calls Tryz.prog 32 #[.agg cs.toArray, .string (strOf name)] w fun e w' => ∃ cs' v', e = .returned (.tuple #[.agg cs'.toArray, .int .i64 0]) ∧ ViewOn (Fr F w) w' cs' v' ∧ v'.lv ≤ v.lv + 1 ∧ v'.dir = putW v.lv v.dir name ⟨[0, 0], []⟩ ∧ Whole v'.lv v'.dir ∧ v'.l = v.l ++ [⟨name, 1, .leaf 0 []⟩] ∧ Below w.heap.size w w' := by
  obtain ⟨a1, c1, a2, n2, c2, a3, n3, c3, a, c, rfl, hd, hl, hfa⟩ := h.raw
  obtain ⟨pg, hpg⟩ : ∃ z, v.dir.page = z := ⟨_, rfl⟩
  obtain ⟨lf, hlf⟩ : ∃ z, v.dir.isLeaf = z := ⟨_, rfl⟩
  obtain ⟨cn, hcn⟩ : ∃ z, cntT v.dir = z := ⟨_, rfl⟩
  obtain ⟨m, hm⟩ : ∃ z, v.l.length = z := ⟨_, rfl⟩
  rw [hm] at hlast hn hl hfa
  rw [hpg, hlf, hcn] at hd
  rw [hpg, hlf, hcn, hm]
  have hhas : hasK name (v.l.map (·.name)) = false := by
    unfold hasK
    rw [hlast, List.getElem?_eq_none (by simp [hm])]
    rfl
  have hkb : keyB1 name = true := by
    unfold keyB1
    obtain ⟨k1, k2⟩ := hk
    rw [decide_eq_true k1, decide_eq_true k2]; rfl
  obtain ⟨W1, hW1⟩ : ∃ x, w.alloc (.cells #[.int .i64 pg, .bool lf, .slice a1 cn c1, .slice a2 n2 c2, .slice a3 n3 c3, .slice a m c] 75) = x := ⟨_, rfl⟩
  obtain ⟨W2, hW2⟩ : ∃ x, W1.alloc (.cells #[.int .i64 0, .bool false, .slice none 0 0, .slice none 0 0, .slice none 0 0, .slice none 0 0] 75) = x := ⟨_, rfl⟩
  have hs1 : W1.heap.size = w.heap.size + 1 := by rw [← hW1, World.size_alloc]
  have hb2 : Below w.heap.size w W2 := by rw [← hW2, ← hW1]; exact Below.al (Below.al (Below.refl _ _))
  have hx2 : Boxes W2 [(w.heap.size + 1, [.int .i64 0, .bool false, .slice none 0 0, .slice none 0 0, .slice none 0 0, .slice none 0 0]), (w.heap.size, [.int .i64 pg, .bool lf, .slice a1 cn c1, .slice a2 n2 c2, .slice a3 n3 c3, .slice a m c])] := by
    rw [← hW2, ← hs1]
    refine Boxes.alloc ?_ #[.int .i64 0, .bool false, .slice none 0 0, .slice none 0 0, .slice none 0 0, .slice none 0 0] 75 rfl
    rw [← hW1]
    exact (Boxes.nil w).alloc #[.int .i64 pg, .bool lf, .slice a1 cn c1, .slice a2 n2 c2, .slice a3 n3 c3, .slice a m c] 75 (b := w.heap.size) rfl
  have C1 := vfind_any (tab_names (TabR.move hl hb2 (fun cs y _ h => h.agree (.of_below hb2)))) (by omega) hs (.int .i64 pg) (.bool lf) (.slice a1 cn c1) (.slice a2 n2 c2) (.slice a3 n3 c3) name
  rw [hlast, hhas] at C1
  have C2 := fun W => vkey_any name W
  rw [hkb] at C2
  have g0 := hx2.cell 1 0 rfl rfl
  have g1 := hx2.cell 1 1 rfl rfl
  have g2 := hx2.cell 1 2 rfl rfl
  have g3 := hx2.cell 1 3 rfl rfl
  have g4 := hx2.cell 1 4 rfl rfl
  have g5 := hx2.cell 1 5 rfl rfl
  have HX2 := Lib.hid hx2
  have HB2 := Lib.hid hb2
  clear hx2 hb2
  go_enter Tryz.func32, Tryz.ntmps32
  go_wp2_with fail
  refine C1.mono ?_
  rintro e w3 ⟨rfl, hb3⟩
  have HX3 := Lib.hid (HX2.out.step hb3)
  have HB3 := Lib.hid (below_via HB2.out hb3)
  clear hb3 C1 g0 g1 g2 g3 g4 g5
  have g5 := HX3.out.cell 1 5 rfl rfl
  go_wp2_with fail
  refine (C2 _).mono ?_
  rintro e w4 ⟨rfl, rfl⟩
  have hl3 := TabR.move hl HB3.out (fun cs y _ h => h.agree (.of_below HB3.out))
  obtain ⟨L, hraw, htl⟩ := TabR.raw hl3 BkOn.one
  have hLm : L.length = m := hraw.1
  have C3 := clone_b hraw (by omega)
  have HTL := Lib.hid htl
  clear C2 hl3 hraw htl
  go_wp2_with fail
  refine C3.mono ?_
  rintro e w4 ⟨v4, rfl, ho4, hb4⟩
  rw [hLm] at ho4
  obtain ⟨a4, c4, rfl, _⟩ := Raw.of_own ho4 hLm
  have HO4 := Lib.hid ho4
  have HX4 := Lib.hid (HX3.out.step hb4)
  have HB4 := Lib.hid (below_via HB3.out hb4)
  have h34 := hb4.size
  have H34 := Lib.hid hb4
  clear ho4 hb4 C3
  go_wp2_with fail
  refine (tempty_any w4 (fun _ => False)).mono ?_
  rintro e w5 ⟨cs5, rfl, hn5, hb5⟩
  obtain ⟨x1, k1, x2, k2, x3, k3, ecs, hn5⟩ := empty_on2 (F := fun _ => False) hn5
  subst ecs
  obtain ⟨W6, hW6⟩ : ∃ x, w5.alloc (.cells #[.string (strOf name), .int .i64 0, .bool true, .slice x1 0 k1, .slice x2 0 k2, .slice x3 0 k3] 173) = x := ⟨_, rfl⟩
  have hb6 : Below w5.heap.size w5 W6 := by rw [← hW6]; exact Below.al (Below.refl _ _)
  have hx6 : Boxes W6 [(w5.heap.size, [.string (strOf name), .int .i64 0, .bool true, .slice x1 0 k1, .slice x2 0 k2, .slice x3 0 k3])] := by
    rw [← hW6]
    exact (Boxes.nil w5).alloc #[.string (strOf name), .int .i64 0, .bool true, .slice x1 0 k1, .slice x2 0 k2, .slice x3 0 k3] 173 (b := w5.heap.size) rfl
  have C6 := insert_b (own_held HO4.out (below_via hb5 hb6)) (by have := hb5.size; have := hb6.size; omega) (by omega) (raw_one hx6 ⟨[.string (strOf name), .int .i64 0, .bool true, .slice x1 0 k1, .slice x2 0 k2, .slice x3 0 k3], rfl, by intro u hu; simp at hu; rcases hu with rfl | rfl | rfl | rfl | rfl | rfl <;> rfl⟩ rfl)
  have HB6 := Lib.hid (below_via HB4.out (below_via hb5 hb6))
  have HX6 := Lib.hid (HX4.out.step (below_via hb5 hb6))
  have HN6 := Lib.hid (hn5.below hb6)
  have H46 := Lib.hid (below_via hb5 hb6)
  clear hx6 hn5 hb5 hb6
  go_wp2_with fail
  refine C6.mono ?_
  rintro e w7 ⟨v7, rfl, ho7, hg7, hv7⟩
  have hge7 := own_ge (own_held HO4.out (Below.refl _ _))
  have hbw7 : Below w.heap.size w w7 := HB6.out.grown hg7 HB6.out.size (fun k hk => Nat.le_trans HB3.out.size (own_ge HO4.out k hk))
  obtain ⟨a7, c7, rfl, hr7⟩ := Raw.of_own ho7 (by rw [List.length_append, hLm]; rfl)
  have HX7 : Hid (Boxes w7 [(w.heap.size + 1, [.int .i64 0, .bool false, .slice none 0 0, .slice none 0 0, .slice none 0 0, .slice none 0 0]), (w.heap.size, [.int .i64 pg, .bool lf, .slice a1 cn c1, .slice a2 n2 c2, .slice a3 n3 c3, .slice a m c])]) := Lib.hid (HX6.out.grown hg7 (by
    intro p hp e
    have h9 := own_ge HO4.out p.1 e
    have h8 := HX3.out.lt 0 rfl
    have h7 := HX3.out.lt 1 rfl
    simp at hp
    rcases hp with rfl | rfl <;> (simp at h9; omega)))
  have hd7 := hd.below hbw7
  have CP : ∀ W, Below w7.heap.size w7 W → Calls Tryz.prog 75 #[.agg #[.int .i64 pg, .bool lf, .slice a1 cn c1, .slice a2 n2 c2, .slice a3 n3 c3], .string (strOf name), .string (strOf [0, 0])] W (PutTo F v.lv W v.dir name ⟨[0, 0], []⟩) := fun W hW => tPut_whole (hd7.below hW) hw name [0, 0] hk (by simp)
  have t0 : ∀ W, AgreeF (fun x => x ≠ w.heap.size + 1) w7 W → W.cell? ⟨w.heap.size, 0, none⟩ = some (.int .i64 pg) := fun W hW => (hW.cell (by omega) (HX7.out.lt 1 rfl)).trans (HX7.out.cell 1 0 rfl rfl)
  have t1 : ∀ W, AgreeF (fun x => x ≠ w.heap.size + 1) w7 W → W.cell? ⟨w.heap.size, 1, none⟩ = some (.bool lf) := fun W hW => (hW.cell (by omega) (HX7.out.lt 1 rfl)).trans (HX7.out.cell 1 1 rfl rfl)
  have t2 : ∀ W, AgreeF (fun x => x ≠ w.heap.size + 1) w7 W → W.cell? ⟨w.heap.size, 2, none⟩ = some (.slice a1 cn c1) := fun W hW => (hW.cell (by omega) (HX7.out.lt 1 rfl)).trans (HX7.out.cell 1 2 rfl rfl)
  have t3 : ∀ W, AgreeF (fun x => x ≠ w.heap.size + 1) w7 W → W.cell? ⟨w.heap.size, 3, none⟩ = some (.slice a2 n2 c2) := fun W hW => (hW.cell (by omega) (HX7.out.lt 1 rfl)).trans (HX7.out.cell 1 3 rfl rfl)
  have t4 : ∀ W, AgreeF (fun x => x ≠ w.heap.size + 1) w7 W → W.cell? ⟨w.heap.size, 4, none⟩ = some (.slice a3 n3 c3) := fun W hW => (hW.cell (by omega) (HX7.out.lt 1 rfl)).trans (HX7.out.cell 1 4 rfl rfl)
  have hge9 := own_ge ho7
  have h3w : w.heap.size + 1 < w3.heap.size := HX3.out.lt 0 rfl
  have HTAB : Hid (∀ wz, AgreeF (fun x => x ≠ w.heap.size + 1) w7 wz → TabR 6 (BkOn (Fr F w) wz) wz a7 (m + 1) c7 (v.l ++ [⟨name, 1, .leaf 0 []⟩]) ∧ Fa (Fr F w) a7 (m + 1)) := Lib.hid (fun wz hz => by
    have hb37 : Below w3.heap.size w3 w7 := ((below_via (show Below w3.heap.size w3 w4 from H34.out) H46.out).grown hg7 (by have := H34.out.size; have := H46.out.size; omega) (fun k hk => own_ge HO4.out k hk))
    have hzF : AgreeF F w3 wz := (AgreeF.of_below hb37 (F := F)).trans ⟨hz.1, fun b hb hlt => hz.2 b (by have := hF b hb; omega) hlt⟩
    have hz0 : AgreeF (fun _ => False) W6 wz := ⟨Nat.le_trans hg7.size hz.1, fun b hb => hb.elim⟩
    have htab : TabR 6 (BkOn (Fr F w) wz) w7 a7 (m + 1) c7 (v.l ++ [⟨name, 1, .leaf 0 []⟩]) := Raw.tab hr7 (tells_snoc (by
      refine ⟨HTL.out.1, fun i x y hx hy => ?_⟩
      exact ((HTL.out.2 i x y hx hy).agree hzF).mono (fun b hb => .inl hb)) ⟨_, rfl, NodeOn.mono (fun b hb => hb.elim) (HN6.out.agree hz0)⟩)
    have hfa7 : ∀ b off, a7 = some ⟨b, off, none⟩ → w3.heap.size ≤ b := fun b off e => hge9 b (by rw [e]; rfl)
    refine ⟨TabR.agree htab (F := fun x => x ≠ w.heap.size + 1) (.inr (fun b off e => by have := hfa7 b off e; omega)) hz (fun cs y _ h => h), .inr (fun b off e => .inr (by have := hfa7 b off e; omega))⟩)
  have hA0 : AgreeF (fun x => x ≠ w.heap.size + 1) w7 w7.drew := AgreeF.dr (AgreeF.refl _)
  go_upto_region 7 with (fail)
  refine wp_region_noPanic ?_
  refine wp_region_held_drew (S := (fun W => AgreeF (fun x => x ≠ w.heap.size + 1) w7 W)) (by kernel_rfl) (by (repeat (with_reducible first | assumption | exact AgreeF.refl _ | apply AgreeF.al | apply AgreeF.dr | apply AgreeF.st))) (fun hHeld => ?_)
  refine wpAnyH_take (i := 0) (oi := { dst := some 32, op := Op.fieldAddr 75 (Operand.tmp 2) 0, type := 0, pos := "view.go:84", after := #[], guard := none }) (v := ?_) rfl (by kernel_rfl) (by kernel_rfl) (by kernel_rfl) (fun _ _ _ h => h) (Or.inl ⟨by rfl, ?_⟩) (by assumption) ?_
  rotate_left
  · (intro W hW; (try dsimp only at hW); go_simp <;> (with_reducible rfl))
  try simp only [Act.put, List.setIfInBounds_toArray, List.set_cons_zero, List.set_cons_succ]
  refine wpAnyH_take (i := 1) (oi := { dst := some 33, op := Op.load 50 (Operand.tmp 32), type := 50, pos := "view.go:84", after := #[{ on := 0, ground := Ground.data }], guard := none }) (v := ?_) rfl (by kernel_rfl) (by kernel_rfl) (by kernel_rfl) (fun _ _ _ h => h) (Or.inl ⟨by rfl, ?_⟩) (by assumption) ?_
  rotate_left
  · (intro W hW; (try dsimp only at hW); go_simp <;> (with_reducible rfl))
  try simp only [Act.put, List.setIfInBounds_toArray, List.set_cons_zero, List.set_cons_succ]
  refine wpAnyH_take (i := 2) (oi := { dst := some 34, op := Op.move (Operand.tmp 1), type := 9, pos := "view.go:84", after := #[], guard := none }) (v := ?_) rfl (by kernel_rfl) (by kernel_rfl) (by kernel_rfl) (fun _ _ _ h => h) (Or.inl ⟨by rfl, ?_⟩) (by assumption) ?_
  rotate_left
  · (intro W hW; (try dsimp only at hW); go_simp <;> (with_reducible rfl))
  try simp only [Act.put, List.setIfInBounds_toArray, List.set_cons_zero, List.set_cons_succ]
  refine wpAnyH_take (i := 5) (oi := { dst := some 37, op := Op.move (Operand.tmp 8), type := 73, pos := "view.go:84", after := #[], guard := none }) (v := ?_) rfl (by kernel_rfl) (by kernel_rfl) (by kernel_rfl) (fun _ _ _ h => h) (Or.inl ⟨by rfl, ?_⟩) (by assumption) ?_
  rotate_left
  · (intro W hW; (try dsimp only at hW); go_simp <;> (with_reducible rfl))
  try simp only [Act.put, List.setIfInBounds_toArray, List.set_cons_zero, List.set_cons_succ]
  refine wpAnyH_ready (rs := [3]) (by kernel_rfl) (by simp) (AllReadyH.cons (o := { dst := some 35, op := Op.call { callee := Callee.value (Operand.func 76), args := #[], argTypes := #[] }, type := 9, pos := "view.go:84", after := #[], guard := none }) rfl (fun K hK => ?_) AllReadyH.nil)
  (rw [if_pos (by rfl)]; go_wp2_with (go_at_call 76; refine (nowhere_any _).mono ?_; rintro e w8 ⟨rfl, hb8⟩; have hB8 : Below w7.heap.size w7 w8 := below_via (by (repeat (with_reducible first | assumption | exact Below.refl _ _ | apply Below.al | apply Below.dr))) hb8; have hA8 : AgreeF (fun x => x ≠ w.heap.size + 1) w7 w8 := AgreeF.of_below hB8))
  refine hK.out _ _ (by (repeat (with_reducible first | assumption | exact AgreeF.refl _ | apply AgreeF.al | apply AgreeF.dr | apply AgreeF.st))) (fun hHeld => ?_)
  clear hK K
  try simp only [Act.put, List.setIfInBounds_toArray, List.set_cons_zero, List.set_cons_succ]
  refine wpAnyH_ready (rs := [4]) (by kernel_rfl) (by simp) (AllReadyH.cons (o := { dst := some 36, op := Op.call { callee := Callee.value (Operand.func 75), args := #[Operand.tmp 33, Operand.tmp 34, Operand.tmp 35], argTypes := #[50, 9, 9] }, type := 50, pos := "view.go:84", after := #[{ on := 1, ground := Ground.data }, { on := 2, ground := Ground.data }, { on := 3, ground := Ground.data }, { on := 3, ground := Ground.chain }], guard := none }) rfl (fun K hK => ?_) AllReadyH.nil)
  (rw [if_pos (by rfl)]; go_wp2_with (go_at_call 75; (with_reducible refine (CP _ ?_).mono ?_); (focus (repeat (with_reducible first | assumption | exact Below.refl _ _ | apply Below.al | apply Below.dr))); rintro e w9 hq9; obtain ⟨M, cs9, hM9, rfl, hn9, hw9, hE9, hb9⟩ := hq9; obtain ⟨j1, j2, j3, j4, j5, j6, j7, j8, Vj, Cj, ecs9, _⟩ := hn9.open_pos; subst ecs9; have hB9 : Below w7.heap.size w7 w9 := below_via (by (repeat (with_reducible first | assumption | exact Below.refl _ _ | apply Below.al | apply Below.dr))) hb9; have hA9 : AgreeF (fun x => x ≠ w.heap.size + 1) w7 w9 := AgreeF.of_below hB9; have hx9 := HX7.out.step hB9; have z0 := hx9.cell 0 0 rfl rfl; have u0 := hx9.frozen 0 0 rfl; have z1 := hx9.cell 0 1 rfl rfl; have u1 := hx9.frozen 0 1 rfl; have z2 := hx9.cell 0 2 rfl rfl; have u2 := hx9.frozen 0 2 rfl; have z3 := hx9.cell 0 3 rfl rfl; have u3 := hx9.frozen 0 3 rfl; have z4 := hx9.cell 0 4 rfl rfl; have u4 := hx9.frozen 0 4 rfl; have z5 := hx9.cell 0 5 rfl rfl; have u5 := hx9.frozen 0 5 rfl))
  refine hK.out _ _ (by (repeat (with_reducible first | assumption | exact AgreeF.refl _ | apply AgreeF.al | apply AgreeF.dr | apply AgreeF.st))) (fun hHeld => ?_)
  clear hK K
  try simp only [Act.put, List.setIfInBounds_toArray, List.set_cons_zero, List.set_cons_succ]
  refine wpAnyH_take (i := 6) (oi := { dst := some 38, op := Op.build 75 #[(0, Operand.tmp 36), (1, Operand.tmp 37)], type := 75, pos := "view.go:84", after := #[{ on := 4, ground := Ground.data }, { on := 5, ground := Ground.data }], guard := none }) (v := ?_) rfl (by kernel_rfl) (by kernel_rfl) (by kernel_rfl) (fun _ _ _ h => h) (Or.inl ⟨by rfl, ?_⟩) (by assumption) ?_
  rotate_left
  · (intro W hW; (try dsimp only at hW); go_simp <;> (with_reducible rfl))
  try simp only [Act.put, List.setIfInBounds_toArray, List.set_cons_zero, List.set_cons_succ]
  refine wpAnyH_ready (rs := [7]) (by kernel_rfl) (by simp) (AllReadyH.cons (o := { dst := none, op := Op.store 75 (Operand.tmp 4) (Operand.tmp 38), type := 0, pos := "view.go:84", after := #[{ on := 6, ground := Ground.data }, { on := 4, ground := Ground.chain }, { on := 0, ground := Ground.phase }, { on := 1, ground := Ground.phase }, { on := 2, ground := Ground.phase }, { on := 3, ground := Ground.phase }, { on := 4, ground := Ground.phase }, { on := 5, ground := Ground.phase }, { on := 6, ground := Ground.phase }], guard := none }) rfl (fun K hK => ?_) AllReadyH.nil)
  (rw [if_pos (by rfl)]; go_wp2_with (fail))
  refine hK.out _ _ (by (repeat (with_reducible first | assumption | exact AgreeF.refl _ | apply AgreeF.al | apply AgreeF.dr | apply AgreeF.st))) (fun hHeld => ?_)
  clear hK K
  try simp only [Act.put, List.setIfInBounds_toArray, List.set_cons_zero, List.set_cons_succ]
  refine wpAnyH_take (i := 8) (oi := { dst := some 5, op := Op.assign (Operand.const (Value.int IntKind.i64 0)), type := 32, pos := "view.go:84", after := #[{ on := 7, ground := Ground.chain }, { on := 0, ground := Ground.phase }, { on := 1, ground := Ground.phase }, { on := 2, ground := Ground.phase }, { on := 3, ground := Ground.phase }, { on := 4, ground := Ground.phase }, { on := 5, ground := Ground.phase }, { on := 6, ground := Ground.phase }, { on := 7, ground := Ground.phase }], guard := none }) (v := ?_) rfl (by kernel_rfl) (by kernel_rfl) (by kernel_rfl) (fun _ _ _ h => h) (Or.inl ⟨by rfl, ?_⟩) (by assumption) ?_
  rotate_left
  · (intro W hW; (try dsimp only at hW); go_simp <;> (with_reducible rfl))
  try simp only [Act.put, List.setIfInBounds_toArray, List.set_cons_zero, List.set_cons_succ]
  refine wpAnyH_done (by kernel_rfl) ?_ _
  refine NoPanic.normal ?_
  obtain ⟨q1, q2⟩ := HTAB.out _ hHeld
  have hnf : ¬ Fr F w8 (w.heap.size + 1) := by
    intro hb
    have y1 := hB8.size
    have y2 := HX7.out.lt 0 rfl
    rcases hb with hb | hb
    · have := hF _ hb
      omega
    · omega
  have hlen : (v.l ++ [(⟨name, 1, .leaf 0 []⟩ : Bkt)]).length = m + 1 := by simp [hm]
  have HB9 := Lib.hid (below_via hbw7 hB9)
  have HW8 := Lib.hid (Nat.le_trans hbw7.size hB8.size)
  have HQ1 := Lib.hid q1
  have HQ2 := Lib.hid q2
  have HN9 := Lib.hid hn9
  have HW9 := Lib.hid hw9
  clear q1 q2 hn9 hw9 hHeld hA9 hB9 hx9 hE9
  go_wp2_with fail
  have HM9 := Lib.hid hM9
  generalize putW v.lv v.dir name ⟨[0, 0], []⟩ = PT at *
  refine bodyPost_ret (v := .tuple #[.agg #[.int .i64 PT.page, .bool PT.isLeaf, .slice j1 (cntT PT) j2, .slice j3 j4 j5, .slice j6 j7 j8, .slice a7 (m + 1) c7], .int .i64 0]) (by simp [results, Tryz.results32, go_sem, z0, z1, z2, z3, z4, z5]) rfl ?_
  refine ⟨[.int .i64 PT.page, .bool PT.isLeaf, .slice j1 (cntT PT) j2, .slice j3 j4 j5, .slice j6 j7 j8, .slice a7 (m + 1) c7], ⟨M, PT, v.l ++ [(⟨name, 1, .leaf 0 []⟩ : Bkt)]⟩, rfl, ⟨[.int .i64 PT.page, .bool PT.isLeaf, .slice j1 (cntT PT) j2, .slice j3 j4 j5, .slice j6 j7 j8], a7, c7, ?vw, ?nd, ?tb, ?fa⟩, HM9.out, rfl, HW9.out, rfl, ?be⟩
  case vw => show _ = _ ++ [Value.slice a7 (v.l ++ [(⟨name, 1, .leaf 0 []⟩ : Bkt)]).length c7]; rw [hlen]; rfl
  case nd => exact NodeOn.mono (fun b hb => by rcases hb with hb | hb; exact .inl hb; exact .inr (Nat.le_trans HW8.out hb)) (HN9.out.agree ((((((AgreeF.refl w9).set (.inl hnf)).set (.inl hnf)).set (.inl hnf)).set (.inl hnf)).set (.inl hnf) |>.set (.inl hnf)))
  case tb => show TabR 6 _ _ a7 (v.l ++ [(⟨name, 1, .leaf 0 []⟩ : Bkt)]).length c7 _; rw [hlen]; exact HQ1.out
  case fa => show Fa _ a7 (v.l ++ [(⟨name, 1, .leaf 0 []⟩ : Bkt)]).length; rw [hlen]; exact HQ2.out
  case be => exact ((((((HB9.out.setCell (Nat.le_succ _) _).setCell (Nat.le_succ _) _).setCell (Nat.le_succ _) _).setCell (Nat.le_succ _) _).setCell (Nat.le_succ _) _).setCell (Nat.le_succ _) _)
end Go.Proofs.YtpghlmcoajaiiaaGreatDoor

/- Views: the closure of view.Put. -/
namespace Go.Proofs.YtpghlmcoajaiiaaGreatDoor
open Go.RowKit

set_option maxRecDepth 100000 in
set_option maxHeartbeats 4000000 in
set_option maxRecDepth 100000 in
theorem vput1_any {F : Nat → Prop} {n : Nat} {w : World} {cs : List Value} {t : Tr} (hF : ∀ b, F b → b < w.heap.size) (h : NodeOn F n w cs t) (hw : Whole n t) {key d : List UInt8} (hk : keyOk key) (hd : d.length ≤ 400) {kb db : Nat} (hkb : Boxes w [(kb, [.string (strOf key)])]) (hdb : Boxes w [(db, [.string (strOf d)])]) :
    Calls Tryz.prog 80 #[.agg cs.toArray, .pointer (some ⟨kb, 0, none⟩), .pointer (some ⟨db, 0, none⟩)] w fun e w' => ∃ M cs', M ≤ n + 1 ∧ e = .returned (.tuple #[.agg cs'.toArray, .int .i64 0]) ∧ NodeOn (Fr F w) M w' cs' (putW n t key ⟨d, []⟩) ∧ Whole M (putW n t key ⟨d, []⟩) ∧ entsT M (putW n t key ⟨d, []⟩) = putL key ⟨d, []⟩ (entsT n t) ∧ Below w.heap.size w w' := by
  obtain ⟨a1, c1, a2, n2, c2, a3, n3, c3, ecs⟩ : ∃ a1 c1 a2 n2 c2 a3 n3 c3, cs = [.int .i64 t.page, .bool t.isLeaf, .slice a1 (cntT t) c1, .slice a2 n2 c2, .slice a3 n3 c3] := by
    obtain ⟨ka, kc, va, vn, vc, ca, cn, cc, V, C, e, _⟩ := h.open_pos
    exact ⟨_, _, _, _, _, _, _, _, e⟩
  subst ecs
  obtain ⟨PT, hPT⟩ : ∃ z, putW n t key ⟨d, []⟩ = z := ⟨_, rfl⟩
  obtain ⟨pg, hpg⟩ : ∃ z, t.page = z := ⟨_, rfl⟩
  obtain ⟨lf, hlf⟩ : ∃ z, t.isLeaf = z := ⟨_, rfl⟩
  obtain ⟨cn, hcn⟩ : ∃ z, cntT t = z := ⟨_, rfl⟩
  rw [hpg, hlf, hcn] at h ⊢
  rw [hPT]
  obtain ⟨W1, hW1⟩ : ∃ x, w.alloc (.cells #[.int .i64 pg, .bool lf, .slice a1 cn c1, .slice a2 n2 c2, .slice a3 n3 c3] 50) = x := ⟨_, rfl⟩
  obtain ⟨W2, hW2⟩ : ∃ x, W1.alloc (.cells #[.int .i64 0, .bool false, .slice none 0 0, .slice none 0 0, .slice none 0 0] 50) = x := ⟨_, rfl⟩
  have hs1 : W1.heap.size = w.heap.size + 1 := by rw [← hW1, World.size_alloc]
  have hb2 : Below w.heap.size w W2 := by rw [← hW2, ← hW1]; exact Below.al (Below.al (Below.refl _ _))
  have hx2 : Boxes W2 [(w.heap.size + 1, [.int .i64 0, .bool false, .slice none 0 0, .slice none 0 0, .slice none 0 0]), (w.heap.size, [.int .i64 pg, .bool lf, .slice a1 cn c1, .slice a2 n2 c2, .slice a3 n3 c3])] := by
    rw [← hW2, ← hs1]
    refine Boxes.alloc ?_ #[.int .i64 0, .bool false, .slice none 0 0, .slice none 0 0, .slice none 0 0] 50 rfl
    rw [← hW1]
    exact (Boxes.nil w).alloc #[.int .i64 pg, .bool lf, .slice a1 cn c1, .slice a2 n2 c2, .slice a3 n3 c3] 50 (b := w.heap.size) rfl
  have C := tPut_whole (h.below hb2) hw key d hk hd
  have g0 := hx2.cell 1 0 rfl rfl
  have g1 := hx2.cell 1 1 rfl rfl
  have g2 := hx2.cell 1 2 rfl rfl
  have g3 := hx2.cell 1 3 rfl rfl
  have g4 := hx2.cell 1 4 rfl rfl
  have q0 := (hkb.step hb2).cell 0 0 rfl rfl
  have q1 := (hdb.step hb2).cell 0 0 rfl rfl
  have HX2 := Lib.hid hx2
  have HB2 := Lib.hid hb2
  have hs2 : W2.heap.size = w.heap.size + 1 + 1 := by rw [← hW2, World.size_alloc, hs1]
  clear hx2 hb2 hkb hdb h
  go_enter Tryz.func80, Tryz.ntmps80
  go_wp2_with fail
  refine C.mono ?_
  rintro e w3 ⟨M, cs3, hM, rfl, hn3, hw3, hE3, hb3⟩
  rw [hPT] at hn3 hw3 hE3
  obtain ⟨j1, j2, j3, j4, j5, j6, j7, j8, Vj, Cj, ecs3, _⟩ := hn3.open_pos
  subst ecs3
  have hx3 := HX2.out.step hb3
  have z0 := hx3.cell 0 0 rfl rfl
  have z1 := hx3.cell 0 1 rfl rfl
  have z2 := hx3.cell 0 2 rfl rfl
  have z3 := hx3.cell 0 3 rfl rfl
  have z4 := hx3.cell 0 4 rfl rfl
  have u0 := hx3.frozen 0 0 rfl
  have u1 := hx3.frozen 0 1 rfl
  have u2 := hx3.frozen 0 2 rfl
  have u3 := hx3.frozen 0 3 rfl
  have u4 := hx3.frozen 0 4 rfl
  have hnf : ¬ Fr F W2 (w.heap.size + 1) := by
    intro hb
    rcases hb with hb | hb
    · have := hF _ hb
      omega
    · omega
  have HB3 := Lib.hid (below_via HB2.out hb3)
  have HN := Lib.hid hn3
  have HW := Lib.hid hw3
  have HE := Lib.hid hE3
  have HM := Lib.hid hM
  clear hn3 hw3 hE3 hM hx3 hb3 C g0 g1 g2 g3 g4 q0 q1
  go_wp2_with fail
  refine bodyPost_ret (v := .tuple #[.agg #[.int .i64 PT.page, .bool PT.isLeaf, .slice j1 (cntT PT) j2, .slice j3 j4 j5, .slice j6 j7 j8], .int .i64 0]) (by simp [results, Tryz.results80, go_sem, z0, z1, z2, z3, z4]) rfl ?_
  refine ⟨M, [.int .i64 PT.page, .bool PT.isLeaf, .slice j1 (cntT PT) j2, .slice j3 j4 j5, .slice j6 j7 j8], HM.out, rfl, ?nd, HW.out, HE.out, ?be⟩
  case nd => exact NodeOn.mono (fun b hb => by rcases hb with hb | hb; exact .inl hb; exact .inr (Nat.le_trans HB2.out.size hb)) (HN.out.agree (((((AgreeF.refl w3).set (.inl hnf)).set (.inl hnf)).set (.inl hnf)).set (.inl hnf) |>.set (.inl hnf)))
  case be => exact (((((HB3.out.setCell (Nat.le_succ _) _).setCell (Nat.le_succ _) _).setCell (Nat.le_succ _) _).setCell (Nat.le_succ _) _).setCell (Nat.le_succ _) _)
end Go.Proofs.YtpghlmcoajaiiaaGreatDoor
