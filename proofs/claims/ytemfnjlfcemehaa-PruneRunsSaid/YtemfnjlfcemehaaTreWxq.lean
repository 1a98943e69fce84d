/- The document's without: the walk. -/
import Derived.Test.YtemfnjlfcemehaaTreWwq
namespace Go.Proofs.Ytemfnjlfcemehaa
open Go.RowKit

theorem delL_snoc {key : List UInt8} {l : List (List UInt8 × Tv)} {i : Nat} {x : List UInt8 × Tv} (h : l[i]? = some x) : cellsR (.leaf 0 (delL key (l.take (i + 1)))) = cellsR (.leaf 0 (delL key (l.take i))) ++ (if x.1 = key then [] else [⟨x.1, x.2, none⟩]) := by
  rw [List.take_add_one, h]
  by_cases hk : x.1 = key <;> simp [delL, cellsR, List.filter_append, hk]
theorem delL_short (key : List UInt8) (l : List (List UInt8 × Tv)) (i : Nat) : (cellsR (.leaf 0 (delL key (l.take i)))).length ≤ i := by
  rw [cellsR_len]
  show (delL key (l.take i)).length ≤ i
  unfold delL
  have h1 := List.length_filter_le (fun c => c.1 != key) (l.take i)
  have h2 := List.length_take_le i l
  omega
set_option maxRecDepth 100000 in
set_option maxHeartbeats 3000000 in
theorem rwithout_leaf {n : Nat} {key : List UInt8} {F : Nat → Prop} {w : World} {cs : List Value} {p : Int} {l : List (List UInt8 × Tv)} (hF : ∀ b, F b → b < w.heap.size) (h : RNodeOn F (n + 1) w cs (.leaf p l)) (hl9 : l.length ≤ 900) :
    Calls Try.prog 83 #[.agg cs.toArray, .string (strOf key)] w (RNodeTo F (n + 1) w (.leaf 0 (delL key l))) := by
  obtain ⟨a, c, rfl, h1, hfa⟩ := h.at
  obtain ⟨e1, e2, e3⟩ := h1.lens
  obtain ⟨m, hml⟩ : ∃ m, cntT (.leaf p l) = m := ⟨_, rfl⟩
  have hlm : l.length = m := hml
  rw [hml] at h1 e1 e2 ⊢
  have hm9 : m ≤ 900 := by rw [← hlm]; exact hl9
  show Calls _ _ #[.agg #[.int .i64 p, .bool true, .slice a m c], .string (strOf key)] _ _
  obtain ⟨W2, hW2⟩ : ∃ x, (w.alloc (.cells #[.int .i64 p, .bool true, .slice a m c] 26)).alloc (.cells #[.int .i64 0, .bool false, .slice none 0 0] 26) = x := ⟨_, rfl⟩
  have hb2 : Below w.heap.size w W2 := by rw [← hW2]; exact Below.al (Below.al (Below.refl _ _))
  have hx2 : Boxes W2 [(w.heap.size + 1, [.int .i64 0, .bool false, .slice none 0 0]), (w.heap.size, [.int .i64 p, .bool true, .slice a m c])] := by
    rw [← hW2]
    exact ((Boxes.nil w).alloc #[.int .i64 p, .bool true, .slice a m c] 26 (b := w.heap.size) rfl).alloc #[.int .i64 0, .bool false, .slice none 0 0] 26 (b := w.heap.size + 1) (by simp)
  have hsz2 : W2.heap.size = w.heap.size + 2 := by rw [← hW2]; simp
  have n1 := hx2.cell 1 1 rfl rfl
  have HX2 := Lib.hid hx2
  have HB2 := Lib.hid hb2
  have HR := Lib.hid h1
  have HLM := Lib.hid hlm
  have HS2 := Lib.hid hsz2
  have hF2 : ∀ b, F b → b < W2.heap.size := fun b hb => by have := hF b hb; omega
  have HF2 := Lib.hid hF2
  clear hx2 hb2 h1 h hfa hml e1 hlm hl9 hsz2 hF2
  go_enter Try.func83, Try.ntmps83
  go_wp2_with fail
  clear hW2 n1
  go_loopw [5, 6] (fun s5 s6 wr => ∃ (i q : Nat) (av : Option Addr) (dv : Nat), i ≤ m ∧ q ≤ i ∧ s6 = .int .i64 i ∧ s5 = .slice av q dv ∧ CellsF 48 F n W2.heap.size wr s5 (cellsR (.leaf 0 (delL key (l.take i)))) ∧ Boxes wr [(w.heap.size + 1, [.int .i64 0, .bool false, .slice none 0 0]), (w.heap.size, [.int .i64 p, .bool true, .slice a m c])] ∧ Below w.heap.size w wr) (fun _ s _ => m - (intOf s).toNat)
  case atStart => exact ⟨0, 0, none, 0, Nat.zero_le _, Nat.le_refl _, rfl, rfl, CellsF.nil _ _ _ _ _, HX2.out, HB2.out⟩
  case round =>
    obtain ⟨i, q, av, dv, hi, hq, rfl, rfl, hc, hx, hb⟩ := hrel
    have f2 := hx.cell 1 2 rfl rfl
    have hge : ∀ g, (Value.slice av q dv).ownBlock = some g → W2.heap.size ≤ g ∧ g < wr.heap.size := fun g hg => hc.ge hg
    by_cases him : i < m
    · obtain ⟨b, off, y, pa1, pn1, pc1, ka1, kn1, kc1, rfl, hbb, hy, hyc, _, _, _, _, e0, e1, e2', e3'⟩ := RNodeOn.cell HR.out him
      rw [cellsR_leaf] at hy
      obtain ⟨x, hx1, hx2⟩ := Option.map_eq_some_iff.1 hy
      subst hx2
      have hsn := delL_snoc (key := key) hx1
      have l0 := (hb.cell (p := ⟨b, off + i * 4, none⟩) hbb).trans e0
      have l1 := (hb.cell (p := ⟨b, off + i * 4 + 1, none⟩) hbb).trans e1
      have l2 := (hb.cell (p := ⟨b, off + i * 4 + 2, none⟩) hbb).trans e2'
      have l3 := (hb.cell (p := ⟨b, off + i * 4 + 3, none⟩) hbb).trans e3'
      have him' : (i : Int) < (m : Int) := by omega
      by_cases hk : x.1 = key
      · rw [if_pos hk, List.append_nil] at hsn
        obtain ⟨c1, c2⟩ := cmp_eq key
        have c2' : ((strOf key).toList != (strOf key).toList) = false := by simp
        rw [hk] at l0
        rw [← hsn] at hc
        have HC := Lib.hid hc
        have HX := Lib.hid hx
        have HB := Lib.hid hb
        clear hc hx hb hsn hk e0 e1 e2' e3' hyc hy hx1
        go_wp2_with fail
        go_roundw
        case rel => exact ⟨i + 1, q, av, dv, by omega, by omega, by go_num, rfl, HC.out, HX.out, HB.out⟩
        case measure => simp [intOf]; omega
      · rw [if_neg hk] at hsn
        have hne : ((strOf x.1).toList == (strOf key).toList) = false := by
          rw [strOf_toList, strOf_toList]; simpa using hk
        have hne' : ((strOf x.1).toList != (strOf key).toList) = true := by
          rw [strOf_toList, strOf_toList]; simpa using hk
        obtain ⟨v8, w8, hr8, c8, hg8⟩ := hc.append Try.underlying24 info_Cw (by have := hx.lt 0 rfl; have := HS2.out; have := hb.size; exact Nat.le_trans (Nat.le_of_eq HS2.out) (by omega)) HF2.out (by have := delL_short key l i; omega) (RcOn.below hyc hb)
        have hx8 := hx.grown hg8 (by intro q' hq' e; have := hge _ e; have := HS2.out; simp at hq'; rcases hq' with rfl | rfl <;> omega)
        have hb8 := hb.grown hg8 hb.size (fun k hk => by have := hge k hk; have := HS2.out; omega)
        rw [← hsn] at c8
        obtain ⟨a8, d8, ev8, _, _, _, _, _⟩ := c8.sl
        obtain ⟨q8, hq8⟩ : ∃ q8, (cellsR (.leaf 0 (delL key (l.take (i + 1))))).length = q8 := ⟨_, rfl⟩
        have hq8i : q8 ≤ i + 1 := by rw [← hq8]; exact delL_short key l (i + 1)
        rw [hq8] at ev8
        subst ev8
        have HC := Lib.hid c8
        have HX := Lib.hid hx8
        have HB := Lib.hid hb8
        clear hc hx hb hsn hk e0 e1 e2' e3' hyc hy hx1 c8 hx8 hb8 hg8 hq8
        go_wp2_with (at_builtin; refine wpList_append_run rfl _ _ _ _ rfl rfl rfl hr8 ?_)
        go_roundw
        case rel => exact ⟨i + 1, q8, a8, d8, by omega, hq8i, by go_num, rfl, HC.out, HX.out, HB.out⟩
        case measure => simp [intOf]; omega
    · have him' : decide ((i : Int) < (m : Int)) = false := by simp; omega
      have hs2 := HS2.out
      rw [List.take_of_length_le (by rw [HLM.out]; omega)] at hc
      have hq' : (cellsR (.leaf 0 (delL key l))).length = q := by
        obtain ⟨_, _, e, _⟩ := hc.sl
        cases e; rfl
      have hn : RNodeOn (Fr F W2) (n + 1) wr [.int .i64 0, .bool true, .slice av q dv] (.leaf 0 (delL key l)) := hc.nodeH (fun b hb => .inl hb) (fun b hb => .inr hb)
      have z0 := hx.cell 0 0 rfl rfl
      have z1 := hx.cell 0 1 rfl rfl
      have z2 := hx.cell 0 2 rfl rfl
      have y0 := hx.frozen 0 0 rfl
      have y1 := hx.frozen 0 1 rfl
      have y2 := hx.frozen 0 2 rfl
      obtain ⟨t0, t1, t2, HE⟩ := rend (F := F) (w := w) (hx.sub (m := [(w.heap.size + 1, [.int .i64 0, .bool false, .slice none 0 0])]) (by simp)) (by omega) (fun hg => by
        rcases hg with hg | hg
        · have := hF _ hg; omega
        · omega) (fun b hb => by
        rcases hb with hb | hb
        · exact .inl hb
        · exact .inr (by omega)) hn hb
      clear hx hb hc hn hge hq' hs2
      go_wp2_with fail
      refine bodyPost_ret (v := .agg #[.int .i64 0, .bool true, .slice av q dv]) (by simp only [results, Try.results83]; simp [go_sem, t0, t1, t2]) rfl HE.out
set_option maxRecDepth 100000 in
set_option maxHeartbeats 3000000 in
theorem rwithout_node {N : Nat} {key : List UInt8} (IH : ∀ {F : Nat → Prop} {w : World} {cs : List Value} {t : Tr}, (∀ b, F b → b < w.heap.size) → RNodeOn F N w cs t → DelOk N t key → Calls Try.prog 83 #[.agg cs.toArray, .string (strOf key)] w (RNodeTo F N w (delT N t key)))
    {F : Nat → Prop} {w : World} {cs : List Value} {p : Int} {l : List (List UInt8 × Tr)} (hF : ∀ b, F b → b < w.heap.size) (h : RNodeOn F (N + 1) w cs (.node p l)) (ho : DelOk (N + 1) (.node p l) key) :
    Calls Try.prog 83 #[.agg cs.toArray, .string (strOf key)] w (RNodeTo F (N + 1) w (delT (N + 1) (.node p l) key)) := by
  obtain ⟨o1, o2, o3, M, rfl, o4⟩ := ho
  have H := Lib.hid h
  obtain ⟨a, c, rfl, h1, hfa⟩ := h.at
  obtain ⟨e1, e2, e3⟩ := h1.lens
  obtain ⟨m, hml⟩ : ∃ m, cntT (.node p l) = m := ⟨_, rfl⟩
  have hlm : l.length = m := hml
  rw [hml] at h1 hfa e1 e2 ⊢
  obtain ⟨k, hk⟩ : ∃ k, wayF (keysOf l) key = k := ⟨_, rfl⟩
  have hkm : k < m := by rw [← hk, ← hlm, ← show (keysOf l).length = l.length by simp [keysOf]]; exact wayF_lt key (by simpa [keysOf] using o1)
  have hput : delT (M + 1 + 1) (.node p l) key = mendT 0 (l.set k (keyAt l k, delT (M + 1) (kidAt l k) key)) k := by rw [← hk]; rfl
  rw [hk] at o3 o4
  rw [hput]
  obtain ⟨b, off, bk, ok, kcs, pa, pn, pc, kc, rfl, hbb, hbk, hon, d0, d1, d2, d3, hck, hkc1, hkc2⟩ := RNodeOn.kid h1 hkm
  have hm9 : m ≤ 1000 := by rw [← hlm]; exact o2
  obtain ⟨kid, hkd⟩ : ∃ x, kidAt l k = x := ⟨_, rfl⟩
  rw [hkd] at hon o3 o4 ⊢
  obtain ⟨T, hT⟩ : ∃ x, delT (M + 1) kid key = x := ⟨_, rfl⟩
  have IH := fun {F : Nat → Prop} {w : World} {cs : List Value} (h1 : ∀ b, F b → b < w.heap.size) (h2 : RNodeOn F (M + 1) w cs kid) => IH h1 h2 o3
  rw [hT] at IH o4 ⊢
  have q2 : ∀ y, (cellsR (.node p l))[k]? = some y → (cellsR (.node p l)).set k ⟨y.key, y.val, some T⟩ = cellsR (.node 0 (l.set k (keyAt l k, T))) := fun y hy => cells_set hy T
  obtain ⟨L2, hL2⟩ : ∃ x, l.set k (keyAt l k, T) = x := ⟨_, rfl⟩
  have q3 : L2.length = m := by rw [← hL2, List.length_set]; exact hlm
  rw [hL2] at o4 ⊢
  simp only [hL2] at q2
  obtain ⟨ak, ck, rfl, _, _⟩ := hon.at
  obtain ⟨km, hkm'⟩ : ∃ x, cntT kid = x := ⟨_, rfl⟩
  obtain ⟨kp, hkp⟩ : ∃ x, kid.page = x := ⟨_, rfl⟩
  obtain ⟨kl, hkl⟩ : ∃ x, kid.isLeaf = x := ⟨_, rfl⟩
  rw [hkm', hkp, hkl] at hon hck
  show Calls _ _ #[.agg #[.int .i64 p, .bool false, .slice (some ⟨b, off, none⟩) m c], .string (strOf key)] _ _
  obtain ⟨W2, hW2⟩ : ∃ x, (w.alloc (.cells #[.int .i64 p, .bool false, .slice (some ⟨b, off, none⟩) m c] 26)).alloc (.cells #[.int .i64 0, .bool false, .slice none 0 0] 26) = x := ⟨_, rfl⟩
  have hb2 : Below w.heap.size w W2 := by rw [← hW2]; exact Below.al (Below.al (Below.refl _ _))
  have hx2 : Boxes W2 [(w.heap.size + 1, [.int .i64 0, .bool false, .slice none 0 0]), (w.heap.size, [.int .i64 p, .bool false, .slice (some ⟨b, off, none⟩) m c])] := by
    rw [← hW2]
    exact ((Boxes.nil w).alloc #[.int .i64 p, .bool false, .slice (some ⟨b, off, none⟩) m c] 26 (b := w.heap.size) rfl).alloc #[.int .i64 0, .bool false, .slice none 0 0] 26 (b := w.heap.size + 1) (by simp)
  have hsz2 : W2.heap.size = w.heap.size + 2 := by rw [← hW2]; simp
  have n0 := hx2.cell 1 0 rfl rfl
  have n1 := hx2.cell 1 1 rfl rfl
  have n2 := hx2.cell 1 2 rfl rfl
  have CW := rway_any (H.out.below hb2).toRIn key (by rw [hml]; exact hm9)
  rw [show (Tr.node p l).keys = keysOf l from rfl, hk, hml] at CW
  have HX2 := Lib.hid hx2
  have HB2 := Lib.hid hb2
  have HR := Lib.hid h1
  have HON := Lib.hid hon
  have HD3 := Lib.hid d3
  have HCK := Lib.hid hck
  have HO4 := Lib.hid o4
  have Q2 := Lib.hid q2
  have HQ3 := Lib.hid q3
  have HML := Lib.hid hml
  have HS2 := Lib.hid hsz2
  clear hx2 hb2 h1 hon d0 d1 d2 d3 hck h hfa hml hkp hkm' hkl e1 hk hput hkd o3 o4 q2 q3 hL2 hT hlm o1 o2
  go_enter Try.func83, Try.ntmps83
  go_wp2_with fail
  refine CW.mono ?_
  rintro e w3 ⟨rfl, hb3⟩
  have hbw3 := below_via HB2.out hb3
  have hs3 : w.heap.size + 2 ≤ w3.heap.size := by have := hb3.size; omega
  have hx3 := HX2.out.step hb3
  have hF3 : ∀ b, F b → b < w3.heap.size := fun b hb => by have := hF b hb; omega
  have c0 : CellsF 48 F (M + 1) w3.heap.size w3 (.slice none 0 0) [] := CellsF.nil _ _ _ _ _
  obtain ⟨v4, w4, hr4, c4, hg4⟩ := c0.row Try.underlying24 info_Cw (Nat.le_refl _) hF3 (by simp) (TabR.mono (TabR.below (Nat.le_refl _) hbw3 HR.out) (fun _ _ hy => RcOn.below hy hbw3)) (by omega)
  rw [List.nil_append] at c4
  have hb34 : Below w3.heap.size w3 w4 := (Below.refl _ _).grown hg4 (Nat.le_refl _) (fun g hg => by cases hg)
  obtain ⟨a4, d4, ev4, hd4, hd4m, _, _, hg0⟩ := c4.sl
  rw [cellsR_len, HML.out] at ev4 hd4 hg0
  obtain ⟨g, rfl, hg3, hg4', _⟩ := hg0 (by omega)
  subst ev4
  have hbw4 := below_via hbw3 hb34
  have hx4 := hx3.step hb34
  have m2 := hx3.cell 1 2 rfl rfl
  have v2 := hx4.cell 1 2 rfl rfl
  have v3 := (hbw4.cell (p := ⟨b, off + k * 4 + 3, none⟩) hbb).trans HD3.out
  have k0 : w4.cell? ⟨bk, ok, none⟩ = some (.int .i64 kp) := (hbw4.cell (p := ⟨bk, ok, none⟩) hbk).trans (by simpa using HCK.out 0 _ rfl)
  have k1 : w4.cell? ⟨bk, ok + 1, none⟩ = some (.bool kl) := (hbw4.cell (p := ⟨bk, ok + 1, none⟩) hbk).trans (by simpa using HCK.out 1 _ rfl)
  have k2 : w4.cell? ⟨bk, ok + 2, none⟩ = some (.slice ak km ck) := (hbw4.cell (p := ⟨bk, ok + 2, none⟩) hbk).trans (by simpa using HCK.out 2 _ rfl)
  have CP := IH (fun b hb => by have := hF b hb; have := hb34.size; omega) (HON.out.below hbw4)
  have HX4 := Lib.hid hx4
  have HB4 := Lib.hid hbw4
  have HC4 := Lib.hid c4
  have h34 := hb34.size
  clear CW hx3 hx4 hbw3 hb3 n0 n1 n2 IH hW2 c0 c4 hg4 hb34 hbw4 hF3 hg0
  have hkm1 : (k : Int) < (m : Int) := by omega
  go_upto_region 10 with (fail)
  go_upto_region 11 with (at_builtin; refine wpList_append_run rfl _ _ _ _ rfl rfl rfl hr4 ?_)
  clear hr4 m2
  go_wp2_with fail
  refine CP.mono ?_
  rintro e w5 hq
  obtain ⟨p5, l5, a5, m5, d5, rfl, hn5, hb5⟩ := hq.split
  obtain ⟨W6, hW6⟩ : ∃ x, w5.alloc (.cells #[.int .i64 p5, .bool l5, .slice a5 m5 d5] 26) = x := ⟨_, rfl⟩
  have hb56 : Below w5.heap.size w5 W6 := by rw [← hW6]; exact Below.al (Below.refl _ _)
  have hA : BoxAt W6 w5.heap.size #[.int .i64 p5, .bool l5, .slice a5 m5 d5] := by rw [← hW6]; exact BoxAt.here
  have hb46 := below_via hb5 hb56
  have hs5 : w4.heap.size ≤ w5.heap.size := hb5.size
  have hGg : ¬ Fr F w4 g := fun hg => by
    rcases hg with hg | hg
    · have := hF _ hg; omega
    · omega
  have c6 := (HC4.out.below hb46).mono (G := Fr F w4) (fun b hb => .inl hb)
  obtain ⟨_, _, ee, _, _, t6, _, hg0⟩ := c6.sl
  rw [cellsR_len, HML.out] at ee t6 hg0
  cases ee
  obtain ⟨_, eg, _, _, hfz⟩ := hg0 (by omega)
  cases eg
  obtain ⟨_, _, y, _, _, _, _, _, _, eg, _, hy, _, _, _, _, _, _, _, _, z3⟩ := RNodeOn.cell t6 hkm
  cases eg
  rw [Nat.zero_add] at z3
  have hfz := hfz (k * 4 + 3)
  have c7 := c6.kidPut hy hGg (one_kid hA (hn5.below hb56)) (.inr fun b' off' e => by cases e; exact .inr hs5)
  rw [Q2.out y hy] at c7
  obtain ⟨W7, hW7⟩ : ∃ x, W6.setCell ⟨g, k * 4 + 3, none⟩ (.slice (some ⟨w5.heap.size, 0, none⟩) 1 1) = x := ⟨_, rfl⟩
  rw [hW7] at c7
  have hsz7 : W6.heap.size ≤ W7.heap.size := by rw [← hW7]; simp
  have n7 : RNodeOn (Fr F W2) (M + 2) W7 [.int .i64 0, .bool false, .slice (some ⟨g, 0, none⟩) m d4] (.node 0 L2) := c7.nodeH (fun b hb => by
    rcases hb with hb | hb
    · exact .inl hb
    · exact .inr (by omega)) (fun b hb => .inr (by omega))
  have CM := rmend_any (fun _ h => h.2) n7.lt HO4.out (by rw [HQ3.out]; exact hkm)
  have hb7 : Below w.heap.size w W7 := by rw [← hW7]; exact (below_via HB4.out hb46).setCell (by simp; omega) _
  have hx7 : Boxes W7 [(w.heap.size + 1, [.int .i64 0, .bool false, .slice none 0 0])] := by
    rw [← hW7]
    exact ((HX4.out.step hb46).sub (m := [(w.heap.size + 1, [.int .i64 0, .bool false, .slice none 0 0])]) (by simp)).set _ _ (by intro q hq; simp at hq; subst hq; simp; omega)
  have HX7 := Lib.hid hx7
  have HB7 := Lib.hid hb7
  have h7 : w.heap.size + 2 ≤ W7.heap.size := by have := hb56.size; omega
  clear hq hn5 hb5 hb56 hA hb46 hGg c6 t6 hg0 hy c7 n7 hb7 hx7 CP v2 v3 k0 k1 k2
  go_wp2_with fail
  refine CM.mono ?_
  rintro e w8 hq
  obtain ⟨p6, l6, a6, m6, d6, rfl, n6, hb6⟩ := hq.split
  have hx6 := HX7.out.step hb6
  have z0 := hx6.cell 0 0 rfl rfl
  have z1 := hx6.cell 0 1 rfl rfl
  have z2 := hx6.cell 0 2 rfl rfl
  have y0 := hx6.frozen 0 0 rfl
  have y1 := hx6.frozen 0 1 rfl
  have y2 := hx6.frozen 0 2 rfl
  obtain ⟨t0, t1, t2, HE⟩ := rend (F := F) (w := w) hx6 (by omega) (fun hg => by
    have := HS2.out
    rcases hg with hg | hg
    · rcases hg.1 with hg | hg
      · have := hF _ hg; omega
      · omega
    · omega) (fun b hb => by
    have := HS2.out
    rcases hb with hb | hb
    · rcases hb.1 with hb | hb
      · exact .inl hb
      · exact .inr (by omega)
    · exact .inr (by omega)) n6 (below_via HB7.out hb6)
  clear hx6 n6 hq CM hb6
  go_wp2_with fail
  refine bodyPost_ret (v := .agg #[.int .i64 p6, .bool l6, .slice a6 m6 d6]) (by simp only [results, Try.results83]; simp [go_sem, t0, t1, t2]) rfl HE.out
theorem rwithout_any : ∀ {N : Nat} {F : Nat → Prop} {w : World} {cs : List Value} {t : Tr} (key : List UInt8), (∀ b, F b → b < w.heap.size) → RNodeOn F N w cs t → DelOk N t key → Calls Try.prog 83 #[.agg cs.toArray, .string (strOf key)] w (RNodeTo F N w (delT N t key))
  | 0, _, _, _, _, _, _, h, _ => h.elim
  | _ + 1, _, _, _, .leaf _p _l, _key, hF, h, ho => rwithout_leaf hF h ho.1
  | _N + 1, _, _, _, .node _p _l, key, hF, h, ho => rwithout_node (fun h1 h2 h3 => rwithout_any key h1 h2 h3) hF h ho
end Go.Proofs.Ytemfnjlfcemehaa
