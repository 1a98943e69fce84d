/- prune.Delete: the walk. -/
import Derived.Test.YtemfnjlfcemehaaTreDlq
import Derived.Test.YtemfnjlfcemehaaM7
import Derived.Test.YtemfnjlfcemehaaTreDpq
import Derived.Test.YtemfnjlfcemehaaM13
import Derived.Test.YtemfnjlfcemehaaM8
import Derived.Test.YtemfnjlfcemehaaM6
import Derived.Deep.RegionHeld3
import Derived.Deep.DeepCutAuto
import Derived.Laws.EntriesVeiled
namespace Go.Proofs.Ytemfnjlfcemehaa
open Go.RowKit

set_option maxRecDepth 100000 in
set_option maxHeartbeats 1000000 in
theorem index_s {w : World} {a : Option Addr} {n c : Nat} {ks : List (List UInt8)} (h : KeysIn w a n c ks) (key : List UInt8) (p : Nat) (hp : ks[p]? = some key) (hne : ∀ j, j < p → ks[j]? ≠ some key) :
    Calls Try.prog 77 #[.slice a n c, .string (strOf key)] w fun e w' => e = .returned (.int .i64 (p : Int)) ∧ w' = w := by
  obtain ⟨e1, e2, e3⟩ := TabR.lens h
  have hpn : p < n := by rw [← e1]; exact (List.getElem?_eq_some_iff.1 hp).1
  have H := Lib.hid h
  have HP := Lib.hid hp
  have HN := Lib.hid hne
  clear h e1 hp hne
  go_enter Try.func77, Try.ntmps77
  go_wp2
  go_loopw [8] (fun s wr => ∃ i : Nat, i ≤ p ∧ s = .int .i64 i ∧ wr = w) (fun s _ => p - (intOf s).toNat)
  case atStart => exact ⟨0, Nat.zero_le _, rfl, rfl⟩
  case round =>
    obtain ⟨i, hi, rfl, rfl⟩ := hrel
    obtain ⟨b, off, rfl, hb, hc⟩ := H.out.at (show i < n by omega)
    obtain ⟨k, hk⟩ : ∃ k, ks[i]?.getD [] = k := ⟨_, rfl⟩
    rw [hk] at hc
    by_cases hlt : i < p
    · have hkk : decide (key = k) = false := by
        refine decide_eq_false fun e => HN.out i hlt ?_
        have hin : i < ks.length := by have := (List.getElem?_eq_some_iff.1 HP.out).1; omega
        rw [List.getElem?_eq_getElem hin] at hk ⊢
        rw [e, ← hk]; rfl
      have q1 := eq_walk hkk
      clear hk hkk
      go_wp2
      go_roundw
      case rel => exact ⟨i + 1, hlt, by go_num, by first | rfl | trivial⟩
      case measure => simp [intOf]; omega
    · obtain rfl : i = p := by omega
      rw [HP.out] at hk
      have hk : key = k := hk
      subst hk
      have q1 : ((strOf key).toList == (strOf key).toList) = true := by simp
      go_wp2
      go_ret
      exact ⟨rfl, rfl⟩
theorem call_down (args : Array Value) (W : World) : (callFunc 76 args).run Try.prog W = .ok (.enter 76 args) W := by kernel_rfl
/-- What the closure captured. -/
def Capt (w : World) (kb db : Nat) (key : List UInt8) : Prop := BoxAt w kb #[.string (strOf key)] ∧ BoxAt w db #[.func (Fn.func 76) #[] #[.pointer (some ⟨kb, 0, none⟩), .pointer (some ⟨db, 0, none⟩)]]
theorem Capt.below {w w' : World} {kb db : Nat} {key : List UInt8} (h : Capt w kb db key) (hb : Below w.heap.size w w') : Capt w' kb db key := ⟨h.1.below hb, h.2.below hb⟩
/-- Both rows cloned. -/
def TwoOwn (wA : World) (m : Nat) (K : List (Cl 1)) (V : List (Cl 2)) (s6 s7 : Value) (wx : World) : Prop :=
  ∃ g6 c6 g7 c7, s6 = .slice (some ⟨g6, 0, none⟩) m c6 ∧ s7 = .slice (some ⟨g7, 0, none⟩) m c7 ∧ wx.ownsRow wA.heap.size 9 1 (.slice (some ⟨g6, 0, none⟩) m c6) m (flatC K) ∧ wx.ownsRow wA.heap.size 100 2 (.slice (some ⟨g7, 0, none⟩) m c7) m (flatC V) ∧ g6 ≠ g7 ∧ Below wA.heap.size wA wx
theorem TwoOwn.mk {wA wx : World} {m : Nat} {K : List (Cl 1)} {V : List (Cl 2)} {a6 a7 : Option Addr} {c6 c7 : Nat} (hm : 0 < m) (h6 : wx.ownsRow wA.heap.size 9 1 (.slice a6 m c6) m (flatC K)) (h7 : wx.ownsRow wA.heap.size 100 2 (.slice a7 m c7) m (flatC V)) (hb : Below wA.heap.size wA wx) : TwoOwn wA m K V (.slice a6 m c6) (.slice a7 m c7) wx := by
  rcases h6.2 with ⟨h0, _⟩ | ⟨g6, cap, cur, hv, hbg, hg, _⟩
  · cases h0; omega
  · cases hv
    rcases h7.2 with ⟨h0, _⟩ | ⟨g7, cap, cur, hv, hbg, hg7, _⟩
    · cases h0; omega
    · cases hv
      refine ⟨g6, c6, g7, c7, rfl, rfl, h6, h7, fun e => ?_, hb⟩
      subst e
      rw [hg] at hg7
      simp at hg7
set_option maxRecDepth 100000 in
set_option maxHeartbeats 2000000 in
theorem down_leaf {n : Nat} {F : Nat → Prop} {w : World} {cs : List Value} {p : Int} {l : List (List UInt8 × Tv)} {kb db : Nat} {key : List UInt8} (h : NodeOn F (n + 1) w cs (.leaf p l)) (ho : DelOk (n + 1) (.leaf p l) key) (hc : Capt w kb db key) :
    Calls Try.prog 76 #[.agg cs.toArray, .pointer (some ⟨kb, 0, none⟩), .pointer (some ⟨db, 0, none⟩)] w (NodeTo F (n + 1) w (.leaf 0 (delL key l))) := by
  obtain ⟨o1, o2, o3⟩ := ho
  have hlt := h.lt
  obtain ⟨ka, kc, va, vn, vc, ca, cn, cc, V, C, rfl, h1, h2, h3, h4, f1, f2, f3⟩ := hlt.open
  have hkb := hc.1.lt
  have hk0 := hc.1.cell (i := 0) rfl
  have hpos : posK key (keysOf l) < l.length := by have := pos_oldF o3; simpa [keysOf] using this
  have hdel := delL_pos o2 o3
  have hkeyat : (keysOf l)[posK key (keysOf l)]? = some key := by
    have := o3
    unfold hasK at this
    simpa using this
  have hkeyne : ∀ j, j < posK key (keysOf l) → (keysOf l)[j]? ≠ some key := fun j hj e => by
    have := posK_lt hj
    rw [e] at this
    exact klt_irrefl _ this
  have hcA : cntT (Tr.leaf p l) = l.length := rfl
  have hkA : (Tr.leaf p l).keys = keysOf l := rfl
  have hpA : (Tr.leaf p l).page = p := rfl
  have hfA : (Tr.leaf p l).isLeaf = true := rfl
  rw [hcA] at h1 hlt f1
  rw [hkA] at h1 h4
  rw [hcA, hpA, hfA] 
  have hV : V.length = l.length := by have := h4.2.1.1; simpa using this
  have hvn : vn = l.length := by rw [← h2.1, hV]
  subst hvn
  obtain ⟨q, hq⟩ : ∃ q, posK key (keysOf l) = q := ⟨_, rfl⟩
  obtain ⟨m, hm⟩ : ∃ m, l.length = m := ⟨_, rfl⟩
  rw [hq] at hpos hdel hkeyat hkeyne
  rw [hm] at h1 h2 f1 f2 hpos o1 hV ⊢
  have hB0 : Below w.heap.size w ((w.alloc (.cells #[.int .i64 p, .bool true, .slice ka m kc, .slice va m vc, .slice ca cn cc] 33)).alloc (.cells #[.int .i64 0, .bool false, .slice none 0 0, .slice none 0 0, .slice none 0 0] 33)) := Below.al (Below.al (Below.refl _ _))
  have hX0 : Boxes _ [(w.heap.size + 1, [.int .i64 0, .bool false, .slice none 0 0, .slice none 0 0, .slice none 0 0]), (w.heap.size, [.int .i64 p, .bool true, .slice ka m kc, .slice va m vc, .slice ca cn cc])] := (((Boxes.nil w).alloc #[.int .i64 p, .bool true, .slice ka m kc, .slice va m vc, .slice ca cn cc] 33 rfl).alloc #[.int .i64 0, .bool false, .slice none 0 0, .slice none 0 0, .slice none 0 0] 33 (b := w.heap.size + 1) (by simp))
  obtain ⟨wA, hwA⟩ : ∃ wA, (w.alloc (.cells #[.int .i64 p, .bool true, .slice ka m kc, .slice va m vc, .slice ca cn cc] 33)).alloc (.cells #[.int .i64 0, .bool false, .slice none 0 0, .slice none 0 0, .slice none 0 0] 33) = wA := ⟨_, rfl⟩
  have hzA : w.heap.size + 2 ≤ wA.heap.size := by rw [← hwA]; simp
  rw [hwA] at hB0 hX0
  have CI := index_s (Raw.tab (h1.below hB0) (tells_keys (keysOf l))) key q hkeyat hkeyne
  have CK : ∀ W, Below wA.heap.size wA W → Calls Try.prog 78 #[.slice ka m kc] W (fun e w' => ∃ a c, e = .returned (.slice a m c) ∧ w'.ownsRow W.heap.size 9 1 (.slice a m c) m (flatC ((keysOf l).map kCell)) ∧ Below W.heap.size W w') := fun W hW => (clone_s (h1.below (below_via hB0 hW)) (by omega)).mono fun e w' h => by
    obtain ⟨a, c, rfl, _, _, ho, hb⟩ := h.sl
    have hl : ((keysOf l).map kCell).length = m := by rw [List.length_map]; simp [keysOf, hm]
    rw [hl] at ho ⊢
    exact ⟨a, c, rfl, ho, hb⟩
  have CV : ∀ W, Below wA.heap.size wA W → Calls Try.prog 79 #[.slice va m vc] W (fun e w' => ∃ a c, e = .returned (.slice a m c) ∧ w'.ownsRow W.heap.size 100 2 (.slice a m c) m (flatC V) ∧ Below W.heap.size W w') := fun W hW => (clone_v (h2.below (below_via hB0 hW)) (by omega)).mono fun e w' h => by
    obtain ⟨a, c, rfl, _, _, ho, hb⟩ := h.sl
    rw [hV] at ho ⊢
    exact ⟨a, c, rfl, ho, hb⟩
  have n0 := hX0.cell 1 0 rfl rfl
  have n1 := hX0.cell 1 1 rfl rfl
  have n2 := hX0.cell 1 2 rfl rfl
  have n3 := hX0.cell 1 3 rfl rfl
  have k0 := (hB0.cell (p := ⟨kb, 0, none⟩) hkb).trans hk0
  have t2 : ∀ W, Below wA.heap.size wA W → W.cell? ⟨w.heap.size, 2, none⟩ = some (.slice ka m kc) := fun W hW => (hX0.step hW).cell 1 2 rfl rfl
  have t3 : ∀ W, Below wA.heap.size wA W → W.cell? ⟨w.heap.size, 3, none⟩ = some (.slice va m vc) := fun W hW => (hX0.step hW).cell 1 3 rfl rfl
  have HX := Lib.hid hX0
  have HB := Lib.hid hB0
  have H4 := Lib.hid h4
  have HV := Lib.hid hV
  have HDEL := Lib.hid hdel
  have HM := Lib.hid hm
  have hA0 : Below wA.heap.size wA wA.drew := (Below.refl _ _).drew
  clear h hlt h1 h2 h3 h4 f1 f2 f3 hX0 hB0 hV hdel hm hq hkeyat hkeyne o2 o3 hc hk0 hcA hkA hpA hfA
  go_enter Try.func76, Try.ntmps76
  go_wp2_with fail
  try rw [hwA]
  clear hwA
  refine CI.mono ?_
  rintro e wB ⟨rfl, rfl⟩
  clear CI n0 n1 n3 k0
  go_upto_region 3 with (fail)
  go_cut [6, 7] (fun s6 s7 wx => TwoOwn wB m ((keysOf l).map kCell) V s6 s7 wx)
  case first =>
    go_region_held3 (fun W => Below wB.heap.size wB W) (first | with_reducible assumption | (repeat (with_reducible first | assumption | exact Below.refl _ _ | apply Below.al | apply Below.dr))) (first | (go_at_call 78; (with_reducible refine (CK _ ?_).mono ?_); (focus (repeat (with_reducible first | assumption | exact Below.refl _ _ | apply Below.al | apply Below.dr))); rintro e w6 ⟨a6, c6, rfl, ho6, hb6⟩; have hB6 : Below wB.heap.size wB w6 := below_via (by (repeat (with_reducible first | assumption | exact Below.refl _ _ | apply Below.al | apply Below.dr))) hb6) | (go_at_call 79; (with_reducible refine (CV _ ?_).mono ?_); (focus (repeat (with_reducible first | assumption | exact Below.refl _ _ | apply Below.al | apply Below.dr))); rintro e w7 ⟨a7, c7, rfl, ho7, hb7⟩; have hB7 : Below wB.heap.size wB w7 := below_via (by (repeat (with_reducible first | assumption | exact Below.refl _ _ | apply Below.al | apply Below.dr))) hb7))
    all_goals
      go_wp2_with fail
      go_meet
      first
        | exact TwoOwn.mk (by omega) (own_held (own_base ho6 (Nat.le_refl _)) hb7) (own_base ho7 hB6.size) hB7
        | exact TwoOwn.mk (by omega) (own_base ho6 hB7.size) (own_held (own_base ho7 (Nat.le_refl _)) hb6) hB6
  case rest =>
  unfold TwoOwn at hcut
  obtain ⟨g6, c6, g7, c7, rfl, rfl, ho6, ho7, hne, hbc⟩ := hcut
  have hlK : ((keysOf l).map kCell).length = m := by rw [List.length_map]; simp [keysOf, HM.out]
  have D6 := delete_s ho6 hlK q hpos (by omega) hbc.size
  clear CK CV t2 t3 hA0 n2
  go_wp2_with fail
  refine D6.mono ?_
  rintro e w8 ⟨rfl, ho8, hb8, hag8⟩
  have ho7' := own_agree ho7 hag8 (fun g hg => by cases hg; exact fun e => hne e.symm)
  have hb8' := hbc.trans hb8
  have D7 := delete_v ho7' HV.out q hpos (by omega) hb8'.size
  clear D6
  go_wp2_with fail
  refine D7.mono ?_
  rintro e w9 ⟨rfl, ho9, hb9, hag9⟩
  have ho8' := own_agree ho8 hag9 (fun g hg => by cases hg; exact hne)
  have hB9 := hb8'.trans hb9
  have hw9 : Below w.heap.size w w9 := HB.out.trans (hB9.mono HB.out.size)
  have hX9 := HX.out.step hB9
  have hlen1 : (((keysOf l).map kCell).take q ++ ((keysOf l).map kCell).drop (q + 1)).length = m - 1 := by rw [List.length_append, List.length_take, List.length_drop, hlK]; omega
  have hlen2 : (V.take q ++ V.drop (q + 1)).length = m - 1 := by rw [List.length_append, List.length_take, List.length_drop, HV.out]; omega
  have hn9 : NodeOn (fun b => (F b ∧ b < w.heap.size) ∨ w.heap.size + 2 ≤ b) (n + 1) w9 [.int .i64 0, .bool true, .slice (some ⟨g6, 0, none⟩) (m - 1) c6, .slice (some ⟨g7, 0, none⟩) (m - 1) c7, .slice none 0 0] (.leaf 0 (delL key l)) := by
    refine NodeOn.shut rfl rfl ?_ (Raw.of_sl ho8' hlen1) (Raw.of_sl ho9 hlen2) (Raw.nil0 _ _) (Fa.of_own ho8' fun b h => .inr (Nat.le_trans hzA h)) (Fa.of_own ho9 fun b h => .inr (Nat.le_trans hzA h)) (Fa.zero _ _) ⟨tells_keys _, ?_, rfl⟩
    · show (keysOf (delL key l)).map kCell = _
      rw [HDEL.out]; simp [keysOf, List.map_take, List.map_drop]
    · have hv := (H4.out.below hw9).2.1
      have := ((hv.take q).append (hv.drop (q + 1))).mono (R' := TvOn (fun b => (F b ∧ b < w.heap.size) ∨ w.heap.size + 2 ≤ b) w9) (fun _ _ _ h => h.mono fun b h => .inl h)
      rw [HDEL.out, List.map_append, List.map_take, List.map_drop]
      exact this
  have hend := node_end (F := F) hw9 (hX9.sub (m := [(w.heap.size + 1, [.int .i64 0, .bool false, .slice none 0 0, .slice none 0 0, .slice none 0 0])]) (by simp)) hn9
  have t0 := hend.1.cell 0 0 rfl rfl
  have t1 := hend.1.cell 0 1 rfl rfl
  have t2 := hend.1.cell 0 2 rfl rfl
  have t3 := hend.1.cell 0 3 rfl rfl
  have t4 := hend.1.cell 0 4 rfl rfl
  have fin := Lib.hid hend.2
  unfold set5 at t0 t1 t2 t3 t4
  have z0 := hX9.cell 0 0 rfl rfl
  have z1 := hX9.cell 0 1 rfl rfl
  have z2 := hX9.cell 0 2 rfl rfl
  have z3 := hX9.cell 0 3 rfl rfl
  have z4 := hX9.cell 0 4 rfl rfl
  have u0 := hX9.frozen 0 0 rfl
  have u1 := hX9.frozen 0 1 rfl
  have u2 := hX9.frozen 0 2 rfl
  have u3 := hX9.frozen 0 3 rfl
  have u4 := hX9.frozen 0 4 rfl
  clear hend D7 hn9 hX9 ho6 ho7 ho7' ho8 ho8' ho9 hb8 hb8' hb9 hag8 hag9 hB9 hw9 hlen1 hlen2 hlK hbc
  go_wp2_with fail
  refine bodyPost_ret (v := .agg #[.int .i64 0, .bool true, .slice (some ⟨g6, 0, none⟩) (m - 1) c6, .slice (some ⟨g7, 0, none⟩) (m - 1) c7, .slice none 0 0]) (by simp [results, Try.results76, go_sem, t0, t1, t2, t3, t4]) rfl ?_
  exact fin.out
theorem own_five {w : World} {B g n c : Nat} {e : TypeId} {xs : List Value} (h : w.ownsRow B e 5 (.slice (some ⟨g, 0, none⟩) n c) n xs) (hc : n ≤ c) {k : Nat} (hk : k < n) :
    ∃ y0 y1 y2 y3 y4, w.cell? ⟨g, k * 5, none⟩ = some y0 ∧ w.cell? ⟨g, k * 5 + 1, none⟩ = some y1 ∧ w.cell? ⟨g, k * 5 + 2, none⟩ = some y2 ∧ w.cell? ⟨g, k * 5 + 3, none⟩ = some y3 ∧ w.cell? ⟨g, k * 5 + 4, none⟩ = some y4 := by
  have := Nat.mul_le_mul_right 5 (show k + 1 ≤ c by omega)
  obtain ⟨y0, h0⟩ := Option.isSome_iff_exists.1 (own_room h (j := k * 5) (by omega))
  obtain ⟨y1, h1⟩ := Option.isSome_iff_exists.1 (own_room h (j := k * 5 + 1) (by omega))
  obtain ⟨y2, h2⟩ := Option.isSome_iff_exists.1 (own_room h (j := k * 5 + 2) (by omega))
  obtain ⟨y3, h3⟩ := Option.isSome_iff_exists.1 (own_room h (j := k * 5 + 3) (by omega))
  obtain ⟨y4, h4⟩ := Option.isSome_iff_exists.1 (own_room h (j := k * 5 + 4) (by omega))
  exact ⟨y0, y1, y2, y3, y4, h0, h1, h2, h3, h4⟩
theorem down_leaf' {n : Nat} {F : Nat → Prop} {w : World} {cs : List Value} {p : Int} {l : List (List UInt8 × Tv)} {kb db : Nat} {key : List UInt8} (h : NodeOn F (n + 1) w cs (.leaf p l)) (ho : DelOk (n + 1) (.leaf p l) key) (hc : Capt w kb db key) :
    Calls Try.prog 76 #[.agg cs.toArray, .pointer (some ⟨kb, 0, none⟩), .pointer (some ⟨db, 0, none⟩)] w (NodeTo F (n + 1) w (delT (n + 1) (.leaf p l) key)) := down_leaf h ho hc
set_option maxRecDepth 100000 in
set_option maxHeartbeats 2000000 in
theorem down_any : ∀ {N : Nat} {F : Nat → Prop} {w : World} {cs : List Value} {t : Tr} {kb db : Nat} {key : List UInt8}, NodeOn F N w cs t → DelOk N t key → Capt w kb db key → Calls Try.prog 76 #[.agg cs.toArray, .pointer (some ⟨kb, 0, none⟩), .pointer (some ⟨db, 0, none⟩)] w (NodeTo F N w (delT N t key))
  | 0, _, _, _, _, _, _, _, h, _, _ => h.elim
  | N + 1, F, w, cs, .leaf p l, kb, db, key, h, ho, hc => down_leaf' h ho hc
  | N + 1, F, w, cs, .node p l, kb, db, key, h, ho, hc => by
    have IH := fun {F : Nat → Prop} {w : World} {cs : List Value} {t : Tr} (h : NodeOn F N w cs t) (ho : DelOk N t key) (hc : Capt w kb db key) => down_any h ho hc
    obtain ⟨o1, o2, o3, M, rfl, o4⟩ := ho
    have hlt := h.lt
    have hkb := hc.1.lt
    have hk0 := hc.1.cell (i := 0) rfl
    have hdb := hc.2.lt
    have hd0 := hc.2.cell (i := 0) rfl
    obtain ⟨ka, kc, va, vn, vc, ca, cn, cc, V, C, rfl, h1, h2, h3, h4, f1, f2, f3⟩ := hlt.open
    obtain ⟨_, r1, r2⟩ := h4.toR.lens
    have hV : V = [] := h4.2.1
    have hcn : cn = l.length := by rw [← h3.1, r2]; rfl
    have hvn : vn = 0 := by rw [← h2.1, hV]; rfl
    subst hV hcn hvn
    obtain ⟨k, hkx⟩ : ∃ k, wayF (keysOf l) key = k := ⟨_, rfl⟩
    have hk : k < l.length := by rw [← hkx]; have := wayF_lt (ks := keysOf l) key (by simpa [keysOf] using o1); simpa [keysOf] using this
    rw [hkx] at o3 o4
    obtain ⟨bc, oc, y, yc, eca, hbc, hy, _, hyc, hcell⟩ := TabR.at h3 hk
    have hyc : yc = y.1 := hyc
    subst hyc eca
    have hkid := kid_tells h4.2.2 hy
    obtain ⟨q1, q2, q3, q4, q5, q6, q7, q8, _, _, ey, _⟩ := NodeOn.open_pos hkid
    rw [ey] at hcell hkid
    have hcA : cntT (Tr.node p l) = l.length := rfl
    have hpA : (Tr.node p l).page = p := rfl
    have hfA : (Tr.node p l).isLeaf = false := rfl
    have hkA : (Tr.node p l).keys = keysOf l := rfl
    rw [hcA, hpA, hfA] at hlt ⊢
    rw [hcA, hkA] at h1
    rw [hkA] at h4
    rw [hcA] at f1
    obtain ⟨m, hm⟩ : ∃ m, l.length = m := ⟨_, rfl⟩
    rw [hm] at hk h1 h3 hlt o1 o2 f1 f3 ⊢
    have hB0 : Below w.heap.size w ((w.alloc (.cells #[.int .i64 p, .bool false, .slice ka m kc, .slice va 0 vc, .slice (some ⟨bc, oc, none⟩) m cc] 33)).alloc (.cells #[.int .i64 0, .bool false, .slice none 0 0, .slice none 0 0, .slice none 0 0] 33)) := Below.al (Below.al (Below.refl _ _))
    have hX0 : Boxes _ [(w.heap.size + 1, [.int .i64 0, .bool false, .slice none 0 0, .slice none 0 0, .slice none 0 0]), (w.heap.size, [.int .i64 p, .bool false, .slice ka m kc, .slice va 0 vc, .slice (some ⟨bc, oc, none⟩) m cc])] := (((Boxes.nil w).alloc #[.int .i64 p, .bool false, .slice ka m kc, .slice va 0 vc, .slice (some ⟨bc, oc, none⟩) m cc] 33 rfl).alloc #[.int .i64 0, .bool false, .slice none 0 0, .slice none 0 0, .slice none 0 0] 33 (b := w.heap.size + 1) (by simp))
    obtain ⟨wA, hwA⟩ : ∃ wA, (w.alloc (.cells #[.int .i64 p, .bool false, .slice ka m kc, .slice va 0 vc, .slice (some ⟨bc, oc, none⟩) m cc] 33)).alloc (.cells #[.int .i64 0, .bool false, .slice none 0 0, .slice none 0 0, .slice none 0 0] 33) = wA := ⟨_, rfl⟩
    have hzA : w.heap.size + 2 ≤ wA.heap.size := by rw [← hwA]; simp
    rw [hwA] at hB0 hX0
    have CW := tway_any (hlt.below hB0).toIn key (by rw [hcA, hm]; omega)
    rw [hkA, hkx] at CW
    have n0 := hX0.cell 1 0 rfl rfl
    have n1 := hX0.cell 1 1 rfl rfl
    have n2 := hX0.cell 1 2 rfl rfl
    have n3 := hX0.cell 1 3 rfl rfl
    have n4 := hX0.cell 1 4 rfl rfl
    have k0 := (hB0.cell (p := ⟨kb, 0, none⟩) hkb).trans hk0
    obtain ⟨T1, hT1⟩ : ∃ x, delT (M + 1) (kidAt l k) key = x := ⟨_, rfl⟩
    rw [hT1] at o4
    have HPT : Hid (delT (M + 1 + 1) (.node p l) key = mendT 0 (l.set k (keyAt l k, T1)) k) := Lib.hid (by
      show mendT 0 (l.set (wayF (keysOf l) key) (keyAt l (wayF (keysOf l) key), delT (M + 1) (kidAt l (wayF (keysOf l) key)) key)) (wayF (keysOf l) key) = _
      rw [hkx, hT1])
    have HX := Lib.hid hX0
    have HB := Lib.hid hB0
    have H1 := Lib.hid h1
    have H3 := Lib.hid h3
    have H4 := Lib.hid h4
    have HN := Lib.hid hlt
    have HO3 := Lib.hid o3
    have HO4 := Lib.hid o4
    have HM := Lib.hid hm
    have HT1 := Lib.hid hT1
    have HKID := Lib.hid hkid
    have HCELL := Lib.hid hcell
    have HC := Lib.hid hc
    have HF1 := Lib.hid f1
    have hl2 := h1.lens
    have hl3 := h3.lens
    obtain ⟨_, e2, e3⟩ := hl2
    obtain ⟨_, e5, e6⟩ := hl3
    clear h h1 h2 h3 h4 hlt o3 o4 hX0 hB0 r1 r2 hcA hpA hfA hkA hm hkx hT1 hkid hy ey hcell hc hk0 f1 f2 f3
    go_enter Try.func76, Try.ntmps76
    go_wp2_with fail
    try rw [hwA]
    clear hwA
    refine CW.mono ?_
    rintro e wB ⟨rfl, hbB⟩
    have hXB := HX.out.step hbB
    have HBW := Lib.hid (HB.out.trans (hbB.mono HB.out.size))
    have hzB : w.heap.size + 2 ≤ wB.heap.size := Nat.le_trans hzA hbB.size
    have CN := clone_n (H3.out.below HBW.out) (by omega)
    clear CW n0 n1 n2 n3 n4 k0 hbB
    have n4 := hXB.cell 1 4 rfl rfl
    have HXB := Lib.hid hXB
    clear hXB
    go_wp2_with fail
    refine CN.mono ?_
    rintro e wC hqC
    obtain ⟨g9', c9, he, hc9, hc9', ho9, hbC⟩ := hqC.sl
    rw [H3.out.1] at he hc9 ho9
    cases he
    obtain ⟨g9, rfl, hg9⟩ : ∃ g, g9' = some ⟨g, 0, none⟩ ∧ wB.heap.size ≤ g := by
      rcases ho9.2 with ⟨h0, _⟩ | ⟨g, cap, cur, hv, hbg, hg, _⟩
      · cases h0; omega
      · cases hv; exact ⟨g, rfl, hbg⟩
    have hg9lt : g9 < wC.heap.size := (ho9.lt g9 rfl).2
    have HO9 := Lib.hid ho9
    have HBC := Lib.hid (HBW.out.trans (hbC.mono HBW.out.size))
    have HXC := Lib.hid (HXB.out.step hbC)
    clear CN n4 ho9 hbC hqC
    obtain ⟨kp, hkp⟩ : ∃ x, (kidAt l k).page = x := ⟨_, rfl⟩
    obtain ⟨kl, hkl⟩ : ∃ x, (kidAt l k).isLeaf = x := ⟨_, rfl⟩
    obtain ⟨kcn, hkc⟩ : ∃ x, cntT (kidAt l k) = x := ⟨_, rfl⟩
    have HCD : ∀ W, Below wC.heap.size wC W → Calls Try.prog 76 #[.agg #[.int .i64 (kidAt l k).page, .bool (kidAt l k).isLeaf, .slice q1 (cntT (kidAt l k)) q2, .slice q3 q4 q5, .slice q6 q7 q8], .pointer (some ⟨kb, 0, none⟩), .pointer (some ⟨db, 0, none⟩)] W (NodeGo (fun b => (F b ∧ b < w.heap.size) ∨ wC.heap.size ≤ b) (M + 1) W T1) := fun W hW => by
      have := IH (HKID.out.below (below_via HBC.out hW)) HO3.out (HC.out.below (below_via HBC.out hW))
      rw [HT1.out] at this
      exact this.mono fun e w' h => h.go fun b h => by rcases h with h | h; exact .inl h; exact .inr (by have := hW.size; omega)
    rw [hkp, hkl, hkc] at HCD HCELL
    clear hkp hkl hkc
    have hA0 : AgreeF (fun b => b ≠ g9) wC wC.drew := AgreeF.dr (AgreeF.refl _)
    have fk4 : ∀ W, AgreeF (fun b => b ≠ g9) wC W → W.cell? ⟨w.heap.size, 4, none⟩ = some (.slice (some ⟨bc, oc, none⟩) m cc) := fun W hW => (hW.cell (by omega) (HXC.out.lt 1 rfl)).trans (HXC.out.cell 1 4 rfl rfl)
    have fd0 : ∀ W, AgreeF (fun b => b ≠ g9) wC W → W.cell? ⟨db, 0, none⟩ = some (.func (Fn.func 76) #[] #[.pointer (some ⟨kb, 0, none⟩), .pointer (some ⟨db, 0, none⟩)]) := fun W hW => (hW.cell (by omega) (Nat.lt_of_lt_of_le hdb HBC.out.size)).trans ((HBC.out.cell (p := ⟨db, 0, none⟩) hdb).trans hd0)
    have hbc' : bc ≠ g9 := by have : bc < w.heap.size := hbc; omega
    have hbc2 : bc < wC.heap.size := Nat.lt_of_lt_of_le hbc HBC.out.size
    have kc0 : ∀ W, AgreeF (fun b => b ≠ g9) wC W → W.cell? ⟨bc, oc + k * 5, none⟩ = some (.int .i64 kp) := fun W hW => (hW.cell hbc' hbc2).trans ((HBC.out.cell (p := ⟨bc, oc + k * 5, none⟩) hbc).trans (HCELL.out 0 _ rfl))
    have kc1 : ∀ W, AgreeF (fun b => b ≠ g9) wC W → W.cell? ⟨bc, oc + k * 5 + 1, none⟩ = some (.bool kl) := fun W hW => (hW.cell hbc' hbc2).trans ((HBC.out.cell (p := ⟨bc, oc + k * 5 + 1, none⟩) hbc).trans (HCELL.out 1 _ rfl))
    have kc2 : ∀ W, AgreeF (fun b => b ≠ g9) wC W → W.cell? ⟨bc, oc + k * 5 + 2, none⟩ = some (.slice q1 kcn q2) := fun W hW => (hW.cell hbc' hbc2).trans ((HBC.out.cell (p := ⟨bc, oc + k * 5 + 2, none⟩) hbc).trans (HCELL.out 2 _ rfl))
    have kc3 : ∀ W, AgreeF (fun b => b ≠ g9) wC W → W.cell? ⟨bc, oc + k * 5 + 3, none⟩ = some (.slice q3 q4 q5) := fun W hW => (hW.cell hbc' hbc2).trans ((HBC.out.cell (p := ⟨bc, oc + k * 5 + 3, none⟩) hbc).trans (HCELL.out 3 _ rfl))
    have kc4 : ∀ W, AgreeF (fun b => b ≠ g9) wC W → W.cell? ⟨bc, oc + k * 5 + 4, none⟩ = some (.slice q6 q7 q8) := fun W hW => (hW.cell hbc' hbc2).trans ((HBC.out.cell (p := ⟨bc, oc + k * 5 + 4, none⟩) hbc).trans (HCELL.out 4 _ rfl))
    go_upto_region 7 with (fail)
    go_region_held3 (fun W => AgreeF (fun b => b ≠ g9) wC W) (first | with_reducible assumption | (repeat (with_reducible first | assumption | exact AgreeF.refl _ | apply AgreeF.al | apply AgreeF.dr | apply AgreeF.st))) (first | (go_at_call 76; (with_reducible refine (HCD _ ?_).mono ?_); (focus (repeat (with_reducible first | assumption | exact Below.refl _ _ | apply Below.al | apply Below.dr))); rintro e w9 ⟨p1, l1, a1, m1, c1, b1, m2, c2, b2, m3, c3, rfl, hn1, hb1⟩; have hB1 : Below wC.heap.size wC w9 := below_via (by (repeat (with_reducible first | assumption | exact Below.refl _ _ | apply Below.al | apply Below.dr))) hb1; have hA1 : AgreeF (fun b => b ≠ g9) wC w9 := .of_below hB1; have ho1 := own_held HO9.out hB1; obtain ⟨y0, y1, y2, y3, y4, i0, i1, i2, i3, i4⟩ := own_five ho1 hc9 hk; have j0 := ho1.frozenAt (k * 5); have j1 := ho1.frozenAt (k * 5 + 1); have j2 := ho1.frozenAt (k * 5 + 2); have j3 := ho1.frozenAt (k * 5 + 3); have j4 := ho1.frozenAt (k * 5 + 4)))
    obtain ⟨cB, hcB⟩ : ∃ c : Cl 5, c.1 = [.int .i64 p1, .bool l1, .slice a1 m1 c1, .slice b1 m2 c2, .slice b2 m3 c3] := ⟨⟨[.int .i64 p1, .bool l1, .slice a1 m1 c1, .slice b1 m2 c2, .slice b2 m3 c3], rfl, by intro u hu; simp at hu; rcases hu with rfl | rfl | rfl | rfl | rfl <;> rfl⟩, rfl⟩
    have ho10 := own_set5 ho1 H3.out.1 hk cB hcB
    have hag := ((((((AgreeF.refl (F := fun b => b ≠ g9) w9).set (p := ⟨g9, k * 5, none⟩) (u := .int .i64 p1) (.inl fun h => h rfl)).set (p := ⟨g9, k * 5 + 1, none⟩) (u := .bool l1) (.inl fun h => h rfl)).set (p := ⟨g9, k * 5 + 2, none⟩) (u := .slice a1 m1 c1) (.inl fun h => h rfl)).set (p := ⟨g9, k * 5 + 3, none⟩) (u := .slice b1 m2 c2) (.inl fun h => h rfl)).set (p := ⟨g9, k * 5 + 4, none⟩) (u := .slice b2 m3 c3) (.inl fun h => h rfl))
    have hwg : w.heap.size ≤ g9 := by omega
    have hw9 : Below w.heap.size w w9 := HBC.out.trans (hB1.mono HBC.out.size)
    have hbel := (((((hw9.setCell (p := ⟨g9, k * 5, none⟩) hwg (.int .i64 p1)).setCell (p := ⟨g9, k * 5 + 1, none⟩) hwg (.bool l1)).setCell (p := ⟨g9, k * 5 + 2, none⟩) hwg (.slice a1 m1 c1)).setCell (p := ⟨g9, k * 5 + 3, none⟩) hwg (.slice b1 m2 c2)).setCell (p := ⟨g9, k * 5 + 4, none⟩) hwg (.slice b2 m3 c3))
    obtain ⟨w10, hw10⟩ : ∃ x, (((((w9.setCell ⟨g9, k * 5, none⟩ (.int .i64 p1)).setCell ⟨g9, k * 5 + 1, none⟩ (.bool l1)).setCell ⟨g9, k * 5 + 2, none⟩ (.slice a1 m1 c1)).setCell ⟨g9, k * 5 + 3, none⟩ (.slice b1 m2 c2)).setCell ⟨g9, k * 5 + 4, none⟩ (.slice b2 m3 c3)) = x := ⟨_, rfl⟩
    rw [hw10] at ho10 hag hbel
    try rw [hw10]
    clear hw10
    have hk' : k < l.length := by rw [HM.out]; exact hk
    have hkC : k < C.length := by rw [H3.out.1]; exact hk
    have hzC : wB.heap.size ≤ wC.heap.size := by omega
    have hnode : NodeOn (fun b => (F b ∧ b < w.heap.size) ∨ w.heap.size + 2 ≤ b) (M + 2) w10 [.int .i64 0, .bool false, .slice ka m kc, .slice none 0 0, .slice (some ⟨g9, 0, none⟩) m c9] (.node 0 (l.set k (keyAt l k, T1))) := by
      have hF' : ∀ b, (F b ∧ b < w.heap.size) → b ≠ g9 := fun b h e => by have := h.2; omega
      have h4' := NodeRF.mono (G := fun b => (F b ∧ b < w.heap.size) ∨ w.heap.size + 2 ≤ b) ((H4.out.below hw9).agree (hag.sub hF')) (fun b h => .inl h)
      have hn1' := NodeOn.mono (G := fun b => (F b ∧ b < w.heap.size) ∨ w.heap.size + 2 ≤ b) (fun b h => by rcases h with h | h; exact .inl h; exact .inr (by omega)) (hn1.agree (hag.sub (fun b h e => by rcases h with h | h; exact hF' b h e; omega)))
      have hs := setR (p := p) (B := cB) (t := T1) h4' hk' (by rw [hcB]; exact hn1')
      rw [← set_swap hkC] at hs
      refine NodeOn.shut rfl rfl ?_ (TabR.agree (H1.out.below hw9) HF1.out (hag.sub hF') (fun _ _ _ h => h)) (Raw.nil0 _ _) (Raw.of_sl ho10 (by rw [List.length_set, H3.out.1])) (HF1.out.mono fun b h => .inl h) (Fa.zero _ _) (Fa.of_own ho10 fun b h => .inr (by omega)) hs
      rw [show (Tr.node 0 (l.set k (keyAt l k, T1))).keys = keysOf (l.set k (keyAt l k, T1)) from rfl, set_keys hk']
    obtain ⟨TM, hTM⟩ : ∃ x, mendT 0 (l.set k (keyAt l k, T1)) k = x := ⟨_, rfl⟩
    have CM : Calls Try.prog 44 #[.agg #[.int .i64 0, .bool false, .slice ka m kc, .slice none 0 0, .slice (some ⟨g9, 0, none⟩) m c9], .int .i64 (k : Int)] w10 (NodeGo (fun b => (F b ∧ b < w.heap.size) ∨ w.heap.size + 2 ≤ b) (M + 2) w10 TM) := by
      have := tmend_any hnode k (by simpa using hk') HO4.out
      rw [hTM] at this
      exact this.mono fun e w'' h => h.go fun b h => by rcases h with h | h; exact h; exact .inr (by have := hbel.size; have := hag.1; have := hB1.size; omega)
    have HTM := Lib.hid hTM
    have hX10 : Boxes w10 _ := (HXC.out.step hB1).agree hag (fun p hp => by simp at hp; rcases hp with rfl | rfl <;> simp <;> omega)
    have f2' := hX10.cell 1 2 rfl rfl
    have HX10 := Lib.hid hX10
    have HB10 := Lib.hid hbel
    clear fk4 fd0 kc0 kc1 kc2 kc3 kc4 HCD hn1 hb1 hB1 hA1 ho1 i0 i1 i2 i3 i4 j0 j1 j2 j3 j4 ho10 hag hbel hw9 hnode hTM hX10 hA0 hcB
    go_wp2_with fail

    refine CM.mono ?_
    rintro e w11 ⟨p3, l3, d1, k1, e1', d2, k2, e2', d3, k3, e3', rfl, hn3, hb3⟩
    have hX11 := HX10.out.step hb3
    have hend := node_end (F := F) (HB10.out.trans (hb3.mono HB10.out.size)) (hX11.sub (m := [(w.heap.size + 1, [.int .i64 0, .bool false, .slice none 0 0, .slice none 0 0, .slice none 0 0])]) (by simp)) hn3
    have t0 := hend.1.cell 0 0 rfl rfl
    have t1 := hend.1.cell 0 1 rfl rfl
    have t2 := hend.1.cell 0 2 rfl rfl
    have t3 := hend.1.cell 0 3 rfl rfl
    have t4 := hend.1.cell 0 4 rfl rfl
    have fin := Lib.hid hend.2
    unfold set5 at t0 t1 t2 t3 t4
    have z0 := hX11.cell 0 0 rfl rfl
    have z1 := hX11.cell 0 1 rfl rfl
    have z2 := hX11.cell 0 2 rfl rfl
    have z3 := hX11.cell 0 3 rfl rfl
    have z4 := hX11.cell 0 4 rfl rfl
    have u0 := hX11.frozen 0 0 rfl
    have u1 := hX11.frozen 0 1 rfl
    have u2 := hX11.frozen 0 2 rfl
    have u3 := hX11.frozen 0 3 rfl
    have u4 := hX11.frozen 0 4 rfl
    clear hend hn3 hb3 hX11 CM f2'
    go_wp2_with fail
    refine bodyPost_ret (v := .agg #[.int .i64 p3, .bool l3, .slice d1 k1 e1', .slice d2 k2 e2', .slice d3 k3 e3']) (by simp [results, Try.results76, go_sem, t0, t1, t2, t3, t4]) rfl ?_
    rw [HPT.out, HTM.out]
    exact fin.out
end Go.Proofs.Ytemfnjlfcemehaa
