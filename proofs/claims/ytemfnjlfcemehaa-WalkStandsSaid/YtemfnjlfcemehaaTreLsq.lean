/- The law WalkStands (printed by gen_treLs.py). -/
import Derived.Test.YtemfnjlfcemehaaM15
import Derived.Deep.QuietTactic
import Derived.BigQuiet
import Derived.Deep.RegionHeld3
import Derived.Deep.DeepCutAuto
import Derived.Deep.CutBlock
namespace Go.Proofs.Ytemfnjlfcemehaa
open Go.RowKit

theorem behind_key {a b : List UInt8} (h : a < b) : ¬ b < a ++ [0] := by
  induction a generalizing b with
  | nil =>
    cases b with
    | nil => exact absurd h (knil [])
    | cons y r =>
      intro h2
      rw [List.nil_append, List.cons_lt_cons_iff] at h2
      rcases h2 with h2 | ⟨_, h2⟩
      · have : y.toNat < (0 : UInt8).toNat := h2
        simp at this
      · exact knil r h2
  | cons x q ih =>
    cases b with
    | nil => exact absurd h (knil _)
    | cons y r =>
      intro h2
      rw [List.cons_lt_cons_iff] at h
      rw [List.cons_append, List.cons_lt_cons_iff] at h2
      rcases h with h | ⟨rfl, h⟩
      · rcases h2 with h2 | ⟨rfl, _⟩
        · have h : x.toNat < y.toNat := h
          have h2 : y.toNat < x.toNat := h2
          omega
        · have h : y.toNat < y.toNat := h
          omega
      · rcases h2 with h2 | ⟨_, h2⟩
        · have h2 : x.toNat < x.toNat := h2
          omega
        · exact ih h h2
theorem lt_behind (a : List UInt8) : a < a ++ [0] := by
  induction a with
  | nil => exact List.nil_lt_cons _ _
  | cons x q ih => rw [List.cons_append, List.cons_lt_cons_iff]; exact .inr ⟨rfl, ih⟩
theorem keys_lt {E : List (List UInt8 × Tv)} (hs : (keysOf E).Pairwise (fun a b => a < b)) {i j : Nat} (hij : i < j) (hj : j < E.length) : (keysOf E)[i]?.getD [] < (keysOf E)[j]?.getD [] := by
  have hl : (keysOf E).length = E.length := by simp [keysOf]
  have := List.pairwise_iff_getElem.1 hs i j (by omega) (by omega) hij
  rw [List.getElem?_eq_getElem (by omega), List.getElem?_eq_getElem (by omega)]
  exact this
theorem pos_key {E : List (List UInt8 × Tv)} (hs : (keysOf E).Pairwise (fun a b => a < b)) {i : Nat} {c : List UInt8 × Tv} (h : E[i]? = some c) : posK c.1 (keysOf E) = i := by
  have hi := (List.getElem?_eq_some_iff.1 h).1
  have hk : (keysOf E)[i]?.getD [] = c.1 := by simp [keysOf, h]
  refine posK_eq (by simp [keysOf]; omega) (fun j hj => ?_) (fun _ => ?_)
  · rw [← hk]; exact keys_lt hs hj hi
  · rw [hk]; exact klt_irrefl _
theorem pos_behind {E : List (List UInt8 × Tv)} (hs : (keysOf E).Pairwise (fun a b => a < b)) {i : Nat} {c : List UInt8 × Tv} (h : E[i]? = some c) : posK (c.1 ++ [0]) (keysOf E) = i + 1 := by
  have hi := (List.getElem?_eq_some_iff.1 h).1
  have hk : (keysOf E)[i]?.getD [] = c.1 := by simp [keysOf, h]
  refine posK_eq (by simp [keysOf]; omega) (fun j hj => ?_) (fun hlt => ?_)
  · by_cases e : j = i
    · subst e; rw [hk]; exact lt_behind _
    · refine klt_trans ?_ (lt_behind c.1)
      rw [← hk]; exact keys_lt hs (by omega) hi
  · refine behind_key ?_
    rw [← hk]; exact keys_lt hs (by omega) (by simpa [keysOf] using hlt)
set_option maxRecDepth 100000 in
set_option maxHeartbeats 4000000 in
theorem lStands {w : World} {a : Option Addr} {n c : Nat} {l : List St} (h : Sts w a n c l)  :
    Calls Try.prog 4 #[.slice a n c] w fun e w' => e = .returned (.bool true) ∧ Below w.heap.size w w' := by
  have HP := Lib.hid h
  have A := awake17_any w
  clear h
  go_enter Try.func4, Try.ntmps4
  go_wp2_with fail
  refine A.mono ?_
  rintro e w1 ⟨rfl, hb1⟩
  have hp1 : Sts w1 a n c l := TabR.below (Nat.le_refl _) hb1 HP.out
  clear A
  go_wp2_with fail
  refine (built_any hp1).mono ?_
  rintro e w2 ⟨hb2, h2⟩
  have HB2 := Lib.hid (below_via hb1 hb2)
  rcases h2 with ⟨hs, p, lf, a3, m3, d3, rfl⟩ | ⟨hs, N, T, p, lf, a3, m3, d3, rfl, hR, hW, hN, hE⟩
  · clear hp1 hb1 hb2 hs
    go_wp2_with fail
    go_ret
    exact ⟨rfl, Below.al HB2.out⟩
  have hl120 : l.length ≤ 120 := (okS_facts hs).1
  have hN200 : N ≤ 200 := by omega
  have hE120 : (entsT N T).length ≤ 120 := by omega
  obtain ⟨W2, hW2⟩ : ∃ x, w2.alloc (.cells #[.int .i64 p, .bool lf, .slice a3 m3 d3] 26) = x := ⟨_, rfl⟩
  have hx2 : Boxes W2 [(w2.heap.size, [.int .i64 p, .bool lf, .slice a3 m3 d3])] := by
    rw [← hW2]; exact (Boxes.nil w2).alloc #[.int .i64 p, .bool lf, .slice a3 m3 d3] 26 (b := w2.heap.size) rfl
  have hb22 : Below w2.heap.size w2 W2 := by rw [← hW2]; exact Below.al (Below.refl _ _)
  have hRl : RNodeOn (fun x => x < w2.heap.size) N W2 [.int .i64 p, .bool lf, .slice a3 m3 d3] T := (hR.lt.mono (fun _ h => h.2)).below hb22
  have CN := node17_any (fun x (hx : x < w2.heap.size) => Nat.lt_of_lt_of_le hx hb22.size) hRl hW.bnd
  have HX2 := Lib.hid hx2
  have HR2 := Lib.hid hRl
  have HB22 := Lib.hid (below_via HB2.out hb22)
  have HWH := Lib.hid hW
  have m0 := hx2.cell 0 0 rfl rfl
  have m1 := hx2.cell 0 1 rfl rfl
  have m2 := hx2.cell 0 2 rfl rfl
  have h22 : w2.heap.size < W2.heap.size := hx2.lt 0 rfl
  clear hp1 hb1 hb2 hs hR hW hN hE hx2 hb22 hRl HB2
  go_wp2_with fail
  refine CN.mono ?_
  rintro e w3 ⟨cs, rfl, hn3, hb3⟩
  obtain ⟨x1, k1, x2, n2, k2, x3, n3, k3, ecs, _, _⟩ := hn3.words
  subst ecs
  obtain ⟨W3, hW3⟩ : ∃ x, w3.alloc (.cells #[.int .i64 T.page, .bool T.isLeaf, .slice x1 (cntT T) k1, .slice x2 n2 k2, .slice x3 n3 k3] 33) = x := ⟨_, rfl⟩
  have hb33 : Below w3.heap.size w3 W3 := by rw [← hW3]; exact Below.al (Below.refl _ _)
  have hx3 : Boxes W3 [(w3.heap.size, [.int .i64 T.page, .bool T.isLeaf, .slice x1 (cntT T) k1, .slice x2 n2 k2, .slice x3 n3 k3]), (w2.heap.size, [.int .i64 p, .bool lf, .slice a3 m3 d3])] := by
    rw [← hW3]; exact (HX2.out.step hb3).alloc #[.int .i64 T.page, .bool T.isLeaf, .slice x1 (cntT T) k1, .slice x2 n2 k2, .slice x3 n3 k3] 33 (b := w3.heap.size) rfl
  have HN3 : Hid (NodeOn (fun x => x < w3.heap.size) N W3 [.int .i64 T.page, .bool T.isLeaf, .slice x1 (cntT T) k1, .slice x2 n2 k2, .slice x3 n3 k3] T) := Lib.hid ((hn3.lt.mono fun _ h => h.2).below hb33)
  have HR3 := Lib.hid ((HR2.out.below hb3).below hb33)
  have HB3 := Lib.hid (below_via (below_via HB22.out hb3) hb33)
  have h23 : w2.heap.size < w3.heap.size := by have := hb3.size; omega
  have h33 : w3.heap.size < W3.heap.size := hx3.lt 0 rfl
  have HX3 := Lib.hid hx3
  clear CN hn3 hb3 hb33 hx3 m0 m1 m2 HX2 HR2 HB22
  have hne0 : 0 < N := HWH.out.low
  have hX := HX3.out.step (Below.refl _ _)
  have m0 := hX.cell 1 0 rfl rfl
  have m1 := hX.cell 1 1 rfl rfl
  have m2 := hX.cell 1 2 rfl rfl
  clear hX
  obtain ⟨E, hE⟩ : ∃ E, entsT N T = E := ⟨_, rfl⟩
  have CE := ents_from HR3.out HWH.out.bnd (by omega)
  have hsrt : (keysOf E).Pairwise (fun a b => a < b) := by rw [← hE]; exact (whole_ents HWH.out).1
  rw [hE] at CE hE120
  have HSRT := Lib.hid hsrt
  have HEE := Lib.hid hE
  clear hE hsrt
  go_wp2_with fail
  refine CE.mono ?_
  rintro e w5 ⟨a5, m5, c5, rfl, he5, _, hb5⟩
  clear CE m0 m1 m2
  obtain ⟨e51, e52, e53⟩ := he5.len
  have hm5 : m5 ≤ 120 := by omega
  have HE5 := Lib.hid he5
  have HB5 := Lib.hid hb5
  have HL5 := Lib.hid e51
  have hw35 := hb5.size
  have CS : ∀ (key : List UInt8) (W : World), Below w5.heap.size w5 W → Calls Try.prog 20 #[.agg #[.int .i64 T.page, .bool T.isLeaf, .slice x1 (cntT T) k1, .slice x2 n2 k2, .slice x3 n3 k3], .string (strOf key)] W fun e w' => ∃ b v, e = .returned (.pointer (some ⟨b, 0, none⟩)) ∧ W.heap.size ≤ b ∧ Cur N (b + 1) b (fun x => x < w3.heap.size) w' v (E.drop (posK key (keysOf E))) ∧ Below W.heap.size W w' := fun key W hW =>
    (seek_whole (fun x (hx : x < w3.heap.size) => by have := hW.size; omega) (HN3.out.below (below_via hb5 hW)) HWH.out hN200 key).mono fun e w' ⟨v, e1, h1, h2⟩ => ⟨_, v, e1, by omega, by rw [HEE.out] at h1; exact h1, h2⟩
  clear he5 hb5 e51
  go_wp2_with fail
  go_loopw [8] (fun s8 wr => ∃ (i : Nat), i ≤ m5 ∧ s8 = .int .i64 i ∧ Below w5.heap.size w5 wr) (fun s _ => m5 - (intOf s).toNat)
  case atStart => exact ⟨0, Nat.zero_le _, rfl, Below.refl _ _⟩
  case round =>
    obtain ⟨i, hi, rfl, hb⟩ := hrel
    by_cases him : i < m5
    · have he := HE5.out.below hb
      obtain ⟨bq, oq, y, rfl, hbq, hy, c0, c1⟩ := he.at him
      have hbq5 : bq < w5.heap.size := by
        obtain ⟨_, _, _, ea, hb9, _⟩ := HE5.out.at him
        cases ea; exact hb9
      have hX := HX3.out.step (below_via HB5.out hb)
      have hl3 : w3.heap.size < wr.heap.size := by have := hb.size; omega
      have L0 : ∀ W, Below wr.heap.size wr W → W.cell? ⟨w3.heap.size, 0, none⟩ = _ := fun W hW => (hW.cell (p := ⟨w3.heap.size, 0, none⟩) hl3).trans (hX.cell 0 0 rfl rfl)
      have L1 : ∀ W, Below wr.heap.size wr W → W.cell? ⟨w3.heap.size, 1, none⟩ = _ := fun W hW => (hW.cell (p := ⟨w3.heap.size, 1, none⟩) hl3).trans (hX.cell 0 1 rfl rfl)
      have L2 : ∀ W, Below wr.heap.size wr W → W.cell? ⟨w3.heap.size, 2, none⟩ = _ := fun W hW => (hW.cell (p := ⟨w3.heap.size, 2, none⟩) hl3).trans (hX.cell 0 2 rfl rfl)
      have L3 : ∀ W, Below wr.heap.size wr W → W.cell? ⟨w3.heap.size, 3, none⟩ = _ := fun W hW => (hW.cell (p := ⟨w3.heap.size, 3, none⟩) hl3).trans (hX.cell 0 3 rfl rfl)
      have L4 : ∀ W, Below wr.heap.size wr W → W.cell? ⟨w3.heap.size, 4, none⟩ = _ := fun W hW => (hW.cell (p := ⟨w3.heap.size, 4, none⟩) hl3).trans (hX.cell 0 4 rfl rfl)
      have K0 : ∀ W, Below wr.heap.size wr W → W.cell? ⟨bq, oq + i * 4, none⟩ = _ := fun W hW => (hW.cell (p := ⟨bq, oq + i * 4, none⟩) hbq).trans c0
      have HY := Lib.hid hy
      obtain ⟨yk, yv⟩ := y
      have C1 : ∀ W, Below wr.heap.size wr W → Calls Try.prog 20 #[.agg #[.int .i64 T.page, .bool T.isLeaf, .slice x1 (cntT T) k1, .slice x2 n2 k2, .slice x3 n3 k3], .string (strOf yk)] W fun e w' => ∃ b v, e = .returned (.pointer (some ⟨b, 0, none⟩)) ∧ wr.heap.size ≤ b ∧ Cur N (b + 1) b (fun x => x < w3.heap.size) w' v ((yk, yv) :: E.drop (i + 1)) ∧ Below wr.heap.size wr w' := fun W hW => by
        refine (CS yk W (below_via hb hW)).mono fun e w' ⟨b, v, e1, h1, h2, h3⟩ => ⟨b, v, e1, Nat.le_trans hW.size h1, ?_, below_via hW h3⟩
        have hdr : E.drop (posK yk (keysOf E)) = (yk, yv) :: E.drop (i + 1) := by
          rw [pos_key (c := (yk, yv)) HSRT.out hy]
          obtain ⟨g1, g2⟩ := List.getElem?_eq_some_iff.1 hy
          rw [List.drop_eq_getElem_cons g1, g2]
        rw [hdr] at h2; exact h2
      have hA0 : Below wr.heap.size wr wr.drew := Below.dr (Below.refl _ _)
      have him' : (i : Int) < (m5 : Int) := by omega
      have h0i : (0 : Int) ≤ (i : Int) := by omega
      have hwi : IntKind.i64.wrap ((i : Int) + 1) = (i : Int) + 1 := IntWalk.i64_in _ (by omega)
      have HBR := Lib.hid hb
      clear he c0 c1 hX hy hb
      dsimp only at K0
      go_upto_region 12 with (fail)
      go_region_held3 (fun W => Below wr.heap.size wr W) (first | with_reducible assumption | (repeat (with_reducible first | assumption | exact Below.refl _ _ | apply Below.al | apply Below.dr))) (first | (go_at_call 20; (with_reducible refine (C1 _ ?_).mono ?_); (focus (repeat (with_reducible first | assumption | apply Below.dr))); rintro e w6 ⟨b6, v6, rfl, hle6, hc6, hA6⟩))
      go_wp2_with fail
      refine (next_cur hc6 (by have := hc6.lt9; omega) hN200).mono ?_
      rintro e w8 ⟨rfl, v8, hc8, hst8⟩
      dsimp only [keyH, someH, valH, List.tail_cons] at hc8 ⊢
      have hge6 := hc6.ge
      have hlt6 := hc6.lt9
      have hb8 : Below wr.heap.size wr w8 := hA6.trans (hst8.toBelow (by omega) (fun g hg => by have := hge6 g hg; omega) hA6.size)
      have hs68 := hst8.1.1
      have HC8 := Lib.hid hc8
      clear hc6 hA6 hst8 C1 hge6
      have K8 : ∀ W, Below w8.heap.size w8 W → W.cell? ⟨bq, oq + i * 4, none⟩ = some (.string (strOf yk)) := fun W hW => K0 W (below_via hb8 hW)
      have L8 : ∀ W, Below w8.heap.size w8 W → W.cell? ⟨w3.heap.size, 0, none⟩ = _ := fun W hW => L0 W (below_via hb8 hW)
      have L9 : ∀ W, Below w8.heap.size w8 W → W.cell? ⟨w3.heap.size, 1, none⟩ = _ := fun W hW => L1 W (below_via hb8 hW)
      have L10 : ∀ W, Below w8.heap.size w8 W → W.cell? ⟨w3.heap.size, 2, none⟩ = _ := fun W hW => L2 W (below_via hb8 hW)
      have L11 : ∀ W, Below w8.heap.size w8 W → W.cell? ⟨w3.heap.size, 3, none⟩ = _ := fun W hW => L3 W (below_via hb8 hW)
      have L12 : ∀ W, Below w8.heap.size w8 W → W.cell? ⟨w3.heap.size, 4, none⟩ = _ := fun W hW => L4 W (below_via hb8 hW)
      have hw58 := below_via HBR.out hb8
      have hj : i < E.length := by have := HL5.out; omega
      have hkl : yk.length ≤ 16 := by
        have := (whole_ents HWH.out).2 (yk, yv) (by rw [HEE.out]; exact List.mem_of_getElem? HY.out)
        exact this.1.2
      have ha : ∀ W, (Op.stringOp .add (strOf yk) ⟨#[0]⟩).run Try.prog W = .ok (.string (strOf (yk ++ [0]))) W := fun W => by
        rw [show (⟨#[0]⟩ : ByteArray) = strOf [0] from rfl, run_string_add_sum W _ _ (by rw [strOf_size, strOf_size]; simp; omega), strOf_append]
      have C2 : ∀ W, Below w8.heap.size w8 W → Calls Try.prog 20 #[.agg #[.int .i64 T.page, .bool T.isLeaf, .slice x1 (cntT T) k1, .slice x2 n2 k2, .slice x3 n3 k3], .string (strOf (yk ++ [0]))] W fun e w' => ∃ b v, e = .returned (.pointer (some ⟨b, 0, none⟩)) ∧ w8.heap.size ≤ b ∧ Cur N (b + 1) b (fun x => x < w3.heap.size) w' v (E.drop (i + 1)) ∧ Below w8.heap.size w8 w' := fun W hW => by
        refine (CS (yk ++ [0]) W (below_via hw58 hW)).mono fun e w' ⟨b, v, e1, h1, h2, h3⟩ => ⟨b, v, e1, Nat.le_trans hW.size h1, ?_, below_via hW h3⟩
        rw [pos_behind (c := (yk, yv)) HSRT.out HY.out] at h2; exact h2
      have hA8 : Below w8.heap.size w8 w8.drew := Below.dr (Below.refl _ _)
      have HB8 := Lib.hid hw58
      clear L0 L1 L2 L3 L4 K0 hc8 hb8 hw58 hs68 hle6
      go_upto_region 14 with (fail)
      go_region_held3 (fun W => Below w8.heap.size w8 W) (first | with_reducible assumption | (repeat (with_reducible first | assumption | exact Below.refl _ _ | apply Below.al | apply Below.dr))) (first | (go_at_call 20; (with_reducible refine (C2 _ ?_).mono ?_); (focus (repeat (with_reducible first | assumption | apply Below.dr))); rintro e w9 ⟨b9, v9, rfl, hle9, hc9, hA9⟩))
      have hc8 := HC8.out.below hA9
      have HB9 := Lib.hid (below_via HB8.out hA9)
      have CP := peek_cur hc9 (by omega)
      have HC8 := Lib.hid hc8
      have HC9 := Lib.hid hc9
      clear hc8 hc9 hA9 C2 L8 L9 L10 L11 L12 K8
      have hst := strOf_toList
      have hkk : ((strOf yk).toList == (strOf yk).toList) = true := by simp
      have hkd : ((strOf yv.data).toList == (strOf yv.data).toList) = true := by simp
      by_cases hlast : i + 1 < m5
      · obtain ⟨bq', oq', y2, eqa, hb'', hy2, _, _⟩ := HE5.out.at hlast
        obtain ⟨zk, zv⟩ := y2
        have hdr : E.drop (i + 1) = (zk, zv) :: E.drop (i + 2) := by
          obtain ⟨g1, g2⟩ := List.getElem?_eq_some_iff.1 hy2
          rw [List.drop_eq_getElem_cons g1, g2]
        have HY2 := Lib.hid hy2
        rw [hdr] at CP HC8 HC9
        have hne : (((i : Int) + 1) == (m5 : Int)) = false := by simp; omega
        have hne2 : decide (((i : Int) + 1) = (m5 : Int)) = false := by simp; omega
        clear eqa hb'' hy2 hdr
        go_wp2_with fail
        refine CP.mono ?_
        rintro e w10 ⟨rfl, hb10⟩
        dsimp only [keyH, someH]
        have HB10 := Lib.hid (below_via HB9.out hb10)
        have he := HE5.out.below HB10.out
        obtain ⟨_, _, y, eqa, _, hy, c0, c1⟩ := he.at him
        cases eqa
        rw [HY.out] at hy
        cases hy
        obtain ⟨_, _, y, eqa, _, hy, c2, c3⟩ := he.at hlast
        cases eqa
        rw [HY2.out] at hy
        cases hy
        have CP2 := peek_cur (HC8.out.below hb10) (by omega)
        have htn : ((i : Int) + 1).toNat = i + 1 := by omega
        have hi1 : (i : Int) + 1 < (m5 : Int) := by omega
        have h0i1 : (0 : Int) ≤ (i : Int) + 1 := by omega
        have hkz : ((strOf zk).toList == (strOf zk).toList) = true := by simp
        have HD8 := Lib.hid (HC8.out.below hb10)
        have HD9 := Lib.hid (HC9.out.below hb10)
        clear CP he hb10 HC8 HC9
        dsimp only at c0 c1 c2 c3
        go_wp2_with fail
        refine CP2.mono ?_
        rintro e w11 ⟨rfl, hb11⟩
        dsimp only [keyH, someH]
        have CD1 := depth_cur (HD8.out.below hb11)
        have CD2 := depth_cur (HD9.out.below hb11)
        have HB11 := Lib.hid (below_via HB10.out hb11)
        dsimp only [deepC] at CD1 CD2
        have hNN : ((N : Int) == (N : Int)) = true := by simp
        clear CP2 hb11 HD8 HD9 c0 c1 c2 c3
        go_wp2_with fail
        refine CD1.mono ?_
        rintro e w12 ⟨rfl, rfl⟩
        go_wp2_with fail
        refine CD2.mono ?_
        rintro e w12 ⟨rfl, rfl⟩
        clear CD1 CD2
        go_wp2_with fail
        go_roundw
        case rel => exact ⟨i + 1, him, by go_num, HB11.out⟩
        case measure => simp [intOf]; omega
      · have hdr : E.drop (i + 1) = [] := List.drop_of_length_le (by have := HL5.out; omega)
        rw [hdr] at CP HC8 HC9
        have hne : (((i : Int) + 1) == (m5 : Int)) = true := by simp; omega
        have hne2 : decide (((i : Int) + 1) = (m5 : Int)) = true := by simp; omega
        clear hdr
        go_wp2_with fail
        refine CP.mono ?_
        rintro e w10 ⟨rfl, hb10⟩
        dsimp only [keyH, someH]
        have HB10 := Lib.hid (below_via HB9.out hb10)
        have he := HE5.out.below HB10.out
        obtain ⟨_, _, y, eqa, _, hy, c0, c1⟩ := he.at him
        cases eqa
        rw [HY.out] at hy
        cases hy
        have CP2 := peek_cur (HC8.out.below hb10) (by omega)
        have HD8 := Lib.hid (HC8.out.below hb10)
        have HD9 := Lib.hid (HC9.out.below hb10)
        clear CP he hb10 HC8 HC9
        dsimp only at c0 c1
        go_wp2_with fail
        refine CP2.mono ?_
        rintro e w11 ⟨rfl, hb11⟩
        dsimp only [keyH, someH]
        have CD1 := depth_cur (HD8.out.below hb11)
        have CD2 := depth_cur (HD9.out.below hb11)
        have HB11 := Lib.hid (below_via HB10.out hb11)
        dsimp only [deepC] at CD1 CD2
        clear CP2 hb11 HD8 HD9 c0 c1
        go_wp2_with fail
        refine CD1.mono ?_
        rintro e w12 ⟨rfl, rfl⟩
        go_wp2_with fail
        refine CD2.mono ?_
        rintro e w12 ⟨rfl, rfl⟩
        clear CD1 CD2
        go_wp2_with fail
        go_roundw
        case rel => exact ⟨i + 1, him, by go_num, HB11.out⟩
        case measure => simp [intOf]; omega
    · obtain rfl : i = m5 := by omega
      have him' : decide ((i : Int) < (i : Int)) = false := by simp
      have hX := HX3.out.step (below_via HB5.out hb)
      have n0 := hX.cell 0 0 rfl rfl
      have n1 := hX.cell 0 1 rfl rfl
      have n2' := hX.cell 0 2 rfl rfl
      have n3' := hX.cell 0 3 rfl rfl
      have n4 := hX.cell 0 4 rfl rfl
      have CC := count_any (HN3.out.below (below_via HB5.out hb)).toIn (by rw [HEE.out]; omega)
      rw [HEE.out, HL5.out] at CC
      have HEND := Lib.hid (below_via HB3.out (below_via HB5.out hb))
      have hii : ((i : Int) == (i : Int)) = true := by simp
      clear hX hb CS
      go_wp2_with fail
      refine CC.mono ?_
      rintro e w9 ⟨rfl, hb9⟩
      have HE9 := Lib.hid (below_via HEND.out hb9)
      go_wp2_with fail
      go_ret
      exact ⟨rfl, HE9.out⟩
end Go.Proofs.Ytemfnjlfcemehaa
