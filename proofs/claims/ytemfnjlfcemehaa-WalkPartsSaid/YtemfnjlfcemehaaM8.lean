/- Texts that other texts of this claim lean on, one behind the other. -/
import Derived.Test.YtemfnjlfcemehaaM6
import Derived.Test.YtemfnjlfcemehaaM7
import Derived.Deep.QuietTactic
import Derived.BigQuiet
import Derived.Deep.RegionHeld3
/- The law's tree in the program's form (printed by gen_treNd.py). -/
namespace Go.Proofs.Ytemfnjlfcemehaa
open Go.RowKit

theorem info_sK : RowInfo Try.prog 9 1 16 := row_info (by kernel_rfl)
theorem info_vK : RowInfo Try.prog 100 2 40 := row_info (by kernel_rfl)
theorem info_nK : RowInfo Try.prog 33 5 88 := row_info (by kernel_rfl)
/-- What a node that is built stands on: the source, the result, the node. -/
def NdMid (F : Nat → Prop) (n : Nat) (w : World) (p : Int) (lf : Bool) (src : List Value) (v1 v2 v3 : Value) (K : List (List UInt8)) (V : List Tv) (C : List Tr) (wr : World) : Prop :=
  Boxes wr [(w.heap.size + 1 + 1, [.int .i64 p, .bool lf, v1, v2, v3]), (w.heap.size + 1, zero5.toList), (w.heap.size, src)] ∧ NodeRows 9 100 33 F n (w.heap.size + 3) wr v1 v2 v3 K V C ∧ Below w.heap.size w wr
theorem NdMid.lt {F : Nat → Prop} {n : Nat} {w wr : World} {p : Int} {lf : Bool} {src : List Value} {v1 v2 v3 : Value} {K : List (List UInt8)} {V : List Tv} {C : List Tr} (h : NdMid F n w p lf src v1 v2 v3 K V C wr) : w.heap.size + 1 + 1 < wr.heap.size := h.1.lt 0 rfl
theorem NdMid.below {F : Nat → Prop} {n : Nat} {w wr w' : World} {p : Int} {lf : Bool} {src : List Value} {v1 v2 v3 : Value} {K : List (List UInt8)} {V : List Tv} {C : List Tr} (h : NdMid F n w p lf src v1 v2 v3 K V C wr) (hb : Below wr.heap.size wr w') : NdMid F n w p lf src v1 v2 v3 K V C w' :=
  ⟨h.1.step hb, h.2.1.below hb, h.2.2.trans (hb.mono h.2.2.size)⟩
/-- A key is pushed. -/
theorem NdMid.pushK {F : Nat → Prop} (n : Nat) {w wr : World} (hF : ∀ b, F b → b < w.heap.size) {p : Int} {lf : Bool} {src : List Value} {v1 v2 v3 : Value} {K : List (List UInt8)} {V : List Tv} {C : List Tr} (h : NdMid F n w p lf src v1 v2 v3 K V C wr) (hl : K.length ≤ 1000) (key : List UInt8) :
    ∃ a c w', (Builtin.append_ #[29, 29] 29 #[v1, .slice (some ⟨wr.heap.size, 0, none⟩) 1 1]).run Try.prog (wr.alloc (.cells #[.string (strOf key)] 9)) = .ok (.slice a (K.length + 1) c) w' ∧ AgreeF (fun x => v1.ownBlock ≠ some x ∧ x ≠ w.heap.size + 1 + 1) wr w' ∧
      w'.cell? ⟨w.heap.size + 1 + 1, 2, none⟩ = some v1 ∧ w'.frozen? ⟨w.heap.size + 1 + 1, 2, none⟩ = false ∧
      AgreeF (fun x => v1.ownBlock ≠ some x ∧ x ≠ w.heap.size + 1 + 1) wr (w'.setCell ⟨w.heap.size + 1 + 1, 2, none⟩ (.slice a (K.length + 1) c)) ∧ NdMid F n w p lf src (.slice a (K.length + 1) c) v2 v3 (K ++ [key]) V C (w'.setCell ⟨w.heap.size + 1 + 1, 2, none⟩ (.slice a (K.length + 1) c)) := by
  have hlt := h.lt
  obtain ⟨hx, hr, hb⟩ := h
  obtain ⟨v', w', hrun, hg, ht, hn⟩ := hr.pushK (P := Try.prog) Try.underlying29 info_sK (by decide) (by omega) (by omega) key
  obtain ⟨a, c, _, _, _, _, rfl, _, _⟩ := hn.sl
  rw [List.length_append] at *
  have hag : AgreeF (fun x => v1.ownBlock ≠ some x ∧ x ≠ w.heap.size + 1 + 1) wr w' := ⟨hg.size, fun x hx hlt => hg.block x hlt (fun e => hx.1 e.symm)⟩
  have hge : ∀ g, v1.ownBlock = some g → w.heap.size + 3 ≤ g := fun g hg => (hr.k.lt hg).1
  have hx' := hx.grown hg (by intro q hq e; have := hge _ e; simp at hq; rcases hq with rfl | rfl | rfl <;> simp at this <;> omega)
  refine ⟨a, c, w', hrun, hag, hx'.cell 0 2 rfl rfl, hx'.frozen 0 2 rfl, AgreeF.set hag (.inl fun h => h.2 rfl), hx'.put 2 _ (by intro q hq; simp at hq; rcases hq with rfl | rfl <;> simp <;> omega), hn.set (by simp) (fun hf => by have := hF _ hf; simp at this; omega), (hb.grown hg hb.size (fun g hg => by have := hge g hg; omega)).setCell (by show w.heap.size ≤ w.heap.size + 1 + 1; omega) _⟩
/-- A value is pushed. -/
theorem NdMid.pushV {F : Nat → Prop} (n : Nat) {w wr : World} (hF : ∀ b, F b → b < w.heap.size) {p : Int} {lf : Bool} {src : List Value} {v1 v2 v3 : Value} {K : List (List UInt8)} {V : List Tv} {C : List Tr} (h : NdMid F n w p lf src v1 v2 v3 K V C wr) (hl : V.length ≤ 1000) {d : Value} {a9 : Value} {tv : Tv} (hy : TvOn (G3 F (w.heap.size + 3) v1 v2 v3) wr [d, a9] tv) :
    ∃ a c w', (Builtin.append_ #[30, 30] 30 #[v2, .slice (some ⟨wr.heap.size, 0, none⟩) 1 1]).run Try.prog (wr.alloc (.cells #[d, a9] 100)) = .ok (.slice a (V.length + 1) c) w' ∧ AgreeF (fun x => v2.ownBlock ≠ some x ∧ x ≠ w.heap.size + 1 + 1) wr w' ∧
      w'.cell? ⟨w.heap.size + 1 + 1, 3, none⟩ = some v2 ∧ w'.frozen? ⟨w.heap.size + 1 + 1, 3, none⟩ = false ∧
      AgreeF (fun x => v2.ownBlock ≠ some x ∧ x ≠ w.heap.size + 1 + 1) wr (w'.setCell ⟨w.heap.size + 1 + 1, 3, none⟩ (.slice a (V.length + 1) c)) ∧ NdMid F n w p lf src v1 (.slice a (V.length + 1) c) v3 K (V ++ [tv]) C (w'.setCell ⟨w.heap.size + 1 + 1, 3, none⟩ (.slice a (V.length + 1) c)) := by
  have hlt := h.lt
  obtain ⟨hx, hr, hb⟩ := h
  obtain ⟨v', w', hrun, hg, ht, hn⟩ := hr.pushV (P := Try.prog) Try.underlying30 info_vK (by decide) (by omega) (by omega) hy
  obtain ⟨_, _, a, c, _, _, _, rfl, _⟩ := hn.sl
  rw [List.length_append] at *
  have hag : AgreeF (fun x => v2.ownBlock ≠ some x ∧ x ≠ w.heap.size + 1 + 1) wr w' := ⟨hg.size, fun x hx hlt => hg.block x hlt (fun e => hx.1 e.symm)⟩
  have hge : ∀ g, v2.ownBlock = some g → w.heap.size + 3 ≤ g := fun g hg => (hr.v.lt hg).1
  have hx' := hx.grown hg (by intro q hq e; have := hge _ e; simp at hq; rcases hq with rfl | rfl | rfl <;> simp at this <;> omega)
  refine ⟨a, c, w', hrun, hag, hx'.cell 0 3 rfl rfl, hx'.frozen 0 3 rfl, AgreeF.set hag (.inl fun h => h.2 rfl), hx'.put 3 _ (by intro q hq; simp at hq; rcases hq with rfl | rfl <;> simp <;> omega), hn.set (by simp) (fun hf => by have := hF _ hf; simp at this; omega), (hb.grown hg hb.size (fun g hg => by have := hge g hg; omega)).setCell (by show w.heap.size ≤ w.heap.size + 1 + 1; omega) _⟩
/-- A kid is pushed. -/
theorem NdMid.pushC {F : Nat → Prop} (n : Nat) {w wr : World} (hF : ∀ b, F b → b < w.heap.size) {p : Int} {lf : Bool} {src : List Value} {v1 v2 v3 : Value} {K : List (List UInt8)} {V : List Tv} {C : List Tr} (h : NdMid F n w p lf src v1 v2 v3 K V C wr) (hl : C.length ≤ 1000) {x0 x1 x2 x3 x4 : Value} {kid : Tr} (hy : NodeOn (G3 F (w.heap.size + 3) v1 v2 v3) n wr [x0, x1, x2, x3, x4] kid) :
    ∃ a c w', (Builtin.append_ #[31, 31] 31 #[v3, .slice (some ⟨wr.heap.size, 0, none⟩) 1 1]).run Try.prog (wr.alloc (.cells #[x0, x1, x2, x3, x4] 33)) = .ok (.slice a (C.length + 1) c) w' ∧ AgreeF (fun x => v3.ownBlock ≠ some x ∧ x ≠ w.heap.size + 1 + 1) wr w' ∧
      w'.cell? ⟨w.heap.size + 1 + 1, 4, none⟩ = some v3 ∧ w'.frozen? ⟨w.heap.size + 1 + 1, 4, none⟩ = false ∧
      AgreeF (fun x => v3.ownBlock ≠ some x ∧ x ≠ w.heap.size + 1 + 1) wr (w'.setCell ⟨w.heap.size + 1 + 1, 4, none⟩ (.slice a (C.length + 1) c)) ∧ NdMid F n w p lf src v1 v2 (.slice a (C.length + 1) c) K V (C ++ [kid]) (w'.setCell ⟨w.heap.size + 1 + 1, 4, none⟩ (.slice a (C.length + 1) c)) := by
  have hlt := h.lt
  obtain ⟨hx, hr, hb⟩ := h
  obtain ⟨v', w', hrun, hg, ht, hn⟩ := hr.pushC (P := Try.prog) Try.underlying31 info_nK (by decide) (by omega) (by omega) hy
  obtain ⟨_, _, _, _, a, c, _, _, rfl⟩ := hn.sl
  rw [List.length_append] at *
  have hag : AgreeF (fun x => v3.ownBlock ≠ some x ∧ x ≠ w.heap.size + 1 + 1) wr w' := ⟨hg.size, fun x hx hlt => hg.block x hlt (fun e => hx.1 e.symm)⟩
  have hge : ∀ g, v3.ownBlock = some g → w.heap.size + 3 ≤ g := fun g hg => (hr.c.lt hg).1
  have hx' := hx.grown hg (by intro q hq e; have := hge _ e; simp at hq; rcases hq with rfl | rfl | rfl <;> simp at this <;> omega)
  refine ⟨a, c, w', hrun, hag, hx'.cell 0 4 rfl rfl, hx'.frozen 0 4 rfl, AgreeF.set hag (.inl fun h => h.2 rfl), hx'.put 4 _ (by intro q hq; simp at hq; rcases hq with rfl | rfl <;> simp <;> omega), hn.set (by simp) (fun hf => by have := hF _ hf; simp at this; omega), (hb.grown hg hb.size (fun g hg => by have := hge g hg; omega)).setCell (by show w.heap.size ≤ w.heap.size + 1 + 1; omega) _⟩
set_option maxRecDepth 100000 in
set_option maxHeartbeats 3000000 in
theorem node17_leaf {n : Nat} {F : Nat → Prop} {w : World} {cs : List Value} {p : Int} {l : List (List UInt8 × Tv)} (hF : ∀ b, F b → b < w.heap.size) (h : RNodeOn F (n + 1) w cs (.leaf p l)) (hm : l.length ≤ 1000) :
    Calls Try.prog 19 #[.agg cs.toArray] w (NodeTo F (n + 1) w (.leaf p l)) := by
  obtain ⟨a, c, rfl, h1, _⟩ := h.at
  obtain ⟨e1, e2, e3⟩ := h1.lens
  obtain ⟨kn, hkn'⟩ : ∃ x, cntT (.leaf p l) = x := ⟨_, rfl⟩
  have hkl : l.length = kn := hkn'
  rw [hkn'] at h1 e1 e2 ⊢
  have HV := Lib.hid h1
  have HKL := Lib.hid hkl
  have hkn9 : kn ≤ 1000 := by omega
  have hmid : NdMid F n w p true [.int .i64 p, .bool true, .slice a kn c] (.slice none 0 0) (.slice none 0 0) (.slice none 0 0) ((keysOf l).take 0) ((l.map (·.2)).take 0) [] (((w.alloc (.cells #[.int .i64 p, .bool true, .slice a kn c] 26)).alloc (.cells #[.int .i64 0, .bool false, .slice none 0 0, .slice none 0 0, .slice none 0 0] 33)).alloc (.cells #[.int .i64 p, .bool true, .slice none 0 0, .slice none 0 0, .slice none 0 0] 33)) :=
    ⟨(((Boxes.nil w).alloc #[.int .i64 p, .bool true, .slice a kn c] 26 (b := w.heap.size) rfl).alloc #[.int .i64 0, .bool false, .slice none 0 0, .slice none 0 0, .slice none 0 0] 33 (b := w.heap.size + 1) (by simp)).alloc #[.int .i64 p, .bool true, .slice none 0 0, .slice none 0 0, .slice none 0 0] 33 (b := w.heap.size + 1 + 1) (by simp), NodeRows.nil _ _ _ _ _ _ _, Below.al (Below.al (Below.al (Below.refl _ _)))⟩
  have HMID := Lib.hid hmid
  clear h h1 e1 hmid hkl hkn'
  show Calls _ _ #[.agg #[.int .i64 p, .bool true, .slice a kn c]] _ _
  go_enter Try.func19, Try.ntmps19
  go_wp2_with fail
  go_loopw [4] (fun s4 wr => ∃ (i : Nat) (v1 v2 v3 : Value), i ≤ kn ∧ s4 = .int .i64 i ∧ NdMid F n w p true [.int .i64 p, .bool true, .slice a kn c] v1 v2 v3 ((keysOf l).take i) ((l.map (·.2)).take i) [] wr) (fun s _ => kn - (intOf s).toNat)
  case atStart => exact ⟨0, _, _, _, Nat.zero_le _, rfl, HMID.out⟩
  case round =>
    clear HMID
    obtain ⟨i, v1, v2, v3, hi, rfl, hmid⟩ := hrel
    obtain ⟨a1, k1, a2, k2, a3, k3, rfl, rfl, rfl⟩ := hmid.2.1.sl
    have hlen1 : ((keysOf l).take i).length = i := by rw [List.length_take]; have := HKL.out; simp [keysOf]; omega
    have hlen2 : ((l.map (·.2)).take i).length = i := by rw [List.length_take]; have := HKL.out; simp; omega
    have hlen3 : ([] : List Tr).length = 0 := rfl
    rw [hlen1, hlen2, hlen3] at hmid
    have n1 := hmid.1.cell 2 1 rfl rfl
    have n2 := hmid.1.cell 2 2 rfl rfl
    by_cases hlt : i < kn
    · obtain ⟨b, off, y, pa, pn, pc, qa, qn, qc, rfl, hbb, hy, _, hrow, hfa, _, _, c0, c1, c2, _⟩ := RNodeOn.cell HV.out hlt
      rw [cellsR_leaf] at hy
      obtain ⟨x, hx1, hx2⟩ := Option.map_eq_some_iff.1 hy
      subst hx2
      obtain ⟨key, tv⟩ := x
      dsimp only at *
      have hkey : (keysOf l)[i]? = some key := by simp [keysOf, hx1]
      have htv : (l.map (·.2))[i]? = some tv := by simp [hx1]
      have HKEY := Lib.hid hkey
      have HTV := Lib.hid htv
      have hm0 := hmid.below (Below.dr (Below.refl _ _))
      obtain ⟨a', c', w', hrun1, hA1, f8, f9, hA2, hmidP⟩ := hm0.pushK n hF (by rw [hlen1]; omega) key
      rw [hlen1] at hrun1 hA2 hmidP
      rw [← List.take_succ_eq_append_of hkey] at hmidP
      have HP := Lib.hid hmidP
      have hbw := hmid.2.2
      have HROW := Lib.hid hrow
      have HFA := Lib.hid hfa
      have hsz := hbw.size
      have hge1 : (Value.slice a1 i k1).ownBlock ≠ some w.heap.size := fun e => by have := (hmid.2.1.k.lt e).1; omega
      have hge2 : (Value.slice a1 i k1).ownBlock ≠ some b := fun e => by have := (hmid.2.1.k.lt e).1; omega
      have hne : w.heap.size ≠ w.heap.size + 1 + 1 := by omega
      have hbn : b ≠ w.heap.size + 1 + 1 := by omega
      have hlw : w.heap.size < wr.heap.size := by have := hmid.lt; omega
      have hlb : b < wr.heap.size := by omega
      have hl2 := hmid.lt
      have o2 := hmid.1.cell 0 2 rfl rfl
      have e2 : ∀ W, AgreeF (fun x => (Value.slice a1 i k1).ownBlock ≠ some x ∧ x ≠ w.heap.size + 1 + 1) wr W → W.cell? ⟨w.heap.size, 2, none⟩ = _ := fun W hW => (hW.cell ⟨hge1, hne⟩ hlw).trans n2
      have e0 : ∀ W, AgreeF (fun x => (Value.slice a1 i k1).ownBlock ≠ some x ∧ x ≠ w.heap.size + 1 + 1) wr W → W.cell? ⟨b, off + i * 4, none⟩ = _ := fun W hW => (hW.cell ⟨hge2, hbn⟩ hlb).trans ((hbw.cell (p := ⟨b, off + i * 4, none⟩) hbb).trans c0)
      have hA00 : AgreeF (fun x => (Value.slice a1 i k1).ownBlock ≠ some x ∧ x ≠ w.heap.size + 1 + 1) wr wr.drew := AgreeF.refl _
      have hA1 : AgreeF (fun x => (Value.slice a1 i k1).ownBlock ≠ some x ∧ x ≠ w.heap.size + 1 + 1) wr w' := hA1
      have hA2 : AgreeF (fun x => (Value.slice a1 i k1).ownBlock ≠ some x ∧ x ≠ w.heap.size + 1 + 1) wr (w'.setCell ⟨w.heap.size + 1 + 1, 2, none⟩ (.slice a' (i + 1) c')) := hA2
      have HC1 := Lib.hid c1
      have HC2 := Lib.hid c2
      have hik : (i : Int) < (kn : Int) := by omega
      have h0i : (0 : Int) ≤ (i : Int) := by omega
      have hwi : IntKind.i64.wrap ((i : Int) + 1) = (i : Int) + 1 := IntWalk.i64_in _ (by omega)
      clear hmid hm0 hmidP hrow hfa hy hx1 hbw hkey htv hlen1 hlen2 c1 c2
      go_upto_region 5 with (fail)
      refine wp_region_noPanic ?_
      refine wp_region_held_drew (S := (fun W => AgreeF (fun x => (Value.slice a1 i k1).ownBlock ≠ some x ∧ x ≠ w.heap.size + 1 + 1) wr W)) (by kernel_rfl) (by (repeat (with_reducible first | assumption | exact AgreeF.refl _ | apply AgreeF.al | apply AgreeF.dr))) (fun hHeld => ?_)
      refine wpAnyH_take (i := 0) (oi := { dst := some 17, op := Op.fieldAddr 33 (Operand.tmp 3) 2, type := 0, pos := "law.go:16", after := #[], guard := none }) (v := ?_) rfl (by kernel_rfl) (by kernel_rfl) (by kernel_rfl) (fun _ _ _ h => h) (Or.inl ⟨by rfl, ?_⟩) (by assumption) ?_
      rotate_left
      · (intro W hW; (try dsimp only at hW); go_simp <;> (with_reducible rfl))
      try simp only [Act.put, List.setIfInBounds_toArray, List.set_cons_zero, List.set_cons_succ]
      refine wpAnyH_take (i := 2) (oi := { dst := some 19, op := Op.fieldAddr 26 (Operand.tmp 1) 2, type := 0, pos := "law.go:16", after := #[], guard := none }) (v := ?_) rfl (by kernel_rfl) (by kernel_rfl) (by kernel_rfl) (fun _ _ _ h => h) (Or.inl ⟨by rfl, ?_⟩) (by assumption) ?_
      rotate_left
      · (intro W hW; (try dsimp only at hW); go_simp <;> (with_reducible rfl))
      try simp only [Act.put, List.setIfInBounds_toArray, List.set_cons_zero, List.set_cons_succ]
      refine wpAnyH_take (i := 3) (oi := { dst := some 20, op := Op.load 24 (Operand.tmp 19), type := 24, pos := "law.go:16", after := #[{ on := 2, ground := Ground.data }], guard := none }) (v := ?_) rfl (by kernel_rfl) (by kernel_rfl) (by kernel_rfl) (fun _ _ _ h => h) (Or.inl ⟨by rfl, ?_⟩) (by assumption) ?_
      rotate_left
      · (intro W hW; (try dsimp only at hW); go_simp <;> (with_reducible rfl))
      try simp only [Act.put, List.setIfInBounds_toArray, List.set_cons_zero, List.set_cons_succ]
      refine wpAnyH_take (i := 4) (oi := { dst := some 21, op := Op.move (Operand.tmp 4), type := 3, pos := "law.go:16", after := #[], guard := none }) (v := ?_) rfl (by kernel_rfl) (by kernel_rfl) (by kernel_rfl) (fun _ _ _ h => h) (Or.inl ⟨by rfl, ?_⟩) (by assumption) ?_
      rotate_left
      · (intro W hW; (try dsimp only at hW); go_simp <;> (with_reducible rfl))
      try simp only [Act.put, List.setIfInBounds_toArray, List.set_cons_zero, List.set_cons_succ]
      refine wpAnyH_take (i := 5) (oi := { dst := some 22, op := Op.indexAddr 24 (Operand.tmp 20) (Operand.tmp 21), type := 0, pos := "law.go:16", after := #[{ on := 3, ground := Ground.data }, { on := 4, ground := Ground.data }], guard := none }) (v := ?_) rfl (by kernel_rfl) (by kernel_rfl) (by kernel_rfl) (fun _ _ _ h => h) (Or.inl ⟨by rfl, ?_⟩) (by assumption) ?_
      rotate_left
      · (intro W hW; (try dsimp only at hW); go_simp <;> (with_reducible rfl))
      try simp only [Act.put, List.setIfInBounds_toArray, List.set_cons_zero, List.set_cons_succ]
      refine wpAnyH_take (i := 6) (oi := { dst := some 23, op := Op.fieldAddr 48 (Operand.tmp 22) 0, type := 0, pos := "law.go:16", after := #[{ on := 5, ground := Ground.data }], guard := none }) (v := ?_) rfl (by kernel_rfl) (by kernel_rfl) (by kernel_rfl) (fun _ _ _ h => h) (Or.inl ⟨by rfl, ?_⟩) (by assumption) ?_
      rotate_left
      · (intro W hW; (try dsimp only at hW); go_simp <;> (with_reducible rfl))
      try simp only [Act.put, List.setIfInBounds_toArray, List.set_cons_zero, List.set_cons_succ]
      refine wpAnyH_take (i := 7) (oi := { dst := some 24, op := Op.load 9 (Operand.tmp 23), type := 9, pos := "law.go:16", after := #[{ on := 6, ground := Ground.data }], guard := none }) (v := ?_) rfl (by kernel_rfl) (by kernel_rfl) (by kernel_rfl) (fun _ _ _ h => h) (Or.inl ⟨by rfl, ?_⟩) (by assumption) ?_
      rotate_left
      · (intro W hW; (try dsimp only at hW); go_simp <;> (with_reducible rfl))
      try simp only [Act.put, List.setIfInBounds_toArray, List.set_cons_zero, List.set_cons_succ]
      refine wpAnyH_ready (rs := [1, 8]) (by kernel_rfl) (by simp) (AllReadyH.cons (o := { dst := some 18, op := Op.load 29 (Operand.tmp 17), type := 29, pos := "law.go:16", after := #[{ on := 0, ground := Ground.data }], guard := none }) rfl (fun K hK => ?_) (AllReadyH.cons (o := { dst := some 25, op := Op.buildSlice 29 1 #[(0, Operand.tmp 24)], type := 29, pos := "law.go:16", after := #[{ on := 7, ground := Ground.data }], guard := none }) rfl (fun K hK => ?_) AllReadyH.nil))
      · (rw [if_pos (by rfl)]; go_wp2_with (fail))
        refine hK.out _ _ (by (repeat (with_reducible first | assumption | exact AgreeF.refl _ | apply AgreeF.al | apply AgreeF.dr))) (fun hHeld => ?_)
        clear hK K
        try simp only [Act.put, List.setIfInBounds_toArray, List.set_cons_zero, List.set_cons_succ]
        refine wpAnyH_ready (rs := [8]) (by kernel_rfl) (by simp) (AllReadyH.cons (o := { dst := some 25, op := Op.buildSlice 29 1 #[(0, Operand.tmp 24)], type := 29, pos := "law.go:16", after := #[{ on := 7, ground := Ground.data }], guard := none }) rfl (fun K hK => ?_) AllReadyH.nil)
        (rw [if_pos (by rfl)]; go_wp2_with (fail))
        refine hK.out _ _ (by (repeat (with_reducible first | assumption | exact AgreeF.refl _ | apply AgreeF.al | apply AgreeF.dr))) (fun hHeld => ?_)
        clear hK K
        try simp only [Act.put, List.setIfInBounds_toArray, List.set_cons_zero, List.set_cons_succ]
        refine wpAnyH_ready (rs := [9]) (by kernel_rfl) (by simp) (AllReadyH.cons (o := { dst := some 26, op := Op.call { callee := Callee.builtin Builtin.append, args := #[Operand.tmp 18, Operand.tmp 25], argTypes := #[29, 29] }, type := 29, pos := "law.go:16", after := #[{ on := 1, ground := Ground.data }, { on := 8, ground := Ground.data }], guard := none }) rfl (fun K hK => ?_) AllReadyH.nil)
        (refine step_append_run rfl _ _ _ _ rfl rfl rfl hrun1 ?_)
        refine hK.out _ _ (by (repeat (with_reducible first | assumption | exact AgreeF.refl _ | apply AgreeF.al | apply AgreeF.dr))) (fun hHeld => ?_)
        clear hK K
        try simp only [Act.put, List.setIfInBounds_toArray, List.set_cons_zero, List.set_cons_succ]
        refine wpAnyH_take (i := 10) (oi := { dst := some 27, op := Op.fieldAddr 33 (Operand.tmp 3) 2, type := 0, pos := "law.go:16", after := #[{ on := 0, ground := Ground.phase }, { on := 1, ground := Ground.phase }, { on := 2, ground := Ground.phase }, { on := 3, ground := Ground.phase }, { on := 4, ground := Ground.phase }, { on := 5, ground := Ground.phase }, { on := 6, ground := Ground.phase }, { on := 7, ground := Ground.phase }, { on := 8, ground := Ground.phase }, { on := 9, ground := Ground.phase }], guard := none }) (v := ?_) rfl (by kernel_rfl) (by kernel_rfl) (by kernel_rfl) (fun _ _ _ h => h) (Or.inl ⟨by rfl, ?_⟩) (by assumption) ?_
        rotate_left
        · (intro W hW; (try dsimp only at hW); go_simp <;> (with_reducible rfl))
        try simp only [Act.put, List.setIfInBounds_toArray, List.set_cons_zero, List.set_cons_succ]
        refine wpAnyH_ready (rs := [11]) (by kernel_rfl) (by simp) (AllReadyH.cons (o := { dst := none, op := Op.store 29 (Operand.tmp 27) (Operand.tmp 26), type := 0, pos := "law.go:16", after := #[{ on := 10, ground := Ground.data }, { on := 9, ground := Ground.data }, { on := 9, ground := Ground.chain }, { on := 0, ground := Ground.phase }, { on := 1, ground := Ground.phase }, { on := 2, ground := Ground.phase }, { on := 3, ground := Ground.phase }, { on := 4, ground := Ground.phase }, { on := 5, ground := Ground.phase }, { on := 6, ground := Ground.phase }, { on := 7, ground := Ground.phase }, { on := 8, ground := Ground.phase }, { on := 9, ground := Ground.phase }], guard := none }) rfl (fun K hK => ?_) AllReadyH.nil)
        (rw [if_pos (by rfl)]; go_wp2_with (fail))
        refine hK.out _ _ (by (repeat (with_reducible first | assumption | exact AgreeF.refl _ | apply AgreeF.al | apply AgreeF.dr))) (fun hHeld => ?_)
        clear hK K
        try simp only [Act.put, List.setIfInBounds_toArray, List.set_cons_zero, List.set_cons_succ]
        refine wpAnyH_done (by kernel_rfl) ?_ _
        refine NoPanic.normal ?_
        obtain ⟨wz, hwz⟩ : ∃ x, x = (w'.setCell ⟨w.heap.size + 1 + 1, 2, none⟩ (.slice a' (i + 1) c')) := ⟨_, rfl⟩
        rw [← hwz] at HP ⊢
        clear hwz f8 f9 hA00 hA1 hA2 hHeld e0 e2 hrun1 o2 n1 n2
        have hmz := HP.out
        have n1 := hmz.1.cell 2 1 rfl rfl
        have n2 := hmz.1.cell 2 2 rfl rfl
        have hbw := hmz.2.2
        have hlw : w.heap.size < wz.heap.size := by have := hmz.lt; omega
        have hlb : b < wz.heap.size := by omega
        have hl2z := hmz.lt
        have hlen2 : ((l.map (·.2)).take i).length = i := by rw [List.length_take]; have := HKL.out; simp; omega
        have o3 := hmz.1.cell 0 3 rfl rfl
        have hy : TvOn (G3 F (w.heap.size + 3) (.slice a' (i + 1) c') (.slice a2 i k2) (.slice a3 0 k3)) wz.drew [.string (strOf tv.data), .slice pa pn pc] tv := ⟨pa, pn, pc, rfl, (HROW.out.below (Nat.le_refl _) (Below.dr hbw)), HFA.out.mono (fun b hf => ⟨.inl hf, fun e => by have := (hmz.2.1.k.lt e).1; have := hF b hf; omega, fun e => by have := (hmz.2.1.v.lt e).1; have := hF b hf; omega, fun e => by have := (hmz.2.1.c.lt e).1; have := hF b hf; omega⟩)⟩
        obtain ⟨a9, c9, w9, hrun2, hA3, f8, f9, hA4, hmidQ⟩ := (hmz.below (Below.dr (Below.refl _ _))).pushV n hF (by rw [hlen2]; omega) hy
        rw [hlen2] at hrun2 hA4 hmidQ
        rw [← List.take_succ_eq_append_of HTV.out] at hmidQ
        have HQ := Lib.hid hmidQ
        have hge1 : (Value.slice a2 i k2).ownBlock ≠ some w.heap.size := fun e => by have := (hmz.2.1.v.lt e).1; omega
        have hge2 : (Value.slice a2 i k2).ownBlock ≠ some b := fun e => by have := (hmz.2.1.v.lt e).1; omega
        have e2 : ∀ W, AgreeF (fun x => (Value.slice a2 i k2).ownBlock ≠ some x ∧ x ≠ w.heap.size + 1 + 1) wz W → W.cell? ⟨w.heap.size, 2, none⟩ = _ := fun W hW => (hW.cell ⟨hge1, hne⟩ hlw).trans n2
        have e3 : ∀ W, AgreeF (fun x => (Value.slice a2 i k2).ownBlock ≠ some x ∧ x ≠ w.heap.size + 1 + 1) wz W → W.cell? ⟨b, off + i * 4 + 1, none⟩ = _ := fun W hW => (hW.cell ⟨hge2, hbn⟩ hlb).trans ((hbw.cell (p := ⟨b, off + i * 4 + 1, none⟩) hbb).trans HC1.out)
        have e4 : ∀ W, AgreeF (fun x => (Value.slice a2 i k2).ownBlock ≠ some x ∧ x ≠ w.heap.size + 1 + 1) wz W → W.cell? ⟨b, off + i * 4 + 2, none⟩ = _ := fun W hW => (hW.cell ⟨hge2, hbn⟩ hlb).trans ((hbw.cell (p := ⟨b, off + i * 4 + 2, none⟩) hbb).trans HC2.out)
        have hA00 : AgreeF (fun x => (Value.slice a2 i k2).ownBlock ≠ some x ∧ x ≠ w.heap.size + 1 + 1) wz wz.drew := AgreeF.refl _
        have hA3 : AgreeF (fun x => (Value.slice a2 i k2).ownBlock ≠ some x ∧ x ≠ w.heap.size + 1 + 1) wz w9 := hA3
        have hA4 : AgreeF (fun x => (Value.slice a2 i k2).ownBlock ≠ some x ∧ x ≠ w.heap.size + 1 + 1) wz (w9.setCell ⟨w.heap.size + 1 + 1, 3, none⟩ (.slice a9 (i + 1) c9)) := hA4
        clear hmz hmidQ hy hbw hlen2 HP
        go_upto_region 7 with (fail)
        refine wp_region_noPanic ?_
        refine wp_region_held_drew (S := (fun W => AgreeF (fun x => (Value.slice a2 i k2).ownBlock ≠ some x ∧ x ≠ w.heap.size + 1 + 1) wz W)) (by kernel_rfl) (by (repeat (with_reducible first | assumption | exact AgreeF.refl _ | apply AgreeF.al | apply AgreeF.dr))) (fun hHeld => ?_)
        refine wpAnyH_take (i := 0) (oi := { dst := some 30, op := Op.fieldAddr 33 (Operand.tmp 3) 3, type := 0, pos := "law.go:18", after := #[], guard := none }) (v := ?_) rfl (by kernel_rfl) (by kernel_rfl) (by kernel_rfl) (fun _ _ _ h => h) (Or.inl ⟨by rfl, ?_⟩) (by assumption) ?_
        rotate_left
        · (intro W hW; (try dsimp only at hW); go_simp <;> (with_reducible rfl))
        try simp only [Act.put, List.setIfInBounds_toArray, List.set_cons_zero, List.set_cons_succ]
        refine wpAnyH_take (i := 2) (oi := { dst := some 32, op := Op.fieldAddr 26 (Operand.tmp 1) 2, type := 0, pos := "law.go:18", after := #[], guard := none }) (v := ?_) rfl (by kernel_rfl) (by kernel_rfl) (by kernel_rfl) (fun _ _ _ h => h) (Or.inl ⟨by rfl, ?_⟩) (by assumption) ?_
        rotate_left
        · (intro W hW; (try dsimp only at hW); go_simp <;> (with_reducible rfl))
        try simp only [Act.put, List.setIfInBounds_toArray, List.set_cons_zero, List.set_cons_succ]
        refine wpAnyH_take (i := 3) (oi := { dst := some 33, op := Op.load 24 (Operand.tmp 32), type := 24, pos := "law.go:18", after := #[{ on := 2, ground := Ground.data }], guard := none }) (v := ?_) rfl (by kernel_rfl) (by kernel_rfl) (by kernel_rfl) (fun _ _ _ h => h) (Or.inl ⟨by rfl, ?_⟩) (by assumption) ?_
        rotate_left
        · (intro W hW; (try dsimp only at hW); go_simp <;> (with_reducible rfl))
        try simp only [Act.put, List.setIfInBounds_toArray, List.set_cons_zero, List.set_cons_succ]
        refine wpAnyH_take (i := 4) (oi := { dst := some 34, op := Op.move (Operand.tmp 4), type := 3, pos := "law.go:18", after := #[], guard := none }) (v := ?_) rfl (by kernel_rfl) (by kernel_rfl) (by kernel_rfl) (fun _ _ _ h => h) (Or.inl ⟨by rfl, ?_⟩) (by assumption) ?_
        rotate_left
        · (intro W hW; (try dsimp only at hW); go_simp <;> (with_reducible rfl))
        try simp only [Act.put, List.setIfInBounds_toArray, List.set_cons_zero, List.set_cons_succ]
        refine wpAnyH_take (i := 5) (oi := { dst := some 35, op := Op.indexAddr 24 (Operand.tmp 33) (Operand.tmp 34), type := 0, pos := "law.go:18", after := #[{ on := 3, ground := Ground.data }, { on := 4, ground := Ground.data }], guard := none }) (v := ?_) rfl (by kernel_rfl) (by kernel_rfl) (by kernel_rfl) (fun _ _ _ h => h) (Or.inl ⟨by rfl, ?_⟩) (by assumption) ?_
        rotate_left
        · (intro W hW; (try dsimp only at hW); go_simp <;> (with_reducible rfl))
        try simp only [Act.put, List.setIfInBounds_toArray, List.set_cons_zero, List.set_cons_succ]
        refine wpAnyH_take (i := 6) (oi := { dst := some 36, op := Op.fieldAddr 48 (Operand.tmp 35) 1, type := 0, pos := "law.go:18", after := #[{ on := 5, ground := Ground.data }], guard := none }) (v := ?_) rfl (by kernel_rfl) (by kernel_rfl) (by kernel_rfl) (fun _ _ _ h => h) (Or.inl ⟨by rfl, ?_⟩) (by assumption) ?_
        rotate_left
        · (intro W hW; (try dsimp only at hW); go_simp <;> (with_reducible rfl))
        try simp only [Act.put, List.setIfInBounds_toArray, List.set_cons_zero, List.set_cons_succ]
        refine wpAnyH_take (i := 7) (oi := { dst := some 37, op := Op.fieldAddr 45 (Operand.tmp 36) 0, type := 0, pos := "law.go:18", after := #[{ on := 6, ground := Ground.data }], guard := none }) (v := ?_) rfl (by kernel_rfl) (by kernel_rfl) (by kernel_rfl) (fun _ _ _ h => h) (Or.inl ⟨by rfl, ?_⟩) (by assumption) ?_
        rotate_left
        · (intro W hW; (try dsimp only at hW); go_simp <;> (with_reducible rfl))
        try simp only [Act.put, List.setIfInBounds_toArray, List.set_cons_zero, List.set_cons_succ]
        refine wpAnyH_take (i := 8) (oi := { dst := some 38, op := Op.load 9 (Operand.tmp 37), type := 9, pos := "law.go:18", after := #[{ on := 7, ground := Ground.data }], guard := none }) (v := ?_) rfl (by kernel_rfl) (by kernel_rfl) (by kernel_rfl) (fun _ _ _ h => h) (Or.inl ⟨by rfl, ?_⟩) (by assumption) ?_
        rotate_left
        · (intro W hW; (try dsimp only at hW); go_simp <;> (with_reducible rfl))
        try simp only [Act.put, List.setIfInBounds_toArray, List.set_cons_zero, List.set_cons_succ]
        refine wpAnyH_take (i := 9) (oi := { dst := some 39, op := Op.fieldAddr 26 (Operand.tmp 1) 2, type := 0, pos := "law.go:18", after := #[], guard := none }) (v := ?_) rfl (by kernel_rfl) (by kernel_rfl) (by kernel_rfl) (fun _ _ _ h => h) (Or.inl ⟨by rfl, ?_⟩) (by assumption) ?_
        rotate_left
        · (intro W hW; (try dsimp only at hW); go_simp <;> (with_reducible rfl))
        try simp only [Act.put, List.setIfInBounds_toArray, List.set_cons_zero, List.set_cons_succ]
        refine wpAnyH_take (i := 10) (oi := { dst := some 40, op := Op.load 24 (Operand.tmp 39), type := 24, pos := "law.go:18", after := #[{ on := 9, ground := Ground.data }], guard := none }) (v := ?_) rfl (by kernel_rfl) (by kernel_rfl) (by kernel_rfl) (fun _ _ _ h => h) (Or.inl ⟨by rfl, ?_⟩) (by assumption) ?_
        rotate_left
        · (intro W hW; (try dsimp only at hW); go_simp <;> (with_reducible rfl))
        try simp only [Act.put, List.setIfInBounds_toArray, List.set_cons_zero, List.set_cons_succ]
        refine wpAnyH_take (i := 11) (oi := { dst := some 41, op := Op.move (Operand.tmp 4), type := 3, pos := "law.go:18", after := #[], guard := none }) (v := ?_) rfl (by kernel_rfl) (by kernel_rfl) (by kernel_rfl) (fun _ _ _ h => h) (Or.inl ⟨by rfl, ?_⟩) (by assumption) ?_
        rotate_left
        · (intro W hW; (try dsimp only at hW); go_simp <;> (with_reducible rfl))
        try simp only [Act.put, List.setIfInBounds_toArray, List.set_cons_zero, List.set_cons_succ]
        refine wpAnyH_take (i := 12) (oi := { dst := some 42, op := Op.indexAddr 24 (Operand.tmp 40) (Operand.tmp 41), type := 0, pos := "law.go:18", after := #[{ on := 10, ground := Ground.data }, { on := 11, ground := Ground.data }], guard := none }) (v := ?_) rfl (by kernel_rfl) (by kernel_rfl) (by kernel_rfl) (fun _ _ _ h => h) (Or.inl ⟨by rfl, ?_⟩) (by assumption) ?_
        rotate_left
        · (intro W hW; (try dsimp only at hW); go_simp <;> (with_reducible rfl))
        try simp only [Act.put, List.setIfInBounds_toArray, List.set_cons_zero, List.set_cons_succ]
        refine wpAnyH_take (i := 13) (oi := { dst := some 43, op := Op.fieldAddr 48 (Operand.tmp 42) 1, type := 0, pos := "law.go:18", after := #[{ on := 12, ground := Ground.data }], guard := none }) (v := ?_) rfl (by kernel_rfl) (by kernel_rfl) (by kernel_rfl) (fun _ _ _ h => h) (Or.inl ⟨by rfl, ?_⟩) (by assumption) ?_
        rotate_left
        · (intro W hW; (try dsimp only at hW); go_simp <;> (with_reducible rfl))
        try simp only [Act.put, List.setIfInBounds_toArray, List.set_cons_zero, List.set_cons_succ]
        refine wpAnyH_take (i := 14) (oi := { dst := some 44, op := Op.fieldAddr 45 (Operand.tmp 43) 1, type := 0, pos := "law.go:18", after := #[{ on := 13, ground := Ground.data }], guard := none }) (v := ?_) rfl (by kernel_rfl) (by kernel_rfl) (by kernel_rfl) (fun _ _ _ h => h) (Or.inl ⟨by rfl, ?_⟩) (by assumption) ?_
        rotate_left
        · (intro W hW; (try dsimp only at hW); go_simp <;> (with_reducible rfl))
        try simp only [Act.put, List.setIfInBounds_toArray, List.set_cons_zero, List.set_cons_succ]
        refine wpAnyH_take (i := 15) (oi := { dst := some 45, op := Op.load 43 (Operand.tmp 44), type := 43, pos := "law.go:18", after := #[{ on := 14, ground := Ground.data }], guard := none }) (v := ?_) rfl (by kernel_rfl) (by kernel_rfl) (by kernel_rfl) (fun _ _ _ h => h) (Or.inl ⟨by rfl, ?_⟩) (by assumption) ?_
        rotate_left
        · (intro W hW; (try dsimp only at hW); go_simp <;> (with_reducible rfl))
        try simp only [Act.put, List.setIfInBounds_toArray, List.set_cons_zero, List.set_cons_succ]
        refine wpAnyH_take (i := 16) (oi := { dst := some 46, op := Op.build 100 #[(0, Operand.tmp 38), (1, Operand.tmp 45)], type := 100, pos := "law.go:18", after := #[{ on := 8, ground := Ground.data }, { on := 15, ground := Ground.data }], guard := none }) (v := ?_) rfl (by kernel_rfl) (by kernel_rfl) (by kernel_rfl) (fun _ _ _ h => h) (Or.inl ⟨by rfl, ?_⟩) (by assumption) ?_
        rotate_left
        · (intro W hW; (try dsimp only at hW); go_simp <;> (with_reducible rfl))
        try simp only [Act.put, List.setIfInBounds_toArray, List.set_cons_zero, List.set_cons_succ]
        refine wpAnyH_ready (rs := [1, 17]) (by kernel_rfl) (by simp) (AllReadyH.cons (o := { dst := some 31, op := Op.load 30 (Operand.tmp 30), type := 30, pos := "law.go:18", after := #[{ on := 0, ground := Ground.data }], guard := none }) rfl (fun K hK => ?_) (AllReadyH.cons (o := { dst := some 47, op := Op.buildSlice 30 1 #[(0, Operand.tmp 46)], type := 30, pos := "law.go:18", after := #[{ on := 16, ground := Ground.data }], guard := none }) rfl (fun K hK => ?_) AllReadyH.nil))
        · (rw [if_pos (by rfl)]; go_wp2_with (fail))
          refine hK.out _ _ (by (repeat (with_reducible first | assumption | exact AgreeF.refl _ | apply AgreeF.al | apply AgreeF.dr))) (fun hHeld => ?_)
          clear hK K
          try simp only [Act.put, List.setIfInBounds_toArray, List.set_cons_zero, List.set_cons_succ]
          refine wpAnyH_ready (rs := [17]) (by kernel_rfl) (by simp) (AllReadyH.cons (o := { dst := some 47, op := Op.buildSlice 30 1 #[(0, Operand.tmp 46)], type := 30, pos := "law.go:18", after := #[{ on := 16, ground := Ground.data }], guard := none }) rfl (fun K hK => ?_) AllReadyH.nil)
          (rw [if_pos (by rfl)]; go_wp2_with (fail))
          refine hK.out _ _ (by (repeat (with_reducible first | assumption | exact AgreeF.refl _ | apply AgreeF.al | apply AgreeF.dr))) (fun hHeld => ?_)
          clear hK K
          try simp only [Act.put, List.setIfInBounds_toArray, List.set_cons_zero, List.set_cons_succ]
          refine wpAnyH_ready (rs := [18]) (by kernel_rfl) (by simp) (AllReadyH.cons (o := { dst := some 48, op := Op.call { callee := Callee.builtin Builtin.append, args := #[Operand.tmp 31, Operand.tmp 47], argTypes := #[30, 30] }, type := 30, pos := "law.go:18", after := #[{ on := 1, ground := Ground.data }, { on := 17, ground := Ground.data }], guard := none }) rfl (fun K hK => ?_) AllReadyH.nil)
          (refine step_append_run rfl _ _ _ _ rfl rfl rfl hrun2 ?_)
          refine hK.out _ _ (by (repeat (with_reducible first | assumption | exact AgreeF.refl _ | apply AgreeF.al | apply AgreeF.dr))) (fun hHeld => ?_)
          clear hK K
          try simp only [Act.put, List.setIfInBounds_toArray, List.set_cons_zero, List.set_cons_succ]
          refine wpAnyH_take (i := 19) (oi := { dst := some 49, op := Op.fieldAddr 33 (Operand.tmp 3) 3, type := 0, pos := "law.go:18", after := #[{ on := 0, ground := Ground.phase }, { on := 1, ground := Ground.phase }, { on := 2, ground := Ground.phase }, { on := 3, ground := Ground.phase }, { on := 4, ground := Ground.phase }, { on := 5, ground := Ground.phase }, { on := 6, ground := Ground.phase }, { on := 7, ground := Ground.phase }, { on := 8, ground := Ground.phase }, { on := 9, ground := Ground.phase }, { on := 10, ground := Ground.phase }, { on := 11, ground := Ground.phase }, { on := 12, ground := Ground.phase }, { on := 13, ground := Ground.phase }, { on := 14, ground := Ground.phase }, { on := 15, ground := Ground.phase }, { on := 16, ground := Ground.phase }, { on := 17, ground := Ground.phase }, { on := 18, ground := Ground.phase }], guard := none }) (v := ?_) rfl (by kernel_rfl) (by kernel_rfl) (by kernel_rfl) (fun _ _ _ h => h) (Or.inl ⟨by rfl, ?_⟩) (by assumption) ?_
          rotate_left
          · (intro W hW; (try dsimp only at hW); go_simp <;> (with_reducible rfl))
          try simp only [Act.put, List.setIfInBounds_toArray, List.set_cons_zero, List.set_cons_succ]
          refine wpAnyH_ready (rs := [20]) (by kernel_rfl) (by simp) (AllReadyH.cons (o := { dst := none, op := Op.store 30 (Operand.tmp 49) (Operand.tmp 48), type := 0, pos := "law.go:18", after := #[{ on := 19, ground := Ground.data }, { on := 18, ground := Ground.data }, { on := 18, ground := Ground.chain }, { on := 0, ground := Ground.phase }, { on := 1, ground := Ground.phase }, { on := 2, ground := Ground.phase }, { on := 3, ground := Ground.phase }, { on := 4, ground := Ground.phase }, { on := 5, ground := Ground.phase }, { on := 6, ground := Ground.phase }, { on := 7, ground := Ground.phase }, { on := 8, ground := Ground.phase }, { on := 9, ground := Ground.phase }, { on := 10, ground := Ground.phase }, { on := 11, ground := Ground.phase }, { on := 12, ground := Ground.phase }, { on := 13, ground := Ground.phase }, { on := 14, ground := Ground.phase }, { on := 15, ground := Ground.phase }, { on := 16, ground := Ground.phase }, { on := 17, ground := Ground.phase }, { on := 18, ground := Ground.phase }], guard := none }) rfl (fun K hK => ?_) AllReadyH.nil)
          (rw [if_pos (by rfl)]; go_wp2_with (fail))
          refine hK.out _ _ (by (repeat (with_reducible first | assumption | exact AgreeF.refl _ | apply AgreeF.al | apply AgreeF.dr))) (fun hHeld => ?_)
          clear hK K
          try simp only [Act.put, List.setIfInBounds_toArray, List.set_cons_zero, List.set_cons_succ]
          refine wpAnyH_done (by kernel_rfl) ?_ _
          refine NoPanic.normal ?_
          obtain ⟨wy, hwy⟩ : ∃ x, x = (w9.setCell ⟨w.heap.size + 1 + 1, 3, none⟩ (.slice a9 (i + 1) c9)) := ⟨_, rfl⟩
          rw [← hwy] at HQ ⊢
          clear hwy f8 f9 hA00 hA3 hA4 hHeld e2 e3 e4 hrun2 o3 n1 n2
          go_wp2_with fail
          go_roundw
          case rel => exact ⟨i + 1, _, _, _, hlt, by go_num, HQ.out⟩
          case measure => simp [intOf]; omega
        · (rw [if_pos (by rfl)]; go_wp2_with (fail))
          refine hK.out _ _ (by (repeat (with_reducible first | assumption | exact AgreeF.refl _ | apply AgreeF.al | apply AgreeF.dr))) (fun hHeld => ?_)
          clear hK K
          try simp only [Act.put, List.setIfInBounds_toArray, List.set_cons_zero, List.set_cons_succ]
          refine wpAnyH_ready (rs := [1]) (by kernel_rfl) (by simp) (AllReadyH.cons (o := { dst := some 31, op := Op.load 30 (Operand.tmp 30), type := 30, pos := "law.go:18", after := #[{ on := 0, ground := Ground.data }], guard := none }) rfl (fun K hK => ?_) AllReadyH.nil)
          (rw [if_pos (by rfl)]; go_wp2_with (fail))
          refine hK.out _ _ (by (repeat (with_reducible first | assumption | exact AgreeF.refl _ | apply AgreeF.al | apply AgreeF.dr))) (fun hHeld => ?_)
          clear hK K
          try simp only [Act.put, List.setIfInBounds_toArray, List.set_cons_zero, List.set_cons_succ]
          refine wpAnyH_ready (rs := [18]) (by kernel_rfl) (by simp) (AllReadyH.cons (o := { dst := some 48, op := Op.call { callee := Callee.builtin Builtin.append, args := #[Operand.tmp 31, Operand.tmp 47], argTypes := #[30, 30] }, type := 30, pos := "law.go:18", after := #[{ on := 1, ground := Ground.data }, { on := 17, ground := Ground.data }], guard := none }) rfl (fun K hK => ?_) AllReadyH.nil)
          (refine step_append_run rfl _ _ _ _ rfl rfl rfl hrun2 ?_)
          refine hK.out _ _ (by (repeat (with_reducible first | assumption | exact AgreeF.refl _ | apply AgreeF.al | apply AgreeF.dr))) (fun hHeld => ?_)
          clear hK K
          try simp only [Act.put, List.setIfInBounds_toArray, List.set_cons_zero, List.set_cons_succ]
          refine wpAnyH_take (i := 19) (oi := { dst := some 49, op := Op.fieldAddr 33 (Operand.tmp 3) 3, type := 0, pos := "law.go:18", after := #[{ on := 0, ground := Ground.phase }, { on := 1, ground := Ground.phase }, { on := 2, ground := Ground.phase }, { on := 3, ground := Ground.phase }, { on := 4, ground := Ground.phase }, { on := 5, ground := Ground.phase }, { on := 6, ground := Ground.phase }, { on := 7, ground := Ground.phase }, { on := 8, ground := Ground.phase }, { on := 9, ground := Ground.phase }, { on := 10, ground := Ground.phase }, { on := 11, ground := Ground.phase }, { on := 12, ground := Ground.phase }, { on := 13, ground := Ground.phase }, { on := 14, ground := Ground.phase }, { on := 15, ground := Ground.phase }, { on := 16, ground := Ground.phase }, { on := 17, ground := Ground.phase }, { on := 18, ground := Ground.phase }], guard := none }) (v := ?_) rfl (by kernel_rfl) (by kernel_rfl) (by kernel_rfl) (fun _ _ _ h => h) (Or.inl ⟨by rfl, ?_⟩) (by assumption) ?_
          rotate_left
          · (intro W hW; (try dsimp only at hW); go_simp <;> (with_reducible rfl))
          try simp only [Act.put, List.setIfInBounds_toArray, List.set_cons_zero, List.set_cons_succ]
          refine wpAnyH_ready (rs := [20]) (by kernel_rfl) (by simp) (AllReadyH.cons (o := { dst := none, op := Op.store 30 (Operand.tmp 49) (Operand.tmp 48), type := 0, pos := "law.go:18", after := #[{ on := 19, ground := Ground.data }, { on := 18, ground := Ground.data }, { on := 18, ground := Ground.chain }, { on := 0, ground := Ground.phase }, { on := 1, ground := Ground.phase }, { on := 2, ground := Ground.phase }, { on := 3, ground := Ground.phase }, { on := 4, ground := Ground.phase }, { on := 5, ground := Ground.phase }, { on := 6, ground := Ground.phase }, { on := 7, ground := Ground.phase }, { on := 8, ground := Ground.phase }, { on := 9, ground := Ground.phase }, { on := 10, ground := Ground.phase }, { on := 11, ground := Ground.phase }, { on := 12, ground := Ground.phase }, { on := 13, ground := Ground.phase }, { on := 14, ground := Ground.phase }, { on := 15, ground := Ground.phase }, { on := 16, ground := Ground.phase }, { on := 17, ground := Ground.phase }, { on := 18, ground := Ground.phase }], guard := none }) rfl (fun K hK => ?_) AllReadyH.nil)
          (rw [if_pos (by rfl)]; go_wp2_with (fail))
          refine hK.out _ _ (by (repeat (with_reducible first | assumption | exact AgreeF.refl _ | apply AgreeF.al | apply AgreeF.dr))) (fun hHeld => ?_)
          clear hK K
          try simp only [Act.put, List.setIfInBounds_toArray, List.set_cons_zero, List.set_cons_succ]
          refine wpAnyH_done (by kernel_rfl) ?_ _
          refine NoPanic.normal ?_
          obtain ⟨wy, hwy⟩ : ∃ x, x = (w9.setCell ⟨w.heap.size + 1 + 1, 3, none⟩ (.slice a9 (i + 1) c9)) := ⟨_, rfl⟩
          rw [← hwy] at HQ ⊢
          clear hwy f8 f9 hA00 hA3 hA4 hHeld e2 e3 e4 hrun2 o3 n1 n2
          go_wp2_with fail
          go_roundw
          case rel => exact ⟨i + 1, _, _, _, hlt, by go_num, HQ.out⟩
          case measure => simp [intOf]; omega
      · (rw [if_pos (by rfl)]; go_wp2_with (fail))
        refine hK.out _ _ (by (repeat (with_reducible first | assumption | exact AgreeF.refl _ | apply AgreeF.al | apply AgreeF.dr))) (fun hHeld => ?_)
        clear hK K
        try simp only [Act.put, List.setIfInBounds_toArray, List.set_cons_zero, List.set_cons_succ]
        refine wpAnyH_ready (rs := [1]) (by kernel_rfl) (by simp) (AllReadyH.cons (o := { dst := some 18, op := Op.load 29 (Operand.tmp 17), type := 29, pos := "law.go:16", after := #[{ on := 0, ground := Ground.data }], guard := none }) rfl (fun K hK => ?_) AllReadyH.nil)
        (rw [if_pos (by rfl)]; go_wp2_with (fail))
        refine hK.out _ _ (by (repeat (with_reducible first | assumption | exact AgreeF.refl _ | apply AgreeF.al | apply AgreeF.dr))) (fun hHeld => ?_)
        clear hK K
        try simp only [Act.put, List.setIfInBounds_toArray, List.set_cons_zero, List.set_cons_succ]
        refine wpAnyH_ready (rs := [9]) (by kernel_rfl) (by simp) (AllReadyH.cons (o := { dst := some 26, op := Op.call { callee := Callee.builtin Builtin.append, args := #[Operand.tmp 18, Operand.tmp 25], argTypes := #[29, 29] }, type := 29, pos := "law.go:16", after := #[{ on := 1, ground := Ground.data }, { on := 8, ground := Ground.data }], guard := none }) rfl (fun K hK => ?_) AllReadyH.nil)
        (refine step_append_run rfl _ _ _ _ rfl rfl rfl hrun1 ?_)
        refine hK.out _ _ (by (repeat (with_reducible first | assumption | exact AgreeF.refl _ | apply AgreeF.al | apply AgreeF.dr))) (fun hHeld => ?_)
        clear hK K
        try simp only [Act.put, List.setIfInBounds_toArray, List.set_cons_zero, List.set_cons_succ]
        refine wpAnyH_take (i := 10) (oi := { dst := some 27, op := Op.fieldAddr 33 (Operand.tmp 3) 2, type := 0, pos := "law.go:16", after := #[{ on := 0, ground := Ground.phase }, { on := 1, ground := Ground.phase }, { on := 2, ground := Ground.phase }, { on := 3, ground := Ground.phase }, { on := 4, ground := Ground.phase }, { on := 5, ground := Ground.phase }, { on := 6, ground := Ground.phase }, { on := 7, ground := Ground.phase }, { on := 8, ground := Ground.phase }, { on := 9, ground := Ground.phase }], guard := none }) (v := ?_) rfl (by kernel_rfl) (by kernel_rfl) (by kernel_rfl) (fun _ _ _ h => h) (Or.inl ⟨by rfl, ?_⟩) (by assumption) ?_
        rotate_left
        · (intro W hW; (try dsimp only at hW); go_simp <;> (with_reducible rfl))
        try simp only [Act.put, List.setIfInBounds_toArray, List.set_cons_zero, List.set_cons_succ]
        refine wpAnyH_ready (rs := [11]) (by kernel_rfl) (by simp) (AllReadyH.cons (o := { dst := none, op := Op.store 29 (Operand.tmp 27) (Operand.tmp 26), type := 0, pos := "law.go:16", after := #[{ on := 10, ground := Ground.data }, { on := 9, ground := Ground.data }, { on := 9, ground := Ground.chain }, { on := 0, ground := Ground.phase }, { on := 1, ground := Ground.phase }, { on := 2, ground := Ground.phase }, { on := 3, ground := Ground.phase }, { on := 4, ground := Ground.phase }, { on := 5, ground := Ground.phase }, { on := 6, ground := Ground.phase }, { on := 7, ground := Ground.phase }, { on := 8, ground := Ground.phase }, { on := 9, ground := Ground.phase }], guard := none }) rfl (fun K hK => ?_) AllReadyH.nil)
        (rw [if_pos (by rfl)]; go_wp2_with (fail))
        refine hK.out _ _ (by (repeat (with_reducible first | assumption | exact AgreeF.refl _ | apply AgreeF.al | apply AgreeF.dr))) (fun hHeld => ?_)
        clear hK K
        try simp only [Act.put, List.setIfInBounds_toArray, List.set_cons_zero, List.set_cons_succ]
        refine wpAnyH_done (by kernel_rfl) ?_ _
        refine NoPanic.normal ?_
        obtain ⟨wz, hwz⟩ : ∃ x, x = (w'.setCell ⟨w.heap.size + 1 + 1, 2, none⟩ (.slice a' (i + 1) c')) := ⟨_, rfl⟩
        rw [← hwz] at HP ⊢
        clear hwz f8 f9 hA00 hA1 hA2 hHeld e0 e2 hrun1 o2 n1 n2
        have hmz := HP.out
        have n1 := hmz.1.cell 2 1 rfl rfl
        have n2 := hmz.1.cell 2 2 rfl rfl
        have hbw := hmz.2.2
        have hlw : w.heap.size < wz.heap.size := by have := hmz.lt; omega
        have hlb : b < wz.heap.size := by omega
        have hl2z := hmz.lt
        have hlen2 : ((l.map (·.2)).take i).length = i := by rw [List.length_take]; have := HKL.out; simp; omega
        have o3 := hmz.1.cell 0 3 rfl rfl
        have hy : TvOn (G3 F (w.heap.size + 3) (.slice a' (i + 1) c') (.slice a2 i k2) (.slice a3 0 k3)) wz.drew [.string (strOf tv.data), .slice pa pn pc] tv := ⟨pa, pn, pc, rfl, (HROW.out.below (Nat.le_refl _) (Below.dr hbw)), HFA.out.mono (fun b hf => ⟨.inl hf, fun e => by have := (hmz.2.1.k.lt e).1; have := hF b hf; omega, fun e => by have := (hmz.2.1.v.lt e).1; have := hF b hf; omega, fun e => by have := (hmz.2.1.c.lt e).1; have := hF b hf; omega⟩)⟩
        obtain ⟨a9, c9, w9, hrun2, hA3, f8, f9, hA4, hmidQ⟩ := (hmz.below (Below.dr (Below.refl _ _))).pushV n hF (by rw [hlen2]; omega) hy
        rw [hlen2] at hrun2 hA4 hmidQ
        rw [← List.take_succ_eq_append_of HTV.out] at hmidQ
        have HQ := Lib.hid hmidQ
        have hge1 : (Value.slice a2 i k2).ownBlock ≠ some w.heap.size := fun e => by have := (hmz.2.1.v.lt e).1; omega
        have hge2 : (Value.slice a2 i k2).ownBlock ≠ some b := fun e => by have := (hmz.2.1.v.lt e).1; omega
        have e2 : ∀ W, AgreeF (fun x => (Value.slice a2 i k2).ownBlock ≠ some x ∧ x ≠ w.heap.size + 1 + 1) wz W → W.cell? ⟨w.heap.size, 2, none⟩ = _ := fun W hW => (hW.cell ⟨hge1, hne⟩ hlw).trans n2
        have e3 : ∀ W, AgreeF (fun x => (Value.slice a2 i k2).ownBlock ≠ some x ∧ x ≠ w.heap.size + 1 + 1) wz W → W.cell? ⟨b, off + i * 4 + 1, none⟩ = _ := fun W hW => (hW.cell ⟨hge2, hbn⟩ hlb).trans ((hbw.cell (p := ⟨b, off + i * 4 + 1, none⟩) hbb).trans HC1.out)
        have e4 : ∀ W, AgreeF (fun x => (Value.slice a2 i k2).ownBlock ≠ some x ∧ x ≠ w.heap.size + 1 + 1) wz W → W.cell? ⟨b, off + i * 4 + 2, none⟩ = _ := fun W hW => (hW.cell ⟨hge2, hbn⟩ hlb).trans ((hbw.cell (p := ⟨b, off + i * 4 + 2, none⟩) hbb).trans HC2.out)
        have hA00 : AgreeF (fun x => (Value.slice a2 i k2).ownBlock ≠ some x ∧ x ≠ w.heap.size + 1 + 1) wz wz.drew := AgreeF.refl _
        have hA3 : AgreeF (fun x => (Value.slice a2 i k2).ownBlock ≠ some x ∧ x ≠ w.heap.size + 1 + 1) wz w9 := hA3
        have hA4 : AgreeF (fun x => (Value.slice a2 i k2).ownBlock ≠ some x ∧ x ≠ w.heap.size + 1 + 1) wz (w9.setCell ⟨w.heap.size + 1 + 1, 3, none⟩ (.slice a9 (i + 1) c9)) := hA4
        clear hmz hmidQ hy hbw hlen2 HP
        go_upto_region 7 with (fail)
        refine wp_region_noPanic ?_
        refine wp_region_held_drew (S := (fun W => AgreeF (fun x => (Value.slice a2 i k2).ownBlock ≠ some x ∧ x ≠ w.heap.size + 1 + 1) wz W)) (by kernel_rfl) (by (repeat (with_reducible first | assumption | exact AgreeF.refl _ | apply AgreeF.al | apply AgreeF.dr))) (fun hHeld => ?_)
        refine wpAnyH_take (i := 0) (oi := { dst := some 30, op := Op.fieldAddr 33 (Operand.tmp 3) 3, type := 0, pos := "law.go:18", after := #[], guard := none }) (v := ?_) rfl (by kernel_rfl) (by kernel_rfl) (by kernel_rfl) (fun _ _ _ h => h) (Or.inl ⟨by rfl, ?_⟩) (by assumption) ?_
        rotate_left
        · (intro W hW; (try dsimp only at hW); go_simp <;> (with_reducible rfl))
        try simp only [Act.put, List.setIfInBounds_toArray, List.set_cons_zero, List.set_cons_succ]
        refine wpAnyH_take (i := 2) (oi := { dst := some 32, op := Op.fieldAddr 26 (Operand.tmp 1) 2, type := 0, pos := "law.go:18", after := #[], guard := none }) (v := ?_) rfl (by kernel_rfl) (by kernel_rfl) (by kernel_rfl) (fun _ _ _ h => h) (Or.inl ⟨by rfl, ?_⟩) (by assumption) ?_
        rotate_left
        · (intro W hW; (try dsimp only at hW); go_simp <;> (with_reducible rfl))
        try simp only [Act.put, List.setIfInBounds_toArray, List.set_cons_zero, List.set_cons_succ]
        refine wpAnyH_take (i := 3) (oi := { dst := some 33, op := Op.load 24 (Operand.tmp 32), type := 24, pos := "law.go:18", after := #[{ on := 2, ground := Ground.data }], guard := none }) (v := ?_) rfl (by kernel_rfl) (by kernel_rfl) (by kernel_rfl) (fun _ _ _ h => h) (Or.inl ⟨by rfl, ?_⟩) (by assumption) ?_
        rotate_left
        · (intro W hW; (try dsimp only at hW); go_simp <;> (with_reducible rfl))
        try simp only [Act.put, List.setIfInBounds_toArray, List.set_cons_zero, List.set_cons_succ]
        refine wpAnyH_take (i := 4) (oi := { dst := some 34, op := Op.move (Operand.tmp 4), type := 3, pos := "law.go:18", after := #[], guard := none }) (v := ?_) rfl (by kernel_rfl) (by kernel_rfl) (by kernel_rfl) (fun _ _ _ h => h) (Or.inl ⟨by rfl, ?_⟩) (by assumption) ?_
        rotate_left
        · (intro W hW; (try dsimp only at hW); go_simp <;> (with_reducible rfl))
        try simp only [Act.put, List.setIfInBounds_toArray, List.set_cons_zero, List.set_cons_succ]
        refine wpAnyH_take (i := 5) (oi := { dst := some 35, op := Op.indexAddr 24 (Operand.tmp 33) (Operand.tmp 34), type := 0, pos := "law.go:18", after := #[{ on := 3, ground := Ground.data }, { on := 4, ground := Ground.data }], guard := none }) (v := ?_) rfl (by kernel_rfl) (by kernel_rfl) (by kernel_rfl) (fun _ _ _ h => h) (Or.inl ⟨by rfl, ?_⟩) (by assumption) ?_
        rotate_left
        · (intro W hW; (try dsimp only at hW); go_simp <;> (with_reducible rfl))
        try simp only [Act.put, List.setIfInBounds_toArray, List.set_cons_zero, List.set_cons_succ]
        refine wpAnyH_take (i := 6) (oi := { dst := some 36, op := Op.fieldAddr 48 (Operand.tmp 35) 1, type := 0, pos := "law.go:18", after := #[{ on := 5, ground := Ground.data }], guard := none }) (v := ?_) rfl (by kernel_rfl) (by kernel_rfl) (by kernel_rfl) (fun _ _ _ h => h) (Or.inl ⟨by rfl, ?_⟩) (by assumption) ?_
        rotate_left
        · (intro W hW; (try dsimp only at hW); go_simp <;> (with_reducible rfl))
        try simp only [Act.put, List.setIfInBounds_toArray, List.set_cons_zero, List.set_cons_succ]
        refine wpAnyH_take (i := 7) (oi := { dst := some 37, op := Op.fieldAddr 45 (Operand.tmp 36) 0, type := 0, pos := "law.go:18", after := #[{ on := 6, ground := Ground.data }], guard := none }) (v := ?_) rfl (by kernel_rfl) (by kernel_rfl) (by kernel_rfl) (fun _ _ _ h => h) (Or.inl ⟨by rfl, ?_⟩) (by assumption) ?_
        rotate_left
        · (intro W hW; (try dsimp only at hW); go_simp <;> (with_reducible rfl))
        try simp only [Act.put, List.setIfInBounds_toArray, List.set_cons_zero, List.set_cons_succ]
        refine wpAnyH_take (i := 8) (oi := { dst := some 38, op := Op.load 9 (Operand.tmp 37), type := 9, pos := "law.go:18", after := #[{ on := 7, ground := Ground.data }], guard := none }) (v := ?_) rfl (by kernel_rfl) (by kernel_rfl) (by kernel_rfl) (fun _ _ _ h => h) (Or.inl ⟨by rfl, ?_⟩) (by assumption) ?_
        rotate_left
        · (intro W hW; (try dsimp only at hW); go_simp <;> (with_reducible rfl))
        try simp only [Act.put, List.setIfInBounds_toArray, List.set_cons_zero, List.set_cons_succ]
        refine wpAnyH_take (i := 9) (oi := { dst := some 39, op := Op.fieldAddr 26 (Operand.tmp 1) 2, type := 0, pos := "law.go:18", after := #[], guard := none }) (v := ?_) rfl (by kernel_rfl) (by kernel_rfl) (by kernel_rfl) (fun _ _ _ h => h) (Or.inl ⟨by rfl, ?_⟩) (by assumption) ?_
        rotate_left
        · (intro W hW; (try dsimp only at hW); go_simp <;> (with_reducible rfl))
        try simp only [Act.put, List.setIfInBounds_toArray, List.set_cons_zero, List.set_cons_succ]
        refine wpAnyH_take (i := 10) (oi := { dst := some 40, op := Op.load 24 (Operand.tmp 39), type := 24, pos := "law.go:18", after := #[{ on := 9, ground := Ground.data }], guard := none }) (v := ?_) rfl (by kernel_rfl) (by kernel_rfl) (by kernel_rfl) (fun _ _ _ h => h) (Or.inl ⟨by rfl, ?_⟩) (by assumption) ?_
        rotate_left
        · (intro W hW; (try dsimp only at hW); go_simp <;> (with_reducible rfl))
        try simp only [Act.put, List.setIfInBounds_toArray, List.set_cons_zero, List.set_cons_succ]
        refine wpAnyH_take (i := 11) (oi := { dst := some 41, op := Op.move (Operand.tmp 4), type := 3, pos := "law.go:18", after := #[], guard := none }) (v := ?_) rfl (by kernel_rfl) (by kernel_rfl) (by kernel_rfl) (fun _ _ _ h => h) (Or.inl ⟨by rfl, ?_⟩) (by assumption) ?_
        rotate_left
        · (intro W hW; (try dsimp only at hW); go_simp <;> (with_reducible rfl))
        try simp only [Act.put, List.setIfInBounds_toArray, List.set_cons_zero, List.set_cons_succ]
        refine wpAnyH_take (i := 12) (oi := { dst := some 42, op := Op.indexAddr 24 (Operand.tmp 40) (Operand.tmp 41), type := 0, pos := "law.go:18", after := #[{ on := 10, ground := Ground.data }, { on := 11, ground := Ground.data }], guard := none }) (v := ?_) rfl (by kernel_rfl) (by kernel_rfl) (by kernel_rfl) (fun _ _ _ h => h) (Or.inl ⟨by rfl, ?_⟩) (by assumption) ?_
        rotate_left
        · (intro W hW; (try dsimp only at hW); go_simp <;> (with_reducible rfl))
        try simp only [Act.put, List.setIfInBounds_toArray, List.set_cons_zero, List.set_cons_succ]
        refine wpAnyH_take (i := 13) (oi := { dst := some 43, op := Op.fieldAddr 48 (Operand.tmp 42) 1, type := 0, pos := "law.go:18", after := #[{ on := 12, ground := Ground.data }], guard := none }) (v := ?_) rfl (by kernel_rfl) (by kernel_rfl) (by kernel_rfl) (fun _ _ _ h => h) (Or.inl ⟨by rfl, ?_⟩) (by assumption) ?_
        rotate_left
        · (intro W hW; (try dsimp only at hW); go_simp <;> (with_reducible rfl))
        try simp only [Act.put, List.setIfInBounds_toArray, List.set_cons_zero, List.set_cons_succ]
        refine wpAnyH_take (i := 14) (oi := { dst := some 44, op := Op.fieldAddr 45 (Operand.tmp 43) 1, type := 0, pos := "law.go:18", after := #[{ on := 13, ground := Ground.data }], guard := none }) (v := ?_) rfl (by kernel_rfl) (by kernel_rfl) (by kernel_rfl) (fun _ _ _ h => h) (Or.inl ⟨by rfl, ?_⟩) (by assumption) ?_
        rotate_left
        · (intro W hW; (try dsimp only at hW); go_simp <;> (with_reducible rfl))
        try simp only [Act.put, List.setIfInBounds_toArray, List.set_cons_zero, List.set_cons_succ]
        refine wpAnyH_take (i := 15) (oi := { dst := some 45, op := Op.load 43 (Operand.tmp 44), type := 43, pos := "law.go:18", after := #[{ on := 14, ground := Ground.data }], guard := none }) (v := ?_) rfl (by kernel_rfl) (by kernel_rfl) (by kernel_rfl) (fun _ _ _ h => h) (Or.inl ⟨by rfl, ?_⟩) (by assumption) ?_
        rotate_left
        · (intro W hW; (try dsimp only at hW); go_simp <;> (with_reducible rfl))
        try simp only [Act.put, List.setIfInBounds_toArray, List.set_cons_zero, List.set_cons_succ]
        refine wpAnyH_take (i := 16) (oi := { dst := some 46, op := Op.build 100 #[(0, Operand.tmp 38), (1, Operand.tmp 45)], type := 100, pos := "law.go:18", after := #[{ on := 8, ground := Ground.data }, { on := 15, ground := Ground.data }], guard := none }) (v := ?_) rfl (by kernel_rfl) (by kernel_rfl) (by kernel_rfl) (fun _ _ _ h => h) (Or.inl ⟨by rfl, ?_⟩) (by assumption) ?_
        rotate_left
        · (intro W hW; (try dsimp only at hW); go_simp <;> (with_reducible rfl))
        try simp only [Act.put, List.setIfInBounds_toArray, List.set_cons_zero, List.set_cons_succ]
        refine wpAnyH_ready (rs := [1, 17]) (by kernel_rfl) (by simp) (AllReadyH.cons (o := { dst := some 31, op := Op.load 30 (Operand.tmp 30), type := 30, pos := "law.go:18", after := #[{ on := 0, ground := Ground.data }], guard := none }) rfl (fun K hK => ?_) (AllReadyH.cons (o := { dst := some 47, op := Op.buildSlice 30 1 #[(0, Operand.tmp 46)], type := 30, pos := "law.go:18", after := #[{ on := 16, ground := Ground.data }], guard := none }) rfl (fun K hK => ?_) AllReadyH.nil))
        · (rw [if_pos (by rfl)]; go_wp2_with (fail))
          refine hK.out _ _ (by (repeat (with_reducible first | assumption | exact AgreeF.refl _ | apply AgreeF.al | apply AgreeF.dr))) (fun hHeld => ?_)
          clear hK K
          try simp only [Act.put, List.setIfInBounds_toArray, List.set_cons_zero, List.set_cons_succ]
          refine wpAnyH_ready (rs := [17]) (by kernel_rfl) (by simp) (AllReadyH.cons (o := { dst := some 47, op := Op.buildSlice 30 1 #[(0, Operand.tmp 46)], type := 30, pos := "law.go:18", after := #[{ on := 16, ground := Ground.data }], guard := none }) rfl (fun K hK => ?_) AllReadyH.nil)
          (rw [if_pos (by rfl)]; go_wp2_with (fail))
          refine hK.out _ _ (by (repeat (with_reducible first | assumption | exact AgreeF.refl _ | apply AgreeF.al | apply AgreeF.dr))) (fun hHeld => ?_)
          clear hK K
          try simp only [Act.put, List.setIfInBounds_toArray, List.set_cons_zero, List.set_cons_succ]
          refine wpAnyH_ready (rs := [18]) (by kernel_rfl) (by simp) (AllReadyH.cons (o := { dst := some 48, op := Op.call { callee := Callee.builtin Builtin.append, args := #[Operand.tmp 31, Operand.tmp 47], argTypes := #[30, 30] }, type := 30, pos := "law.go:18", after := #[{ on := 1, ground := Ground.data }, { on := 17, ground := Ground.data }], guard := none }) rfl (fun K hK => ?_) AllReadyH.nil)
          (refine step_append_run rfl _ _ _ _ rfl rfl rfl hrun2 ?_)
          refine hK.out _ _ (by (repeat (with_reducible first | assumption | exact AgreeF.refl _ | apply AgreeF.al | apply AgreeF.dr))) (fun hHeld => ?_)
          clear hK K
          try simp only [Act.put, List.setIfInBounds_toArray, List.set_cons_zero, List.set_cons_succ]
          refine wpAnyH_take (i := 19) (oi := { dst := some 49, op := Op.fieldAddr 33 (Operand.tmp 3) 3, type := 0, pos := "law.go:18", after := #[{ on := 0, ground := Ground.phase }, { on := 1, ground := Ground.phase }, { on := 2, ground := Ground.phase }, { on := 3, ground := Ground.phase }, { on := 4, ground := Ground.phase }, { on := 5, ground := Ground.phase }, { on := 6, ground := Ground.phase }, { on := 7, ground := Ground.phase }, { on := 8, ground := Ground.phase }, { on := 9, ground := Ground.phase }, { on := 10, ground := Ground.phase }, { on := 11, ground := Ground.phase }, { on := 12, ground := Ground.phase }, { on := 13, ground := Ground.phase }, { on := 14, ground := Ground.phase }, { on := 15, ground := Ground.phase }, { on := 16, ground := Ground.phase }, { on := 17, ground := Ground.phase }, { on := 18, ground := Ground.phase }], guard := none }) (v := ?_) rfl (by kernel_rfl) (by kernel_rfl) (by kernel_rfl) (fun _ _ _ h => h) (Or.inl ⟨by rfl, ?_⟩) (by assumption) ?_
          rotate_left
          · (intro W hW; (try dsimp only at hW); go_simp <;> (with_reducible rfl))
          try simp only [Act.put, List.setIfInBounds_toArray, List.set_cons_zero, List.set_cons_succ]
          refine wpAnyH_ready (rs := [20]) (by kernel_rfl) (by simp) (AllReadyH.cons (o := { dst := none, op := Op.store 30 (Operand.tmp 49) (Operand.tmp 48), type := 0, pos := "law.go:18", after := #[{ on := 19, ground := Ground.data }, { on := 18, ground := Ground.data }, { on := 18, ground := Ground.chain }, { on := 0, ground := Ground.phase }, { on := 1, ground := Ground.phase }, { on := 2, ground := Ground.phase }, { on := 3, ground := Ground.phase }, { on := 4, ground := Ground.phase }, { on := 5, ground := Ground.phase }, { on := 6, ground := Ground.phase }, { on := 7, ground := Ground.phase }, { on := 8, ground := Ground.phase }, { on := 9, ground := Ground.phase }, { on := 10, ground := Ground.phase }, { on := 11, ground := Ground.phase }, { on := 12, ground := Ground.phase }, { on := 13, ground := Ground.phase }, { on := 14, ground := Ground.phase }, { on := 15, ground := Ground.phase }, { on := 16, ground := Ground.phase }, { on := 17, ground := Ground.phase }, { on := 18, ground := Ground.phase }], guard := none }) rfl (fun K hK => ?_) AllReadyH.nil)
          (rw [if_pos (by rfl)]; go_wp2_with (fail))
          refine hK.out _ _ (by (repeat (with_reducible first | assumption | exact AgreeF.refl _ | apply AgreeF.al | apply AgreeF.dr))) (fun hHeld => ?_)
          clear hK K
          try simp only [Act.put, List.setIfInBounds_toArray, List.set_cons_zero, List.set_cons_succ]
          refine wpAnyH_done (by kernel_rfl) ?_ _
          refine NoPanic.normal ?_
          obtain ⟨wy, hwy⟩ : ∃ x, x = (w9.setCell ⟨w.heap.size + 1 + 1, 3, none⟩ (.slice a9 (i + 1) c9)) := ⟨_, rfl⟩
          rw [← hwy] at HQ ⊢
          clear hwy f8 f9 hA00 hA3 hA4 hHeld e2 e3 e4 hrun2 o3 n1 n2
          go_wp2_with fail
          go_roundw
          case rel => exact ⟨i + 1, _, _, _, hlt, by go_num, HQ.out⟩
          case measure => simp [intOf]; omega
        · (rw [if_pos (by rfl)]; go_wp2_with (fail))
          refine hK.out _ _ (by (repeat (with_reducible first | assumption | exact AgreeF.refl _ | apply AgreeF.al | apply AgreeF.dr))) (fun hHeld => ?_)
          clear hK K
          try simp only [Act.put, List.setIfInBounds_toArray, List.set_cons_zero, List.set_cons_succ]
          refine wpAnyH_ready (rs := [1]) (by kernel_rfl) (by simp) (AllReadyH.cons (o := { dst := some 31, op := Op.load 30 (Operand.tmp 30), type := 30, pos := "law.go:18", after := #[{ on := 0, ground := Ground.data }], guard := none }) rfl (fun K hK => ?_) AllReadyH.nil)
          (rw [if_pos (by rfl)]; go_wp2_with (fail))
          refine hK.out _ _ (by (repeat (with_reducible first | assumption | exact AgreeF.refl _ | apply AgreeF.al | apply AgreeF.dr))) (fun hHeld => ?_)
          clear hK K
          try simp only [Act.put, List.setIfInBounds_toArray, List.set_cons_zero, List.set_cons_succ]
          refine wpAnyH_ready (rs := [18]) (by kernel_rfl) (by simp) (AllReadyH.cons (o := { dst := some 48, op := Op.call { callee := Callee.builtin Builtin.append, args := #[Operand.tmp 31, Operand.tmp 47], argTypes := #[30, 30] }, type := 30, pos := "law.go:18", after := #[{ on := 1, ground := Ground.data }, { on := 17, ground := Ground.data }], guard := none }) rfl (fun K hK => ?_) AllReadyH.nil)
          (refine step_append_run rfl _ _ _ _ rfl rfl rfl hrun2 ?_)
          refine hK.out _ _ (by (repeat (with_reducible first | assumption | exact AgreeF.refl _ | apply AgreeF.al | apply AgreeF.dr))) (fun hHeld => ?_)
          clear hK K
          try simp only [Act.put, List.setIfInBounds_toArray, List.set_cons_zero, List.set_cons_succ]
          refine wpAnyH_take (i := 19) (oi := { dst := some 49, op := Op.fieldAddr 33 (Operand.tmp 3) 3, type := 0, pos := "law.go:18", after := #[{ on := 0, ground := Ground.phase }, { on := 1, ground := Ground.phase }, { on := 2, ground := Ground.phase }, { on := 3, ground := Ground.phase }, { on := 4, ground := Ground.phase }, { on := 5, ground := Ground.phase }, { on := 6, ground := Ground.phase }, { on := 7, ground := Ground.phase }, { on := 8, ground := Ground.phase }, { on := 9, ground := Ground.phase }, { on := 10, ground := Ground.phase }, { on := 11, ground := Ground.phase }, { on := 12, ground := Ground.phase }, { on := 13, ground := Ground.phase }, { on := 14, ground := Ground.phase }, { on := 15, ground := Ground.phase }, { on := 16, ground := Ground.phase }, { on := 17, ground := Ground.phase }, { on := 18, ground := Ground.phase }], guard := none }) (v := ?_) rfl (by kernel_rfl) (by kernel_rfl) (by kernel_rfl) (fun _ _ _ h => h) (Or.inl ⟨by rfl, ?_⟩) (by assumption) ?_
          rotate_left
          · (intro W hW; (try dsimp only at hW); go_simp <;> (with_reducible rfl))
          try simp only [Act.put, List.setIfInBounds_toArray, List.set_cons_zero, List.set_cons_succ]
          refine wpAnyH_ready (rs := [20]) (by kernel_rfl) (by simp) (AllReadyH.cons (o := { dst := none, op := Op.store 30 (Operand.tmp 49) (Operand.tmp 48), type := 0, pos := "law.go:18", after := #[{ on := 19, ground := Ground.data }, { on := 18, ground := Ground.data }, { on := 18, ground := Ground.chain }, { on := 0, ground := Ground.phase }, { on := 1, ground := Ground.phase }, { on := 2, ground := Ground.phase }, { on := 3, ground := Ground.phase }, { on := 4, ground := Ground.phase }, { on := 5, ground := Ground.phase }, { on := 6, ground := Ground.phase }, { on := 7, ground := Ground.phase }, { on := 8, ground := Ground.phase }, { on := 9, ground := Ground.phase }, { on := 10, ground := Ground.phase }, { on := 11, ground := Ground.phase }, { on := 12, ground := Ground.phase }, { on := 13, ground := Ground.phase }, { on := 14, ground := Ground.phase }, { on := 15, ground := Ground.phase }, { on := 16, ground := Ground.phase }, { on := 17, ground := Ground.phase }, { on := 18, ground := Ground.phase }], guard := none }) rfl (fun K hK => ?_) AllReadyH.nil)
          (rw [if_pos (by rfl)]; go_wp2_with (fail))
          refine hK.out _ _ (by (repeat (with_reducible first | assumption | exact AgreeF.refl _ | apply AgreeF.al | apply AgreeF.dr))) (fun hHeld => ?_)
          clear hK K
          try simp only [Act.put, List.setIfInBounds_toArray, List.set_cons_zero, List.set_cons_succ]
          refine wpAnyH_done (by kernel_rfl) ?_ _
          refine NoPanic.normal ?_
          obtain ⟨wy, hwy⟩ : ∃ x, x = (w9.setCell ⟨w.heap.size + 1 + 1, 3, none⟩ (.slice a9 (i + 1) c9)) := ⟨_, rfl⟩
          rw [← hwy] at HQ ⊢
          clear hwy f8 f9 hA00 hA3 hA4 hHeld e2 e3 e4 hrun2 o3 n1 n2
          go_wp2_with fail
          go_roundw
          case rel => exact ⟨i + 1, _, _, _, hlt, by go_num, HQ.out⟩
          case measure => simp [intOf]; omega
    · obtain rfl : i = kn := by omega
      have hik : decide ((i : Int) < (i : Int)) = false := by simp
      have hkk : (keysOf l).take i = keysOf l := by rw [List.take_of_length_le]; have := HKL.out; simp [keysOf]; omega
      have htt : (l.map (·.2)).take i = l.map (·.2) := by rw [List.take_of_length_le]; have := HKL.out; simp; omega
      rw [hkk, htt] at hmid
      have o0 := hmid.1.cell 0 0 rfl rfl
      have o1 := hmid.1.cell 0 1 rfl rfl
      have o2 := hmid.1.cell 0 2 rfl rfl
      have o3 := hmid.1.cell 0 3 rfl rfl
      have o4 := hmid.1.cell 0 4 rfl rfl
      have u0 := hmid.1.frozen 1 0 rfl
      have u1 := hmid.1.frozen 1 1 rfl
      have u2 := hmid.1.frozen 1 2 rfl
      have u3 := hmid.1.frozen 1 3 rfl
      have u4 := hmid.1.frozen 1 4 rfl
      have z0 : wr.cell? ⟨w.heap.size + 1, 0, none⟩ = _ := hmid.1.cell 1 0 rfl rfl
      have z1 : wr.cell? ⟨w.heap.size + 1, 1, none⟩ = _ := hmid.1.cell 1 1 rfl rfl
      have z2 : wr.cell? ⟨w.heap.size + 1, 2, none⟩ = _ := hmid.1.cell 1 2 rfl rfl
      have z3 : wr.cell? ⟨w.heap.size + 1, 3, none⟩ = _ := hmid.1.cell 1 3 rfl rfl
      have z4 : wr.cell? ⟨w.heap.size + 1, 4, none⟩ = _ := hmid.1.cell 1 4 rfl rfl
      obtain ⟨hxe, hne⟩ := node_end (F := F) (n := n + 1) (T := .leaf p l) hmid.2.2 (hmid.1.sub (m := [(w.heap.size + 1, [.int .i64 0, .bool false, .slice none 0 0, .slice none 0 0, .slice none 0 0])]) (by simp [zero5])) (hmid.2.1.leaf (fun b hb => by
        rcases hb with hb | hb
        · exact .inl ⟨hb, hF b hb⟩
        · exact .inr (by omega)) n)
      have HG := Lib.hid hxe
      have HE := Lib.hid hne
      clear hmid hxe hne hkk htt
      go_wp2_with fail
      refine bodyPost_ret (v := .agg #[.int .i64 p, .bool true, .slice a1 i k1, .slice a2 i k2, .slice a3 0 k3]) (by
        have g0 := HG.out.cell 0 0 rfl rfl
        have g1 := HG.out.cell 0 1 rfl rfl
        have g2 := HG.out.cell 0 2 rfl rfl
        have g3 := HG.out.cell 0 3 rfl rfl
        have g4 := HG.out.cell 0 4 rfl rfl
        unfold set5 at g0 g1 g2 g3 g4
        simp only [results, Try.results19]; simp [go_sem, g0, g1, g2, g3, g4]) rfl HE.out
set_option maxRecDepth 100000 in
set_option maxHeartbeats 3000000 in
theorem node17_node {n : Nat} (IH : ∀ {F : Nat → Prop} {w : World} {cs : List Value} {t : Tr}, (∀ b, F b → b < w.heap.size) → RNodeOn F n w cs t → Bnd n t → Calls Try.prog 19 #[.agg cs.toArray] w (NodeTo F n w t)) {F : Nat → Prop} {w : World} {cs : List Value} {p : Int} {l : List (List UInt8 × Tr)} (hF : ∀ b, F b → b < w.heap.size) (h : RNodeOn F (n + 1) w cs (.node p l)) (hm : l.length ≤ 1000) (hbk : ∀ c ∈ l, Bnd n c.2) :
    Calls Try.prog 19 #[.agg cs.toArray] w (NodeTo F (n + 1) w (.node p l)) := by
  obtain ⟨a, c, rfl, h1, _⟩ := h.at
  obtain ⟨e1, e2, e3⟩ := h1.lens
  obtain ⟨kn, hkn'⟩ : ∃ x, cntT (.node p l) = x := ⟨_, rfl⟩
  have hkl : l.length = kn := hkn'
  rw [hkn'] at h1 e1 e2 ⊢
  have HV := Lib.hid h1
  have HKL := Lib.hid hkl
  have hkn9 : kn ≤ 1000 := by omega
  have hmid : NdMid F n w p false [.int .i64 p, .bool false, .slice a kn c] (.slice none 0 0) (.slice none 0 0) (.slice none 0 0) ((keysOf l).take 0) [] ((l.map (·.2)).take 0) (((w.alloc (.cells #[.int .i64 p, .bool false, .slice a kn c] 26)).alloc (.cells #[.int .i64 0, .bool false, .slice none 0 0, .slice none 0 0, .slice none 0 0] 33)).alloc (.cells #[.int .i64 p, .bool false, .slice none 0 0, .slice none 0 0, .slice none 0 0] 33)) :=
    ⟨(((Boxes.nil w).alloc #[.int .i64 p, .bool false, .slice a kn c] 26 (b := w.heap.size) rfl).alloc #[.int .i64 0, .bool false, .slice none 0 0, .slice none 0 0, .slice none 0 0] 33 (b := w.heap.size + 1) (by simp)).alloc #[.int .i64 p, .bool false, .slice none 0 0, .slice none 0 0, .slice none 0 0] 33 (b := w.heap.size + 1 + 1) (by simp), NodeRows.nil _ _ _ _ _ _ _, Below.al (Below.al (Below.al (Below.refl _ _)))⟩
  have HMID := Lib.hid hmid
  clear h h1 e1 hmid hkl hkn'
  show Calls _ _ #[.agg #[.int .i64 p, .bool false, .slice a kn c]] _ _
  go_enter Try.func19, Try.ntmps19
  go_wp2_with fail
  go_loopw [4] (fun s4 wr => ∃ (i : Nat) (v1 v2 v3 : Value), i ≤ kn ∧ s4 = .int .i64 i ∧ NdMid F n w p false [.int .i64 p, .bool false, .slice a kn c] v1 v2 v3 ((keysOf l).take i) [] ((l.map (·.2)).take i) wr) (fun s _ => kn - (intOf s).toNat)
  case atStart => exact ⟨0, _, _, _, Nat.zero_le _, rfl, HMID.out⟩
  case round =>
    clear HMID
    obtain ⟨i, v1, v2, v3, hi, rfl, hmid⟩ := hrel
    obtain ⟨a1, k1, a2, k2, a3, k3, rfl, rfl, rfl⟩ := hmid.2.1.sl
    have hlen1 : ((keysOf l).take i).length = i := by rw [List.length_take]; have := HKL.out; simp [keysOf]; omega
    have hlen2 : ((l.map (·.2)).take i).length = i := by rw [List.length_take]; have := HKL.out; simp; omega
    have hlen3 : ([] : List Tv).length = 0 := rfl
    rw [hlen1, hlen2, hlen3] at hmid
    have n1 := hmid.1.cell 2 1 rfl rfl
    have n2 := hmid.1.cell 2 2 rfl rfl
    by_cases hlt : i < kn
    · obtain ⟨b, off, bk, ok, kcs, pa, pn, pc, kc, rfl, hbb, hbk9, hon, c0, c1, c2, c3, hck, hkc1, hkc2⟩ := RNodeOn.kid HV.out hlt
      have hil : i < l.length := by have := HKL.out; omega
      obtain ⟨key, hkeq⟩ : ∃ key, keyAt l i = key := ⟨_, rfl⟩
      obtain ⟨kid, hkid⟩ : ∃ kid, kidAt l i = kid := ⟨_, rfl⟩
      rw [hkeq] at c0
      rw [hkid] at hon
      have hkey : (keysOf l)[i]? = some key := by rw [← hkeq]; simp [keysOf, keyAt, hil]
      have htv : (l.map (·.2))[i]? = some kid := by rw [← hkid]; simp [kidAt, hil]
      have hbd : Bnd n kid := by
        rw [← hkid]
        obtain ⟨d, hd, e⟩ := kid_mem (l := l) (k := i) hil
        rw [← e]; exact hbk d hd
      have HKEY := Lib.hid hkey
      have HTV := Lib.hid htv
      have hm0 := hmid.below (Below.dr (Below.refl _ _))
      obtain ⟨a', c', w', hrun1, hA1, f8, f9, hA2, hmidP⟩ := hm0.pushK n hF (by rw [hlen1]; omega) key
      rw [hlen1] at hrun1 hA2 hmidP
      rw [← List.take_succ_eq_append_of hkey] at hmidP
      have HP := Lib.hid hmidP
      have hbw := hmid.2.2
      have HON := Lib.hid hon
      have HBD := Lib.hid hbd
      cases n with
      | zero => exact hon.elim
      | succ n =>
      obtain ⟨ak, ck, rfl, _, _⟩ := hon.at
      have hsz := hbw.size
      have hge1 : (Value.slice a1 i k1).ownBlock ≠ some w.heap.size := fun e => by have := (hmid.2.1.k.lt e).1; omega
      have hge2 : (Value.slice a1 i k1).ownBlock ≠ some b := fun e => by have := (hmid.2.1.k.lt e).1; omega
      have hne : w.heap.size ≠ w.heap.size + 1 + 1 := by omega
      have hbn : b ≠ w.heap.size + 1 + 1 := by omega
      have hlw : w.heap.size < wr.heap.size := by have := hmid.lt; omega
      have hlb : b < wr.heap.size := by omega
      have hl2 := hmid.lt
      have o2 := hmid.1.cell 0 2 rfl rfl
      have e2 : ∀ W, AgreeF (fun x => (Value.slice a1 i k1).ownBlock ≠ some x ∧ x ≠ w.heap.size + 1 + 1) wr W → W.cell? ⟨w.heap.size, 2, none⟩ = _ := fun W hW => (hW.cell ⟨hge1, hne⟩ hlw).trans n2
      have e0 : ∀ W, AgreeF (fun x => (Value.slice a1 i k1).ownBlock ≠ some x ∧ x ≠ w.heap.size + 1 + 1) wr W → W.cell? ⟨b, off + i * 4, none⟩ = _ := fun W hW => (hW.cell ⟨hge2, hbn⟩ hlb).trans ((hbw.cell (p := ⟨b, off + i * 4, none⟩) hbb).trans c0)
      have hA00 : AgreeF (fun x => (Value.slice a1 i k1).ownBlock ≠ some x ∧ x ≠ w.heap.size + 1 + 1) wr wr.drew := AgreeF.refl _
      have hA1 : AgreeF (fun x => (Value.slice a1 i k1).ownBlock ≠ some x ∧ x ≠ w.heap.size + 1 + 1) wr w' := hA1
      have hA2 : AgreeF (fun x => (Value.slice a1 i k1).ownBlock ≠ some x ∧ x ≠ w.heap.size + 1 + 1) wr (w'.setCell ⟨w.heap.size + 1 + 1, 2, none⟩ (.slice a' (i + 1) c')) := hA2
      have HC3 := Lib.hid c3
      have HCK := Lib.hid hck
      have hik : (i : Int) < (kn : Int) := by omega
      have h0i : (0 : Int) ≤ (i : Int) := by omega
      have hwi : IntKind.i64.wrap ((i : Int) + 1) = (i : Int) + 1 := IntWalk.i64_in _ (by omega)
      clear hmid hm0 hmidP hon hbd hbw hkey htv hlen1 hlen2 c1 c2 c3 hck hkeq hkid
      go_upto_region 5 with (fail)
      refine wp_region_noPanic ?_
      refine wp_region_held_drew (S := (fun W => AgreeF (fun x => (Value.slice a1 i k1).ownBlock ≠ some x ∧ x ≠ w.heap.size + 1 + 1) wr W)) (by kernel_rfl) (by (repeat (with_reducible first | assumption | exact AgreeF.refl _ | apply AgreeF.al | apply AgreeF.dr))) (fun hHeld => ?_)
      refine wpAnyH_take (i := 0) (oi := { dst := some 17, op := Op.fieldAddr 33 (Operand.tmp 3) 2, type := 0, pos := "law.go:16", after := #[], guard := none }) (v := ?_) rfl (by kernel_rfl) (by kernel_rfl) (by kernel_rfl) (fun _ _ _ h => h) (Or.inl ⟨by rfl, ?_⟩) (by assumption) ?_
      rotate_left
      · (intro W hW; (try dsimp only at hW); go_simp <;> (with_reducible rfl))
      try simp only [Act.put, List.setIfInBounds_toArray, List.set_cons_zero, List.set_cons_succ]
      refine wpAnyH_take (i := 2) (oi := { dst := some 19, op := Op.fieldAddr 26 (Operand.tmp 1) 2, type := 0, pos := "law.go:16", after := #[], guard := none }) (v := ?_) rfl (by kernel_rfl) (by kernel_rfl) (by kernel_rfl) (fun _ _ _ h => h) (Or.inl ⟨by rfl, ?_⟩) (by assumption) ?_
      rotate_left
      · (intro W hW; (try dsimp only at hW); go_simp <;> (with_reducible rfl))
      try simp only [Act.put, List.setIfInBounds_toArray, List.set_cons_zero, List.set_cons_succ]
      refine wpAnyH_take (i := 3) (oi := { dst := some 20, op := Op.load 24 (Operand.tmp 19), type := 24, pos := "law.go:16", after := #[{ on := 2, ground := Ground.data }], guard := none }) (v := ?_) rfl (by kernel_rfl) (by kernel_rfl) (by kernel_rfl) (fun _ _ _ h => h) (Or.inl ⟨by rfl, ?_⟩) (by assumption) ?_
      rotate_left
      · (intro W hW; (try dsimp only at hW); go_simp <;> (with_reducible rfl))
      try simp only [Act.put, List.setIfInBounds_toArray, List.set_cons_zero, List.set_cons_succ]
      refine wpAnyH_take (i := 4) (oi := { dst := some 21, op := Op.move (Operand.tmp 4), type := 3, pos := "law.go:16", after := #[], guard := none }) (v := ?_) rfl (by kernel_rfl) (by kernel_rfl) (by kernel_rfl) (fun _ _ _ h => h) (Or.inl ⟨by rfl, ?_⟩) (by assumption) ?_
      rotate_left
      · (intro W hW; (try dsimp only at hW); go_simp <;> (with_reducible rfl))
      try simp only [Act.put, List.setIfInBounds_toArray, List.set_cons_zero, List.set_cons_succ]
      refine wpAnyH_take (i := 5) (oi := { dst := some 22, op := Op.indexAddr 24 (Operand.tmp 20) (Operand.tmp 21), type := 0, pos := "law.go:16", after := #[{ on := 3, ground := Ground.data }, { on := 4, ground := Ground.data }], guard := none }) (v := ?_) rfl (by kernel_rfl) (by kernel_rfl) (by kernel_rfl) (fun _ _ _ h => h) (Or.inl ⟨by rfl, ?_⟩) (by assumption) ?_
      rotate_left
      · (intro W hW; (try dsimp only at hW); go_simp <;> (with_reducible rfl))
      try simp only [Act.put, List.setIfInBounds_toArray, List.set_cons_zero, List.set_cons_succ]
      refine wpAnyH_take (i := 6) (oi := { dst := some 23, op := Op.fieldAddr 48 (Operand.tmp 22) 0, type := 0, pos := "law.go:16", after := #[{ on := 5, ground := Ground.data }], guard := none }) (v := ?_) rfl (by kernel_rfl) (by kernel_rfl) (by kernel_rfl) (fun _ _ _ h => h) (Or.inl ⟨by rfl, ?_⟩) (by assumption) ?_
      rotate_left
      · (intro W hW; (try dsimp only at hW); go_simp <;> (with_reducible rfl))
      try simp only [Act.put, List.setIfInBounds_toArray, List.set_cons_zero, List.set_cons_succ]
      refine wpAnyH_take (i := 7) (oi := { dst := some 24, op := Op.load 9 (Operand.tmp 23), type := 9, pos := "law.go:16", after := #[{ on := 6, ground := Ground.data }], guard := none }) (v := ?_) rfl (by kernel_rfl) (by kernel_rfl) (by kernel_rfl) (fun _ _ _ h => h) (Or.inl ⟨by rfl, ?_⟩) (by assumption) ?_
      rotate_left
      · (intro W hW; (try dsimp only at hW); go_simp <;> (with_reducible rfl))
      try simp only [Act.put, List.setIfInBounds_toArray, List.set_cons_zero, List.set_cons_succ]
      refine wpAnyH_ready (rs := [1, 8]) (by kernel_rfl) (by simp) (AllReadyH.cons (o := { dst := some 18, op := Op.load 29 (Operand.tmp 17), type := 29, pos := "law.go:16", after := #[{ on := 0, ground := Ground.data }], guard := none }) rfl (fun K hK => ?_) (AllReadyH.cons (o := { dst := some 25, op := Op.buildSlice 29 1 #[(0, Operand.tmp 24)], type := 29, pos := "law.go:16", after := #[{ on := 7, ground := Ground.data }], guard := none }) rfl (fun K hK => ?_) AllReadyH.nil))
      · (rw [if_pos (by rfl)]; go_wp2_with (fail))
        refine hK.out _ _ (by (repeat (with_reducible first | assumption | exact AgreeF.refl _ | apply AgreeF.al | apply AgreeF.dr))) (fun hHeld => ?_)
        clear hK K
        try simp only [Act.put, List.setIfInBounds_toArray, List.set_cons_zero, List.set_cons_succ]
        refine wpAnyH_ready (rs := [8]) (by kernel_rfl) (by simp) (AllReadyH.cons (o := { dst := some 25, op := Op.buildSlice 29 1 #[(0, Operand.tmp 24)], type := 29, pos := "law.go:16", after := #[{ on := 7, ground := Ground.data }], guard := none }) rfl (fun K hK => ?_) AllReadyH.nil)
        (rw [if_pos (by rfl)]; go_wp2_with (fail))
        refine hK.out _ _ (by (repeat (with_reducible first | assumption | exact AgreeF.refl _ | apply AgreeF.al | apply AgreeF.dr))) (fun hHeld => ?_)
        clear hK K
        try simp only [Act.put, List.setIfInBounds_toArray, List.set_cons_zero, List.set_cons_succ]
        refine wpAnyH_ready (rs := [9]) (by kernel_rfl) (by simp) (AllReadyH.cons (o := { dst := some 26, op := Op.call { callee := Callee.builtin Builtin.append, args := #[Operand.tmp 18, Operand.tmp 25], argTypes := #[29, 29] }, type := 29, pos := "law.go:16", after := #[{ on := 1, ground := Ground.data }, { on := 8, ground := Ground.data }], guard := none }) rfl (fun K hK => ?_) AllReadyH.nil)
        (refine step_append_run rfl _ _ _ _ rfl rfl rfl hrun1 ?_)
        refine hK.out _ _ (by (repeat (with_reducible first | assumption | exact AgreeF.refl _ | apply AgreeF.al | apply AgreeF.dr))) (fun hHeld => ?_)
        clear hK K
        try simp only [Act.put, List.setIfInBounds_toArray, List.set_cons_zero, List.set_cons_succ]
        refine wpAnyH_take (i := 10) (oi := { dst := some 27, op := Op.fieldAddr 33 (Operand.tmp 3) 2, type := 0, pos := "law.go:16", after := #[{ on := 0, ground := Ground.phase }, { on := 1, ground := Ground.phase }, { on := 2, ground := Ground.phase }, { on := 3, ground := Ground.phase }, { on := 4, ground := Ground.phase }, { on := 5, ground := Ground.phase }, { on := 6, ground := Ground.phase }, { on := 7, ground := Ground.phase }, { on := 8, ground := Ground.phase }, { on := 9, ground := Ground.phase }], guard := none }) (v := ?_) rfl (by kernel_rfl) (by kernel_rfl) (by kernel_rfl) (fun _ _ _ h => h) (Or.inl ⟨by rfl, ?_⟩) (by assumption) ?_
        rotate_left
        · (intro W hW; (try dsimp only at hW); go_simp <;> (with_reducible rfl))
        try simp only [Act.put, List.setIfInBounds_toArray, List.set_cons_zero, List.set_cons_succ]
        refine wpAnyH_ready (rs := [11]) (by kernel_rfl) (by simp) (AllReadyH.cons (o := { dst := none, op := Op.store 29 (Operand.tmp 27) (Operand.tmp 26), type := 0, pos := "law.go:16", after := #[{ on := 10, ground := Ground.data }, { on := 9, ground := Ground.data }, { on := 9, ground := Ground.chain }, { on := 0, ground := Ground.phase }, { on := 1, ground := Ground.phase }, { on := 2, ground := Ground.phase }, { on := 3, ground := Ground.phase }, { on := 4, ground := Ground.phase }, { on := 5, ground := Ground.phase }, { on := 6, ground := Ground.phase }, { on := 7, ground := Ground.phase }, { on := 8, ground := Ground.phase }, { on := 9, ground := Ground.phase }], guard := none }) rfl (fun K hK => ?_) AllReadyH.nil)
        (rw [if_pos (by rfl)]; go_wp2_with (fail))
        refine hK.out _ _ (by (repeat (with_reducible first | assumption | exact AgreeF.refl _ | apply AgreeF.al | apply AgreeF.dr))) (fun hHeld => ?_)
        clear hK K
        try simp only [Act.put, List.setIfInBounds_toArray, List.set_cons_zero, List.set_cons_succ]
        refine wpAnyH_done (by kernel_rfl) ?_ _
        refine NoPanic.normal ?_
        obtain ⟨wz, hwz⟩ : ∃ x, x = (w'.setCell ⟨w.heap.size + 1 + 1, 2, none⟩ (.slice a' (i + 1) c')) := ⟨_, rfl⟩
        rw [← hwz] at HP ⊢
        clear hwz f8 f9 hA00 hA1 hA2 hHeld e0 e2 hrun1 o2 n1 n2
        have hmz := HP.out
        have n1 := hmz.1.cell 2 1 rfl rfl
        have n2 := hmz.1.cell 2 2 rfl rfl
        have hbw := hmz.2.2
        have hlw : w.heap.size < wz.heap.size := by have := hmz.lt; omega
        have hlb : b < wz.heap.size := by omega
        have hl2z := hmz.lt
        have hlen2 : ((l.map (·.2)).take i).length = i := by rw [List.length_take]; have := HKL.out; simp; omega
        have o4 := hmz.1.cell 0 4 rfl rfl
        have hge1 : (Value.slice a3 i k3).ownBlock ≠ some w.heap.size := fun e => by have := (hmz.2.1.c.lt e).1; omega
        have hge2 : (Value.slice a3 i k3).ownBlock ≠ some b := fun e => by have := (hmz.2.1.c.lt e).1; omega
        have hge3 : (Value.slice a3 i k3).ownBlock ≠ some bk := fun e => by have := (hmz.2.1.c.lt e).1; omega
        have hbkn : bk ≠ w.heap.size + 1 + 1 := by omega
        have hlk : bk < wz.heap.size := by omega
        have e2 : ∀ W, AgreeF (fun x => (Value.slice a3 i k3).ownBlock ≠ some x ∧ x ≠ w.heap.size + 1 + 1) wz W → W.cell? ⟨w.heap.size, 2, none⟩ = _ := fun W hW => (hW.cell ⟨hge1, hne⟩ hlw).trans n2
        have e3 : ∀ W, AgreeF (fun x => (Value.slice a3 i k3).ownBlock ≠ some x ∧ x ≠ w.heap.size + 1 + 1) wz W → W.cell? ⟨b, off + i * 4 + 3, none⟩ = _ := fun W hW => (hW.cell ⟨hge2, hbn⟩ hlb).trans ((hbw.cell (p := ⟨b, off + i * 4 + 3, none⟩) hbb).trans HC3.out)
        have g0 : ∀ W, AgreeF (fun x => (Value.slice a3 i k3).ownBlock ≠ some x ∧ x ≠ w.heap.size + 1 + 1) wz W → W.cell? ⟨bk, ok, none⟩ = _ := fun W hW => (hW.cell ⟨hge3, hbkn⟩ hlk).trans ((hbw.cell (p := ⟨bk, ok, none⟩) hbk9).trans (HCK.out 0 _ rfl))
        have g1 : ∀ W, AgreeF (fun x => (Value.slice a3 i k3).ownBlock ≠ some x ∧ x ≠ w.heap.size + 1 + 1) wz W → W.cell? ⟨bk, ok + 1, none⟩ = _ := fun W hW => (hW.cell ⟨hge3, hbkn⟩ hlk).trans ((hbw.cell (p := ⟨bk, ok + 1, none⟩) hbk9).trans (HCK.out 1 _ rfl))
        have g2 : ∀ W, AgreeF (fun x => (Value.slice a3 i k3).ownBlock ≠ some x ∧ x ≠ w.heap.size + 1 + 1) wz W → W.cell? ⟨bk, ok + 2, none⟩ = _ := fun W hW => (hW.cell ⟨hge3, hbkn⟩ hlk).trans ((hbw.cell (p := ⟨bk, ok + 2, none⟩) hbk9).trans (HCK.out 2 _ rfl))
        have CW := IH (F := F) (w := wz.drew) (fun b hf => by have := hF b hf; simp; omega) ((HON.out.below hbw).below (Below.dr (Below.refl _ _))) HBD.out
        have hA00 : AgreeF (fun x => (Value.slice a3 i k3).ownBlock ≠ some x ∧ x ≠ w.heap.size + 1 + 1) wz wz.drew := AgreeF.refl _
        have hmd := hmz.below (Below.dr (Below.refl _ _))
        have PC : ∀ (w2 : World) (x0 x1 x2 x3 x4 : Value), Below wz.drew.heap.size wz.drew w2 → NodeOn (Fr F wz.drew) (n + 1) w2 [x0, x1, x2, x3, x4] kid → ∃ a9 c9 w9, (Builtin.append_ #[31, 31] 31 #[.slice a3 i k3, .slice (some ⟨w2.heap.size, 0, none⟩) 1 1]).run Try.prog (w2.alloc (.cells #[x0, x1, x2, x3, x4] 33)) = .ok (.slice a9 (i + 1) c9) w9 ∧ w9.cell? ⟨w.heap.size + 1 + 1, 4, none⟩ = some (.slice a3 i k3) ∧ w9.frozen? ⟨w.heap.size + 1 + 1, 4, none⟩ = false ∧ w2.cell? ⟨w.heap.size + 1 + 1, 4, none⟩ = some (.slice a3 i k3) ∧ w.heap.size + 1 + 1 < w2.heap.size ∧
            AgreeF (fun x => (Value.slice a3 i k3).ownBlock ≠ some x ∧ x ≠ w.heap.size + 1 + 1) wz w2 ∧ AgreeF (fun x => (Value.slice a3 i k3).ownBlock ≠ some x ∧ x ≠ w.heap.size + 1 + 1) wz w9 ∧ AgreeF (fun x => (Value.slice a3 i k3).ownBlock ≠ some x ∧ x ≠ w.heap.size + 1 + 1) wz (w9.setCell ⟨w.heap.size + 1 + 1, 4, none⟩ (.slice a9 (i + 1) c9)) ∧ Hid (NdMid F (n + 1) w p false [.int .i64 p, .bool false, .slice (some ⟨b, off, none⟩) kn c] (.slice a' (i + 1) c') (.slice a2 0 k2) (.slice a9 (i + 1) c9) ((keysOf l).take (i + 1)) [] ((l.map (·.2)).take (i + 1)) (w9.setCell ⟨w.heap.size + 1 + 1, 4, none⟩ (.slice a9 (i + 1) c9))) := fun w2 x0 x1 x2 x3 x4 hb2 hn2 => by
          have hm2 := hmd.below hb2
          have hkid : NodeOn (G3 F (w.heap.size + 3) (.slice a' (i + 1) c') (.slice a2 0 k2) (.slice a3 i k3)) (n + 1) w2 [x0, x1, x2, x3, x4] kid := NodeOn.mono (fun b hf => by
            rcases hf with hf | hf
            · exact ⟨.inl hf, fun e => by have := (hmz.2.1.k.lt e).1; have := hF b hf; omega, fun e => by have := (hmz.2.1.v.lt e).1; have := hF b hf; omega, fun e => by have := (hmz.2.1.c.lt e).1; have := hF b hf; omega⟩
            · simp at hf
              exact ⟨.inr (by have := hmz.lt; omega), fun e => by have := (hmz.2.1.k.lt e).2; omega, fun e => by have := (hmz.2.1.v.lt e).2; omega, fun e => by have := (hmz.2.1.c.lt e).2; omega⟩) hn2
          obtain ⟨a9, c9, w9, hrun2, hA3, f8, f9, hA4, hmidQ⟩ := hm2.pushC (n + 1) hF (by rw [hlen2]; omega) hkid
          rw [hlen2] at hrun2 hA4 hmidQ
          rw [← List.take_succ_eq_append_of HTV.out] at hmidQ
          have hag : AgreeF (fun x => (Value.slice a3 i k3).ownBlock ≠ some x ∧ x ≠ w.heap.size + 1 + 1) wz w2 := AgreeF.trans (AgreeF.dr (AgreeF.refl wz)) (AgreeF.of_below hb2)
          exact ⟨a9, c9, w9, hrun2, f8, f9, hm2.1.cell 0 4 rfl rfl, hm2.lt, hag, hag.trans hA3, hag.trans hA4, Lib.hid hmidQ⟩
        clear hmz hmd hbw HP hlen2
        go_upto_region 8 with (fail)
        refine wp_region_noPanic ?_
        refine wp_region_held_drew (S := (fun W => AgreeF (fun x => (Value.slice a3 i k3).ownBlock ≠ some x ∧ x ≠ w.heap.size + 1 + 1) wz W)) (by kernel_rfl) (by (repeat (with_reducible first | assumption | exact AgreeF.refl _ | apply AgreeF.al | apply AgreeF.dr))) (fun hHeld => ?_)
        refine wpAnyH_take (i := 0) (oi := { dst := some 50, op := Op.fieldAddr 33 (Operand.tmp 3) 4, type := 0, pos := "law.go:20", after := #[], guard := none }) (v := ?_) rfl (by kernel_rfl) (by kernel_rfl) (by kernel_rfl) (fun _ _ _ h => h) (Or.inl ⟨by rfl, ?_⟩) (by assumption) ?_
        rotate_left
        · (intro W hW; (try dsimp only at hW); go_simp <;> (with_reducible rfl))
        try simp only [Act.put, List.setIfInBounds_toArray, List.set_cons_zero, List.set_cons_succ]
        refine wpAnyH_take (i := 2) (oi := { dst := some 52, op := Op.fieldAddr 26 (Operand.tmp 1) 2, type := 0, pos := "law.go:20", after := #[], guard := none }) (v := ?_) rfl (by kernel_rfl) (by kernel_rfl) (by kernel_rfl) (fun _ _ _ h => h) (Or.inl ⟨by rfl, ?_⟩) (by assumption) ?_
        rotate_left
        · (intro W hW; (try dsimp only at hW); go_simp <;> (with_reducible rfl))
        try simp only [Act.put, List.setIfInBounds_toArray, List.set_cons_zero, List.set_cons_succ]
        refine wpAnyH_take (i := 3) (oi := { dst := some 53, op := Op.load 24 (Operand.tmp 52), type := 24, pos := "law.go:20", after := #[{ on := 2, ground := Ground.data }], guard := none }) (v := ?_) rfl (by kernel_rfl) (by kernel_rfl) (by kernel_rfl) (fun _ _ _ h => h) (Or.inl ⟨by rfl, ?_⟩) (by assumption) ?_
        rotate_left
        · (intro W hW; (try dsimp only at hW); go_simp <;> (with_reducible rfl))
        try simp only [Act.put, List.setIfInBounds_toArray, List.set_cons_zero, List.set_cons_succ]
        refine wpAnyH_take (i := 4) (oi := { dst := some 54, op := Op.move (Operand.tmp 4), type := 3, pos := "law.go:20", after := #[], guard := none }) (v := ?_) rfl (by kernel_rfl) (by kernel_rfl) (by kernel_rfl) (fun _ _ _ h => h) (Or.inl ⟨by rfl, ?_⟩) (by assumption) ?_
        rotate_left
        · (intro W hW; (try dsimp only at hW); go_simp <;> (with_reducible rfl))
        try simp only [Act.put, List.setIfInBounds_toArray, List.set_cons_zero, List.set_cons_succ]
        refine wpAnyH_take (i := 5) (oi := { dst := some 55, op := Op.indexAddr 24 (Operand.tmp 53) (Operand.tmp 54), type := 0, pos := "law.go:20", after := #[{ on := 3, ground := Ground.data }, { on := 4, ground := Ground.data }], guard := none }) (v := ?_) rfl (by kernel_rfl) (by kernel_rfl) (by kernel_rfl) (fun _ _ _ h => h) (Or.inl ⟨by rfl, ?_⟩) (by assumption) ?_
        rotate_left
        · (intro W hW; (try dsimp only at hW); go_simp <;> (with_reducible rfl))
        try simp only [Act.put, List.setIfInBounds_toArray, List.set_cons_zero, List.set_cons_succ]
        refine wpAnyH_take (i := 6) (oi := { dst := some 56, op := Op.fieldAddr 48 (Operand.tmp 55) 2, type := 0, pos := "law.go:20", after := #[{ on := 5, ground := Ground.data }], guard := none }) (v := ?_) rfl (by kernel_rfl) (by kernel_rfl) (by kernel_rfl) (fun _ _ _ h => h) (Or.inl ⟨by rfl, ?_⟩) (by assumption) ?_
        rotate_left
        · (intro W hW; (try dsimp only at hW); go_simp <;> (with_reducible rfl))
        try simp only [Act.put, List.setIfInBounds_toArray, List.set_cons_zero, List.set_cons_succ]
        refine wpAnyH_take (i := 7) (oi := { dst := some 57, op := Op.load 46 (Operand.tmp 56), type := 46, pos := "law.go:20", after := #[{ on := 6, ground := Ground.data }], guard := none }) (v := ?_) rfl (by kernel_rfl) (by kernel_rfl) (by kernel_rfl) (fun _ _ _ h => h) (Or.inl ⟨by rfl, ?_⟩) (by assumption) ?_
        rotate_left
        · (intro W hW; (try dsimp only at hW); go_simp <;> (with_reducible rfl))
        try simp only [Act.put, List.setIfInBounds_toArray, List.set_cons_zero, List.set_cons_succ]
        refine wpAnyH_take (i := 8) (oi := { dst := some 58, op := Op.indexAddr 46 (Operand.tmp 57) (Operand.const (Value.int IntKind.i64 0)), type := 0, pos := "law.go:20", after := #[{ on := 7, ground := Ground.data }], guard := none }) (v := ?_) rfl (by kernel_rfl) (by kernel_rfl) (by kernel_rfl) (fun _ _ _ h => h) (Or.inl ⟨by rfl, ?_⟩) (by assumption) ?_
        rotate_left
        · (intro W hW; (try dsimp only at hW); go_simp <;> (with_reducible rfl))
        try simp only [Act.put, List.setIfInBounds_toArray, List.set_cons_zero, List.set_cons_succ]
        refine wpAnyH_take (i := 9) (oi := { dst := some 59, op := Op.load 26 (Operand.tmp 58), type := 26, pos := "law.go:20", after := #[{ on := 8, ground := Ground.data }], guard := none }) (v := ?_) rfl (by kernel_rfl) (by kernel_rfl) (by kernel_rfl) (fun _ _ _ h => h) (Or.inl ⟨by rfl, ?_⟩) (by assumption) ?_
        rotate_left
        · (intro W hW; (try dsimp only at hW); go_simp <;> (with_reducible rfl))
        try simp only [Act.put, List.setIfInBounds_toArray, List.set_cons_zero, List.set_cons_succ]
        refine wpAnyH_ready (rs := [1, 10]) (by kernel_rfl) (by simp) (AllReadyH.cons (o := { dst := some 51, op := Op.load 31 (Operand.tmp 50), type := 31, pos := "law.go:20", after := #[{ on := 0, ground := Ground.data }], guard := none }) rfl (fun K hK => ?_) (AllReadyH.cons (o := { dst := some 60, op := Op.call { callee := Callee.value (Operand.func 19), args := #[Operand.tmp 59], argTypes := #[26] }, type := 33, pos := "law.go:20", after := #[{ on := 9, ground := Ground.data }], guard := none }) rfl (fun K hK => ?_) AllReadyH.nil))
        · (rw [if_pos (by rfl)]; go_wp2_with (fail))
          refine hK.out _ _ (by (repeat (with_reducible first | assumption | exact AgreeF.refl _ | apply AgreeF.al | apply AgreeF.dr))) (fun hHeld => ?_)
          clear hK K
          try simp only [Act.put, List.setIfInBounds_toArray, List.set_cons_zero, List.set_cons_succ]
          refine wpAnyH_ready (rs := [10]) (by kernel_rfl) (by simp) (AllReadyH.cons (o := { dst := some 60, op := Op.call { callee := Callee.value (Operand.func 19), args := #[Operand.tmp 59], argTypes := #[26] }, type := 33, pos := "law.go:20", after := #[{ on := 9, ground := Ground.data }], guard := none }) rfl (fun K hK => ?_) AllReadyH.nil)
          (rw [if_pos (by rfl)]; go_simp; (with_reducible refine CW.mono ?_); rintro e w2 ⟨kcs2, rfl, hn2, hb2⟩; obtain ⟨u1, u2, u3, u4, u5, u6, u7, u8, _, _, eu, _⟩ := NodeOn.open_pos hn2; subst eu; obtain ⟨a9, c9, w9, hrun2, f8, f9, f7, hl2, hA1, hA3, hA4, HQ⟩ := PC _ _ _ _ _ _ hb2 hn2; clear CW PC hn2; dsimp only)
          refine hK.out _ _ (by (repeat (with_reducible first | assumption | exact AgreeF.refl _ | apply AgreeF.al | apply AgreeF.dr))) (fun hHeld => ?_)
          clear hK K
          try simp only [Act.put, List.setIfInBounds_toArray, List.set_cons_zero, List.set_cons_succ]
          refine wpAnyH_ready (rs := [11]) (by kernel_rfl) (by simp) (AllReadyH.cons (o := { dst := some 61, op := Op.buildSlice 31 1 #[(0, Operand.tmp 60)], type := 31, pos := "law.go:20", after := #[{ on := 10, ground := Ground.data }], guard := none }) rfl (fun K hK => ?_) AllReadyH.nil)
          (rw [if_pos (by rfl)]; go_wp2_with (fail))
          refine hK.out _ _ (by (repeat (with_reducible first | assumption | exact AgreeF.refl _ | apply AgreeF.al | apply AgreeF.dr))) (fun hHeld => ?_)
          clear hK K
          try simp only [Act.put, List.setIfInBounds_toArray, List.set_cons_zero, List.set_cons_succ]
          refine wpAnyH_ready (rs := [12]) (by kernel_rfl) (by simp) (AllReadyH.cons (o := { dst := some 62, op := Op.call { callee := Callee.builtin Builtin.append, args := #[Operand.tmp 51, Operand.tmp 61], argTypes := #[31, 31] }, type := 31, pos := "law.go:20", after := #[{ on := 1, ground := Ground.data }, { on := 11, ground := Ground.data }, { on := 10, ground := Ground.chain }], guard := none }) rfl (fun K hK => ?_) AllReadyH.nil)
          (refine step_append_run rfl _ _ _ _ rfl rfl rfl hrun2 ?_)
          refine hK.out _ _ (by (repeat (with_reducible first | assumption | exact AgreeF.refl _ | apply AgreeF.al | apply AgreeF.dr))) (fun hHeld => ?_)
          clear hK K
          try simp only [Act.put, List.setIfInBounds_toArray, List.set_cons_zero, List.set_cons_succ]
          refine wpAnyH_take (i := 13) (oi := { dst := some 63, op := Op.fieldAddr 33 (Operand.tmp 3) 4, type := 0, pos := "law.go:20", after := #[{ on := 0, ground := Ground.phase }, { on := 1, ground := Ground.phase }, { on := 2, ground := Ground.phase }, { on := 3, ground := Ground.phase }, { on := 4, ground := Ground.phase }, { on := 5, ground := Ground.phase }, { on := 6, ground := Ground.phase }, { on := 7, ground := Ground.phase }, { on := 8, ground := Ground.phase }, { on := 9, ground := Ground.phase }, { on := 10, ground := Ground.phase }, { on := 11, ground := Ground.phase }, { on := 12, ground := Ground.phase }], guard := none }) (v := ?_) rfl (by kernel_rfl) (by kernel_rfl) (by kernel_rfl) (fun _ _ _ h => h) (Or.inl ⟨by rfl, ?_⟩) (by assumption) ?_
          rotate_left
          · (intro W hW; (try dsimp only at hW); go_simp <;> (with_reducible rfl))
          try simp only [Act.put, List.setIfInBounds_toArray, List.set_cons_zero, List.set_cons_succ]
          refine wpAnyH_ready (rs := [14]) (by kernel_rfl) (by simp) (AllReadyH.cons (o := { dst := none, op := Op.store 31 (Operand.tmp 63) (Operand.tmp 62), type := 0, pos := "law.go:20", after := #[{ on := 13, ground := Ground.data }, { on := 12, ground := Ground.data }, { on := 12, ground := Ground.chain }, { on := 0, ground := Ground.phase }, { on := 1, ground := Ground.phase }, { on := 2, ground := Ground.phase }, { on := 3, ground := Ground.phase }, { on := 4, ground := Ground.phase }, { on := 5, ground := Ground.phase }, { on := 6, ground := Ground.phase }, { on := 7, ground := Ground.phase }, { on := 8, ground := Ground.phase }, { on := 9, ground := Ground.phase }, { on := 10, ground := Ground.phase }, { on := 11, ground := Ground.phase }, { on := 12, ground := Ground.phase }], guard := none }) rfl (fun K hK => ?_) AllReadyH.nil)
          (rw [if_pos (by rfl)]; go_wp2_with (fail))
          refine hK.out _ _ (by (repeat (with_reducible first | assumption | exact AgreeF.refl _ | apply AgreeF.al | apply AgreeF.dr))) (fun hHeld => ?_)
          clear hK K
          try simp only [Act.put, List.setIfInBounds_toArray, List.set_cons_zero, List.set_cons_succ]
          refine wpAnyH_done (by kernel_rfl) ?_ _
          refine NoPanic.normal ?_
          obtain ⟨wy, hwy⟩ : ∃ x, x = (w9.setCell ⟨w.heap.size + 1 + 1, 4, none⟩ (.slice a9 (i + 1) c9)) := ⟨_, rfl⟩
          rw [← hwy] at HQ ⊢
          clear hwy f8 f9 f7 hA00 hA1 hA3 hA4 hHeld e2 e3 g0 g1 g2 hrun2 o4 n1 n2
          go_wp2_with fail
          go_roundw
          case rel => exact ⟨i + 1, _, _, _, hlt, by go_num, HQ.out⟩
          case measure => simp [intOf]; omega
        · (rw [if_pos (by rfl)]; go_simp; (with_reducible refine CW.mono ?_); rintro e w2 ⟨kcs2, rfl, hn2, hb2⟩; obtain ⟨u1, u2, u3, u4, u5, u6, u7, u8, _, _, eu, _⟩ := NodeOn.open_pos hn2; subst eu; obtain ⟨a9, c9, w9, hrun2, f8, f9, f7, hl2, hA1, hA3, hA4, HQ⟩ := PC _ _ _ _ _ _ hb2 hn2; clear CW PC hn2; dsimp only)
          refine hK.out _ _ (by (repeat (with_reducible first | assumption | exact AgreeF.refl _ | apply AgreeF.al | apply AgreeF.dr))) (fun hHeld => ?_)
          clear hK K
          try simp only [Act.put, List.setIfInBounds_toArray, List.set_cons_zero, List.set_cons_succ]
          refine wpAnyH_ready (rs := [1, 11]) (by kernel_rfl) (by simp) (AllReadyH.cons (o := { dst := some 51, op := Op.load 31 (Operand.tmp 50), type := 31, pos := "law.go:20", after := #[{ on := 0, ground := Ground.data }], guard := none }) rfl (fun K hK => ?_) (AllReadyH.cons (o := { dst := some 61, op := Op.buildSlice 31 1 #[(0, Operand.tmp 60)], type := 31, pos := "law.go:20", after := #[{ on := 10, ground := Ground.data }], guard := none }) rfl (fun K hK => ?_) AllReadyH.nil))
          · (rw [if_pos (by rfl)]; go_wp2_with (fail))
            refine hK.out _ _ (by (repeat (with_reducible first | assumption | exact AgreeF.refl _ | apply AgreeF.al | apply AgreeF.dr))) (fun hHeld => ?_)
            clear hK K
            try simp only [Act.put, List.setIfInBounds_toArray, List.set_cons_zero, List.set_cons_succ]
            refine wpAnyH_ready (rs := [11]) (by kernel_rfl) (by simp) (AllReadyH.cons (o := { dst := some 61, op := Op.buildSlice 31 1 #[(0, Operand.tmp 60)], type := 31, pos := "law.go:20", after := #[{ on := 10, ground := Ground.data }], guard := none }) rfl (fun K hK => ?_) AllReadyH.nil)
            (rw [if_pos (by rfl)]; go_wp2_with (fail))
            refine hK.out _ _ (by (repeat (with_reducible first | assumption | exact AgreeF.refl _ | apply AgreeF.al | apply AgreeF.dr))) (fun hHeld => ?_)
            clear hK K
            try simp only [Act.put, List.setIfInBounds_toArray, List.set_cons_zero, List.set_cons_succ]
            refine wpAnyH_ready (rs := [12]) (by kernel_rfl) (by simp) (AllReadyH.cons (o := { dst := some 62, op := Op.call { callee := Callee.builtin Builtin.append, args := #[Operand.tmp 51, Operand.tmp 61], argTypes := #[31, 31] }, type := 31, pos := "law.go:20", after := #[{ on := 1, ground := Ground.data }, { on := 11, ground := Ground.data }, { on := 10, ground := Ground.chain }], guard := none }) rfl (fun K hK => ?_) AllReadyH.nil)
            (refine step_append_run rfl _ _ _ _ rfl rfl rfl hrun2 ?_)
            refine hK.out _ _ (by (repeat (with_reducible first | assumption | exact AgreeF.refl _ | apply AgreeF.al | apply AgreeF.dr))) (fun hHeld => ?_)
            clear hK K
            try simp only [Act.put, List.setIfInBounds_toArray, List.set_cons_zero, List.set_cons_succ]
            refine wpAnyH_take (i := 13) (oi := { dst := some 63, op := Op.fieldAddr 33 (Operand.tmp 3) 4, type := 0, pos := "law.go:20", after := #[{ on := 0, ground := Ground.phase }, { on := 1, ground := Ground.phase }, { on := 2, ground := Ground.phase }, { on := 3, ground := Ground.phase }, { on := 4, ground := Ground.phase }, { on := 5, ground := Ground.phase }, { on := 6, ground := Ground.phase }, { on := 7, ground := Ground.phase }, { on := 8, ground := Ground.phase }, { on := 9, ground := Ground.phase }, { on := 10, ground := Ground.phase }, { on := 11, ground := Ground.phase }, { on := 12, ground := Ground.phase }], guard := none }) (v := ?_) rfl (by kernel_rfl) (by kernel_rfl) (by kernel_rfl) (fun _ _ _ h => h) (Or.inl ⟨by rfl, ?_⟩) (by assumption) ?_
            rotate_left
            · (intro W hW; (try dsimp only at hW); go_simp <;> (with_reducible rfl))
            try simp only [Act.put, List.setIfInBounds_toArray, List.set_cons_zero, List.set_cons_succ]
            refine wpAnyH_ready (rs := [14]) (by kernel_rfl) (by simp) (AllReadyH.cons (o := { dst := none, op := Op.store 31 (Operand.tmp 63) (Operand.tmp 62), type := 0, pos := "law.go:20", after := #[{ on := 13, ground := Ground.data }, { on := 12, ground := Ground.data }, { on := 12, ground := Ground.chain }, { on := 0, ground := Ground.phase }, { on := 1, ground := Ground.phase }, { on := 2, ground := Ground.phase }, { on := 3, ground := Ground.phase }, { on := 4, ground := Ground.phase }, { on := 5, ground := Ground.phase }, { on := 6, ground := Ground.phase }, { on := 7, ground := Ground.phase }, { on := 8, ground := Ground.phase }, { on := 9, ground := Ground.phase }, { on := 10, ground := Ground.phase }, { on := 11, ground := Ground.phase }, { on := 12, ground := Ground.phase }], guard := none }) rfl (fun K hK => ?_) AllReadyH.nil)
            (rw [if_pos (by rfl)]; go_wp2_with (fail))
            refine hK.out _ _ (by (repeat (with_reducible first | assumption | exact AgreeF.refl _ | apply AgreeF.al | apply AgreeF.dr))) (fun hHeld => ?_)
            clear hK K
            try simp only [Act.put, List.setIfInBounds_toArray, List.set_cons_zero, List.set_cons_succ]
            refine wpAnyH_done (by kernel_rfl) ?_ _
            refine NoPanic.normal ?_
            obtain ⟨wy, hwy⟩ : ∃ x, x = (w9.setCell ⟨w.heap.size + 1 + 1, 4, none⟩ (.slice a9 (i + 1) c9)) := ⟨_, rfl⟩
            rw [← hwy] at HQ ⊢
            clear hwy f8 f9 f7 hA00 hA1 hA3 hA4 hHeld e2 e3 g0 g1 g2 hrun2 o4 n1 n2
            go_wp2_with fail
            go_roundw
            case rel => exact ⟨i + 1, _, _, _, hlt, by go_num, HQ.out⟩
            case measure => simp [intOf]; omega
          · (rw [if_pos (by rfl)]; go_wp2_with (fail))
            refine hK.out _ _ (by (repeat (with_reducible first | assumption | exact AgreeF.refl _ | apply AgreeF.al | apply AgreeF.dr))) (fun hHeld => ?_)
            clear hK K
            try simp only [Act.put, List.setIfInBounds_toArray, List.set_cons_zero, List.set_cons_succ]
            refine wpAnyH_ready (rs := [1]) (by kernel_rfl) (by simp) (AllReadyH.cons (o := { dst := some 51, op := Op.load 31 (Operand.tmp 50), type := 31, pos := "law.go:20", after := #[{ on := 0, ground := Ground.data }], guard := none }) rfl (fun K hK => ?_) AllReadyH.nil)
            (rw [if_pos (by rfl)]; go_wp2_with (fail))
            refine hK.out _ _ (by (repeat (with_reducible first | assumption | exact AgreeF.refl _ | apply AgreeF.al | apply AgreeF.dr))) (fun hHeld => ?_)
            clear hK K
            try simp only [Act.put, List.setIfInBounds_toArray, List.set_cons_zero, List.set_cons_succ]
            refine wpAnyH_ready (rs := [12]) (by kernel_rfl) (by simp) (AllReadyH.cons (o := { dst := some 62, op := Op.call { callee := Callee.builtin Builtin.append, args := #[Operand.tmp 51, Operand.tmp 61], argTypes := #[31, 31] }, type := 31, pos := "law.go:20", after := #[{ on := 1, ground := Ground.data }, { on := 11, ground := Ground.data }, { on := 10, ground := Ground.chain }], guard := none }) rfl (fun K hK => ?_) AllReadyH.nil)
            (refine step_append_run rfl _ _ _ _ rfl rfl rfl hrun2 ?_)
            refine hK.out _ _ (by (repeat (with_reducible first | assumption | exact AgreeF.refl _ | apply AgreeF.al | apply AgreeF.dr))) (fun hHeld => ?_)
            clear hK K
            try simp only [Act.put, List.setIfInBounds_toArray, List.set_cons_zero, List.set_cons_succ]
            refine wpAnyH_take (i := 13) (oi := { dst := some 63, op := Op.fieldAddr 33 (Operand.tmp 3) 4, type := 0, pos := "law.go:20", after := #[{ on := 0, ground := Ground.phase }, { on := 1, ground := Ground.phase }, { on := 2, ground := Ground.phase }, { on := 3, ground := Ground.phase }, { on := 4, ground := Ground.phase }, { on := 5, ground := Ground.phase }, { on := 6, ground := Ground.phase }, { on := 7, ground := Ground.phase }, { on := 8, ground := Ground.phase }, { on := 9, ground := Ground.phase }, { on := 10, ground := Ground.phase }, { on := 11, ground := Ground.phase }, { on := 12, ground := Ground.phase }], guard := none }) (v := ?_) rfl (by kernel_rfl) (by kernel_rfl) (by kernel_rfl) (fun _ _ _ h => h) (Or.inl ⟨by rfl, ?_⟩) (by assumption) ?_
            rotate_left
            · (intro W hW; (try dsimp only at hW); go_simp <;> (with_reducible rfl))
            try simp only [Act.put, List.setIfInBounds_toArray, List.set_cons_zero, List.set_cons_succ]
            refine wpAnyH_ready (rs := [14]) (by kernel_rfl) (by simp) (AllReadyH.cons (o := { dst := none, op := Op.store 31 (Operand.tmp 63) (Operand.tmp 62), type := 0, pos := "law.go:20", after := #[{ on := 13, ground := Ground.data }, { on := 12, ground := Ground.data }, { on := 12, ground := Ground.chain }, { on := 0, ground := Ground.phase }, { on := 1, ground := Ground.phase }, { on := 2, ground := Ground.phase }, { on := 3, ground := Ground.phase }, { on := 4, ground := Ground.phase }, { on := 5, ground := Ground.phase }, { on := 6, ground := Ground.phase }, { on := 7, ground := Ground.phase }, { on := 8, ground := Ground.phase }, { on := 9, ground := Ground.phase }, { on := 10, ground := Ground.phase }, { on := 11, ground := Ground.phase }, { on := 12, ground := Ground.phase }], guard := none }) rfl (fun K hK => ?_) AllReadyH.nil)
            (rw [if_pos (by rfl)]; go_wp2_with (fail))
            refine hK.out _ _ (by (repeat (with_reducible first | assumption | exact AgreeF.refl _ | apply AgreeF.al | apply AgreeF.dr))) (fun hHeld => ?_)
            clear hK K
            try simp only [Act.put, List.setIfInBounds_toArray, List.set_cons_zero, List.set_cons_succ]
            refine wpAnyH_done (by kernel_rfl) ?_ _
            refine NoPanic.normal ?_
            obtain ⟨wy, hwy⟩ : ∃ x, x = (w9.setCell ⟨w.heap.size + 1 + 1, 4, none⟩ (.slice a9 (i + 1) c9)) := ⟨_, rfl⟩
            rw [← hwy] at HQ ⊢
            clear hwy f8 f9 f7 hA00 hA1 hA3 hA4 hHeld e2 e3 g0 g1 g2 hrun2 o4 n1 n2
            go_wp2_with fail
            go_roundw
            case rel => exact ⟨i + 1, _, _, _, hlt, by go_num, HQ.out⟩
            case measure => simp [intOf]; omega
      · (rw [if_pos (by rfl)]; go_wp2_with (fail))
        refine hK.out _ _ (by (repeat (with_reducible first | assumption | exact AgreeF.refl _ | apply AgreeF.al | apply AgreeF.dr))) (fun hHeld => ?_)
        clear hK K
        try simp only [Act.put, List.setIfInBounds_toArray, List.set_cons_zero, List.set_cons_succ]
        refine wpAnyH_ready (rs := [1]) (by kernel_rfl) (by simp) (AllReadyH.cons (o := { dst := some 18, op := Op.load 29 (Operand.tmp 17), type := 29, pos := "law.go:16", after := #[{ on := 0, ground := Ground.data }], guard := none }) rfl (fun K hK => ?_) AllReadyH.nil)
        (rw [if_pos (by rfl)]; go_wp2_with (fail))
        refine hK.out _ _ (by (repeat (with_reducible first | assumption | exact AgreeF.refl _ | apply AgreeF.al | apply AgreeF.dr))) (fun hHeld => ?_)
        clear hK K
        try simp only [Act.put, List.setIfInBounds_toArray, List.set_cons_zero, List.set_cons_succ]
        refine wpAnyH_ready (rs := [9]) (by kernel_rfl) (by simp) (AllReadyH.cons (o := { dst := some 26, op := Op.call { callee := Callee.builtin Builtin.append, args := #[Operand.tmp 18, Operand.tmp 25], argTypes := #[29, 29] }, type := 29, pos := "law.go:16", after := #[{ on := 1, ground := Ground.data }, { on := 8, ground := Ground.data }], guard := none }) rfl (fun K hK => ?_) AllReadyH.nil)
        (refine step_append_run rfl _ _ _ _ rfl rfl rfl hrun1 ?_)
        refine hK.out _ _ (by (repeat (with_reducible first | assumption | exact AgreeF.refl _ | apply AgreeF.al | apply AgreeF.dr))) (fun hHeld => ?_)
        clear hK K
        try simp only [Act.put, List.setIfInBounds_toArray, List.set_cons_zero, List.set_cons_succ]
        refine wpAnyH_take (i := 10) (oi := { dst := some 27, op := Op.fieldAddr 33 (Operand.tmp 3) 2, type := 0, pos := "law.go:16", after := #[{ on := 0, ground := Ground.phase }, { on := 1, ground := Ground.phase }, { on := 2, ground := Ground.phase }, { on := 3, ground := Ground.phase }, { on := 4, ground := Ground.phase }, { on := 5, ground := Ground.phase }, { on := 6, ground := Ground.phase }, { on := 7, ground := Ground.phase }, { on := 8, ground := Ground.phase }, { on := 9, ground := Ground.phase }], guard := none }) (v := ?_) rfl (by kernel_rfl) (by kernel_rfl) (by kernel_rfl) (fun _ _ _ h => h) (Or.inl ⟨by rfl, ?_⟩) (by assumption) ?_
        rotate_left
        · (intro W hW; (try dsimp only at hW); go_simp <;> (with_reducible rfl))
        try simp only [Act.put, List.setIfInBounds_toArray, List.set_cons_zero, List.set_cons_succ]
        refine wpAnyH_ready (rs := [11]) (by kernel_rfl) (by simp) (AllReadyH.cons (o := { dst := none, op := Op.store 29 (Operand.tmp 27) (Operand.tmp 26), type := 0, pos := "law.go:16", after := #[{ on := 10, ground := Ground.data }, { on := 9, ground := Ground.data }, { on := 9, ground := Ground.chain }, { on := 0, ground := Ground.phase }, { on := 1, ground := Ground.phase }, { on := 2, ground := Ground.phase }, { on := 3, ground := Ground.phase }, { on := 4, ground := Ground.phase }, { on := 5, ground := Ground.phase }, { on := 6, ground := Ground.phase }, { on := 7, ground := Ground.phase }, { on := 8, ground := Ground.phase }, { on := 9, ground := Ground.phase }], guard := none }) rfl (fun K hK => ?_) AllReadyH.nil)
        (rw [if_pos (by rfl)]; go_wp2_with (fail))
        refine hK.out _ _ (by (repeat (with_reducible first | assumption | exact AgreeF.refl _ | apply AgreeF.al | apply AgreeF.dr))) (fun hHeld => ?_)
        clear hK K
        try simp only [Act.put, List.setIfInBounds_toArray, List.set_cons_zero, List.set_cons_succ]
        refine wpAnyH_done (by kernel_rfl) ?_ _
        refine NoPanic.normal ?_
        obtain ⟨wz, hwz⟩ : ∃ x, x = (w'.setCell ⟨w.heap.size + 1 + 1, 2, none⟩ (.slice a' (i + 1) c')) := ⟨_, rfl⟩
        rw [← hwz] at HP ⊢
        clear hwz f8 f9 hA00 hA1 hA2 hHeld e0 e2 hrun1 o2 n1 n2
        have hmz := HP.out
        have n1 := hmz.1.cell 2 1 rfl rfl
        have n2 := hmz.1.cell 2 2 rfl rfl
        have hbw := hmz.2.2
        have hlw : w.heap.size < wz.heap.size := by have := hmz.lt; omega
        have hlb : b < wz.heap.size := by omega
        have hl2z := hmz.lt
        have hlen2 : ((l.map (·.2)).take i).length = i := by rw [List.length_take]; have := HKL.out; simp; omega
        have o4 := hmz.1.cell 0 4 rfl rfl
        have hge1 : (Value.slice a3 i k3).ownBlock ≠ some w.heap.size := fun e => by have := (hmz.2.1.c.lt e).1; omega
        have hge2 : (Value.slice a3 i k3).ownBlock ≠ some b := fun e => by have := (hmz.2.1.c.lt e).1; omega
        have hge3 : (Value.slice a3 i k3).ownBlock ≠ some bk := fun e => by have := (hmz.2.1.c.lt e).1; omega
        have hbkn : bk ≠ w.heap.size + 1 + 1 := by omega
        have hlk : bk < wz.heap.size := by omega
        have e2 : ∀ W, AgreeF (fun x => (Value.slice a3 i k3).ownBlock ≠ some x ∧ x ≠ w.heap.size + 1 + 1) wz W → W.cell? ⟨w.heap.size, 2, none⟩ = _ := fun W hW => (hW.cell ⟨hge1, hne⟩ hlw).trans n2
        have e3 : ∀ W, AgreeF (fun x => (Value.slice a3 i k3).ownBlock ≠ some x ∧ x ≠ w.heap.size + 1 + 1) wz W → W.cell? ⟨b, off + i * 4 + 3, none⟩ = _ := fun W hW => (hW.cell ⟨hge2, hbn⟩ hlb).trans ((hbw.cell (p := ⟨b, off + i * 4 + 3, none⟩) hbb).trans HC3.out)
        have g0 : ∀ W, AgreeF (fun x => (Value.slice a3 i k3).ownBlock ≠ some x ∧ x ≠ w.heap.size + 1 + 1) wz W → W.cell? ⟨bk, ok, none⟩ = _ := fun W hW => (hW.cell ⟨hge3, hbkn⟩ hlk).trans ((hbw.cell (p := ⟨bk, ok, none⟩) hbk9).trans (HCK.out 0 _ rfl))
        have g1 : ∀ W, AgreeF (fun x => (Value.slice a3 i k3).ownBlock ≠ some x ∧ x ≠ w.heap.size + 1 + 1) wz W → W.cell? ⟨bk, ok + 1, none⟩ = _ := fun W hW => (hW.cell ⟨hge3, hbkn⟩ hlk).trans ((hbw.cell (p := ⟨bk, ok + 1, none⟩) hbk9).trans (HCK.out 1 _ rfl))
        have g2 : ∀ W, AgreeF (fun x => (Value.slice a3 i k3).ownBlock ≠ some x ∧ x ≠ w.heap.size + 1 + 1) wz W → W.cell? ⟨bk, ok + 2, none⟩ = _ := fun W hW => (hW.cell ⟨hge3, hbkn⟩ hlk).trans ((hbw.cell (p := ⟨bk, ok + 2, none⟩) hbk9).trans (HCK.out 2 _ rfl))
        have CW := IH (F := F) (w := wz.drew) (fun b hf => by have := hF b hf; simp; omega) ((HON.out.below hbw).below (Below.dr (Below.refl _ _))) HBD.out
        have hA00 : AgreeF (fun x => (Value.slice a3 i k3).ownBlock ≠ some x ∧ x ≠ w.heap.size + 1 + 1) wz wz.drew := AgreeF.refl _
        have hmd := hmz.below (Below.dr (Below.refl _ _))
        have PC : ∀ (w2 : World) (x0 x1 x2 x3 x4 : Value), Below wz.drew.heap.size wz.drew w2 → NodeOn (Fr F wz.drew) (n + 1) w2 [x0, x1, x2, x3, x4] kid → ∃ a9 c9 w9, (Builtin.append_ #[31, 31] 31 #[.slice a3 i k3, .slice (some ⟨w2.heap.size, 0, none⟩) 1 1]).run Try.prog (w2.alloc (.cells #[x0, x1, x2, x3, x4] 33)) = .ok (.slice a9 (i + 1) c9) w9 ∧ w9.cell? ⟨w.heap.size + 1 + 1, 4, none⟩ = some (.slice a3 i k3) ∧ w9.frozen? ⟨w.heap.size + 1 + 1, 4, none⟩ = false ∧ w2.cell? ⟨w.heap.size + 1 + 1, 4, none⟩ = some (.slice a3 i k3) ∧ w.heap.size + 1 + 1 < w2.heap.size ∧
            AgreeF (fun x => (Value.slice a3 i k3).ownBlock ≠ some x ∧ x ≠ w.heap.size + 1 + 1) wz w2 ∧ AgreeF (fun x => (Value.slice a3 i k3).ownBlock ≠ some x ∧ x ≠ w.heap.size + 1 + 1) wz w9 ∧ AgreeF (fun x => (Value.slice a3 i k3).ownBlock ≠ some x ∧ x ≠ w.heap.size + 1 + 1) wz (w9.setCell ⟨w.heap.size + 1 + 1, 4, none⟩ (.slice a9 (i + 1) c9)) ∧ Hid (NdMid F (n + 1) w p false [.int .i64 p, .bool false, .slice (some ⟨b, off, none⟩) kn c] (.slice a' (i + 1) c') (.slice a2 0 k2) (.slice a9 (i + 1) c9) ((keysOf l).take (i + 1)) [] ((l.map (·.2)).take (i + 1)) (w9.setCell ⟨w.heap.size + 1 + 1, 4, none⟩ (.slice a9 (i + 1) c9))) := fun w2 x0 x1 x2 x3 x4 hb2 hn2 => by
          have hm2 := hmd.below hb2
          have hkid : NodeOn (G3 F (w.heap.size + 3) (.slice a' (i + 1) c') (.slice a2 0 k2) (.slice a3 i k3)) (n + 1) w2 [x0, x1, x2, x3, x4] kid := NodeOn.mono (fun b hf => by
            rcases hf with hf | hf
            · exact ⟨.inl hf, fun e => by have := (hmz.2.1.k.lt e).1; have := hF b hf; omega, fun e => by have := (hmz.2.1.v.lt e).1; have := hF b hf; omega, fun e => by have := (hmz.2.1.c.lt e).1; have := hF b hf; omega⟩
            · simp at hf
              exact ⟨.inr (by have := hmz.lt; omega), fun e => by have := (hmz.2.1.k.lt e).2; omega, fun e => by have := (hmz.2.1.v.lt e).2; omega, fun e => by have := (hmz.2.1.c.lt e).2; omega⟩) hn2
          obtain ⟨a9, c9, w9, hrun2, hA3, f8, f9, hA4, hmidQ⟩ := hm2.pushC (n + 1) hF (by rw [hlen2]; omega) hkid
          rw [hlen2] at hrun2 hA4 hmidQ
          rw [← List.take_succ_eq_append_of HTV.out] at hmidQ
          have hag : AgreeF (fun x => (Value.slice a3 i k3).ownBlock ≠ some x ∧ x ≠ w.heap.size + 1 + 1) wz w2 := AgreeF.trans (AgreeF.dr (AgreeF.refl wz)) (AgreeF.of_below hb2)
          exact ⟨a9, c9, w9, hrun2, f8, f9, hm2.1.cell 0 4 rfl rfl, hm2.lt, hag, hag.trans hA3, hag.trans hA4, Lib.hid hmidQ⟩
        clear hmz hmd hbw HP hlen2
        go_upto_region 8 with (fail)
        refine wp_region_noPanic ?_
        refine wp_region_held_drew (S := (fun W => AgreeF (fun x => (Value.slice a3 i k3).ownBlock ≠ some x ∧ x ≠ w.heap.size + 1 + 1) wz W)) (by kernel_rfl) (by (repeat (with_reducible first | assumption | exact AgreeF.refl _ | apply AgreeF.al | apply AgreeF.dr))) (fun hHeld => ?_)
        refine wpAnyH_take (i := 0) (oi := { dst := some 50, op := Op.fieldAddr 33 (Operand.tmp 3) 4, type := 0, pos := "law.go:20", after := #[], guard := none }) (v := ?_) rfl (by kernel_rfl) (by kernel_rfl) (by kernel_rfl) (fun _ _ _ h => h) (Or.inl ⟨by rfl, ?_⟩) (by assumption) ?_
        rotate_left
        · (intro W hW; (try dsimp only at hW); go_simp <;> (with_reducible rfl))
        try simp only [Act.put, List.setIfInBounds_toArray, List.set_cons_zero, List.set_cons_succ]
        refine wpAnyH_take (i := 2) (oi := { dst := some 52, op := Op.fieldAddr 26 (Operand.tmp 1) 2, type := 0, pos := "law.go:20", after := #[], guard := none }) (v := ?_) rfl (by kernel_rfl) (by kernel_rfl) (by kernel_rfl) (fun _ _ _ h => h) (Or.inl ⟨by rfl, ?_⟩) (by assumption) ?_
        rotate_left
        · (intro W hW; (try dsimp only at hW); go_simp <;> (with_reducible rfl))
        try simp only [Act.put, List.setIfInBounds_toArray, List.set_cons_zero, List.set_cons_succ]
        refine wpAnyH_take (i := 3) (oi := { dst := some 53, op := Op.load 24 (Operand.tmp 52), type := 24, pos := "law.go:20", after := #[{ on := 2, ground := Ground.data }], guard := none }) (v := ?_) rfl (by kernel_rfl) (by kernel_rfl) (by kernel_rfl) (fun _ _ _ h => h) (Or.inl ⟨by rfl, ?_⟩) (by assumption) ?_
        rotate_left
        · (intro W hW; (try dsimp only at hW); go_simp <;> (with_reducible rfl))
        try simp only [Act.put, List.setIfInBounds_toArray, List.set_cons_zero, List.set_cons_succ]
        refine wpAnyH_take (i := 4) (oi := { dst := some 54, op := Op.move (Operand.tmp 4), type := 3, pos := "law.go:20", after := #[], guard := none }) (v := ?_) rfl (by kernel_rfl) (by kernel_rfl) (by kernel_rfl) (fun _ _ _ h => h) (Or.inl ⟨by rfl, ?_⟩) (by assumption) ?_
        rotate_left
        · (intro W hW; (try dsimp only at hW); go_simp <;> (with_reducible rfl))
        try simp only [Act.put, List.setIfInBounds_toArray, List.set_cons_zero, List.set_cons_succ]
        refine wpAnyH_take (i := 5) (oi := { dst := some 55, op := Op.indexAddr 24 (Operand.tmp 53) (Operand.tmp 54), type := 0, pos := "law.go:20", after := #[{ on := 3, ground := Ground.data }, { on := 4, ground := Ground.data }], guard := none }) (v := ?_) rfl (by kernel_rfl) (by kernel_rfl) (by kernel_rfl) (fun _ _ _ h => h) (Or.inl ⟨by rfl, ?_⟩) (by assumption) ?_
        rotate_left
        · (intro W hW; (try dsimp only at hW); go_simp <;> (with_reducible rfl))
        try simp only [Act.put, List.setIfInBounds_toArray, List.set_cons_zero, List.set_cons_succ]
        refine wpAnyH_take (i := 6) (oi := { dst := some 56, op := Op.fieldAddr 48 (Operand.tmp 55) 2, type := 0, pos := "law.go:20", after := #[{ on := 5, ground := Ground.data }], guard := none }) (v := ?_) rfl (by kernel_rfl) (by kernel_rfl) (by kernel_rfl) (fun _ _ _ h => h) (Or.inl ⟨by rfl, ?_⟩) (by assumption) ?_
        rotate_left
        · (intro W hW; (try dsimp only at hW); go_simp <;> (with_reducible rfl))
        try simp only [Act.put, List.setIfInBounds_toArray, List.set_cons_zero, List.set_cons_succ]
        refine wpAnyH_take (i := 7) (oi := { dst := some 57, op := Op.load 46 (Operand.tmp 56), type := 46, pos := "law.go:20", after := #[{ on := 6, ground := Ground.data }], guard := none }) (v := ?_) rfl (by kernel_rfl) (by kernel_rfl) (by kernel_rfl) (fun _ _ _ h => h) (Or.inl ⟨by rfl, ?_⟩) (by assumption) ?_
        rotate_left
        · (intro W hW; (try dsimp only at hW); go_simp <;> (with_reducible rfl))
        try simp only [Act.put, List.setIfInBounds_toArray, List.set_cons_zero, List.set_cons_succ]
        refine wpAnyH_take (i := 8) (oi := { dst := some 58, op := Op.indexAddr 46 (Operand.tmp 57) (Operand.const (Value.int IntKind.i64 0)), type := 0, pos := "law.go:20", after := #[{ on := 7, ground := Ground.data }], guard := none }) (v := ?_) rfl (by kernel_rfl) (by kernel_rfl) (by kernel_rfl) (fun _ _ _ h => h) (Or.inl ⟨by rfl, ?_⟩) (by assumption) ?_
        rotate_left
        · (intro W hW; (try dsimp only at hW); go_simp <;> (with_reducible rfl))
        try simp only [Act.put, List.setIfInBounds_toArray, List.set_cons_zero, List.set_cons_succ]
        refine wpAnyH_take (i := 9) (oi := { dst := some 59, op := Op.load 26 (Operand.tmp 58), type := 26, pos := "law.go:20", after := #[{ on := 8, ground := Ground.data }], guard := none }) (v := ?_) rfl (by kernel_rfl) (by kernel_rfl) (by kernel_rfl) (fun _ _ _ h => h) (Or.inl ⟨by rfl, ?_⟩) (by assumption) ?_
        rotate_left
        · (intro W hW; (try dsimp only at hW); go_simp <;> (with_reducible rfl))
        try simp only [Act.put, List.setIfInBounds_toArray, List.set_cons_zero, List.set_cons_succ]
        refine wpAnyH_ready (rs := [1, 10]) (by kernel_rfl) (by simp) (AllReadyH.cons (o := { dst := some 51, op := Op.load 31 (Operand.tmp 50), type := 31, pos := "law.go:20", after := #[{ on := 0, ground := Ground.data }], guard := none }) rfl (fun K hK => ?_) (AllReadyH.cons (o := { dst := some 60, op := Op.call { callee := Callee.value (Operand.func 19), args := #[Operand.tmp 59], argTypes := #[26] }, type := 33, pos := "law.go:20", after := #[{ on := 9, ground := Ground.data }], guard := none }) rfl (fun K hK => ?_) AllReadyH.nil))
        · (rw [if_pos (by rfl)]; go_wp2_with (fail))
          refine hK.out _ _ (by (repeat (with_reducible first | assumption | exact AgreeF.refl _ | apply AgreeF.al | apply AgreeF.dr))) (fun hHeld => ?_)
          clear hK K
          try simp only [Act.put, List.setIfInBounds_toArray, List.set_cons_zero, List.set_cons_succ]
          refine wpAnyH_ready (rs := [10]) (by kernel_rfl) (by simp) (AllReadyH.cons (o := { dst := some 60, op := Op.call { callee := Callee.value (Operand.func 19), args := #[Operand.tmp 59], argTypes := #[26] }, type := 33, pos := "law.go:20", after := #[{ on := 9, ground := Ground.data }], guard := none }) rfl (fun K hK => ?_) AllReadyH.nil)
          (rw [if_pos (by rfl)]; go_simp; (with_reducible refine CW.mono ?_); rintro e w2 ⟨kcs2, rfl, hn2, hb2⟩; obtain ⟨u1, u2, u3, u4, u5, u6, u7, u8, _, _, eu, _⟩ := NodeOn.open_pos hn2; subst eu; obtain ⟨a9, c9, w9, hrun2, f8, f9, f7, hl2, hA1, hA3, hA4, HQ⟩ := PC _ _ _ _ _ _ hb2 hn2; clear CW PC hn2; dsimp only)
          refine hK.out _ _ (by (repeat (with_reducible first | assumption | exact AgreeF.refl _ | apply AgreeF.al | apply AgreeF.dr))) (fun hHeld => ?_)
          clear hK K
          try simp only [Act.put, List.setIfInBounds_toArray, List.set_cons_zero, List.set_cons_succ]
          refine wpAnyH_ready (rs := [11]) (by kernel_rfl) (by simp) (AllReadyH.cons (o := { dst := some 61, op := Op.buildSlice 31 1 #[(0, Operand.tmp 60)], type := 31, pos := "law.go:20", after := #[{ on := 10, ground := Ground.data }], guard := none }) rfl (fun K hK => ?_) AllReadyH.nil)
          (rw [if_pos (by rfl)]; go_wp2_with (fail))
          refine hK.out _ _ (by (repeat (with_reducible first | assumption | exact AgreeF.refl _ | apply AgreeF.al | apply AgreeF.dr))) (fun hHeld => ?_)
          clear hK K
          try simp only [Act.put, List.setIfInBounds_toArray, List.set_cons_zero, List.set_cons_succ]
          refine wpAnyH_ready (rs := [12]) (by kernel_rfl) (by simp) (AllReadyH.cons (o := { dst := some 62, op := Op.call { callee := Callee.builtin Builtin.append, args := #[Operand.tmp 51, Operand.tmp 61], argTypes := #[31, 31] }, type := 31, pos := "law.go:20", after := #[{ on := 1, ground := Ground.data }, { on := 11, ground := Ground.data }, { on := 10, ground := Ground.chain }], guard := none }) rfl (fun K hK => ?_) AllReadyH.nil)
          (refine step_append_run rfl _ _ _ _ rfl rfl rfl hrun2 ?_)
          refine hK.out _ _ (by (repeat (with_reducible first | assumption | exact AgreeF.refl _ | apply AgreeF.al | apply AgreeF.dr))) (fun hHeld => ?_)
          clear hK K
          try simp only [Act.put, List.setIfInBounds_toArray, List.set_cons_zero, List.set_cons_succ]
          refine wpAnyH_take (i := 13) (oi := { dst := some 63, op := Op.fieldAddr 33 (Operand.tmp 3) 4, type := 0, pos := "law.go:20", after := #[{ on := 0, ground := Ground.phase }, { on := 1, ground := Ground.phase }, { on := 2, ground := Ground.phase }, { on := 3, ground := Ground.phase }, { on := 4, ground := Ground.phase }, { on := 5, ground := Ground.phase }, { on := 6, ground := Ground.phase }, { on := 7, ground := Ground.phase }, { on := 8, ground := Ground.phase }, { on := 9, ground := Ground.phase }, { on := 10, ground := Ground.phase }, { on := 11, ground := Ground.phase }, { on := 12, ground := Ground.phase }], guard := none }) (v := ?_) rfl (by kernel_rfl) (by kernel_rfl) (by kernel_rfl) (fun _ _ _ h => h) (Or.inl ⟨by rfl, ?_⟩) (by assumption) ?_
          rotate_left
          · (intro W hW; (try dsimp only at hW); go_simp <;> (with_reducible rfl))
          try simp only [Act.put, List.setIfInBounds_toArray, List.set_cons_zero, List.set_cons_succ]
          refine wpAnyH_ready (rs := [14]) (by kernel_rfl) (by simp) (AllReadyH.cons (o := { dst := none, op := Op.store 31 (Operand.tmp 63) (Operand.tmp 62), type := 0, pos := "law.go:20", after := #[{ on := 13, ground := Ground.data }, { on := 12, ground := Ground.data }, { on := 12, ground := Ground.chain }, { on := 0, ground := Ground.phase }, { on := 1, ground := Ground.phase }, { on := 2, ground := Ground.phase }, { on := 3, ground := Ground.phase }, { on := 4, ground := Ground.phase }, { on := 5, ground := Ground.phase }, { on := 6, ground := Ground.phase }, { on := 7, ground := Ground.phase }, { on := 8, ground := Ground.phase }, { on := 9, ground := Ground.phase }, { on := 10, ground := Ground.phase }, { on := 11, ground := Ground.phase }, { on := 12, ground := Ground.phase }], guard := none }) rfl (fun K hK => ?_) AllReadyH.nil)
          (rw [if_pos (by rfl)]; go_wp2_with (fail))
          refine hK.out _ _ (by (repeat (with_reducible first | assumption | exact AgreeF.refl _ | apply AgreeF.al | apply AgreeF.dr))) (fun hHeld => ?_)
          clear hK K
          try simp only [Act.put, List.setIfInBounds_toArray, List.set_cons_zero, List.set_cons_succ]
          refine wpAnyH_done (by kernel_rfl) ?_ _
          refine NoPanic.normal ?_
          obtain ⟨wy, hwy⟩ : ∃ x, x = (w9.setCell ⟨w.heap.size + 1 + 1, 4, none⟩ (.slice a9 (i + 1) c9)) := ⟨_, rfl⟩
          rw [← hwy] at HQ ⊢
          clear hwy f8 f9 f7 hA00 hA1 hA3 hA4 hHeld e2 e3 g0 g1 g2 hrun2 o4 n1 n2
          go_wp2_with fail
          go_roundw
          case rel => exact ⟨i + 1, _, _, _, hlt, by go_num, HQ.out⟩
          case measure => simp [intOf]; omega
        · (rw [if_pos (by rfl)]; go_simp; (with_reducible refine CW.mono ?_); rintro e w2 ⟨kcs2, rfl, hn2, hb2⟩; obtain ⟨u1, u2, u3, u4, u5, u6, u7, u8, _, _, eu, _⟩ := NodeOn.open_pos hn2; subst eu; obtain ⟨a9, c9, w9, hrun2, f8, f9, f7, hl2, hA1, hA3, hA4, HQ⟩ := PC _ _ _ _ _ _ hb2 hn2; clear CW PC hn2; dsimp only)
          refine hK.out _ _ (by (repeat (with_reducible first | assumption | exact AgreeF.refl _ | apply AgreeF.al | apply AgreeF.dr))) (fun hHeld => ?_)
          clear hK K
          try simp only [Act.put, List.setIfInBounds_toArray, List.set_cons_zero, List.set_cons_succ]
          refine wpAnyH_ready (rs := [1, 11]) (by kernel_rfl) (by simp) (AllReadyH.cons (o := { dst := some 51, op := Op.load 31 (Operand.tmp 50), type := 31, pos := "law.go:20", after := #[{ on := 0, ground := Ground.data }], guard := none }) rfl (fun K hK => ?_) (AllReadyH.cons (o := { dst := some 61, op := Op.buildSlice 31 1 #[(0, Operand.tmp 60)], type := 31, pos := "law.go:20", after := #[{ on := 10, ground := Ground.data }], guard := none }) rfl (fun K hK => ?_) AllReadyH.nil))
          · (rw [if_pos (by rfl)]; go_wp2_with (fail))
            refine hK.out _ _ (by (repeat (with_reducible first | assumption | exact AgreeF.refl _ | apply AgreeF.al | apply AgreeF.dr))) (fun hHeld => ?_)
            clear hK K
            try simp only [Act.put, List.setIfInBounds_toArray, List.set_cons_zero, List.set_cons_succ]
            refine wpAnyH_ready (rs := [11]) (by kernel_rfl) (by simp) (AllReadyH.cons (o := { dst := some 61, op := Op.buildSlice 31 1 #[(0, Operand.tmp 60)], type := 31, pos := "law.go:20", after := #[{ on := 10, ground := Ground.data }], guard := none }) rfl (fun K hK => ?_) AllReadyH.nil)
            (rw [if_pos (by rfl)]; go_wp2_with (fail))
            refine hK.out _ _ (by (repeat (with_reducible first | assumption | exact AgreeF.refl _ | apply AgreeF.al | apply AgreeF.dr))) (fun hHeld => ?_)
            clear hK K
            try simp only [Act.put, List.setIfInBounds_toArray, List.set_cons_zero, List.set_cons_succ]
            refine wpAnyH_ready (rs := [12]) (by kernel_rfl) (by simp) (AllReadyH.cons (o := { dst := some 62, op := Op.call { callee := Callee.builtin Builtin.append, args := #[Operand.tmp 51, Operand.tmp 61], argTypes := #[31, 31] }, type := 31, pos := "law.go:20", after := #[{ on := 1, ground := Ground.data }, { on := 11, ground := Ground.data }, { on := 10, ground := Ground.chain }], guard := none }) rfl (fun K hK => ?_) AllReadyH.nil)
            (refine step_append_run rfl _ _ _ _ rfl rfl rfl hrun2 ?_)
            refine hK.out _ _ (by (repeat (with_reducible first | assumption | exact AgreeF.refl _ | apply AgreeF.al | apply AgreeF.dr))) (fun hHeld => ?_)
            clear hK K
            try simp only [Act.put, List.setIfInBounds_toArray, List.set_cons_zero, List.set_cons_succ]
            refine wpAnyH_take (i := 13) (oi := { dst := some 63, op := Op.fieldAddr 33 (Operand.tmp 3) 4, type := 0, pos := "law.go:20", after := #[{ on := 0, ground := Ground.phase }, { on := 1, ground := Ground.phase }, { on := 2, ground := Ground.phase }, { on := 3, ground := Ground.phase }, { on := 4, ground := Ground.phase }, { on := 5, ground := Ground.phase }, { on := 6, ground := Ground.phase }, { on := 7, ground := Ground.phase }, { on := 8, ground := Ground.phase }, { on := 9, ground := Ground.phase }, { on := 10, ground := Ground.phase }, { on := 11, ground := Ground.phase }, { on := 12, ground := Ground.phase }], guard := none }) (v := ?_) rfl (by kernel_rfl) (by kernel_rfl) (by kernel_rfl) (fun _ _ _ h => h) (Or.inl ⟨by rfl, ?_⟩) (by assumption) ?_
            rotate_left
            · (intro W hW; (try dsimp only at hW); go_simp <;> (with_reducible rfl))
            try simp only [Act.put, List.setIfInBounds_toArray, List.set_cons_zero, List.set_cons_succ]
            refine wpAnyH_ready (rs := [14]) (by kernel_rfl) (by simp) (AllReadyH.cons (o := { dst := none, op := Op.store 31 (Operand.tmp 63) (Operand.tmp 62), type := 0, pos := "law.go:20", after := #[{ on := 13, ground := Ground.data }, { on := 12, ground := Ground.data }, { on := 12, ground := Ground.chain }, { on := 0, ground := Ground.phase }, { on := 1, ground := Ground.phase }, { on := 2, ground := Ground.phase }, { on := 3, ground := Ground.phase }, { on := 4, ground := Ground.phase }, { on := 5, ground := Ground.phase }, { on := 6, ground := Ground.phase }, { on := 7, ground := Ground.phase }, { on := 8, ground := Ground.phase }, { on := 9, ground := Ground.phase }, { on := 10, ground := Ground.phase }, { on := 11, ground := Ground.phase }, { on := 12, ground := Ground.phase }], guard := none }) rfl (fun K hK => ?_) AllReadyH.nil)
            (rw [if_pos (by rfl)]; go_wp2_with (fail))
            refine hK.out _ _ (by (repeat (with_reducible first | assumption | exact AgreeF.refl _ | apply AgreeF.al | apply AgreeF.dr))) (fun hHeld => ?_)
            clear hK K
            try simp only [Act.put, List.setIfInBounds_toArray, List.set_cons_zero, List.set_cons_succ]
            refine wpAnyH_done (by kernel_rfl) ?_ _
            refine NoPanic.normal ?_
            obtain ⟨wy, hwy⟩ : ∃ x, x = (w9.setCell ⟨w.heap.size + 1 + 1, 4, none⟩ (.slice a9 (i + 1) c9)) := ⟨_, rfl⟩
            rw [← hwy] at HQ ⊢
            clear hwy f8 f9 f7 hA00 hA1 hA3 hA4 hHeld e2 e3 g0 g1 g2 hrun2 o4 n1 n2
            go_wp2_with fail
            go_roundw
            case rel => exact ⟨i + 1, _, _, _, hlt, by go_num, HQ.out⟩
            case measure => simp [intOf]; omega
          · (rw [if_pos (by rfl)]; go_wp2_with (fail))
            refine hK.out _ _ (by (repeat (with_reducible first | assumption | exact AgreeF.refl _ | apply AgreeF.al | apply AgreeF.dr))) (fun hHeld => ?_)
            clear hK K
            try simp only [Act.put, List.setIfInBounds_toArray, List.set_cons_zero, List.set_cons_succ]
            refine wpAnyH_ready (rs := [1]) (by kernel_rfl) (by simp) (AllReadyH.cons (o := { dst := some 51, op := Op.load 31 (Operand.tmp 50), type := 31, pos := "law.go:20", after := #[{ on := 0, ground := Ground.data }], guard := none }) rfl (fun K hK => ?_) AllReadyH.nil)
            (rw [if_pos (by rfl)]; go_wp2_with (fail))
            refine hK.out _ _ (by (repeat (with_reducible first | assumption | exact AgreeF.refl _ | apply AgreeF.al | apply AgreeF.dr))) (fun hHeld => ?_)
            clear hK K
            try simp only [Act.put, List.setIfInBounds_toArray, List.set_cons_zero, List.set_cons_succ]
            refine wpAnyH_ready (rs := [12]) (by kernel_rfl) (by simp) (AllReadyH.cons (o := { dst := some 62, op := Op.call { callee := Callee.builtin Builtin.append, args := #[Operand.tmp 51, Operand.tmp 61], argTypes := #[31, 31] }, type := 31, pos := "law.go:20", after := #[{ on := 1, ground := Ground.data }, { on := 11, ground := Ground.data }, { on := 10, ground := Ground.chain }], guard := none }) rfl (fun K hK => ?_) AllReadyH.nil)
            (refine step_append_run rfl _ _ _ _ rfl rfl rfl hrun2 ?_)
            refine hK.out _ _ (by (repeat (with_reducible first | assumption | exact AgreeF.refl _ | apply AgreeF.al | apply AgreeF.dr))) (fun hHeld => ?_)
            clear hK K
            try simp only [Act.put, List.setIfInBounds_toArray, List.set_cons_zero, List.set_cons_succ]
            refine wpAnyH_take (i := 13) (oi := { dst := some 63, op := Op.fieldAddr 33 (Operand.tmp 3) 4, type := 0, pos := "law.go:20", after := #[{ on := 0, ground := Ground.phase }, { on := 1, ground := Ground.phase }, { on := 2, ground := Ground.phase }, { on := 3, ground := Ground.phase }, { on := 4, ground := Ground.phase }, { on := 5, ground := Ground.phase }, { on := 6, ground := Ground.phase }, { on := 7, ground := Ground.phase }, { on := 8, ground := Ground.phase }, { on := 9, ground := Ground.phase }, { on := 10, ground := Ground.phase }, { on := 11, ground := Ground.phase }, { on := 12, ground := Ground.phase }], guard := none }) (v := ?_) rfl (by kernel_rfl) (by kernel_rfl) (by kernel_rfl) (fun _ _ _ h => h) (Or.inl ⟨by rfl, ?_⟩) (by assumption) ?_
            rotate_left
            · (intro W hW; (try dsimp only at hW); go_simp <;> (with_reducible rfl))
            try simp only [Act.put, List.setIfInBounds_toArray, List.set_cons_zero, List.set_cons_succ]
            refine wpAnyH_ready (rs := [14]) (by kernel_rfl) (by simp) (AllReadyH.cons (o := { dst := none, op := Op.store 31 (Operand.tmp 63) (Operand.tmp 62), type := 0, pos := "law.go:20", after := #[{ on := 13, ground := Ground.data }, { on := 12, ground := Ground.data }, { on := 12, ground := Ground.chain }, { on := 0, ground := Ground.phase }, { on := 1, ground := Ground.phase }, { on := 2, ground := Ground.phase }, { on := 3, ground := Ground.phase }, { on := 4, ground := Ground.phase }, { on := 5, ground := Ground.phase }, { on := 6, ground := Ground.phase }, { on := 7, ground := Ground.phase }, { on := 8, ground := Ground.phase }, { on := 9, ground := Ground.phase }, { on := 10, ground := Ground.phase }, { on := 11, ground := Ground.phase }, { on := 12, ground := Ground.phase }], guard := none }) rfl (fun K hK => ?_) AllReadyH.nil)
            (rw [if_pos (by rfl)]; go_wp2_with (fail))
            refine hK.out _ _ (by (repeat (with_reducible first | assumption | exact AgreeF.refl _ | apply AgreeF.al | apply AgreeF.dr))) (fun hHeld => ?_)
            clear hK K
            try simp only [Act.put, List.setIfInBounds_toArray, List.set_cons_zero, List.set_cons_succ]
            refine wpAnyH_done (by kernel_rfl) ?_ _
            refine NoPanic.normal ?_
            obtain ⟨wy, hwy⟩ : ∃ x, x = (w9.setCell ⟨w.heap.size + 1 + 1, 4, none⟩ (.slice a9 (i + 1) c9)) := ⟨_, rfl⟩
            rw [← hwy] at HQ ⊢
            clear hwy f8 f9 f7 hA00 hA1 hA3 hA4 hHeld e2 e3 g0 g1 g2 hrun2 o4 n1 n2
            go_wp2_with fail
            go_roundw
            case rel => exact ⟨i + 1, _, _, _, hlt, by go_num, HQ.out⟩
            case measure => simp [intOf]; omega
    · obtain rfl : i = kn := by omega
      have hik : decide ((i : Int) < (i : Int)) = false := by simp
      have hkk : (keysOf l).take i = keysOf l := by rw [List.take_of_length_le]; have := HKL.out; simp [keysOf]; omega
      have htt : (l.map (·.2)).take i = l.map (·.2) := by rw [List.take_of_length_le]; have := HKL.out; simp; omega
      rw [hkk, htt] at hmid
      have o0 := hmid.1.cell 0 0 rfl rfl
      have o1 := hmid.1.cell 0 1 rfl rfl
      have o2 := hmid.1.cell 0 2 rfl rfl
      have o3 := hmid.1.cell 0 3 rfl rfl
      have o4 := hmid.1.cell 0 4 rfl rfl
      have u0 := hmid.1.frozen 1 0 rfl
      have u1 := hmid.1.frozen 1 1 rfl
      have u2 := hmid.1.frozen 1 2 rfl
      have u3 := hmid.1.frozen 1 3 rfl
      have u4 := hmid.1.frozen 1 4 rfl
      have z0 : wr.cell? ⟨w.heap.size + 1, 0, none⟩ = _ := hmid.1.cell 1 0 rfl rfl
      have z1 : wr.cell? ⟨w.heap.size + 1, 1, none⟩ = _ := hmid.1.cell 1 1 rfl rfl
      have z2 : wr.cell? ⟨w.heap.size + 1, 2, none⟩ = _ := hmid.1.cell 1 2 rfl rfl
      have z3 : wr.cell? ⟨w.heap.size + 1, 3, none⟩ = _ := hmid.1.cell 1 3 rfl rfl
      have z4 : wr.cell? ⟨w.heap.size + 1, 4, none⟩ = _ := hmid.1.cell 1 4 rfl rfl
      obtain ⟨hxe, hne⟩ := node_end (F := F) (n := n + 1) (T := .node p l) hmid.2.2 (hmid.1.sub (m := [(w.heap.size + 1, [.int .i64 0, .bool false, .slice none 0 0, .slice none 0 0, .slice none 0 0])]) (by simp [zero5])) (hmid.2.1.node (fun b hb => by
        rcases hb with hb | hb
        · exact .inl ⟨hb, hF b hb⟩
        · exact .inr (by omega)))
      have HG := Lib.hid hxe
      have HE := Lib.hid hne
      clear hmid hxe hne hkk htt
      go_wp2_with fail
      refine bodyPost_ret (v := .agg #[.int .i64 p, .bool false, .slice a1 i k1, .slice a2 0 k2, .slice a3 i k3]) (by
        have g0 := HG.out.cell 0 0 rfl rfl
        have g1 := HG.out.cell 0 1 rfl rfl
        have g2 := HG.out.cell 0 2 rfl rfl
        have g3 := HG.out.cell 0 3 rfl rfl
        have g4 := HG.out.cell 0 4 rfl rfl
        unfold set5 at g0 g1 g2 g3 g4
        simp only [results, Try.results19]; simp [go_sem, g0, g1, g2, g3, g4]) rfl HE.out
theorem node17_any : ∀ {n : Nat} {F : Nat → Prop} {w : World} {cs : List Value} {t : Tr}, (∀ b, F b → b < w.heap.size) → RNodeOn F n w cs t → Bnd n t → Calls Try.prog 19 #[.agg cs.toArray] w (NodeTo F n w t)
  | 0, _, _, _, _, _, h, _ => h.elim
  | _n + 1, _, _, _, .leaf _p _l, hF, h, hb => node17_leaf hF h hb.1
  | _n + 1, _, _, _, .node _p _l, hF, h, hb => node17_node (fun hF h hb => node17_any hF h hb) hF h hb.1 (fun c hc => (hb.2 c hc).2)
end Go.Proofs.Ytemfnjlfcemehaa
