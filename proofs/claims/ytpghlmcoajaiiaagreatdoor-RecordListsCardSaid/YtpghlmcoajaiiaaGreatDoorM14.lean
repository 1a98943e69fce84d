/- Texts that other texts of this claim lean on, one behind the other. -/
import Derived.Test.YtpghlmcoajaiiaaGreatDoorM13
import Derived.Deep.RegionHeld3
import Derived.Test.YtpghlmcoajaiiaaGreatDoorM7
import Derived.Test.YtpghlmcoajaiiaaGreatDoorM1
import Derived.Test.YtpghlmcoajaiiaaGreatDoorM6
import Derived.Laws.StructEq
/- Records: the records of a view from a number on. -/
namespace Go.Proofs.YtpghlmcoajaiiaaGreatDoor
open Go.RowKit Go.Shelf
attribute [local go_sem] Oper.semAt_some

/-- The first error among records' bytes. -/
def errL : List (List UInt8) → Int
  | [] => 0
  | d :: r => if getRE d = 0 then errL r else getRE d
/-- The records, or none where there is an error. -/
def recL (D : List (List UInt8)) : List RcD := if errL D = 0 then D.map getR else []
theorem errL_all : ∀ {D : List (List UInt8)}, (∀ d ∈ D, getRE d = 0) → errL D = 0
  | [], _ => rfl
  | d :: r, h => by
    unfold errL
    rw [if_pos (h d (by simp))]
    exact errL_all (fun x hx => h x (List.mem_cons_of_mem _ hx))
theorem errL_first : ∀ {D : List (List UInt8)} {k : Nat} {d : List UInt8}, D[k]? = some d → getRE d ≠ 0 → (∀ j x, j < k → D[j]? = some x → getRE x = 0) → errL D = getRE d
  | [], _, _, h, _, _ => by simp at h
  | x :: r, 0, d, h, h1, _ => by
    simp at h
    subst h
    unfold errL
    rw [if_neg h1]
  | x :: r, k + 1, d, h, h1, h2 => by
    unfold errL
    rw [if_pos (h2 0 x (by omega) rfl)]
    exact errL_first (k := k) (by simpa using h) h1 (fun j y hj hy => h2 (j + 1) y (by omega) (by simpa using hy))
def datas (R : List (List UInt8 × Tv)) : List (List UInt8) := R.map (·.2.data)
theorem datas_at (R : List (List UInt8 × Tv)) {k : Nat} (h : k < R.length) : (datas R)[k]? = some (datR R k) := by
  unfold datas datR
  rw [List.getElem?_map, List.getElem?_eq_getElem h]; rfl
theorem datas_eq (R : List (List UInt8 × Tv)) : datas R = (List.range R.length).map (datR R) := by
  refine List.ext_getElem? fun i => ?_
  by_cases h : i < R.length
  · rw [datas_at R h, List.getElem?_map, List.getElem?_range h]; rfl
  · rw [List.getElem?_eq_none (by unfold datas; simp; omega), List.getElem?_eq_none (by simp; omega)]
def rCell (r : RcD) : Cl 6 := ⟨rcC r, rfl, by intro u hu; simp [rcC] at hu; rcases hu with rfl | rfl | rfl | rfl | rfl | rfl <;> rfl⟩
/-- What a scan answers. -/
def ScanSome (E : TypeId) (W : World) (R : List (List UInt8 × Tv)) (e : Ending) (w' : World) : Prop :=
  ∃ er a c, e = .returned (.tuple #[.slice a R.length c, .int .i64 er]) ∧ w'.ownsRow W.heap.size E 2 (.slice a R.length c) R.length (flatC (pairsC R)) ∧ Below W.heap.size W w'
/-- What listing answers. -/
def ListTo (E : TypeId) (w : World) (D : List (List UInt8)) (e : Ending) (w' : World) : Prop :=
  ∃ a c, e = .returned (.tuple #[.slice a (recL D).length c, .int .i64 (errL D)]) ∧ w'.ownsRow w.heap.size E 6 (.slice a (recL D).length c) (recL D).length (flatC ((recL D).map rCell)) ∧ Below w.heap.size w w'
theorem keeps_own2 {W W' : World} {base : Nat} {e : TypeId} {size : Nat} {v : Value} {n : Nat} {xs : List Value} (h : W.ownsRow base e size v n xs) (hg : W.grownBy W' v.ownBlock) (B : Nat) : KeepsFrom B W W' := by
  refine ⟨hg.size, fun k o _ hk hc => ?_⟩
  rw [hg.block k (Array.getElem?_eq_some_iff.1 hk).1 (fun e => ?_)]
  · exact hk
  · rcases h.2 with ⟨rfl, _⟩ | ⟨g, cap, cur, rfl, _, hh, _⟩
    · cases e
    · cases e
      rw [hh] at hk; cases hk; cases hc
theorem cell_at {w : World} {b : Nat} {c : Array Value} {t : TypeId} {fr : Nat × Nat} (h : w.heap[b]? = some (.cells c t fr)) (i : Nat) (v : Value) (hv : c[i]? = some v) : w.cell? ⟨b, i, none⟩ = some v := by
  simp [World.cell?, h, hv]
theorem res_boxes {w W : World} {r0 r1 : Nat} {x0 x1 : Value} {t0 t1 : TypeId} (f0 : W.heap[r0]? = some (.cells #[x0] t0 (0, 0))) (f1 : W.heap[r1]? = some (.cells #[x1] t1 (0, 0))) (hne : r0 ≠ r1) (hb : Below w.heap.size w W) (h0 : w.heap.size ≤ r0) (h1 : w.heap.size ≤ r1) (v u : Value) :
    ((W.setCell ⟨r0, 0, none⟩ v).setCell ⟨r1, 0, none⟩ u).cell? ⟨r0, 0, none⟩ = some v ∧ ((W.setCell ⟨r0, 0, none⟩ v).setCell ⟨r1, 0, none⟩ u).cell? ⟨r1, 0, none⟩ = some u ∧ Below w.heap.size w ((W.setCell ⟨r0, 0, none⟩ v).setCell ⟨r1, 0, none⟩ u) := by
  have e0 : (W.setCell ⟨r0, 0, none⟩ v).heap[r0]? = some (.cells #[v] t0 (0, 0)) := by rw [heap_setCell_at 0 _ f0]; rfl
  have e1 : (W.setCell ⟨r0, 0, none⟩ v).heap[r1]? = some (.cells #[x1] t1 (0, 0)) := by rw [Below.heap_setCell _ _ _ r1 (show r1 ≠ (⟨r0, 0, none⟩ : Addr).block from fun e => hne e.symm)]; exact f1
  have g0 : ((W.setCell ⟨r0, 0, none⟩ v).setCell ⟨r1, 0, none⟩ u).heap[r0]? = some (.cells #[v] t0 (0, 0)) := by rw [Below.heap_setCell _ _ _ r0 (show r0 ≠ (⟨r1, 0, none⟩ : Addr).block from hne)]; exact e0
  have g1 : ((W.setCell ⟨r0, 0, none⟩ v).setCell ⟨r1, 0, none⟩ u).heap[r1]? = some (.cells #[u] t1 (0, 0)) := by rw [heap_setCell_at 0 _ e1]; rfl
  exact ⟨cell_at g0 0 _ rfl, cell_at g1 0 _ rfl, (hb.setCell h0 _).setCell h1 _⟩
theorem own_putObj {W : World} {B : Nat} {e : TypeId} {sz : Nat} {v : Value} {n : Nat} {xs : List Value} (h : W.ownsRow B e sz v n xs) {D : Nat} {o o' : Obj} (hD : W.heap[D]? = some o) (hc : o.isCells = false) : (W.putObj D o').ownsRow B e sz v n xs := by
  refine ⟨h.1, h.2.imp id fun ⟨g, cap, cur, e1, hg, hh', rr⟩ => ⟨g, cap, cur, e1, hg, ?_, rr⟩⟩
  rw [World.putObj_heap_other (fun e => by rw [e] at hh'; rw [hh'] at hD; cases hD; cases hc)]
  exact hh'
/-- What the body of a round leaves. -/
def OutR (E1 E2 T1 T2 : TypeId) (R : List (List UInt8 × Tv)) (w : World) (ob m : Nat) (pre : List (Fin m)) (W' : World) : Prop :=
  (∃ ao co, W'.heap[ob]? = some (.cells #[.slice ao pre.length co] E2 (0, 0)) ∧ W'.ownsRow (ob + 2) E1 6 (.slice ao pre.length co) pre.length (flatC (pre.map fun x => rCell (getR (datR R x.1))))) ∧ (∀ x ∈ pre, getRE (datR R x.1) = 0) ∧ Below w.heap.size w W' ∧
  W'.heap[w.heap.size + 1]? = some (.cells #[.slice none 0 0] T1 (0, 0)) ∧ W'.heap[w.heap.size + 1 + 1]? = some (.cells #[.int .i64 0] T2 (0, 0)) ∧ ob + 2 ≤ W'.heap.size
/-- What it leaves where a record has an error. -/
def OutE (E2 E3 : TypeId) (R : List (List UInt8 × Tv)) (w : World) (m : Nat) (c : Code) (pre : List (Fin m)) (W' : World) : Prop :=
  c = .ret ∧ (∃ init x, pre = init ++ [x] ∧ (∀ y ∈ init, getRE (datR R y.1) = 0) ∧ getRE (datR R x.1) ≠ 0 ∧ W'.heap[w.heap.size + 1 + 1]? = some (.cells #[.int .i64 (getRE (datR R x.1))] E3 (0, 0))) ∧ W'.heap[w.heap.size + 1]? = some (.cells #[.slice none 0 0] E2 (0, 0)) ∧ Below w.heap.size w W'
theorem kept_cells {B : Nat} {X Y : World} {row : Option Nat} (hg : X.grownBy Y row) (hr : ∀ r, row = some r → B ≤ r ∧ ∃ o : Obj, X.heap[r]? = some o ∧ o.isCells = false) {k : Nat} {c : Array Value} {t : TypeId} (hk : X.heap[k]? = some (.cells c t (0, 0))) : Y.heap[k]? = some (.cells c t (0, 0)) := by
  rw [hg.block k (Array.getElem?_eq_some_iff.1 hk).1 (fun e => ?_)]
  · exact hk
  · obtain ⟨_, o, ho, hc⟩ := hr k e.symm
    rw [hk] at ho; cases ho; cases hc
theorem own_cells {B : Nat} {X Y : World} {row : Option Nat} (hg : X.grownBy Y row) (hr : ∀ r, row = some r → B ≤ r ∧ ∃ o : Obj, X.heap[r]? = some o ∧ o.isCells = false) {base : Nat} {e : TypeId} {size : Nat} {v : Value} {n : Nat} {xs : List Value} (h : X.ownsRow base e size v n xs) : Y.ownsRow base e size v n xs := by
  refine h.kept hg ?_
  cases hv : v.ownBlock with
  | none => exact .inl rfl
  | some g =>
    right
    intro e
    obtain ⟨_, o, ho, hc⟩ := hr g e.symm
    rcases h.2 with ⟨rfl, _⟩ | ⟨g', cap, cur, rfl, _, hh, _⟩
    · cases hv
    · cases hv
      rw [hh] at ho; cases ho; cases hc
theorem outR_own {E1 E2 T1 T2 : TypeId} {R : List (List UInt8 × Tv)} {w : World} {ob m B : Nat} (hB : w.heap.size ≤ B) : OwnFrom B (OutR E1 E2 T1 T2 R w ob m) := by
  rintro pre X Y row ⟨⟨ao, co, h1, h2⟩, h3, h4, h5, h6, h7⟩ hg hr
  exact ⟨⟨ao, co, kept_cells hg hr h1, own_cells hg hr h2⟩, h3, h4.grown hg h4.size (fun k e => Nat.le_trans hB (hr k e).1), kept_cells hg hr h5, kept_cells hg hr h6, Nat.le_trans h7 hg.size⟩
theorem outE_own {E2 E3 : TypeId} {R : List (List UInt8 × Tv)} {w : World} {m B : Nat} (c : Code) (hB : w.heap.size ≤ B) : OwnFrom B (OutE E2 E3 R w m c) := by
  rintro pre X Y row ⟨h0, ⟨init, x, h1, h2, h3, h4⟩, h5, h6⟩ hg hr
  exact ⟨h0, ⟨init, x, h1, h2, h3, kept_cells hg hr h4⟩, kept_cells hg hr h5, h6.grown hg h6.size (fun k e => Nat.le_trans hB (hr k e).1)⟩
theorem info_rec : RowInfo Tryz.prog 64 6 64 := row_info (by kernel_rfl)
set_option maxRecDepth 100000 in
set_option maxHeartbeats 4000000 in
theorem rlist_of {w : World} {d0 d1 d2 d3 d4 : Value} {a : Option Addr} {n c : Nat} {R : List (List UInt8 × Tv)} (from_ most : Int) (hf : 0 ≤ max from_ 0)
    (hS : ∀ W, Below w.heap.size w W → Calls Tryz.prog 84 #[.agg #[d0, d1, d2, d3, d4, .slice a n c], .string ⟨#[97]⟩, .string (strOf (keyB (max from_ 0))), .int .i64 most] W (ScanSome 250 W R)) (hR : R.length ≤ 100000) (hd9 : ∀ x ∈ R, x.2.data.length ≤ 100000) :
    Calls Tryz.prog 38 #[.agg #[d0, d1, d2, d3, d4, .slice a n c], .int .i64 from_, .int .i64 most] w (ListTo 64 w (datas R)) := by
  obtain ⟨W3, hW3⟩ : ∃ x, x = ((w.alloc (.cells #[d0, d1, d2, d3, d4, .slice a n c] 75)).alloc (.cells #[.slice none 0 0] 92)).alloc (.cells #[.int .i64 0] 32) := ⟨_, rfl⟩
  have hx3 : Boxes W3 [(w.heap.size + 1 + 1, [.int .i64 0]), (w.heap.size + 1, [.slice none 0 0]), (w.heap.size, [d0, d1, d2, d3, d4, .slice a n c])] := by
    rw [hW3]
    refine Boxes.alloc ?_ #[.int .i64 0] 32 (by simp)
    refine Boxes.alloc ?_ #[.slice none 0 0] 92 (by simp)
    exact (Boxes.nil w).alloc #[d0, d1, d2, d3, d4, .slice a n c] 75 (b := w.heap.size) rfl
  have hb3 : Below w.heap.size w W3 := by rw [hW3]; exact Below.al (Below.al (Below.al (Below.refl _ _)))
  have CK := fun W => key_any (max from_ 0) W
  have hmx : (if from_ < 0 then (0 : Int) else from_) = max from_ 0 := by split <;> omega
  have hmx2 : (if from_ > 0 then from_ else (0 : Int)) = max from_ 0 := by split <;> omega
  have t0 : ∀ W, Below W3.heap.size W3 W → W.cell? ⟨w.heap.size, 0, none⟩ = some d0 := fun W hW => (hx3.step hW).cell 2 0 rfl rfl
  have t1 : ∀ W, Below W3.heap.size W3 W → W.cell? ⟨w.heap.size, 1, none⟩ = some d1 := fun W hW => (hx3.step hW).cell 2 1 rfl rfl
  have t2 : ∀ W, Below W3.heap.size W3 W → W.cell? ⟨w.heap.size, 2, none⟩ = some d2 := fun W hW => (hx3.step hW).cell 2 2 rfl rfl
  have t3 : ∀ W, Below W3.heap.size W3 W → W.cell? ⟨w.heap.size, 3, none⟩ = some d3 := fun W hW => (hx3.step hW).cell 2 3 rfl rfl
  have t4 : ∀ W, Below W3.heap.size W3 W → W.cell? ⟨w.heap.size, 4, none⟩ = some d4 := fun W hW => (hx3.step hW).cell 2 4 rfl rfl
  have t5 : ∀ W, Below W3.heap.size W3 W → W.cell? ⟨w.heap.size, 5, none⟩ = some (.slice a n c) := fun W hW => (hx3.step hW).cell 2 5 rfl rfl
  have CS : ∀ W, Below W3.heap.size W3 W → Calls Tryz.prog 84 #[.agg #[d0, d1, d2, d3, d4, .slice a n c], .string ⟨#[97]⟩, .string (strOf (keyB (max from_ 0))), .int .i64 most] W (ScanSome 250 W R) := fun W hW => hS W (below_via hb3 hW)
  have HX3 := Lib.hid hx3
  have HB3 := Lib.hid hb3
  generalize max from_ 0 = fr at *
  clear hx3 hb3 hS
  refine (callsIn_wide (n := 8)).1 ?_
  refine callsIn_of_wp_marks Tryz.func38 rfl trivial ?_ rfl
  simp only [Tryz.ntmps38, List.size_toArray, List.length_cons, List.length_nil, Nat.reduceAdd, Nat.reduceSub, Array.replicate_succ, Array.replicate_zero, List.push_toArray, List.append_toArray, List.nil_append, List.cons_append]
  gi_wp2_with fail
  refine wpIn_wide.2 ?_
  rw [← hW3]
  clear hW3
  have hB0 : Below W3.heap.size W3 W3.drew := Below.dr (Below.refl _ _)
  go_region_held3 (fun W => Below W3.heap.size W3 W) (first | with_reducible assumption | (repeat (with_reducible first | assumption | exact Below.refl _ _ | apply Below.al | apply Below.dr))) (first | (go_at_call 24; (with_reducible refine (CK _).mono ?_); rintro e w4 ⟨rfl, hb4⟩; have hB4 : Below W3.heap.size W3 w4 := below_via (by (repeat (with_reducible first | assumption | exact Below.refl _ _ | apply Below.al | apply Below.dr))) hb4) | (go_at_call 84; (with_reducible refine (CS _ ?_).mono ?_); (focus (repeat (with_reducible first | assumption | exact Below.refl _ _ | apply Below.al | apply Below.dr))); rintro e w5 ⟨er, a5, c5, rfl, ho5, hb5⟩; have hB5 : Below W3.heap.size W3 w5 := below_via (by (repeat (with_reducible first | assumption | exact Below.refl _ _ | apply Below.al | apply Below.dr))) hb5))
  have hx5 := HX3.out.step hB5
  obtain ⟨tB1, hr1⟩ := hx5 (w.heap.size + 1, [.slice none 0 0]) (by simp)
  obtain ⟨tB2, hr2⟩ := hx5 (w.heap.size + 1 + 1, [.int .i64 0]) (by simp)
  obtain ⟨g, hga, hP5, hPc5, hg0⟩ := pairs_at ho5
  have hw35 := hx5.lt 0 rfl
  have hgl : g < w5.heap.size := by
    by_cases h0 : 0 < R.length
    · obtain ⟨_, o, ho, _⟩ := hPc5 h0
      exact (Array.getElem?_eq_some_iff.1 ho).1
    · have := hg0 (by omega)
      omega
  obtain ⟨m, hm⟩ : ∃ z, R.length = z := ⟨_, rfl⟩
  rw [hm] at hga hPc5 hR ho5 ⊢
  have hbw5 := below_via HB3.out hB5
  have HP5 := Lib.hid hP5
  have HPC5 := Lib.hid hPc5
  have HR1 := Lib.hid hr1
  have HR2 := Lib.hid hr2
  have HB5 := Lib.hid hbw5
  have HM := Lib.hid hm
  have HD9 := Lib.hid hd9
  clear hg0 t0 t1 t2 t3 t4 t5 CK CS hx5 hr1 hr2 hP5 hPc5 ho5 hbw5 hB5 hb5 hB4 hb4 hB0 hmx hmx2 hm hd9
  gi_wp2_with fail
  have hch : Calls Tryz.prog 85 #[.slice a5 m c5] (w5.alloc (.cells #[.slice none 0 0] 92)) fun e w' => e = .returned (.func (.func 123) #[] #[.pointer (some ⟨w5.heap.size + 1, 0, none⟩)]) ∧ (w5.alloc (.cells #[.slice none 0 0] 92)).alloc (.cells #[.slice a5 m c5] 184) = w' := by
    have := each_any a5 m c5 (w5.alloc (.cells #[.slice none 0 0] 92))
    rw [World.size_alloc] at this
    exact this
  refine ⟨trivial, (callsIn_wide.2 hch).mono ?_⟩
  rintro e wC' ⟨rfl, rfl⟩
  obtain ⟨wC, hwC⟩ : ∃ x, (w5.alloc (.cells #[.slice none 0 0] 92)).alloc (.cells #[.slice a5 m c5] 184) = x := ⟨_, rfl⟩
  rw [hwC]
  have hsC : wC.heap.size = w5.heap.size + 2 := by rw [← hwC]; simp
  have hbC : Below w5.heap.size w5 wC := by rw [← hwC]; exact Below.al (Below.al (Below.refl _ _))
  have hxO : wC.heap[w5.heap.size]? = some (.cells #[.slice none 0 0] 92 (0, 0)) := by
    rw [← hwC, Below.heap_alloc _ _ _ (by simp)]; exact World.alloc_heap_new w5 _
  have hxB : wC.heap[w5.heap.size + 1]? = some (.cells #[.slice a5 m c5] 184 (0, 0)) := by
    have := World.alloc_heap_new (w5.alloc (.cells #[.slice none 0 0] 92)) (.cells #[.slice a5 m c5] 184)
    rw [World.size_alloc] at this
    rw [← hwC]; exact this
  have hPC : PairsAt wC g R := HP5.out.same hbC.size (fun h => hbC.block g h)
  have hPcC : 0 < m → ∃ o, wC.heap[g]? = some o ∧ o.isCells = true := fun h => by
    obtain ⟨_, o, ho, hc⟩ := HPC5.out h
    exact ⟨o, (hbC.block g hgl).trans ho, hc⟩
  have hI0 : OutR 64 92 tB1 tB2 R w w5.heap.size m [] wC :=
    ⟨⟨none, 0, hxO, World.ownsRow_nil _ _ _ _⟩, (fun x hx => by simp at hx), below_via HB5.out hbC, (hbC.block _ (by omega)).trans HR1.out, (hbC.block _ hw35).trans HR2.out, by omega⟩
  have HXB := Lib.hid hxB
  have HPCC := Lib.hid hPC
  have HPCD := Lib.hid hPcC
  have HI0 := Lib.hid hI0
  have HSC := Lib.hid hsC
  have HBC := Lib.hid (below_via HB5.out hbC)
  clear hch hwC hbC hxO hxB hPC hPcC hI0 hsC
  gi_wp2
  refine wpIn_rangeFunc_ownH rfl (by omega) (gf := 123) (lb := #[.pointer (some ⟨w5.heap.size + 1, 0, none⟩)]) rfl trivial (enters_of Tryz.func123 (by kernel_rfl) rfl)
    (each_stops 7 (by omega) (w5.heap.size + 1) w5.heap.size a5 g m c5 R HM.out hga hR HD9.out wC (by have := HSC.out; omega) HXB.out HPCC.out HPCD.out) keepC_t (keepC_b (by have := HSC.out; omega)) (Below.refl _ _) (fun _ => rfl)
    (OutR 64 92 tB1 tB2 R w w5.heap.size m) (OutE tB1 tB2 R w m) (outR_own HBC.out.size) (fun c => outE_own c HBC.out.size) HI0.out
    (fun x a' W => ∃ rb t, W.heap[rb]? = some (.cells (rcC (getR (datR R x.1))).toArray t (0, 0)) ∧ w5.heap.size + 2 ≤ rb ∧ a' = { tmps := #[.agg #[d0, d1, d2, d3, d4, .slice a n c], .int .i64 from_, .int .i64 most, .pointer (some ⟨w.heap.size, 0, none⟩), undef, undef, .pointer (some ⟨w.heap.size + 1, 0, none⟩), .pointer (some ⟨w.heap.size + 1 + 1, 0, none⟩), .slice a5 m c5, .int .i64 er, .pointer (some ⟨w5.heap.size, 0, none⟩), .pointer (some ⟨rb, 0, none⟩), .int .i64 (getRE (datR R x.1)), .tuple #[.slice a5 m c5, .int .i64 er], .agg #[d0, d1, d2, d3, d4, .slice a n c], .int .i64 from_, .int .i64 fr, .string (strOf (keyB fr)), .int .i64 most, .tuple #[.slice a5 m c5, .int .i64 er], .slice a5 m c5, .int .i64 er, .slice a5 m c5, .func (.func 123) #[] #[.pointer (some ⟨w5.heap.size + 1, 0, none⟩)], rcV (getR (datR R x.1)), .int .i64 (getRE (datR R x.1)), undef, undef, undef, undef, undef, undef, undef, undef], defers := [] }) (fun x a' => ?own) ?assign ?body ?done ?stop
  case own =>
    rintro _ X Y row ⟨rb, t, h1, h2, h3⟩ hg hr
    exact ⟨rb, t, kept_cells hg hr h1, h2, h3⟩
  case assign =>
    intro l pre x W K hI hK
    obtain ⟨r, hr⟩ : ∃ z, getR (datR R x.1) = z := ⟨_, rfl⟩
    have hrv : rcV r = .agg #[.int .i64 r.actor, .int .i64 r.from_, .int .i64 r.to_, .string (strOf r.bucket), .string (strOf r.key), .int .u32 (r.digest : Int)] := rfl
    have hrc : rcC r = [.int .i64 r.actor, .int .i64 r.from_, .int .i64 r.to_, .string (strOf r.bucket), .string (strOf r.key), .int .u32 (r.digest : Int)] := rfl
    rw [hr] at hK ⊢
    rw [hrv] at hK ⊢
    rw [hrc] at hK
    have hsz : w5.heap.size + 2 ≤ W.heap.size := hI.2.2.2.2.2
    have HK := hK
    clear hK
    have hI' : ∀ o : Obj, OutR 64 92 tB1 tB2 R w w5.heap.size m pre (W.alloc o) := fun o => (outR_own HBC.out.size).alloc o hI
    gi_wp2
    refine HK _ _ ⟨by simp, fun k o _ hk _ => (Below.heap_alloc _ _ _ (Array.getElem?_eq_some_iff.1 hk).1).trans hk⟩ ⟨(Below.refl _ _).alloc (by omega) _, fun k _ o hk _ => (Below.heap_alloc _ _ _ (Array.getElem?_eq_some_iff.1 hk).1).trans hk⟩ (hI' _) ⟨W.heap.size, 64, World.alloc_heap_new W _, hsz, rfl⟩
  case body =>
    rintro l pre x a' W hl hlr hI ⟨rb, t, hrb, hrb2, rfl⟩ hlt
    obtain ⟨r, hr⟩ : ∃ z, getR (datR R x.1) = z := ⟨_, rfl⟩
    obtain ⟨e9, he9⟩ : ∃ z, getRE (datR R x.1) = z := ⟨_, rfl⟩
    have hrv : rcV r = .agg #[.int .i64 r.actor, .int .i64 r.from_, .int .i64 r.to_, .string (strOf r.bucket), .string (strOf r.key), .int .u32 (r.digest : Int)] := rfl
    have hrc : rcC r = [.int .i64 r.actor, .int .i64 r.from_, .int .i64 r.to_, .string (strOf r.bucket), .string (strOf r.key), .int .u32 (r.digest : Int)] := rfl
    rw [hr, hrc] at hrb
    rw [hr, he9, hrv]
    obtain ⟨⟨ao, co, j1, j2⟩, j3, j4, j5, j6, j7⟩ := hI
    have c0 := cell_at hrb 0 _ rfl
    have c1 := cell_at hrb 1 _ rfl
    have c2 := cell_at hrb 2 _ rfl
    have c3 := cell_at hrb 3 _ rfl
    have c4 := cell_at hrb 4 _ rfl
    have c5 := cell_at hrb 5 _ rfl
    have hgl' := hgl
    have HR := Lib.hid hr
    have HE9 := Lib.hid he9
    have hk0 : pre.length < 100000 := by omega
    by_cases he : e9 = 0
    · subst he
      have b0 := cell_at j1 0 _ rfl
      obtain ⟨ii, zz, q1, q2, q3, q4, q5⟩ := info_rec
      obtain ⟨v9, w9, hr9, ho9, hg9, _⟩ := run_append_new (P := Tryz.prog) (w5.heap.size + 2) 92 64 ii zz 6 64 Tryz.underlying92 q1 q2 q3 q4 q5 (by decide) j2 #[.int .i64 r.actor, .int .i64 r.from_, .int .i64 r.to_, .string (strOf r.bucket), .string (strOf r.key), .int .u32 (r.digest : Int)] rfl (by intro u hu; simp at hu; rcases hu with rfl | rfl | rfl | rfl | rfl | rfl <;> rfl) (by unfold maxLen; omega) (by omega) j7
      obtain ⟨a9, k9, rfl, _⟩ := own_slice ho9
      have hge := own_ge j2
      have hlt0 : w5.heap.size < W.heap.size := by omega
      have hneB : some w5.heap.size ≠ (Value.slice ao pre.length co).ownBlock := fun e => by have := hge _ e.symm; omega
      have g19 : w9.heap[w5.heap.size]? = some (.cells #[.slice ao pre.length co] 92 (0, 0)) := (hg9.block _ hlt0 hneB).trans j1
      have b9 := cell_at g19 0 _ rfl
      have bf : w9.frozen? ⟨w5.heap.size, 0, none⟩ = false := by simp [World.frozen?, g19]
      have ENDP : KeepsFrom wC.heap.size W (w9.setCell ⟨w5.heap.size, 0, none⟩ (.slice a9 (pre.length + 1) k9)) ∧ KeepC w5.heap.size [w5.heap.size + 1, g] W (w9.setCell ⟨w5.heap.size, 0, none⟩ (.slice a9 (pre.length + 1) k9)) ∧ OutR 64 92 tB1 tB2 R w w5.heap.size m (pre ++ [x]) (w9.setCell ⟨w5.heap.size, 0, none⟩ (.slice a9 (pre.length + 1) k9)) := by
        have hk9 := keeps_own2 j2 hg9 wC.heap.size
        have hkS : KeepsFrom wC.heap.size w9 (w9.setCell ⟨w5.heap.size, 0, none⟩ (.slice a9 (pre.length + 1) k9)) := (KeepsOthers.setCell w9 ⟨w5.heap.size, 0, none⟩ (.slice a9 (pre.length + 1) k9)).from _
        have hB9 : Below w5.heap.size W w9 := (Below.refl w5.heap.size W).grown hg9 (Nat.le_of_lt hlt0) (fun k e => by have := hge k e; omega)
        have hBw : Below w.heap.size w w9 := j4.grown hg9 j4.size (fun k e => by have := hge k e; omega)
        have hkeep : ∀ (k : Nat) (o : Obj), k ≠ w5.heap.size → k < w5.heap.size + 2 → W.heap[k]? = some o → (w9.setCell ⟨w5.heap.size, 0, none⟩ (.slice a9 (pre.length + 1) k9)).heap[k]? = some o := fun k o hk hk2 ho => by
          rw [Below.heap_setCell _ _ _ k (by simpa using hk), hg9.block k (Array.getElem?_eq_some_iff.1 ho).1 (fun e => by have := hge k e.symm; omega)]
          exact ho
        refine ⟨hk9.trans hkS, ⟨hB9.setCell (Nat.le_refl _) _, fun k hk o ho _ => hkeep k o (by simp at hk; omega) (by simp at hk; omega) ho⟩, ⟨⟨a9, k9, ?_, ?_⟩, ?_, hBw.setCell (by simp; omega) _, hkeep _ _ (by omega) (by omega) j5, hkeep _ _ (by omega) (by omega) j6, ?_⟩⟩
        · rw [List.length_append, List.length_singleton, heap_setCell_at 0 _ g19]; rfl
        · have h9 := own_set ho9 ⟨w5.heap.size, 0, none⟩ (.slice a9 (pre.length + 1) k9) (fun e => by have := own_ge ho9 _ e; simp at this; omega)
          have hf : flatC ((pre ++ [x]).map fun x => rCell (getR (datR R x.1))) = flatC (pre.map fun x => rCell (getR (datR R x.1))) ++ (#[.int .i64 r.actor, .int .i64 r.from_, .int .i64 r.to_, .string (strOf r.bucket), .string (strOf r.key), .int .u32 (r.digest : Int)] : Array Value).toList := by
            rw [List.map_append, flatC_append, List.map_singleton, HR.out]
            congr 1
          rw [List.length_append, List.length_singleton, hf]
          exact h9
        · intro y hy
          rcases List.mem_append.1 hy with hy | hy
          · exact j3 y hy
          · simp at hy; subst hy; exact HE9.out
        · have := hg9.size
          simp [World.setCell]
          omega
      have END := Lib.hid ENDP
      clear ENDP ho9 hg9 hge hneB g19 q1 q2 q3 q4 q5 j1 j2 j3 j4 j5 j6 hrb hrv hrc hr he9
      gi_wp2_with (gi_at_builtin; refine wpListIn_append_run rfl _ _ _ _ rfl rfl rfl hr9 ?_)
      exact END.out
    · have b1 := cell_at j5 0 _ rfl
      have b2 := cell_at j6 0 _ rfl
      have f1 : W.frozen? ⟨w.heap.size + 1, 0, none⟩ = false := by simp [World.frozen?, j5]
      have f2 : W.frozen? ⟨w.heap.size + 1 + 1, 0, none⟩ = false := by simp [World.frozen?, j6]
      have n0 : (e9 != 0) = true := by simpa using he
      have n1 : (e9 == 0) = false := by simpa using he
      have ENDP : KeepsFrom wC.heap.size W ((W.setCell ⟨w.heap.size + 1, 0, none⟩ (.slice none 0 0)).setCell ⟨w.heap.size + 1 + 1, 0, none⟩ (.int .i64 e9)) ∧ OutE tB1 tB2 R w m .ret (pre ++ [x]) ((W.setCell ⟨w.heap.size + 1, 0, none⟩ (.slice none 0 0)).setCell ⟨w.heap.size + 1 + 1, 0, none⟩ (.int .i64 e9)) := by
        have x1 : (W.setCell ⟨w.heap.size + 1, 0, none⟩ (.slice none 0 0)).heap[w.heap.size + 1]? = some (.cells #[.slice none 0 0] tB1 (0, 0)) := by rw [heap_setCell_at 0 _ j5]; rfl
        have x2 : (W.setCell ⟨w.heap.size + 1, 0, none⟩ (.slice none 0 0)).heap[w.heap.size + 1 + 1]? = some (.cells #[.int .i64 0] tB2 (0, 0)) := by rw [Below.heap_setCell _ _ _ _ (by simp)]; exact j6
        refine ⟨((KeepsOthers.setCell _ _ _).trans (KeepsOthers.setCell _ _ _)).from _, rfl, ⟨pre, x, rfl, j3, by rw [HE9.out]; exact he, ?_⟩, ?_, (j4.setCell (by simp) _).setCell (by simp; omega) _⟩
        · rw [heap_setCell_at 0 _ x2, HE9.out]; rfl
        · rw [Below.heap_setCell _ _ _ _ (by simp)]; exact x1
      have END := Lib.hid ENDP
      clear ENDP j1 j2 j3 j4 j5 j6 hrb hrv hrc hr he9 he
      gi_wp2_with fail
      exact END.out
  case done =>
    rintro D ys W hD hS ⟨⟨ao, co, j1, j2⟩, j3, j4, j5, j6, j7⟩ hKK
    have hyl : ys.length = m := by have := congrArg List.length hS; simpa using this
    have hz : ∀ d ∈ datas R, getRE d = 0 := fun d hd => by
      rw [datas_eq, HM.out] at hd
      obtain ⟨k, hk, rfl⟩ := List.mem_map.1 hd
      rw [← hS] at hk
      obtain ⟨y, hy, rfl⟩ := List.mem_map.1 hk
      exact j3 y hy
    have hE := errL_all hz
    have hL : recL (datas R) = (datas R).map getR := by unfold recL; rw [if_pos hE]
    have hLl : (recL (datas R)).length = m := by rw [hL]; unfold datas; simp [HM.out]
    have hmap : (ys.map fun x => rCell (getR (datR R x.1))) = (recL (datas R)).map rCell := by
      rw [hL, datas_eq, HM.out, ← hS, List.map_map, List.map_map, List.map_map]; rfl
    rw [hyl, hmap] at j2
    rw [hyl] at j1
    have k0 := cell_at j1 0 _ rfl
    obtain ⟨c0, c1, c2⟩ := res_boxes j5 j6 (by omega) j4 (by omega) (by omega) (.slice ao m co) (.int .i64 0)
    have b1 := cell_at j5 0 _ rfl
    have b2 := cell_at j6 0 _ rfl
    have f1 : W.frozen? ⟨w.heap.size + 1, 0, none⟩ = false := by simp [World.frozen?, j5]
    have f2 : (W.setCell ⟨w.heap.size + 1, 0, none⟩ (.slice ao m co)).frozen? ⟨w.heap.size + 1 + 1, 0, none⟩ = false := by
      simp only [World.frozen?, Below.heap_setCell _ _ _ (w.heap.size + 1 + 1) (show w.heap.size + 1 + 1 ≠ (⟨w.heap.size + 1, 0, none⟩ : Addr).block by simp), j6]; simp
    have b3 : (W.setCell ⟨w.heap.size + 1, 0, none⟩ (.slice ao m co)).cell? ⟨w.heap.size + 1 + 1, 0, none⟩ = some (.int .i64 0) := by
      rw [World.cell?_of_block (Below.heap_setCell _ _ _ (w.heap.size + 1 + 1) (show w.heap.size + 1 + 1 ≠ (⟨w.heap.size + 1, 0, none⟩ : Addr).block by simp))]; exact b2
    have hDs := HBC.out.size
    have hCs := HSC.out
    have HKK : Hid (((W.setCell ⟨w.heap.size + 1, 0, none⟩ (.slice ao m co)).setCell ⟨w.heap.size + 1 + 1, 0, none⟩ (.int .i64 0)).heap[D]? = some (.deferred (some []))) := Lib.hid (by
      rw [Below.heap_setCell _ _ _ D (by simp; omega), Below.heap_setCell _ _ _ D (by simp; omega)]; exact hKK)
    have HOUT := Lib.hid (show ((W.setCell ⟨w.heap.size + 1, 0, none⟩ (.slice ao m co)).setCell ⟨w.heap.size + 1 + 1, 0, none⟩ (.int .i64 0)).ownsRow w.heap.size 64 6 (.slice ao m co) m (flatC ((recL (datas R)).map rCell)) from by
      have z1 := own_ge j2
      exact own_base (own_set (own_set j2 _ _ (fun e => by have := z1 _ e; simp at this; omega)) _ _ (fun e => by have := z1 _ e; simp at this; omega)) (by omega))
    have HC := Lib.hid c0
    have HC1 := Lib.hid c1
    have HBL := Lib.hid c2
    have HE := Lib.hid hE
    have HLL := Lib.hid hLl
    clear j1 j2 j3 j4 j5 j6 j7 hS hyl hz hE hL hLl hmap c0 c1 c2 hKK hCs hDs
    gi_wp2_with fail
    refine ⟨by simp, .inl ⟨_, _, rfl, run_takeDeferred HKK.out, ?_⟩⟩
    have hDs := HBC.out.size
    have hCs := HSC.out
    have hD0 : D ≠ w.heap.size + 1 := by omega
    have hD1 : D ≠ w.heap.size + 1 + 1 := by omega
    have HKo := HKK.out
    generalize hWF : ((W.setCell ⟨w.heap.size + 1, 0, none⟩ (.slice ao m co)).setCell ⟨w.heap.size + 1 + 1, 0, none⟩ (.int .i64 0)) = WF at *
    have e0 : (WF.putObj D (.deferred none)).cell? ⟨w.heap.size + 1, 0, none⟩ = some (.slice ao m co) := by
      rw [World.cell?_of_block (World.putObj_heap_other (fun e => hD0 e.symm))]; exact HC.out
    have e1 : (WF.putObj D (.deferred none)).cell? ⟨w.heap.size + 1 + 1, 0, none⟩ = some (.int .i64 0) := by
      rw [World.cell?_of_block (World.putObj_heap_other (fun e => hD1 e.symm))]; exact HC1.out
    refine ⟨.tuple #[.slice ao m co, .int .i64 0], by simp [results, Tryz.results38, go_sem, e0, e1], ?_⟩
    refine ⟨ao, co, by rw [HE.out, HLL.out], ?_, HBL.out.trans (belowK_b (w := w) (Nat.le_refl _) WF D _ _ (by omega) HKo rfl rfl)⟩
    rw [HLL.out]
    exact own_putObj HOUT.out HKo rfl
  case stop =>
    rintro D c9 pre W hD hSp ⟨rfl, ⟨init, x, rfl, h1, h2, h3⟩, h4, h5⟩ hKK
    have hx : x.1 = init.length := by
      rw [List.length_append, List.length_singleton, List.map_append, List.range_succ] at hSp
      have := congrArg List.getLast? hSp
      simpa using this
    have hi : init.map Fin.val = List.range init.length := by
      rw [List.length_append, List.length_singleton, List.map_append, List.range_succ, List.map_singleton] at hSp
      exact (List.append_inj' hSp rfl).1
    have hxm := x.2
    have hE : errL (datas R) = getRE (datR R x.1) := errL_first (datas_at R (by rw [HM.out]; exact hxm)) h2 (fun j y hj hy => by
      have hjm : j < R.length := by rw [HM.out]; omega
      rw [datas_at R hjm] at hy
      cases hy
      have hj2 : j ∈ init.map Fin.val := by rw [hi]; simp; omega
      obtain ⟨y, hy, rfl⟩ := List.mem_map.1 hj2
      exact h1 y hy)
    have hL : recL (datas R) = [] := by unfold recL; rw [if_neg (by rw [hE]; exact h2)]
    obtain ⟨e9, he9⟩ : ∃ z, getRE (datR R x.1) = z := ⟨_, rfl⟩
    rw [he9] at h3 hE
    have k0 := cell_at h4 0 _ rfl
    have k1 := cell_at h3 0 _ rfl
    have hDs := HBC.out.size
    have hCs := HSC.out
    have HKK := Lib.hid hKK
    have HBW := Lib.hid h5
    have HC := Lib.hid k0
    have HC1 := Lib.hid k1
    have HE := Lib.hid hE
    have HL := Lib.hid hL
    have hD0 : D ≠ w.heap.size + 1 := by omega
    have hD1 : D ≠ w.heap.size + 1 + 1 := by omega
    clear h1 h2 h3 h4 h5 hKK hx hi hxm hE hL he9 hSp
    gi_wp2_with fail
    refine ⟨by simp, .inl ⟨_, _, rfl, run_takeDeferred HKK.out, ?_⟩⟩
    have HKo := HKK.out
    have e0 : (W.putObj D (.deferred none)).cell? ⟨w.heap.size + 1, 0, none⟩ = some (.slice none 0 0) := by
      rw [World.cell?_of_block (World.putObj_heap_other (fun e => hD0 e.symm))]; exact HC.out
    have e1 : (W.putObj D (.deferred none)).cell? ⟨w.heap.size + 1 + 1, 0, none⟩ = some (.int .i64 e9) := by
      rw [World.cell?_of_block (World.putObj_heap_other (fun e => hD1 e.symm))]; exact HC1.out
    refine ⟨.tuple #[.slice none 0 0, .int .i64 e9], by simp [results, Tryz.results38, go_sem, e0, e1], ?_⟩
    refine ⟨none, 0, by rw [HE.out, HL.out]; rfl, ?_, HBW.out.trans (belowK_b (w := w) (Nat.le_refl _) W D _ _ (by omega) HKo rfl rfl)⟩
    rw [HL.out]
    exact own_nil _ _ _ _
end Go.Proofs.YtpghlmcoajaiiaaGreatDoor

/- Views: a bucket's tree turned by the closure of view.Put. -/
namespace Go.Proofs.YtpghlmcoajaiiaaGreatDoor
open Go.RowKit

theorem tells_set {α : Type} {sz : Nat} {R : List Value → α → Prop} {L : List (Cl sz)} {l : List α} (h : Tells R L l) {p : Nat} {x : Cl sz} {y : α} (hy : R x.1 y) : Tells R (L.set p x) (l.set p y) := by
  obtain ⟨h1, h2⟩ := h
  refine ⟨by simp [h1], fun i a b ha hb => ?_⟩
  by_cases hi : p = i
  · subst hi
    have hl := (List.getElem?_eq_some_iff.1 ha).1
    have hl2 := (List.getElem?_eq_some_iff.1 hb).1
    simp at hl hl2
    rw [List.getElem?_set_self (by simpa using hl)] at ha
    rw [List.getElem?_set_self (by simpa using hl2)] at hb
    simp at ha hb
    subst ha hb
    exact hy
  · rw [List.getElem?_set_ne hi] at ha hb
    exact h2 i a b ha hb
theorem set_last5 {β : Type} {p s : List β} {n : Nat} (hp : p.length = n) (x0 a0 a1 a2 a3 a4 b0 b1 b2 b3 b4 : β) :
    (((((p ++ ([x0, a0, a1, a2, a3, a4] ++ s)).set (n + 1) b0).set (n + 2) b1).set (n + 3) b2).set (n + 4) b3).set (n + 5) b4 = p ++ ([x0, b0, b1, b2, b3, b4] ++ s) := by
  subst hp
  simp
/-- The last five cells of a record of six written over. -/
theorem own_set6 {w : World} {B g n c : Nat} {e : TypeId} {C : List (Cl 6)} (h : w.ownsRow B e 6 (.slice (some ⟨g, 0, none⟩) n c) n (flatC C)) (hn : C.length = n) {k : Nat} (hk : k < n) {x : Cl 6} (hx : C[k]? = some x) {x0 : Value} {xs : List Value} (hxe : x.1 = x0 :: xs) (y : Cl 6) {y0 y1 y2 y3 y4 : Value} (hy : y.1 = [x0, y0, y1, y2, y3, y4]) :
    (((((w.setCell ⟨g, k * 6 + 1, none⟩ y0).setCell ⟨g, k * 6 + 2, none⟩ y1).setCell ⟨g, k * 6 + 3, none⟩ y2).setCell ⟨g, k * 6 + 4, none⟩ y3).setCell ⟨g, k * 6 + 5, none⟩ y4).ownsRow B e 6 (.slice (some ⟨g, 0, none⟩) n c) n (flatC (C.set k y)) := by
  obtain ⟨p, s, hp, h1, h2⟩ := flat_parts (fun y : Cl 6 => y.1) 6 (fun y => y.2.1) hx
  have hk3 : k * 6 + 5 < n * 6 := by omega
  obtain ⟨z0, z1, z2, z3, z4, hze⟩ : ∃ z0 z1 z2 z3 z4, x.1 = [x0, z0, z1, z2, z3, z4] := by
    have := x.2.1
    rw [hxe] at this ⊢
    match xs, this with
    | [x1, x2, x3, x4, x5], _ => exact ⟨x1, x2, x3, x4, x5, rfl⟩
  have g0 := own_put h (k * 6 + 1) y0 (by omega)
  have g1 := own_put g0 (k * 6 + 2) y1 (by omega)
  have g2 := own_put g1 (k * 6 + 3) y2 (by omega)
  have g3 := own_put g2 (k * 6 + 4) y3 (by omega)
  have g4 := own_put g3 (k * 6 + 5) y4 (by omega)
  unfold flatC at g4 ⊢
  rw [h2 y, hy]
  rw [h1, hze, set_last5 hp] at g4
  exact g4
theorem own_room6 {w : World} {B g n c sz : Nat} {e : TypeId} {xs : List Value} (h : w.ownsRow B e sz (.slice (some ⟨g, 0, none⟩) n c) n xs) {j : Nat} (hj : j < c * sz) : (w.cell? ⟨g, j, none⟩).isSome = true := by
  rcases h.2 with ⟨h0, _⟩ | ⟨g', cap, cur, hv, hb, hg, hn, hm, hc, ht⟩
  · cases h0
  · cases hv
    simp only [World.cell?, hg]
    rw [Array.getElem?_eq_getElem (by omega)]; rfl
theorem own_last5 {w : World} {B g n c : Nat} {e : TypeId} {xs : List Value} (h : w.ownsRow B e 6 (.slice (some ⟨g, 0, none⟩) n c) n xs) (hc : n ≤ c) {k : Nat} (hk : k < n) :
    ∃ y0 y1 y2 y3 y4, w.cell? ⟨g, k * 6 + 1, none⟩ = some y0 ∧ w.cell? ⟨g, k * 6 + 2, none⟩ = some y1 ∧ w.cell? ⟨g, k * 6 + 3, none⟩ = some y2 ∧ w.cell? ⟨g, k * 6 + 4, none⟩ = some y3 ∧ w.cell? ⟨g, k * 6 + 5, none⟩ = some y4 := by
  have := Nat.mul_le_mul_right 6 (show k + 1 ≤ c by omega)
  obtain ⟨y0, h0⟩ := Option.isSome_iff_exists.1 (own_room6 h (j := k * 6 + 1) (by omega))
  obtain ⟨y1, h1⟩ := Option.isSome_iff_exists.1 (own_room6 h (j := k * 6 + 2) (by omega))
  obtain ⟨y2, h2⟩ := Option.isSome_iff_exists.1 (own_room6 h (j := k * 6 + 3) (by omega))
  obtain ⟨y3, h3⟩ := Option.isSome_iff_exists.1 (own_room6 h (j := k * 6 + 4) (by omega))
  obtain ⟨y4, h4⟩ := Option.isSome_iff_exists.1 (own_room6 h (j := k * 6 + 5) (by omega))
  exact ⟨y0, y1, y2, y3, y4, h0, h1, h2, h3, h4⟩
set_option maxRecDepth 100000 in
set_option maxHeartbeats 4000000 in
set_option maxRecDepth 100000 in
theorem vchange_any {F : Nat → Prop} {w : World} {cs : List Value} {v : Vw} (hF : ∀ b, F b → b < w.heap.size) (h : ViewOn F w cs v) (hw : Whole v.lv v.dir) (hn : v.l.length ≤ 1000) (hs : (v.l.map (·.name)).Pairwise (fun a b => a < b)) (name : List UInt8) (hk : keyOk name) {p : Nat} {bk : Bkt} (hpos : posK name (v.l.map (·.name)) = p) (hbk : v.l[p]? = some bk) (hname : bk.name = name) (hwb : Whole bk.lv bk.tree)
    {key d : List UInt8} (hkey : keyOk key) (hd9 : d.length ≤ 400) {kb db : Nat} (hkb : Boxes w [(kb, [.string (strOf key)])]) (hdb : Boxes w [(db, [.string (strOf d)])]) :
    Calls Tryz.prog 79 #[.agg cs.toArray, .string (strOf name), .func (.func 80) #[] #[.pointer (some ⟨kb, 0, none⟩), .pointer (some ⟨db, 0, none⟩)]] w fun e w' => ∃ cs' v' M, e = .returned (.tuple #[.agg cs'.toArray, .int .i64 0]) ∧ ViewOn (Fr F w) w' cs' v' ∧ v'.lv ≤ v.lv + 1 ∧ v'.dir = putW v.lv v.dir name ⟨[0, 0], []⟩ ∧ Whole v'.lv v'.dir ∧
      M ≤ bk.lv + 1 ∧ Whole M (putW bk.lv bk.tree key ⟨d, []⟩) ∧ entsT M (putW bk.lv bk.tree key ⟨d, []⟩) = putL key ⟨d, []⟩ (entsT bk.lv bk.tree) ∧ v'.l = v.l.set p ⟨name, M, putW bk.lv bk.tree key ⟨d, []⟩⟩ ∧ Below w.heap.size w w' := by
  obtain ⟨a1, c1, a2, n2, c2, a3, n3, c3, a, c, rfl, hd, hl, hfa⟩ := h.raw
  obtain ⟨pg, hpg⟩ : ∃ z, v.dir.page = z := ⟨_, rfl⟩
  obtain ⟨lf, hlf⟩ : ∃ z, v.dir.isLeaf = z := ⟨_, rfl⟩
  obtain ⟨cn, hcn⟩ : ∃ z, cntT v.dir = z := ⟨_, rfl⟩
  obtain ⟨m, hm⟩ : ∃ z, v.l.length = z := ⟨_, rfl⟩
  rw [hm] at hn hl hfa
  rw [hpg, hlf, hcn] at hd
  rw [hpg, hlf, hcn, hm]
  have hpm : p < m := by rw [← hm]; exact (List.getElem?_eq_some_iff.1 hbk).1
  have hhas : hasK name (v.l.map (·.name)) = true := by
    unfold hasK
    rw [hpos, List.getElem?_map, hbk]
    simp [hname]
  obtain ⟨T, hT⟩ : ∃ z, putW bk.lv bk.tree key ⟨d, []⟩ = z := ⟨_, rfl⟩
  rw [hT]
  obtain ⟨W1, hW1⟩ : ∃ x, w.alloc (.cells #[.int .i64 pg, .bool lf, .slice a1 cn c1, .slice a2 n2 c2, .slice a3 n3 c3, .slice a m c] 75) = x := ⟨_, rfl⟩
  obtain ⟨W2, hW2⟩ : ∃ x, W1.alloc (.cells #[.int .i64 0, .bool false, .slice none 0 0, .slice none 0 0, .slice none 0 0, .slice none 0 0] 75) = x := ⟨_, rfl⟩
  have hs1 : W1.heap.size = w.heap.size + 1 := by rw [← hW1, World.size_alloc]
  have hb2 : Below w.heap.size w W2 := by rw [← hW2, ← hW1]; exact Below.al (Below.al (Below.refl _ _))
  have hx2 : Boxes W2 [(w.heap.size + 1, [.int .i64 0, .bool false, .slice none 0 0, .slice none 0 0, .slice none 0 0, .slice none 0 0]), (w.heap.size, [.int .i64 pg, .bool lf, .slice a1 cn c1, .slice a2 n2 c2, .slice a3 n3 c3, .slice a m c])] := by
    rw [← hW2, ← hs1]
    refine Boxes.alloc ?_ #[.int .i64 0, .bool false, .slice none 0 0, .slice none 0 0, .slice none 0 0, .slice none 0 0] 75 rfl
    rw [← hW1]
    exact (Boxes.nil w).alloc #[.int .i64 pg, .bool lf, .slice a1 cn c1, .slice a2 n2 c2, .slice a3 n3 c3, .slice a m c] 75 (b := w.heap.size) rfl
  have C1 := vfind_any (tab_names (TabR.move hl hb2 (fun cs y _ h => h.agree (.of_below hb2)))) (by omega) hs (.int .i64 pg) (.bool lf) (.slice a1 cn c1) (.slice a2 n2 c2) (.slice a3 n3 c3) name
  rw [hpos, hhas] at C1
  have g0 := hx2.cell 1 0 rfl rfl
  have g1 := hx2.cell 1 1 rfl rfl
  have g2 := hx2.cell 1 2 rfl rfl
  have g3 := hx2.cell 1 3 rfl rfl
  have g4 := hx2.cell 1 4 rfl rfl
  have g5 := hx2.cell 1 5 rfl rfl
  have HX2 := Lib.hid hx2
  have HB2 := Lib.hid hb2
  clear hx2 hb2
  go_enter Tryz.func79, Tryz.ntmps79
  go_wp2_with fail
  refine C1.mono ?_
  rintro e w3 ⟨rfl, hb3⟩
  have HX3 := Lib.hid (HX2.out.step hb3)
  have HB3 := Lib.hid (below_via HB2.out hb3)
  clear hb3 C1 g0 g1 g2 g3 g4 g5
  have g5 := HX3.out.cell 1 5 rfl rfl
  have hl3 := TabR.move hl HB3.out (fun cs y _ h => h.agree (.of_below HB3.out))
  obtain ⟨qb, off, y, ycs, rfl, hqb, hy, _, ⟨ts, rfl, hn3'⟩, hcell⟩ := TabR.at hl3 hpm
  rw [hbk] at hy
  cases hy
  obtain ⟨x1, k1, x2, l2, k2, x3, l3, k3, V, C, e1, _⟩ := hn3'.open_pos
  subst e1
  have hF3 : ∀ b, F b → b < w3.heap.size := fun b hb => Nat.lt_of_lt_of_le (hF b hb) HB3.out.size
  have CP1 := vput1_any hF3 hn3' hwb hkey hd9 (hkb.step HB3.out) (hdb.step HB3.out)
  obtain ⟨tp, htp⟩ : ∃ z, bk.tree.page = z := ⟨_, rfl⟩
  obtain ⟨tf, htf⟩ : ∃ z, bk.tree.isLeaf = z := ⟨_, rfl⟩
  obtain ⟨tc, htc⟩ : ∃ z, cntT bk.tree = z := ⟨_, rfl⟩
  have c1' := hcell 1 _ rfl
  have c2' := hcell 2 _ rfl
  have c3' := hcell 3 _ rfl
  have c4' := hcell 4 _ rfl
  have c5' := hcell 5 _ rfl
  rw [htp, htf, htc] at CP1
  rw [htp] at c1'
  rw [htf] at c2'
  rw [htc] at c3'
  have d0 : decide ((p : Int) < (m : Int)) = true := by simp; omega
  have d1 : decide ((0 : Int) ≤ (p : Int)) = true := by simp
  rw [hT] at CP1
  have HL3 := Lib.hid hl3
  have HD := Lib.hid hd
  have HFA := Lib.hid hfa
  have HNAME := Lib.hid hname
  have HBK := Lib.hid hbk
  clear hcell hn3' hl3 hkb hdb hname hbk hT htp htf htc hd hfa hhas hpos h hl hW1 hW2 hs1
  go_wp2_with fail
  refine CP1.mono ?_
  rintro e w4 ⟨M, cs4, hM4, rfl, hn4, hw4, hE4, hb4⟩
  obtain ⟨j1, j2, j3, j4, j5, j6, j7, j8, Vj, Cj, ecs4, _⟩ := hn4.open_pos
  subst ecs4
  obtain ⟨tp, htp⟩ : ∃ z, T.page = z := ⟨_, rfl⟩
  obtain ⟨tf, htf⟩ : ∃ z, T.isLeaf = z := ⟨_, rfl⟩
  obtain ⟨tc, htc⟩ : ∃ z, cntT T = z := ⟨_, rfl⟩
  rw [htp, htf, htc] at hn4 ⊢
  have HTT := Lib.hid (And.intro htp (And.intro htf htc))
  clear CP1 c1' c2' c3' c4' c5' g5 htp htf htc
  obtain ⟨W5, hW5⟩ : ∃ x, x = w4.alloc (.cells #[.int .i64 tp, .bool tf, .slice j1 tc j2, .slice j3 j4 j5, .slice j6 j7 j8] 50) := ⟨_, rfl⟩
  have hb45 : Below w4.heap.size w4 W5 := by rw [hW5]; exact Below.al (Below.refl _ _)
  have hx5 : Boxes W5 [(w4.heap.size, [.int .i64 tp, .bool tf, .slice j1 tc j2, .slice j3 j4 j5, .slice j6 j7 j8]), (w.heap.size + 1, [.int .i64 0, .bool false, .slice none 0 0, .slice none 0 0, .slice none 0 0, .slice none 0 0]), (w.heap.size, [.int .i64 pg, .bool lf, .slice a1 cn c1, .slice a2 n2 c2, .slice a3 n3 c3, .slice (some ⟨qb, off, none⟩) m c])] := by
    rw [hW5]
    exact (HX3.out.step hb4).alloc #[.int .i64 tp, .bool tf, .slice j1 tc j2, .slice j3 j4 j5, .slice j6 j7 j8] 50 (b := w4.heap.size) rfl
  have hb35 := below_via hb4 hb45
  have hl5 := TabR.move HL3.out hb35 (fun cs y _ h => h.agree (.of_below hb35))
  obtain ⟨L, hraw, htl⟩ := TabR.raw hl5 BkOn.one
  have hLm : L.length = m := hraw.1
  have C3 := clone_b hraw (by omega)
  have g5 := hx5.cell 2 5 rfl rfl
  have HX5 := Lib.hid hx5
  have HB5 := Lib.hid (below_via HB3.out hb35)
  have HB45 := Lib.hid hb45
  have HB4 := Lib.hid hb4
  have HTL := Lib.hid htl
  have HN4 := Lib.hid hn4
  have HW4 := Lib.hid hw4
  have HE4 := Lib.hid hE4
  have HM4 := Lib.hid hM4
  clear hx5 hb45 hb4 hl5 hraw htl hn4 hw4 hE4 hM4 hb35
  rw [hW5] at C3 g5
  go_wp2_with fail
  refine C3.mono ?_
  rintro e w6 ⟨v6, rfl, ho6, hb6⟩
  rw [← hW5] at ho6 hb6
  rw [hLm] at ho6
  obtain ⟨a6, c6, rfl, hmc, hc9, hga⟩ := own_slice ho6
  obtain ⟨g, rfl⟩ := hga (by omega)
  unfold maxLen at hc9
  obtain ⟨i0, i1, i2, i3, i4, y0, y1, y2, y3, y4⟩ := own_last5 ho6 hmc hpm
  have r0 := ho6.frozenAt (p * 6 + 1)
  have r1 := ho6.frozenAt (p * 6 + 2)
  have r2 := ho6.frozenAt (p * 6 + 3)
  have r3 := ho6.frozenAt (p * 6 + 4)
  have r4 := ho6.frozenAt (p * 6 + 5)
  have hx6 := HX5.out.step hb6
  have n0 := hx6.cell 0 0 rfl rfl
  have n1 := hx6.cell 0 1 rfl rfl
  have n2 := hx6.cell 0 2 rfl rfl
  have n3 := hx6.cell 0 3 rfl rfl
  have n4 := hx6.cell 0 4 rfl rfl
  have hg5 : W5.heap.size ≤ g := own_ge ho6 g rfl
  obtain ⟨xL, hxL⟩ : ∃ x, L[p]? = some x := ⟨_, List.getElem?_eq_getElem (by omega)⟩
  obtain ⟨ts9, hts9, _⟩ := HTL.out.2 p xL bk hxL HBK.out
  obtain ⟨nC, hnC⟩ : ∃ y : Cl 6, y.1 = [.string (strOf name), .int .i64 tp, .bool tf, .slice j1 tc j2, .slice j3 j4 j5, .slice j6 j7 j8] := ⟨⟨[.string (strOf name), .int .i64 tp, .bool tf, .slice j1 tc j2, .slice j3 j4 j5, .slice j6 j7 j8], rfl, by intro u hu; simp at hu; rcases hu with rfl | rfl | rfl | rfl | rfl | rfl <;> rfl⟩, rfl⟩
  have ho7 := own_set6 ho6 hLm hpm hxL hts9 nC (by rw [HNAME.out]; exact hnC)
  obtain ⟨w7, hw7⟩ : ∃ x, x = ((((w6.setCell ⟨g, p * 6 + 1, none⟩ (.int .i64 tp)).setCell ⟨g, p * 6 + 2, none⟩ (.bool tf)).setCell ⟨g, p * 6 + 3, none⟩ (.slice j1 tc j2)).setCell ⟨g, p * 6 + 4, none⟩ (.slice j3 j4 j5)).setCell ⟨g, p * 6 + 5, none⟩ (.slice j6 j7 j8) := ⟨_, rfl⟩
  rw [← hw7] at ho7
  have hb57 : Below W5.heap.size W5 w7 := by
    rw [hw7]
    exact ((((hb6.setCell (p := ⟨g, p * 6 + 1, none⟩) hg5 _).setCell (p := ⟨g, p * 6 + 2, none⟩) hg5 _).setCell (p := ⟨g, p * 6 + 3, none⟩) hg5 _).setCell (p := ⟨g, p * 6 + 4, none⟩) hg5 _).setCell (p := ⟨g, p * 6 + 5, none⟩) hg5 _
  have HX7 := Lib.hid (HX5.out.step hb57)
  have HO7 := Lib.hid ho7
  have HB57 := Lib.hid hb57
  have HXL := Lib.hid hxL
  have HNC := Lib.hid hnC
  have HG := Lib.hid hg5
  clear ho6 hb6 hx6 hts9 ho7 hb57 hxL hnC hg5 C3 g5
  go_upto_region 9 with (fail)
  rw [← hw7]
  clear hw7 hW5 y0 y1 y2 y3 y4 r0 r1 r2 r3 r4 n0 n1 n2 n3 n4
  have hbw7 : Below w.heap.size w w7 := below_via HB5.out HB57.out
  have hd7 := HD.out.below hbw7
  have CP : ∀ W, Below w7.heap.size w7 W → Calls Tryz.prog 75 #[.agg #[.int .i64 pg, .bool lf, .slice a1 cn c1, .slice a2 n2 c2, .slice a3 n3 c3], .string (strOf name), .string (strOf [0, 0])] W (PutTo F v.lv W v.dir name ⟨[0, 0], []⟩) := fun W hW => tPut_whole (hd7.below hW) hw name [0, 0] hk (by simp)
  have t0 : ∀ W, AgreeF (fun x => x ≠ w.heap.size + 1) w7 W → W.cell? ⟨w.heap.size, 0, none⟩ = some (.int .i64 pg) := fun W hW => (hW.cell (by omega) (HX7.out.lt 2 rfl)).trans (HX7.out.cell 2 0 rfl rfl)
  have t1 : ∀ W, AgreeF (fun x => x ≠ w.heap.size + 1) w7 W → W.cell? ⟨w.heap.size, 1, none⟩ = some (.bool lf) := fun W hW => (hW.cell (by omega) (HX7.out.lt 2 rfl)).trans (HX7.out.cell 2 1 rfl rfl)
  have t2 : ∀ W, AgreeF (fun x => x ≠ w.heap.size + 1) w7 W → W.cell? ⟨w.heap.size, 2, none⟩ = some (.slice a1 cn c1) := fun W hW => (hW.cell (by omega) (HX7.out.lt 2 rfl)).trans (HX7.out.cell 2 2 rfl rfl)
  have t3 : ∀ W, AgreeF (fun x => x ≠ w.heap.size + 1) w7 W → W.cell? ⟨w.heap.size, 3, none⟩ = some (.slice a2 n2 c2) := fun W hW => (hW.cell (by omega) (HX7.out.lt 2 rfl)).trans (HX7.out.cell 2 3 rfl rfl)
  have t4 : ∀ W, AgreeF (fun x => x ≠ w.heap.size + 1) w7 W → W.cell? ⟨w.heap.size, 4, none⟩ = some (.slice a3 n3 c3) := fun W hW => (hW.cell (by omega) (HX7.out.lt 2 rfl)).trans (HX7.out.cell 2 4 rfl rfl)
  obtain ⟨tw1, tw2, tw3⟩ := HTT.out
  have hlen : (v.l.set p (⟨name, M, T⟩ : Bkt)).length = m := by rw [List.length_set, ← hLm]; exact HTL.out.1.symm
  have HTAB : Hid (∀ wz, AgreeF (fun x => x ≠ w.heap.size + 1) w7 wz → TabR 6 (BkOn (Fr F w) wz) wz (some ⟨g, 0, none⟩) m c6 (v.l.set p ⟨name, M, T⟩) ∧ Fa (Fr F w) (some ⟨g, 0, none⟩) m) := Lib.hid (fun wz hz => by
    have hw3 := HX3.out.lt 0 rfl
    have hs34 := HB4.out.size
    have hs45 := HB45.out.size
    have hgg := HG.out
    have h57 : AgreeF F W5 wz := (AgreeF.of_below HB57.out (F := F)).trans ⟨hz.1, fun b hb hlt => hz.2 b (by have := hF b hb; omega) hlt⟩
    have h47 : AgreeF (Fr F w3) w4 wz := (AgreeF.of_below (below_via HB45.out HB57.out) (F := Fr F w3)).trans ⟨hz.1, fun b hb hlt => hz.2 b (by rcases hb with hb | hb; have := hF b hb; omega; omega) hlt⟩
    obtain ⟨a9, c9, e9, hr7⟩ := Raw.of_own HO7.out (by rw [List.length_set]; exact hLm)
    cases e9
    have htab : TabR 6 (BkOn (Fr F w) wz) w7 (some ⟨g, 0, none⟩) m c6 (v.l.set p ⟨name, M, T⟩) := Raw.tab hr7 (tells_set (R := BkOn (Fr F w) wz) (by
      refine ⟨HTL.out.1, fun i x y hx hy => ?_⟩
      exact ((HTL.out.2 i x y hx hy).agree h57).mono (fun b hb => .inl hb)) ⟨_, HNC.out, NodeOn.mono (fun b hb => by rcases hb with hb | hb; exact .inl hb; exact .inr (by omega)) (HN4.out.agree h47)⟩)
    refine ⟨TabR.agree htab (F := fun x => x ≠ w.heap.size + 1) (.inr (fun b off e => by cases e; omega)) hz (fun cs y _ h => h), .inr (fun b off e => by cases e; exact .inr (by omega))⟩)
  have hA0 : AgreeF (fun x => x ≠ w.heap.size + 1) w7 w7.drew := AgreeF.dr (AgreeF.refl _)
  refine wp_region_noPanic ?_
  refine wp_region_held_drew (S := (fun W => AgreeF (fun x => x ≠ w.heap.size + 1) w7 W)) (by kernel_rfl) (by (repeat (with_reducible first | assumption | exact AgreeF.refl _ | apply AgreeF.al | apply AgreeF.dr | apply AgreeF.st))) (fun hHeld => ?_)
  refine wpAnyH_take (i := 0) (oi := { dst := some 45, op := Op.fieldAddr 75 (Operand.tmp 3) 0, type := 0, pos := "view.go:109", after := #[], guard := none }) (v := ?_) rfl (by kernel_rfl) (by kernel_rfl) (by kernel_rfl) (fun _ _ _ h => h) (Or.inl ⟨by rfl, ?_⟩) (by assumption) ?_
  rotate_left
  · (intro W hW; (try dsimp only at hW); go_simp <;> (with_reducible rfl))
  try simp only [Act.put, List.setIfInBounds_toArray, List.set_cons_zero, List.set_cons_succ]
  refine wpAnyH_take (i := 1) (oi := { dst := some 46, op := Op.load 50 (Operand.tmp 45), type := 50, pos := "view.go:109", after := #[{ on := 0, ground := Ground.data }], guard := none }) (v := ?_) rfl (by kernel_rfl) (by kernel_rfl) (by kernel_rfl) (fun _ _ _ h => h) (Or.inl ⟨by rfl, ?_⟩) (by assumption) ?_
  rotate_left
  · (intro W hW; (try dsimp only at hW); go_simp <;> (with_reducible rfl))
  try simp only [Act.put, List.setIfInBounds_toArray, List.set_cons_zero, List.set_cons_succ]
  refine wpAnyH_take (i := 2) (oi := { dst := some 47, op := Op.move (Operand.tmp 1), type := 9, pos := "view.go:109", after := #[], guard := none }) (v := ?_) rfl (by kernel_rfl) (by kernel_rfl) (by kernel_rfl) (fun _ _ _ h => h) (Or.inl ⟨by rfl, ?_⟩) (by assumption) ?_
  rotate_left
  · (intro W hW; (try dsimp only at hW); go_simp <;> (with_reducible rfl))
  try simp only [Act.put, List.setIfInBounds_toArray, List.set_cons_zero, List.set_cons_succ]
  refine wpAnyH_take (i := 5) (oi := { dst := some 50, op := Op.move (Operand.tmp 12), type := 73, pos := "view.go:109", after := #[], guard := none }) (v := ?_) rfl (by kernel_rfl) (by kernel_rfl) (by kernel_rfl) (fun _ _ _ h => h) (Or.inl ⟨by rfl, ?_⟩) (by assumption) ?_
  rotate_left
  · (intro W hW; (try dsimp only at hW); go_simp <;> (with_reducible rfl))
  try simp only [Act.put, List.setIfInBounds_toArray, List.set_cons_zero, List.set_cons_succ]
  refine wpAnyH_ready (rs := [3]) (by kernel_rfl) (by simp) (AllReadyH.cons (o := { dst := some 48, op := Op.call { callee := Callee.value (Operand.func 76), args := #[], argTypes := #[] }, type := 9, pos := "view.go:109", after := #[], guard := none }) rfl (fun K hK => ?_) AllReadyH.nil)
  (rw [if_pos (by rfl)]; go_wp2_with (go_at_call 76; refine (nowhere_any _).mono ?_; rintro e w8 ⟨rfl, hb8⟩; have hB8 : Below w7.heap.size w7 w8 := below_via (by (repeat (with_reducible first | assumption | exact Below.refl _ _ | apply Below.al | apply Below.dr))) hb8; have hA8 : AgreeF (fun x => x ≠ w.heap.size + 1) w7 w8 := AgreeF.of_below hB8))
  refine hK.out _ _ (by (repeat (with_reducible first | assumption | exact AgreeF.refl _ | apply AgreeF.al | apply AgreeF.dr | apply AgreeF.st))) (fun hHeld => ?_)
  clear hK K
  try simp only [Act.put, List.setIfInBounds_toArray, List.set_cons_zero, List.set_cons_succ]
  refine wpAnyH_ready (rs := [4]) (by kernel_rfl) (by simp) (AllReadyH.cons (o := { dst := some 49, op := Op.call { callee := Callee.value (Operand.func 75), args := #[Operand.tmp 46, Operand.tmp 47, Operand.tmp 48], argTypes := #[50, 9, 9] }, type := 50, pos := "view.go:109", after := #[{ on := 1, ground := Ground.data }, { on := 2, ground := Ground.data }, { on := 3, ground := Ground.data }, { on := 3, ground := Ground.chain }], guard := none }) rfl (fun K hK => ?_) AllReadyH.nil)
  (rw [if_pos (by rfl)]; go_wp2_with (go_at_call 75; (with_reducible refine (CP _ ?_).mono ?_); (focus (repeat (with_reducible first | assumption | exact Below.refl _ _ | apply Below.al | apply Below.dr))); rintro e w9 hq9; obtain ⟨M9, cs9, hM9, rfl, hn9, hw9, hE9, hb9⟩ := hq9; obtain ⟨b1, b2, b3, b4, b5, b6, b7, b8, Vb, Cb, ecs9, _⟩ := hn9.open_pos; subst ecs9; have hB9 : Below w7.heap.size w7 w9 := below_via (by (repeat (with_reducible first | assumption | exact Below.refl _ _ | apply Below.al | apply Below.dr))) hb9; have hA9 : AgreeF (fun x => x ≠ w.heap.size + 1) w7 w9 := AgreeF.of_below hB9; have hx9 := HX7.out.step hB9; have z0 := hx9.cell 1 0 rfl rfl; have u0 := hx9.frozen 1 0 rfl; have z1 := hx9.cell 1 1 rfl rfl; have u1 := hx9.frozen 1 1 rfl; have z2 := hx9.cell 1 2 rfl rfl; have u2 := hx9.frozen 1 2 rfl; have z3 := hx9.cell 1 3 rfl rfl; have u3 := hx9.frozen 1 3 rfl; have z4 := hx9.cell 1 4 rfl rfl; have u4 := hx9.frozen 1 4 rfl; have z5 := hx9.cell 1 5 rfl rfl; have u5 := hx9.frozen 1 5 rfl))
  refine hK.out _ _ (by (repeat (with_reducible first | assumption | exact AgreeF.refl _ | apply AgreeF.al | apply AgreeF.dr | apply AgreeF.st))) (fun hHeld => ?_)
  clear hK K
  try simp only [Act.put, List.setIfInBounds_toArray, List.set_cons_zero, List.set_cons_succ]
  refine wpAnyH_take (i := 6) (oi := { dst := some 51, op := Op.build 75 #[(0, Operand.tmp 49), (1, Operand.tmp 50)], type := 75, pos := "view.go:109", after := #[{ on := 4, ground := Ground.data }, { on := 5, ground := Ground.data }], guard := none }) (v := ?_) rfl (by kernel_rfl) (by kernel_rfl) (by kernel_rfl) (fun _ _ _ h => h) (Or.inl ⟨by rfl, ?_⟩) (by assumption) ?_
  rotate_left
  · (intro W hW; (try dsimp only at hW); go_simp <;> (with_reducible rfl))
  try simp only [Act.put, List.setIfInBounds_toArray, List.set_cons_zero, List.set_cons_succ]
  refine wpAnyH_ready (rs := [7]) (by kernel_rfl) (by simp) (AllReadyH.cons (o := { dst := none, op := Op.store 75 (Operand.tmp 6) (Operand.tmp 51), type := 0, pos := "view.go:109", after := #[{ on := 6, ground := Ground.data }, { on := 4, ground := Ground.chain }, { on := 0, ground := Ground.phase }, { on := 1, ground := Ground.phase }, { on := 2, ground := Ground.phase }, { on := 3, ground := Ground.phase }, { on := 4, ground := Ground.phase }, { on := 5, ground := Ground.phase }, { on := 6, ground := Ground.phase }], guard := none }) rfl (fun K hK => ?_) AllReadyH.nil)
  (rw [if_pos (by rfl)]; go_wp2_with (fail))
  refine hK.out _ _ (by (repeat (with_reducible first | assumption | exact AgreeF.refl _ | apply AgreeF.al | apply AgreeF.dr | apply AgreeF.st))) (fun hHeld => ?_)
  clear hK K
  try simp only [Act.put, List.setIfInBounds_toArray, List.set_cons_zero, List.set_cons_succ]
  refine wpAnyH_take (i := 8) (oi := { dst := some 7, op := Op.assign (Operand.const (Value.int IntKind.i64 0)), type := 32, pos := "view.go:109", after := #[{ on := 7, ground := Ground.chain }, { on := 0, ground := Ground.phase }, { on := 1, ground := Ground.phase }, { on := 2, ground := Ground.phase }, { on := 3, ground := Ground.phase }, { on := 4, ground := Ground.phase }, { on := 5, ground := Ground.phase }, { on := 6, ground := Ground.phase }, { on := 7, ground := Ground.phase }], guard := none }) (v := ?_) rfl (by kernel_rfl) (by kernel_rfl) (by kernel_rfl) (fun _ _ _ h => h) (Or.inl ⟨by rfl, ?_⟩) (by assumption) ?_
  rotate_left
  · (intro W hW; (try dsimp only at hW); go_simp <;> (with_reducible rfl))
  try simp only [Act.put, List.setIfInBounds_toArray, List.set_cons_zero, List.set_cons_succ]
  refine wpAnyH_done (by kernel_rfl) ?_ _
  refine NoPanic.normal ?_
  obtain ⟨q1, q2⟩ := HTAB.out _ hHeld
  have hnf : ¬ Fr F w8 (w.heap.size + 1) := by
    intro hb
    have y1 := hB8.size
    have y2 := HX7.out.lt 1 rfl
    rcases hb with hb | hb
    · have := hF _ hb
      omega
    · omega
  have HB9 := Lib.hid (below_via hbw7 hB9)
  have HW8 := Lib.hid (Nat.le_trans hbw7.size hB8.size)
  have HQ1 := Lib.hid q1
  have HQ2 := Lib.hid q2
  have HN9 := Lib.hid hn9
  have HW9 := Lib.hid hw9
  have HLEN := Lib.hid hlen
  clear q1 q2 hn9 hw9 hHeld hA9 hB9 hx9 hE9 tw1 tw2 tw3 hlen
  go_wp2_with fail
  have HM9 := Lib.hid hM9
  generalize putW v.lv v.dir name ⟨[0, 0], []⟩ = PT at *
  refine bodyPost_ret (v := .tuple #[.agg #[.int .i64 PT.page, .bool PT.isLeaf, .slice b1 (cntT PT) b2, .slice b3 b4 b5, .slice b6 b7 b8, .slice (some ⟨g, 0, none⟩) m c6], .int .i64 0]) (by simp [results, Tryz.results79, go_sem, z0, z1, z2, z3, z4, z5]) rfl ?_
  refine ⟨[.int .i64 PT.page, .bool PT.isLeaf, .slice b1 (cntT PT) b2, .slice b3 b4 b5, .slice b6 b7 b8, .slice (some ⟨g, 0, none⟩) m c6], ⟨M9, PT, v.l.set p (⟨name, M, T⟩ : Bkt)⟩, M, rfl, ⟨[.int .i64 PT.page, .bool PT.isLeaf, .slice b1 (cntT PT) b2, .slice b3 b4 b5, .slice b6 b7 b8], some ⟨g, 0, none⟩, c6, ?vw, ?nd, ?tb, ?fa⟩, HM9.out, rfl, HW9.out, HM4.out, HW4.out, HE4.out, rfl, ?be⟩
  case vw => show _ = _ ++ [Value.slice (some ⟨g, 0, none⟩) (v.l.set p (⟨name, M, T⟩ : Bkt)).length c6]; rw [HLEN.out]; rfl
  case nd => exact NodeOn.mono (fun b hb => by rcases hb with hb | hb; exact .inl hb; exact .inr (Nat.le_trans HW8.out hb)) (HN9.out.agree ((((((AgreeF.refl w9).set (.inl hnf)).set (.inl hnf)).set (.inl hnf)).set (.inl hnf)).set (.inl hnf) |>.set (.inl hnf)))
  case tb => show TabR 6 _ _ (some ⟨g, 0, none⟩) (v.l.set p (⟨name, M, T⟩ : Bkt)).length c6 _; rw [HLEN.out]; exact HQ1.out
  case fa => show Fa _ (some ⟨g, 0, none⟩) (v.l.set p (⟨name, M, T⟩ : Bkt)).length; rw [HLEN.out]; exact HQ2.out
  case be => exact ((((((HB9.out.setCell (Nat.le_succ _) _).setCell (Nat.le_succ _) _).setCell (Nat.le_succ _) _).setCell (Nat.le_succ _) _).setCell (Nat.le_succ _) _).setCell (Nat.le_succ _) _)
end Go.Proofs.YtpghlmcoajaiiaaGreatDoor

/- Views: view.Put. -/
namespace Go.Proofs.YtpghlmcoajaiiaaGreatDoor
open Go.RowKit

theorem keyB1_ok {k : List UInt8} (h : keyOk k) : keyB1 k = true := by
  unfold keyB1
  obtain ⟨k1, k2⟩ := h
  rw [decide_eq_true k1, decide_eq_true k2]; rfl
theorem keyB1_out {k : List UInt8} (h : keyB1 k = true) : keyOk k := by
  unfold keyB1 at h
  simp at h
  exact ⟨h.1, h.2⟩
/-- What a put into a bucket that is there leaves. -/
def VPutTo (F : Nat → Prop) (w : World) (v : Vw) (p : Nat) (bk : Bkt) (name key d : List UInt8) (e : Ending) (w' : World) : Prop :=
  ∃ cs' v' M, e = .returned (.tuple #[.agg cs'.toArray, .int .i64 0]) ∧ ViewOn (Fr F w) w' cs' v' ∧ v'.lv ≤ v.lv + 1 ∧ v'.dir = putW v.lv v.dir name ⟨[0, 0], []⟩ ∧ Whole v'.lv v'.dir ∧
      M ≤ bk.lv + 1 ∧ Whole M (putW bk.lv bk.tree key ⟨d, []⟩) ∧ entsT M (putW bk.lv bk.tree key ⟨d, []⟩) = putL key ⟨d, []⟩ (entsT bk.lv bk.tree) ∧ v'.l = v.l.set p ⟨name, M, putW bk.lv bk.tree key ⟨d, []⟩⟩ ∧ Below w.heap.size w w'
set_option maxRecDepth 100000 in
set_option maxHeartbeats 4000000 in
set_option maxRecDepth 100000 in
theorem vput_any {F : Nat → Prop} {w : World} {cs : List Value} {v : Vw} (hF : ∀ b, F b → b < w.heap.size) (h : ViewOn F w cs v) (hw : Whole v.lv v.dir) (hn : v.l.length ≤ 1000) (hs : (v.l.map (·.name)).Pairwise (fun a b => a < b)) (name : List UInt8) (hk : keyOk name) {p : Nat} {bk : Bkt} (hpos : posK name (v.l.map (·.name)) = p) (hbk : v.l[p]? = some bk) (hname : bk.name = name) (hwb : Whole bk.lv bk.tree)
    {key d : List UInt8} (hkey : keyOk key) (hd9 : d.length ≤ 400) :
    Calls Tryz.prog 34 #[.agg cs.toArray, .string (strOf name), .string (strOf key), .string (strOf d)] w (VPutTo F w v p bk name key d) := by
  obtain ⟨a1, c1, a2, n2, c2, a3, n3, c3, a, c, rfl, hd, hl, hfa⟩ := h.raw
  obtain ⟨pg, hpg⟩ : ∃ z, v.dir.page = z := ⟨_, rfl⟩
  obtain ⟨lf, hlf⟩ : ∃ z, v.dir.isLeaf = z := ⟨_, rfl⟩
  obtain ⟨cn, hcn⟩ : ∃ z, cntT v.dir = z := ⟨_, rfl⟩
  obtain ⟨m, hm⟩ : ∃ z, v.l.length = z := ⟨_, rfl⟩
  rw [hpg, hlf, hcn, hm] at h ⊢
  obtain ⟨W1, hW1⟩ : ∃ x, w.alloc (.cells #[.int .i64 pg, .bool lf, .slice a1 cn c1, .slice a2 n2 c2, .slice a3 n3 c3, .slice a m c] 75) = x := ⟨_, rfl⟩
  obtain ⟨W2, hW2⟩ : ∃ x, W1.alloc (.cells #[.string (strOf key)] 9) = x := ⟨_, rfl⟩
  obtain ⟨W3, hW3⟩ : ∃ x, W2.alloc (.cells #[.string (strOf d)] 9) = x := ⟨_, rfl⟩
  obtain ⟨W4, hW4⟩ : ∃ x, W3.alloc (.cells #[.int .i64 0, .bool false, .slice none 0 0, .slice none 0 0, .slice none 0 0, .slice none 0 0] 75) = x := ⟨_, rfl⟩
  have hs1 : W1.heap.size = w.heap.size + 1 := by rw [← hW1, World.size_alloc]
  have hs2 : W2.heap.size = w.heap.size + 2 := by rw [← hW2, World.size_alloc, hs1]
  have hs3 : W3.heap.size = w.heap.size + 3 := by rw [← hW3, World.size_alloc, hs2]
  have hb4 : Below w.heap.size w W4 := by rw [← hW4, ← hW3, ← hW2, ← hW1]; exact Below.al (Below.al (Below.al (Below.al (Below.refl _ _))))
  have hx4 : Boxes W4 [(w.heap.size + 3, [.int .i64 0, .bool false, .slice none 0 0, .slice none 0 0, .slice none 0 0, .slice none 0 0]), (w.heap.size + 2, [.string (strOf d)]), (w.heap.size + 1, [.string (strOf key)]), (w.heap.size, [.int .i64 pg, .bool lf, .slice a1 cn c1, .slice a2 n2 c2, .slice a3 n3 c3, .slice a m c])] := by
    rw [← hW4, ← hs3]
    refine Boxes.alloc ?_ #[.int .i64 0, .bool false, .slice none 0 0, .slice none 0 0, .slice none 0 0, .slice none 0 0] 75 rfl
    rw [← hW3, ← hs2]
    refine Boxes.alloc ?_ #[.string (strOf d)] 9 rfl
    rw [← hW2, ← hs1]
    refine Boxes.alloc ?_ #[.string (strOf key)] 9 rfl
    rw [← hW1]
    exact (Boxes.nil w).alloc #[.int .i64 pg, .bool lf, .slice a1 cn c1, .slice a2 n2 c2, .slice a3 n3 c3, .slice a m c] 75 (b := w.heap.size) rfl
  have hF4 : ∀ b, F b → b < W4.heap.size := fun b hb => Nat.lt_of_lt_of_le (hF b hb) hb4.size
  have hk4 : Boxes W4 [(w.heap.size + 1, [.string (strOf key)])] := hx4.sub (by intro q hq; simp at hq; subst hq; simp)
  have hd4 : Boxes W4 [(w.heap.size + 2, [.string (strOf d)])] := hx4.sub (by intro q hq; simp at hq; subst hq; simp)
  have CC := vchange_any hF4 (h.below hb4) hw hn hs name hk hpos hbk hname hwb hkey hd9 hk4 hd4
  have CK := vkey_any key W4
  rw [keyB1_ok hkey] at CK
  have hds := strOf_size d
  obtain ⟨dn, hdn⟩ : ∃ z, d.length = z := ⟨_, rfl⟩
  have g0 := hx4.cell 3 0 rfl rfl
  have g1 := hx4.cell 3 1 rfl rfl
  have g2 := hx4.cell 3 2 rfl rfl
  have g3 := hx4.cell 3 3 rfl rfl
  have g4 := hx4.cell 3 4 rfl rfl
  have g5 := hx4.cell 3 5 rfl rfl
  have q0 := hx4.cell 2 0 rfl rfl
  have q1 := hx4.cell 1 0 rfl rfl
  have e0 : decide ((400 : Int) < (dn : Int)) = false := by simp; omega
  rw [hdn] at hds
  have HX4 := Lib.hid hx4
  have HB4 := Lib.hid hb4
  have HH := Lib.hid h
  clear hx4 hb4 hk4 hd4 h hd hl hfa hpg hlf hcn hm hdn hd9 hbk hpos hname
  have hmf : ∀ (fn : Fn) (first cap : Array Value) (w : World), (Instr.makeFunc fn first cap).run Tryz.prog w = .ok (.func fn first cap) w := fun _ _ _ _ => rfl
  go_enter Tryz.func34, Tryz.ntmps34
  go_wp2_with fail
  refine CK.mono ?_
  rintro e W5 ⟨rfl, rfl⟩
  go_wp2_with fail
  refine CC.mono ?_
  rintro e w5 ⟨cs5, v5, M, rfl, hv5, i1, i2, i3, i4, i5, i6, i7, hb5⟩
  obtain ⟨b1, k1, b2, l2, k2, b3, l3, k3, b, k, ecs, -, -, -⟩ := hv5.raw
  subst ecs
  have hx5 := HX4.out.step hb5
  have z0 := hx5.cell 0 0 rfl rfl
  have u0 := hx5.frozen 0 0 rfl
  have z1 := hx5.cell 0 1 rfl rfl
  have u1 := hx5.frozen 0 1 rfl
  have z2 := hx5.cell 0 2 rfl rfl
  have u2 := hx5.frozen 0 2 rfl
  have z3 := hx5.cell 0 3 rfl rfl
  have u3 := hx5.frozen 0 3 rfl
  have z4 := hx5.cell 0 4 rfl rfl
  have u4 := hx5.frozen 0 4 rfl
  have z5 := hx5.cell 0 5 rfl rfl
  have u5 := hx5.frozen 0 5 rfl
  have hlt3 := HX4.out.lt 0 rfl
  have hnf : ¬ Fr F W4 (w.heap.size + 3) := by
    intro hb
    rcases hb with hb | hb
    · have := hF _ hb
      omega
    · omega
  have HV5 := Lib.hid hv5
  have HB5 := Lib.hid (below_via HB4.out hb5)
  have HI := Lib.hid (And.intro i1 (And.intro i2 (And.intro i3 (And.intro i4 (And.intro i5 (And.intro i6 i7))))))
  clear hx5 hv5 hb5 i1 i2 i3 i4 i5 i6 i7 CC CK g0 g1 g2 g3 g4 g5 q0 q1 hlt3
  go_wp2_with fail
  refine bodyPost_ret (v := .tuple #[.agg #[.int .i64 v5.dir.page, .bool v5.dir.isLeaf, .slice b1 (cntT v5.dir) k1, .slice b2 l2 k2, .slice b3 l3 k3, .slice b v5.l.length k], .int .i64 0]) (by simp [results, Tryz.results34, go_sem, z0, z1, z2, z3, z4, z5]) rfl ?_
  obtain ⟨i1, i2, i3, i4, i5, i6, i7⟩ := HI.out
  refine ⟨[.int .i64 v5.dir.page, .bool v5.dir.isLeaf, .slice b1 (cntT v5.dir) k1, .slice b2 l2 k2, .slice b3 l3 k3, .slice b v5.l.length k], v5, M, rfl, ?vw, i1, i2, i3, i4, i5, i6, i7, ?be⟩
  case vw => exact ViewOn.mono (HV5.out.agree ((((((AgreeF.refl w5).set (.inl hnf)).set (.inl hnf)).set (.inl hnf)).set (.inl hnf)).set (.inl hnf) |>.set (.inl hnf))) (fun b hb => by rcases hb with hb | hb; exact .inl hb; exact .inr (Nat.le_trans HB4.out.size hb))
  case be =>
    have hle : w.heap.size ≤ w.heap.size + 3 := by omega
    exact ((((((HB5.out.setCell hle _).setCell hle _).setCell hle _).setCell hle _).setCell hle _).setCell hle _)
set_option maxRecDepth 100000 in
set_option maxHeartbeats 4000000 in
set_option maxRecDepth 100000 in
/-- A key or a value that may not be. -/
theorem vput_bad {F : Nat → Prop} {w : World} {cs : List Value} {v : Vw} (hF : ∀ b, F b → b < w.heap.size) (h : ViewOn F w cs v) (name : List UInt8)
    {key d : List UInt8} (hbad : keyB1 key = false ∨ 400 < d.length) :
    Calls Tryz.prog 34 #[.agg cs.toArray, .string (strOf name), .string (strOf key), .string (strOf d)] w fun e w' => e = .returned (.tuple #[.agg cs.toArray, .int .i64 34]) ∧ ViewOn F w' cs v ∧ Below w.heap.size w w' := by
  obtain ⟨a1, c1, a2, n2, c2, a3, n3, c3, a, c, rfl, hd, hl, hfa⟩ := h.raw
  obtain ⟨pg, hpg⟩ : ∃ z, v.dir.page = z := ⟨_, rfl⟩
  obtain ⟨lf, hlf⟩ : ∃ z, v.dir.isLeaf = z := ⟨_, rfl⟩
  obtain ⟨cn, hcn⟩ : ∃ z, cntT v.dir = z := ⟨_, rfl⟩
  obtain ⟨m, hm⟩ : ∃ z, v.l.length = z := ⟨_, rfl⟩
  rw [hpg, hlf, hcn, hm] at h ⊢
  obtain ⟨W1, hW1⟩ : ∃ x, w.alloc (.cells #[.int .i64 pg, .bool lf, .slice a1 cn c1, .slice a2 n2 c2, .slice a3 n3 c3, .slice a m c] 75) = x := ⟨_, rfl⟩
  obtain ⟨W2, hW2⟩ : ∃ x, W1.alloc (.cells #[.string (strOf key)] 9) = x := ⟨_, rfl⟩
  obtain ⟨W3, hW3⟩ : ∃ x, W2.alloc (.cells #[.string (strOf d)] 9) = x := ⟨_, rfl⟩
  obtain ⟨W4, hW4⟩ : ∃ x, W3.alloc (.cells #[.int .i64 0, .bool false, .slice none 0 0, .slice none 0 0, .slice none 0 0, .slice none 0 0] 75) = x := ⟨_, rfl⟩
  have hs1 : W1.heap.size = w.heap.size + 1 := by rw [← hW1, World.size_alloc]
  have hs2 : W2.heap.size = w.heap.size + 2 := by rw [← hW2, World.size_alloc, hs1]
  have hs3 : W3.heap.size = w.heap.size + 3 := by rw [← hW3, World.size_alloc, hs2]
  have hb4 : Below w.heap.size w W4 := by rw [← hW4, ← hW3, ← hW2, ← hW1]; exact Below.al (Below.al (Below.al (Below.al (Below.refl _ _))))
  have hx4 : Boxes W4 [(w.heap.size + 3, [.int .i64 0, .bool false, .slice none 0 0, .slice none 0 0, .slice none 0 0, .slice none 0 0]), (w.heap.size + 2, [.string (strOf d)]), (w.heap.size + 1, [.string (strOf key)]), (w.heap.size, [.int .i64 pg, .bool lf, .slice a1 cn c1, .slice a2 n2 c2, .slice a3 n3 c3, .slice a m c])] := by
    rw [← hW4, ← hs3]
    refine Boxes.alloc ?_ #[.int .i64 0, .bool false, .slice none 0 0, .slice none 0 0, .slice none 0 0, .slice none 0 0] 75 rfl
    rw [← hW3, ← hs2]
    refine Boxes.alloc ?_ #[.string (strOf d)] 9 rfl
    rw [← hW2, ← hs1]
    refine Boxes.alloc ?_ #[.string (strOf key)] 9 rfl
    rw [← hW1]
    exact (Boxes.nil w).alloc #[.int .i64 pg, .bool lf, .slice a1 cn c1, .slice a2 n2 c2, .slice a3 n3 c3, .slice a m c] 75 (b := w.heap.size) rfl
  have CK := vkey_any key W4
  have hds := strOf_size d
  obtain ⟨dn, hdn⟩ : ∃ z, d.length = z := ⟨_, rfl⟩
  obtain ⟨kB, hkB⟩ : ∃ z, keyB1 key = z := ⟨_, rfl⟩
  rw [hkB] at CK hbad
  have g0 := hx4.cell 3 0 rfl rfl
  have g1 := hx4.cell 3 1 rfl rfl
  have g2 := hx4.cell 3 2 rfl rfl
  have g3 := hx4.cell 3 3 rfl rfl
  have g4 := hx4.cell 3 4 rfl rfl
  have g5 := hx4.cell 3 5 rfl rfl
  have q0 := hx4.cell 2 0 rfl rfl
  have q1 := hx4.cell 1 0 rfl rfl
  have z0 := hx4.cell 0 0 rfl rfl
  have u0 := hx4.frozen 0 0 rfl
  have z1 := hx4.cell 0 1 rfl rfl
  have u1 := hx4.frozen 0 1 rfl
  have z2 := hx4.cell 0 2 rfl rfl
  have u2 := hx4.frozen 0 2 rfl
  have z3 := hx4.cell 0 3 rfl rfl
  have u3 := hx4.frozen 0 3 rfl
  have z4 := hx4.cell 0 4 rfl rfl
  have u4 := hx4.frozen 0 4 rfl
  have z5 := hx4.cell 0 5 rfl rfl
  have u5 := hx4.frozen 0 5 rfl
  rw [hdn] at hds hbad
  have hnf : ¬ F (w.heap.size + 3) := fun hb => by
    have := hF _ hb
    omega
  have hle : w.heap.size ≤ w.heap.size + 3 := by omega
  have HEND := Lib.hid (And.intro ((h.below hb4).agree ((((((AgreeF.refl W4).set (p := ⟨w.heap.size + 3, 0, none⟩) (u := .int .i64 pg) (.inl hnf)).set (p := ⟨w.heap.size + 3, 1, none⟩) (u := .bool lf) (.inl hnf)).set (p := ⟨w.heap.size + 3, 2, none⟩) (u := .slice a1 cn c1) (.inl hnf)).set (p := ⟨w.heap.size + 3, 3, none⟩) (u := .slice a2 n2 c2) (.inl hnf)).set (p := ⟨w.heap.size + 3, 4, none⟩) (u := .slice a3 n3 c3) (.inl hnf) |>.set (p := ⟨w.heap.size + 3, 5, none⟩) (u := .slice a m c) (.inl hnf))) ((((((hb4.setCell (p := ⟨w.heap.size + 3, 0, none⟩) hle (.int .i64 pg)).setCell (p := ⟨w.heap.size + 3, 1, none⟩) hle (.bool lf)).setCell (p := ⟨w.heap.size + 3, 2, none⟩) hle (.slice a1 cn c1)).setCell (p := ⟨w.heap.size + 3, 3, none⟩) hle (.slice a2 n2 c2)).setCell (p := ⟨w.heap.size + 3, 4, none⟩) hle (.slice a3 n3 c3)).setCell (p := ⟨w.heap.size + 3, 5, none⟩) hle (.slice a m c)))
  clear hx4 hb4 h hd hl hfa hpg hlf hcn hm hdn hkB hnf hle
  cases kB with
  | false =>
    go_enter Tryz.func34, Tryz.ntmps34
    go_wp2_with fail
    refine CK.mono ?_
    rintro e W5 ⟨rfl, rfl⟩
    go_wp2_with fail
    refine bodyPost_ret (v := .tuple #[.agg #[.int .i64 pg, .bool lf, .slice a1 cn c1, .slice a2 n2 c2, .slice a3 n3 c3, .slice a m c], .int .i64 34]) (by simp [results, Tryz.results34, go_sem, z0, z1, z2, z3, z4, z5]) rfl ?_
    exact ⟨rfl, HEND.out.1, HEND.out.2⟩
  | true =>
    have e0 : decide ((400 : Int) < (dn : Int)) = true := by
      rcases hbad with h | h
      · cases h
      · simp; omega
    clear hbad
    go_enter Tryz.func34, Tryz.ntmps34
    go_wp2_with fail
    refine CK.mono ?_
    rintro e W5 ⟨rfl, rfl⟩
    go_wp2_with fail
    refine bodyPost_ret (v := .tuple #[.agg #[.int .i64 pg, .bool lf, .slice a1 cn c1, .slice a2 n2 c2, .slice a3 n3 c3, .slice a m c], .int .i64 34]) (by simp [results, Tryz.results34, go_sem, z0, z1, z2, z3, z4, z5]) rfl ?_
    exact ⟨rfl, HEND.out.1, HEND.out.2⟩
end Go.Proofs.YtpghlmcoajaiiaaGreatDoor

/- Records: which one is next. -/
namespace Go.Proofs.YtpghlmcoajaiiaaGreatDoor
open Go.RowKit

/-- Which record is next; whether the list's bucket is there. -/
def nextF : List Bkt → Option Nat
  | [] => none
  | b :: r => if b.name = [97] then some (entsT b.lv b.tree).length else nextF r
theorem nextF_drop {l : List Bkt} {i : Nat} {b : Bkt} (h : l[i]? = some b) : nextF (l.drop i) = if b.name = [97] then some (entsT b.lv b.tree).length else nextF (l.drop (i + 1)) := by
  obtain ⟨h1, h2⟩ := List.getElem?_eq_some_iff.1 h
  rw [List.drop_eq_getElem_cons h1, h2]
  rfl
set_option maxRecDepth 100000 in
set_option maxHeartbeats 4000000 in
set_option maxRecDepth 100000 in
theorem rnext_any {F : Nat → Prop} {w : World} {v : Vw} {d0 d1 d2 d3 d4 : Value} {a : Option Addr} {c : Nat} (hl : TabR 6 (BkOn F w) w a v.l.length c v.l) (hn : v.l.length ≤ 1000) (he : ∀ b ∈ v.l, (entsT b.lv b.tree).length ≤ 100000) :
    Calls Tryz.prog 36 #[.agg #[d0, d1, d2, d3, d4, .slice a v.l.length c]] w fun e w' => e = .returned (.tuple #[.int .i64 ((nextF v.l).getD 0 : Nat), .bool (nextF v.l).isSome]) ∧ Below w.heap.size w w' := by
  obtain ⟨m, hm⟩ : ∃ z, v.l.length = z := ⟨_, rfl⟩
  rw [hm] at hl hn ⊢
  obtain ⟨W1, hW1⟩ : ∃ x, w.alloc (.cells #[d0, d1, d2, d3, d4, .slice a m c] 75) = x := ⟨_, rfl⟩
  have hx1 : Boxes W1 [(w.heap.size, [d0, d1, d2, d3, d4, .slice a m c])] := by
    rw [← hW1]
    exact (Boxes.nil w).alloc #[d0, d1, d2, d3, d4, .slice a m c] 75 (b := w.heap.size) rfl
  have hb1 : Below w.heap.size w W1 := by rw [← hW1]; exact Below.al (Below.refl _ _)
  have g5 := hx1.cell 0 5 rfl rfl
  obtain ⟨R, hR⟩ : ∃ z, nextF v.l = z := ⟨_, rfl⟩
  rw [hR]
  have HL := Lib.hid hl
  have HE := Lib.hid he
  have HM := Lib.hid hm
  have HR : Hid (nextF (v.l.drop 0) = R) := Lib.hid hR
  have HB1 := Lib.hid hb1
  obtain ⟨_, e2, e3⟩ := hl.lens
  clear hl he hx1 hR hb1 hm
  go_enter Tryz.func36, Tryz.ntmps36
  go_wp2_with fail
  go_loopw [9] (fun s wr => ∃ i : Nat, i ≤ m ∧ s = .int .i64 i ∧ nextF (v.l.drop i) = R ∧ Below w.heap.size w wr) (fun s _ => m - (intOf s).toNat)
  case atStart => exact ⟨0, Nat.zero_le _, rfl, HR.out, HB1.out⟩
  case round =>
    clear g5 HR HB1
    obtain ⟨i, hi, rfl, hr, hb⟩ := hrel
    by_cases hlt : i < m
    · obtain ⟨b, off, y, cs, rfl, hbb, hy, _, ⟨ts, rfl, hn9⟩, hcell⟩ := TabR.at HL.out hlt
      obtain ⟨x1, k1, x2, n2, k2, x3, n3, k3, V, C, e1, _⟩ := hn9.open_pos
      subst e1
      have d0' : decide ((i : Int) < (m : Int)) = true := by simp; omega
      have c0 := (hb.cell (p := ⟨b, off + i * 6, none⟩) hbb).trans (by simpa using hcell 0 _ rfl)
      have c1 := (hb.cell (p := ⟨b, off + i * 6 + 1, none⟩) hbb).trans (hcell 1 _ rfl)
      have c2 := (hb.cell (p := ⟨b, off + i * 6 + 2, none⟩) hbb).trans (hcell 2 _ rfl)
      have c3 := (hb.cell (p := ⟨b, off + i * 6 + 3, none⟩) hbb).trans (hcell 3 _ rfl)
      have c4 := (hb.cell (p := ⟨b, off + i * 6 + 4, none⟩) hbb).trans (hcell 4 _ rfl)
      have c5 := (hb.cell (p := ⟨b, off + i * 6 + 5, none⟩) hbb).trans (hcell 5 _ rfl)
      have hd := nextF_drop hy
      rw [hr] at hd
      have hey := HE.out y (List.mem_of_getElem? hy)
      obtain ⟨nm, hnm⟩ : ∃ z, y.name = z := ⟨_, rfl⟩
      rw [hnm] at c0 hd
      have hB2 : Below wr.heap.size wr (wr.alloc (.cells #[.string (strOf nm), .int .i64 y.tree.page, .bool y.tree.isLeaf, .slice x1 (cntT y.tree) k1, .slice x2 n2 k2, .slice x3 n3 k3] 173)) := Below.al (Below.refl _ _)
      have HB2 := Lib.hid (below_via hb hB2)
      have CC := count_any (hn9.below HB2.out).toIn hey
      by_cases hq : nm = [97]
      · have dq : ((strOf nm).toList == [97]) = true := by rw [strOf_toList]; simpa using hq
        rw [if_pos hq] at hd
        obtain ⟨cnt, hcnt⟩ : ∃ z, (entsT y.lv y.tree).length = z := ⟨_, rfl⟩
        rw [hcnt] at CC hd
        subst hd
        clear hr hb hB2 hcell hq hy hnm hcnt hey
        go_wp2_with fail
        refine CC.mono ?_
        rintro e w3 ⟨rfl, hb3⟩
        have HB3 := Lib.hid (below_via HB2.out hb3)
        clear CC hb3
        go_wp2_with fail
        go_ret2
        exact ⟨rfl, HB3.out⟩
      · have dq : ((strOf nm).toList == [97]) = false := by rw [strOf_toList]; simpa using hq
        rw [if_neg hq] at hd
        have HD := Lib.hid hd.symm
        clear hr hb hB2 hcell hq hy hnm hey hd CC
        go_wp2_with fail
        go_roundw
        case rel => exact ⟨i + 1, by omega, by go_num, HD.out, HB2.out⟩
        case measure => simp [intOf]; omega
    · obtain rfl : i = m := by omega
      have d0' : decide ((i : Int) < (i : Int)) = false := by simp
      have hR : R = none := by rw [← hr, List.drop_of_length_le (by rw [HM.out]; exact Nat.le_refl _)]; rfl
      have HB := Lib.hid hb
      subst hR
      clear hr hb
      go_wp2_with fail
      go_ret2
      exact ⟨rfl, HB.out⟩
end Go.Proofs.YtpghlmcoajaiiaaGreatDoor

/- Plain laws of numbers that are put and taken; no program in sight. -/
namespace Go.Proofs.YtpghlmcoajaiiaaGreatDoor

theorem beVal_beBytes (x n : Nat) : beVal (beBytes x n) = x % 256 ^ n := by
  induction n generalizing x with
  | zero => simp [beBytes, beVal_nil, Nat.mod_one]
  | succ n ih =>
    have e : 256 ^ (n + 1) = 256 * 256 ^ n := by rw [Nat.pow_succ, Nat.mul_comm]
    have e2 : x % 2 ^ 8 = x % 256 := rfl
    rw [beBytes, beVal_snoc, ih, UInt8.toNat_ofNat', e, Nat.mod_mul, e2]
    omega


section
variable (X N : Nat → Nat)
end
end Go.Proofs.YtpghlmcoajaiiaaGreatDoor

/- The record of a record's bytes: plain. -/
namespace Go.Proofs.YtpghlmcoajaiiaaGreatDoor

theorem tNum_mod (x n : Nat) (h1 : 1 ≤ n) (h8 : n ≤ 8) (r : List UInt8) : tNum ⟨beBytes x n ++ r, 0⟩ (n : Int) = (x % 256 ^ n, ⟨r, 0⟩) := by
  have hl := beBytes_length x n
  rw [tNum, if_neg (by simp; omega)]
  have : takeF ⟨beBytes x n ++ r, 0⟩ n = (beBytes x n, ⟨r, 0⟩) := by
    simp only [takeF]
    rw [if_neg (by simp), if_neg (by simp [hl])]
    simp [hl]
  rw [Int.toNat_natCast, this, beVal_beBytes]
theorem numF_be (x : Int) (n : Nat) (h1 : 1 ≤ n) (h8 : n ≤ 8) : numF x (n : Int) = beBytes x.toNat n := by
  unfold numF
  rw [if_neg (by omega), Int.toNat_natCast]
theorem tText_cut (k r : List UInt8) : tText ⟨textF k ++ r, 0⟩ = (k.take 255, ⟨r, 0⟩) := by
  have hlen : (k.take 255).length ≤ 255 := by rw [List.length_take]; omega
  have e : tNum ⟨textF k ++ r, 0⟩ 1 = ((k.take 255).length, ⟨k.take 255 ++ r, 0⟩) := by
    have h := tNum_mod (k.take 255).length 1 (by omega) (by omega) (k.take 255 ++ r)
    rw [show beBytes (k.take 255).length 1 = [UInt8.ofNat (k.take 255).length] from rfl, Nat.mod_eq_of_lt (by omega)] at h
    exact h
  rw [tText, e]
  simp only [takeF]
  rw [if_neg (by simp), if_neg (by simp)]
  simp
theorem rcB_shape (r : RcD) : rcB r = beBytes (u64w r.actor).toNat 1 ++ (beBytes (u64w r.from_).toNat 1 ++ (beBytes (u64w r.to_).toNat 1 ++ (textF r.bucket ++ (textF r.key ++ (beBytes r.digest 4 ++ []))))) := by
  unfold rcB
  have h1 := fun x => numF_be x 1 (by omega) (by omega)
  have h4 := numF_be (r.digest : Int) 4 (by omega) (by omega)
  rw [show ((1 : Nat) : Int) = 1 from rfl] at h1
  rw [show ((4 : Nat) : Int) = 4 from rfl, Int.toNat_natCast] at h4
  rw [h1, h1, h1, h4]
  simp
/-- A record's bytes are a record's: its numbers' lowest bytes, its texts cut. -/
theorem get_put (r : RcD) (hd : r.digest < 4294967296) : getRE (rcB r) = 0 ∧ getR (rcB r) = ⟨((u64w r.actor).toNat % 256 : Nat), ((u64w r.from_).toNat % 256 : Nat), ((u64w r.to_).toNat % 256 : Nat), r.bucket.take 255, r.key.take 255, r.digest⟩ := by
  have n1 := fun x (s : List UInt8) => tNum_mod x 1 (by omega) (by omega) s
  have n4 := fun x (s : List UInt8) => tNum_mod x 4 (by omega) (by omega) s
  rw [show ((1 : Nat) : Int) = 1 from rfl, show 256 ^ 1 = 256 from rfl] at n1
  rw [show ((4 : Nat) : Int) = 4 from rfl] at n4
  have g1 : gN (rcB r) 1 = ⟨beBytes (u64w r.from_).toNat 1 ++ (beBytes (u64w r.to_).toNat 1 ++ (textF r.bucket ++ (textF r.key ++ (beBytes r.digest 4 ++ [])))), 0⟩ := by show (tNum ⟨rcB r, 0⟩ 1).2 = _; rw [rcB_shape, n1]
  have g2 : gN (rcB r) 2 = ⟨beBytes (u64w r.to_).toNat 1 ++ (textF r.bucket ++ (textF r.key ++ (beBytes r.digest 4 ++ []))), 0⟩ := by show (tNum (gN (rcB r) 1) 1).2 = _; rw [g1, n1]
  have g3 : gN (rcB r) 3 = ⟨textF r.bucket ++ (textF r.key ++ (beBytes r.digest 4 ++ [])), 0⟩ := by show (tNum (gN (rcB r) 2) 1).2 = _; rw [g2, n1]
  have t1 : gT (rcB r) 1 = ⟨textF r.key ++ (beBytes r.digest 4 ++ []), 0⟩ := by show (tText (gN (rcB r) 3)).2 = _; rw [g3, tText_cut]
  have t2 : gT (rcB r) 2 = ⟨beBytes r.digest 4 ++ [], 0⟩ := by show (tText (gT (rcB r) 1)).2 = _; rw [t1, tText_cut]
  have v0 : gV (rcB r) 0 = (u64w r.actor).toNat % 256 := by show (tNum ⟨rcB r, 0⟩ 1).1 = _; rw [rcB_shape, n1]
  have v1 : gV (rcB r) 1 = (u64w r.from_).toNat % 256 := by show (tNum (gN (rcB r) 1) 1).1 = _; rw [g1, n1]
  have v2 : gV (rcB r) 2 = (u64w r.to_).toNat % 256 := by show (tNum (gN (rcB r) 2) 1).1 = _; rw [g2, n1]
  have s0 : gS (rcB r) 0 = r.bucket.take 255 := by show (tText (gN (rcB r) 3)).1 = _; rw [g3, tText_cut]
  have s1 : gS (rcB r) 1 = r.key.take 255 := by show (tText (gT (rcB r) 1)).1 = _; rw [t1, tText_cut]
  have dd : gD (rcB r) = r.digest := by show (tNum (gT (rcB r) 2) 4).1 = _; rw [t2, n4]; exact Nat.mod_eq_of_lt hd
  have ee : gE (rcB r) = ⟨[], 0⟩ := by show (tNum (gT (rcB r) 2) 4).2 = _; rw [t2, n4]
  have e0 : tDone (gE (rcB r)) = 0 := by rw [ee]; rfl
  refine ⟨e0, ?_⟩
  unfold getR getRec
  rw [if_pos e0, v0, v1, v2, s0, s1, dd]
end Go.Proofs.YtpghlmcoajaiiaaGreatDoor

/- Records: bytes are the same, just if the records got of them are: plain. -/
namespace Go.Proofs.YtpghlmcoajaiiaaGreatDoor

end Go.Proofs.YtpghlmcoajaiiaaGreatDoor

/- Records: equality; views cut to what is there. -/
namespace Go.Proofs.YtpghlmcoajaiiaaGreatDoor
open Go.RowKit

theorem BkOn.lt {F : Nat → Prop} {w : World} {cs : List Value} {b : Bkt} (h : BkOn F w cs b) : BkOn (fun x => F x ∧ x < w.heap.size) w cs b := by
  obtain ⟨ts, e, h⟩ := h
  exact ⟨ts, e, h.lt⟩
theorem ViewOn.lt {F : Nat → Prop} {w : World} {cs : List Value} {v : Vw} (h : ViewOn F w cs v) : ViewOn (fun x => F x ∧ x < w.heap.size) w cs v := by
  obtain ⟨ds, a, c, e, h1, h2, h3⟩ := h
  exact ⟨ds, a, c, e, h1.lt, TabR.mono h2 (fun cs y h => h.lt), h3.and (TabR.block h2)⟩
theorem ViewOn.now {F : Nat → Prop} {w : World} {cs : List Value} {v : Vw} (h : ViewOn F w cs v) : ViewOn (fun x => x < w.heap.size) w cs v := h.lt.mono fun _ h => h.2
/-- A fresh box, in a world that is held. -/
theorem vbox_of {a W : World} {vs : Array Value} {t : TypeId} (_h : Below a.heap.size a (W.alloc (.cells vs t))) : Boxes (W.alloc (.cells vs t)) [(W.heap.size, vs.toList)] := (Boxes.nil W).alloc vs t (b := W.heap.size) rfl
theorem vbox_drew {a W : World} {vs : Array Value} {t : TypeId} (_h : Below a.heap.size a (W.alloc (.cells vs t)).drew) : Boxes (W.alloc (.cells vs t)).drew [(W.heap.size, vs.toList)] := ((Boxes.nil W).alloc vs t (b := W.heap.size) rfl).drew
def set6 (w : World) (b : Nat) (y0 y1 y2 y3 y4 y5 : Value) : World := (((((w.setCell ⟨b, 0, none⟩ y0).setCell ⟨b, 1, none⟩ y1).setCell ⟨b, 2, none⟩ y2).setCell ⟨b, 3, none⟩ y3).setCell ⟨b, 4, none⟩ y4).setCell ⟨b, 5, none⟩ y5
theorem set6_box {w : World} {b : Nat} {x0 x1 x2 x3 x4 x5 : Value} {l : List (Nat × List Value)} (h : Boxes w ((b, [x0, x1, x2, x3, x4, x5]) :: l)) (hl : ∀ p ∈ l, p.1 ≠ b) (y0 y1 y2 y3 y4 y5 : Value) : Boxes (set6 w b y0 y1 y2 y3 y4 y5) ((b, [y0, y1, y2, y3, y4, y5]) :: l) :=
  (((((h.put 0 y0 hl).put 1 y1 hl).put 2 y2 hl).put 3 y3 hl).put 4 y4 hl).put 5 y5 hl
theorem set6_agree {F : Nat → Prop} {w : World} {b : Nat} (h : ¬ F b) (y0 y1 y2 y3 y4 y5 : Value) : AgreeF F w (set6 w b y0 y1 y2 y3 y4 y5) :=
  ((((((AgreeF.refl w).set (.inl h)).set (.inl h)).set (.inl h)).set (.inl h)).set (.inl h)).set (.inl h)
theorem set6_below {B : Nat} {a w : World} (h : Below B a w) {b : Nat} (hb : B ≤ b) (y0 y1 y2 y3 y4 y5 : Value) : Below B a (set6 w b y0 y1 y2 y3 y4 y5) :=
  (((((h.setCell hb _).setCell hb _).setCell hb _).setCell hb _).setCell hb _).setCell hb _
/-- A view in a box of its own. -/
def ViewBox (w : World) (b : Nat) (cs : List Value) (v : Vw) : Prop := cs.length = 6 ∧ Boxes w [(b, cs)] ∧ ViewOn (fun x => x < w.heap.size ∧ x ≠ b) w cs v
theorem ViewBox.step {w w' : World} {b : Nat} {cs : List Value} {v : Vw} (h : ViewBox w b cs v) (hb : Below w.heap.size w w') : ViewBox w' b cs v :=
  ⟨h.1, h.2.1.step hb, (h.2.2.below hb).mono fun x hx => ⟨Nat.lt_of_lt_of_le hx.1 hb.size, hx.2⟩⟩
theorem ViewBox.on {w : World} {b : Nat} {cs : List Value} {v : Vw} (h : ViewBox w b cs v) : ViewOn (fun x => x < w.heap.size) w cs v := h.2.2.mono fun _ h => h.1
theorem viewbox_end {F : Nat → Prop} {w : World} {b : Nat} {x0 x1 x2 x3 x4 x5 y0 y1 y2 y3 y4 y5 : Value} {v : Vw} (hx : Boxes w [(b, [x0, x1, x2, x3, x4, x5])]) (hv : ViewOn F w [y0, y1, y2, y3, y4, y5] v) (hne : ∀ x, F x → x < w.heap.size → x ≠ b) : ViewBox (set6 w b y0 y1 y2 y3 y4 y5) b [y0, y1, y2, y3, y4, y5] v := by
  refine ⟨rfl, set6_box hx (by simp) _ _ _ _ _ _, ?_⟩
  have h1 : ViewOn (fun x => x < w.heap.size ∧ x ≠ b) w [y0, y1, y2, y3, y4, y5] v := hv.lt.mono fun x h => ⟨h.2, hne x h.1 h.2⟩
  have h2 := h1.agree (set6_agree (F := fun x => x < w.heap.size ∧ x ≠ b) (b := b) (fun h => h.2 rfl) y0 y1 y2 y3 y4 y5)
  exact h2.mono fun x h => ⟨by unfold set6; simpa [World.setCell] using h.1, h.2⟩
theorem viewbox_new {F : Nat → Prop} {w : World} (t : TypeId) {y0 y1 y2 y3 y4 y5 : Value} {v : Vw} (hv : ViewOn F w [y0, y1, y2, y3, y4, y5] v) : ViewBox (w.alloc (.cells #[y0, y1, y2, y3, y4, y5] t)) w.heap.size [y0, y1, y2, y3, y4, y5] v := by
  refine ⟨rfl, (Boxes.nil w).alloc #[y0, y1, y2, y3, y4, y5] t (b := w.heap.size) rfl, (hv.lt.below (Below.al (o := .cells #[y0, y1, y2, y3, y4, y5] t) (Below.refl _ _))).mono fun x h => ⟨?_, ?_⟩⟩
  · have := h.2; simp; omega
  · have := h.2; omega
/-- Two records, one and the same. -/
def rcEq (a b : RcD) : Bool := a.actor == b.actor && a.from_ == b.from_ && a.to_ == b.to_ && a.bucket == b.bucket && a.key == b.key && a.digest == b.digest
theorem rcEq_iff (a b : RcD) : rcEq a b = true ↔ a = b := by
  obtain ⟨a1, a2, a3, a4, a5, a6⟩ := a
  obtain ⟨b1, b2, b3, b4, b5, b6⟩ := b
  unfold rcEq
  simp only [Bool.and_eq_true, beq_iff_eq, RcD.mk.injEq]
  constructor
  · rintro ⟨⟨⟨⟨⟨h1, h2⟩, h3⟩, h4⟩, h5⟩, h6⟩
    exact ⟨h1, h2, h3, h4, h5, h6⟩
  · rintro ⟨h1, h2, h3, h4, h5, h6⟩
    exact ⟨⟨⟨⟨⟨h1, h2⟩, h3⟩, h4⟩, h5⟩, h6⟩
set_option maxRecDepth 100000 in
set_option maxHeartbeats 1000000 in
theorem rcsame (a b : RcD) (w : World) : (binOp .eql 64 (rcV a) (rcV b)).run Tryz.prog w = .ok (.bool (rcEq a b)) w := by
  obtain ⟨a1, a2, a3, a4, a5, a6⟩ := a
  obtain ⟨b1, b2, b3, b4, b5, b6⟩ := b
  unfold rcEq rcV
  by_cases h1 : a1 = b1
  rotate_left
  · simp [go_sem, strOf_toList, h1]
  by_cases h2 : a2 = b2
  rotate_left
  · simp [go_sem, strOf_toList, h1, h2]
  by_cases h3 : a3 = b3
  rotate_left
  · simp [go_sem, strOf_toList, h1, h2, h3]
  by_cases h4 : a4 = b4
  rotate_left
  · simp [go_sem, strOf_toList, h1, h2, h3, h4]
  by_cases h5 : a5 = b5
  rotate_left
  · simp [go_sem, strOf_toList, h1, h2, h3, h4, h5]
  by_cases h6 : a6 = b6
  rotate_left
  · simp [go_sem, strOf_toList, h1, h2, h3, h4, h5, h6, show ¬ ((a6 : Int) = (b6 : Int)) by omega]
  simp [go_sem, strOf_toList, h1, h2, h3, h4, h5, h6]
end Go.Proofs.YtpghlmcoajaiiaaGreatDoor
