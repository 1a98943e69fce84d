/- Texts that other texts of this claim lean on, one behind the other. -/
import Derived.Test.YtfidfbgplfjakaaDoorM5
import Derived.Test.YtfidfbgplfjakaaDoorM1
import Derived.Deep.RegionHeld3
import Derived.Laws.Append
import Derived.Laws.AppendOwn
import Derived.Outline
import Derived.Test.YtfidfbgplfjakaaDoorM3
/- The walks of the chapter on long values: places, one behind the other. -/
namespace Go.Proofs.YtfidfbgplfjakaaDoor
open Go.RowKit Go.Maps

theorem CtMap.kept {w w' : World} {mb n : Nat} {f : Int → Nat} (h : CtMap w mb n f) (hb : w'.heap[mb]? = w.heap[mb]?) : CtMap w' mb n f := by
  obtain ⟨D, ⟨es, c, h1, h2⟩, h3⟩ := h
  exact ⟨D, ⟨es, c, hb.trans h1, h2⟩, h3⟩
theorem info_i64C : (Tryd.prog.info? 3).map (fun i => (i.zero, i.size, i.bytes)) = some (some (.int .i64 0), 1, 8) := by kernel_rfl
/-- Places so far: a row, and a map that counts them. -/
def Plc (B : Nat) (w : World) (pb : Nat) (L : List Int) : Prop := ∃ v mb n, w.heap[pb]? = some (.cells #[v, .map (some mb)] 60 (0, 0)) ∧ w.ownsRow B 3 1 v L.length (L.map (Value.int .i64)) ∧ CtMap w mb n (fun q => L.count q) ∧ n ≤ L.length ∧ B ≤ pb ∧ B ≤ mb ∧ pb ≠ mb ∧ v.ownBlock ≠ some pb ∧ v.ownBlock ≠ some mb
theorem Plc.below {B : Nat} {w w' : World} {pb : Nat} {L : List Int} (h : Plc B w pb L) (hb : Below w.heap.size w w') : Plc B w' pb L := by
  obtain ⟨v, mb, n, h1, h2, h3, h4⟩ := h
  exact ⟨v, mb, n, (hb.block pb (Array.getElem?_eq_some_iff.1 h1).1).trans h1, own_below h2 (Nat.le_refl _) hb, h3.kept (hb.block mb h3.lt), h4⟩
/-- Blocks stay that are neither rows of integers nor places. -/
def KeepU (w w' : World) : Prop := ∀ (k : Nat) (c : Array Value) (t : TypeId), t ≠ 3 → t ≠ 60 → w.heap[k]? = some (Obj.cells c t (0, 0)) → w'.heap[k]? = some (Obj.cells c t (0, 0))
theorem KeepU.refl (w : World) : KeepU w w := fun _ _ _ _ _ h => h
theorem KeepU.trans {a b c : World} (h : KeepU a b) (k : KeepU b c) : KeepU a c := fun i d t h1 h2 h3 => k i d t h1 h2 (h i d t h1 h2 h3)
theorem KeepU.own {w w' : World} (h : KeepU w w') {base : Nat} {size : Nat} {v : Value} {n : Nat} {xs : List Value} (ho : w.ownsRow base 5 size v n xs) : w'.ownsRow base 5 size v n xs :=
  ⟨ho.1, ho.2.imp id fun ⟨g, cap, cur, e1, hg1, hh, r⟩ => ⟨g, cap, cur, e1, hg1, h g _ _ (by decide) (by decide) hh, r⟩⟩
def AddPost (B : Nat) (w : World) (pb : Nat) (L : List Int) (x : Int) (e : Ending) (w' : World) : Prop :=
  Below B w w' ∧ KeepU w w' ∧ (if pgC x = true ∧ x ∉ L then e = .returned (.bool true) ∧ Plc B w' pb (L ++ [x]) else e = .returned (.bool false) ∧ w = w')
set_option maxRecDepth 100000 in
set_option maxHeartbeats 3000000 in
theorem add_any {B : Nat} {w : World} {pb : Nat} {L : List Int} (h : Plc B w pb L) (hL : L.length ≤ 1000) (x : Int) (hx : I64 x) :
    Calls Tryd.prog 25 #[.pointer (some ⟨pb, 0, none⟩), .int .i64 x] w (AddPost B w pb L x) := by
  obtain ⟨v, mb, n, h1, h2, h3, h4, hB1, hB2, n1, n2, n3⟩ := h
  have hpb := (Array.getElem?_eq_some_iff.1 h1).1
  have c0 : w.cell? ⟨pb, 0, none⟩ = some v := by simp [World.cell?, h1]
  have c1 : w.cell? ⟨pb, 1, none⟩ = some (.map (some mb)) := by simp [World.cell?, h1]
  have hlk := h3.lookup x hx
  by_cases hp : pgC x = true
  · have hpx := pgC_lt hp
    have d0 : decide (x < 2) = false := by simp; omega
    have d1 : decide (999 < x) = false := by simp; omega
    have hcm : x ∈ L ↔ 0 < L.count x := List.count_pos_iff.symm
    obtain ⟨ct, hct⟩ : ∃ ct, L.count x = ct := ⟨_, rfl⟩
    rw [hct] at hlk hcm
    by_cases h0 : 0 < ct
    · have d2 : decide ((0 : Int) < ct) = true := by simp; omega
      have d2' : decide (0 < ct) = true := by simpa using h0
      have HE : Hid (AddPost B w pb L x (.returned (.bool false)) w) := Lib.hid ⟨Below.refl _ _, KeepU.refl _, by rw [if_neg (fun h => h.2 (hcm.2 h0))]; exact ⟨rfl, rfl⟩⟩
      clear h1 h2 h3 hct hcm hp
      go_enter Tryd.func25, Tryd.ntmps25
      go_wp2_with fail
      go_ret
      exact HE.out
    · have d2 : decide ((0 : Int) < ct) = false := by simp; omega
      have d2' : decide (0 < ct) = false := by simpa using h0
      have hmem : x ∉ L := fun h => h0 (hcm.1 h)
      obtain ⟨i0, hi, hz0, hz1, hz2⟩ := info_parts info_i64C
      have hBw : B ≤ w.heap.size := by omega
      obtain ⟨v', w1, hr1, ho1, hg1, hv1⟩ := run_append_new (P := Tryd.prog) (w := w) B 22 3 i0 _ 1 8 Tryd.underlying22 hi hz0 hz1 hz2 rfl (by decide) h2 #[.int .i64 x] rfl (by intro u hu; simp at hu; subst hu; rfl) (by unfold maxLen; omega) (by omega) hBw
      have hge := own_ge h2
      have e1 : w1.heap[pb]? = some (.cells #[v, .map (some mb)] 60 (0, 0)) := (hg1.block pb hpb (fun e => n2 e.symm)).trans h1
      have k0 : w1.cell? ⟨pb, 0, none⟩ = some v := by simp [World.cell?, e1]
      have f0 : w1.frozen? ⟨pb, 0, none⟩ = false := by simp [World.frozen?, e1]
      have m1 : CtMap w1 mb n (fun q => L.count q) := h3.kept (hg1.block mb h3.lt (fun e => n3 e.symm))
      obtain ⟨w2, hw2⟩ : ∃ w2, w2 = w1.setCell ⟨pb, 0, none⟩ v' := ⟨_, rfl⟩
      have e2 : w2.heap[pb]? = some (.cells #[v', .map (some mb)] 60 (0, 0)) := by rw [hw2, heap_setCell_at 0 _ e1]; rfl
      have k1 : w2.cell? ⟨pb, 1, none⟩ = some (.map (some mb)) := by simp [World.cell?, e2]
      have m2 : CtMap w2 mb n (fun q => L.count q) := m1.kept (by rw [hw2]; exact Below.heap_setCell _ _ _ mb (fun e => n1 e.symm))
      have hlk2 := m2.lookup x hx
      obtain ⟨w3, hu3, m3, hg3⟩ := m2.inc x hx (by omega)
      rw [hct] at hlk2 hu3
      have n2' : v'.ownBlock ≠ some pb := by
        rcases hv1 with h | h
        · rw [h]; exact n2
        · rw [h]; intro e; have := Option.some.inj e; omega
      have n3' : v'.ownBlock ≠ some mb := by
        have := h3.lt
        rcases hv1 with h | h
        · rw [h]; exact n3
        · rw [h]; intro e; have := Option.some.inj e; omega
      have ho2 : w2.ownsRow B 3 1 v' (L.length + 1) (L.map (Value.int .i64) ++ [.int .i64 x]) := by rw [hw2]; exact own_set ho1 ⟨pb, 0, none⟩ v' n2'
      have ho3 : w3.ownsRow B 3 1 v' (L.length + 1) (L.map (Value.int .i64) ++ [.int .i64 x]) := ho2.kept hg3 (.inr n3')
      have e3 : w3.heap[pb]? = some (.cells #[v', .map (some mb)] 60 (0, 0)) := (hg3.block pb (Array.getElem?_eq_some_iff.1 e2).1 (fun e => n1 (Option.some.inj e))).trans e2
      have hb1 : Below B w w1 := (Below.refl _ _).grown hg1 hBw hge
      have hb2 : Below B w w2 := by rw [hw2]; exact hb1.setCell hB1 _
      have hb3 : Below B w w3 := hb2.grown hg3 (Nat.le_trans hBw hb2.size) (fun k e => by cases e; exact hB2)
      have hku : KeepU w w3 := by
        intro k c t ht1 ht2 hk
        have hkl := (Array.getElem?_eq_some_iff.1 hk).1
        have j1 : w1.heap[k]? = some (.cells c t (0, 0)) := by
          rw [hg1.block k hkl (fun e => ?_)]
          · exact hk
          · rcases h2.2 with ⟨rfl, _⟩ | ⟨g, cap, cur, rfl, _, hh, _⟩
            · cases e
            · cases e
              rw [hh] at hk; cases hk; exact absurd rfl ht1
        have j2 : w2.heap[k]? = some (.cells c t (0, 0)) := by
          rw [hw2, Below.heap_setCell _ _ _ k (fun e => by
            have e' : k = pb := e
            subst e'
            rw [h1] at hk; cases hk; exact absurd rfl ht2)]
          exact j1
        rw [hg3.block k (Array.getElem?_eq_some_iff.1 j2).1 (fun e => ?_)]
        · exact j2
        · cases e
          obtain ⟨_, ⟨es, cl, hm, _⟩, _⟩ := m2
          rw [hm] at j2; cases j2
      have HE : Hid (AddPost B w pb L x (.returned (.bool true)) w3) := Lib.hid ⟨hb3, hku, by
        rw [if_pos ⟨hp, hmem⟩]
        exact ⟨rfl, v', mb, n + 1, e3, by rw [List.length_append, List.map_append]; exact ho3, m3, by simp; omega, hB1, hB2, n1, n2', n3'⟩⟩
      have HW2 := Lib.hid hw2
      obtain ⟨av, cv, rfl, _⟩ := own_slice h2
      obtain ⟨av', cv', rfl, _⟩ := own_slice ho1
      rw [hw2] at k1 hlk2 hu3
      clear h1 h2 h3 hct hcm hp hpx hmem ho1 hg1 hv1 hge e1 m1 e2 m2 m3 hg3 n2' n3' ho2 ho3 e3 hb1 hb2 hb3 hku hw2 hi hz0 hz1 hz2
      go_enter Tryd.func25, Tryd.ntmps25
      go_wp2_with (at_builtin; refine wpList_append_run rfl _ _ _ _ rfl rfl rfl hr1 ?_)
      go_ret
      exact HE.out
  · have HE : Hid (AddPost B w pb L x (.returned (.bool false)) w) := Lib.hid ⟨Below.refl _ _, KeepU.refl _, by rw [if_neg (fun h => hp h.1)]; exact ⟨rfl, rfl⟩⟩
    have hpx : x < 2 ∨ 999 < x := by
      unfold pgC at hp
      simp at hp
      omega
    clear h1 h2 h3 hp
    by_cases h2 : x < 2
    · have d0 : decide (x < 2) = true := by simpa using h2
      go_enter Tryd.func25, Tryd.ntmps25
      go_wp2_with fail
      go_ret
      exact HE.out
    · have d0 : decide (x < 2) = false := by simpa using h2
      have d1 : decide (999 < x) = true := by simp; omega
      go_enter Tryd.func25, Tryd.ntmps25
      go_wp2_with fail
      go_ret
      exact HE.out
/-- The first place. -/
theorem plc_new (w : World) (first : Int) (hf : I64 first) : ∃ w2, (Instr.mapUpdate 58 (.map (some w.heap.size)) (.int .i64 first) (.int .i64 1)).run Tryd.prog (w.alloc (.map #[] 0)) = .ok () w2 ∧
    Plc w.heap.size ((w2.alloc (.cells #[.int .i64 first] 3)).alloc (.cells #[.slice (some ⟨w2.heap.size, 0, none⟩) 1 1, .map (some w.heap.size)] 60)) (w2.heap.size + 1) [first] ∧ Below w.heap.size w ((w2.alloc (.cells #[.int .i64 first] 3)).alloc (.cells #[.slice (some ⟨w2.heap.size, 0, none⟩) 1 1, .map (some w.heap.size)] 60)) := by
  have m0 : CtMap (w.alloc (.map #[] 0)) w.heap.size 0 (fun q => ([] : List Int).count q) := by simpa using CtMap.made w
  obtain ⟨w2, hu, m2, hg2⟩ := m0.inc first hf (by omega)
  have hu' : (Instr.mapUpdate 58 (.map (some w.heap.size)) (.int .i64 first) (.int .i64 1)).run Tryd.prog (w.alloc (.map #[] 0)) = .ok () w2 := hu
  have hb2 : Below w.heap.size w w2 := ((Below.refl _ _).alloc (Nat.le_refl _) _).grown hg2 (by simp) (fun k e => by cases e; exact Nat.le_refl _)
  have hs2 := hg2.size
  have hsz : (w.alloc (.map #[] 0)).heap.size = w.heap.size + 1 := by simp
  obtain ⟨w3, hw3⟩ : ∃ w3, w3 = w2.alloc (.cells #[.int .i64 first] 3) := ⟨_, rfl⟩
  have ho3 : w3.ownsRow w.heap.size 3 1 (.slice (some ⟨w2.heap.size, 0, none⟩) 1 1) 1 [.int .i64 first] := by
    rw [hw3]; exact own_made .i64 w2 3 [first] rfl (by omega) (by unfold maxLen; simp)
  have h3s : w3.heap.size = w2.heap.size + 1 := by rw [hw3]; simp
  have hb3 : Below w.heap.size w w3 := by rw [hw3]; exact hb2.alloc hb2.size _
  have m3 : CtMap w3 w.heap.size (0 + 1) (fun q => ([] ++ [first]).count q) := m2.kept (by rw [hw3]; exact Below.heap_alloc _ _ _ (by omega))
  have hA : Below w3.heap.size w3 (w3.alloc (.cells #[.slice (some ⟨w2.heap.size, 0, none⟩) 1 1, .map (some w.heap.size)] 60)) := (Below.refl _ _).alloc (Nat.le_refl _) _
  refine ⟨w2, hu', ?_, ?_⟩
  · rw [← hw3]
    refine ⟨.slice (some ⟨w2.heap.size, 0, none⟩) 1 1, w.heap.size, 1, ?_, own_below ho3 (Nat.le_refl _) hA, m3.kept (hA.block _ m3.lt), by simp, by omega, Nat.le_refl _, by omega, fun e => ?_, fun e => ?_⟩
    · rw [← h3s]; exact World.alloc_heap_new _ _
    · have := Option.some.inj e
      simp at this
    · have := Option.some.inj e
      simp at this
      omega
  · rw [← hw3]; exact below_then hb3 hA
end Go.Proofs.YtfidfbgplfjakaaDoor

/- The walks of the chapter on long values: slices.ContainsFunc over integers with a closure; slices.Clone. -/
namespace Go.Proofs.YtfidfbgplfjakaaDoor
open Go.RowKit Go.Maps

/-- What so many elements tell: none was told of. -/
def NoneTo (bad : Nat → Bool) (k : Nat) : Prop := ∀ j, j < k → bad j = false
def FindPost (len : Nat) (bad : Nat → Bool) (Inv : Nat → World → Prop) (w' : World) : Prop :=
  (NoneTo bad len ∧ Inv len w') ∨ (∃ k, k < len ∧ bad k = true ∧ NoneTo bad k ∧ Inv k w')
set_option maxRecDepth 100000 in
set_option maxHeartbeats 2000000 in
theorem indexf_any {w : World} {a : Option Addr} {len cap : Nat} {l : List Int} (h : Row .i64 w a len cap l) (fn : Nat) (lb : Array Value)
    (HF : ∀ (args : Array Value) (W : World), (callFunc fn args).run Tryd.prog W = .ok (.enter fn args) W) (bad : Nat → Bool) (Inv : Nat → World → Prop)
    (h0 : Inv 0 w) (hR : ∀ k W, Inv k W → Row .i64 W a len cap l)
    (C : ∀ k W, k < len → NoneTo bad k → Inv k W → Calls Tryd.prog fn (#[.int .i64 (atC l k)] ++ lb) W fun e w' => e = .returned (.bool (bad k)) ∧ Inv (if bad k then k else k + 1) w') :
    Calls Tryd.prog 44 #[.slice a len cap, .func (.func fn) #[] lb] w fun e w' => ∃ i : Int, e = .returned (.int .i64 i) ∧ (0 ≤ i ↔ ¬ NoneTo bad len) ∧ FindPost len bad Inv w' := by
  obtain ⟨hl, hc, hm⟩ := h.lensC
  have HL := Lib.hid hl
  have H0 := Lib.hid h0
  have HRR := Lib.hid hR
  have HC := Lib.hid C
  clear hl h h0 hR C
  go_enter Tryd.func44, Tryd.ntmps44
  go_wp2_with fail
  go_loopw [5, 8] (fun s5 s wr => ∃ i : Nat, i ≤ len ∧ s = .int .i64 i ∧ NoneTo bad i ∧ Inv i wr) (fun _ s _ => len - (intOf s).toNat)
  case atStart => exact ⟨0, Nat.zero_le _, rfl, fun j hj => by omega, H0.out⟩
  case round =>
    clear H0
    obtain ⟨i, hi, rfl, hall, hinv⟩ := hrel
    by_cases hlt : i < len
    · obtain ⟨b, off, rfl, hb, hcell⟩ := (HRR.out i wr hinv).cellC hlt
      have c1 := hcell i hlt
      have C1 := HC.out i wr hlt hall hinv
      have HA := Lib.hid hall
      clear hcell hinv hall
      generalize atC l i = x at *
      cases hbad : bad i
      · have HB := Lib.hid hbad
        rw [hbad] at C1
        simp only [Bool.false_eq_true, if_false] at C1
        clear hbad
        go_wp2_with fail
        refine C1.mono ?_
        rintro e w2 ⟨rfl, hinv⟩
        have HI := Lib.hid hinv
        clear C1 hinv
        go_wp2_with fail
        go_roundw
        case rel => exact ⟨i + 1, hlt, by go_num, fun j hj => by
          by_cases hji : j = i
          · subst hji; exact HB.out
          · exact HA.out j (by omega), HI.out⟩
        case measure => simp [intOf]; omega
      · have HB := Lib.hid hbad
        rw [hbad] at C1
        simp only [if_true] at C1
        clear hbad
        go_wp2_with fail
        refine C1.mono ?_
        rintro e w2 ⟨rfl, hinv⟩
        have HI := Lib.hid hinv
        clear C1 hinv
        go_wp2_with fail
        go_ret
        exact ⟨_, rfl, ⟨fun _ h => absurd (h i hlt) (by rw [HB.out]; decide), fun _ => by omega⟩, .inr ⟨i, hlt, HB.out, HA.out, HI.out⟩⟩
    · obtain rfl : i = len := by omega
      have HA := Lib.hid hall
      have HI := Lib.hid hinv
      clear hall hinv
      go_wp2_with fail
      go_ret
      exact ⟨_, rfl, ⟨fun h => absurd h (by decide), fun h => absurd HA.out h⟩, .inl ⟨HA.out, HI.out⟩⟩
theorem containsf_any {w : World} {a : Option Addr} {len cap : Nat} {l : List Int} (h : Row .i64 w a len cap l) (fn : Nat) (lb : Array Value)
    (HF : ∀ (args : Array Value) (W : World), (callFunc fn args).run Tryd.prog W = .ok (.enter fn args) W) (bad : Nat → Bool) (Inv : Nat → World → Prop)
    (h0 : Inv 0 w) (hR : ∀ k W, Inv k W → Row .i64 W a len cap l)
    (C : ∀ k W, k < len → NoneTo bad k → Inv k W → Calls Tryd.prog fn (#[.int .i64 (atC l k)] ++ lb) W fun e w' => e = .returned (.bool (bad k)) ∧ Inv (if bad k then k else k + 1) w') :
    Calls Tryd.prog 23 #[.slice a len cap, .func (.func fn) #[] lb] w fun e w' => ∃ b : Bool, e = .returned (.bool b) ∧ (b = true ↔ ¬ NoneTo bad len) ∧ FindPost len bad Inv w' := by
  have X := indexf_any h fn lb HF bad Inv h0 hR C
  clear C h0 hR h
  go_enter Tryd.func23, Tryd.ntmps23
  go_wp2_with fail
  refine X.mono ?_
  rintro e w' ⟨i, rfl, hi, hp⟩
  have HI := Lib.hid hi
  have HP := Lib.hid hp
  clear X hi hp
  go_wp2_with fail
  go_ret
  exact ⟨_, rfl, by rw [decide_eq_true_eq]; exact HI.out, HP.out⟩

set_option maxRecDepth 100000 in
set_option maxHeartbeats 2000000 in
/-- slices.Clone of integers that are there. -/
theorem clonei_any {w : World} {a : Option Addr} {len cap : Nat} {l : List Int} (h : Row .i64 w a len cap l) (hlen : len ≤ 100000) :
    Calls Tryd.prog 26 #[.slice a len cap] w fun e w' => ∃ v, e = .returned v ∧ w'.ownsRow w.heap.size 3 1 v len (l.map (Value.int .i64)) ∧ Below w.heap.size w w' := by
  obtain ⟨i0, hi, hz0, hz1, hz2⟩ := info_parts info_i64C
  cases a with
  | none =>
    have hc := h.2.2.2.1 rfl
    have h0 : len = 0 := by have := h.2.1; omega
    subst hc h0
    have hl0 : l = [] := List.eq_nil_of_length_eq_zero h.1
    have HL := Lib.hid hl0
    clear hl0
    have hq : ∀ W : World, (binOp .eql 22 (.slice none 0 0) (.slice none 0 0)).run Tryd.prog W = .ok (.bool true) W := fun W => Lib.run_eql_slice_nil W _ _ none 0 0 0 0 Tryd.underlying22
    go_enter Tryd.func26, Tryd.ntmps26
    go_wp2
    go_ret
    exact ⟨_, rfl, by rw [HL.out]; exact ⟨rfl, .inl ⟨rfl, rfl⟩⟩, Below.refl _ _⟩
  | some x =>
    have hm := h.2.2.1
    unfold maxLen at hm
    have hq : ∀ W : World, (binOp .eql 22 (.slice (some x) len cap) (.slice none 0 0)).run Tryd.prog W = .ok (.bool false) W := fun W => Lib.run_eql_slice_nil W _ _ (some x) len cap 0 0 Tryd.underlying22
    go_enter Tryd.func26, Tryd.ntmps26
    go_wp2_with (at_builtin; refine wpList_append_row rfl _ _ 22 rfl w.heap.size 3 i0 _ 8 Tryd.underlying22 hi hz0 hz1 hz2 rfl _ 0 [] rfl (own_made .i64 w 3 [] rfl (Nat.le_refl _) (by unfold maxLen; simp)) .i64 (some x) len cap l rfl (h.below (Nat.le_refl _) ((Below.refl _ _).alloc (Nat.le_refl _) _)) (by unfold maxLen; omega) (by omega) (by simp) ?_)
    intro v2 w2 hown hg
    have hB := ((Below.refl w.heap.size w).alloc (Nat.le_refl _) (.cells #[] 3)).grown hg (by simp) (fun k e => by cases e; exact Nat.le_refl _)
    clear hg
    have hown' : w2.ownsRow w.heap.size 3 1 v2 len (l.map (Value.int .i64)) := by simpa using hown
    clear hown
    go_wp2
    go_ret
    exact ⟨_, rfl, hown', hB⟩
end Go.Proofs.YtfidfbgplfjakaaDoor

/- The walks of the chapter on long values: slices.Grow and slices.Concat. -/
namespace Go.Proofs.YtfidfbgplfjakaaDoor
open Go.RowKit

theorem run_append_nil_zeros {P : Program} (w : World) (t u ty e : TypeId) (k : IntKind) (i : TypeInfo) (z : Value) (ht : P.underlying t = some (.slice e)) (hu : P.underlying u = some (.int k)) (hi : P.info? e = some i) (hz : i.zero = some z) (hz1 : i.size = 1)
    (n : Nat) (h0 : 0 < n) (h9 : n ≤ 100000) (hby : i.bytes ≤ 100) :
    (Builtin.append_ #[t, u] ty #[.slice none 0 0, .int .i64 (n : Int)]).run P w =
      .ok (.slice (some ⟨w.heap.size, 0, none⟩) n (grownCap w n 0 e))
        (w.drew.alloc (.cells (Builtin.zeroCells z.cells n ++ Builtin.zeroCells z.cells (grownCap w n 0 e - n)) e)) := by
  have hn : n ≠ 0 := by omega
  have hle : ¬ ((n : Int) ≤ 0) := by omega
  have hneg : ¬ ((n : Int) < 0) := by omega
  have hw : IntKind.i64.wrap (n : Int) = (n : Int) := by simp [IntKind.wrap, IntKind.signed, IntKind.bits]; omega
  have hmul : n * i.bytes ≤ 10000000 := Nat.le_trans (Nat.mul_le_mul h9 hby) (by omega)
  have h48 : ¬ ((281474976710656 : Int) < (n : Int) * (i.bytes : Int)) := by
    have : ((n * i.bytes : Nat) : Int) ≤ 10000000 := by omega
    rw [Int.natCast_mul] at this; omega
  have h63' : ¬ (9223372036854775807 < (n : Int)) := by omega
  have h48' : ¬ (281474976710656 < Builtin.nextslicecap n 0 * i.bytes) := by rw [nextslicecap_zero h0]; omega
  simp [Builtin.append_, run_underlying ht, run_underlying hu, sizeOf, typeInfo, zeroValue, hi, hz, hz1, asInt, asIntOf, hw, hneg, hle, h48, hn, Builtin.firstCells, h63', h48', Question.forced, newRow, grownCap]

theorem run_append_nil_zeros8 (w : World) (n : Nat) (h0 : 0 < n) (h9 : n ≤ 100000) :
    ∃ c w', (Builtin.append_ #[31, 3] 31 #[.slice none 0 0, .int .i64 (n : Int)]).run Tryd.prog w = .ok (.slice (some ⟨w.heap.size, 0, none⟩) n c) w' ∧ n ≤ c ∧ c ≤ 9223372036854775807 ∧ w'.ownsRow w.heap.size 5 1 (.slice (some ⟨w.heap.size, 0, none⟩) 0 c) 0 [] ∧ Below w.heap.size w w' := by
  obtain ⟨i0, hi, hz0, hz1, hz2⟩ := info_parts info_u8
  have hr := run_append_nil_zeros (P := Tryd.prog) w 31 3 31 5 .i64 i0 _ Tryd.underlying31 Tryd.underlying3 hi hz0 hz1 n h0 h9 (by rw [hz2]; omega)
  have hge := grownCap_ge w n 0 5
  have hle := grownCap_le_maxLen w n 0 5 (by unfold maxLen; omega)
  refine ⟨_, _, hr, hge, by unfold maxLen at hle; omega, ⟨rfl, .inr ⟨_, _, _, rfl, Nat.le_refl _, World.alloc_heap_new w.drew _, Nat.zero_le _, hle, ?_, by simp⟩⟩, ((Below.refl _ _).drew).alloc (Nat.le_refl _) _⟩
  have h1 : (Value.int IntKind.u8 0).cells.size = 1 := rfl
  simp [Builtin.zeroCells, h1]
  omega
set_option maxRecDepth 100000 in
set_option maxHeartbeats 2000000 in
theorem grow_any (n : Nat) (h0 : 0 < n) (h9 : n ≤ 100000) (w : World) :
    Calls Tryd.prog 49 #[.slice none 0 0, .int .i64 (n : Int)] w fun e w' => ∃ v, e = .returned v ∧ w'.ownsRow w.heap.size 5 1 v 0 [] ∧ Below w.heap.size w w' := by
  obtain ⟨c, w', hr, hc1, hc2, ho, hb⟩ := run_append_nil_zeros8 w n h0 h9
  have d0 : decide ((n : Int) < 0) = false := by simp
  have d1 : decide ((0 : Int) < n) = true := by simp; omega
  have d1' : decide (0 < n) = true := by simp; omega
  have HO := Lib.hid ho
  have HB := Lib.hid hb
  clear ho hb
  go_enter Tryd.func49, Tryd.ntmps49
  go_wp2_with (at_builtin; refine wpList_append_run rfl _ _ _ _ rfl rfl rfl hr ?_)
  go_ret
  exact ⟨_, rfl, HO.out, HB.out⟩

theorem lensC_succ (L : List (List UInt8)) (i : Nat) (hi : i < L.length) : lens (L.take (i + 1)) = lens (L.take i) + (L[i]?.getD []).length ∧ (L.take (i + 1)).flatten = (L.take i).flatten ++ L[i]?.getD [] := by
  have e : L.take (i + 1) = L.take i ++ [L[i]?.getD []] := by rw [List.take_succ_eq_append_getElem hi, List.getElem?_eq_getElem hi]; rfl
  rw [e, lens_append, lens_one]
  exact ⟨rfl, by rw [List.flatten_append]; simp⟩
theorem lensC_take (L : List (List UInt8)) (i : Nat) : lens (L.take i) ≤ lens L := by
  have : lens L = lens (L.take i) + lens (L.drop i) := by
    conv => lhs; rw [← List.take_append_drop i L]
    simp only [lens, List.map_append, List.sum_append]
  omega
theorem flatten_length (L : List (List UInt8)) : L.flatten.length = lens L := by simp [lens, List.length_flatten]
set_option maxRecDepth 100000 in
set_option maxHeartbeats 4000000 in
theorem concat_any {w : World} {a : Option Addr} {len cap : Nat} {L : List (List UInt8)} (h : Bss w a len cap L) (h0 : 0 < lens L) (h9 : lens L ≤ 10000) :
    Calls Tryd.prog 29 #[.slice a len cap] w (OwnBytes 5 w L.flatten) := by
  have hl : L.length = len := h.1
  have hc := h.2.1
  have hm := h.2.2.1
  unfold maxLen at hm
  obtain ⟨i0, hi, hz0, hz1, hz2⟩ := info_parts info_u8
  have H := Lib.hid h
  have HL := Lib.hid hl
  clear h hl
  go_enter Tryd.func29, Tryd.ntmps29
  go_wp2_with fail
  go_loopw [3, 5, 11] (fun s3 s5 s11 wr => ∃ i : Nat, i ≤ len ∧ s11 = .int .i64 i ∧ s3 = .int .i64 (lens (L.take i) : Int) ∧ wr = w) (fun _ _ s _ => len - (intOf s).toNat)
  case atStart => exact ⟨0, Nat.zero_le _, rfl, rfl, rfl⟩
  case round =>
    obtain ⟨i, hi2, rfl, rfl, rfl⟩ := hrel
    have hle := lensC_take L i
    by_cases hlt : i < len
    · obtain ⟨b, off, a', n', cap', rfl, hbb, hcell, hbs⟩ := H.out.at hlt
      have hsn := (lensC_succ L i (by rw [HL.out]; exact hlt)).1
      have hle2 := lensC_take L (i + 1)
      have hnl := hbs.len
      have HS := Lib.hid (show lens (L.take (i + 1)) = lens (L.take i) + n' by omega)
      have d0 : decide ((lens (L.take i) : Int) + (n' : Int) < 0) = false := by simp; omega
      have hcc := hbs.2.1
      have hcm := hbs.2.2.1
      unfold maxLen at hcm
      have hle3 : lens (L.take i) + n' ≤ 10000 := by omega
      clear hsn hbs hnl hle2
      generalize lens (L.take i) = q at *
      go_wp2_with fail
      go_roundw
      case rel => exact ⟨i + 1, hlt, by go_num, by rw [HS.out]; go_num, by first | rfl | trivial⟩
      case measure => simp [intOf]; omega
    · obtain rfl : len = i := by omega
      obtain ⟨wB, rfl⟩ : ∃ wB, wB = wr := ⟨_, rfl⟩
      have htl : L.take len = L := List.take_of_length_le (by rw [HL.out]; exact Nat.le_refl _)
      rw [htl]
      have G := grow_any (lens L) h0 (by omega) wB
      have HT := Lib.hid htl
      have HLE := Lib.hid h9
      clear htl hle
      obtain ⟨q, hq⟩ : ∃ q, lens L = q := ⟨_, rfl⟩
      rw [hq] at G ⊢
      have HQ := Lib.hid hq
      clear hq h0
      go_wp2_with fail
      refine G.mono ?_
      rintro e w2 ⟨v2, rfl, ho2, hb2⟩
      have HO2 := Lib.hid ho2
      have HB2 := Lib.hid hb2
      clear G ho2 hb2
      go_wp2_with fail
      go_loopw [6, 8, 27] (fun s6 s8 s27 wx => ∃ i : Nat, i ≤ len ∧ s27 = .int .i64 i ∧ wx.ownsRow wB.heap.size 5 1 s6 (lens (L.take i)) ((toI (L.take i).flatten).map (Value.int .u8)) ∧ Below wB.heap.size wB wx) (fun _ _ s _ => len - (intOf s).toNat)
      case atStart => exact ⟨0, Nat.zero_le _, rfl, HO2.out, HB2.out⟩
      case round =>
        clear HO2 HB2
        obtain ⟨i, hi2, rfl, hox, hbx⟩ := hrel
        have hle := lensC_take L i
        by_cases hlt : i < len
        · obtain ⟨b, off, a', n', cap', rfl, hbb, hcell, hbs⟩ := (H.out.below (Nat.le_refl _) hbx).at hlt
          obtain ⟨hs1, hs2⟩ := lensC_succ L i (by rw [HL.out]; exact hlt)
          have hle2 := lensC_take L (i + 1)
          have hnl := hbs.len
          have hcc := hbs.2.1
          have hcm := hbs.2.2.1
          unfold maxLen at hcm
          have hle9 := HLE.out
          obtain ⟨v10, w10, hr10, ho10, hg10, _⟩ := run_append_row (P := Tryd.prog) wB.heap.size 31 5 i0 _ 1 Tryd.underlying31 hi hz0 hz1 hz2 rfl hox hbs (by unfold maxLen; omega) (by omega) hbx.size
          have HB10 := Lib.hid (hbx.grown hg10 hbx.size (own_ge hox))
          have HO10 : Hid (w10.ownsRow _ 5 1 v10 (lens (L.take (i + 1))) ((toI (L.take (i + 1)).flatten).map (Value.int .u8))) := Lib.hid (by
            rw [hs1, hs2, hnl]; simpa [toI] using ho10)
          clear ho10 hg10 hox hbx hbs hs1 hs2 hnl hle hle2
          go_wp2_with (at_builtin; refine wpList_append_run rfl _ _ _ _ rfl rfl rfl hr10 ?_)
          go_roundw
          case rel => exact ⟨i + 1, hlt, by go_num, HO10.out, HB10.out⟩
          case measure => simp [intOf]; omega
        · obtain rfl : len = i := by omega
          rw [HT.out] at hox
          have HE : Hid (OwnBytes 5 _ L.flatten (.returned u6) _) := Lib.hid ⟨_, rfl, by rw [flatten_length]; exact hox, hbx⟩
          clear hox hbx hle
          go_wp2_with fail
          go_ret
          exact HE.out
end Go.Proofs.YtfidfbgplfjakaaDoor

/- The walks of the chapter on pages of cells: a page is unpacked, the walk. -/
namespace Go.Proofs.YtfidfbgplfjakaaDoor
open Go.RowKit

/-- What 'Unpack' hands back: a kind, cells of their own, an error. -/
def UnpPost (w : World) (k : UInt8) (l : List (List UInt8)) (er : Int) (e : Ending) (w' : World) : Prop :=
  ∃ v, e = .returned (.tuple #[.int .u8 (k.toNat : Int), v, .int .i64 er]) ∧ OwnBss w' w.heap.size v l ∧ Below w.heap.size w w'

set_option maxRecDepth 100000 in
set_option maxHeartbeats 1000000 in
theorem unpack_len (a : Option Addr) (len cap : Nat) (l : List UInt8) (w : World) (h : Bs w a len cap l) (hl : len ≠ 128) :
    Calls Tryd.prog 53 #[.slice a len cap] w fun e w' => e = .returned (.tuple #[.int .u8 0, .slice none 0 0, .int .i64 1]) ∧ w = w' := by
  have hne : ((len : Int) != 128) = true := by simp; omega
  have hne2 : ((len : Int) == 128) = false := by simp; omega
  have hc := h.cap
  unfold maxLen at hc
  go_enter Tryd.func53, Tryd.ntmps53
  go_wp2
  go_ret3
  exact ⟨rfl, rfl⟩

theorem tNum_four (l : List UInt8) (h : 4 ≤ l.length) : tNum ⟨l, 0⟩ 4 = (beVal (l.take 4), ⟨l.drop 4, 0⟩) := by
  simp [tNum, takeF, show ¬ l.length < 4 by omega]

set_option maxRecDepth 100000 in
set_option maxHeartbeats 1000000 in
theorem unpack_sum (a : Option Addr) (cap : Nat) (l : List UInt8) (w : World) (h : Bs w a 128 cap l) (hh : Half w) (hs : beVal (l.take 4) ≠ crcOf (l.drop 4)) :
    Calls Tryd.prog 53 #[.slice a 128 cap] w (UnpPost w 0 [] 12) := by
  have hll := Lib.hid h.len
  have hc := h.cap
  unfold maxLen at hc
  obtain ⟨a2, ha2, hsl⟩ := slice_from elem_bytes size_bytes a 128 cap 4 (by omega)
  have hsl4 : ∀ w, (Instr.slice 31 (.slice a 128 cap) (some (.int .i64 4)) none none).run Tryd.prog w = .ok (.slice a2 124 (cap - 4)) w := hsl .i64
  have hd := h.drop 4 (by omega)
  rw [← ha2] at hd
  have hT := take_any a 128 cap l w.drew h (by omega)
  have hO : ∀ W, Below w.heap.size w W → Calls Tryd.prog 47 #[.slice a2 124 (cap - 4)] W fun e w' => e = .returned (.int .u32 (crcOf (l.drop 4))) ∧ W = w' := fun W hW => crcOf_any _ _ _ _ W (hd.below (Nat.le_refl _) hW) (hh.below (Nat.le_refl _) hW)
  have hN : ∀ t W, Tk W t ⟨l, 0⟩ → Calls Tryd.prog 55 #[.pointer (some ⟨t, 0, none⟩), .int .i64 4] W (TkPost W t (fun _ v => v = .int .u64 (beVal (l.take 4) : Int)) ⟨l.drop 4, 0⟩) := fun t W hW => by
    have := tNum_any t ⟨l, 0⟩ 4 W hW (by rw [hll.out]; omega)
    rw [tNum_four l (by rw [hll.out]; omega)] at this
    exact this
  have hx := crcOn_lt 0 (l.drop 4)
  change crcOf _ < _ at hx
  generalize crcOf (l.drop 4) = s at *
  generalize beVal (l.take 4) = x at *
  have hne : ((x : Int) != (s : Int)) = true := by simp; omega
  have hw64 : (s : Int) % 18446744073709551616 = (s : Int) := by omega
  have hw64' : IntKind.u64.wrap (s : Int) = (s : Int) := by simp [IntKind.wrap, IntKind.signed, IntKind.bits]; omega
  have hB0 : Below w.heap.size w w.drew := (Below.refl _ _).drew
  clear ha2 hsl hs hh
  go_enter Tryd.func53, Tryd.ntmps53
  go_wp2_with fail
  go_region_with (first | (go_at_call 54; refine hT.mono ?_; rintro e w1 ⟨rfl, htk, hlt, hb1⟩; have hB1 := below_then hB0 hb1) | (go_at_call 55; refine (hN _ _ htk).mono ?_; rintro e w2 ⟨_, rfl, rfl, hg2, htk2⟩; have hB2 := below_take hB1 hlt hg2) | (go_at_call 47; refine (hO _ (by assumption)).mono ?_; rintro e wx ⟨rfl, rfl⟩))
  all_goals
    go_wp2
    go_ret3
    exact ⟨_, rfl, OwnBss.nil _ _, hB2⟩

def UnpOk (w : World) (l : List UInt8) (m : Nat) (e : Ending) (w' : World) : Prop :=
  if okS l m && (fits (kindS l) (cutS l m) && pageOf (kindS l) (cutS l m) == l) then UnpPost w (kindS l) (cutS l m) 0 e w' else UnpPost w 0 [] 11 e w'

theorem sub_run6 (b off cap n : Nat) (hn : n ≤ 122) (hc : 128 ≤ cap) (W : World) : (Instr.slice 31 (.slice (some ⟨b, off, none⟩) 128 cap) (some (.int .i64 6)) (some (.int .i64 (6 + (n : Int)))) (some (.int .i64 128))).run Tryd.prog W = .ok (.slice (some ⟨b, off + 6, none⟩) n 122) W := by
  obtain ⟨sa, hsa, hsr⟩ := sub_run elem_bytes size_bytes (some ⟨b, off, none⟩) 128 cap 6 (6 + n) 128 (by omega) (by omega) (by omega)
  have := hsr .i64 .i64 .i64 W
  rw [show 6 + n - 6 = n by omega, hsa] at this
  simpa [add_none] using this

theorem info_bytes : (Tryd.prog.info? 31).map (fun i => (i.zero, i.size, i.bytes)) = some (some (.slice none 0 0), 1, 24) := by kernel_rfl

set_option maxRecDepth 100000 in
set_option maxHeartbeats 4000000 in
theorem unpack_ok (a : Option Addr) (cap : Nat) (l : List UInt8) (w : World) (h : Bs w a 128 cap l) (hh : Half w) (hs : beVal (l.take 4) = crcOf (l.drop 4)) (m : Nat) (hm : (numS l ≤ 122 ∧ m = numS l) ∨ (122 < numS l ∧ m = 122)) :
    Calls Tryd.prog 53 #[.slice a 128 cap] w (UnpOk w l m) := by
  have hll := Lib.hid h.len
  have hc := h.cap
  unfold maxLen at hc
  obtain ⟨a2, ha2, hsl⟩ := slice_from elem_bytes size_bytes a 128 cap 4 (by omega)
  have hsl4 : ∀ w, (Instr.slice 31 (.slice a 128 cap) (some (.int .i64 4)) none none).run Tryd.prog w = .ok (.slice a2 124 (cap - 4)) w := hsl .i64
  have hd := h.drop 4 (by omega)
  rw [← ha2] at hd
  have hT := take_any a 128 cap l w.drew h (by omega)
  have hO : ∀ W, Below w.heap.size w W → Calls Tryd.prog 47 #[.slice a2 124 (cap - 4)] W fun e w' => e = .returned (.int .u32 (crcOf (l.drop 4))) ∧ W = w' := fun W hW => crcOf_any _ _ _ _ W (hd.below (Nat.le_refl _) hW) (hh.below (Nat.le_refl _) hW)
  have hN : ∀ t W, Tk W t ⟨l, 0⟩ → Calls Tryd.prog 55 #[.pointer (some ⟨t, 0, none⟩), .int .i64 4] W (TkPost W t (fun _ v => v = .int .u64 (beVal (l.take 4) : Int)) ⟨l.drop 4, 0⟩) := fun t W hW => by
    have := tNum_any t ⟨l, 0⟩ 4 W hW (by rw [hll.out]; omega)
    rw [tNum_four l (by rw [hll.out]; omega)] at this
    exact this
  have hx := crcOn_lt 0 (l.drop 4)
  change crcOf _ < _ at hx
  rw [hs] at hN
  generalize crcOf (l.drop 4) = s at *
  have hw64 : (s : Int) % 18446744073709551616 = (s : Int) := by omega
  have hw64' : IntKind.u64.wrap (s : Int) = (s : Int) := by simp [IntKind.wrap, IntKind.signed, IntKind.bits]; omega
  have hB0 : Below w.heap.size w w.drew := (Below.refl _ _).drew
  obtain ⟨b, off, rfl, hbb, hcell⟩ := h.cell (k := 0) (by omega)
  have H := Lib.hid h
  have HH := Lib.hid hh
  clear ha2 hsl hs hh hd h
  go_enter Tryd.func53, Tryd.ntmps53
  go_wp2_with fail
  go_region_with (first | (go_at_call 54; refine hT.mono ?_; rintro e w1 ⟨rfl, htk, hlt, hb1⟩; have hB1 := below_then hB0 hb1) | (go_at_call 55; refine (hN _ _ htk).mono ?_; rintro e w2 ⟨_, rfl, rfl, hg2, htk2⟩; have hB2 := below_take hB1 hlt hg2) | (go_at_call 47; refine (hO _ (by assumption)).mono ?_; rintro e wx ⟨rfl, rfl⟩))
  all_goals
    clear hT hO hN hsl4 htk htk2 hg2 hb1 hB1
    have hc4 : w2.cell? ⟨b, off + 4, none⟩ = some (.int .u8 ((kindS l).toNat : Int)) := (hB2.cell (p := ⟨b, off + 4, none⟩) hbb).trans (hcell 4 (by omega))
    have hc5 : w2.cell? ⟨b, off + 5, none⟩ = some (.int .u8 ((numS l : Nat) : Int)) := (hB2.cell (p := ⟨b, off + 5, none⟩) hbb).trans (hcell 5 (by omega))
    have hn256 : numS l < 256 := (l[5]?.getD 0).toNat_lt
    obtain ⟨i0, hi, hz0, hz1, hz2⟩ := info_parts info_bytes
    have hn0 : IntKind.i64.wrap ((numS l : Nat) : Int) = ((numS l : Nat) : Int) := IntWalk.i64_in _ (by omega)
    go_wp2_with fail
    go_quiet (fail)
    clear hc4 hc5 hn0
    have hB2 := below_drewN hB2 nq
    generalize w2.drewN nq = w3 at *
    rcases hm with ⟨hm1, hm2⟩ | ⟨hm1, hm2⟩
    all_goals
      have HM := Lib.hid hm2
      clear hm2
      try (have hs6 : ∀ W, (Instr.slice 31 (.slice (some ⟨b, off, none⟩) 128 cap) (some (.int .i64 6)) (some (.int .i64 (6 + ((numS l : Nat) : Int)))) (some (.int .i64 128))).run Tryd.prog W = .ok (.slice (some ⟨b, off + 6, none⟩) (numS l) 122) W := sub_run6 b off cap (numS l) hm1 hc.1)
      go_wp2_with fail
      try clear hs6
      go_loopw [8, 9, 42] (fun v e i wr => ∃ k : Nat, k ≤ m ∧ i = .int .i64 k ∧ e = .int .i64 ((endS l k : Nat) : Int) ∧ okS l k = true ∧ OwnBss wr w.heap.size v (cutS l k) ∧ Below w.heap.size w wr) (fun _ _ i _ => m - (intOf i).toNat)
      case atStart => exact ⟨0, Nat.zero_le _, rfl, rfl, rfl, OwnBss.nil _ _, hB2⟩
      case round =>
        obtain ⟨k, hk, rfl, rfl, hok, hown, hb⟩ := hrel
        by_cases hlt : k < m
        · have hck : wr.cell? ⟨b, off + 6 + k, none⟩ = some (.int .u8 ((slotS l k : Nat) : Int)) := by
            have hmm := HM.out
            rw [hb.cell (p := ⟨b, off + 6 + k, none⟩) hbb, Nat.add_assoc, hcell (6 + k) (by omega)]; rfl
          have hklt : k < 122 ∧ k < numS l := by have := HM.out; omega
          have hend := okS_end l k hok
          have hsl := slotS_lt l k
          have hes : endS l (k + 1) = slotS l k := rfl
          have hok1 := okS_succ l k
          rw [hok, Bool.true_and] at hok1
          by_cases hle : slotS l k ≤ endS l k
          · obtain ⟨sa, hsa, hsr⟩ := sub_run elem_bytes size_bytes (some ⟨b, off, none⟩) 128 cap (slotS l k) (endS l k) (endS l k) hle (Nat.le_refl _) (by omega)
            have hrow := (H.out.below (Nat.le_refl _) hb).sub (slotS l k) (endS l k) (endS l k) hle (by omega) (Nat.le_refl _) (by omega)
            rw [← hsa] at hrow
            have hrow : Bs wr sa (endS l k - slotS l k) (endS l k - slotS l k) (cellS l k) := hrow
            have hcut := Lib.hid (cutS_succ l k)
            have HES := Lib.hid hes
            have HOK : Hid (okS l (k + 1) = true) := Lib.hid (by rw [hok1]; simpa using hle)
            clear hsa hes hok1 hok
            generalize slotS l k = q at *
            generalize endS l k = e at *
            generalize cellS l k = c at *
            have hle2 : ¬ (e : Int) < (q : Int) := by omega
            go_wp2_with fail
            refine (bclone_any sa (e - q) (e - q) c wr hrow (by omega)).mono ?_
            rintro e1 w4 ⟨u, rfl, hu, hb4⟩
            obtain ⟨a9, c9, rfl, _⟩ := own_slice hu
            obtain ⟨vs, ho1, ho2, ho3⟩ := (hown.below (Nat.le_refl _) hb4).below (Nat.le_refl _) ((Below.refl _ _).alloc (Nat.le_refl _) (.cells #[.slice a9 c.length c9] 31))
            rw [cutS_length] at ho1
            have hcl : (w4.alloc (.cells #[.slice a9 c.length c9] 31)).cell? ⟨w4.heap.size, 0, none⟩ = some (.slice a9 c.length c9) := by
              simp only [World.cell?, World.alloc_heap_new]; rfl
            have HU := Lib.hid ((own_base hu hb.size).alloc (.cells #[.slice a9 c.length c9] 31))
            have HB4 := Lib.hid ((below_then hb hb4).alloc (below_then hb hb4).size (.cells #[.slice a9 c.length c9] 31))
            have HSZ := Lib.hid (show w.heap.size ≤ w4.heap.size from Nat.le_trans hb.size hb4.size)
            have HL := Lib.hid (cutS_length l k)
            have HO2 := Lib.hid ho2
            have HO3 := Lib.hid ho3
            clear ho2 ho3 hu hown hb4 hrow
            go_wp2_with (at_builtin; refine wpList_append_one rfl _ _ 24 rfl w.heap.size 31 i0 _ 24 Tryd.underlying24 hi hz0 hz1 hz2 rfl _ k vs rfl ho1 w4.heap.size rfl (.slice a9 c.length c9) hcl rfl (by unfold maxLen; omega) (by omega) (by have := HSZ.out; simp; omega) ?_)
            intro v2 w5 hown2 hg
            have HSN := Lib.hid (OwnBss.snoc ho1 HL.out.symm HO2.out HO3.out HU.out hg hown2)
            have HB := Lib.hid (HB4.out.grown hg (by have := HSZ.out; simp; omega) (own_ge ho1))
            clear hg hown2 ho1
            go_wp2
            go_roundw
            case rel => exact ⟨k + 1, by omega, by go_num, by rw [HES.out], HOK.out, by rw [hcut.out]; exact HSN.out, HB.out⟩
            case measure => simp [intOf]; omega
          · have hres : (okS l m && (fits (kindS l) (cutS l m) && pageOf (kindS l) (cutS l m) == l)) = false := by
              rw [okS_mono l (m := k + 1) (by rw [hok1]; simpa using hle) hlt, Bool.false_and]
            have HR := Lib.hid hres
            clear hres hok1 hes hok hown hend
            generalize slotS l k = q at *
            generalize endS l k = e at *
            have hle2 : (e : Int) < (q : Int) := by omega
            go_wp2_with fail
            go_ret3
            rw [UnpOk, HR.out]
            exact ⟨_, rfl, OwnBss.nil _ _, hb⟩
        · obtain rfl : k = m := by omega
          obtain ⟨ao, co, rfl, hbss⟩ := hown.bss
          have hcl := cutS_lens l k hll.out hok
          have hcn := cutS_length l k
          rw [hcn] at hbss
          have hpk := pack_any (kindS l) ao k co (cutS l k) wr hbss (HH.out.below (Nat.le_refl _) hb) (by have := HM.out; omega)
          rw [hcn] at hown
          have hout := Lib.hid hown
          rw [hcn]
          have hbase := hb.size
          have hrow := H.out.below (Nat.le_refl _) hb
          have HOKK := Lib.hid hok
          try (have hge : numS l ≤ k := by have := HM.out; omega)
          try (have hge2 : 122 ≤ k := by have := HM.out; omega)
          clear hcl hcn hok hown hbss
          by_cases hf : fits (kindS l) (cutS l k) = true
          · have hpv : packV (kindS l) (cutS l k) = pageOf (kindS l) (cutS l k) := by rw [packV, if_pos hf]
            have hpe : packE (kindS l) (cutS l k) = 0 := by rw [packE, if_pos hf]
            rw [hpv, hpe] at hpk
            have HF := Lib.hid hf
            clear hpv hpe hf
            go_wp2_with fail
            refine hpk.mono ?_
            rintro e w5 ⟨v5, rfl, hown5, hb5⟩
            obtain ⟨a5, c5, rfl, hbs5⟩ := Bs.of_own hown5
            have hB5 := below_then hb hb5
            have HOUT5 := Lib.hid (hout.out.below (Nat.le_refl _) hb5)
            go_wp2_with fail
            refine (equal_any a5 _ c5 (pageOf (kindS l) (cutS l k)) (some ⟨b, off, none⟩) 128 cap l w5 hbs5 (hrow.below (Nat.le_refl _) hb5)).mono ?_
            rintro e w6 ⟨rfl, rfl⟩
            have HR := Lib.hid (show (okS l k && (fits (kindS l) (cutS l k) && pageOf (kindS l) (cutS l k) == l)) = (pageOf (kindS l) (cutS l k) == l) by rw [HOKK.out, HF.out, Bool.true_and, Bool.true_and])
            cases hq : (pageOf (kindS l) (cutS l k) == l)
            · have HQ := Lib.hid hq
              clear hq hpk hrow hb hown5 hbs5 hb5
              go_wp2_with fail
              go_ret3
              rw [UnpOk, HR.out, HQ.out]
              exact ⟨_, rfl, OwnBss.nil _ _, hB5⟩
            · have HQ := Lib.hid hq
              clear hq hpk hrow hb hown5 hbs5 hb5
              go_wp2_with fail
              go_ret3
              rw [UnpOk, HR.out, HQ.out]
              exact ⟨_, rfl, HOUT5.out, hB5⟩
          · have hpe : packE (kindS l) (cutS l k) = 1 := by rw [packE, if_neg hf]
            have hpv : packV (kindS l) (cutS l k) = [] := by rw [packV, if_neg hf]
            have HR := Lib.hid (show (okS l k && (fits (kindS l) (cutS l k) && pageOf (kindS l) (cutS l k) == l)) = false by rw [Bool.eq_false_iff.2 hf, Bool.false_and, Bool.and_false])
            rw [hpv, hpe] at hpk
            clear hpv hpe hf
            go_wp2_with fail
            refine hpk.mono ?_
            rintro e w5 ⟨v5, rfl, hown5, hb5⟩
            have hB5 := below_then hb hb5
            clear hpk hrow hb hown5 hb5
            go_wp2_with fail
            go_ret3
            rw [UnpOk, HR.out]
            exact ⟨_, rfl, OwnBss.nil _ _, hB5⟩
end Go.Proofs.YtfidfbgplfjakaaDoor

/- The walks of the chapter on pages of cells: rows of texts held against each other; the document's pages, unpacked. -/
namespace Go.Proofs.YtfidfbgplfjakaaDoor
open Go.RowKit

theorem beBytes_beVal (t : List UInt8) : beBytes (beVal t) t.length = t := by
  have key : ∀ r : List UInt8, beBytes (beVal r.reverse) r.reverse.length = r.reverse := by
    intro r
    induction r with
    | nil => rfl
    | cons b r ih =>
      rw [List.reverse_cons, beVal_snoc, List.length_append]
      show beBytes _ (r.reverse.length + 1) = _
      rw [beBytes]
      have hb := b.toNat_lt
      have e1 : (beVal r.reverse * 256 + b.toNat) / 256 = beVal r.reverse := by omega
      have e2 : UInt8.ofNat (beVal r.reverse * 256 + b.toNat) = b := by
        apply UInt8.toNat_inj.1
        rw [UInt8.toNat_ofNat']; omega
      rw [e1, e2, ih]
  have := key t.reverse
  rwa [List.reverse_reverse] at this
theorem be_iff (t : List UInt8) (x : Nat) (hx : x < 256 ^ t.length) : (beBytes x t.length == t) = decide (beVal t = x) := by
  by_cases h : beVal t = x
  · subst h; rw [beBytes_beVal]; simp
  · have : beBytes x t.length ≠ t := by
      intro e
      apply h
      have h2 := beVal_beBytes x t.length
      rw [e, Nat.mod_eq_of_lt hx] at h2
      exact h2
    simp [h, this]

theorem unpack_any (a : Option Addr) (len cap : Nat) (l : List UInt8) (w : World) (h : Bs w a len cap l) (hh : Half w) :
    Calls Tryd.prog 53 #[.slice a len cap] w (UnpPost w (unpK l) (unpL l) (unpE l)) := by
  have hl := h.len
  by_cases h1 : len = 128
  · subst h1
    by_cases h2 : beVal (l.take 4) = crcOf (l.drop 4)
    · refine (unpack_ok a cap l w h hh h2 (min (numS l) 122) (by omega)).mono ?_
      intro e w' hp
      unfold UnpOk at hp
      have hE : unpE l = if unpB l then 0 else 11 := by rw [unpE, if_neg (by omega), if_neg (by simpa using h2)]
      by_cases hB : unpB l = true
      · rw [if_pos (show (okS l (min (numS l) 122) && (fits (kindS l) (cutS l (min (numS l) 122)) && pageOf (kindS l) (cutS l (min (numS l) 122)) == l)) = true from hB)] at hp
        rw [if_pos hB] at hE
        rw [unpK, unpL, hE]; exact hp
      · have hn : ¬ (okS l (min (numS l) 122) && (fits (kindS l) (cutS l (min (numS l) 122)) && pageOf (kindS l) (cutS l (min (numS l) 122)) == l)) = true := hB
        rw [if_neg hn] at hp
        rw [if_neg hB] at hE
        rw [unpK, unpL, hE]; exact hp
    · refine (unpack_sum a cap l w h hh h2).mono ?_
      intro e w' hp
      have hE : unpE l = 12 := by rw [unpE, if_neg (by omega), if_pos h2]
      rw [unpK, unpL, hE]; exact hp
  · refine (unpack_len a len cap l w h h1).mono ?_
    rintro e w' ⟨rfl, rfl⟩
    have hE : unpE l = 1 := by rw [unpE, if_pos (by omega)]
    rw [unpK, unpL, hE]
    exact ⟨_, rfl, OwnBss.nil _ _, Below.refl _ _⟩

/-- The call only reads; it hands back a bool. -/
def DrewB (w : World) (b : Bool) (e : Ending) (w' : World) : Prop := ∃ q : Nat, e = .returned (.bool b) ∧ w' = w.drewN q

set_option maxRecDepth 100000 in
set_option maxHeartbeats 1000000 in
theorem same_any (a b : Option Addr) (n cap m cap2 : Nat) (l r : List (List UInt8)) (w : World) (h : Strs w a n cap l) (h2 : Strs w b m cap2 r) :
    Calls Tryd.prog 13 #[.slice a n cap, .slice b m cap2] w (DrewB w (l == r)) := by
  have hl1 := h.1
  have hl2 := h2.1
  have hm := h.2.2.1
  have hc := h.2.1
  have hm2 := h2.2.2.1
  have hc2 := h2.2.1
  unfold maxLen at hm hm2
  by_cases hnm : n = m
  · subst hnm
    have HL1 := Lib.hid hl1
    have HL2 := Lib.hid hl2
    have hne : ((n : Int) != (n : Int)) = false := by simp
    clear hl1 hl2
    go_enter Tryd.func13, Tryd.ntmps13
    go_wp2
    go_loopw [4, 5] (fun r0 i wr => ∃ k q : Nat, k ≤ n ∧ i = .int .i64 k ∧ r0 = .bool false ∧ l.take k = r.take k ∧ wr = w.drewN q) (fun _ i _ => n - (intOf i).toNat)
    case atStart => exact ⟨0, 0, Nat.zero_le _, rfl, rfl, rfl, rfl⟩
    case round =>
      obtain ⟨k, q, hk, rfl, rfl, htk, rfl⟩ := hrel
      by_cases hlt : k < n
      · obtain ⟨b1, off1, rfl, _, hc1⟩ := h.at hlt
        obtain ⟨b2, off2, rfl, _, hc2⟩ := h2.at hlt
        have t1 := take_snoc l k [] (by rw [HL1.out]; exact hlt)
        have t2 := take_snoc r k [] (by rw [HL2.out]; exact hlt)
        have i1 : l[k]? = some (l[k]?.getD []) := by rw [List.getElem?_eq_getElem (by rw [HL1.out]; exact hlt)]; rfl
        have i2 : r[k]? = some (r[k]?.getD []) := by rw [List.getElem?_eq_getElem (by rw [HL2.out]; exact hlt)]; rfl
        generalize l[k]?.getD [] = x at *
        generalize r[k]?.getD [] = y at *
        have HT := Lib.hid htk
        have T1 := Lib.hid t1
        have T2 := Lib.hid t2
        have I1 := Lib.hid i1
        have I2 := Lib.hid i2
        clear htk t1 t2 i1 i2
        have hst := strOf_toList
        have hc1 : (w.drewN q).cell? ⟨b1, off1 + k, none⟩ = some (.string (strOf x)) := hc1
        have hc2 : (w.drewN q).cell? ⟨b2, off2 + k, none⟩ = some (.string (strOf y)) := hc2
        by_cases hxy : x = y
        · subst hxy
          have hq1 : (x != x) = false := by simp
          have hq2 : (x == x) = true := by simp
          go_wp2_with fail
          go_quiet (fail)
          go_wp2
          go_roundw
          case rel => exact ⟨k + 1, q + nq, by omega, by go_num, rfl, by rw [T1.out, T2.out, HT.out], rfl⟩
          case measure => simp [intOf]; omega
        · have hq1 : (x != y) = true := by simpa using hxy
          have hq2 : (x == y) = false := by simpa using hxy
          have HR : Hid ((l == r) = false) := Lib.hid (by
            rw [beq_eq_false_iff_ne]
            intro e
            have := I1.out
            rw [e, I2.out] at this
            exact hxy (Option.some.inj this).symm)
          clear hxy
          go_wp2_with fail
          go_quiet (fail)
          go_wp2
          go_ret
          exact ⟨q + nq, by rw [HR.out]; rfl, by simp [World.drewN, Nat.add_assoc]⟩
      · obtain rfl : k = n := by omega
        have x1 : l.take k = l := List.take_of_length_le (by rw [HL1.out]; exact Nat.le_refl _)
        have x2 : r.take k = r := List.take_of_length_le (by rw [HL2.out]; exact Nat.le_refl _)
        rw [x1, x2] at htk
        have HR : Hid ((l == r) = true) := Lib.hid (by simpa using htk)
        clear x1 x2 htk
        go_wp2
        go_ret
        exact ⟨q, by rw [HR.out]; rfl, rfl⟩
  · have hne : ((n : Int) != (m : Int)) = true := by simp; omega
    have hne2 : ((n : Int) == (m : Int)) = false := by simp; omega
    have HR : Hid ((l == r) = false) := Lib.hid (by
      rw [beq_eq_false_iff_ne]
      intro e; rw [e] at hl1; omega)
    clear hl1 hl2
    go_enter Tryd.func13, Tryd.ntmps13
    go_wp2
    go_ret
    exact ⟨0, by rw [HR.out]; rfl, rfl⟩

end Go.Proofs.YtfidfbgplfjakaaDoor

/- The walks of the chapter on long values: what a page has. -/
namespace Go.Proofs.YtfidfbgplfjakaaDoor
open Go.RowKit

def oneFEC (d : List Rg) (r p : Int) : Int := if pagedE d r p ≠ 0 then pagedE d r p else oneEC (readB d r p)
def oneFNC (d : List Rg) (r p : Int) : Int := if pagedE d r p ≠ 0 then 0 else oneNC (readB d r p)
def oneFPC (d : List Rg) (r p : Int) : List UInt8 := if pagedE d r p ≠ 0 then [] else onePC (readB d r p)
def OneC (w : World) (E N : Int) (l : List UInt8) (e : Ending) (w' : World) : Prop :=
  ∃ v, e = .returned (.tuple #[.int .i64 N, v, .int .i64 E]) ∧ w'.ownsRow w.heap.size 5 1 v l.length ((toI l).map (Value.int .u8)) ∧ Below w.heap.size w w'
theorem oneC_nil {w w' : World} {E : Int} (h : Below w.heap.size w w') : OneC w E 0 [] (.returned (.tuple #[.int .i64 0, .slice none 0 0, .int .i64 E])) w' := ⟨_, rfl, World.ownsRow_nil _ _ _ _, h⟩
theorem neqC_true {E : Int} (h : E ≠ 0) : (E != 0) = true := by simpa using h

set_option maxRecDepth 100000 in
set_option maxHeartbeats 4000000 in
theorem cone_page {w : World} {B da M : Nat} {d : List Rg} (h : One B w da M d) (r p : Int) (hE : pagedE d r p ≠ 0) :
    Calls Tryd.prog 40 #[.pointer (some ⟨da, 0, none⟩), .int .i64 r, .int .i64 p] w (OneC w (oneFEC d r p) (oneFNC d r p) (oneFPC d r p)) := by
  have hr := read_o h r p
  have HF := Lib.hid (show oneFEC d r p = pagedE d r p by rw [oneFEC, if_pos hE])
  have HN := Lib.hid (show oneFNC d r p = 0 by rw [oneFNC, if_pos hE])
  have HL := Lib.hid (show oneFPC d r p = [] by rw [oneFPC, if_pos hE])
  have hb := neqC_true hE
  generalize pagedE d r p = E at *
  clear hE
  go_enter Tryd.func40, Tryd.ntmps40
  go_wp2_with fail
  refine hr.mono ?_
  rintro e w1 ⟨v1, rfl, ho1, hb1⟩
  clear hr
  go_wp2_with fail
  go_ret3
  rw [HF.out, HN.out, HL.out]
  exact oneC_nil hb1
set_option maxRecDepth 100000 in
set_option maxHeartbeats 4000000 in
theorem cone_bad {w : World} {B da M : Nat} {d : List Rg} (h : One B w da M d) (hh : Half w) (r p : Int) (hE : pagedE d r p = 0) (hU : unpE (readB d r p) ≠ 0) :
    Calls Tryd.prog 40 #[.pointer (some ⟨da, 0, none⟩), .int .i64 r, .int .i64 p] w (OneC w (oneFEC d r p) (oneFNC d r p) (oneFPC d r p)) := by
  have hr := read_o h r p
  rw [hE] at hr
  have he : oneEC (readB d r p) = unpE (readB d r p) := by rw [oneEC, if_pos hU]
  have HF := Lib.hid (show oneFEC d r p = unpE (readB d r p) by rw [oneFEC, if_neg (by rw [hE]; simp), he])
  have HN := Lib.hid (show oneFNC d r p = 0 by rw [oneFNC, if_neg (by rw [hE]; simp), oneNC, he, if_neg hU])
  have HL := Lib.hid (show oneFPC d r p = [] by rw [oneFPC, if_neg (by rw [hE]; simp), onePC, he, if_neg hU])
  have hb := neqC_true hU
  clear he
  generalize readB d r p = b at *
  generalize hUE : unpE b = E at *
  have HUE := Lib.hid hUE
  clear hE hU hUE
  go_enter Tryd.func40, Tryd.ntmps40
  go_wp2_with fail
  refine hr.mono ?_
  rintro e w1 ⟨v1, rfl, ho1, hb1⟩
  obtain ⟨a1, c1, rfl, hbs1⟩ := Bs.of_own ho1
  have hu := unpack_any a1 b.length c1 b w1 hbs1 (hh.below (Nat.le_refl _) hb1)
  rw [HUE.out] at hu
  clear hr ho1 hbs1
  go_wp2_with fail
  refine hu.mono ?_
  rintro e w2 ⟨v2, rfl, ho2, hb2⟩
  have hB := below_then hb1 hb2
  clear hu ho2 hb1 hb2
  go_wp2_with fail
  go_ret3
  rw [HF.out, HN.out, HL.out]
  exact oneC_nil hB
set_option maxRecDepth 100000 in
set_option maxHeartbeats 4000000 in
theorem cone_form {w : World} {B da M : Nat} {d : List Rg} (h : One B w da M d) (hh : Half w) (r p : Int) (hE : pagedE d r p = 0) (hU : unpE (readB d r p) = 0) (hC : unpK (readB d r p) ≠ 3 ∨ (unpL (readB d r p)).length ≠ 1) :
    Calls Tryd.prog 40 #[.pointer (some ⟨da, 0, none⟩), .int .i64 r, .int .i64 p] w (OneC w (oneFEC d r p) (oneFNC d r p) (oneFPC d r p)) := by
  have hr := read_o h r p
  rw [hE] at hr
  have he : oneEC (readB d r p) = 11 := by rw [oneEC, if_neg (by rw [hU]; simp), if_pos hC]
  have HF := Lib.hid (show oneFEC d r p = 11 by rw [oneFEC, if_neg (by rw [hE]; simp), he])
  have HN := Lib.hid (show oneFNC d r p = 0 by rw [oneFNC, if_neg (by rw [hE]; simp), oneNC, he]; rfl)
  have HL := Lib.hid (show oneFPC d r p = [] by rw [oneFPC, if_neg (by rw [hE]; simp), onePC, he]; rfl)
  clear he
  generalize readB d r p = b at *
  have HUE := Lib.hid hU
  clear hE hU
  have main : ∀ (w1 : World) (a1 : Option Addr) (c1 : Nat), Bs w1 a1 b.length c1 b → Below w.heap.size w w1 → Calls Tryd.prog 53 #[.slice a1 b.length c1] w1 (UnpPost w1 (unpK b) (unpL b) 0) := fun w1 a1 c1 hbs hb => by
    have hu := unpack_any a1 b.length c1 b w1 hbs (hh.below (Nat.le_refl _) hb)
    rwa [HUE.out] at hu
  generalize unpK b = k at *
  generalize unpL b = L at *
  by_cases hk : k = 3
  · subst hk
    have hl : L.length ≠ 1 := by
      rcases hC with h | h
      · exact absurd rfl h
      · exact h
    have d1 : ((L.length : Int) == 1) = false := by rw [beq_eq_false_iff_ne]; omega
    have d2 : ((L.length : Int) != 1) = true := by rw [bne_iff_ne]; omega
    clear hC
    go_enter Tryd.func40, Tryd.ntmps40
    go_wp2_with fail
    refine hr.mono ?_
    rintro e w1 ⟨v1, rfl, ho1, hb1⟩
    obtain ⟨a1, c1, rfl, hbs1⟩ := Bs.of_own ho1
    have hu := main w1 a1 c1 hbs1 hb1
    clear hr ho1 hbs1
    go_wp2_with fail
    refine hu.mono ?_
    rintro e w2 ⟨v2, rfl, ho2, hb2⟩
    have hB := below_then hb1 hb2
    obtain ⟨a2, c2, rfl, hbss⟩ := ho2.bss
    have hl1 := hbss.2.1
    have hl2 := hbss.2.2.1
    unfold maxLen at hl2
    clear hu ho2 hb1 hb2 hbss
    go_wp2_with fail
    go_ret3
    rw [HF.out, HN.out, HL.out]
    exact oneC_nil hB
  · have d1 : ((k.toNat : Int) == 3) = false := by
      rw [beq_eq_false_iff_ne]
      intro e
      exact hk (UInt8.toNat_inj.1 (by show k.toNat = 3; omega))
    have d2 : ((k.toNat : Int) != 3) = true := by rw [bne_iff_ne]; exact beq_eq_false_iff_ne.1 d1
    clear hC
    go_enter Tryd.func40, Tryd.ntmps40
    go_wp2_with fail
    refine hr.mono ?_
    rintro e w1 ⟨v1, rfl, ho1, hb1⟩
    obtain ⟨a1, c1, rfl, hbs1⟩ := Bs.of_own ho1
    have hu := main w1 a1 c1 hbs1 hb1
    clear hr ho1 hbs1
    go_wp2_with fail
    refine hu.mono ?_
    rintro e w2 ⟨v2, rfl, ho2, hb2⟩
    have hB := below_then hb1 hb2
    obtain ⟨a2, c2, rfl, hbss⟩ := ho2.bss
    clear hu ho2 hb1 hb2 hbss
    go_wp2_with fail
    go_ret3
    rw [HF.out, HN.out, HL.out]
    exact oneC_nil hB
/-- What is taken of a page's one cell. -/
theorem taken_cell (C : List UInt8) (hC : C.length ≤ 128) : ∃ (x : Nat) (s1 : TSt) (P : List UInt8) (s2 : TSt), tNum ⟨C, 0⟩ 2 = (x, s1) ∧ tRest s1 = (P, s2) ∧ x < 65536 ∧ s1.l.length ≤ 128 ∧ ((C.length < 2 ∧ x = 0 ∧ P = [] ∧ s2.e = 10) ∨ (2 ≤ C.length ∧ x = beVal (C.take 2) ∧ P = C.drop 2 ∧ s2.e = 0)) := by
  by_cases h : C.length < 2
  · refine ⟨0, ⟨C, 10⟩, [], ⟨C, 10⟩, ?_, ?_, by omega, hC, .inl ⟨h, rfl, rfl, rfl⟩⟩
    · rw [tNum, if_neg (by simp)]
      have : takeF ⟨C, 0⟩ (2 : Int).toNat = ([], ⟨C, 10⟩) := by rw [takeF, if_neg (by simp), if_pos (by simpa using h)]
      rw [this]; rfl
    · rw [tRest, takeF, if_pos (by simp)]
  · refine ⟨beVal (C.take 2), ⟨C.drop 2, 0⟩, C.drop 2, ⟨[], 0⟩, ?_, ?_, ?_, by simp; omega, .inr ⟨by omega, rfl, rfl, rfl⟩⟩
    · rw [tNum, if_neg (by simp)]
      have : takeF ⟨C, 0⟩ (2 : Int).toNat = (C.take 2, ⟨C.drop 2, 0⟩) := by rw [takeF, if_neg (by simp), if_neg (by simpa using h)]; rfl
      rw [this]
    · rw [tRest, takeF, if_neg (by simp), if_neg (by simp)]
      simp
      exact ⟨List.take_of_length_le (by simp), by omega⟩
    · have h1 := beVal_lt (C.take 2)
      have h2 : (C.take 2).length ≤ 2 := by simp; omega
      have h3 : (256 : Nat) ^ (C.take 2).length ≤ 256 ^ 2 := Nat.pow_le_pow_right (by omega) h2
      omega
theorem unpLC_len (b : List UInt8) (i : Nat) : ((unpL b)[i]?.getD []).length ≤ 128 := by
  unfold unpL
  split
  · rename_i h0
    have hb : b.length = 128 := by
      unfold unpE at h0
      split at h0
      · cases h0
      · omega
    cases hx : (cutS b (min (numS b) 122))[i]? with
    | none => simp
    | some c =>
      have hm := List.mem_of_getElem? hx
      unfold cutS at hm
      obtain ⟨k, _, rfl⟩ := List.mem_map.1 hm
      simp [cellS]; omega
  · simp
set_option maxRecDepth 100000 in
set_option maxHeartbeats 4000000 in
theorem cone_go {w : World} {B da M : Nat} {d : List Rg} (h : One B w da M d) (hh : Half w) (r p : Int) (hE : pagedE d r p = 0) (hU : unpE (readB d r p) = 0) (hk : unpK (readB d r p) = 3) (hl : (unpL (readB d r p)).length = 1) :
    Calls Tryd.prog 40 #[.pointer (some ⟨da, 0, none⟩), .int .i64 r, .int .i64 p] w (OneC w (oneFEC d r p) (oneFNC d r p) (oneFPC d r p)) := by
  have hr := read_o h r p
  rw [hE] at hr
  have hE1 : oneEC (readB d r p) = if ((unpL (readB d r p))[0]?.getD []).length < 2 then 10 else 0 := by rw [oneEC, if_neg (by rw [hU]; simp), if_neg (by rw [hk, hl]; simp)]
  have HF0 : oneFEC d r p = if ((unpL (readB d r p))[0]?.getD []).length < 2 then 10 else 0 := by rw [oneFEC, if_neg (by rw [hE]; simp), hE1]
  have HN0 : oneFNC d r p = if ((unpL (readB d r p))[0]?.getD []).length < 2 then 0 else (beVal (((unpL (readB d r p))[0]?.getD []).take 2) : Int) := by
    rw [oneFNC, if_neg (by rw [hE]; simp), oneNC, hE1]
    split <;> simp
  have HL0 : oneFPC d r p = if ((unpL (readB d r p))[0]?.getD []).length < 2 then [] else ((unpL (readB d r p))[0]?.getD []).drop 2 := by
    rw [oneFPC, if_neg (by rw [hE]; simp), onePC, hE1]
    split <;> simp
  have hC128 := unpLC_len (readB d r p) 0
  generalize readB d r p = b at *
  have HUE := Lib.hid hU
  have HK := Lib.hid hk
  have main : ∀ (w1 : World) (a1 : Option Addr) (c1 : Nat), Bs w1 a1 b.length c1 b → Below w.heap.size w w1 → Calls Tryd.prog 53 #[.slice a1 b.length c1] w1 (UnpPost w1 3 (unpL b) 0) := fun w1 a1 c1 hbs hb => by
    have hu := unpack_any a1 b.length c1 b w1 hbs (hh.below (Nat.le_refl _) hb)
    rwa [HUE.out, HK.out] at hu
  clear hE hU hk hE1
  generalize unpL b = L at *
  obtain ⟨C, hC⟩ : ∃ C, L[0]?.getD [] = C := ⟨_, rfl⟩
  rw [hC] at HF0 HN0 HL0 hC128
  obtain ⟨x, s1, P, s2, t1, t2, hx, hs1, hcase⟩ := taken_cell C hC128
  have hEND : oneFEC d r p = s2.e ∧ oneFNC d r p = (x : Int) ∧ oneFPC d r p = P := by
    rcases hcase with ⟨g1, g2, g3, g4⟩ | ⟨g1, g2, g3, g4⟩
    · rw [HF0, HN0, HL0, if_pos g1, if_pos g1, if_pos g1, g2, g3, g4]; exact ⟨rfl, rfl, rfl⟩
    · rw [HF0, HN0, HL0, if_neg (by omega), if_neg (by omega), if_neg (by omega), g2, g3, g4]; exact ⟨rfl, rfl, rfl⟩
  have HEND := Lib.hid hEND
  have HC := Lib.hid hC
  have HLL := Lib.hid hl
  have hN : ∀ t W, Tk W t ⟨C, 0⟩ → Calls Tryd.prog 55 #[.pointer (some ⟨t, 0, none⟩), .int .i64 2] W (TkPost W t (fun _ v => v = .int .u64 (x : Int)) s1) := fun t W hW => by
    have := tNum_any t ⟨C, 0⟩ 2 W hW (by simp only; omega); rwa [t1] at this
  have hRs : ∀ t W, Tk W t s1 → Calls Tryd.prog 56 #[.pointer (some ⟨t, 0, none⟩)] W (TkPost W t (fun w' v => w'.ownsRow W.heap.size 5 1 v P.length ((toI P).map (Value.int .u8))) s2) := fun t W hW => by
    have := tRest_any t s1 W hW (by omega); rwa [t2] at this
  have HCL := Lib.hid hC128
  clear hcase HF0 HN0 HL0 hEND hC hl t1 t2 hC128 hs1
  go_enter Tryd.func40, Tryd.ntmps40
  go_wp2_with fail
  refine hr.mono ?_
  rintro e w1 ⟨v1, rfl, ho1, hb1⟩
  obtain ⟨a1, c1, rfl, hbs1⟩ := Bs.of_own ho1
  have hu := main w1 a1 c1 hbs1 hb1
  clear hr ho1 hbs1
  go_wp2_with fail
  refine hu.mono ?_
  rintro e w2 ⟨v2, rfl, ho2, hb2⟩
  have hB := below_then hb1 hb2
  obtain ⟨a2, c2, rfl, hbss⟩ := ho2.bss
  rw [HLL.out] at hbss ⊢
  obtain ⟨b3, o3, a3, n3, c3, rfl, hb3, hcell, hbs3⟩ := hbss.at (k := 0) (by omega)
  rw [HC.out] at hbs3
  rw [Nat.add_zero] at hcell
  have hcc := hbss.2.1
  have hT := take_any a3 n3 c3 C w2 hbs3 (by have := hbs3.len; have := HCL.out; omega)
  have HB2 := Lib.hid hB
  clear hu ho2 hb1 hb2 hbss hbs3 hB main
  go_wp2_with fail
  refine hT.mono ?_
  rintro e w3 ⟨rfl, htk, hlt, hb3'⟩
  have hN3 := hN _ _ htk
  have HB3 := Lib.hid (below_then HB2.out hb3')
  have HLT := Lib.hid (Nat.le_trans HB2.out.size hlt)
  generalize w3.heap.size - 1 = t at *
  clear hT hb3' htk hlt hcell hN
  go_wp2_with fail
  refine hN3.mono ?_
  rintro e w4 ⟨v4, rfl, rfl, hg4, htk4⟩
  have HB4 := Lib.hid (below_take HB3.out HLT.out hg4)
  have hR4 := hRs _ _ htk4
  clear hN3 hRs hg4 htk4
  go_wp2_with fail
  refine hR4.mono ?_
  rintro e w5 ⟨v5, rfl, ho5, hg5, htk5⟩
  have HB5 := Lib.hid (below_take HB4.out HLT.out hg5)
  have hE5 := tErr_any _ _ w5 htk5
  have HO5 := Lib.hid (own_base ho5 HB4.out.size)
  clear hR4 hg5 htk5 ho5
  go_wp2_with fail
  refine hE5.mono ?_
  rintro e w6 ⟨rfl, rfl⟩
  clear hE5
  go_wp2_with fail
  go_ret3
  obtain ⟨k1, k2, k3⟩ := HEND.out
  rw [k1, k2, k3]
  exact ⟨_, rfl, HO5.out, HB5.out⟩
theorem cone_any {w : World} {B da M : Nat} {d : List Rg} (h : One B w da M d) (hh : Half w) (r p : Int) :
    Calls Tryd.prog 40 #[.pointer (some ⟨da, 0, none⟩), .int .i64 r, .int .i64 p] w (OneC w (oneFEC d r p) (oneFNC d r p) (oneFPC d r p)) := by
  by_cases hE : pagedE d r p = 0
  · by_cases hU : unpE (readB d r p) = 0
    · by_cases hC : unpK (readB d r p) ≠ 3 ∨ (unpL (readB d r p)).length ≠ 1
      · exact cone_form h hh r p hE hU hC
      · simp only [not_or, ne_eq, Decidable.not_not] at hC
        exact cone_go h hh r p hE hU hC.1 hC.2
    · exact cone_bad h hh r p hE hU
  · exact cone_page h r p hE
end Go.Proofs.YtfidfbgplfjakaaDoor

/- Long values as pages: a chain whose pages stand where they are to stand. -/
namespace Go.Proofs.YtfidfbgplfjakaaDoor
open Go.RowKit

def rdC (d : List Rg) (r : Int) (p : Int) : Int × Int × List UInt8 := (oneFEC d r p, oneFNC d r p, oneFPC d r p)
def getDC (d : List Rg) (r first size : Int) : List UInt8 × List Int × Int := getC (rdC d r) first size
theorem RegAt.oneC {d : List Rg} {r n : Nat} {f : Nat → List UInt8} (h : RegAt d r n f) {p : Int} (hp : 0 ≤ p ∧ p < n) : rdC d r p = (oneEC (f p.toNat), oneNC (f p.toNat), onePC (f p.toNat)) := by
  have he := h.paged p
  rw [if_pos hp] at he
  unfold rdC oneFEC oneFNC oneFPC
  rw [if_neg (by rw [he]; simp), if_neg (by rw [he]; simp), if_neg (by rw [he]; simp), h.read hp]
theorem putC_one {v : List UInt8} {at_ : List Int} (h : putOkC v at_ = true) (i : Nat) : oneEC (pageC v at_ i) = 0 ∧ oneNC (pageC v at_ i) = nextC at_ i ∧ onePC (pageC v at_ i) = partC v i :=
  oneC_page v at_ i (nextC_lt (putC_parts h).2.2 i)
theorem gotC_back {v : List UInt8} {at_ : List Int} (h : putOkC v at_ = true) {d : List Rg} {r n : Nat} {f : Nat → List UInt8} (hd : RegAt d r n f) (hn : ∀ i, i < at_.length → atC at_ i < n) (hf : ∀ i, i < at_.length → f (atC at_ i).toNat = pageC v at_ i) :
    getDC d r (atC at_ 0) v.length = (v, at_, 0) := by
  obtain ⟨h1, h2, h3⟩ := putC_parts h
  have h4 := needC_le v.length
  have h0 : 0 < at_.length := by omega
  have := getC_back h (rdC d r) (fun j hj => by
    have hp := pgC_lt (aptC_at h3 hj).1
    rw [hd.oneC ⟨by omega, hn j hj⟩, hf j hj, (putC_one h j).1, (putC_one h j).2.1, (putC_one h j).2.2]) at_.length 0 rfl h0 4 (by omega)
  have ht : at_.take 1 = [atC at_ 0] := by rw [List.take_succ_eq_append_getElem h0]; simp [atC, h0]
  unfold getDC getC
  rw [if_neg h1]
  simpa [ht] using this
theorem gotC_lost {v : List UInt8} {at_ : List Int} (h : putOkC v at_ = true) {d : List Rg} {r n : Nat} {f : Nat → List UInt8} (hd : RegAt d r n f) (hn : ∀ i, i < at_.length → atC at_ i < n) (w : Nat) (hw : w < at_.length) (E : Int) (hE : E ≠ 0) (hE2 : E ≠ 10) (hz : oneEC (f (atC at_ w).toNat) = E) (hf : ∀ i, i < w → f (atC at_ i).toNat = pageC v at_ i) :
    getDC d r (atC at_ 0) v.length = ([], [], E) := by
  obtain ⟨h1, h2, h3⟩ := putC_parts h
  have h4 := needC_le v.length
  have h0 : 0 < at_.length := by omega
  have hpw := pgC_lt (aptC_at h3 hw).1
  have := getC_lost h (rdC d r) w E hE hE2 hw (by rw [hd.oneC ⟨by omega, hn w hw⟩]; exact hz) (fun j hj => by
    have hp := pgC_lt (aptC_at h3 (show j < at_.length by omega)).1
    rw [hd.oneC ⟨by omega, hn j (by omega)⟩, hf j hj, (putC_one h j).1, (putC_one h j).2.1, (putC_one h j).2.2]) at_.length 0 rfl (Nat.zero_le _) 4 (by omega)
  have ht : at_.take 1 = [atC at_ 0] := by rw [List.take_succ_eq_append_getElem h0]; simp [atC, h0]
  unfold getDC getC
  rw [if_neg h1]
  simpa [ht] using this
theorem pageC_len (v : List UInt8) (at_ : List Int) (i : Nat) : (pageC v at_ i).length = 128 := by
  have := pageC_fits v at_ i
  simp only [fits, Bool.and_eq_true, decide_eq_true_eq] at this
  exact pageOf_length 3 [cellC v at_ i] this.2
end Go.Proofs.YtfidfbgplfjakaaDoor
