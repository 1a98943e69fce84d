/- Texts that other texts of this claim lean on, one behind the other. -/
import Derived.Test.YtfidfbgplfjakaaDoorM6
import Derived.Test.YtfidfbgplfjakaaDoorM7
import Derived.Test.YtfidfbgplfjakaaDoorM3
import Derived.Test.YtfidfbgplfjakaaDoorM5
import Derived.Test.YtfidfbgplfjakaaDoorM2
/- The walks of the chapter on long values: a value is put. -/
namespace Go.Proofs.YtfidfbgplfjakaaDoor
open Go.RowKit Go.Maps Go.Shelf
attribute [local go_sem] Oper.semAt_some

def PutPostC (w : World) (v : List UInt8) (at_ : List Int) (e : Ending) (w' : World) : Prop :=
  ∃ u, e = .returned (.tuple #[u, .int .i64 (putEC v at_)]) ∧ OwnBss w' w.heap.size u (putLC v at_) ∧ Below w.heap.size w w'
theorem putPostC_bad {w w' : World} {v : List UInt8} {at_ : List Int} (h : putOkC v at_ = false) (hb : Below w.heap.size w w') : PutPostC w v at_ (.returned (.tuple #[.slice none 0 0, .int .i64 1])) w' := by
  refine ⟨.slice none 0 0, by rw [putEC, h]; rfl, ?_, hb⟩
  rw [putLC, h]
  exact OwnBss.nil _ _

/-- What is bad of a place. -/
def badC (at_ : List Int) (k : Nat) : Bool := !(pgC (atC at_ k) && !(at_.take k).contains (atC at_ k))
theorem badC_false {at_ : List Int} {k : Nat} : badC at_ k = false ↔ (pgC (atC at_ k) = true ∧ atC at_ k ∉ at_.take k) := by
  simp [badC]
theorem aptC_none {at_ : List Int} {n : Nat} (hn : at_.length = n) : aptC at_ = true ↔ NoneTo (badC at_) n := by
  subst hn
  unfold aptC NoneTo badC
  rw [List.all_eq_true]
  constructor
  · intro h j hj
    rw [h j (by simpa using hj)]; rfl
  · intro h j hj
    have := h j (by simpa using hj)
    simpa using this
/-- What holds while the places are looked at. -/
def InvC (w : World) (pb pc : Nat) (a : Option Addr) (n cap : Nat) (at_ : List Int) (k : Nat) (W : World) : Prop :=
  Plc w.heap.size W pb (at_.take k) ∧ W.heap[pc]? = some (.cells #[.pointer (some ⟨pb, 0, none⟩)] 57 (0, 0)) ∧ Below w.heap.size w W

def Put1C (w : World) (pb pc : Nat) (a : Option Addr) (n cap : Nat) (at_ : List Int) (k : Nat) (W : World) (e : Ending) (w' : World) : Prop :=
  e = .returned (.bool (badC at_ k)) ∧ InvC w pb pc a n cap at_ (if badC at_ k then k else k + 1) w' ∧ KeepU W w'
set_option maxRecDepth 100000 in
set_option maxHeartbeats 2000000 in
theorem put1_any {w : World} {pb pc : Nat} {a : Option Addr} {n cap : Nat} {at_ : List Int} (hI : ∀ x ∈ at_, I64 x) (hn : at_.length = n) (hn9 : n ≤ 1000) (k : Nat) (W : World) (hk : k < n) (h : InvC w pb pc a n cap at_ k W) :
    Calls Tryd.prog 24 (#[.int .i64 (atC at_ k)] ++ #[.pointer (some ⟨pc, 0, none⟩)]) W (Put1C w pb pc a n cap at_ k W) := by
  obtain ⟨h1, h2, h3⟩ := h
  have c0 : W.cell? ⟨pc, 0, none⟩ = some (.pointer (some ⟨pb, 0, none⟩)) := by simp [World.cell?, h2]
  have hx : I64 (atC at_ k) := by
    unfold atC
    rw [List.getElem?_eq_getElem (by omega)]
    exact hI _ (List.getElem_mem _)
  have A := add_any h1 (by simp <;> omega) (atC at_ k) hx
  have HT := Lib.hid (show at_.take (k + 1) = at_.take k ++ [atC at_ k] by
    rw [List.take_succ_eq_append_getElem (by omega)]; simp [atC, List.getElem?_eq_getElem (show k < at_.length by omega)])
  have HP := Lib.hid h2
  have H3 := Lib.hid h3
  have H1 := Lib.hid h1
  show Calls Tryd.prog 24 #[.int .i64 (atC at_ k), .pointer (some ⟨pc, 0, none⟩)] W _
  have HBF := Lib.hid (badC_false (at_ := at_) (k := k))
  generalize atC at_ k = x at *
  clear hx h1 h2 h3
  go_enter Tryd.func24, Tryd.ntmps24
  go_wp2_with fail
  refine A.mono ?_
  rintro e w1 ⟨hb, hku, hpl⟩
  have HPC := Lib.hid (hku _ _ _ (by decide) (by decide) HP.out)
  have HB := Lib.hid (H3.out.trans hb)
  have HKU := Lib.hid hku
  clear A hb hku
  cases hbad : badC at_ k
  · obtain ⟨g1, g2⟩ := HBF.out.1 hbad
    rw [if_pos ⟨g1, g2⟩] at hpl
    obtain ⟨rfl, hp⟩ := hpl
    have HE : Hid (Put1C w pb pc a n cap at_ k W (.returned (.bool false)) w1) := Lib.hid ⟨by rw [hbad], by rw [hbad]; exact ⟨by rw [if_neg (by simp), HT.out]; exact hp, HPC.out, HB.out⟩, HKU.out⟩
    clear hp g1 g2 hbad
    go_wp2_with fail
    go_ret
    exact HE.out
  · rw [if_neg (fun h => by rw [HBF.out.2 h] at hbad; cases hbad)] at hpl
    obtain ⟨rfl, rfl⟩ := hpl
    have HE : Hid (Put1C w pb pc a n cap at_ k W (.returned (.bool true)) W) := Lib.hid ⟨by rw [hbad], by rw [hbad]; exact ⟨H1.out, HPC.out, HB.out⟩, HKU.out⟩
    clear hbad
    go_wp2_with fail
    go_ret
    exact HE.out

/-- The first five blocks of the walk: where the results stand. -/
theorem five_first (w : World) (x y : Value) (t u : TypeId) (o3 o4 o5 : Obj) : let W := ((((w.alloc (.cells #[x] t)).alloc (.cells #[y] u)).alloc o3).alloc o4).alloc o5
    W.heap[w.heap.size]? = some (.cells #[x] t (0, 0)) ∧ W.heap[w.heap.size + 1]? = some (.cells #[y] u (0, 0)) ∧ Below w.heap.size w W := by
  refine ⟨?_, ?_, (((((Below.refl _ _).alloc (Nat.le_refl _) _).alloc (by simp) _).alloc (by simp <;> omega) _).alloc (by simp <;> omega) _).alloc (by simp <;> omega) _⟩
  · rw [Below.heap_alloc _ _ _ (by simp <;> omega), Below.heap_alloc _ _ _ (by simp <;> omega), Below.heap_alloc _ _ _ (by simp <;> omega), Below.heap_alloc _ _ _ (by simp <;> omega)]
    exact World.alloc_heap_new _ _
  · rw [Below.heap_alloc _ _ _ (by simp <;> omega), Below.heap_alloc _ _ _ (by simp <;> omega), Below.heap_alloc _ _ _ (by simp <;> omega)]
    have := World.alloc_heap_new (w.alloc (.cells #[x] t)) (.cells #[y] u)
    rwa [World.size_alloc] at this
theorem cell_of {w : World} {b : Nat} {c : Array Value} {t : TypeId} {fr : Nat × Nat} (h : w.heap[b]? = some (.cells c t fr)) (i : Nat) (v : Value) (hv : c[i]? = some v) : w.cell? ⟨b, i, none⟩ = some v := by
  simp only [World.cell?, h]; exact hv
set_option maxRecDepth 100000 in
set_option maxHeartbeats 4000000 in
theorem cput_early {w : World} {a : Option Addr} {n cap : Nat} {at_ : List Int} (h : Row .i64 w a n cap at_) (v : List UInt8) (hv : v.length ≤ 100000) (hbad : n = 0 ∨ n ≠ needC v.length) :
    Calls Tryd.prog 9 #[.string (strOf v), .slice a n cap] w (PutPostC w v at_) := by
  have HB : Hid (putOkC v at_ = false) := Lib.hid (by
    have e := h.1
    cases hp : putOkC v at_
    · rfl
    · obtain ⟨p1, p2, p3⟩ := putC_parts hp
      rcases hbad with h0 | h0
      · omega
      · omega)
  have C : ∀ W, Calls Tryd.prog 11 #[.int .i64 (v.length : Int)] W fun e w' => e = .returned (.int .i64 (needC (v.length : Int) : Int)) ∧ W = w' := fun W => cneed_any _ W
  obtain ⟨hl, hc, hm⟩ := h.lensC
  have hmm := @run_makeMap Tryd.prog
  have hsz := strOf_size v
  generalize needC (v.length : Int) = q at *
  clear hl h
  refine (callsIn_wide (n := 8)).1 ?_
  refine callsIn_of_wp_marks Tryd.func9 rfl trivial ?_ rfl
  simp only [Tryd.ntmps9, List.size_toArray, List.length_cons, List.length_nil, Nat.reduceAdd, Nat.reduceSub, Array.replicate_succ, Array.replicate_zero, List.push_toArray, List.append_toArray, List.nil_append, List.cons_append]
  by_cases h0 : n = 0
  · have d0 : ((n : Int) == 0) = true := by rw [beq_iff_eq]; omega
    have d1 : (n == 0) = true := by simpa using h0
    clear hbad
    gi_wp2_with (refine ⟨trivial, ?_⟩)
    obtain ⟨g0, g1, g2⟩ := five_first w (.slice none 0 0) (.int .i64 1) 24 25 (Obj.map #[] 0) (Obj.cells #[Value.slice none 0 0, Value.map (some (w.heap.size + 1 + 1))] 60) (Obj.cells #[Value.pointer (some ⟨w.heap.size + 1 + 1 + 1, 0, none⟩)] 57)
    have k0 := cell_of g0 0 _ rfl
    have k1 := cell_of g1 0 _ rfl
    exact ⟨.tuple #[.slice none 0 0, .int .i64 1], by simp [results, Tryd.results9, go_sem, k0, k1], putPostC_bad HB.out g2⟩
  · have d0 : ((n : Int) == 0) = false := by rw [beq_eq_false_iff_ne]; omega
    have d1 : (n == 0) = false := by simpa using h0
    have d2 : ((n : Int) != q) = true := by rw [bne_iff_ne]; omega
    have d3 : ((n : Int) == q) = false := by rw [beq_eq_false_iff_ne]; omega
    clear hbad
    gi_wp2_with (refine ⟨trivial, ?_⟩; first | (gi_at_call 11; refine (callsIn_wide.2 (C _)).mono ?_; rintro e w1 ⟨rfl, rfl⟩) | skip)
    obtain ⟨g0, g1, g2⟩ := five_first w (.slice none 0 0) (.int .i64 1) 24 25 (Obj.map #[] 0) (Obj.cells #[Value.slice none 0 0, Value.map (some (w.heap.size + 1 + 1))] 60) (Obj.cells #[Value.pointer (some ⟨w.heap.size + 1 + 1 + 1, 0, none⟩)] 57)
    have k0 := cell_of g0 0 _ rfl
    have k1 := cell_of g1 0 _ rfl
    exact ⟨.tuple #[.slice none 0 0, .int .i64 1], by simp [results, Tryd.results9, go_sem, k0, k1], putPostC_bad HB.out g2⟩
theorem five_plc (w : World) (o1 o2 : Obj) (t : TypeId) (v : Value) : let W := ((((w.alloc o1).alloc o2).alloc (.map #[] 0)).alloc (.cells #[.slice none 0 0, .map (some (w.heap.size + 1 + 1))] 60)).alloc (.cells #[v] t)
    Plc w.heap.size W (w.heap.size + 1 + 1 + 1) [] ∧ W.heap[w.heap.size + 1 + 1 + 1 + 1]? = some (.cells #[v] t (0, 0)) := by
  have hs2 : ((w.alloc o1).alloc o2).heap.size = w.heap.size + 1 + 1 := by simp
  have hs3 : (((w.alloc o1).alloc o2).alloc (.map #[] 0)).heap.size = w.heap.size + 1 + 1 + 1 := by simp
  have hs4 : ((((w.alloc o1).alloc o2).alloc (.map #[] 0)).alloc (.cells #[.slice none 0 0, .map (some (w.heap.size + 1 + 1))] 60)).heap.size = w.heap.size + 1 + 1 + 1 + 1 := by simp
  have m0 := CtMap.made ((w.alloc o1).alloc o2)
  rw [hs2] at m0
  refine ⟨⟨.slice none 0 0, w.heap.size + 1 + 1, 0, ?_, World.ownsRow_nil _ _ _ _, ?_, by simp, by omega, by omega, by omega, by simp [Value.ownBlock], by simp [Value.ownBlock]⟩, ?_⟩
  · rw [Below.heap_alloc _ _ _ (by rw [hs4]; omega)]
    have := World.alloc_heap_new (((w.alloc o1).alloc o2).alloc (.map #[] 0)) (.cells #[.slice none 0 0, .map (some (w.heap.size + 1 + 1))] 60)
    rwa [hs3] at this
  · have m1 : CtMap ((((w.alloc o1).alloc o2).alloc (.map #[] 0)).alloc (.cells #[.slice none 0 0, .map (some (w.heap.size + 1 + 1))] 60)) (w.heap.size + 1 + 1) 0 (fun _ => 0) := m0.kept (Below.heap_alloc _ _ _ (by rw [hs3]; omega))
    have m2 : CtMap (((((w.alloc o1).alloc o2).alloc (.map #[] 0)).alloc (.cells #[.slice none 0 0, .map (some (w.heap.size + 1 + 1))] 60)).alloc (.cells #[v] t)) (w.heap.size + 1 + 1) 0 (fun _ => 0) := m1.kept (Below.heap_alloc _ _ _ (by rw [hs4]; omega))
    simpa using m2
  · have := World.alloc_heap_new ((((w.alloc o1).alloc o2).alloc (.map #[] 0)).alloc (.cells #[.slice none 0 0, .map (some (w.heap.size + 1 + 1))] 60)) (.cells #[v] t)
    rwa [hs4] at this

/-- All places are looked at. -/
theorem contains_places {w W5 : World} {a : Option Addr} {n cap pb pc r0 r1 : Nat} {at_ : List Int} (h : Row .i64 w a n cap at_) (hI : ∀ x ∈ at_, I64 x) (hl : at_.length = n) (hn : n ≤ 1000) {x0 x1 : Value} {t0 t1 : TypeId}
    (_g0 : W5.heap[r0]? = some (.cells #[x0] t0 (0, 0))) (_g1 : W5.heap[r1]? = some (.cells #[x1] t1 (0, 0))) (g2 : Below w.heap.size w W5) (g3 : Plc w.heap.size W5 pb []) (g4 : W5.heap[pc]? = some (.cells #[.pointer (some ⟨pb, 0, none⟩)] 57 (0, 0))) :
    Calls Tryd.prog 23 #[.slice a n cap, .func (.func 24) #[] #[.pointer (some ⟨pc, 0, none⟩)]] W5 fun e W' => ∃ b : Bool, e = .returned (.bool b) ∧ b = !aptC at_ ∧ KeepU W5 W' ∧ Below w.heap.size w W' := by
  have X := containsf_any (h.below (Nat.le_refl _) g2) 24 #[.pointer (some ⟨pc, 0, none⟩)] (enters_of Tryd.func24 (by kernel_rfl) rfl) (badC at_) (fun k W => InvC w pb pc a n cap at_ k W ∧ KeepU W5 W) ⟨⟨by simpa using g3, g4, g2⟩, KeepU.refl _⟩ (fun k W hk => h.below (Nat.le_refl _) hk.1.2.2)
    (fun k W hk _ hinv => (put1_any hI hl hn k W hk hinv.1).mono (by
      rintro e w' ⟨he, h1, h2⟩
      exact ⟨he, h1, hinv.2.trans h2⟩))
  refine X.mono ?_
  rintro e W' ⟨b, rfl, hb, hf⟩
  refine ⟨b, rfl, ?_, ?_⟩
  · have ha := aptC_none hl
    cases hap : aptC at_ <;> cases b <;> simp_all
  · rcases hf with ⟨_, h1, h2⟩ | ⟨k, _, _, _, h1, h2⟩
    · exact ⟨h2, h1.2.2⟩
    · exact ⟨h2, h1.2.2⟩
/-- The results' boxes are written. -/
theorem two_boxes {w W : World} {r0 r1 : Nat} {x0 x1 : Value} {t0 t1 : TypeId} (f0 : W.heap[r0]? = some (.cells #[x0] t0 (0, 0))) (f1 : W.heap[r1]? = some (.cells #[x1] t1 (0, 0))) (hne : r0 ≠ r1) (hb : Below w.heap.size w W) (h0 : w.heap.size ≤ r0) (h1 : w.heap.size ≤ r1) (v u : Value) :
    ((W.setCell ⟨r0, 0, none⟩ v).setCell ⟨r1, 0, none⟩ u).cell? ⟨r0, 0, none⟩ = some v ∧ ((W.setCell ⟨r0, 0, none⟩ v).setCell ⟨r1, 0, none⟩ u).cell? ⟨r1, 0, none⟩ = some u ∧ Below w.heap.size w ((W.setCell ⟨r0, 0, none⟩ v).setCell ⟨r1, 0, none⟩ u) := by
  have e0 : (W.setCell ⟨r0, 0, none⟩ v).heap[r0]? = some (.cells #[v] t0 (0, 0)) := by rw [heap_setCell_at 0 _ f0]; rfl
  have e1 : (W.setCell ⟨r0, 0, none⟩ v).heap[r1]? = some (.cells #[x1] t1 (0, 0)) := by rw [Below.heap_setCell _ _ _ r1 (show r1 ≠ (⟨r0, 0, none⟩ : Addr).block from fun e => hne e.symm)]; exact f1
  have g0 : ((W.setCell ⟨r0, 0, none⟩ v).setCell ⟨r1, 0, none⟩ u).heap[r0]? = some (.cells #[v] t0 (0, 0)) := by rw [Below.heap_setCell _ _ _ r0 (show r0 ≠ (⟨r1, 0, none⟩ : Addr).block from hne)]; exact e0
  have g1 : ((W.setCell ⟨r0, 0, none⟩ v).setCell ⟨r1, 0, none⟩ u).heap[r1]? = some (.cells #[u] t1 (0, 0)) := by rw [heap_setCell_at 0 _ e1]; rfl
  exact ⟨cell_of g0 0 _ rfl, cell_of g1 0 _ rfl, (hb.setCell h0 _).setCell h1 _⟩
set_option maxRecDepth 100000 in
set_option maxHeartbeats 4000000 in
theorem cput_apt {w : World} {a : Option Addr} {n cap : Nat} {at_ : List Int} (h : Row .i64 w a n cap at_) (hI : ∀ x ∈ at_, I64 x) (v : List UInt8) (hv : v.length ≤ 100000) (h0 : n ≠ 0) (hq : n = needC v.length) (hap : aptC at_ = false) :
    Calls Tryd.prog 9 #[.string (strOf v), .slice a n cap] w (PutPostC w v at_) := by
  have HB : Hid (putOkC v at_ = false) := Lib.hid (by unfold putOkC; rw [hap]; simp)
  have C : ∀ W, Calls Tryd.prog 11 #[.int .i64 (v.length : Int)] W fun e w' => e = .returned (.int .i64 (needC (v.length : Int) : Int)) ∧ W = w' := fun W => cneed_any _ W
  obtain ⟨hl, hc, hm⟩ := h.lensC
  have hmm := @run_makeMap Tryd.prog
  have hsz := strOf_size v
  have hn4 := needC_le v.length
  rw [← hq] at C hn4
  have H := Lib.hid h
  have HL := Lib.hid hl
  have HA := Lib.hid hap
  clear hl h hq hap
  refine (callsIn_wide (n := 8)).1 ?_
  refine callsIn_of_wp_marks Tryd.func9 rfl trivial ?_ rfl
  simp only [Tryd.ntmps9, List.size_toArray, List.length_cons, List.length_nil, Nat.reduceAdd, Nat.reduceSub, Array.replicate_succ, Array.replicate_zero, List.push_toArray, List.append_toArray, List.nil_append, List.cons_append]
  have d0 : ((n : Int) == 0) = false := by rw [beq_eq_false_iff_ne]; omega
  have d1 : (n == 0) = false := by simpa using h0
  gi_wp2_with (refine ⟨trivial, ?_⟩; first | (gi_at_call 11; refine (callsIn_wide.2 (C _)).mono ?_; rintro e w1 ⟨rfl, rfl⟩) | fail)
  obtain ⟨g0, g1, g2⟩ := five_first w (.slice none 0 0) (.int .i64 0) 24 25 (Obj.map #[] 0) (Obj.cells #[Value.slice none 0 0, Value.map (some (w.heap.size + 1 + 1))] 60) (Obj.cells #[Value.pointer (some ⟨w.heap.size + 1 + 1 + 1, 0, none⟩)] 57)
  obtain ⟨g3, g4⟩ := five_plc w (.cells #[.slice none 0 0] 24) (.cells #[.int .i64 0] 25) 57 (.pointer (some ⟨w.heap.size + 1 + 1 + 1, 0, none⟩))
  generalize (((((w.alloc (Obj.cells #[Value.slice none 0 0] 24)).alloc (Obj.cells #[Value.int IntKind.i64 0] 25)).alloc (Obj.map #[] 0)).alloc (Obj.cells #[Value.slice none 0 0, Value.map (some (w.heap.size + 1 + 1))] 60)).alloc (Obj.cells #[Value.pointer (some ⟨w.heap.size + 1 + 1 + 1, 0, none⟩)] 57)) = W5 at *
  have F := contains_places H.out hI HL.out (by omega) g0 g1 g2 g3 g4
  clear g3 g4 hmm
  refine ⟨trivial, (callsIn_wide.2 F).mono ?_⟩
  rintro e W6 ⟨b, rfl, hb, hk6, hb6⟩
  have hbt : b = true := by rw [HA.out] at hb; simpa using hb
  subst hbt
  have f0 := hk6 _ _ _ (by decide) (by decide) g0
  have f1 := hk6 _ _ _ (by decide) (by decide) g1
  have b0 := cell_of f0 0 _ rfl
  have b1 := cell_of f1 0 _ rfl
  have fr0 : W6.frozen? ⟨w.heap.size, 0, none⟩ = false := by simp [World.frozen?, f0]
  have fr1 : (W6.setCell ⟨w.heap.size, 0, none⟩ (.slice none 0 0)).frozen? ⟨w.heap.size + 1, 0, none⟩ = false := by
    simp only [World.frozen?, Below.heap_setCell _ _ _ (w.heap.size + 1) (show w.heap.size + 1 ≠ (⟨w.heap.size, 0, none⟩ : Addr).block by simp), f1]; simp
  have b2 : (W6.setCell ⟨w.heap.size, 0, none⟩ (.slice none 0 0)).cell? ⟨w.heap.size + 1, 0, none⟩ = some (.int .i64 0) := by
    rw [World.cell?_of_block (Below.heap_setCell _ _ _ (w.heap.size + 1) (show w.heap.size + 1 ≠ (⟨w.heap.size, 0, none⟩ : Addr).block by simp))]; exact b1
  clear F hb
  gi_wp2_with fail
  obtain ⟨c0, c1, c2⟩ := two_boxes f0 f1 (by omega) hb6 (Nat.le_refl _) (by omega) (.slice none 0 0) (.int .i64 1)
  exact ⟨.tuple #[.slice none 0 0, .int .i64 1], by simp [results, Tryd.results9, go_sem, c0, c1], putPostC_bad HB.out c2⟩

/-! a value is put -/
/-- The pages so far. -/
def pgsC (v : List UInt8) (at_ : List Int) (xs : List Nat) : List (List UInt8) := (List.range xs.length).map fun j => pageOf 3 [wordC (nextC at_ j) ++ partC v (xs[j]?.getD 0)]
theorem pgsC_snoc (v : List UInt8) (at_ : List Int) (xs : List Nat) (x : Nat) : pgsC v at_ (xs ++ [x]) = pgsC v at_ xs ++ [pageOf 3 [wordC (nextC at_ xs.length) ++ partC v x]] := by
  unfold pgsC
  rw [List.length_append, List.length_singleton, List.range_succ, List.map_append]
  congr 1
  · apply List.map_congr_left
    intro j hj
    rw [List.mem_range] at hj
    rw [List.getElem?_append_left hj]
  · simp
theorem pgsC_all (v : List UInt8) (at_ : List Int) (n : Nat) : pgsC v at_ (List.range n) = (List.range n).map (pageC v at_) := by
  unfold pgsC
  rw [List.length_range]
  apply List.map_congr_left
  intro j hj
  rw [List.mem_range] at hj
  rw [List.getElem?_range hj]; rfl
theorem OwnBss.keptN {w w' : World} {base : Nat} {v : Value} {l : List (List UInt8)} (h : OwnBss w base v l) (hk : ∀ (k : Nat) (c : Array Value) (t : TypeId), w.heap[k]? = some (.cells c t (0, 0)) → w'.heap[k]? = some (.cells c t (0, 0))) : OwnBss w' base v l := by
  have kk : ∀ {b : Nat} {e : TypeId} {sz : Nat} {u : Value} {n : Nat} {xs : List Value}, w.ownsRow b e sz u n xs → w'.ownsRow b e sz u n xs := fun {b e sz u n xs} ho =>
    ⟨ho.1, ho.2.imp id fun ⟨g, cap, cur, e1, hg1, hh, r⟩ => ⟨g, cap, cur, e1, hg1, hk g _ _ hh, r⟩⟩
  obtain ⟨vs, h1, h2, h3⟩ := h
  exact ⟨vs, kk h1, h2, fun i c hc => by obtain ⟨u, hu, ho⟩ := h3 i c hc; exact ⟨u, hu, kk ho⟩⟩
/-- What the rounds so far have laid. -/
def OutC (v : List UInt8) (at_ : List Int) (n g c nb ob : Nat) (wC : World) (N : Nat) (pre : List (Fin N)) (W : World) : Prop :=
  (∃ u, W.heap[ob]? = some (.cells #[u] 24 (0, 0)) ∧ OwnBss W wC.heap.size u (pgsC v at_ (pre.map Fin.val))) ∧
  (∃ a, W.heap[nb]? = some (.cells #[.slice a (n - pre.length) (c - pre.length)] 22 (0, 0)) ∧ (pre.length < n → a = some ⟨g, pre.length, none⟩)) ∧ Only [nb, ob] wC W
theorem outC_own (v : List UInt8) (at_ : List Int) (n g c nb ob : Nat) (wC : World) (N B : Nat) (hB : wC.heap.size ≤ B) : OwnFrom B (OutC v at_ n g c nb ob wC N) := by
  rintro pre X Y row ⟨⟨u, h1, h2⟩, ⟨a, h3, h4⟩, h5⟩ hg hr
  have hk : ∀ (k : Nat) (c : Array Value) (t : TypeId), X.heap[k]? = some (.cells c t (0, 0)) → Y.heap[k]? = some (.cells c t (0, 0)) := by
    intro k c t hk
    rw [hg.block k (Array.getElem?_eq_some_iff.1 hk).1 (fun e => ?_)]
    · exact hk
    · obtain ⟨_, o, ho, hc⟩ := hr k e.symm
      rw [hk] at ho; cases ho; cases hc
  refine ⟨⟨u, hk _ _ _ h1, h2.keptN hk⟩, ⟨a, hk _ _ _ h3, h4⟩, ?_⟩
  cases row with
  | none => exact h5.trans (Only.of_grown hg (fun k e => by cases e))
  | some r => exact h5.then (Only.of_grown (S := [r]) hg (fun k e => by cases e; left; simp)) (fun i hi => by
      simp at hi; subst hi
      right; exact Nat.le_trans hB (hr _ rfl).1)
theorem bss_two {W : World} {a b : Option Addr} {n m cap cap2 : Nat} {c d : List UInt8} (h : Bs W a n cap c) (h2 : Bs W b m cap2 d) (t : TypeId) : Bss (W.alloc (.cells #[.slice a n cap, .slice b m cap2] t)) (some ⟨W.heap.size, 0, none⟩) 2 2 [c, d] := by
  refine ⟨rfl, Nat.le_refl _, by unfold maxLen; omega, (fun h => by cases h), .inr ⟨W.heap.size, 0, rfl, by simp, fun i y hy => ?_⟩⟩
  have hA : Below W.heap.size W (W.alloc (.cells #[.slice a n cap, .slice b m cap2] t)) := (Below.refl _ _).alloc (Nat.le_refl _) _
  have hcell := World.alloc_heap_new W (.cells #[.slice a n cap, .slice b m cap2] t)
  match i, hy with
  | 0, hy =>
    cases hy
    refine ⟨[.slice a n cap], rfl, ⟨a, n, cap, rfl, h.below (Nat.le_refl _) hA⟩, fun j v hj => ?_⟩
    match j, hj with
    | 0, hj => cases hj; simp only [World.cell?, Nat.zero_add, Nat.zero_mul, hcell]; rfl
    | j + 1, hj => simp at hj
  | 1, hy =>
    cases hy
    refine ⟨[.slice b m cap2], rfl, ⟨b, m, cap2, rfl, h2.below (Nat.le_refl _) hA⟩, fun j v hj => ?_⟩
    match j, hj with
    | 0, hj => cases hj; simp only [World.cell?, Nat.zero_add, hcell]; rfl
    | j + 1, hj => simp at hj
  | i + 2, hy => simp at hy
theorem bss_oneC {W : World} {a : Option Addr} {n cap : Nat} {c : List UInt8} (h : Bs W a n cap c) (t : TypeId) : Bss (W.alloc (.cells #[.slice a n cap] t)) (some ⟨W.heap.size, 0, none⟩) 1 1 [c] := by
  refine ⟨rfl, Nat.le_refl _, by unfold maxLen; omega, (fun h => by cases h), .inr ⟨W.heap.size, 0, rfl, by simp, fun i y hy => ?_⟩⟩
  have hcell := World.alloc_heap_new W (.cells #[.slice a n cap] t)
  match i, hy with
  | 0, hy =>
    cases hy
    refine ⟨[.slice a n cap], rfl, ⟨a, n, cap, rfl, h.below (Nat.le_refl _) ((Below.refl _ _).alloc (Nat.le_refl _) _)⟩, fun j v hj => ?_⟩
    match j, hj with
    | 0, hj => cases hj; simp only [World.cell?, Nat.zero_add, Nat.zero_mul, hcell]; rfl
    | j + 1, hj => simp at hj
  | i + 1, hy => simp at hy
theorem chunkN_need {L n : Nat} (h : n = needC L) (h0 : n ≠ 0) : chunkN L 119 = n := by
  have h1 := needC_pos (n := (L : Int)) (by omega)
  have : needC (L : Int) = (((L : Int) + 118) / 119).toNat := by rw [needC, if_neg (by omega)]
  unfold chunkN
  omega
theorem chunk_part {W : World} {bb L cL : Nat} {v : List UInt8} (h : Bs W (some ⟨bb, 0, none⟩) L cL v) (x : Nat) (hx : 119 * x < L) : ∃ e, chunkV bb 0 L 119 x = .slice (some ⟨bb, 119 * x, none⟩) e e ∧ Bs W (some ⟨bb, 119 * x, none⟩) e e (partC v x) ∧ 0 < e ∧ e ≤ 119 := by
  have hl := h.len
  have hc := h.cap
  obtain ⟨e, he⟩ : ∃ e, min 119 (L - 119 * x) = e := ⟨_, rfl⟩
  refine ⟨e, by rw [chunkV, he, Nat.zero_add], ?_, by omega, by omega⟩
  have := h.sub (119 * x) (119 * x + e) (119 * x + e) (by omega) (by omega) (by omega) (by omega)
  rw [if_neg (by omega), show 119 * x + e - 119 * x = e by omega] at this
  have ep : partC v x = (v.drop (119 * x)).take e := by
    unfold partC
    by_cases h9 : e = 119
    · rw [h9]
    · rw [List.take_of_length_le (by simp; omega), List.take_of_length_le (by simp; omega)]
  rw [ep]
  simpa [add_none] using this

theorem ld_bss {W : World} {b : Nat} {a : Option Addr} {n c : Nat} {t : TypeId} (h : W.heap[b]? = some (.cells #[.slice a n c] t (0, 0))) : (Instr.loadAt 24 (.pointer (some ⟨b, 0, none⟩))).run Tryd.prog W = .ok (.slice a n c) W := by
  have h1 : W.cell? ⟨b, 0, none⟩ = some (.slice a n c) := cell_of h 0 _ rfl
  go_simp
theorem ld_ints {W : World} {b : Nat} {a : Option Addr} {n c : Nat} {t : TypeId} (h : W.heap[b]? = some (.cells #[.slice a n c] t (0, 0))) : (Instr.loadAt 22 (.pointer (some ⟨b, 0, none⟩))).run Tryd.prog W = .ok (.slice a n c) W := by
  have h1 : W.cell? ⟨b, 0, none⟩ = some (.slice a n c) := cell_of h 0 _ rfl
  go_simp
theorem st_bss {W : World} {b : Nat} {x : Value} {a2 : Option Addr} {n2 c2 : Nat} {t : TypeId} (h : W.heap[b]? = some (.cells #[x] t (0, 0))) : (Instr.storeAt 24 (.pointer (some ⟨b, 0, none⟩)) (.slice a2 n2 c2)).run Tryd.prog W = .ok () (W.setCell ⟨b, 0, none⟩ (.slice a2 n2 c2)) := by
  have h1 : W.cell? ⟨b, 0, none⟩ = some x := cell_of h 0 _ rfl
  have h2 : W.frozen? ⟨b, 0, none⟩ = false := by simp [World.frozen?, h]
  go_simp
theorem st_ints {W : World} {b : Nat} {x : Value} {a2 : Option Addr} {n2 c2 : Nat} {t : TypeId} (h : W.heap[b]? = some (.cells #[x] t (0, 0))) : (Instr.storeAt 22 (.pointer (some ⟨b, 0, none⟩)) (.slice a2 n2 c2)).run Tryd.prog W = .ok () (W.setCell ⟨b, 0, none⟩ (.slice a2 n2 c2)) := by
  have h1 : W.cell? ⟨b, 0, none⟩ = some x := cell_of h 0 _ rfl
  have h2 : W.frozen? ⟨b, 0, none⟩ = false := by simp [World.frozen?, h]
  go_simp
theorem bs_one (W : World) (a : Option Addr) (n c : Nat) : (Instr.buildSlice 24 1 #[(0, .slice a n c)]).run Tryd.prog W = .ok (.slice (some ⟨W.heap.size, 0, none⟩) 1 1) (W.alloc (.cells #[.slice a n c] 31)) := by go_simp
theorem Bs.block {w w' : World} {b o len cap : Nat} {l : List UInt8} (h : Bs w (some ⟨b, o, none⟩) len cap l) (h0 : 0 < len) (hb : w'.heap[b]? = w.heap[b]?) : Bs w' (some ⟨b, o, none⟩) len cap l := by
  obtain ⟨h1, h2, h3, h4, h5⟩ := h
  refine ⟨h1, h2, h3, h4, ?_⟩
  rcases h5 with h5 | ⟨b', o', e, hl, hc⟩
  · omega
  · cases e
    refine .inr ⟨b, o, rfl, ?_, fun i hi => (World.cell?_of_block hb).trans (hc i hi)⟩
    rw [Array.getElem?_eq_getElem hl] at hb
    exact (Array.getElem?_eq_some_iff.1 hb).1

set_option maxRecDepth 100000 in
set_option maxHeartbeats 8000000 in
theorem cput_ok {w : World} {a : Option Addr} {n cap : Nat} {at_ : List Int} (h : Row .i64 w a n cap at_) (hI : ∀ x ∈ at_, I64 x) (v : List UInt8) (hh : Half w) (h0 : n ≠ 0) (hq : n = needC v.length) (hap : aptC at_ = true) :
    Calls Tryd.prog 9 #[.string (strOf v), .slice a n cap] w (PutPostC w v at_) := by
  have hl := h.1
  have hok : putOkC v at_ = true := by
    unfold putOkC
    rw [hap, hl, ← hq]
    simp [h0]
  have hv := needC_pos (n := (v.length : Int)) (by omega)
  have hCN := chunkN_need hq h0
  have C : ∀ W, Calls Tryd.prog 11 #[.int .i64 (v.length : Int)] W fun e w' => e = .returned (.int .i64 (needC (v.length : Int) : Int)) ∧ W = w' := fun W => cneed_any _ W
  obtain ⟨hl, hc, hm⟩ := h.lensC
  have hmm := @run_makeMap Tryd.prog
  have hsz := strOf_size v
  have hn4 := needC_le v.length
  rw [← hq] at C hn4
  have H := Lib.hid h
  have HL := Lib.hid hl
  have HA := Lib.hid hap
  have HK := Lib.hid hok
  have HCN := Lib.hid hCN
  clear hl h hq hap hok hCN
  refine (callsIn_wide (n := 8)).1 ?_
  refine callsIn_of_wp_marks Tryd.func9 rfl trivial ?_ rfl
  simp only [Tryd.ntmps9, List.size_toArray, List.length_cons, List.length_nil, Nat.reduceAdd, Nat.reduceSub, Array.replicate_succ, Array.replicate_zero, List.push_toArray, List.append_toArray, List.nil_append, List.cons_append]
  have d0 : ((n : Int) == 0) = false := by rw [beq_eq_false_iff_ne]; omega
  have d1 : (n == 0) = false := by simpa using h0
  gi_wp2_with (refine ⟨trivial, ?_⟩; first | (gi_at_call 11; refine (callsIn_wide.2 (C _)).mono ?_; rintro e w1 ⟨rfl, rfl⟩) | fail)
  obtain ⟨g0, g1, g2⟩ := five_first w (.slice none 0 0) (.int .i64 0) 24 25 (Obj.map #[] 0) (Obj.cells #[Value.slice none 0 0, Value.map (some (w.heap.size + 1 + 1))] 60) (Obj.cells #[Value.pointer (some ⟨w.heap.size + 1 + 1 + 1, 0, none⟩)] 57)
  obtain ⟨g3, g4⟩ := five_plc w (.cells #[.slice none 0 0] 24) (.cells #[.int .i64 0] 25) 57 (.pointer (some ⟨w.heap.size + 1 + 1 + 1, 0, none⟩))
  generalize (((((w.alloc (Obj.cells #[Value.slice none 0 0] 24)).alloc (Obj.cells #[Value.int IntKind.i64 0] 25)).alloc (Obj.map #[] 0)).alloc (Obj.cells #[Value.slice none 0 0, Value.map (some (w.heap.size + 1 + 1))] 60)).alloc (Obj.cells #[Value.pointer (some ⟨w.heap.size + 1 + 1 + 1, 0, none⟩)] 57)) = W5 at *
  have F := contains_places H.out hI HL.out (by omega) g0 g1 g2 g3 g4
  clear g3 g4 hmm C
  refine ⟨trivial, (callsIn_wide.2 F).mono ?_⟩
  rintro e W6 ⟨b, rfl, hb, hk6, hb6⟩
  have hbt : b = false := by rw [HA.out] at hb; simpa using hb
  subst hbt
  have F0 := Lib.hid (hk6 _ _ _ (by decide) (by decide) g0)
  have F1 := Lib.hid (hk6 _ _ _ (by decide) (by decide) g1)
  obtain ⟨a2, ha2, hsl⟩ := slice_from elem_ints size_ints a n cap 1 (by omega)
  have hsl1 : ∀ W, (Instr.slice 22 (.slice a n cap) (some (.int .i64 1)) none none).run Tryd.prog W = .ok (.slice a2 (n - 1) (cap - 1)) W := hsl .i64
  have hrow2 := (H.out.below (Nat.le_refl _) hb6).drop 1 (by omega)
  rw [← ha2] at hrow2
  have CL := clonei_any hrow2 (by omega)
  clear F hb hk6 g0 g1 ha2 hsl
  obtain ⟨i0, hi0, hz0, hz1, hz2⟩ := info_parts info_i64C
  gi_wp2_with (first
    | (refine ⟨trivial, ?_⟩; gi_at_call 26; refine (callsIn_wide.2 CL).mono ?_; rintro e W7 ⟨v7, rfl, ho7, hb7⟩; have hs7 := hb7.size; obtain ⟨v8, W8, hr8, ho8, hg8, hv8⟩ := run_append_new (P := Tryd.prog) (w := W7) W6.heap.size 22 3 i0 _ 1 8 Tryd.underlying22 hi0 hz0 hz1 hz2 rfl (by decide) ho7 #[.int .i64 0] rfl (by intro u hu; simp at hu; subst hu; rfl) (by unfold maxLen; omega) (by omega) hs7; rw [Nat.sub_add_cancel (by omega)] at ho8; obtain ⟨a8, c8, rfl, hc8, hm8, hga8⟩ := own_slice ho8; obtain ⟨g8, rfl⟩ := hga8 (by omega); obtain ⟨cL, W11, hcv, hbs, hb11⟩ := str_bytes (P := Tryd.prog) ((W8.alloc (.cells #[.slice (some ⟨g8, 0, none⟩) n c8] 22)).alloc (.cells #[.slice none 0 0] 24)) Tryd.underlying9 Tryd.underlying31 Tryd.underlying5 v (by omega); simp only [World.size_alloc] at hcv hbs)
    | (gi_at_builtin; refine wpListIn_append_run rfl _ _ _ _ rfl rfl rfl hr8 ?_))
  have hch := chunk_any (some ⟨W8.heap.size + 1 + 1, 0, none⟩) v.length cL 119 W11 (by omega)
  refine ⟨trivial, (callsIn_wide.2 hch).mono ?_⟩
  rintro e wC ⟨rfl, hwC⟩
  have hb8 : Below W6.heap.size W6 W8 := hb7.grown hg8 hs7 (own_ge ho7)
  have hb9 : Below W8.heap.size W8 W11 := (((Below.refl W8.heap.size W8).alloc (Nat.le_refl _) _).alloc (by simp) _).trans (hb11.mono (by simp; omega))
  have hbC : Below W11.heap.size W11 wC := by rw [← hwC]; exact ((Below.refl _ _).alloc (Nat.le_refl _) _).alloc (by simp) _
  have hs8 := hb8.size
  have hsC : wC.heap.size = W11.heap.size + 2 := by rw [← hwC]; simp
  have hs11 : W8.heap.size + 3 ≤ W11.heap.size := by
    obtain ⟨bq, oq, e, hlt, _⟩ := hbs.cell (k := 0) (by omega)
    cases e; omega
  have hg8l := own_lt ho8 g8 rfl
  have hcells : ∀ i, i < n → W8.cell? ⟨g8, i, none⟩ = some (.int .i64 (nextC at_ i)) := fun i hi => by
    have hat := HL.out
    rw [ho8.cellAt i (by simp; omega)]
    unfold nextC atC
    by_cases h1 : i + 1 < n
    · rw [if_pos (by omega), List.getElem?_append_left (by simp; omega)]
      simp [List.getElem?_eq_getElem (show i + 1 < at_.length by omega), List.getElem?_eq_getElem (show 1 + i < at_.length by omega), Nat.add_comm]
    · rw [if_neg (by omega), List.getElem?_append_right (by simp; omega)]
      simp [show i - (at_.length - 1) = 0 by omega]
  have hcellC : ∀ i, i < n → wC.cell? ⟨g8, i, none⟩ = some (.int .i64 (nextC at_ i)) := fun i hi => by
    rw [hbC.cell (p := ⟨g8, i, none⟩) (by simp; omega), hb9.cell (p := ⟨g8, i, none⟩) hg8l]; exact hcells i hi
  have hbw8 : Below w.heap.size w W8 := hb6.trans (hb8.mono hb6.size)
  have hbwC : Below w.heap.size w wC := (hbw8.trans (hb9.mono hbw8.size)).trans (hbC.mono (Nat.le_trans hbw8.size hb9.size))
  have x0 : wC.heap[w.heap.size]? = some (.cells #[.slice none 0 0] 24 (0, 0)) := by
    have l0 := (Array.getElem?_eq_some_iff.1 F0.out).1
    rw [hbC.block _ (by omega), hb9.block _ (by omega), hb8.block _ l0]; exact F0.out
  have x1 : wC.heap[w.heap.size + 1]? = some (.cells #[.int .i64 0] 25 (0, 0)) := by
    have l0 := (Array.getElem?_eq_some_iff.1 F1.out).1
    rw [hbC.block _ (by omega), hb9.block _ (by omega), hb8.block _ l0]; exact F1.out
  have l1 := (Array.getElem?_eq_some_iff.1 F1.out).1
  have xn : wC.heap[W8.heap.size]? = some (.cells #[.slice (some ⟨g8, 0, none⟩) n c8] 22 (0, 0)) := by
    rw [hbC.block _ (by omega), hb11.block _ (by simp; omega), Below.heap_alloc _ _ _ (by simp)]; exact World.alloc_heap_new _ _
  have xo : wC.heap[W8.heap.size + 1]? = some (.cells #[.slice none 0 0] 24 (0, 0)) := by
    rw [hbC.block _ (by omega), hb11.block _ (by simp)]
    have := World.alloc_heap_new (W8.alloc (.cells #[.slice (some ⟨g8, 0, none⟩) n c8] 22)) (.cells #[.slice none 0 0] 24)
    rwa [World.size_alloc] at this
  have yB : wC.heap[W11.heap.size]? = some (.cells #[.slice (some ⟨W8.heap.size + 1 + 1, 0, none⟩) v.length cL] 31 (0, 0)) := by
    rw [← hwC, Below.heap_alloc _ _ _ (by simp)]; exact World.alloc_heap_new _ _
  have yZ : wC.heap[W11.heap.size + 1]? = some (.cells #[.int .i64 119] 3 (0, 0)) := by
    have := World.alloc_heap_new (W11.alloc (.cells #[.slice (some ⟨W8.heap.size + 1 + 1, 0, none⟩) v.length cL] 31)) (.cells #[.int .i64 119] 3)
    rw [World.size_alloc] at this
    rw [← hwC]; exact this
  have hbsC := hbs.below (Nat.le_refl _) hbC
  have hcL := hbs.cap
  unfold maxLen at hm8 hcL
  have HLT : Hid (w.heap.size + 1 < W8.heap.size ∧ g8 < W8.heap.size ∧ W8.heap.size + 3 ≤ W11.heap.size ∧ wC.heap.size = W11.heap.size + 2) := Lib.hid ⟨by omega, hg8l, hs11, hsC⟩
  clear hch CL hcells hb11 hb7 hb8 hb9 hbC hg8 hv8 hr8 hcv hs7 hs8 ho7 ho8 hbw8 hwC hi0 hz0 hz1 hz2 hb6 hrow2 hsl1 hga8 F0 F1 hbs l1 hg8l hs11 hsC g2
  generalize W8.heap.size = nb at *
  generalize W11.heap.size = bx at *
  gi_wp2
  have HXB := Lib.hid yB
  have HXZ := Lib.hid yZ
  clear yB yZ
  refine wpIn_range_one rfl (by omega) (gf := 45) (lb := #[.pointer (some ⟨bx, 0, none⟩), .pointer (some ⟨bx + 1, 0, none⟩)]) rfl trivial (enters_of Tryd.func45 (by kernel_rfl) rfl)
    (chunk_stops 7 (by omega) bx (bx + 1) (w.heap.size + 1 + 1) (some ⟨nb + 1 + 1, 0, none⟩) (nb + 1 + 1) 0 v.length cL 119 (fun _ => rfl) (by omega) (by omega) hcL.1 (by omega) wC HXB.out HXZ.out) keepC_t (keepC_b (by have := HLT.out; omega)) (fun W => KeepC.refl _ _ W) (Below.refl _ _) (fun _ => rfl)
    (OutC v at_ n g8 c8 nb (nb + 1) wC (chunkN v.length 119)) (fun _ _ _ => False) (outC_own _ _ _ _ _ _ _ _ _ _ (by omega)) (fun _ _ _ _ _ hs _ _ => hs)
    ⟨⟨_, xo, OwnBss.nil _ _⟩, ⟨_, xn, fun _ => rfl⟩, Only.refl _ _⟩ ?round ?done ?stop
  case round =>
    intro l x W K hK
    obtain ⟨e, hcv, hbp, he0, he9⟩ := chunk_part hbsC x.1 (chunkN_lt (by omega) x.2)
    rw [hcv]
    gi_wp2
    intro l' pre W' hJ hlt
    obtain ⟨⟨u, j1, j2⟩, ⟨aN, j3, j4⟩, j5⟩ := hJ
    have hkn : pre.length < n := by rw [← HCN.out]; exact hlt
    obtain rfl := j4 hkn
    have hLT := HLT.out
    obtain ⟨y, hy⟩ := Int.eq_ofNat_of_zero_le (nextC_lt HA.out pre.length).1
    have hy2 := (nextC_lt HA.out pre.length).2
    have k0 : W'.cell? ⟨nb, 0, none⟩ = some (.slice (some ⟨g8, pre.length, none⟩) (n - pre.length) (c8 - pre.length)) := cell_of j3 0 _ rfl
    have k1 : W'.cell? ⟨g8, pre.length, none⟩ = some (.int .i64 (y : Int)) := by
      rw [World.cell?_of_block (j5.block (k := g8) (by omega) (by simp; omega)), hcellC _ hkn, hy]
    have hbq := hbp.block he0 (j5.block (k := nb + 1 + 1) (by omega) (by simp; omega))
    have hw64 : (y : Int) % 18446744073709551616 = (y : Int) := by omega
    have hNum : Calls Tryd.prog 30 #[.int .u64 (y : Int), .int .i64 2] W' (OwnBytes 5 W' (beBytes y 2)) := num_ok y 2 W' (by omega) (by omega) (by omega)
    have hn1 : 0 < n - pre.length := by omega
    have HY := Lib.hid hy
    have HJ2 := Lib.hid j2
    have HJ5 := Lib.hid j5
    have HXP := Lib.hid (pgsC_snoc v at_ (pre.map Fin.val) x.1)
    clear hy j4 hcv hbp hlt j2 j5
    generalize partC v x.1 = P at *
    generalize hkk : pre.length = k at *
    have HKK := Lib.hid hkk
    clear hkk
    have hP9 : P.length = e := hbq.len
    have hbW' : Below w.heap.size w W' := hbwC.trans (HJ5.out.below (by omega) (by simp; omega))
    have hhW' := hh.below (Nat.le_refl _) hbW'
    gi_wp2_with fail
    refine ⟨trivial, (calls_round hNum).mono ?_⟩
    rintro e1 W1 ⟨v1, rfl, ho1, hb1⟩
    rw [beBytes_length] at ho1
    obtain ⟨a1, c1, rfl, hbs1⟩ := Bs.of_own ho1
    have hbq1 := hbq.below (Nat.le_refl _) hb1
    have hB2 := bss_two hbs1 hbq1 31
    have hle2 : lens [beBytes y 2, P] = 2 + e := by simp [lens, beBytes_length, hP9]
    have hCc := concat_any hB2 (by omega) (by omega)
    have hA1 : Below W'.heap.size W' (W1.alloc (.cells #[.slice a1 2 c1, .slice (some ⟨nb + 1 + 1, 119 * x.1, none⟩) e e] 31)) := hb1.alloc hb1.size _
    have hfl : [beBytes y 2, P].flatten = beBytes y 2 ++ P := by simp
    rw [hfl] at hCc
    clear hNum hbq1 hbs1 ho1 hB2 hle2 hfl hb1
    gi_wp2_with fail
    refine ⟨trivial, (calls_round hCc).mono ?_⟩
    rintro e2 W3 ⟨v3, rfl, ho3, hb3⟩
    have hlen3 : (beBytes y 2 ++ P).length = 2 + e := by rw [List.length_append, beBytes_length, hP9]
    rw [hlen3] at ho3
    obtain ⟨a3, c3, rfl, hbs3⟩ := Bs.of_own ho3
    have hA3 := below_then hA1 hb3
    have hB4 := bss_oneC hbs3 31
    have hA4 : Below W'.heap.size W' (W3.alloc (.cells #[.slice a3 (2 + e) c3] 31)) := hA3.alloc hA3.size _
    have hfit : fits 3 [beBytes y 2 ++ P] = true := by simp [fits, lens_one, beBytes_length, hP9]; omega
    have hPk : Calls Tryd.prog 28 #[.int .u8 3, .slice (some ⟨W3.heap.size, 0, none⟩) 1 1] (W3.alloc (.cells #[.slice a3 (2 + e) c3] 31)) (PackAny (W3.alloc (.cells #[.slice a3 (2 + e) c3] 31)) (pageOf 3 [beBytes y 2 ++ P]) 0) := by
      have := pack_any 3 (some ⟨W3.heap.size, 0, none⟩) 1 1 [beBytes y 2 ++ P] (W3.alloc (.cells #[.slice a3 (2 + e) c3] 31)) hB4 (hhW'.below (Nat.le_refl _) hA4) (by rw [lens_one, hlen3]; omega)
      rwa [packV, packE, if_pos hfit, if_pos hfit] at this
    have HPG : Hid (pageOf 3 [wordC (nextC at_ k) ++ P] = pageOf 3 [beBytes y 2 ++ P]) := Lib.hid (by rw [HY.out, wordC]; rfl)
    clear hCc ho3 hb3 hbs3 hB4 hfit hA1 hA3
    generalize pageOf 3 [beBytes y 2 ++ P] = G at *
    gi_wp2_with fail
    refine ⟨trivial, (calls_round hPk).mono ?_⟩
    rintro e3 W9 ⟨v9, rfl, ho9, hb9⟩
    have hA9 := below_then hA4 hb9
    have ho9 := own_base ho9 (show W'.heap.size ≤ (W3.alloc (.cells #[.slice a3 (2 + e) c3] 31)).heap.size from hA4.size)
    clear hPk hA4 hb9
    have j5 := HJ5.out
    have hn0 : nb < W'.heap.size := (Array.getElem?_eq_some_iff.1 j3).1
    have hob : nb + 1 < W'.heap.size := (Array.getElem?_eq_some_iff.1 j1).1
    have hbC' : wC.heap.size ≤ W'.heap.size := j5.size
    have i1 : W9.drew.heap[nb + 1]? = some (.cells #[u] 24 (0, 0)) := (hA9.block _ hob).trans j1
    have i3 : W9.drew.heap[nb]? = some (.cells #[.slice (some ⟨g8, k, none⟩) (n - k) (c8 - k)] 22 (0, 0)) := (hA9.block _ hn0).trans j3
    have hou : OwnBss W9.drew wC.heap.size u (pgsC v at_ (pre.map Fin.val)) := (HJ2.out.below (Nat.le_refl _) hA9).below (Nat.le_refl _) (Below.refl _ _).drew
    have hs9 := hA9.size
    have ho9d : W9.drew.ownsRow W'.heap.size 5 1 v9 G.length ((toI G).map (Value.int .u8)) := ho9
    have hxl : (pgsC v at_ (pre.map Fin.val)).length = k := by rw [pgsC, List.length_map, List.length_range, List.length_map]; exact HKK.out
    obtain ⟨u10, w10, hr10, ho10, hg10⟩ := append_bss hou ho9d hbC' (by omega) (show wC.heap.size ≤ W9.drew.heap.size from Nat.le_trans hbC' hs9)
    have huge := hou.ge
    have n1 : u.ownBlock ≠ some (nb + 1) := fun e => by have := huge _ e; omega
    have n0 : u.ownBlock ≠ some nb := fun e => by have := huge _ e; omega
    obtain ⟨au, ku, eu⟩ : ∃ a c, u = .slice a k c := by
      obtain ⟨vs, e1, _⟩ := hou
      obtain ⟨a, c, e2, _⟩ := own_slice e1
      exact ⟨a, c, by rw [← hxl]; exact e2⟩
    obtain ⟨a10, c10, e10⟩ : ∃ a c, u10 = .slice a (k + 1) c := by
      obtain ⟨vs, e1, _⟩ := ho10
      obtain ⟨a, c, e2, _⟩ := own_slice e1
      rw [List.length_append, hxl] at e2
      exact ⟨a, c, e2⟩
    have hua9 : W9.drew.heap.size = W9.heap.size := rfl
    have i1a : (W9.drew.alloc (.cells #[v9] 31)).heap[nb + 1]? = some (.cells #[u] 24 (0, 0)) := by rw [Below.heap_alloc _ _ _ (by omega)]; exact i1
    have i3a : (W9.drew.alloc (.cells #[v9] 31)).heap[nb]? = some (.cells #[.slice (some ⟨g8, k, none⟩) (n - k) (c8 - k)] 22 (0, 0)) := by rw [Below.heap_alloc _ _ _ (by omega)]; exact i3
    have i1b : w10.heap[nb + 1]? = some (.cells #[u] 24 (0, 0)) := (hg10.block _ (by omega) (fun e => n1 e.symm)).trans i1
    have i3b : w10.heap[nb]? = some (.cells #[.slice (some ⟨g8, k, none⟩) (n - k) (c8 - k)] 22 (0, 0)) := (hg10.block _ (by omega) (fun e => n0 e.symm)).trans i3
    have i1c : (w10.setCell ⟨nb + 1, 0, none⟩ u10).heap[nb + 1]? = some (.cells #[u10] 24 (0, 0)) := by rw [heap_setCell_at 0 _ i1b]; rfl
    have i3c : (w10.setCell ⟨nb + 1, 0, none⟩ u10).heap[nb]? = some (.cells #[.slice (some ⟨g8, k, none⟩) (n - k) (c8 - k)] 22 (0, 0)) := by rw [Below.heap_setCell _ _ _ nb (by simp)]; exact i3b
    obtain ⟨aS, haS, hslk⟩ := slice_from elem_ints size_ints (some ⟨g8, k, none⟩) (n - k) (c8 - k) 1 (by omega)
    have hsl1 : ∀ W, (Instr.slice 22 (.slice (some ⟨g8, k, none⟩) (n - k) (c8 - k)) (some (.int .i64 1)) none none).run Tryd.prog W = .ok (.slice aS (n - k - 1) (c8 - k - 1)) W := hslk .i64
    have haS2 : k + 1 < n → aS = some ⟨g8, k + 1, none⟩ := fun hk1 => by
      rw [haS, if_neg (by omega)]; simp [add_none]
    have i1d : ((w10.setCell ⟨nb + 1, 0, none⟩ u10).setCell ⟨nb, 0, none⟩ (.slice aS (n - k - 1) (c8 - k - 1))).heap[nb + 1]? = some (.cells #[u10] 24 (0, 0)) := by rw [Below.heap_setCell _ _ _ (nb + 1) (by simp)]; exact i1c
    have i3d : ((w10.setCell ⟨nb + 1, 0, none⟩ u10).setCell ⟨nb, 0, none⟩ (.slice aS (n - k - 1) (c8 - k - 1))).heap[nb]? = some (.cells #[.slice aS (n - k - 1) (c8 - k - 1)] 22 (0, 0)) := by rw [heap_setCell_at 0 _ i3c]; rfl
    have ENDP : KeepsFrom wC.heap.size W' ((w10.setCell ⟨nb + 1, 0, none⟩ u10).setCell ⟨nb, 0, none⟩ (.slice aS (n - k - 1) (c8 - k - 1))) ∧ KeepC (w.heap.size + 1 + 1) [bx, bx + 1] W' ((w10.setCell ⟨nb + 1, 0, none⟩ u10).setCell ⟨nb, 0, none⟩ (.slice aS (n - k - 1) (c8 - k - 1))) ∧ OutC v at_ n g8 c8 nb (nb + 1) wC (chunkN v.length 119) (pre ++ [x]) ((w10.setCell ⟨nb + 1, 0, none⟩ u10).setCell ⟨nb, 0, none⟩ (.slice aS (n - k - 1) (c8 - k - 1))) := by
      have o10 : ∀ j, j < W'.heap.size → u.ownBlock ≠ some j → w10.heap[j]? = W'.heap[j]? := fun j hj hne => (hg10.block j (by omega) (fun e => hne e.symm)).trans (hA9.block j hj)
      have hsz : W'.heap.size ≤ w10.heap.size := Nat.le_trans hs9 hg10.size
      refine ⟨⟨by simp [World.setCell]; exact hsz, fun j o hj hk hc => ?_⟩, ⟨?_, fun j hj o hk hc => ?_⟩, ⟨⟨u10, i1d, ?_⟩, ⟨aS, ?_, ?_⟩, ?_⟩⟩
      · have hjl := (Array.getElem?_eq_some_iff.1 hk).1
        rw [Below.heap_setCell _ _ _ j (by simp; omega), Below.heap_setCell _ _ _ j (by simp; omega), o10 j hjl (fun e => ?_)]
        · exact hk
        · obtain ⟨vs, q1, _⟩ := HJ2.out
          rcases q1.2 with ⟨rfl, _⟩ | ⟨g', cap', cur, rfl, _, hh', _⟩
          · cases e
          · cases e
            rw [hh'] at hk; cases hk; cases hc
      · have hB10 : Below wC.heap.size W9.drew w10 := (Below.refl _ _).grown hg10 (by omega) huge
        have hB : Below (w.heap.size + 1 + 1) W' w10 := ((hA9.drew).mono (show w.heap.size + 1 + 1 ≤ W'.heap.size by omega)).trans (hB10.mono (by omega))
        exact (hB.setCell (by simp; omega) _).setCell (by simp; omega) _
      · have hjl := (Array.getElem?_eq_some_iff.1 hk).1
        have hjb : bx ≤ j ∧ j < wC.heap.size := by simp at hj; omega
        rw [Below.heap_setCell _ _ _ j (by simp; omega), Below.heap_setCell _ _ _ j (by simp; omega), o10 j hjl (fun e => by have := huge _ e; omega)]
        exact hk
      · have hS : pgsC v at_ ((pre ++ [x]).map Fin.val) = pgsC v at_ (pre.map Fin.val) ++ [G] := by
          rw [List.map_append, List.map_singleton, HXP.out, List.length_map, HKK.out, HPG.out]
        rw [hS]
        have t1 : ∀ k', u10.ownBlock = some k' → k' ≠ nb + 1 ∧ k' ≠ nb := fun k' e => by have := ho10.ge _ e; omega
        obtain ⟨vs, q1, q2, q3⟩ := ho10
        refine ⟨vs, own_set (own_set q1 _ _ (fun e => (t1 _ e).1 rfl)) _ _ (fun e => (t1 _ e).2 rfl), q2, fun i c hc => ?_⟩
        obtain ⟨z, z1, z2⟩ := q3 i c hc
        have z3 := own_ge z2
        exact ⟨z, z1, own_set (own_set z2 _ _ (fun e => by have := z3 _ e; simp at this; omega)) _ _ (fun e => by have := z3 _ e; simp at this; omega)⟩
      · rw [List.length_append, List.length_singleton, HKK.out]; exact i3d
      · rw [List.length_append, List.length_singleton, HKK.out]; exact haS2
      · have c1 : Only [nb, nb + 1] wC W9.drew := j5.trans (Only.of_below hA9.drew)
        have c2 : Only [nb, nb + 1] wC w10 := by
          cases hu : u.ownBlock with
          | none => rw [hu] at hg10; exact c1.trans (Only.of_grown hg10 (fun k e => by cases e))
          | some r =>
            rw [hu] at hg10
            refine c1.then (Only.of_grown (S := [r]) hg10 (fun k e => by cases e; left; simp)) (fun i hi => ?_)
            simp at hi; subst hi
            exact .inr (huge _ hu)
        exact (c2.set _ _ (by simp)).set _ _ (by simp)
    have END := Lib.hid ENDP
    clear ENDP ho10 hg10 i3d i1d
    subst eu e10
    have lo0 : (Instr.loadAt 24 (.pointer (some ⟨nb + 1, 0, none⟩))).run Tryd.prog W9.drew = .ok (.slice au k ku) W9.drew := ld_bss i1
    have lo1 : (Instr.loadAt 24 (.pointer (some ⟨nb + 1, 0, none⟩))).run Tryd.prog (W9.drew.alloc (.cells #[v9] 31)) = .ok (.slice au k ku) (W9.drew.alloc (.cells #[v9] 31)) := ld_bss i1a
    have ln0 : (Instr.loadAt 22 (.pointer (some ⟨nb, 0, none⟩))).run Tryd.prog W9.drew = .ok (.slice (some ⟨g8, k, none⟩) (n - k) (c8 - k)) W9.drew := ld_ints i3
    have ln1 : (Instr.loadAt 22 (.pointer (some ⟨nb, 0, none⟩))).run Tryd.prog (W9.drew.alloc (.cells #[v9] 31)) = .ok (.slice (some ⟨g8, k, none⟩) (n - k) (c8 - k)) (W9.drew.alloc (.cells #[v9] 31)) := ld_ints i3a
    have ln2 : (Instr.loadAt 22 (.pointer (some ⟨nb, 0, none⟩))).run Tryd.prog w10 = .ok (.slice (some ⟨g8, k, none⟩) (n - k) (c8 - k)) w10 := ld_ints i3b
    have ln3 : (Instr.loadAt 22 (.pointer (some ⟨nb, 0, none⟩))).run Tryd.prog (w10.setCell ⟨nb + 1, 0, none⟩ (.slice a10 (k + 1) c10)) = .ok (.slice (some ⟨g8, k, none⟩) (n - k) (c8 - k)) (w10.setCell ⟨nb + 1, 0, none⟩ (.slice a10 (k + 1) c10)) := ld_ints i3c
    obtain ⟨a9, k9, rfl, _⟩ := own_slice ho9
    have bs1 : (Instr.buildSlice 24 1 #[(0, .slice a9 G.length k9)]).run Tryd.prog W9.drew = .ok (.slice (some ⟨W9.drew.heap.size, 0, none⟩) 1 1) (W9.drew.alloc (.cells #[.slice a9 G.length k9] 31)) := bs_one _ _ _ _
    have st6 : (Instr.storeAt 24 (.pointer (some ⟨nb + 1, 0, none⟩)) (.slice a10 (k + 1) c10)).run Tryd.prog w10 = .ok () (w10.setCell ⟨nb + 1, 0, none⟩ (.slice a10 (k + 1) c10)) := st_bss i1b
    have st7 : (Instr.storeAt 22 (.pointer (some ⟨nb, 0, none⟩)) (.slice aS (n - k - 1) (c8 - k - 1))).run Tryd.prog (w10.setCell ⟨nb + 1, 0, none⟩ (.slice a10 (k + 1) c10)) = .ok () ((w10.setCell ⟨nb + 1, 0, none⟩ (.slice a10 (k + 1) c10)).setCell ⟨nb, 0, none⟩ (.slice aS (n - k - 1) (c8 - k - 1))) := st_ints i3c
    clear i1 i3 i1a i3a i1b i3b i1c i3c hou hs9 ho9d hxl huge n1 n0 hua9 haS hslk haS2 j1 j3 k0 k1 hn0 hob hbC' j5 hA9 ho9 hhW' hbW'
    gi_wp2_with fail
    refine region_round_held (S := (fun _ => True)) (by kernel_rfl) (by kernel_rfl) (by trivial) (fun hHeld => ?_)
    refine wpAnyH_take (i := 1) (oi := { dst := some 57, op := Op.move (Operand.tmp 10), type := 31, pos := "chain.go:59", after := #[], guard := none }) (v := ?_) rfl (by kernel_rfl) (by kernel_rfl) (by kernel_rfl) (fun _ _ _ h => h) (Or.inl ⟨by rfl, ?_⟩) (by assumption) ?_
    rotate_left
    · (intro W hW; (try dsimp only at hW); go_simp <;> (with_reducible rfl))
    try simp only [Act.put, List.setIfInBounds_toArray, List.set_cons_zero, List.set_cons_succ]
    refine wpAnyH_ready (rs := [0, 2, 4]) (by kernel_rfl) (by simp) (AllReadyH.cons (o := { dst := some 56, op := Op.load 24 (Operand.tmp 8), type := 24, pos := "chain.go:59", after := #[], guard := none }) rfl (fun K hK => ?_) (AllReadyH.cons (o := { dst := some 58, op := Op.buildSlice 24 1 #[(0, Operand.tmp 57)], type := 24, pos := "chain.go:59", after := #[{ on := 1, ground := Ground.data }], guard := none }) rfl (fun K hK => ?_) (AllReadyH.cons (o := { dst := some 60, op := Op.load 22 (Operand.tmp 7), type := 22, pos := "chain.go:59", after := #[], guard := none }) rfl (fun K hK => ?_) AllReadyH.nil)))
    · refine step_load_run rfl _ _ rfl rfl (by first | exact lo0 | exact lo1) ?_
      refine hK.out _ _ (by trivial) (fun hHeld => ?_)
      clear hK K
      try simp only [Act.put, List.setIfInBounds_toArray, List.set_cons_zero, List.set_cons_succ]
      refine wpAnyH_ready (rs := [2, 4]) (by kernel_rfl) (by simp) (AllReadyH.cons (o := { dst := some 58, op := Op.buildSlice 24 1 #[(0, Operand.tmp 57)], type := 24, pos := "chain.go:59", after := #[{ on := 1, ground := Ground.data }], guard := none }) rfl (fun K hK => ?_) (AllReadyH.cons (o := { dst := some 60, op := Op.load 22 (Operand.tmp 7), type := 22, pos := "chain.go:59", after := #[], guard := none }) rfl (fun K hK => ?_) AllReadyH.nil))
      · refine step_buildSlice_one rfl _ _ rfl rfl bs1 ?_
        refine hK.out _ _ (by trivial) (fun hHeld => ?_)
        clear hK K
        try simp only [Act.put, List.setIfInBounds_toArray, List.set_cons_zero, List.set_cons_succ]
        refine wpAnyH_ready (rs := [3, 4]) (by kernel_rfl) (by simp) (AllReadyH.cons (o := { dst := some 59, op := Op.call { callee := Callee.builtin Builtin.append, args := #[Operand.tmp 56, Operand.tmp 58], argTypes := #[24, 24] }, type := 24, pos := "chain.go:59", after := #[{ on := 0, ground := Ground.data }, { on := 2, ground := Ground.data }], guard := none }) rfl (fun K hK => ?_) (AllReadyH.cons (o := { dst := some 60, op := Op.load 22 (Operand.tmp 7), type := 22, pos := "chain.go:59", after := #[], guard := none }) rfl (fun K hK => ?_) AllReadyH.nil))
        · refine step_append_run rfl _ _ _ _ rfl rfl rfl hr10 ?_
          refine hK.out _ _ (by trivial) (fun hHeld => ?_)
          clear hK K
          try simp only [Act.put, List.setIfInBounds_toArray, List.set_cons_zero, List.set_cons_succ]
          refine wpAnyH_ready (rs := [4, 6]) (by kernel_rfl) (by simp) (AllReadyH.cons (o := { dst := some 60, op := Op.load 22 (Operand.tmp 7), type := 22, pos := "chain.go:59", after := #[], guard := none }) rfl (fun K hK => ?_) (AllReadyH.cons (o := { dst := none, op := Op.store 24 (Operand.tmp 8) (Operand.tmp 59), type := 0, pos := "chain.go:59", after := #[{ on := 3, ground := Ground.data }, { on := 3, ground := Ground.chain }, { on := 0, ground := Ground.phase }, { on := 1, ground := Ground.phase }, { on := 2, ground := Ground.phase }, { on := 3, ground := Ground.phase }, { on := 4, ground := Ground.textOnly Departure.inlinedCapture }, { on := 5, ground := Ground.textOnly Departure.lateStoresUnsure }], guard := none }) rfl (fun K hK => ?_) AllReadyH.nil))
          · refine step_load_run rfl _ _ rfl rfl (by first | exact ln0 | exact ln1 | exact ln2 | exact ln3) ?_
            refine hK.out _ _ (by trivial) (fun hHeld => ?_)
            clear hK K
            try simp only [Act.put, List.setIfInBounds_toArray, List.set_cons_zero, List.set_cons_succ]
            refine wpAnyH_take (i := 5) (oi := { dst := some 61, op := Op.slice 22 (Operand.tmp 60) (some (Operand.const (Value.int IntKind.i64 1))) none none, type := 22, pos := "chain.go:59", after := #[{ on := 4, ground := Ground.data }], guard := none }) (v := ?_) rfl (by kernel_rfl) (by kernel_rfl) (by kernel_rfl) (fun _ _ _ h => h) (Or.inl ⟨by rfl, ?_⟩) (by assumption) ?_
            rotate_left
            · (intro W hW; (try dsimp only at hW); go_simp <;> (with_reducible rfl))
            try simp only [Act.put, List.setIfInBounds_toArray, List.set_cons_zero, List.set_cons_succ]
            refine wpAnyH_ready (rs := [6]) (by kernel_rfl) (by simp) (AllReadyH.cons (o := { dst := none, op := Op.store 24 (Operand.tmp 8) (Operand.tmp 59), type := 0, pos := "chain.go:59", after := #[{ on := 3, ground := Ground.data }, { on := 3, ground := Ground.chain }, { on := 0, ground := Ground.phase }, { on := 1, ground := Ground.phase }, { on := 2, ground := Ground.phase }, { on := 3, ground := Ground.phase }, { on := 4, ground := Ground.textOnly Departure.inlinedCapture }, { on := 5, ground := Ground.textOnly Departure.lateStoresUnsure }], guard := none }) rfl (fun K hK => ?_) AllReadyH.nil)
            refine step_store_run rfl _ _ _ rfl rfl rfl st6 ?_
            refine hK.out _ _ (by trivial) (fun hHeld => ?_)
            clear hK K
            try simp only [Act.put, List.setIfInBounds_toArray, List.set_cons_zero, List.set_cons_succ]
            refine wpAnyH_ready (rs := [7]) (by kernel_rfl) (by simp) (AllReadyH.cons (o := { dst := none, op := Op.store 22 (Operand.tmp 7) (Operand.tmp 61), type := 0, pos := "chain.go:59", after := #[{ on := 5, ground := Ground.data }, { on := 6, ground := Ground.chain }, { on := 0, ground := Ground.phase }, { on := 1, ground := Ground.phase }, { on := 2, ground := Ground.phase }, { on := 3, ground := Ground.phase }, { on := 4, ground := Ground.phase }, { on := 5, ground := Ground.phase }, { on := 6, ground := Ground.phase }], guard := none }) rfl (fun K hK => ?_) AllReadyH.nil)
            refine step_store_run rfl _ _ _ rfl rfl rfl st7 ?_
            refine hK.out _ _ (by trivial) (fun hHeld => ?_)
            clear hK K
            try simp only [Act.put, List.setIfInBounds_toArray, List.set_cons_zero, List.set_cons_succ]
            refine wpAnyH_done (by kernel_rfl) ?_ _
            refine Calm.normal ?_
            clear hHeld
            gi_wp2_with fail
            exact END.out
          · refine step_store_run rfl _ _ _ rfl rfl rfl st6 ?_
            refine hK.out _ _ (by trivial) (fun hHeld => ?_)
            clear hK K
            try simp only [Act.put, List.setIfInBounds_toArray, List.set_cons_zero, List.set_cons_succ]
            refine wpAnyH_ready (rs := [4]) (by kernel_rfl) (by simp) (AllReadyH.cons (o := { dst := some 60, op := Op.load 22 (Operand.tmp 7), type := 22, pos := "chain.go:59", after := #[], guard := none }) rfl (fun K hK => ?_) AllReadyH.nil)
            refine step_load_run rfl _ _ rfl rfl (by first | exact ln0 | exact ln1 | exact ln2 | exact ln3) ?_
            refine hK.out _ _ (by trivial) (fun hHeld => ?_)
            clear hK K
            try simp only [Act.put, List.setIfInBounds_toArray, List.set_cons_zero, List.set_cons_succ]
            refine wpAnyH_take (i := 5) (oi := { dst := some 61, op := Op.slice 22 (Operand.tmp 60) (some (Operand.const (Value.int IntKind.i64 1))) none none, type := 22, pos := "chain.go:59", after := #[{ on := 4, ground := Ground.data }], guard := none }) (v := ?_) rfl (by kernel_rfl) (by kernel_rfl) (by kernel_rfl) (fun _ _ _ h => h) (Or.inl ⟨by rfl, ?_⟩) (by assumption) ?_
            rotate_left
            · (intro W hW; (try dsimp only at hW); go_simp <;> (with_reducible rfl))
            try simp only [Act.put, List.setIfInBounds_toArray, List.set_cons_zero, List.set_cons_succ]
            refine wpAnyH_ready (rs := [7]) (by kernel_rfl) (by simp) (AllReadyH.cons (o := { dst := none, op := Op.store 22 (Operand.tmp 7) (Operand.tmp 61), type := 0, pos := "chain.go:59", after := #[{ on := 5, ground := Ground.data }, { on := 6, ground := Ground.chain }, { on := 0, ground := Ground.phase }, { on := 1, ground := Ground.phase }, { on := 2, ground := Ground.phase }, { on := 3, ground := Ground.phase }, { on := 4, ground := Ground.phase }, { on := 5, ground := Ground.phase }, { on := 6, ground := Ground.phase }], guard := none }) rfl (fun K hK => ?_) AllReadyH.nil)
            refine step_store_run rfl _ _ _ rfl rfl rfl st7 ?_
            refine hK.out _ _ (by trivial) (fun hHeld => ?_)
            clear hK K
            try simp only [Act.put, List.setIfInBounds_toArray, List.set_cons_zero, List.set_cons_succ]
            refine wpAnyH_done (by kernel_rfl) ?_ _
            refine Calm.normal ?_
            clear hHeld
            gi_wp2_with fail
            exact END.out
        · refine step_load_run rfl _ _ rfl rfl (by first | exact ln0 | exact ln1 | exact ln2 | exact ln3) ?_
          refine hK.out _ _ (by trivial) (fun hHeld => ?_)
          clear hK K
          try simp only [Act.put, List.setIfInBounds_toArray, List.set_cons_zero, List.set_cons_succ]
          refine wpAnyH_take (i := 5) (oi := { dst := some 61, op := Op.slice 22 (Operand.tmp 60) (some (Operand.const (Value.int IntKind.i64 1))) none none, type := 22, pos := "chain.go:59", after := #[{ on := 4, ground := Ground.data }], guard := none }) (v := ?_) rfl (by kernel_rfl) (by kernel_rfl) (by kernel_rfl) (fun _ _ _ h => h) (Or.inl ⟨by rfl, ?_⟩) (by assumption) ?_
          rotate_left
          · (intro W hW; (try dsimp only at hW); go_simp <;> (with_reducible rfl))
          try simp only [Act.put, List.setIfInBounds_toArray, List.set_cons_zero, List.set_cons_succ]
          refine wpAnyH_ready (rs := [3]) (by kernel_rfl) (by simp) (AllReadyH.cons (o := { dst := some 59, op := Op.call { callee := Callee.builtin Builtin.append, args := #[Operand.tmp 56, Operand.tmp 58], argTypes := #[24, 24] }, type := 24, pos := "chain.go:59", after := #[{ on := 0, ground := Ground.data }, { on := 2, ground := Ground.data }], guard := none }) rfl (fun K hK => ?_) AllReadyH.nil)
          refine step_append_run rfl _ _ _ _ rfl rfl rfl hr10 ?_
          refine hK.out _ _ (by trivial) (fun hHeld => ?_)
          clear hK K
          try simp only [Act.put, List.setIfInBounds_toArray, List.set_cons_zero, List.set_cons_succ]
          refine wpAnyH_ready (rs := [6]) (by kernel_rfl) (by simp) (AllReadyH.cons (o := { dst := none, op := Op.store 24 (Operand.tmp 8) (Operand.tmp 59), type := 0, pos := "chain.go:59", after := #[{ on := 3, ground := Ground.data }, { on := 3, ground := Ground.chain }, { on := 0, ground := Ground.phase }, { on := 1, ground := Ground.phase }, { on := 2, ground := Ground.phase }, { on := 3, ground := Ground.phase }, { on := 4, ground := Ground.textOnly Departure.inlinedCapture }, { on := 5, ground := Ground.textOnly Departure.lateStoresUnsure }], guard := none }) rfl (fun K hK => ?_) AllReadyH.nil)
          refine step_store_run rfl _ _ _ rfl rfl rfl st6 ?_
          refine hK.out _ _ (by trivial) (fun hHeld => ?_)
          clear hK K
          try simp only [Act.put, List.setIfInBounds_toArray, List.set_cons_zero, List.set_cons_succ]
          refine wpAnyH_ready (rs := [7]) (by kernel_rfl) (by simp) (AllReadyH.cons (o := { dst := none, op := Op.store 22 (Operand.tmp 7) (Operand.tmp 61), type := 0, pos := "chain.go:59", after := #[{ on := 5, ground := Ground.data }, { on := 6, ground := Ground.chain }, { on := 0, ground := Ground.phase }, { on := 1, ground := Ground.phase }, { on := 2, ground := Ground.phase }, { on := 3, ground := Ground.phase }, { on := 4, ground := Ground.phase }, { on := 5, ground := Ground.phase }, { on := 6, ground := Ground.phase }], guard := none }) rfl (fun K hK => ?_) AllReadyH.nil)
          refine step_store_run rfl _ _ _ rfl rfl rfl st7 ?_
          refine hK.out _ _ (by trivial) (fun hHeld => ?_)
          clear hK K
          try simp only [Act.put, List.setIfInBounds_toArray, List.set_cons_zero, List.set_cons_succ]
          refine wpAnyH_done (by kernel_rfl) ?_ _
          refine Calm.normal ?_
          clear hHeld
          gi_wp2_with fail
          exact END.out
      · refine step_load_run rfl _ _ rfl rfl (by first | exact ln0 | exact ln1 | exact ln2 | exact ln3) ?_
        refine hK.out _ _ (by trivial) (fun hHeld => ?_)
        clear hK K
        try simp only [Act.put, List.setIfInBounds_toArray, List.set_cons_zero, List.set_cons_succ]
        refine wpAnyH_take (i := 5) (oi := { dst := some 61, op := Op.slice 22 (Operand.tmp 60) (some (Operand.const (Value.int IntKind.i64 1))) none none, type := 22, pos := "chain.go:59", after := #[{ on := 4, ground := Ground.data }], guard := none }) (v := ?_) rfl (by kernel_rfl) (by kernel_rfl) (by kernel_rfl) (fun _ _ _ h => h) (Or.inl ⟨by rfl, ?_⟩) (by assumption) ?_
        rotate_left
        · (intro W hW; (try dsimp only at hW); go_simp <;> (with_reducible rfl))
        try simp only [Act.put, List.setIfInBounds_toArray, List.set_cons_zero, List.set_cons_succ]
        refine wpAnyH_ready (rs := [2]) (by kernel_rfl) (by simp) (AllReadyH.cons (o := { dst := some 58, op := Op.buildSlice 24 1 #[(0, Operand.tmp 57)], type := 24, pos := "chain.go:59", after := #[{ on := 1, ground := Ground.data }], guard := none }) rfl (fun K hK => ?_) AllReadyH.nil)
        refine step_buildSlice_one rfl _ _ rfl rfl bs1 ?_
        refine hK.out _ _ (by trivial) (fun hHeld => ?_)
        clear hK K
        try simp only [Act.put, List.setIfInBounds_toArray, List.set_cons_zero, List.set_cons_succ]
        refine wpAnyH_ready (rs := [3]) (by kernel_rfl) (by simp) (AllReadyH.cons (o := { dst := some 59, op := Op.call { callee := Callee.builtin Builtin.append, args := #[Operand.tmp 56, Operand.tmp 58], argTypes := #[24, 24] }, type := 24, pos := "chain.go:59", after := #[{ on := 0, ground := Ground.data }, { on := 2, ground := Ground.data }], guard := none }) rfl (fun K hK => ?_) AllReadyH.nil)
        refine step_append_run rfl _ _ _ _ rfl rfl rfl hr10 ?_
        refine hK.out _ _ (by trivial) (fun hHeld => ?_)
        clear hK K
        try simp only [Act.put, List.setIfInBounds_toArray, List.set_cons_zero, List.set_cons_succ]
        refine wpAnyH_ready (rs := [6]) (by kernel_rfl) (by simp) (AllReadyH.cons (o := { dst := none, op := Op.store 24 (Operand.tmp 8) (Operand.tmp 59), type := 0, pos := "chain.go:59", after := #[{ on := 3, ground := Ground.data }, { on := 3, ground := Ground.chain }, { on := 0, ground := Ground.phase }, { on := 1, ground := Ground.phase }, { on := 2, ground := Ground.phase }, { on := 3, ground := Ground.phase }, { on := 4, ground := Ground.textOnly Departure.inlinedCapture }, { on := 5, ground := Ground.textOnly Departure.lateStoresUnsure }], guard := none }) rfl (fun K hK => ?_) AllReadyH.nil)
        refine step_store_run rfl _ _ _ rfl rfl rfl st6 ?_
        refine hK.out _ _ (by trivial) (fun hHeld => ?_)
        clear hK K
        try simp only [Act.put, List.setIfInBounds_toArray, List.set_cons_zero, List.set_cons_succ]
        refine wpAnyH_ready (rs := [7]) (by kernel_rfl) (by simp) (AllReadyH.cons (o := { dst := none, op := Op.store 22 (Operand.tmp 7) (Operand.tmp 61), type := 0, pos := "chain.go:59", after := #[{ on := 5, ground := Ground.data }, { on := 6, ground := Ground.chain }, { on := 0, ground := Ground.phase }, { on := 1, ground := Ground.phase }, { on := 2, ground := Ground.phase }, { on := 3, ground := Ground.phase }, { on := 4, ground := Ground.phase }, { on := 5, ground := Ground.phase }, { on := 6, ground := Ground.phase }], guard := none }) rfl (fun K hK => ?_) AllReadyH.nil)
        refine step_store_run rfl _ _ _ rfl rfl rfl st7 ?_
        refine hK.out _ _ (by trivial) (fun hHeld => ?_)
        clear hK K
        try simp only [Act.put, List.setIfInBounds_toArray, List.set_cons_zero, List.set_cons_succ]
        refine wpAnyH_done (by kernel_rfl) ?_ _
        refine Calm.normal ?_
        clear hHeld
        gi_wp2_with fail
        exact END.out
    · refine step_buildSlice_one rfl _ _ rfl rfl bs1 ?_
      refine hK.out _ _ (by trivial) (fun hHeld => ?_)
      clear hK K
      try simp only [Act.put, List.setIfInBounds_toArray, List.set_cons_zero, List.set_cons_succ]
      refine wpAnyH_ready (rs := [0, 4]) (by kernel_rfl) (by simp) (AllReadyH.cons (o := { dst := some 56, op := Op.load 24 (Operand.tmp 8), type := 24, pos := "chain.go:59", after := #[], guard := none }) rfl (fun K hK => ?_) (AllReadyH.cons (o := { dst := some 60, op := Op.load 22 (Operand.tmp 7), type := 22, pos := "chain.go:59", after := #[], guard := none }) rfl (fun K hK => ?_) AllReadyH.nil))
      · refine step_load_run rfl _ _ rfl rfl (by first | exact lo0 | exact lo1) ?_
        refine hK.out _ _ (by trivial) (fun hHeld => ?_)
        clear hK K
        try simp only [Act.put, List.setIfInBounds_toArray, List.set_cons_zero, List.set_cons_succ]
        refine wpAnyH_ready (rs := [3, 4]) (by kernel_rfl) (by simp) (AllReadyH.cons (o := { dst := some 59, op := Op.call { callee := Callee.builtin Builtin.append, args := #[Operand.tmp 56, Operand.tmp 58], argTypes := #[24, 24] }, type := 24, pos := "chain.go:59", after := #[{ on := 0, ground := Ground.data }, { on := 2, ground := Ground.data }], guard := none }) rfl (fun K hK => ?_) (AllReadyH.cons (o := { dst := some 60, op := Op.load 22 (Operand.tmp 7), type := 22, pos := "chain.go:59", after := #[], guard := none }) rfl (fun K hK => ?_) AllReadyH.nil))
        · refine step_append_run rfl _ _ _ _ rfl rfl rfl hr10 ?_
          refine hK.out _ _ (by trivial) (fun hHeld => ?_)
          clear hK K
          try simp only [Act.put, List.setIfInBounds_toArray, List.set_cons_zero, List.set_cons_succ]
          refine wpAnyH_ready (rs := [4, 6]) (by kernel_rfl) (by simp) (AllReadyH.cons (o := { dst := some 60, op := Op.load 22 (Operand.tmp 7), type := 22, pos := "chain.go:59", after := #[], guard := none }) rfl (fun K hK => ?_) (AllReadyH.cons (o := { dst := none, op := Op.store 24 (Operand.tmp 8) (Operand.tmp 59), type := 0, pos := "chain.go:59", after := #[{ on := 3, ground := Ground.data }, { on := 3, ground := Ground.chain }, { on := 0, ground := Ground.phase }, { on := 1, ground := Ground.phase }, { on := 2, ground := Ground.phase }, { on := 3, ground := Ground.phase }, { on := 4, ground := Ground.textOnly Departure.inlinedCapture }, { on := 5, ground := Ground.textOnly Departure.lateStoresUnsure }], guard := none }) rfl (fun K hK => ?_) AllReadyH.nil))
          · refine step_load_run rfl _ _ rfl rfl (by first | exact ln0 | exact ln1 | exact ln2 | exact ln3) ?_
            refine hK.out _ _ (by trivial) (fun hHeld => ?_)
            clear hK K
            try simp only [Act.put, List.setIfInBounds_toArray, List.set_cons_zero, List.set_cons_succ]
            refine wpAnyH_take (i := 5) (oi := { dst := some 61, op := Op.slice 22 (Operand.tmp 60) (some (Operand.const (Value.int IntKind.i64 1))) none none, type := 22, pos := "chain.go:59", after := #[{ on := 4, ground := Ground.data }], guard := none }) (v := ?_) rfl (by kernel_rfl) (by kernel_rfl) (by kernel_rfl) (fun _ _ _ h => h) (Or.inl ⟨by rfl, ?_⟩) (by assumption) ?_
            rotate_left
            · (intro W hW; (try dsimp only at hW); go_simp <;> (with_reducible rfl))
            try simp only [Act.put, List.setIfInBounds_toArray, List.set_cons_zero, List.set_cons_succ]
            refine wpAnyH_ready (rs := [6]) (by kernel_rfl) (by simp) (AllReadyH.cons (o := { dst := none, op := Op.store 24 (Operand.tmp 8) (Operand.tmp 59), type := 0, pos := "chain.go:59", after := #[{ on := 3, ground := Ground.data }, { on := 3, ground := Ground.chain }, { on := 0, ground := Ground.phase }, { on := 1, ground := Ground.phase }, { on := 2, ground := Ground.phase }, { on := 3, ground := Ground.phase }, { on := 4, ground := Ground.textOnly Departure.inlinedCapture }, { on := 5, ground := Ground.textOnly Departure.lateStoresUnsure }], guard := none }) rfl (fun K hK => ?_) AllReadyH.nil)
            refine step_store_run rfl _ _ _ rfl rfl rfl st6 ?_
            refine hK.out _ _ (by trivial) (fun hHeld => ?_)
            clear hK K
            try simp only [Act.put, List.setIfInBounds_toArray, List.set_cons_zero, List.set_cons_succ]
            refine wpAnyH_ready (rs := [7]) (by kernel_rfl) (by simp) (AllReadyH.cons (o := { dst := none, op := Op.store 22 (Operand.tmp 7) (Operand.tmp 61), type := 0, pos := "chain.go:59", after := #[{ on := 5, ground := Ground.data }, { on := 6, ground := Ground.chain }, { on := 0, ground := Ground.phase }, { on := 1, ground := Ground.phase }, { on := 2, ground := Ground.phase }, { on := 3, ground := Ground.phase }, { on := 4, ground := Ground.phase }, { on := 5, ground := Ground.phase }, { on := 6, ground := Ground.phase }], guard := none }) rfl (fun K hK => ?_) AllReadyH.nil)
            refine step_store_run rfl _ _ _ rfl rfl rfl st7 ?_
            refine hK.out _ _ (by trivial) (fun hHeld => ?_)
            clear hK K
            try simp only [Act.put, List.setIfInBounds_toArray, List.set_cons_zero, List.set_cons_succ]
            refine wpAnyH_done (by kernel_rfl) ?_ _
            refine Calm.normal ?_
            clear hHeld
            gi_wp2_with fail
            exact END.out
          · refine step_store_run rfl _ _ _ rfl rfl rfl st6 ?_
            refine hK.out _ _ (by trivial) (fun hHeld => ?_)
            clear hK K
            try simp only [Act.put, List.setIfInBounds_toArray, List.set_cons_zero, List.set_cons_succ]
            refine wpAnyH_ready (rs := [4]) (by kernel_rfl) (by simp) (AllReadyH.cons (o := { dst := some 60, op := Op.load 22 (Operand.tmp 7), type := 22, pos := "chain.go:59", after := #[], guard := none }) rfl (fun K hK => ?_) AllReadyH.nil)
            refine step_load_run rfl _ _ rfl rfl (by first | exact ln0 | exact ln1 | exact ln2 | exact ln3) ?_
            refine hK.out _ _ (by trivial) (fun hHeld => ?_)
            clear hK K
            try simp only [Act.put, List.setIfInBounds_toArray, List.set_cons_zero, List.set_cons_succ]
            refine wpAnyH_take (i := 5) (oi := { dst := some 61, op := Op.slice 22 (Operand.tmp 60) (some (Operand.const (Value.int IntKind.i64 1))) none none, type := 22, pos := "chain.go:59", after := #[{ on := 4, ground := Ground.data }], guard := none }) (v := ?_) rfl (by kernel_rfl) (by kernel_rfl) (by kernel_rfl) (fun _ _ _ h => h) (Or.inl ⟨by rfl, ?_⟩) (by assumption) ?_
            rotate_left
            · (intro W hW; (try dsimp only at hW); go_simp <;> (with_reducible rfl))
            try simp only [Act.put, List.setIfInBounds_toArray, List.set_cons_zero, List.set_cons_succ]
            refine wpAnyH_ready (rs := [7]) (by kernel_rfl) (by simp) (AllReadyH.cons (o := { dst := none, op := Op.store 22 (Operand.tmp 7) (Operand.tmp 61), type := 0, pos := "chain.go:59", after := #[{ on := 5, ground := Ground.data }, { on := 6, ground := Ground.chain }, { on := 0, ground := Ground.phase }, { on := 1, ground := Ground.phase }, { on := 2, ground := Ground.phase }, { on := 3, ground := Ground.phase }, { on := 4, ground := Ground.phase }, { on := 5, ground := Ground.phase }, { on := 6, ground := Ground.phase }], guard := none }) rfl (fun K hK => ?_) AllReadyH.nil)
            refine step_store_run rfl _ _ _ rfl rfl rfl st7 ?_
            refine hK.out _ _ (by trivial) (fun hHeld => ?_)
            clear hK K
            try simp only [Act.put, List.setIfInBounds_toArray, List.set_cons_zero, List.set_cons_succ]
            refine wpAnyH_done (by kernel_rfl) ?_ _
            refine Calm.normal ?_
            clear hHeld
            gi_wp2_with fail
            exact END.out
        · refine step_load_run rfl _ _ rfl rfl (by first | exact ln0 | exact ln1 | exact ln2 | exact ln3) ?_
          refine hK.out _ _ (by trivial) (fun hHeld => ?_)
          clear hK K
          try simp only [Act.put, List.setIfInBounds_toArray, List.set_cons_zero, List.set_cons_succ]
          refine wpAnyH_take (i := 5) (oi := { dst := some 61, op := Op.slice 22 (Operand.tmp 60) (some (Operand.const (Value.int IntKind.i64 1))) none none, type := 22, pos := "chain.go:59", after := #[{ on := 4, ground := Ground.data }], guard := none }) (v := ?_) rfl (by kernel_rfl) (by kernel_rfl) (by kernel_rfl) (fun _ _ _ h => h) (Or.inl ⟨by rfl, ?_⟩) (by assumption) ?_
          rotate_left
          · (intro W hW; (try dsimp only at hW); go_simp <;> (with_reducible rfl))
          try simp only [Act.put, List.setIfInBounds_toArray, List.set_cons_zero, List.set_cons_succ]
          refine wpAnyH_ready (rs := [3]) (by kernel_rfl) (by simp) (AllReadyH.cons (o := { dst := some 59, op := Op.call { callee := Callee.builtin Builtin.append, args := #[Operand.tmp 56, Operand.tmp 58], argTypes := #[24, 24] }, type := 24, pos := "chain.go:59", after := #[{ on := 0, ground := Ground.data }, { on := 2, ground := Ground.data }], guard := none }) rfl (fun K hK => ?_) AllReadyH.nil)
          refine step_append_run rfl _ _ _ _ rfl rfl rfl hr10 ?_
          refine hK.out _ _ (by trivial) (fun hHeld => ?_)
          clear hK K
          try simp only [Act.put, List.setIfInBounds_toArray, List.set_cons_zero, List.set_cons_succ]
          refine wpAnyH_ready (rs := [6]) (by kernel_rfl) (by simp) (AllReadyH.cons (o := { dst := none, op := Op.store 24 (Operand.tmp 8) (Operand.tmp 59), type := 0, pos := "chain.go:59", after := #[{ on := 3, ground := Ground.data }, { on := 3, ground := Ground.chain }, { on := 0, ground := Ground.phase }, { on := 1, ground := Ground.phase }, { on := 2, ground := Ground.phase }, { on := 3, ground := Ground.phase }, { on := 4, ground := Ground.textOnly Departure.inlinedCapture }, { on := 5, ground := Ground.textOnly Departure.lateStoresUnsure }], guard := none }) rfl (fun K hK => ?_) AllReadyH.nil)
          refine step_store_run rfl _ _ _ rfl rfl rfl st6 ?_
          refine hK.out _ _ (by trivial) (fun hHeld => ?_)
          clear hK K
          try simp only [Act.put, List.setIfInBounds_toArray, List.set_cons_zero, List.set_cons_succ]
          refine wpAnyH_ready (rs := [7]) (by kernel_rfl) (by simp) (AllReadyH.cons (o := { dst := none, op := Op.store 22 (Operand.tmp 7) (Operand.tmp 61), type := 0, pos := "chain.go:59", after := #[{ on := 5, ground := Ground.data }, { on := 6, ground := Ground.chain }, { on := 0, ground := Ground.phase }, { on := 1, ground := Ground.phase }, { on := 2, ground := Ground.phase }, { on := 3, ground := Ground.phase }, { on := 4, ground := Ground.phase }, { on := 5, ground := Ground.phase }, { on := 6, ground := Ground.phase }], guard := none }) rfl (fun K hK => ?_) AllReadyH.nil)
          refine step_store_run rfl _ _ _ rfl rfl rfl st7 ?_
          refine hK.out _ _ (by trivial) (fun hHeld => ?_)
          clear hK K
          try simp only [Act.put, List.setIfInBounds_toArray, List.set_cons_zero, List.set_cons_succ]
          refine wpAnyH_done (by kernel_rfl) ?_ _
          refine Calm.normal ?_
          clear hHeld
          gi_wp2_with fail
          exact END.out
      · refine step_load_run rfl _ _ rfl rfl (by first | exact ln0 | exact ln1 | exact ln2 | exact ln3) ?_
        refine hK.out _ _ (by trivial) (fun hHeld => ?_)
        clear hK K
        try simp only [Act.put, List.setIfInBounds_toArray, List.set_cons_zero, List.set_cons_succ]
        refine wpAnyH_take (i := 5) (oi := { dst := some 61, op := Op.slice 22 (Operand.tmp 60) (some (Operand.const (Value.int IntKind.i64 1))) none none, type := 22, pos := "chain.go:59", after := #[{ on := 4, ground := Ground.data }], guard := none }) (v := ?_) rfl (by kernel_rfl) (by kernel_rfl) (by kernel_rfl) (fun _ _ _ h => h) (Or.inl ⟨by rfl, ?_⟩) (by assumption) ?_
        rotate_left
        · (intro W hW; (try dsimp only at hW); go_simp <;> (with_reducible rfl))
        try simp only [Act.put, List.setIfInBounds_toArray, List.set_cons_zero, List.set_cons_succ]
        refine wpAnyH_ready (rs := [0]) (by kernel_rfl) (by simp) (AllReadyH.cons (o := { dst := some 56, op := Op.load 24 (Operand.tmp 8), type := 24, pos := "chain.go:59", after := #[], guard := none }) rfl (fun K hK => ?_) AllReadyH.nil)
        refine step_load_run rfl _ _ rfl rfl (by first | exact lo0 | exact lo1) ?_
        refine hK.out _ _ (by trivial) (fun hHeld => ?_)
        clear hK K
        try simp only [Act.put, List.setIfInBounds_toArray, List.set_cons_zero, List.set_cons_succ]
        refine wpAnyH_ready (rs := [3]) (by kernel_rfl) (by simp) (AllReadyH.cons (o := { dst := some 59, op := Op.call { callee := Callee.builtin Builtin.append, args := #[Operand.tmp 56, Operand.tmp 58], argTypes := #[24, 24] }, type := 24, pos := "chain.go:59", after := #[{ on := 0, ground := Ground.data }, { on := 2, ground := Ground.data }], guard := none }) rfl (fun K hK => ?_) AllReadyH.nil)
        refine step_append_run rfl _ _ _ _ rfl rfl rfl hr10 ?_
        refine hK.out _ _ (by trivial) (fun hHeld => ?_)
        clear hK K
        try simp only [Act.put, List.setIfInBounds_toArray, List.set_cons_zero, List.set_cons_succ]
        refine wpAnyH_ready (rs := [6]) (by kernel_rfl) (by simp) (AllReadyH.cons (o := { dst := none, op := Op.store 24 (Operand.tmp 8) (Operand.tmp 59), type := 0, pos := "chain.go:59", after := #[{ on := 3, ground := Ground.data }, { on := 3, ground := Ground.chain }, { on := 0, ground := Ground.phase }, { on := 1, ground := Ground.phase }, { on := 2, ground := Ground.phase }, { on := 3, ground := Ground.phase }, { on := 4, ground := Ground.textOnly Departure.inlinedCapture }, { on := 5, ground := Ground.textOnly Departure.lateStoresUnsure }], guard := none }) rfl (fun K hK => ?_) AllReadyH.nil)
        refine step_store_run rfl _ _ _ rfl rfl rfl st6 ?_
        refine hK.out _ _ (by trivial) (fun hHeld => ?_)
        clear hK K
        try simp only [Act.put, List.setIfInBounds_toArray, List.set_cons_zero, List.set_cons_succ]
        refine wpAnyH_ready (rs := [7]) (by kernel_rfl) (by simp) (AllReadyH.cons (o := { dst := none, op := Op.store 22 (Operand.tmp 7) (Operand.tmp 61), type := 0, pos := "chain.go:59", after := #[{ on := 5, ground := Ground.data }, { on := 6, ground := Ground.chain }, { on := 0, ground := Ground.phase }, { on := 1, ground := Ground.phase }, { on := 2, ground := Ground.phase }, { on := 3, ground := Ground.phase }, { on := 4, ground := Ground.phase }, { on := 5, ground := Ground.phase }, { on := 6, ground := Ground.phase }], guard := none }) rfl (fun K hK => ?_) AllReadyH.nil)
        refine step_store_run rfl _ _ _ rfl rfl rfl st7 ?_
        refine hK.out _ _ (by trivial) (fun hHeld => ?_)
        clear hK K
        try simp only [Act.put, List.setIfInBounds_toArray, List.set_cons_zero, List.set_cons_succ]
        refine wpAnyH_done (by kernel_rfl) ?_ _
        refine Calm.normal ?_
        clear hHeld
        gi_wp2_with fail
        exact END.out
    · refine step_load_run rfl _ _ rfl rfl (by first | exact ln0 | exact ln1 | exact ln2 | exact ln3) ?_
      refine hK.out _ _ (by trivial) (fun hHeld => ?_)
      clear hK K
      try simp only [Act.put, List.setIfInBounds_toArray, List.set_cons_zero, List.set_cons_succ]
      refine wpAnyH_take (i := 5) (oi := { dst := some 61, op := Op.slice 22 (Operand.tmp 60) (some (Operand.const (Value.int IntKind.i64 1))) none none, type := 22, pos := "chain.go:59", after := #[{ on := 4, ground := Ground.data }], guard := none }) (v := ?_) rfl (by kernel_rfl) (by kernel_rfl) (by kernel_rfl) (fun _ _ _ h => h) (Or.inl ⟨by rfl, ?_⟩) (by assumption) ?_
      rotate_left
      · (intro W hW; (try dsimp only at hW); go_simp <;> (with_reducible rfl))
      try simp only [Act.put, List.setIfInBounds_toArray, List.set_cons_zero, List.set_cons_succ]
      refine wpAnyH_ready (rs := [0, 2]) (by kernel_rfl) (by simp) (AllReadyH.cons (o := { dst := some 56, op := Op.load 24 (Operand.tmp 8), type := 24, pos := "chain.go:59", after := #[], guard := none }) rfl (fun K hK => ?_) (AllReadyH.cons (o := { dst := some 58, op := Op.buildSlice 24 1 #[(0, Operand.tmp 57)], type := 24, pos := "chain.go:59", after := #[{ on := 1, ground := Ground.data }], guard := none }) rfl (fun K hK => ?_) AllReadyH.nil))
      · refine step_load_run rfl _ _ rfl rfl (by first | exact lo0 | exact lo1) ?_
        refine hK.out _ _ (by trivial) (fun hHeld => ?_)
        clear hK K
        try simp only [Act.put, List.setIfInBounds_toArray, List.set_cons_zero, List.set_cons_succ]
        refine wpAnyH_ready (rs := [2]) (by kernel_rfl) (by simp) (AllReadyH.cons (o := { dst := some 58, op := Op.buildSlice 24 1 #[(0, Operand.tmp 57)], type := 24, pos := "chain.go:59", after := #[{ on := 1, ground := Ground.data }], guard := none }) rfl (fun K hK => ?_) AllReadyH.nil)
        refine step_buildSlice_one rfl _ _ rfl rfl bs1 ?_
        refine hK.out _ _ (by trivial) (fun hHeld => ?_)
        clear hK K
        try simp only [Act.put, List.setIfInBounds_toArray, List.set_cons_zero, List.set_cons_succ]
        refine wpAnyH_ready (rs := [3]) (by kernel_rfl) (by simp) (AllReadyH.cons (o := { dst := some 59, op := Op.call { callee := Callee.builtin Builtin.append, args := #[Operand.tmp 56, Operand.tmp 58], argTypes := #[24, 24] }, type := 24, pos := "chain.go:59", after := #[{ on := 0, ground := Ground.data }, { on := 2, ground := Ground.data }], guard := none }) rfl (fun K hK => ?_) AllReadyH.nil)
        refine step_append_run rfl _ _ _ _ rfl rfl rfl hr10 ?_
        refine hK.out _ _ (by trivial) (fun hHeld => ?_)
        clear hK K
        try simp only [Act.put, List.setIfInBounds_toArray, List.set_cons_zero, List.set_cons_succ]
        refine wpAnyH_ready (rs := [6]) (by kernel_rfl) (by simp) (AllReadyH.cons (o := { dst := none, op := Op.store 24 (Operand.tmp 8) (Operand.tmp 59), type := 0, pos := "chain.go:59", after := #[{ on := 3, ground := Ground.data }, { on := 3, ground := Ground.chain }, { on := 0, ground := Ground.phase }, { on := 1, ground := Ground.phase }, { on := 2, ground := Ground.phase }, { on := 3, ground := Ground.phase }, { on := 4, ground := Ground.textOnly Departure.inlinedCapture }, { on := 5, ground := Ground.textOnly Departure.lateStoresUnsure }], guard := none }) rfl (fun K hK => ?_) AllReadyH.nil)
        refine step_store_run rfl _ _ _ rfl rfl rfl st6 ?_
        refine hK.out _ _ (by trivial) (fun hHeld => ?_)
        clear hK K
        try simp only [Act.put, List.setIfInBounds_toArray, List.set_cons_zero, List.set_cons_succ]
        refine wpAnyH_ready (rs := [7]) (by kernel_rfl) (by simp) (AllReadyH.cons (o := { dst := none, op := Op.store 22 (Operand.tmp 7) (Operand.tmp 61), type := 0, pos := "chain.go:59", after := #[{ on := 5, ground := Ground.data }, { on := 6, ground := Ground.chain }, { on := 0, ground := Ground.phase }, { on := 1, ground := Ground.phase }, { on := 2, ground := Ground.phase }, { on := 3, ground := Ground.phase }, { on := 4, ground := Ground.phase }, { on := 5, ground := Ground.phase }, { on := 6, ground := Ground.phase }], guard := none }) rfl (fun K hK => ?_) AllReadyH.nil)
        refine step_store_run rfl _ _ _ rfl rfl rfl st7 ?_
        refine hK.out _ _ (by trivial) (fun hHeld => ?_)
        clear hK K
        try simp only [Act.put, List.setIfInBounds_toArray, List.set_cons_zero, List.set_cons_succ]
        refine wpAnyH_done (by kernel_rfl) ?_ _
        refine Calm.normal ?_
        clear hHeld
        gi_wp2_with fail
        exact END.out
      · refine step_buildSlice_one rfl _ _ rfl rfl bs1 ?_
        refine hK.out _ _ (by trivial) (fun hHeld => ?_)
        clear hK K
        try simp only [Act.put, List.setIfInBounds_toArray, List.set_cons_zero, List.set_cons_succ]
        refine wpAnyH_ready (rs := [0]) (by kernel_rfl) (by simp) (AllReadyH.cons (o := { dst := some 56, op := Op.load 24 (Operand.tmp 8), type := 24, pos := "chain.go:59", after := #[], guard := none }) rfl (fun K hK => ?_) AllReadyH.nil)
        refine step_load_run rfl _ _ rfl rfl (by first | exact lo0 | exact lo1) ?_
        refine hK.out _ _ (by trivial) (fun hHeld => ?_)
        clear hK K
        try simp only [Act.put, List.setIfInBounds_toArray, List.set_cons_zero, List.set_cons_succ]
        refine wpAnyH_ready (rs := [3]) (by kernel_rfl) (by simp) (AllReadyH.cons (o := { dst := some 59, op := Op.call { callee := Callee.builtin Builtin.append, args := #[Operand.tmp 56, Operand.tmp 58], argTypes := #[24, 24] }, type := 24, pos := "chain.go:59", after := #[{ on := 0, ground := Ground.data }, { on := 2, ground := Ground.data }], guard := none }) rfl (fun K hK => ?_) AllReadyH.nil)
        refine step_append_run rfl _ _ _ _ rfl rfl rfl hr10 ?_
        refine hK.out _ _ (by trivial) (fun hHeld => ?_)
        clear hK K
        try simp only [Act.put, List.setIfInBounds_toArray, List.set_cons_zero, List.set_cons_succ]
        refine wpAnyH_ready (rs := [6]) (by kernel_rfl) (by simp) (AllReadyH.cons (o := { dst := none, op := Op.store 24 (Operand.tmp 8) (Operand.tmp 59), type := 0, pos := "chain.go:59", after := #[{ on := 3, ground := Ground.data }, { on := 3, ground := Ground.chain }, { on := 0, ground := Ground.phase }, { on := 1, ground := Ground.phase }, { on := 2, ground := Ground.phase }, { on := 3, ground := Ground.phase }, { on := 4, ground := Ground.textOnly Departure.inlinedCapture }, { on := 5, ground := Ground.textOnly Departure.lateStoresUnsure }], guard := none }) rfl (fun K hK => ?_) AllReadyH.nil)
        refine step_store_run rfl _ _ _ rfl rfl rfl st6 ?_
        refine hK.out _ _ (by trivial) (fun hHeld => ?_)
        clear hK K
        try simp only [Act.put, List.setIfInBounds_toArray, List.set_cons_zero, List.set_cons_succ]
        refine wpAnyH_ready (rs := [7]) (by kernel_rfl) (by simp) (AllReadyH.cons (o := { dst := none, op := Op.store 22 (Operand.tmp 7) (Operand.tmp 61), type := 0, pos := "chain.go:59", after := #[{ on := 5, ground := Ground.data }, { on := 6, ground := Ground.chain }, { on := 0, ground := Ground.phase }, { on := 1, ground := Ground.phase }, { on := 2, ground := Ground.phase }, { on := 3, ground := Ground.phase }, { on := 4, ground := Ground.phase }, { on := 5, ground := Ground.phase }, { on := 6, ground := Ground.phase }], guard := none }) rfl (fun K hK => ?_) AllReadyH.nil)
        refine step_store_run rfl _ _ _ rfl rfl rfl st7 ?_
        refine hK.out _ _ (by trivial) (fun hHeld => ?_)
        clear hK K
        try simp only [Act.put, List.setIfInBounds_toArray, List.set_cons_zero, List.set_cons_succ]
        refine wpAnyH_done (by kernel_rfl) ?_ _
        refine Calm.normal ?_
        clear hHeld
        gi_wp2_with fail
        exact END.out
  case done =>
    rintro D ys W hD hS ⟨⟨u, j1, j2⟩, _, j5⟩ hKK
    have hLT := HLT.out
    have hS2 : ys.map Fin.val = List.range n := hS.trans (by rw [HCN.out])
    have hyl : ys.length = n := by have := congrArg List.length hS2; simpa using this
    rw [hS2, pgsC_all] at j2
    obtain ⟨au, ku, eu⟩ : ∃ a c, u = .slice a n c := by
      obtain ⟨vs, e1, _⟩ := j2
      obtain ⟨a, c, e2, _⟩ := own_slice e1
      exact ⟨a, c, by simpa using e2⟩
    subst eu
    have k0 := cell_of j1 0 _ rfl
    have f0 : W.heap[w.heap.size]? = some (.cells #[.slice none 0 0] 24 (0, 0)) := by
      rw [j5.block (k := w.heap.size) (by omega) (by simp; omega)]; exact x0
    have f1 : W.heap[w.heap.size + 1]? = some (.cells #[.int .i64 0] 25 (0, 0)) := by
      rw [j5.block (k := w.heap.size + 1) (by omega) (by simp; omega)]; exact x1
    have hbW : Below w.heap.size w W := hbwC.trans (j5.below (by omega) (by simp; omega))
    obtain ⟨c0, c1, c2⟩ := two_boxes f0 f1 (by omega) hbW (Nat.le_refl _) (by omega) (.slice au n ku) (.int .i64 0)
    have b0 := cell_of f0 0 _ rfl
    have b1 := cell_of f1 0 _ rfl
    have fr0 : W.frozen? ⟨w.heap.size, 0, none⟩ = false := by simp [World.frozen?, f0]
    have fr1 : (W.setCell ⟨w.heap.size, 0, none⟩ (.slice au n ku)).frozen? ⟨w.heap.size + 1, 0, none⟩ = false := by
      simp only [World.frozen?, Below.heap_setCell _ _ _ (w.heap.size + 1) (show w.heap.size + 1 ≠ (⟨w.heap.size, 0, none⟩ : Addr).block by simp), f1]; simp
    have b2 : (W.setCell ⟨w.heap.size, 0, none⟩ (.slice au n ku)).cell? ⟨w.heap.size + 1, 0, none⟩ = some (.int .i64 0) := by
      rw [World.cell?_of_block (Below.heap_setCell _ _ _ (w.heap.size + 1) (show w.heap.size + 1 ≠ (⟨w.heap.size, 0, none⟩ : Addr).block by simp))]; exact b1
    have HKK : Hid (((W.setCell ⟨w.heap.size, 0, none⟩ (.slice au n ku)).setCell ⟨w.heap.size + 1, 0, none⟩ (.int .i64 0)).heap[D]? = some (.deferred (some []))) := Lib.hid (by
      rw [Below.heap_setCell _ _ _ D (by simp; omega), Below.heap_setCell _ _ _ D (by simp; omega)]; exact hKK)
    have HOUT := Lib.hid (show OwnBss ((W.setCell ⟨w.heap.size, 0, none⟩ (.slice au n ku)).setCell ⟨w.heap.size + 1, 0, none⟩ (.int .i64 0)) w.heap.size (.slice au n ku) ((List.range n).map (pageC v at_)) from by
      obtain ⟨vs, q1, q2, q3⟩ := j2
      have z1 := own_ge q1
      refine ⟨vs, own_base (own_set (own_set q1 _ _ (fun e => by have := z1 _ e; simp at this; omega)) _ _ (fun e => by have := z1 _ e; simp at this; omega)) (by omega), q2, fun i c hc => ?_⟩
      obtain ⟨z, y1, y2⟩ := q3 i c hc
      have z3 := own_ge y2
      exact ⟨z, y1, own_base (own_set (own_set y2 _ _ (fun e => by have := z3 _ e; simp at this; omega)) _ _ (fun e => by have := z3 _ e; simp at this; omega)) (by omega)⟩)
    have HC := Lib.hid c0
    have HC1 := Lib.hid c1
    have HBL := Lib.hid c2
    clear j1 j2 hS hS2 hyl f0 f1 hbW c0 c1 c2 hKK
    gi_wp2_with fail
    refine ⟨by simp, .inl ⟨_, _, rfl, run_takeDeferred HKK.out, ?_⟩⟩
    have hD0 : D ≠ w.heap.size := by omega
    have hD1 : D ≠ w.heap.size + 1 := by omega
    have HKo := HKK.out
    generalize hWF : ((W.setCell ⟨w.heap.size, 0, none⟩ (.slice au n ku)).setCell ⟨w.heap.size + 1, 0, none⟩ (.int .i64 0)) = WF at *
    have e0 : (WF.putObj D (.deferred none)).cell? ⟨w.heap.size, 0, none⟩ = some (.slice au n ku) := by
      rw [World.cell?_of_block (World.putObj_heap_other (fun e => hD0 e.symm))]; exact HC.out
    have e1 : (WF.putObj D (.deferred none)).cell? ⟨w.heap.size + 1, 0, none⟩ = some (.int .i64 0) := by
      rw [World.cell?_of_block (World.putObj_heap_other (fun e => hD1 e.symm))]; exact HC1.out
    refine ⟨.tuple #[.slice au n ku, .int .i64 0], by simp [results, Tryd.results9, go_sem, e0, e1], ?_⟩
    refine ⟨.slice au n ku, by rw [putEC, HK.out]; rfl, ?_, HBL.out.trans (belowK_b (w := w) (Nat.le_refl _) WF D _ _ (by omega) HKo rfl rfl)⟩
    rw [putLC, HK.out, if_pos rfl, HL.out]
    refine HOUT.out.keptN (fun k c t hk => ?_)
    rw [World.putObj_heap_other (fun e => by subst e; rw [hk] at HKo; cases HKo)]
    exact hk
  case stop =>
    rintro D c pre W _ _ h _
    exact h.elim
theorem cput_any {w : World} {a : Option Addr} {n cap : Nat} {at_ : List Int} (h : Row .i64 w a n cap at_) (hI : ∀ x ∈ at_, I64 x) (v : List UInt8) (hv : v.length ≤ 100000) (hh : Half w) :
    Calls Tryd.prog 9 #[.string (strOf v), .slice a n cap] w (PutPostC w v at_) := by
  by_cases h0 : n = 0 ∨ n ≠ needC v.length
  · exact cput_early h v hv h0
  · simp only [not_or, ne_eq, Decidable.not_not] at h0
    cases hap : aptC at_
    · exact cput_apt h hI v hv h0.1 h0.2 hap
    · exact cput_ok h hI v hh h0.1 h0.2 hap
end Go.Proofs.YtfidfbgplfjakaaDoor
