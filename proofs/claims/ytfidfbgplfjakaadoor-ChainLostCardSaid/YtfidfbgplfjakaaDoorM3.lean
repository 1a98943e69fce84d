/- Texts that other texts of this claim lean on, one behind the other. -/
import Derived.Test.YtfidfbgplfjakaaDoorM2
import Derived.Test.YtfidfbgplfjakaaDoorM1
/- Wide values in a plain region: a load, and a store into a fresh block. -/
namespace Go.Proofs.YtfidfbgplfjakaaDoor
open Go.RowKit

section
variable {P : Program} {w w' : World} {o : Oper} {a : Act} {K : Act → World → Prop} {Q : Exit → Act → World → Prop}
theorem wp_load_run (ty : TypeId) (x : Operand) (ho : o.op = .load ty x) {v r : Value} (hx : a.eval x = v) (hr : (Instr.loadAt ty v).run P w = .ok r w) (h : K (a.put o.dst r) w) : o.wp P a w K Q := by
  unfold Oper.wp execOp
  simp only [ho, Sem.run_bind, Sem.run_pure, Result.andThen_ok, hx, hr]
  exact h
theorem wp_store_run (ty : TypeId) (x y : Operand) (ho : o.op = .store ty x y) {p v : Value} (hx : a.eval x = p) (hy : a.eval y = v) (hr : (Instr.storeAt ty p v).run P w = .ok () w') (h : K (a.put o.dst undef) w') : o.wp P a w K Q := by
  unfold Oper.wp execOp
  simp only [ho, Sem.run_bind, Sem.run_pure, Result.andThen_ok, hx, hy, hr]
  exact h
end
theorem zero_write (w : World) : (zeroValue 94).run Tryd.prog w = .ok (.agg (wcells (0, zpage)).toArray) w := by kernel_rfl
theorem fresh_there (w : World) (cs : Array Value) (t : TypeId) : (w.alloc (.cells cs t)).there w.heap.size 0 cs.size := fun j hj => by
  have hh := World.alloc_heap_new w (.cells cs t)
  constructor
  · unfold World.cell?; dsimp only; rw [hh]; simp [hj]
  · unfold World.frozen?; dsimp only; rw [hh]; simp
theorem setCells_size (b : Nat) : ∀ (vs : List Value) (o : Nat) (w : World), (w.setCells b o vs).heap.size = w.heap.size
  | [], _, _ => rfl
  | v :: vs, o, w => by
    show ((w.setCell ⟨b, o, none⟩ v).setCells b (o + 1) vs).heap.size = _
    rw [setCells_size b vs]; simp [World.setCell]
theorem setCells_below {B : Nat} {a : World} (b : Nat) (hb : B ≤ b) : ∀ (vs : List Value) (o : Nat) {w : World}, Below B a w → Below B a (w.setCells b o vs)
  | [], _, _, h => h
  | v :: vs, o, w, h => by
    show Below B a ((w.setCell ⟨b, o, none⟩ v).setCells b (o + 1) vs)
    exact setCells_below b hb vs (o + 1) (h.setCell hb _)
/-- A fresh block is filled. -/
theorem fresh_fill {P : Program} (w : World) (ty : TypeId) (z cs : List Value) (hz : z.length = cs.length) (h1 : ∀ v ∈ cs, v.oneCell' = true) :
    ∃ w1, (storeCells ⟨w.heap.size, 0, none⟩ cs).run P (w.alloc (.cells z.toArray ty)) = .ok () w1 ∧ Below w.heap.size w w1 ∧ w.heap.size < w1.heap.size ∧ w1.rangeAt w.heap.size 0 cs ∧ ∀ j, w1.frozen? ⟨w.heap.size, j, none⟩ = false := by
  have ht := fresh_there w z.toArray ty
  rw [show z.toArray.size = cs.length by simpa using hz] at ht
  have hr := run_storeCells_cells (P := P) w.heap.size 0 cs 0 (w.alloc (.cells z.toArray ty)) (fun j hj => by simpa using (ht j hj).1) (fun j hj => by have := (ht j hj).2; rwa [Nat.zero_add] at this ⊢) h1
  refine ⟨_, hr, setCells_below _ (Nat.le_refl _) _ _ ((Below.refl _ _).alloc (Nat.le_refl _) _), by rw [setCells_size]; simp, World.rangeAt_setCells_same _ _ _ _ ht, fun j => ?_⟩
  rw [World.frozen?_setCells]
  unfold World.frozen?; dsimp only; rw [World.alloc_heap_new w (.cells z.toArray ty)]; simp
/-- A block that stands there is filled anew. -/
theorem fill_again {P : Program} {w : World} {g : Nat} (_ty : TypeId) (z cs : List Value) (hz : w.rangeAt g 0 z) (hf : ∀ j, w.frozen? ⟨g, j, none⟩ = false) (hl : z.length = cs.length) (h1 : ∀ v ∈ cs, v.oneCell' = true) {B : Nat} (hB : B ≤ g) :
    ∃ w1, (storeCells ⟨g, 0, none⟩ cs).run P w = .ok () w1 ∧ Below B w w1 ∧ w1.heap.size = w.heap.size ∧ w1.rangeAt g 0 cs ∧ ∀ j, w1.frozen? ⟨g, j, none⟩ = false := by
  have ht : w.there g 0 cs.length := fun j hj => by
    have hj' : j < z.length := by omega
    refine ⟨?_, by simpa using hf _⟩
    have := hz j z[j] (List.getElem?_eq_getElem hj')
    rw [this]; rfl
  have hr := run_storeCells_cells (P := P) g 0 cs 0 w (fun j hj => by simpa using (ht j hj).1) (fun j hj => by simpa using (ht j hj).2) h1
  refine ⟨_, hr, setCells_below _ hB _ _ (Below.refl _ _), by rw [setCells_size], World.rangeAt_setCells_same _ _ _ _ (by simpa using ht), fun j => ?_⟩
  rw [World.frozen?_setCells]; exact hf j
theorem rangeAt_below {B : Nat} {w w' : World} {g o : Nat} {cs : List Value} (h : w.rangeAt g o cs) (hb : Below B w w') (hg : g < B) : w'.rangeAt g o cs := fun j v hv => by
  rw [← h j v hv]; exact hb.cell (p := ⟨g, o + j, none⟩) hg
theorem own_step {w w' : World} {base : Nat} {e : TypeId} {size : Nat} {v : Value} {n : Nat} {xs : List Value} (h : w.ownsRow base e size v n xs) (hb : Below w.heap.size w w') : w'.ownsRow base e size v n xs :=
  own_only h (Only.of_below (S := []) hb) (fun _ _ => by simp)
theorem RegIn.lt {w : World} {fp : List Nat} {b M : Nat} {x : Rg} (h : RegIn w fp b M x) : ∀ k ∈ fp, k < w.heap.size := by
  obtain ⟨_, _, _, _, _, _, _, _, _, _, h8, _⟩ := h; exact h8
end Go.Proofs.YtfidfbgplfjakaaDoor

/- The walk of Loose. -/
namespace Go.Proofs.YtfidfbgplfjakaaDoor
open Go.RowKit

def LoosePost (w : World) (l : List Nat) (e : Ending) (w' : World) : Prop :=
  ∃ v, e = .returned v ∧ w'.ownsRow w.heap.size 3 1 v l.length (l.map fun n : Nat => Value.int .i64 (n : Int)) ∧ Below w.heap.size w w'
end Go.Proofs.YtfidfbgplfjakaaDoor

/- The walk of Read. -/
namespace Go.Proofs.YtfidfbgplfjakaaDoor
open Go.RowKit

/-- A row of bytes of the call's own, and an error. -/
def ReadPost (w : World) (l : List UInt8) (er : Int) (e : Ending) (w' : World) : Prop :=
  ∃ v, e = .returned (.tuple #[v, .int .i64 er]) ∧ w'.ownsRow w.heap.size 5 1 v l.length ((toI l).map (Value.int .u8)) ∧ Below w.heap.size w w'
theorem zero_page' (w : World) : (zeroValue 92).run Tryd.prog w = .ok (.agg (pcells zpage.1).toArray) w := zero_page w
theorem info_byte : (Tryd.prog.info? 5).map (fun i => (i.zero, i.size, i.bytes)) = some (some (.int .u8 0), 1, 1) := by kernel_rfl
theorem lastW_take (p : Nat) (b : P128) (l : List (Nat × P128)) (k : Nat) (y : Nat × P128) (h : l[k]? = some y) : lastW p b (l.take (k + 1)) = if y.1 = p then y.2 else lastW p b (l.take k) := by
  have hk := (List.getElem?_eq_some_iff.1 h)
  rw [List.take_succ_eq_append_getElem hk.1, hk.2, lastW_snoc]
theorem row_of_range {w : World} {g : Nat} {l : List UInt8} (h : w.rangeAt g 0 (pcells l)) (hg : g < w.heap.size) (hl : l.length = 128) : Row .u8 w (some ⟨g, 0, none⟩) 128 128 (toI l) := by
  refine ⟨by rw [toI_length, hl], Nat.le_refl _, by unfold maxLen; omega, (fun h => by cases h), .inr ⟨g, 0, rfl, hg, fun i hi => ?_⟩⟩
  have hil : i < l.length := by omega
  have := h i (.int .u8 (l[i].toNat : Int)) (by simp [pcells, toI, List.getElem?_eq_getElem hil])
  rw [this]; simp [toI, List.getElem?_eq_getElem hil]
theorem RegIn.map {w : World} {fp : List Nat} {b M : Nat} {x : Rg} (h : RegIn w fp b M x) : ∃ mb n, w.cell? ⟨b, 1, none⟩ = some (.map (some mb)) ∧ PgMap w mb n x.pages := by
  obtain ⟨mb, n, v, h1, h2, _⟩ := h
  exact ⟨mb, n, by simp [World.cell?, h1], h2⟩
set_option maxRecDepth 100000 in
set_option maxHeartbeats 4000000 in
theorem dread_in {w : World} {F : List Nat} {db M : Nat} {bs : List (Nat × List Nat)} {d : List Rg} (h : DskIn w F db M bs d) (i pn : Nat) (x : Rg) (hx : d[i]? = some x) (hdn : x.down = false) (hp : pn < x.size) :
    Calls Tryd.prog 52 #[.pointer (some ⟨db, 0, none⟩), .int .i64 (i : Int), .int .i64 (pn : Int)] w (ReadPost w (seen x pn).1 0) := by
  have hi : i < d.length := (List.getElem?_eq_some_iff.1 hx).1
  obtain ⟨q, hq⟩ : ∃ q, bs[i]? = some q := ⟨_, List.getElem?_eq_getElem (by rw [h.len]; exact hi)⟩
  have R := h.reg i q x hq hx
  have U := paged_any h (i : Int) (pn : Int)
  have hsz : x.size ≤ 1000 := by obtain ⟨_, _, _, _, _, _, _, _, _, _, _, h9, _⟩ := R; exact h9
  have hu : pagedE d (i : Int) (pn : Int) = 0 := by
    have h1 : upE d (i : Int) = 0 := by
      unfold upE; rw [if_pos (by omega), Int.toNat_natCast, hx]; simp [hdn]
    unfold pagedE; rw [if_pos h1, atR_of hx, if_pos (by omega)]
  rw [hu] at U
  have U : Calls Tryd.prog 35 #[.pointer (some ⟨db, 0, none⟩), .int .i64 (i : Int), .int .i64 (pn : Int)] w fun e w' => e = .returned (.tuple #[.pointer (some ⟨q.1, 0, none⟩), .int .i64 0]) ∧ w = w' := U.mono fun e w' ⟨h1, h2⟩ => by
    refine ⟨?_, h2⟩
    rcases h1 with ⟨_, q', hq', he⟩ | ⟨h0, _⟩
    · rw [Int.toNat_natCast, hq] at hq'; cases hq'; exact he
    · exact absurd rfl h0
  obtain ⟨a, cap, c2, hc1, hc2, _, hrow⟩ := R.loose
  obtain ⟨mb, n, c1, hm⟩ := R.map
  have LK : (Instr.lookup 81 (.map (some mb)) (.int .i64 (pn : Int)) false).run Tryd.prog w = .ok (.agg (pcells (x.pages pn).1).toArray) w := hm.lookup pn (by omega)
  obtain ⟨i0, hi0, hz0, hz1, hz2⟩ := info_parts info_byte
  obtain ⟨w1, hfill, hb1, hs1, hra, hfz⟩ := fresh_fill (P := Tryd.prog) w 92 (pcells zpage.1) (pcells (x.pages pn).1) (by rw [pcells_length, pcells_length, zpage.2, (x.pages pn).2]) (pcells_one _)
  have hlt2 := World.block_lt_of_cell? w _ c2
  have c2' : w1.cell? ⟨q.1, 2, none⟩ = some (.slice a x.loose.length cap) := (hb1.cell (p := ⟨q.1, 2, none⟩) hlt2).trans c2
  have ZP := zero_page'
  have SP : (pcells (x.pages pn).1).length = 128 := by rw [pcells_length, (x.pages pn).2]
  have HR := Lib.hid hrow
  have HX : Hid (x.loose.length = x.loose.length) := Lib.hid rfl
  clear h hx hq R hi hu hdn hm hrow hz0 hz1 hz2 hi0
  have hi0 := Lib.hid (info_parts info_byte)
  have HRA := Lib.hid hra
  have HFZ := Lib.hid hfz
  clear hra hfz
  go_enter Tryd.func52, Tryd.ntmps52
  go_wp2_with fail
  refine U.mono ?_
  rintro e w' ⟨rfl, rfl⟩
  go_wp2_with fail
  clear ZP SP hfill LK
  go_loopw [34] (fun s wr => ∃ (k : Nat), k ≤ x.loose.length ∧ s = .int .i64 k ∧ wr.rangeAt w.heap.size 0 (pcells (lastW pn (x.pages pn) (x.loose.take k)).1) ∧ (∀ j, wr.frozen? ⟨w.heap.size, j, none⟩ = false) ∧ Below w.heap.size w wr ∧ w.heap.size < wr.heap.size) (fun s _ => x.loose.length - (intOf s).toNat)
  case atStart => exact ⟨0, Nat.zero_le _, rfl, HRA.out, HFZ.out, hb1, by omega⟩
  case round =>
    obtain ⟨k, hk, rfl, hra, hfz, hbw, hgt⟩ := hrel
    by_cases hlt : k < x.loose.length
    · obtain ⟨y, hy⟩ : ∃ y, x.loose[k]? = some y := ⟨_, List.getElem?_eq_getElem hlt⟩
      obtain ⟨g, rfl, hgf, hr⟩ := HR.out k y hy
      have hr2 : wr.rangeAt g (k * 129) (wcells y) := rangeAt_only (S := []) hr (Only.of_below hbw) (by simp)
      have HL := load_write hr2
      obtain ⟨w2, hfill, hb2, hs2, hra2, hfz2⟩ := fresh_fill (P := Tryd.prog) wr 94 (wcells (0, zpage)) (wcells y) (by rw [wcells_length, wcells_length]) (wcells_one y)
      have hc0 := wcells_at hra2
      have hra3 := rangeAt_below hra hb2 hgt
      have hfz3 : ∀ j, w2.frozen? ⟨w.heap.size, j, none⟩ = false := fun j => (hb2.frozen (p := ⟨w.heap.size, j, none⟩) hgt).trans (hfz j)
      have hwr := hbw.size
      have ZW := zero_write
      have SZ := wcells_length y
      have HLW := lastW_take pn (x.pages pn) x.loose k y hy
      by_cases hyp : y.1 = pn
      · rw [if_pos hyp] at HLW
        have HLP := load_page (wcells_page hra2)
        obtain ⟨w3, hfill3, hb3, hs3, hra4, hfz4⟩ := fill_again (P := Tryd.prog) (w := w2) 92 (pcells (lastW pn (x.pages pn) (x.loose.take k)).1) (pcells y.2.1) hra3 hfz3 (by rw [pcells_length, pcells_length, (lastW pn (x.pages pn) (x.loose.take k)).2, y.2.2]) (pcells_one _) (Nat.le_refl w.heap.size)
        have SP : (pcells y.2.1).length = 128 := by rw [pcells_length, y.2.2]
        have END : ∃ k' : Nat, k' ≤ x.loose.length ∧ Value.int .i64 ((k + 1 : Nat) : Int) = .int .i64 k' ∧ w3.rangeAt w.heap.size 0 (pcells (lastW pn (x.pages pn) (x.loose.take k')).1) ∧ (∀ j, w3.frozen? ⟨w.heap.size, j, none⟩ = false) ∧ Below w.heap.size w w3 ∧ w.heap.size < w3.heap.size := ⟨k + 1, hlt, rfl, by rw [HLW]; exact hra4, hfz4, (hbw.trans (hb2.mono hwr)).trans hb3, by have := hb3.size; omega⟩
        have END := Lib.hid END
        have q0 : ((y.1 : Int) == (pn : Int)) = true := by simp [hyp]
        have q1 : (y.1 == pn) = true := by simp [hyp]
        clear hra hfz hra2 hfz2 hra3 hfz3 hra4 hfz4 hb2 hb3 hbw hs2 hs3 hwr hr hr2 HLW hyp hy hgt
        go_wp2_with fail
        refine wp_load_run 94 _ rfl rfl HL ?_
        go_at_K
        go_wp2_with fail
        refine wp_load_run 92 _ rfl rfl HLP ?_
        go_at_K
        unfold pv
        go_wp2_with fail
        go_roundw
        case rel => exact END.out
        case measure => simp [intOf]; omega
      · rw [if_neg hyp] at HLW
        have END : ∃ k' : Nat, k' ≤ x.loose.length ∧ Value.int .i64 ((k + 1 : Nat) : Int) = .int .i64 k' ∧ w2.rangeAt w.heap.size 0 (pcells (lastW pn (x.pages pn) (x.loose.take k')).1) ∧ (∀ j, w2.frozen? ⟨w.heap.size, j, none⟩ = false) ∧ Below w.heap.size w w2 ∧ w.heap.size < w2.heap.size := ⟨k + 1, hlt, rfl, by rw [HLW]; exact hra3, hfz3, hbw.trans (hb2.mono hwr), by omega⟩
        have END := Lib.hid END
        have q0 : ((y.1 : Int) == (pn : Int)) = false := by simp; omega
        have q1 : (y.1 == pn) = false := by simp [hyp]
        clear hra hfz hra2 hfz2 hra3 hfz3 hb2 hbw hs2 hwr hr hr2 HLW hyp hy hgt
        go_wp2_with fail
        refine wp_load_run 94 _ rfl rfl HL ?_
        go_at_K
        go_wp2_with fail
        go_roundw
        case rel => exact END.out
        case measure => simp [intOf]; omega
    · obtain rfl : k = x.loose.length := by omega
      rw [List.take_length] at hra
      have hsn : lastW pn (x.pages pn) x.loose = seen x pn := rfl
      rw [hsn] at hra
      have hl := (seen x pn).2
      obtain ⟨i1, hi1, hz0, hz1, hz2⟩ := hi0.out
      have hRow := (row_of_range hra hgt hl).below (Nat.le_refl _) ((Below.refl wr.heap.size wr).alloc (Nat.le_refl _) (.cells #[] 5))
      obtain ⟨v', w3, hr9, ho9, hg9, _⟩ := run_append_row (P := Tryd.prog) (w := wr.alloc (.cells #[] 5)) w.heap.size 31 5 i1 _ 1 Tryd.underlying31 hi1 hz0 hz1 hz2 rfl (own_made .u8 wr 5 [] rfl hbw.size (by unfold maxLen; simp)) hRow (by unfold maxLen; simp) (by simp) (by have := hbw.size; simp; omega)
      have hb3 : Below w.heap.size w w3 := (hbw.alloc hbw.size _).grown hg9 (by have := hbw.size; simp; omega) (fun k hk => by cases hk; exact hbw.size)
      have END : ReadPost w (seen x pn).1 0 (.returned (.tuple #[v', .int .i64 0])) w3 := ⟨v', rfl, by rw [hl]; simpa using ho9, hb3⟩
      have END := Lib.hid END
      clear hra hfz hRow ho9 hg9 hb3 hbw hz0 hz1 hz2 hi1 hsn hl hgt
      go_wp2_with (at_builtin; refine wpList_append_run rfl _ _ _ _ rfl rfl rfl hr9 ?_)
      go_ret2
      exact END.out
set_option maxRecDepth 100000 in
set_option maxHeartbeats 1000000 in
/-- A page that is there, and one that isn't. -/
theorem dread_any {w : World} {F : List Nat} {db M : Nat} {bs : List (Nat × List Nat)} {d : List Rg} (h : DskIn w F db M bs d) (r p : Int) :
    Calls Tryd.prog 52 #[.pointer (some ⟨db, 0, none⟩), .int .i64 r, .int .i64 p] w (ReadPost w (readB d r p) (pagedE d r p)) := by
  by_cases hu : pagedE d r p = 0
  · obtain ⟨i, pn, x, rfl, rfl, hx, hdn, hpn⟩ := pagedE_zero hu
    have e1 : readB d i pn = (seen x pn).1 := by rw [readB, if_pos hu, atR_of hx, Int.toNat_natCast]
    rw [hu, e1]
    exact dread_in h i pn x hx hdn hpn
  · have U := paged_any h r p
    have e1 : readB d r p = [] := by rw [readB, if_neg hu]
    rw [e1]
    have q0 : (pagedE d r p == 0) = false := by simpa using hu
    generalize pagedE d r p = er at *
    have U : Calls Tryd.prog 35 #[.pointer (some ⟨db, 0, none⟩), .int .i64 r, .int .i64 p] w fun e w' => e = .returned (.tuple #[.pointer none, .int .i64 er]) ∧ w = w' := U.mono fun e w' ⟨h1, h2⟩ => by
      refine ⟨?_, h2⟩
      rcases h1 with ⟨h0, _⟩ | ⟨_, he⟩
      · exact absurd h0 hu
      · exact he
    have END := Lib.hid (show ReadPost w [] er (.returned (.tuple #[.slice none 0 0, .int .i64 er])) w from ⟨_, rfl, World.ownsRow_nil _ _ _ _, Below.refl _ _⟩)
    clear hu e1 h
    go_enter Tryd.func52, Tryd.ntmps52
    go_wp2_with fail
    refine U.mono ?_
    rintro e w0 ⟨rfl, rfl⟩
    go_wp2_with fail
    go_ret2
    exact END.out
end Go.Proofs.YtfidfbgplfjakaaDoor

/- The walk of New (printed by gen_dskNew.py). -/
namespace Go.Proofs.YtfidfbgplfjakaaDoor
open Go.RowKit

def newOk (l : List Int) : Bool := decide (1 ≤ l.length) && decide (l.length ≤ 64) && l.all fun n => decide (1 ≤ n) && decide (n ≤ 1000)
def newE (l : List Int) : Int := if newOk l then 0 else 1
def newD (l : List Int) : List Rg := l.map fun n => Rg.new n.toNat
theorem info_ptr : (Tryd.prog.info? 80).map (fun i => (i.zero, i.size, i.bytes)) = some (some (.pointer none), 1, 8) := by kernel_rfl
theorem heap_alloc_lt (w : World) (o : Obj) {k : Nat} (h : k < w.heap.size) : (w.alloc o).heap[k]? = w.heap[k]? := ((Below.refl w.heap.size w).alloc (Nat.le_refl _) o).block k h
/-- A fresh region is put behind the others. -/
theorem DskIn.push {w : World} {F : List Nat} {db : Nat} {bs : List (Nat × List Nat)} {d : List Rg} (h : DskIn w F db 0 bs d) (n : Nat) (hn : n ≤ 1000) (hd : d.length ≤ 1000) (B : Nat) (hB : ∀ k ∈ F, B ≤ k) (hBw : B ≤ w.heap.size) :
    ∃ a m c v' w4, w.cell? ⟨db, 0, none⟩ = some (.slice a m c) ∧ m = d.length ∧
      (Builtin.append_ #[77, 77] 77 #[.slice a m c, .slice (some ⟨w.heap.size + 1 + 1, 0, none⟩) 1 1]).run Tryd.prog (((w.alloc (.map #[] 0)).alloc (.cells #[.int .i64 (n : Int), .map (some w.heap.size), .slice none 0 0, .int .i64 (-1), .bool false] 84)).alloc (.cells #[.pointer (some ⟨w.heap.size + 1, 0, none⟩)] 80)) = .ok v' w4 ∧
      w4.cell? ⟨db, 0, none⟩ = some (.slice a m c) ∧ w4.frozen? ⟨db, 0, none⟩ = false ∧ (∃ a' m' c', v' = .slice a' m' c') ∧ Below B w (w4.setCell ⟨db, 0, none⟩ v') ∧
      ∃ F' bs', DskIn (w4.setCell ⟨db, 0, none⟩ v') F' db 0 bs' (d ++ [Rg.new n]) ∧ ∀ k ∈ F', B ≤ k := by
  obtain ⟨pv, h1, h2, h3⟩ := h.cells
  obtain ⟨a, c, rfl, hc1, hc2, _⟩ := own_slice h2
  have hdb := h.lt db h.mem
  generalize hW2 : (w.alloc (.map #[] 0)).alloc (.cells #[.int .i64 (n : Int), .map (some w.heap.size), .slice none 0 0, .int .i64 (-1), .bool false] 84) = W2
  have hs2 : W2.heap.size = w.heap.size + 2 := by rw [← hW2]; simp
  have hb2 : Below w.heap.size w W2 := by rw [← hW2]; exact ((Below.refl _ _).alloc (Nat.le_refl _) _).alloc (by simp) _
  have hmb : W2.heap[w.heap.size]? = some (.map #[] 0) := by
    rw [← hW2, heap_alloc_lt _ _ (by simp)]; exact World.alloc_heap_new w _
  have hrb : W2.heap[w.heap.size + 1]? = some (.cells #[.int .i64 (n : Int), .map (some w.heap.size), .slice none 0 0, .int .i64 (-1), .bool false] 84 (0, 0)) := by
    rw [← hW2]
    have := World.alloc_heap_new (w.alloc (.map #[] 0)) (.cells #[.int .i64 (n : Int), .map (some w.heap.size), .slice none 0 0, .int .i64 (-1), .bool false] 84)
    rwa [show (w.alloc (.map #[] 0)).heap.size = w.heap.size + 1 by simp] at this
  obtain ⟨i0, hi0, hz0, hz1, hz2⟩ := info_parts info_ptr
  obtain ⟨v', w4, hr, ho, hg, hv⟩ := run_append_new (P := Tryd.prog) (w := W2) 0 77 80 i0 _ 1 8 Tryd.underlying77 hi0 hz0 hz1 hz2 rfl (by decide) (own_step h2 hb2) #[.pointer (some ⟨w.heap.size + 1, 0, none⟩)] rfl (by intro u hu; simp at hu; subst hu; rfl) (by unfold maxLen; omega) (by omega) (Nat.zero_le _)
  have hown_ne : ∀ k, Value.ownBlock (.slice a d.length c) = some k → k ≠ db ∧ k < w.heap.size := by
    intro k hk
    refine ⟨fun e => ?_, h.lt k (h3 k hk).1⟩
    rcases h2.2 with ⟨e2, _⟩ | ⟨g, cap, cur, e2, _, hg, _⟩
    · rw [e2] at hk; cases hk
    · rw [e2] at hk; cases hk
      have e' : g = db := e
      rw [e', h1] at hg
      simp only [Option.some.injEq, Obj.cells.injEq] at hg
      exact absurd hg.2.1 (by decide)
  have kb : ∀ k, k < w.heap.size → some k ≠ Value.ownBlock (.slice a d.length c) → w4.heap[k]? = w.heap[k]? := fun k hk hne => (hg.block k (by omega) hne).trans (hb2.block k hk)
  have hdb4 : w4.heap[db]? = some (.cells #[.slice a d.length c] 79 (0, 0)) := (kb db hdb (fun e => (hown_ne db e.symm).1 rfl)).trans h1
  have k4 : ∀ k, w.heap.size ≤ k → k < W2.heap.size → w4.heap[k]? = W2.heap[k]? := fun k hk hk2 => hg.block k hk2 (fun e => by have := (hown_ne k e.symm).2; omega)
  have hs4 := hg.size
  have hvlt := own_lt ho
  have hvk : ∀ k, v'.ownBlock = some k → (k ∈ F ∧ (∀ q ∈ bs, k ∉ q.2) ∧ k < w.heap.size ∧ k ≠ db) ∨ w.heap.size + 2 < k := by
    intro k hk
    rcases hv with hv | hv
    · rw [hv] at hk; exact .inl ⟨(h3 k hk).1, (h3 k hk).2, (hown_ne k hk).2, (hown_ne k hk).1⟩
    · rw [hv, hs2] at hk; cases hk; exact .inr (by omega)
  obtain ⟨a', c', rfl, _⟩ := own_slice ho
  have hS : Only [db] w4 (w4.setCell ⟨db, 0, none⟩ (.slice a' (d.length + 1) c')) := (Only.refl _ _).set _ _ (by simp)
  have hBF : ∀ k ∈ F ++ ([w.heap.size + 1, w.heap.size] ++ (Value.ownBlock (.slice a' (d.length + 1) c')).toList), B ≤ k := by
    intro k hk
    simp only [List.mem_append, List.mem_cons, List.not_mem_nil, or_false] at hk
    rcases hk with hk | (rfl | rfl) | hk
    · exact hB k hk
    · omega
    · omega
    · have hk' : Value.ownBlock (.slice a' (d.length + 1) c') = some k := by simpa using hk
      rcases hvk k hk' with h5 | h5
      · exact hB k h5.1
      · omega
  have hO : Only F w w4 := ⟨hg.os.trans hb2.os, hg.tape.trans hb2.tape, hg.output.trans hb2.output, Nat.le_trans hb2.size hg.size, fun k hk hkF => kb k hk (fun e => hkF (h3 k e.symm).1)⟩
  have hDSK : DskIn (w4.setCell ⟨db, 0, none⟩ (.slice a' (d.length + 1) c')) (F ++ ([w.heap.size + 1, w.heap.size] ++ (Value.ownBlock (.slice a' (d.length + 1) c')).toList)) db 0 (bs ++ [(w.heap.size + 1, [w.heap.size + 1, w.heap.size])]) (d ++ [Rg.new n]) := by
    refine ⟨⟨.slice a' (d.length + 1) c', ?_, ?_, ?_⟩, List.mem_append_left _ h.mem, ?_, by simp [h.len], ?_, ?_, ?_, ?_⟩
    · rw [heap_setCell_at 0 _ hdb4]; rfl
    · have := own_only ho hS (fun k hk => by
        rcases hvk k hk with h5 | h5
        · simpa using h5.2.2.2
        · simp; omega)
      simpa using this
    · intro k hk
      refine ⟨by simp [hk], fun q hq => ?_⟩
      rcases List.mem_append.1 hq with hq | hq
      · rcases hvk k hk with h5 | h5
        · exact h5.2.1 q hq
        · intro hk2; have := h.lt k (h.sub q hq k hk2); omega
      · simp at hq; subst hq
        simp
        rcases hvk k hk with h5 | h5 <;> omega
    · intro q hq
      rcases List.mem_append.1 hq with hq | hq
      · exact h.off q hq
      · simp at hq; subst hq; simp; omega
    · intro i q x hq hx
      have hbd := h.len
      by_cases hi : i < d.length
      · rw [List.getElem?_append_left (by omega)] at hq
        rw [List.getElem?_append_left hi] at hx
        have hqm := List.mem_of_getElem? hq
        have hO4 : Only (Value.ownBlock (.slice a d.length c)).toList w w4 := ⟨hO.1, hO.2.1, hO.2.2.1, hO.size, fun k hk hkn => kb k hk (fun e => hkn (by rw [← e]; simp))⟩
        refine ((h.reg i q x hq hx).only hO4 (fun k hk hk2 => ?_)).only hS (fun k hk => ?_)
        · exact (h3 k (by simpa using hk2)).2 q hqm hk
        · simp; exact fun e => h.off q hqm (e ▸ hk)
      · have hil : i = d.length := by
          have := (List.getElem?_eq_some_iff.1 hx).1; simp at this; omega
        subst hil
        rw [List.getElem?_append_right (by omega), hbd, Nat.sub_self] at hq
        rw [List.getElem?_append_right (Nat.le_refl _), Nat.sub_self] at hx
        simp at hq hx
        subst hq hx
        have e1 : (w4.setCell ⟨db, 0, none⟩ (.slice a' (d.length + 1) c')).heap[w.heap.size + 1]? = _ := (hS.block (k := w.heap.size + 1) (by omega) (by simp; omega)).trans ((k4 _ (by omega) (by omega)).trans hrb)
        have e2 : (w4.setCell ⟨db, 0, none⟩ (.slice a' (d.length + 1) c')).heap[w.heap.size]? = some (.map #[] 0) := (hS.block (k := w.heap.size) (by omega) (by simp; omega)).trans ((k4 _ (by omega) (by omega)).trans hmb)
        refine ⟨w.heap.size, 0, .slice none 0 0, e1, (PgMap.made w).kept (e2.trans (World.alloc_heap_new w _).symm), World.ownsRow_nil _ _ _ _, Nat.le_refl _, by simp, by simp, (fun k hk => by cases hk), fun k hk => ?_, hn, (fun p hp => by simp [Rg.new] at hp), (by simp [Rg.new])⟩
        have := hS.size
        simp at hk
        omega
    · intro i j q r hij hq hr2 k hk hk2
      have hbd := h.len
      have cs : ∀ i q, (bs ++ [(w.heap.size + 1, [w.heap.size + 1, w.heap.size])])[i]? = some q → (bs[i]? = some q ∧ ∀ k ∈ q.2, k < w.heap.size) ∨ (i = bs.length ∧ ∀ k ∈ q.2, w.heap.size ≤ k) := by
        intro i q hq
        by_cases hi : i < bs.length
        · rw [List.getElem?_append_left hi] at hq
          exact .inl ⟨hq, fun k hk => h.lt k (h.sub q (List.mem_of_getElem? hq) k hk)⟩
        · have hil : i = bs.length := by
            have := (List.getElem?_eq_some_iff.1 hq).1; simp at this; omega
          subst hil
          rw [List.getElem?_append_right (Nat.le_refl _), Nat.sub_self] at hq
          simp at hq; subst hq
          refine .inr ⟨rfl, fun k hk => ?_⟩
          simp at hk; omega
      rcases cs i q hq with ⟨g1, g2⟩ | ⟨g1, g2⟩
      · rcases cs j r hr2 with ⟨g3, g4⟩ | ⟨g3, g4⟩
        · exact h.apart i j q r hij g1 g3 k hk hk2
        · have := g2 k hk; have := g4 k hk2; omega
      · rcases cs j r hr2 with ⟨g3, g4⟩ | ⟨g3, g4⟩
        · have := g2 k hk; have := g4 k hk2; omega
        · omega
    · intro q hq k hk
      rcases List.mem_append.1 hq with hq | hq
      · exact List.mem_append_left _ (h.sub q hq k hk)
      · simp at hq; subst hq
        refine List.mem_append_right _ (List.mem_append_left _ hk)
    · intro k hk
      have := hS.size
      simp only [List.mem_append, List.mem_cons, List.not_mem_nil, or_false] at hk
      rcases hk with hk | (rfl | rfl) | hk
      · have := h.lt k hk; omega
      · omega
      · omega
      · have hk' : Value.ownBlock (.slice a' (d.length + 1) c') = some k := by simpa using hk
        have := hvlt k hk'
        omega
  refine ⟨a, d.length, c, .slice a' (d.length + 1) c', w4, by simp [World.cell?, h1], rfl, (by rw [hs2] at hr; exact hr), by simp [World.cell?, hdb4], by simp [World.frozen?, hdb4], ⟨_, _, _, rfl⟩, (hO.set _ _ h.mem).below hBw hB, _, _, hDSK, hBF⟩

/-- What stands behind so many sizes. -/
def NewRel (w : World) (l : List Int) (k : Nat) (wr : World) : Prop := ∃ F bs, DskIn wr F w.heap.size 0 bs (newD (l.take k)) ∧ (∀ j ∈ F, w.heap.size ≤ j) ∧ Below w.heap.size w wr ∧ (l.take k).all (fun n => decide (1 ≤ n) && decide (n ≤ 1000)) = true
def NewPost (w : World) (l : List Int) (e : Ending) (w' : World) : Prop :=
  Below w.heap.size w w' ∧ (if newOk l then ∃ F db bs, e = .returned (.tuple #[.pointer (some ⟨db, 0, none⟩), .int .i64 0]) ∧ DskIn w' F db 0 bs (newD l) ∧ ∀ j ∈ F, w.heap.size ≤ j else e = .returned (.tuple #[.pointer none, .int .i64 1]))
theorem newPost_bad {w w' : World} {l : List Int} (h : newOk l = false) (hb : Below w.heap.size w w') : NewPost w l (.returned (.tuple #[.pointer none, .int .i64 1])) w' := ⟨hb, by rw [h]; rfl⟩
theorem DskIn.fresh (w : World) : DskIn (w.alloc (.cells #[.slice none 0 0] 79)) [w.heap.size] w.heap.size 0 [] [] := by
  have hh := World.alloc_heap_new w (.cells #[.slice none 0 0] 79)
  exact ⟨⟨.slice none 0 0, hh, World.ownsRow_nil _ _ _ _, fun k hk => by cases hk⟩, by simp, by simp, rfl, fun i q x hq => by simp at hq, fun i j q r _ hq => by simp at hq, by simp, by simp⟩
set_option maxRecDepth 100000 in
set_option maxHeartbeats 8000000 in
theorem dnew_any {w : World} {a : Option Addr} {len cap : Nat} {l : List Int} (h : Row .i64 w a len cap l) :
    Calls Tryd.prog 14 #[.slice a len cap] w (NewPost w l) := by
  have hl := h.1
  have hm : len ≤ 9223372036854775807 := by have := h.2.1; have := h.2.2.1; unfold maxLen at this; omega
  by_cases h0 : len < 1
  · have d0 : decide (len < 1) = true := by simpa using h0
    have d0' : decide ((len : Int) < 1) = true := by simp; omega
    have HB := Lib.hid (newPost_bad (w := w) (w' := w) (l := l) (by unfold newOk; rw [show decide (1 ≤ l.length) = false from decide_eq_false (by omega)]; rfl) (Below.refl _ _))
    clear h hl
    go_enter Tryd.func14, Tryd.ntmps14
    go_wp2_with fail
    go_ret2
    exact HB.out
  · by_cases h64 : 64 < len
    · have d0 : decide (len < 1) = false := by simpa using h0
      have d0' : decide ((len : Int) < 1) = false := by simp; omega
      have d1 : decide (64 < len) = true := by simpa using h64
      have d1' : decide ((64 : Int) < len) = true := by simp; omega
      have HB := Lib.hid (newPost_bad (w := w) (w' := w) (l := l) (by unfold newOk; rw [show decide (l.length ≤ 64) = false from decide_eq_false (by omega)]; simp) (Below.refl _ _))
      clear h hl
      go_enter Tryd.func14, Tryd.ntmps14
      go_wp2_with fail
      go_ret2
      exact HB.out
    · have d0 : decide (len < 1) = false := by simpa using h0
      have d0' : decide ((len : Int) < 1) = false := by simp; omega
      have d1 : decide (64 < len) = false := by simpa using h64
      have d1' : decide ((64 : Int) < len) = false := by simp; omega
      have START : NewRel w l 0 (w.alloc (.cells #[.slice none 0 0] 79)) := ⟨_, _, DskIn.fresh w, by (intro j hj; simp at hj; subst hj; exact Nat.le_refl _), (Below.refl _ _).alloc (Nat.le_refl _) _, rfl⟩
      have HSTART := Lib.hid START
      have HROW := Lib.hid h
      have HL := Lib.hid hl
      obtain ⟨_, _, _, _, hcells⟩ := h
      clear START hl
      go_enter Tryd.func14, Tryd.ntmps14
      go_wp2_with fail
      go_loopw [19] (fun s wr => ∃ (k : Nat), k ≤ len ∧ s = .int .i64 k ∧ NewRel w l k wr) (fun s _ => len - (intOf s).toNat)
      case atStart => exact ⟨0, Nat.zero_le _, rfl, HSTART.out⟩
      case round =>
        obtain ⟨k, hk, rfl, hrel⟩ := hrel
        by_cases hlt : k < len
        · obtain ⟨b, off, rfl, hb, hc⟩ : ∃ b off, a = some ⟨b, off, none⟩ ∧ b < w.heap.size ∧ ∀ i, i < len → w.cell? ⟨b, off + i, none⟩ = some (.int .i64 (l[i]?.getD 0)) := by
            rcases hcells with h0 | h0
            · omega
            · exact h0
          obtain ⟨F, bs, hd, hF, hbw, hall⟩ := hrel
          have hkl : k < l.length := by have := HL.out; omega
          have hn : ∃ n, l[k]? = some n := ⟨_, List.getElem?_eq_getElem hkl⟩
          obtain ⟨n, hn⟩ := hn
          have hts : l.take (k + 1) = l.take k ++ [n] := by rw [List.take_succ_eq_append_getElem hkl, (List.getElem?_eq_some_iff.1 hn).2]
          have c1 : wr.cell? ⟨b, off + k, none⟩ = some (.int .i64 n) := by
            rw [hbw.cell (p := ⟨b, off + k, none⟩) hb, hc k hlt, hn]; rfl
          by_cases hgood : 1 ≤ n ∧ n ≤ 1000
          · obtain ⟨m, rfl⟩ := Int.eq_ofNat_of_zero_le (show 0 ≤ n by omega)
            have e0 : decide ((m : Int) < 1) = false := by simp; omega
            have e1 : decide ((1000 : Int) < m) = false := by simp; omega
            have e2 : decide (m < 1) = false := by simp; omega
            have e3 : decide (1000 < m) = false := by simp; omega
            have hdl : (newD (l.take k)).length ≤ 1000 := by have := HL.out; simp [newD]; omega
            obtain ⟨a9, m9, k9, v9, w9, c9, -, hr9, c10, f10, ⟨a8, m8, k8, rfl⟩, hb9, F9, bs9, hd9, hF9⟩ := hd.push m (by omega) hdl w.heap.size hF hbw.size
            have END : ∃ k' : Nat, k' ≤ len ∧ Value.int .i64 ((k + 1 : Nat) : Int) = .int .i64 k' ∧ NewRel w l k' (w9.setCell ⟨w.heap.size, 0, none⟩ (.slice a8 m8 k8)) := by
              refine ⟨k + 1, hlt, rfl, F9, bs9, ?_, hF9, hbw.trans hb9, ?_⟩
              · rw [hts]; simpa [newD] using hd9
              · rw [hts, List.all_append, hall]; simp; omega
            have END := Lib.hid END
            clear hd hF hbw hall hd9 hF9 hb9 hdl hts hn hgood hkl hcells hc hb
            have hmm := @run_makeMap Tryd.prog
            go_wp2_with (at_builtin; refine wpList_append_run rfl _ _ _ _ rfl rfl rfl hr9 ?_)
            go_roundw
            case rel => exact END.out
            case measure => simp [intOf]; omega
          · have hbad : newOk l = false := by
              unfold newOk
              rw [show l.all (fun n => decide (1 ≤ n) && decide (n ≤ 1000)) = false from by
                rw [List.all_eq_false]
                exact ⟨n, List.mem_of_getElem? hn, by simp; omega⟩]
              simp
            have HB := Lib.hid (newPost_bad hbad hbw)
            by_cases g1 : n < 1
            · have e0 : decide (n < 1) = true := by simpa using g1
              clear hd hF hbw hall hts hn hgood hkl hcells hc hb hbad
              go_wp2_with fail
              go_ret2
              exact HB.out
            · have e0 : decide (n < 1) = false := by simpa using g1
              have e1 : decide (1000 < n) = true := by simp; omega
              clear hd hF hbw hall hts hn hgood hkl hcells hc hb hbad
              go_wp2_with fail
              go_ret2
              exact HB.out
        · obtain rfl : k = len := by omega
          obtain ⟨F, bs, hd, hF, hbw, hall⟩ := hrel
          have htl : l.take k = l := List.take_of_length_le (by rw [HL.out]; exact Nat.le_refl _)
          rw [htl] at hd hall
          have END : NewPost w l (.returned (.tuple #[.pointer (some ⟨w.heap.size, 0, none⟩), .int .i64 0])) wr := by
            refine ⟨hbw, ?_⟩
            rw [if_pos (by unfold newOk; have := HL.out; rw [hall]; simp; omega)]
            exact ⟨F, _, bs, rfl, hd, hF⟩
          have END := Lib.hid END
          clear hd hF hbw hall htl
          go_wp2_with fail
          go_ret2
          exact END.out
end Go.Proofs.YtfidfbgplfjakaaDoor

/- Disks of the call's own: one, two; what each call leaves of them. -/
namespace Go.Proofs.YtfidfbgplfjakaaDoor
open Go.RowKit

/-- A disk whose blocks lie from B on and below T; whatever turns in it leaves Q. -/
def Opens (B T : Nat) (w : World) (da M : Nat) (d : List Rg) (Q : World → Nat → List Rg → Prop) : Prop :=
  ∃ F bs, DskIn w F da M bs d ∧ (∀ k ∈ F, B ≤ k ∧ k < T) ∧ T ≤ w.heap.size ∧ B ≤ w.heap.size ∧ ∀ w' F' bs' d' M', M ≤ M' → Only F w w' → DskIn w' F' da M' bs' d' → (∀ k ∈ F', k ∈ F ∨ T ≤ k) → Q w' M' d'
theorem Opens.below {B T : Nat} {w w1 : World} {da M : Nat} {d : List Rg} {Q : World → Nat → List Rg → Prop} (h : Opens B T w da M d Q) (hb : Below w.heap.size w w1) : Opens B T w1 da M d Q := by
  obtain ⟨F, bs, h1, h2, h3, h4, h5⟩ := h
  have hs := hb.size
  refine ⟨F, bs, h1.below hb, h2, by omega, by omega, fun w' F' bs' d' M' hM ho hd hF => h5 w' F' bs' d' M' hM ((Only.of_below hb).trans ho) hd hF⟩
def One (B : Nat) (w : World) (da M : Nat) (d : List Rg) : Prop := ∃ F bs, DskIn w F da M bs d ∧ (∀ k ∈ F, B ≤ k) ∧ B ≤ w.heap.size
def Two (B : Nat) (w : World) (da db M : Nat) (d e : List Rg) : Prop := ∃ F G bs cs, DskIn w F da M bs d ∧ DskIn w G db M cs e ∧ (∀ k ∈ F, B ≤ k) ∧ (∀ k ∈ G, B ≤ k) ∧ (∀ k ∈ F, k ∉ G) ∧ B ≤ w.heap.size
theorem One.opens {B : Nat} {w : World} {da M : Nat} {d : List Rg} (h : One B w da M d) : Opens B w.heap.size w da M d (fun w' M' d' => One B w' da M' d' ∧ Below B w w') := by
  obtain ⟨F, bs, h1, h2, h3⟩ := h
  refine ⟨F, bs, h1, fun k hk => ⟨h2 k hk, h1.lt k hk⟩, Nat.le_refl _, h3, fun w' F' bs' d' M' _ ho hd hF => ⟨⟨F', bs', hd, fun k hk => (hF k hk).elim (h2 k) (fun h => by omega), by have := ho.size; omega⟩, ho.below h3 h2⟩⟩
theorem Two.swap {B : Nat} {w : World} {da db M : Nat} {d e : List Rg} (h : Two B w da db M d e) : Two B w db da M e d := by
  obtain ⟨F, G, bs, cs, h1, h2, h3, h4, h5, h6⟩ := h
  exact ⟨G, F, cs, bs, h2, h1, h4, h3, fun k hk hk2 => h5 k hk2 hk, h6⟩
theorem Two.opens {B : Nat} {w : World} {da db M : Nat} {d e : List Rg} (h : Two B w da db M d e) : Opens B w.heap.size w da M d (fun w' M' d' => Two B w' da db M' d' e ∧ Below B w w') := by
  obtain ⟨F, G, bs, cs, h1, h2, h3, h4, h5, h6⟩ := h
  refine ⟨F, bs, h1, fun k hk => ⟨h3 k hk, h1.lt k hk⟩, Nat.le_refl _, h6, fun w' F' bs' d' M' hM ho hd hF => ⟨⟨F', G, bs', cs, hd, (h2.only ho (fun k hk hk2 => h5 k hk2 hk)).more hM, fun k hk => (hF k hk).elim (h3 k) (fun h => by omega), h4, fun k hk hk2 => ?_, by have := ho.size; omega⟩, ho.below h6 h3⟩⟩
  rcases hF k hk with h7 | h7
  · exact h5 k h7 hk2
  · have := h2.lt k hk2; omega
theorem Two.left {B : Nat} {w : World} {da db M : Nat} {d e : List Rg} (h : Two B w da db M d e) : One B w da M d := by
  obtain ⟨F, G, bs, cs, h1, h2, h3, h4, h5, h6⟩ := h
  exact ⟨F, bs, h1, h3, h6⟩
theorem One.below {B : Nat} {w w' : World} {da M : Nat} {d : List Rg} (h : One B w da M d) (hb : Below w.heap.size w w') : One B w' da M d := by
  obtain ⟨F, bs, h1, h2, h3⟩ := h
  exact ⟨F, bs, h1.below hb, h2, by have := hb.size; omega⟩
theorem Two.below {B : Nat} {w w' : World} {da db M : Nat} {d e : List Rg} (h : Two B w da db M d e) (hb : Below w.heap.size w w') : Two B w' da db M d e := by
  obtain ⟨F, G, bs, cs, h1, h2, h3, h4, h5, h6⟩ := h
  exact ⟨F, G, bs, cs, h1.below hb, h2.below hb, h3, h4, h5, by have := hb.size; omega⟩
theorem One.more {B : Nat} {w : World} {da M M' : Nat} {d : List Rg} (h : One B w da M d) (hM : M ≤ M') : One B w da M' d := by
  obtain ⟨F, bs, h1, h2, h3⟩ := h
  exact ⟨F, bs, h1.more hM, h2, h3⟩
theorem Two.more {B : Nat} {w : World} {da db M M' : Nat} {d e : List Rg} (h : Two B w da db M d e) (hM : M ≤ M') : Two B w da db M' d e := by
  obtain ⟨F, G, bs, cs, h1, h2, h3⟩ := h
  exact ⟨F, G, bs, cs, h1.more hM, h2.more hM, h3⟩
/-- A second disk beside the first. -/
theorem Two.mk {B : Nat} {w w' : World} {da db M : Nat} {d e : List Rg} {F : List Nat} {bs : List (Nat × List Nat)} (h : One B w da M d) (hb : Below w.heap.size w w') (h2 : DskIn w' F db M bs e) (hF : ∀ k ∈ F, w.heap.size ≤ k) : Two B w' da db M d e := by
  obtain ⟨G, cs, h3, h4, h5⟩ := h
  exact ⟨G, F, cs, bs, h3.below hb, h2, h4, fun k hk => Nat.le_trans h5 (hF k hk), fun k hk hk2 => by have := h3.lt k hk; have := hF k hk2; omega, by have := hb.size; omega⟩

section
variable {B T : Nat} {w : World} {da M : Nat} {d : List Rg} {Q : World → Nat → List Rg → Prop}
theorem write_o (h : Opens B T w da M d Q) {a : Option Addr} {len cap : Nat} {l : List UInt8} (hb : Bs w a len cap l) (hF : ∀ g off, a = some ⟨g, off, none⟩ → g < B ∨ T ≤ g) (hM : M ≤ 900000) (r p : Int) :
    Calls Tryd.prog 16 #[.pointer (some ⟨da, 0, none⟩), .int .i64 r, .int .i64 p, .slice a len cap] w fun e w' => e = .returned (.int .i64 (writeE d r p l)) ∧ Q w' (M + 1) (writeD d r p l) := by
  obtain ⟨F, bs, h1, h2, h3, h4, h5⟩ := h
  refine (write_any h1 hb (fun g off hg hk => by have := h2 g hk; rcases hF g off hg with h | h <;> omega) hM r p).mono ?_
  rintro e w' ⟨rfl, ho, F', bs', hd, hF'⟩
  exact ⟨rfl, h5 w' F' bs' _ _ (Nat.le_succ M) ho hd (fun k hk => (hF' k hk).imp id (fun h => by omega))⟩
theorem write_o2 (h : Opens B T w da M d Q) {a : Option Addr} {len cap : Nat} {l : List UInt8} (hb : Bs w a len cap l) (hF : len = 128 → ∀ g off, a = some ⟨g, off, none⟩ → g < B ∨ T ≤ g) (hM : M ≤ 900000) (r p : Int) :
    Calls Tryd.prog 16 #[.pointer (some ⟨da, 0, none⟩), .int .i64 r, .int .i64 p, .slice a len cap] w fun e w' => e = .returned (.int .i64 (writeE d r p l)) ∧ Q w' (M + 1) (writeD d r p l) := by
  obtain ⟨F, bs, h1, h2, h3, h4, h5⟩ := h
  refine (write_wide h1 hb (fun hn g off hg hk => by have := h2 g hk; rcases hF hn g off hg with h | h <;> omega) hM r p).mono ?_
  rintro e w' ⟨rfl, ho, F', bs', hd, hF'⟩
  exact ⟨rfl, h5 w' F' bs' _ _ (Nat.le_succ M) ho hd (fun k hk => (hF' k hk).imp id (fun h => by omega))⟩
end
section
variable {B : Nat} {w : World} {da M : Nat} {d : List Rg}
theorem read_o (h : One B w da M d) (r p : Int) : Calls Tryd.prog 52 #[.pointer (some ⟨da, 0, none⟩), .int .i64 r, .int .i64 p] w (ReadPost w (readB d r p) (pagedE d r p)) := by
  obtain ⟨F, bs, h1, h2, h3⟩ := h
  exact dread_any h1 r p
end
/-- What New leaves, when it goes. -/
def NewOk (w : World) (d : List Rg) (e : Ending) (w' : World) : Prop := ∃ db, e = .returned (.tuple #[.pointer (some ⟨db, 0, none⟩), .int .i64 0]) ∧ One w.heap.size w' db 0 d ∧ Below w.heap.size w w'
theorem new_ok {w : World} {a : Option Addr} {len cap : Nat} {l : List Int} (h : Row .i64 w a len cap l) (hl : newOk l = true) : Calls Tryd.prog 14 #[.slice a len cap] w (NewOk w (newD l)) := by
  refine (dnew_any h).mono ?_
  rintro e w' ⟨hb, hr⟩
  rw [hl, if_pos rfl] at hr
  obtain ⟨F, db, bs, rfl, hd, hF⟩ := hr
  exact ⟨db, rfl, ⟨F, bs, hd, hF, hb.size⟩, hb⟩
def NewTwo (B : Nat) (w : World) (da M : Nat) (d e : List Rg) (en : Ending) (w' : World) : Prop := ∃ db, en = .returned (.tuple #[.pointer (some ⟨db, 0, none⟩), .int .i64 0]) ∧ Two B w' da db M d e ∧ Below w.heap.size w w'
theorem new_two {B : Nat} {w : World} {da M : Nat} {d : List Rg} (h1 : One B w da M d) {a : Option Addr} {len cap : Nat} {l : List Int} (h : Row .i64 w a len cap l) (hl : newOk l = true) : Calls Tryd.prog 14 #[.slice a len cap] w (NewTwo B w da M d (newD l)) := by
  refine (dnew_any h).mono ?_
  rintro e w' ⟨hb, hr⟩
  rw [hl, if_pos rfl] at hr
  obtain ⟨F, db, bs, rfl, hd, hF⟩ := hr
  exact ⟨db, rfl, Two.mk h1 hb (hd.more (Nat.zero_le M)) hF, hb⟩
end Go.Proofs.YtfidfbgplfjakaaDoor

/- Plain functions of the chapter on numbers and texts as bytes; no program in sight. -/
namespace Go.Proofs.YtfidfbgplfjakaaDoor

/-- A number's lowest bytes, the highest first. -/
def beBytes (x : Nat) : Nat → List UInt8
  | 0 => []
  | n + 1 => beBytes (x / 256) n ++ [UInt8.ofNat x]
theorem beBytes_length (x n : Nat) : (beBytes x n).length = n := by
  induction n generalizing x with
  | zero => rfl
  | succ n ih => simp [beBytes, ih]
/-- The number that bytes are, the highest first. -/
def beVal (l : List UInt8) : Nat := l.foldl (fun x b => x * 256 + b.toNat) 0
theorem beVal_nil : beVal [] = 0 := rfl
theorem beVal_snoc (l : List UInt8) (b : UInt8) : beVal (l ++ [b]) = beVal l * 256 + b.toNat := by simp [beVal]
theorem beVal_lt (l : List UInt8) : beVal l < 256 ^ l.length := by
  have key : ∀ (l : List UInt8) (a : Nat), l.foldl (fun x b => x * 256 + b.toNat) a < (a + 1) * 256 ^ l.length := by
    intro l
    induction l with
    | nil => intro a; simp
    | cons b l ih =>
      intro a
      have h := ih (a * 256 + b.toNat)
      have hb := b.toNat_lt
      simp only [List.foldl_cons, List.length_cons, Nat.pow_succ]
      calc _ < (a * 256 + b.toNat + 1) * 256 ^ l.length := h
        _ ≤ ((a + 1) * 256) * 256 ^ l.length := Nat.mul_le_mul_right _ (by omega)
        _ = (a + 1) * (256 ^ l.length * 256) := by rw [Nat.mul_assoc, Nat.mul_comm 256]
  have h := key l 0
  simp at h; exact h
theorem beBytes_cons (x n : Nat) : beBytes x (n + 1) = UInt8.ofNat (x / 256 ^ n) :: beBytes x n := by
  induction n generalizing x with
  | zero => simp [beBytes]
  | succ n ih =>
    rw [beBytes, ih (x / 256)]
    simp only [List.cons_append]
    rw [Nat.div_div_eq_div_mul, Nat.pow_succ, Nat.mul_comm 256]
    rfl

theorem be_set (x n k : Nat) (hk : k < n) : (List.replicate (n - k) 0 ++ beBytes x k).set (n - 1 - k) (UInt8.ofNat (x / 256 ^ k)) = List.replicate (n - (k + 1)) 0 ++ beBytes x (k + 1) := by
  obtain ⟨m, rfl⟩ : ∃ m, n = k + 1 + m := ⟨n - k - 1, by omega⟩
  have e1 : k + 1 + m - k = m + 1 := by omega
  have e2 : k + 1 + m - 1 - k = m := by omega
  have e3 : k + 1 + m - (k + 1) = m := by omega
  rw [e1, e2, e3, beBytes_cons, List.replicate_succ', List.append_assoc, List.set_append_right _ _ (by simp), List.length_replicate, Nat.sub_self]
  rfl
theorem be_at (x n k : Nat) (hk : k < n) : (List.replicate (n - k) (0 : UInt8) ++ beBytes x k)[n - 1 - k]? = some 0 := by
  rw [List.getElem?_append_left (by simp; omega), List.getElem?_replicate, if_pos (by omega)]

theorem be_byte (x k : Nat) : ((x : Int) / 2 ^ (8 * k) % 256) = ((UInt8.ofNat (x / 256 ^ k)).toNat : Int) := by
  have e : (256 : Nat) ^ k = 2 ^ (8 * k) := by rw [Nat.pow_mul]
  rw [UInt8.toNat_ofNat', e, Int.natCast_emod, Int.natCast_ediv, Int.natCast_pow]
  rfl

/-- 'octet.Num'. -/
def numF (x : Int) (size : Int) : List UInt8 := if size < 1 ∨ 8 < size then [] else beBytes x.toNat size.toNat
/-- 'octet.Text'. -/
def textF (l : List UInt8) : List UInt8 := UInt8.ofNat (l.take 255).length :: l.take 255

/-- What is left to take, and what went wrong first. -/
structure TSt where
  l : List UInt8
  e : Int
deriving DecidableEq

/-- So many bytes, taken. -/
def takeF (s : TSt) (n : Nat) : List UInt8 × TSt :=
  if s.e ≠ 0 then ([], s) else if s.l.length < n then ([], { s with e := 10 }) else (s.l.take n, { s with l := s.l.drop n })
def tNum (s : TSt) (size : Int) : Nat × TSt :=
  if s.e = 0 ∧ (size < 1 ∨ 8 < size) then (0, { s with e := 1 }) else (beVal (takeF s size.toNat).1, (takeF s size.toNat).2)
def tText (s : TSt) : List UInt8 × TSt := takeF (tNum s 1).2 (tNum s 1).1
def tRest (s : TSt) : List UInt8 × TSt := takeF s s.l.length
def tDone (s : TSt) : Int := if s.e ≠ 0 ∨ s.l.length = 0 then s.e else 11

/-! what went wrong first stays -/
def OkE (e : Int) : Prop := e = 0 ∨ e = 1 ∨ e = 10
theorem takeF_facts (s : TSt) (n : Nat) (h : OkE s.e) : OkE (takeF s n).2.e ∧ ((s.e ≠ 0 ∧ takeF s n = ([], s)) ∨ (s.e = 0 ∧ (takeF s n).2.e = 0) ∨ (s.e = 0 ∧ (takeF s n).2.e ≠ 0 ∧ (takeF s n).1 = [])) := by
  by_cases he : s.e = 0
  · by_cases hn : s.l.length < n
    · have : takeF s n = ([], { s with e := 10 }) := by simp [takeF, he, hn]
      rw [this]; exact ⟨.inr (.inr rfl), .inr (.inr ⟨he, by simp, rfl⟩)⟩
    · have : takeF s n = (s.l.take n, { s with l := s.l.drop n }) := by simp [takeF, he, hn]
      rw [this]; exact ⟨h, .inr (.inl ⟨he, he⟩)⟩
  · have : takeF s n = ([], s) := by simp [takeF, he]
    rw [this]; exact ⟨h, .inl ⟨he, rfl⟩⟩
theorem tNum_facts (s : TSt) (y : Int) (h : OkE s.e) : OkE (tNum s y).2.e ∧ ((s.e ≠ 0 ∧ tNum s y = (0, s)) ∨ (s.e = 0 ∧ (tNum s y).2.e = 0) ∨ (s.e = 0 ∧ (tNum s y).2.e ≠ 0 ∧ (tNum s y).1 = 0)) := by
  by_cases hc : s.e = 0 ∧ (y < 1 ∨ 8 < y)
  · have : tNum s y = (0, { s with e := 1 }) := by rw [tNum, if_pos hc]
    rw [this]; exact ⟨.inr (.inl rfl), .inr (.inr ⟨hc.1, by simp, rfl⟩)⟩
  · have e : tNum s y = (beVal (takeF s y.toNat).1, (takeF s y.toNat).2) := by rw [tNum, if_neg hc]
    rw [e]
    obtain ⟨h1, h2⟩ := takeF_facts s y.toNat h
    refine ⟨h1, ?_⟩
    rcases h2 with ⟨a, b⟩ | ⟨a, b⟩ | ⟨a, b, c⟩
    · exact .inl ⟨a, by rw [b]; rfl⟩
    · exact .inr (.inl ⟨a, b⟩)
    · exact .inr (.inr ⟨a, b, by show beVal (takeF s y.toNat).1 = 0; rw [c]; rfl⟩)
theorem tText_facts (s : TSt) (h : OkE s.e) : OkE (tText s).2.e ∧ ((s.e ≠ 0 ∧ tText s = ([], s)) ∨ (s.e = 0 ∧ (tText s).2.e = 0) ∨ (s.e = 0 ∧ (tText s).2.e ≠ 0 ∧ (tText s).1 = [])) := by
  obtain ⟨h1, h2⟩ := tNum_facts s 1 h
  obtain ⟨h3, h4⟩ := takeF_facts (tNum s 1).2 (tNum s 1).1 h1
  refine ⟨h3, ?_⟩
  rcases h2 with ⟨a, b⟩ | ⟨a, b⟩ | ⟨a, b, c⟩
  · refine .inl ⟨a, ?_⟩
    rw [tText, b]; simp [takeF, a]
  · rcases h4 with ⟨a', b'⟩ | ⟨a', b'⟩ | ⟨a', b', c'⟩
    · exact absurd b a'
    · exact .inr (.inl ⟨a, b'⟩)
    · exact .inr (.inr ⟨a, b', c'⟩)
  · rcases h4 with ⟨a', b'⟩ | ⟨a', b'⟩ | ⟨a', b', c'⟩
    · refine .inr (.inr ⟨a, ?_, ?_⟩)
      · rw [tText, b']; exact b
      · rw [tText, b']
    · exact absurd a' b
    · exact absurd a' b

end Go.Proofs.YtfidfbgplfjakaaDoor

/- The walks of the chapter on numbers and texts as bytes. -/
namespace Go.Proofs.YtfidfbgplfjakaaDoor
open Go.RowKit

theorem info_u8 : (Tryd.prog.info? 5).map (fun i => (i.zero, i.size, i.bytes)) = some (some (.int .u8 0), 1, 1) := by kernel_rfl

set_option maxRecDepth 100000 in
set_option maxHeartbeats 1000000 in
theorem num_bad (x size : Int) (w : World) (h : size < 1 ∨ 8 < size) :
    Calls Tryd.prog 30 #[.int .u64 x, .int .i64 size] w fun e w' => e = .returned (.slice none 0 0) ∧ w = w' := by
  rcases h with h | h
  · go_enter Tryd.func30, Tryd.ntmps30
    go_wp2
    go_ret
    exact ⟨rfl, rfl⟩
  · have h' : ¬ size < 1 := by omega
    go_enter Tryd.func30, Tryd.ntmps30
    go_wp2
    go_ret
    exact ⟨rfl, rfl⟩

set_option maxRecDepth 100000 in
set_option maxHeartbeats 1000000 in
theorem num_ok (x : Nat) (n : Nat) (w : World) (_hx : x < 18446744073709551616) (h1 : 1 ≤ n) (h8 : n ≤ 8) :
    Calls Tryd.prog 30 #[.int .u64 x, .int .i64 n] w (OwnBytes 5 w (beBytes x n)) := by
  obtain ⟨i0, hi, hz0, hz1, hz2⟩ := info_parts info_u8
  go_enter Tryd.func30, Tryd.ntmps30
  go_wp2_with (at_make; refine wpList_make_full _ rfl _ _ 31 rfl w.heap.size 5 i0 _ 1 Tryd.underlying31 hi hz0 hz1 .i64 .i64 _ _ n rfl rfl rfl rfl (by rw [hz2]; omega) (by unfold maxLen; omega) (Nat.le_refl _) ?_)
  intro w1 hown hg
  have hB := (Below.refl w.heap.size w).grown hg (Nat.le_refl _) (fun k e => by cases e)
  clear hg
  have hown' : w1.ownsRow w.heap.size 5 1 (.slice (some ⟨w.heap.size, 0, none⟩) n n) n ((toI (List.replicate (n - 0) 0 ++ beBytes x 0)).map (Value.int .u8)) := by
    simp only [made_list] at hown
    simpa [beBytes, toI] using hown
  clear hown
  go_wp2
  go_loopw [17] (fun i wr => ∃ k : Nat, k ≤ n ∧ i = .int .i64 k ∧ wr.ownsRow w.heap.size 5 1 (.slice (some ⟨w.heap.size, 0, none⟩) n n) n ((toI (List.replicate (n - k) 0 ++ beBytes x k)).map (Value.int .u8)) ∧ Below w.heap.size w wr) (fun i _ => n - (intOf i).toNat)
  case atStart => exact ⟨0, Nat.zero_le _, rfl, hown', hB⟩
  case round =>
    obtain ⟨k, hk, rfl, hr, hb⟩ := hrel
    by_cases hlt : k < n
    · have hc := hr.cellAt (n - 1 - k) (by omega)
      have hf := hr.frozenAt (n - 1 - k)
      have hst := hr.stored (n - 1 - k) (.int .u8 ((x : Int) / 2 ^ (8 * k) % 256))
      have hv := congrArg (Value.int .u8) (be_byte x k)
      have hlist : ((toI (List.replicate (n - k) 0 ++ beBytes x k)).map (Value.int .u8)).set (n - 1 - k) (.int .u8 ((x : Int) / 2 ^ (8 * k) % 256)) = (toI (List.replicate (n - (k + 1)) 0 ++ beBytes x (k + 1))).map (Value.int .u8) := by
        rw [hv, ← be_set x n k hlt]
        simp only [toI, List.map_set]
      rw [hlist] at hst
      have hst := hst.1
      clear hlist hv
      rw [List.getElem?_map, toI, List.getElem?_map, be_at x n k hlt] at hc
      have hc' : wr.cell? ⟨w.heap.size, n - 1 - k, none⟩ = some (.int .u8 0) := hc
      clear hc
      have HS := Lib.hid hst
      clear hst
      go_wp2
      go_roundw
      case rel => exact ⟨k + 1, by omega, by go_num, HS.out, hb.setCell (Nat.le_refl _) _⟩
      case measure => simp [intOf]; omega
    · obtain rfl : k = n := by omega
      have hl := Lib.hid (beBytes_length x k)
      have hr' : wr.ownsRow w.heap.size 5 1 (.slice (some ⟨w.heap.size, 0, none⟩) k k) (beBytes x k).length ((toI (beBytes x k)).map (Value.int .u8)) := by
        rw [hl.out]; simpa using hr
      go_wp2
      go_ret
      exact ⟨_, rfl, hr', hb⟩

theorem num_any (x size : Int) (w : World) (hx : 0 ≤ x ∧ x < 18446744073709551616) :
    Calls Tryd.prog 30 #[.int .u64 x, .int .i64 size] w (OwnBytes 5 w (numF x size)) := by
  by_cases h : size < 1 ∨ 8 < size
  · refine (num_bad x size w h).mono ?_
    rintro e w' ⟨rfl, rfl⟩
    rw [numF, if_pos h]
    exact ⟨_, rfl, ⟨rfl, .inl ⟨rfl, rfl⟩⟩, Below.refl _ _⟩
  · rw [numF, if_neg h]
    obtain ⟨y, rfl⟩ := Int.eq_ofNat_of_zero_le hx.1
    obtain ⟨n, rfl⟩ := Int.eq_ofNat_of_zero_le (show 0 ≤ size by omega)
    exact num_ok y n w (by omega) (by omega) (by omega)

set_option maxRecDepth 100000 in
set_option maxHeartbeats 1000000 in
theorem refNum_bad (x size : Int) (w : World) (h : size < 1 ∨ 8 < size) :
    Calls Tryd.prog 33 #[.int .u64 x, .int .i64 size] w fun e w' => e = .returned (.string (strOf [])) ∧ w = w' := by
  rcases h with h | h
  · go_enter Tryd.func33, Tryd.ntmps33
    go_wp2
    go_ret
    exact ⟨rfl, rfl⟩
  · have h' : ¬ size < 1 := by omega
    go_enter Tryd.func33, Tryd.ntmps33
    go_wp2
    go_ret
    exact ⟨rfl, rfl⟩

set_option maxRecDepth 100000 in
set_option maxHeartbeats 1000000 in
theorem refNum_ok (x : Nat) (n : Nat) (w : World) (hx : x < 18446744073709551616) (h1 : 1 ≤ n) (h8 : n ≤ 8) :
    Calls Tryd.prog 33 #[.int .u64 x, .int .i64 n] w (RetStr w (beBytes x n)) := by
  go_enter Tryd.func33, Tryd.ntmps33
  go_wp2
  go_loopw [0, 5, 6] (fun xx s i wr => ∃ k : Nat, k ≤ n ∧ i = .int .i64 k ∧ xx = .int .u64 ((x / 256 ^ k : Nat) : Int) ∧ s = .string (strOf (beBytes x k)) ∧ Below w.heap.size w wr) (fun _ _ i _ => n - (intOf i).toNat)
  case atStart => exact ⟨0, Nat.zero_le _, rfl, by simp, rfl, Below.refl _ _⟩
  case round =>
    obtain ⟨k, hk, rfl, rfl, rfl, hb⟩ := hrel
    by_cases hlt : k < n
    · have hdiv := Lib.hid (show x / 256 ^ (k + 1) = x / 256 ^ k / 256 by rw [Nat.pow_succ, Nat.div_div_eq_div_mul])
      have hle : x / 256 ^ k ≤ x := Nat.div_le_self _ _
      have hcons := Lib.hid (beBytes_cons x k)
      generalize x / 256 ^ k = y at *
      have hby : ((y : Int) % 256) = ((UInt8.ofNat y).toNat : Int) := by rw [UInt8.toNat_ofNat']; simp
      have hcv := conv_one (W := wr) (t := 5) Tryd.underlying31 Tryd.underlying5 Tryd.underlying9 (UInt8.ofNat y)
      rw [← hby] at hcv
      have HB := Lib.hid hby
      clear hby
      have hap := strOf_append [UInt8.ofNat y] (beBytes x k)
      have hsz : (strOf [UInt8.ofNat y]).size + (strOf (beBytes x k)).size ≤ 9223372036854775807 := by
        rw [strOf_size, strOf_size, beBytes_length]; simp; omega
      go_wp2
      go_roundw
      case rel => exact ⟨k + 1, by omega, by go_num, by rw [hdiv.out]; go_num, by rw [hcons.out], hb.alloc hb.size _⟩
      case measure => simp [intOf]; omega
    · obtain rfl : k = n := by omega
      go_wp2
      go_ret
      exact ⟨rfl, hb⟩

theorem refNum_any (x size : Int) (w : World) (hx : 0 ≤ x ∧ x < 18446744073709551616) :
    Calls Tryd.prog 33 #[.int .u64 x, .int .i64 size] w (RetStr w (numF x size)) := by
  by_cases h : size < 1 ∨ 8 < size
  · refine (refNum_bad x size w h).mono ?_
    rintro e w' ⟨rfl, rfl⟩
    rw [numF, if_pos h]
    exact ⟨rfl, Below.refl _ _⟩
  · rw [numF, if_neg h]
    obtain ⟨y, rfl⟩ := Int.eq_ofNat_of_zero_le hx.1
    obtain ⟨n, rfl⟩ := Int.eq_ofNat_of_zero_le (show 0 ≤ size by omega)
    exact refNum_ok y n w (by omega) (by omega) (by omega)

theorem textF_eq (l : List UInt8) : textF l = [UInt8.ofNat (l.take 255).length] ++ l.take 255 := rfl

theorem numF_one (n : Nat) (_hn : n ≤ 255) : numF (n : Int) 1 = [UInt8.ofNat n] := by
  rw [numF, if_neg (by omega)]
  simp [beBytes]

end Go.Proofs.YtfidfbgplfjakaaDoor

/- Sums of bytes, bit by bit; plain laws, no program in sight. -/
namespace Go.Proofs.YtfidfbgplfjakaaDoor

/-- One bit. -/
def stepB (x : Nat) : Nat := if x % 2 = 1 then (x / 2) ^^^ 3988292384 else x / 2
def steps : Nat → Nat → Nat
  | 0, x => x
  | n + 1, x => steps n (stepB x)
theorem steps_add (m n x : Nat) : steps (m + n) x = steps n (steps m x) := by
  induction m generalizing x with
  | zero => simp [steps]
  | succ m ih => rw [show m + 1 + n = (m + n) + 1 by omega]; simp only [steps]; exact ih _
theorem steps_succ (n x : Nat) : steps (n + 1) x = stepB (steps n x) := by
  rw [steps_add n 1]; rfl
/-- One byte. -/
def stepC (x : Nat) (b : UInt8) : Nat := steps 8 (x ^^^ b.toNat)
/-- The inner state behind bytes. -/
def crcX (x : Nat) (l : List UInt8) : Nat := l.foldl stepC x
def crcOn (sum : Nat) (l : List UInt8) : Nat := 4294967295 - crcX (4294967295 - sum) l
def crcOf (l : List UInt8) : Nat := crcOn 0 l

theorem xor_lt {a b : Nat} (ha : a < 4294967296) (hb : b < 4294967296) : a ^^^ b < 4294967296 := Nat.xor_lt_two_pow (n := 32) ha hb
theorem stepB_lt {x : Nat} (h : x < 4294967296) : stepB x < 4294967296 := by
  unfold stepB; split
  · exact xor_lt (by omega) (by omega)
  · omega
theorem steps_lt (n : Nat) {x : Nat} (h : x < 4294967296) : steps n x < 4294967296 := by
  induction n generalizing x with
  | zero => exact h
  | succ n ih => exact ih (stepB_lt h)
theorem stepC_lt {x : Nat} (h : x < 4294967296) (b : UInt8) : stepC x b < 4294967296 := steps_lt 8 (xor_lt h (by have := b.toNat_lt; omega))
theorem crcX_lt (l : List UInt8) {x : Nat} (h : x < 4294967296) : crcX x l < 4294967296 := by
  induction l generalizing x with
  | nil => exact h
  | cons b l ih => exact ih (stepC_lt h b)
theorem crcOn_lt (sum : Nat) (l : List UInt8) : crcOn sum l < 4294967296 := by unfold crcOn; omega
theorem crcX_snoc (x : Nat) (l : List UInt8) (b : UInt8) : crcX x (l ++ [b]) = stepC (crcX x l) b := by simp [crcX]

/-! a step can be told from what it leaves -/
theorem testBit_poly (x : Nat) (h : x < 2147483648) : (x ^^^ 3988292384).testBit 31 = true := by
  rw [Nat.testBit_xor, Nat.testBit_lt_two_pow (show x < 2 ^ 31 from h)]
  decide
theorem stepB_inj {x y : Nat} (hx : x < 4294967296) (hy : y < 4294967296) (h : stepB x = stepB y) : x = y := by
  have bit : ∀ z, z < 4294967296 → (stepB z).testBit 31 = decide (z % 2 = 1) := by
    intro z hz
    unfold stepB; split
    · rename_i h1; rw [testBit_poly _ (by omega)]; simp [h1]
    · rename_i h1; rw [Nat.testBit_lt_two_pow (show z / 2 < 2 ^ 31 by omega)]; simp [h1]
  have hb := bit x hx
  rw [h, bit y hy] at hb
  have hp : (x % 2 = 1 ↔ y % 2 = 1) := by
    constructor
    · intro e; by_cases e' : y % 2 = 1
      · exact e'
      · simp [e, e'] at hb
    · intro e; by_cases e' : x % 2 = 1
      · exact e'
      · simp [e, e'] at hb
  unfold stepB at h
  by_cases e : x % 2 = 1
  · rw [if_pos e, if_pos (hp.1 e)] at h
    have h2 : x / 2 = y / 2 := by
      have := congrArg (· ^^^ 3988292384) h
      simpa [Nat.xor_assoc] using this
    have := hp.1 e
    omega
  · rw [if_neg e, if_neg (fun e' => e (hp.2 e'))] at h
    have : ¬ y % 2 = 1 := fun e' => e (hp.2 e')
    omega
theorem steps_inj (n : Nat) {x y : Nat} (hx : x < 4294967296) (hy : y < 4294967296) (h : steps n x = steps n y) : x = y := by
  induction n generalizing x y with
  | zero => exact h
  | succ n ih => exact stepB_inj hx hy (ih (stepB_lt hx) (stepB_lt hy) h)
theorem xor_cancel {a b c : Nat} (h : a ^^^ c = b ^^^ c) : a = b := by
  have := congrArg (· ^^^ c) h
  simpa [Nat.xor_assoc] using this
theorem stepC_inj {x y : Nat} {b : UInt8} (hx : x < 4294967296) (hy : y < 4294967296) (h : stepC x b = stepC y b) : x = y :=
  xor_cancel (steps_inj 8 (xor_lt hx (by have := b.toNat_lt; omega)) (xor_lt hy (by have := b.toNat_lt; omega)) h)
theorem stepC_byte {x : Nat} {b c : UInt8} (hx : x < 4294967296) (h : stepC x b = stepC x c) : b = c := by
  have h1 := steps_inj 8 (xor_lt hx (by have := b.toNat_lt; omega)) (xor_lt hx (by have := c.toNat_lt; omega)) h
  rw [Nat.xor_comm x, Nat.xor_comm x] at h1
  exact UInt8.toNat_inj.1 (xor_cancel h1)
theorem crcX_inj (l : List UInt8) {x y : Nat} (hx : x < 4294967296) (hy : y < 4294967296) (h : crcX x l = crcX y l) : x = y := by
  induction l generalizing x y with
  | nil => exact h
  | cons b l ih => exact stepC_inj hx hy (ih (stepC_lt hx b) (stepC_lt hy b) h)
/-- A byte that is another one is told by the sum. -/
theorem crcOf_turned (a r : List UInt8) {b c : UInt8} (h : crcOf (a ++ b :: r) = crcOf (a ++ c :: r)) : b = c := by
  have hl := crcX_lt a (x := 4294967295 - 0) (by omega)
  have e : ∀ d : UInt8, crcX (4294967295 - 0) (a ++ d :: r) = crcX (stepC (crcX (4294967295 - 0) a) d) r := by intro d; simp [crcX]
  have h1 := crcX_lt r (stepC_lt hl b)
  have h2 := crcX_lt r (stepC_lt hl c)
  unfold crcOf crcOn at h
  rw [e b, e c] at h
  exact stepC_byte hl (crcX_inj r (stepC_lt hl b) (stepC_lt hl c) (by omega))

/-! half a byte by a table -/
def half : List Nat := [0, 498536548, 997073096, 651767980, 1994146192, 1802195444, 1303535960, 1342533948, 3988292384, 4027552580, 3604390888, 3412177804, 2607071920, 2262029012, 2685067896, 3183342108]
theorem half_eq (k : Nat) (h : k < 16) : half[k]? = some (steps 4 k) := by
  have : ∀ k : Fin 16, half[k.val]? = some (steps 4 k.val) := by decide
  exact this ⟨k, h⟩
theorem stepB_xor (a b : Nat) (ha : a % 2 = 0) : stepB (a ^^^ b) = a / 2 ^^^ stepB b := by
  have hp : (a ^^^ b) % 2 = b % 2 := by
    have := Nat.xor_mod_two_pow (a := a) (b := b) (n := 1)
    simp only [Nat.pow_one] at this
    rw [this, ha, Nat.zero_xor]
    try omega
  have hd : (a ^^^ b) / 2 = a / 2 ^^^ b / 2 := by
    have := Nat.shiftRight_xor_distrib (a := a) (b := b) (i := 1)
    simpa [Nat.shiftRight_eq_div_pow] using this
  unfold stepB
  rw [hp, hd]
  by_cases hb : b % 2 = 1
  · rw [if_pos hb, if_pos hb, Nat.xor_assoc]
  · rw [if_neg hb, if_neg hb]
theorem steps_xor (n a b : Nat) (ha : a % 2 ^ n = 0) : steps n (a ^^^ b) = a / 2 ^ n ^^^ steps n b := by
  induction n generalizing a b with
  | zero => simp [steps]
  | succ n ih =>
    have h2 : a % 2 = 0 := by
      have : 2 ∣ a := Nat.dvd_trans (by rw [Nat.pow_succ]; exact Nat.dvd_mul_left 2 _) (Nat.dvd_of_mod_eq_zero ha)
      omega
    have h3 : a / 2 % 2 ^ n = 0 := by
      have hd := Nat.dvd_of_mod_eq_zero ha
      rw [Nat.pow_succ] at hd
      obtain ⟨q, rfl⟩ := hd
      rw [Nat.mul_comm (2 ^ n) 2, Nat.mul_assoc, Nat.mul_div_cancel_left _ (by decide), Nat.mul_mod_right]
    simp only [steps]
    rw [stepB_xor a b h2, ih (a / 2) (stepB b) h3, Nat.div_div_eq_div_mul, Nat.pow_succ, Nat.mul_comm 2]
/-- Four bits at once. -/
theorem steps_four (x : Nat) : steps 4 x = x / 16 ^^^ (half[x % 16]?.getD 0) := by
  have e : x = 16 * (x / 16) ^^^ x % 16 := by
    have h1 : 16 * (x / 16) ^^^ x % 16 = 16 * (x / 16) + x % 16 := by
      have hb : x % 16 < 2 ^ 4 := by omega
      apply Nat.eq_of_testBit_eq
      intro j
      have e1 := Nat.testBit_two_pow_mul_add (x / 16) hb j
      have e2 : (2 ^ 4 * (x / 16)).testBit j = (decide (j ≥ 4) && (x / 16).testBit (j - 4)) := Nat.testBit_two_pow_mul ..
      rw [Nat.testBit_xor]
      show ((2 ^ 4 * (x / 16)).testBit j ^^ (x % 16).testBit j) = (2 ^ 4 * (x / 16) + x % 16).testBit j
      rw [e1, e2]
      by_cases hj : j < 4
      · have h4 : ¬ j ≥ 4 := by omega
        rw [if_pos hj]; simp [h4]
      · have h0 : (x % 16).testBit j = false := Nat.testBit_lt_two_pow (Nat.lt_of_lt_of_le hb (Nat.pow_le_pow_right (by decide) (by omega)))
        have h4 : j ≥ 4 := by omega
        rw [if_neg hj, h0]; simp [h4]
    rw [h1]; omega
  have h2 := steps_xor 4 (16 * (x / 16)) (x % 16) (by omega)
  rw [← e] at h2
  rw [h2, half_eq (x % 16) (by omega)]
  simp
theorem not32 (s : Nat) (h : s < 4294967296) : 4294967295 ^^^ s = 4294967295 - s := by
  apply Nat.eq_of_testBit_eq
  intro i
  have e := Nat.testBit_two_pow_sub_succ (n := 32) h i
  have e1 : 2 ^ 32 - (s + 1) = 4294967295 - s := by omega
  have e2 := Nat.testBit_two_pow_sub_one 32 i
  rw [e1] at e
  rw [Nat.testBit_xor, e]
  show ((2 ^ 32 - 1).testBit i ^^ s.testBit i) = _
  rw [e2]
  by_cases hi : i < 32
  · simp [hi]
  · have : s.testBit i = false := Nat.testBit_lt_two_pow (Nat.lt_of_lt_of_le h (show 2 ^ 32 ≤ 2 ^ i from Nat.pow_le_pow_right (by decide) (by omega)))
    simp [hi, this]

end Go.Proofs.YtfidfbgplfjakaaDoor
