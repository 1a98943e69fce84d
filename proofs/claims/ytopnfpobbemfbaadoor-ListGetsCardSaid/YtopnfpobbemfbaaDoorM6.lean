/- Texts that other texts of this claim lean on, one behind the other. -/
import Derived.Test.YtopnfpobbemfbaaDoorM5
/- The walk of Read. -/
namespace Go.Proofs.YtopnfpobbemfbaaDoor
open Go.RowKit

/-- A row of bytes of the call's own, and an error. -/
def ReadPost (w : World) (l : List UInt8) (er : Int) (e : Ending) (w' : World) : Prop :=
  ∃ v, e = .returned (.tuple #[v, .int .i64 er]) ∧ w'.ownsRow w.heap.size 5 1 v l.length ((toI l).map (Value.int .u8)) ∧ Below w.heap.size w w'
theorem zero_page' (w : World) : (zeroValue 80).run Tryd.prog w = .ok (.agg (pcells zpage.1).toArray) w := zero_page w
theorem info_byte : (Tryd.prog.info? 5).map (fun i => (i.zero, i.size, i.bytes)) = some (some (.int .u8 0), 1, 1) := by kernel_rfl
theorem lastW_take (p : Nat) (b : P128) (l : List (Nat × P128)) (k : Nat) (y : Nat × P128) (h : l[k]? = some y) : lastW p b (l.take (k + 1)) = if y.1 = p then y.2 else lastW p b (l.take k) := by
  have hk := (List.getElem?_eq_some_iff.1 h)
  rw [List.take_succ_eq_append_getElem hk.1, hk.2, lastW_snoc]
theorem row_of_range {w : World} {g : Nat} {l : List UInt8} (h : w.rangeAt g 0 (pcells l)) (hg : g < w.heap.size) (hl : l.length = 128) : Row .u8 w (some ⟨g, 0, none⟩) 128 128 (toI l) := by
  refine ⟨by rw [toI_length, hl], Nat.le_refl _, by unfold maxLen; omega, (fun h => by cases h), .inr ⟨g, 0, rfl, hg, fun i hi => ?_⟩⟩
  have hil : i < l.length := by omega
  have := h i (.int .u8 (l[i].toNat : Int)) (by simp [pcells, toI, List.getElem?_eq_getElem hil])
  rw [this]; simp [toI, List.getElem?_eq_getElem hil]
theorem RegIn.map {w : World} {fp : List Nat} {b M : Nat} {x : Rg} (h : RegIn w fp b M x) : ∃ mb n, w.cell? ⟨b, 1, none⟩ = some (.map (some mb)) ∧ PgMap w mb n x.pages := by
  obtain ⟨mb, n, v, h1, h2, _⟩ := h
  exact ⟨mb, n, by simp [World.cell?, h1], h2⟩
set_option maxRecDepth 100000 in
set_option maxHeartbeats 4000000 in
theorem dread_in {w : World} {F : List Nat} {db M : Nat} {bs : List (Nat × List Nat)} {d : List Rg} (h : DskIn w F db M bs d) (i pn : Nat) (x : Rg) (hx : d[i]? = some x) (hdn : x.down = false) (hp : pn < x.size) :
    Calls Tryd.prog 48 #[.pointer (some ⟨db, 0, none⟩), .int .i64 (i : Int), .int .i64 (pn : Int)] w (ReadPost w (seen x pn).1 0) := by
  have hi : i < d.length := (List.getElem?_eq_some_iff.1 hx).1
  obtain ⟨q, hq⟩ : ∃ q, bs[i]? = some q := ⟨_, List.getElem?_eq_getElem (by rw [h.len]; exact hi)⟩
  have R := h.reg i q x hq hx
  have U := paged_any h (i : Int) (pn : Int)
  have hsz : x.size ≤ 1000 := by obtain ⟨_, _, _, _, _, _, _, _, _, _, _, h9, _⟩ := R; exact h9
  have hu : pagedE d (i : Int) (pn : Int) = 0 := by
    have h1 : upE d (i : Int) = 0 := by
      unfold upE; rw [if_pos (by omega), Int.toNat_natCast, hx]; simp [hdn]
    unfold pagedE; rw [if_pos h1, atR_of hx, if_pos (by omega)]
  rw [hu] at U
  have U : Calls Tryd.prog 31 #[.pointer (some ⟨db, 0, none⟩), .int .i64 (i : Int), .int .i64 (pn : Int)] w fun e w' => e = .returned (.tuple #[.pointer (some ⟨q.1, 0, none⟩), .int .i64 0]) ∧ w = w' := U.mono fun e w' ⟨h1, h2⟩ => by
    refine ⟨?_, h2⟩
    rcases h1 with ⟨_, q', hq', he⟩ | ⟨h0, _⟩
    · rw [Int.toNat_natCast, hq] at hq'; cases hq'; exact he
    · exact absurd rfl h0
  obtain ⟨a, cap, c2, hc1, hc2, _, hrow⟩ := R.loose
  obtain ⟨mb, n, c1, hm⟩ := R.map
  have LK : (Instr.lookup 69 (.map (some mb)) (.int .i64 (pn : Int)) false).run Tryd.prog w = .ok (.agg (pcells (x.pages pn).1).toArray) w := hm.lookup pn (by omega)
  obtain ⟨i0, hi0, hz0, hz1, hz2⟩ := info_parts info_byte
  obtain ⟨w1, hfill, hb1, hs1, hra, hfz⟩ := fresh_fill (P := Tryd.prog) w 80 (pcells zpage.1) (pcells (x.pages pn).1) (by rw [pcells_length, pcells_length, zpage.2, (x.pages pn).2]) (pcells_one _)
  have hlt2 := World.block_lt_of_cell? w _ c2
  have c2' : w1.cell? ⟨q.1, 2, none⟩ = some (.slice a x.loose.length cap) := (hb1.cell (p := ⟨q.1, 2, none⟩) hlt2).trans c2
  have ZP := zero_page'
  have SP : (pcells (x.pages pn).1).length = 128 := by rw [pcells_length, (x.pages pn).2]
  have HR := Lib.hid hrow
  have HX : Hid (x.loose.length = x.loose.length) := Lib.hid rfl
  clear h hx hq R hi hu hdn hm hrow hz0 hz1 hz2 hi0
  have hi0 := Lib.hid (info_parts info_byte)
  have HRA := Lib.hid hra
  have HFZ := Lib.hid hfz
  clear hra hfz
  go_enter Tryd.func48, Tryd.ntmps48
  go_wp2_with fail
  refine U.mono ?_
  rintro e w' ⟨rfl, rfl⟩
  go_wp2_with fail
  clear ZP SP hfill LK
  go_loopw [34] (fun s wr => ∃ (k : Nat), k ≤ x.loose.length ∧ s = .int .i64 k ∧ wr.rangeAt w.heap.size 0 (pcells (lastW pn (x.pages pn) (x.loose.take k)).1) ∧ (∀ j, wr.frozen? ⟨w.heap.size, j, none⟩ = false) ∧ Below w.heap.size w wr ∧ w.heap.size < wr.heap.size) (fun s _ => x.loose.length - (intOf s).toNat)
  case atStart => exact ⟨0, Nat.zero_le _, rfl, HRA.out, HFZ.out, hb1, by omega⟩
  case round =>
    obtain ⟨k, hk, rfl, hra, hfz, hbw, hgt⟩ := hrel
    by_cases hlt : k < x.loose.length
    · obtain ⟨y, hy⟩ : ∃ y, x.loose[k]? = some y := ⟨_, List.getElem?_eq_getElem hlt⟩
      obtain ⟨g, rfl, hgf, hr⟩ := HR.out k y hy
      have hr2 : wr.rangeAt g (k * 129) (wcells y) := rangeAt_only (S := []) hr (Only.of_below hbw) (by simp)
      have HL := load_write hr2
      obtain ⟨w2, hfill, hb2, hs2, hra2, hfz2⟩ := fresh_fill (P := Tryd.prog) wr 82 (wcells (0, zpage)) (wcells y) (by rw [wcells_length, wcells_length]) (wcells_one y)
      have hc0 := wcells_at hra2
      have hra3 := rangeAt_below hra hb2 hgt
      have hfz3 : ∀ j, w2.frozen? ⟨w.heap.size, j, none⟩ = false := fun j => (hb2.frozen (p := ⟨w.heap.size, j, none⟩) hgt).trans (hfz j)
      have hwr := hbw.size
      have ZW := zero_write
      have SZ := wcells_length y
      have HLW := lastW_take pn (x.pages pn) x.loose k y hy
      by_cases hyp : y.1 = pn
      · rw [if_pos hyp] at HLW
        have HLP := load_page (wcells_page hra2)
        obtain ⟨w3, hfill3, hb3, hs3, hra4, hfz4⟩ := fill_again (P := Tryd.prog) (w := w2) 80 (pcells (lastW pn (x.pages pn) (x.loose.take k)).1) (pcells y.2.1) hra3 hfz3 (by rw [pcells_length, pcells_length, (lastW pn (x.pages pn) (x.loose.take k)).2, y.2.2]) (pcells_one _) (Nat.le_refl w.heap.size)
        have SP : (pcells y.2.1).length = 128 := by rw [pcells_length, y.2.2]
        have END : ∃ k' : Nat, k' ≤ x.loose.length ∧ Value.int .i64 ((k + 1 : Nat) : Int) = .int .i64 k' ∧ w3.rangeAt w.heap.size 0 (pcells (lastW pn (x.pages pn) (x.loose.take k')).1) ∧ (∀ j, w3.frozen? ⟨w.heap.size, j, none⟩ = false) ∧ Below w.heap.size w w3 ∧ w.heap.size < w3.heap.size := ⟨k + 1, hlt, rfl, by rw [HLW]; exact hra4, hfz4, (hbw.trans (hb2.mono hwr)).trans hb3, by have := hb3.size; omega⟩
        have END := Lib.hid END
        have q0 : ((y.1 : Int) == (pn : Int)) = true := by simp [hyp]
        have q1 : (y.1 == pn) = true := by simp [hyp]
        clear hra hfz hra2 hfz2 hra3 hfz3 hra4 hfz4 hb2 hb3 hbw hs2 hs3 hwr hr hr2 HLW hyp hy hgt
        go_wp2_with fail
        refine wp_load_run 82 _ rfl rfl HL ?_
        go_at_K
        go_wp2_with fail
        refine wp_load_run 80 _ rfl rfl HLP ?_
        go_at_K
        unfold pv
        go_wp2_with fail
        go_roundw
        case rel => exact END.out
        case measure => simp [intOf]; omega
      · rw [if_neg hyp] at HLW
        have END : ∃ k' : Nat, k' ≤ x.loose.length ∧ Value.int .i64 ((k + 1 : Nat) : Int) = .int .i64 k' ∧ w2.rangeAt w.heap.size 0 (pcells (lastW pn (x.pages pn) (x.loose.take k')).1) ∧ (∀ j, w2.frozen? ⟨w.heap.size, j, none⟩ = false) ∧ Below w.heap.size w w2 ∧ w.heap.size < w2.heap.size := ⟨k + 1, hlt, rfl, by rw [HLW]; exact hra3, hfz3, hbw.trans (hb2.mono hwr), by omega⟩
        have END := Lib.hid END
        have q0 : ((y.1 : Int) == (pn : Int)) = false := by simp; omega
        have q1 : (y.1 == pn) = false := by simp [hyp]
        clear hra hfz hra2 hfz2 hra3 hfz3 hb2 hbw hs2 hwr hr hr2 HLW hyp hy hgt
        go_wp2_with fail
        refine wp_load_run 82 _ rfl rfl HL ?_
        go_at_K
        go_wp2_with fail
        go_roundw
        case rel => exact END.out
        case measure => simp [intOf]; omega
    · obtain rfl : k = x.loose.length := by omega
      rw [List.take_length] at hra
      have hsn : lastW pn (x.pages pn) x.loose = seen x pn := rfl
      rw [hsn] at hra
      have hl := (seen x pn).2
      obtain ⟨i1, hi1, hz0, hz1, hz2⟩ := hi0.out
      have hRow := (row_of_range hra hgt hl).below (Nat.le_refl _) ((Below.refl wr.heap.size wr).alloc (Nat.le_refl _) (.cells #[] 5))
      obtain ⟨v', w3, hr9, ho9, hg9, _⟩ := run_append_row (P := Tryd.prog) (w := wr.alloc (.cells #[] 5)) w.heap.size 32 5 i1 _ 1 Tryd.underlying32 hi1 hz0 hz1 hz2 rfl (own_made .u8 wr 5 [] rfl hbw.size (by unfold maxLen; simp)) hRow (by unfold maxLen; simp) (by simp) (by have := hbw.size; simp; omega)
      have hb3 : Below w.heap.size w w3 := (hbw.alloc hbw.size _).grown hg9 (by have := hbw.size; simp; omega) (fun k hk => by cases hk; exact hbw.size)
      have END : ReadPost w (seen x pn).1 0 (.returned (.tuple #[v', .int .i64 0])) w3 := ⟨v', rfl, by rw [hl]; simpa using ho9, hb3⟩
      have END := Lib.hid END
      clear hra hfz hRow ho9 hg9 hb3 hbw hz0 hz1 hz2 hi1 hsn hl hgt
      go_wp2_with (at_builtin; refine wpList_append_run rfl _ _ _ _ rfl rfl rfl hr9 ?_)
      go_ret2
      exact END.out
set_option maxRecDepth 100000 in
set_option maxHeartbeats 1000000 in
/-- A page that is there, and one that isn't. -/
theorem dread_any {w : World} {F : List Nat} {db M : Nat} {bs : List (Nat × List Nat)} {d : List Rg} (h : DskIn w F db M bs d) (r p : Int) :
    Calls Tryd.prog 48 #[.pointer (some ⟨db, 0, none⟩), .int .i64 r, .int .i64 p] w (ReadPost w (readB d r p) (pagedE d r p)) := by
  by_cases hu : pagedE d r p = 0
  · obtain ⟨i, pn, x, rfl, rfl, hx, hdn, hpn⟩ := pagedE_zero hu
    have e1 : readB d i pn = (seen x pn).1 := by rw [readB, if_pos hu, atR_of hx, Int.toNat_natCast]
    rw [hu, e1]
    exact dread_in h i pn x hx hdn hpn
  · have U := paged_any h r p
    have e1 : readB d r p = [] := by rw [readB, if_neg hu]
    rw [e1]
    have q0 : (pagedE d r p == 0) = false := by simpa using hu
    generalize pagedE d r p = er at *
    have U : Calls Tryd.prog 31 #[.pointer (some ⟨db, 0, none⟩), .int .i64 r, .int .i64 p] w fun e w' => e = .returned (.tuple #[.pointer none, .int .i64 er]) ∧ w = w' := U.mono fun e w' ⟨h1, h2⟩ => by
      refine ⟨?_, h2⟩
      rcases h1 with ⟨h0, _⟩ | ⟨_, he⟩
      · exact absurd h0 hu
      · exact he
    have END := Lib.hid (show ReadPost w [] er (.returned (.tuple #[.slice none 0 0, .int .i64 er])) w from ⟨_, rfl, World.ownsRow_nil _ _ _ _, Below.refl _ _⟩)
    clear hu e1 h
    go_enter Tryd.func48, Tryd.ntmps48
    go_wp2_with fail
    refine U.mono ?_
    rintro e w0 ⟨rfl, rfl⟩
    go_wp2_with fail
    go_ret2
    exact END.out
end Go.Proofs.YtopnfpobbemfbaaDoor

/- The walk of New (printed by gen_dskNew.py). -/
namespace Go.Proofs.YtopnfpobbemfbaaDoor
open Go.RowKit

def newOk (l : List Int) : Bool := decide (1 ≤ l.length) && decide (l.length ≤ 64) && l.all fun n => decide (1 ≤ n) && decide (n ≤ 1000)
def newE (l : List Int) : Int := if newOk l then 0 else 1
def newD (l : List Int) : List Rg := l.map fun n => Rg.new n.toNat
theorem info_ptr : (Tryd.prog.info? 68).map (fun i => (i.zero, i.size, i.bytes)) = some (some (.pointer none), 1, 8) := by kernel_rfl
theorem heap_alloc_lt (w : World) (o : Obj) {k : Nat} (h : k < w.heap.size) : (w.alloc o).heap[k]? = w.heap[k]? := ((Below.refl w.heap.size w).alloc (Nat.le_refl _) o).block k h
/-- A fresh region is put behind the others. -/
theorem DskIn.push {w : World} {F : List Nat} {db : Nat} {bs : List (Nat × List Nat)} {d : List Rg} (h : DskIn w F db 0 bs d) (n : Nat) (hn : n ≤ 1000) (hd : d.length ≤ 1000) (B : Nat) (hB : ∀ k ∈ F, B ≤ k) (hBw : B ≤ w.heap.size) :
    ∃ a m c v' w4, w.cell? ⟨db, 0, none⟩ = some (.slice a m c) ∧ m = d.length ∧
      (Builtin.append_ #[65, 65] 65 #[.slice a m c, .slice (some ⟨w.heap.size + 1 + 1, 0, none⟩) 1 1]).run Tryd.prog (((w.alloc (.map #[] 0)).alloc (.cells #[.int .i64 (n : Int), .map (some w.heap.size), .slice none 0 0, .int .i64 (-1), .bool false] 72)).alloc (.cells #[.pointer (some ⟨w.heap.size + 1, 0, none⟩)] 68)) = .ok v' w4 ∧
      w4.cell? ⟨db, 0, none⟩ = some (.slice a m c) ∧ w4.frozen? ⟨db, 0, none⟩ = false ∧ (∃ a' m' c', v' = .slice a' m' c') ∧ Below B w (w4.setCell ⟨db, 0, none⟩ v') ∧
      ∃ F' bs', DskIn (w4.setCell ⟨db, 0, none⟩ v') F' db 0 bs' (d ++ [Rg.new n]) ∧ ∀ k ∈ F', B ≤ k := by
  obtain ⟨pv, h1, h2, h3⟩ := h.cells
  obtain ⟨a, c, rfl, hc1, hc2, _⟩ := own_slice h2
  have hdb := h.lt db h.mem
  generalize hW2 : (w.alloc (.map #[] 0)).alloc (.cells #[.int .i64 (n : Int), .map (some w.heap.size), .slice none 0 0, .int .i64 (-1), .bool false] 72) = W2
  have hs2 : W2.heap.size = w.heap.size + 2 := by rw [← hW2]; simp
  have hb2 : Below w.heap.size w W2 := by rw [← hW2]; exact ((Below.refl _ _).alloc (Nat.le_refl _) _).alloc (by simp) _
  have hmb : W2.heap[w.heap.size]? = some (.map #[] 0) := by
    rw [← hW2, heap_alloc_lt _ _ (by simp)]; exact World.alloc_heap_new w _
  have hrb : W2.heap[w.heap.size + 1]? = some (.cells #[.int .i64 (n : Int), .map (some w.heap.size), .slice none 0 0, .int .i64 (-1), .bool false] 72 (0, 0)) := by
    rw [← hW2]
    have := World.alloc_heap_new (w.alloc (.map #[] 0)) (.cells #[.int .i64 (n : Int), .map (some w.heap.size), .slice none 0 0, .int .i64 (-1), .bool false] 72)
    rwa [show (w.alloc (.map #[] 0)).heap.size = w.heap.size + 1 by simp] at this
  obtain ⟨i0, hi0, hz0, hz1, hz2⟩ := info_parts info_ptr
  obtain ⟨v', w4, hr, ho, hg, hv⟩ := run_append_new (P := Tryd.prog) (w := W2) 0 65 68 i0 _ 1 8 Tryd.underlying65 hi0 hz0 hz1 hz2 rfl (by decide) (own_step h2 hb2) #[.pointer (some ⟨w.heap.size + 1, 0, none⟩)] rfl (by intro u hu; simp at hu; subst hu; rfl) (by unfold maxLen; omega) (by omega) (Nat.zero_le _)
  have hown_ne : ∀ k, Value.ownBlock (.slice a d.length c) = some k → k ≠ db ∧ k < w.heap.size := by
    intro k hk
    refine ⟨fun e => ?_, h.lt k (h3 k hk).1⟩
    rcases h2.2 with ⟨e2, _⟩ | ⟨g, cap, cur, e2, _, hg, _⟩
    · rw [e2] at hk; cases hk
    · rw [e2] at hk; cases hk
      have e' : g = db := e
      rw [e', h1] at hg
      simp only [Option.some.injEq, Obj.cells.injEq] at hg
      exact absurd hg.2.1 (by decide)
  have kb : ∀ k, k < w.heap.size → some k ≠ Value.ownBlock (.slice a d.length c) → w4.heap[k]? = w.heap[k]? := fun k hk hne => (hg.block k (by omega) hne).trans (hb2.block k hk)
  have hdb4 : w4.heap[db]? = some (.cells #[.slice a d.length c] 67 (0, 0)) := (kb db hdb (fun e => (hown_ne db e.symm).1 rfl)).trans h1
  have k4 : ∀ k, w.heap.size ≤ k → k < W2.heap.size → w4.heap[k]? = W2.heap[k]? := fun k hk hk2 => hg.block k hk2 (fun e => by have := (hown_ne k e.symm).2; omega)
  have hs4 := hg.size
  have hvlt := own_lt ho
  have hvk : ∀ k, v'.ownBlock = some k → (k ∈ F ∧ (∀ q ∈ bs, k ∉ q.2) ∧ k < w.heap.size ∧ k ≠ db) ∨ w.heap.size + 2 < k := by
    intro k hk
    rcases hv with hv | hv
    · rw [hv] at hk; exact .inl ⟨(h3 k hk).1, (h3 k hk).2, (hown_ne k hk).2, (hown_ne k hk).1⟩
    · rw [hv, hs2] at hk; cases hk; exact .inr (by omega)
  obtain ⟨a', c', rfl, _⟩ := own_slice ho
  have hS : Only [db] w4 (w4.setCell ⟨db, 0, none⟩ (.slice a' (d.length + 1) c')) := (Only.refl _ _).set _ _ (by simp)
  have hBF : ∀ k ∈ F ++ ([w.heap.size + 1, w.heap.size] ++ (Value.ownBlock (.slice a' (d.length + 1) c')).toList), B ≤ k := by
    intro k hk
    simp only [List.mem_append, List.mem_cons, List.not_mem_nil, or_false] at hk
    rcases hk with hk | (rfl | rfl) | hk
    · exact hB k hk
    · omega
    · omega
    · have hk' : Value.ownBlock (.slice a' (d.length + 1) c') = some k := by simpa using hk
      rcases hvk k hk' with h5 | h5
      · exact hB k h5.1
      · omega
  have hO : Only F w w4 := ⟨hg.os.trans hb2.os, hg.tape.trans hb2.tape, hg.output.trans hb2.output, Nat.le_trans hb2.size hg.size, fun k hk hkF => kb k hk (fun e => hkF (h3 k e.symm).1)⟩
  have hDSK : DskIn (w4.setCell ⟨db, 0, none⟩ (.slice a' (d.length + 1) c')) (F ++ ([w.heap.size + 1, w.heap.size] ++ (Value.ownBlock (.slice a' (d.length + 1) c')).toList)) db 0 (bs ++ [(w.heap.size + 1, [w.heap.size + 1, w.heap.size])]) (d ++ [Rg.new n]) := by
    refine ⟨⟨.slice a' (d.length + 1) c', ?_, ?_, ?_⟩, List.mem_append_left _ h.mem, ?_, by simp [h.len], ?_, ?_, ?_, ?_⟩
    · rw [heap_setCell_at 0 _ hdb4]; rfl
    · have := own_only ho hS (fun k hk => by
        rcases hvk k hk with h5 | h5
        · simpa using h5.2.2.2
        · simp; omega)
      simpa using this
    · intro k hk
      refine ⟨by simp [hk], fun q hq => ?_⟩
      rcases List.mem_append.1 hq with hq | hq
      · rcases hvk k hk with h5 | h5
        · exact h5.2.1 q hq
        · intro hk2; have := h.lt k (h.sub q hq k hk2); omega
      · simp at hq; subst hq
        simp
        rcases hvk k hk with h5 | h5 <;> omega
    · intro q hq
      rcases List.mem_append.1 hq with hq | hq
      · exact h.off q hq
      · simp at hq; subst hq; simp; omega
    · intro i q x hq hx
      have hbd := h.len
      by_cases hi : i < d.length
      · rw [List.getElem?_append_left (by omega)] at hq
        rw [List.getElem?_append_left hi] at hx
        have hqm := List.mem_of_getElem? hq
        have hO4 : Only (Value.ownBlock (.slice a d.length c)).toList w w4 := ⟨hO.1, hO.2.1, hO.2.2.1, hO.size, fun k hk hkn => kb k hk (fun e => hkn (by rw [← e]; simp))⟩
        refine ((h.reg i q x hq hx).only hO4 (fun k hk hk2 => ?_)).only hS (fun k hk => ?_)
        · exact (h3 k (by simpa using hk2)).2 q hqm hk
        · simp; exact fun e => h.off q hqm (e ▸ hk)
      · have hil : i = d.length := by
          have := (List.getElem?_eq_some_iff.1 hx).1; simp at this; omega
        subst hil
        rw [List.getElem?_append_right (by omega), hbd, Nat.sub_self] at hq
        rw [List.getElem?_append_right (Nat.le_refl _), Nat.sub_self] at hx
        simp at hq hx
        subst hq hx
        have e1 : (w4.setCell ⟨db, 0, none⟩ (.slice a' (d.length + 1) c')).heap[w.heap.size + 1]? = _ := (hS.block (k := w.heap.size + 1) (by omega) (by simp; omega)).trans ((k4 _ (by omega) (by omega)).trans hrb)
        have e2 : (w4.setCell ⟨db, 0, none⟩ (.slice a' (d.length + 1) c')).heap[w.heap.size]? = some (.map #[] 0) := (hS.block (k := w.heap.size) (by omega) (by simp; omega)).trans ((k4 _ (by omega) (by omega)).trans hmb)
        refine ⟨w.heap.size, 0, .slice none 0 0, e1, (PgMap.made w).kept (e2.trans (World.alloc_heap_new w _).symm), World.ownsRow_nil _ _ _ _, Nat.le_refl _, by simp, by simp, (fun k hk => by cases hk), fun k hk => ?_, hn, (fun p hp => by simp [Rg.new] at hp), (by simp [Rg.new])⟩
        have := hS.size
        simp at hk
        omega
    · intro i j q r hij hq hr2 k hk hk2
      have hbd := h.len
      have cs : ∀ i q, (bs ++ [(w.heap.size + 1, [w.heap.size + 1, w.heap.size])])[i]? = some q → (bs[i]? = some q ∧ ∀ k ∈ q.2, k < w.heap.size) ∨ (i = bs.length ∧ ∀ k ∈ q.2, w.heap.size ≤ k) := by
        intro i q hq
        by_cases hi : i < bs.length
        · rw [List.getElem?_append_left hi] at hq
          exact .inl ⟨hq, fun k hk => h.lt k (h.sub q (List.mem_of_getElem? hq) k hk)⟩
        · have hil : i = bs.length := by
            have := (List.getElem?_eq_some_iff.1 hq).1; simp at this; omega
          subst hil
          rw [List.getElem?_append_right (Nat.le_refl _), Nat.sub_self] at hq
          simp at hq; subst hq
          refine .inr ⟨rfl, fun k hk => ?_⟩
          simp at hk; omega
      rcases cs i q hq with ⟨g1, g2⟩ | ⟨g1, g2⟩
      · rcases cs j r hr2 with ⟨g3, g4⟩ | ⟨g3, g4⟩
        · exact h.apart i j q r hij g1 g3 k hk hk2
        · have := g2 k hk; have := g4 k hk2; omega
      · rcases cs j r hr2 with ⟨g3, g4⟩ | ⟨g3, g4⟩
        · have := g2 k hk; have := g4 k hk2; omega
        · omega
    · intro q hq k hk
      rcases List.mem_append.1 hq with hq | hq
      · exact List.mem_append_left _ (h.sub q hq k hk)
      · simp at hq; subst hq
        refine List.mem_append_right _ (List.mem_append_left _ hk)
    · intro k hk
      have := hS.size
      simp only [List.mem_append, List.mem_cons, List.not_mem_nil, or_false] at hk
      rcases hk with hk | (rfl | rfl) | hk
      · have := h.lt k hk; omega
      · omega
      · omega
      · have hk' : Value.ownBlock (.slice a' (d.length + 1) c') = some k := by simpa using hk
        have := hvlt k hk'
        omega
  refine ⟨a, d.length, c, .slice a' (d.length + 1) c', w4, by simp [World.cell?, h1], rfl, (by rw [hs2] at hr; exact hr), by simp [World.cell?, hdb4], by simp [World.frozen?, hdb4], ⟨_, _, _, rfl⟩, (hO.set _ _ h.mem).below hBw hB, _, _, hDSK, hBF⟩

/-- What stands behind so many sizes. -/
def NewRel (w : World) (l : List Int) (k : Nat) (wr : World) : Prop := ∃ F bs, DskIn wr F w.heap.size 0 bs (newD (l.take k)) ∧ (∀ j ∈ F, w.heap.size ≤ j) ∧ Below w.heap.size w wr ∧ (l.take k).all (fun n => decide (1 ≤ n) && decide (n ≤ 1000)) = true
def NewPost (w : World) (l : List Int) (e : Ending) (w' : World) : Prop :=
  Below w.heap.size w w' ∧ (if newOk l then ∃ F db bs, e = .returned (.tuple #[.pointer (some ⟨db, 0, none⟩), .int .i64 0]) ∧ DskIn w' F db 0 bs (newD l) ∧ ∀ j ∈ F, w.heap.size ≤ j else e = .returned (.tuple #[.pointer none, .int .i64 1]))
theorem newPost_bad {w w' : World} {l : List Int} (h : newOk l = false) (hb : Below w.heap.size w w') : NewPost w l (.returned (.tuple #[.pointer none, .int .i64 1])) w' := ⟨hb, by rw [h]; rfl⟩
theorem DskIn.fresh (w : World) : DskIn (w.alloc (.cells #[.slice none 0 0] 67)) [w.heap.size] w.heap.size 0 [] [] := by
  have hh := World.alloc_heap_new w (.cells #[.slice none 0 0] 67)
  exact ⟨⟨.slice none 0 0, hh, World.ownsRow_nil _ _ _ _, fun k hk => by cases hk⟩, by simp, by simp, rfl, fun i q x hq => by simp at hq, fun i j q r _ hq => by simp at hq, by simp, by simp⟩
set_option maxRecDepth 100000 in
set_option maxHeartbeats 8000000 in
theorem dnew_any {w : World} {a : Option Addr} {len cap : Nat} {l : List Int} (h : Row .i64 w a len cap l) :
    Calls Tryd.prog 16 #[.slice a len cap] w (NewPost w l) := by
  have hl := h.1
  have hm : len ≤ 9223372036854775807 := by have := h.2.1; have := h.2.2.1; unfold maxLen at this; omega
  by_cases h0 : len < 1
  · have d0 : decide (len < 1) = true := by simpa using h0
    have d0' : decide ((len : Int) < 1) = true := by simp; omega
    have HB := Lib.hid (newPost_bad (w := w) (w' := w) (l := l) (by unfold newOk; rw [show decide (1 ≤ l.length) = false from decide_eq_false (by omega)]; rfl) (Below.refl _ _))
    clear h hl
    go_enter Tryd.func16, Tryd.ntmps16
    go_wp2_with fail
    go_ret2
    exact HB.out
  · by_cases h64 : 64 < len
    · have d0 : decide (len < 1) = false := by simpa using h0
      have d0' : decide ((len : Int) < 1) = false := by simp; omega
      have d1 : decide (64 < len) = true := by simpa using h64
      have d1' : decide ((64 : Int) < len) = true := by simp; omega
      have HB := Lib.hid (newPost_bad (w := w) (w' := w) (l := l) (by unfold newOk; rw [show decide (l.length ≤ 64) = false from decide_eq_false (by omega)]; simp) (Below.refl _ _))
      clear h hl
      go_enter Tryd.func16, Tryd.ntmps16
      go_wp2_with fail
      go_ret2
      exact HB.out
    · have d0 : decide (len < 1) = false := by simpa using h0
      have d0' : decide ((len : Int) < 1) = false := by simp; omega
      have d1 : decide (64 < len) = false := by simpa using h64
      have d1' : decide ((64 : Int) < len) = false := by simp; omega
      have START : NewRel w l 0 (w.alloc (.cells #[.slice none 0 0] 67)) := ⟨_, _, DskIn.fresh w, by (intro j hj; simp at hj; subst hj; exact Nat.le_refl _), (Below.refl _ _).alloc (Nat.le_refl _) _, rfl⟩
      have HSTART := Lib.hid START
      have HROW := Lib.hid h
      have HL := Lib.hid hl
      obtain ⟨_, _, _, _, hcells⟩ := h
      clear START hl
      go_enter Tryd.func16, Tryd.ntmps16
      go_wp2_with fail
      go_loopw [19] (fun s wr => ∃ (k : Nat), k ≤ len ∧ s = .int .i64 k ∧ NewRel w l k wr) (fun s _ => len - (intOf s).toNat)
      case atStart => exact ⟨0, Nat.zero_le _, rfl, HSTART.out⟩
      case round =>
        obtain ⟨k, hk, rfl, hrel⟩ := hrel
        by_cases hlt : k < len
        · obtain ⟨b, off, rfl, hb, hc⟩ : ∃ b off, a = some ⟨b, off, none⟩ ∧ b < w.heap.size ∧ ∀ i, i < len → w.cell? ⟨b, off + i, none⟩ = some (.int .i64 (l[i]?.getD 0)) := by
            rcases hcells with h0 | h0
            · omega
            · exact h0
          obtain ⟨F, bs, hd, hF, hbw, hall⟩ := hrel
          have hkl : k < l.length := by have := HL.out; omega
          have hn : ∃ n, l[k]? = some n := ⟨_, List.getElem?_eq_getElem hkl⟩
          obtain ⟨n, hn⟩ := hn
          have hts : l.take (k + 1) = l.take k ++ [n] := by rw [List.take_succ_eq_append_getElem hkl, (List.getElem?_eq_some_iff.1 hn).2]
          have c1 : wr.cell? ⟨b, off + k, none⟩ = some (.int .i64 n) := by
            rw [hbw.cell (p := ⟨b, off + k, none⟩) hb, hc k hlt, hn]; rfl
          by_cases hgood : 1 ≤ n ∧ n ≤ 1000
          · obtain ⟨m, rfl⟩ := Int.eq_ofNat_of_zero_le (show 0 ≤ n by omega)
            have e0 : decide ((m : Int) < 1) = false := by simp; omega
            have e1 : decide ((1000 : Int) < m) = false := by simp; omega
            have e2 : decide (m < 1) = false := by simp; omega
            have e3 : decide (1000 < m) = false := by simp; omega
            have hdl : (newD (l.take k)).length ≤ 1000 := by have := HL.out; simp [newD]; omega
            obtain ⟨a9, m9, k9, v9, w9, c9, -, hr9, c10, f10, ⟨a8, m8, k8, rfl⟩, hb9, F9, bs9, hd9, hF9⟩ := hd.push m (by omega) hdl w.heap.size hF hbw.size
            have END : ∃ k' : Nat, k' ≤ len ∧ Value.int .i64 ((k + 1 : Nat) : Int) = .int .i64 k' ∧ NewRel w l k' (w9.setCell ⟨w.heap.size, 0, none⟩ (.slice a8 m8 k8)) := by
              refine ⟨k + 1, hlt, rfl, F9, bs9, ?_, hF9, hbw.trans hb9, ?_⟩
              · rw [hts]; simpa [newD] using hd9
              · rw [hts, List.all_append, hall]; simp; omega
            have END := Lib.hid END
            clear hd hF hbw hall hd9 hF9 hb9 hdl hts hn hgood hkl hcells hc hb
            have hmm := @run_makeMap Tryd.prog
            go_wp2_with (at_builtin; refine wpList_append_run rfl _ _ _ _ rfl rfl rfl hr9 ?_)
            go_roundw
            case rel => exact END.out
            case measure => simp [intOf]; omega
          · have hbad : newOk l = false := by
              unfold newOk
              rw [show l.all (fun n => decide (1 ≤ n) && decide (n ≤ 1000)) = false from by
                rw [List.all_eq_false]
                exact ⟨n, List.mem_of_getElem? hn, by simp; omega⟩]
              simp
            have HB := Lib.hid (newPost_bad hbad hbw)
            by_cases g1 : n < 1
            · have e0 : decide (n < 1) = true := by simpa using g1
              clear hd hF hbw hall hts hn hgood hkl hcells hc hb hbad
              go_wp2_with fail
              go_ret2
              exact HB.out
            · have e0 : decide (n < 1) = false := by simpa using g1
              have e1 : decide (1000 < n) = true := by simp; omega
              clear hd hF hbw hall hts hn hgood hkl hcells hc hb hbad
              go_wp2_with fail
              go_ret2
              exact HB.out
        · obtain rfl : k = len := by omega
          obtain ⟨F, bs, hd, hF, hbw, hall⟩ := hrel
          have htl : l.take k = l := List.take_of_length_le (by rw [HL.out]; exact Nat.le_refl _)
          rw [htl] at hd hall
          have END : NewPost w l (.returned (.tuple #[.pointer (some ⟨w.heap.size, 0, none⟩), .int .i64 0])) wr := by
            refine ⟨hbw, ?_⟩
            rw [if_pos (by unfold newOk; have := HL.out; rw [hall]; simp; omega)]
            exact ⟨F, _, bs, rfl, hd, hF⟩
          have END := Lib.hid END
          clear hd hF hbw hall htl
          go_wp2_with fail
          go_ret2
          exact END.out
end Go.Proofs.YtopnfpobbemfbaaDoor

/- Disks of the call's own: one, two; what each call leaves of them. -/
namespace Go.Proofs.YtopnfpobbemfbaaDoor
open Go.RowKit

/-- A disk whose blocks lie from B on and below T; whatever turns in it leaves Q. -/
def Opens (B T : Nat) (w : World) (da M : Nat) (d : List Rg) (Q : World → Nat → List Rg → Prop) : Prop :=
  ∃ F bs, DskIn w F da M bs d ∧ (∀ k ∈ F, B ≤ k ∧ k < T) ∧ T ≤ w.heap.size ∧ B ≤ w.heap.size ∧ ∀ w' F' bs' d' M', M ≤ M' → Only F w w' → DskIn w' F' da M' bs' d' → (∀ k ∈ F', k ∈ F ∨ T ≤ k) → Q w' M' d'
theorem Opens.below {B T : Nat} {w w1 : World} {da M : Nat} {d : List Rg} {Q : World → Nat → List Rg → Prop} (h : Opens B T w da M d Q) (hb : Below w.heap.size w w1) : Opens B T w1 da M d Q := by
  obtain ⟨F, bs, h1, h2, h3, h4, h5⟩ := h
  have hs := hb.size
  refine ⟨F, bs, h1.below hb, h2, by omega, by omega, fun w' F' bs' d' M' hM ho hd hF => h5 w' F' bs' d' M' hM ((Only.of_below hb).trans ho) hd hF⟩
def One (B : Nat) (w : World) (da M : Nat) (d : List Rg) : Prop := ∃ F bs, DskIn w F da M bs d ∧ (∀ k ∈ F, B ≤ k) ∧ B ≤ w.heap.size
def Two (B : Nat) (w : World) (da db M : Nat) (d e : List Rg) : Prop := ∃ F G bs cs, DskIn w F da M bs d ∧ DskIn w G db M cs e ∧ (∀ k ∈ F, B ≤ k) ∧ (∀ k ∈ G, B ≤ k) ∧ (∀ k ∈ F, k ∉ G) ∧ B ≤ w.heap.size
theorem One.opens {B : Nat} {w : World} {da M : Nat} {d : List Rg} (h : One B w da M d) : Opens B w.heap.size w da M d (fun w' M' d' => One B w' da M' d' ∧ Below B w w') := by
  obtain ⟨F, bs, h1, h2, h3⟩ := h
  refine ⟨F, bs, h1, fun k hk => ⟨h2 k hk, h1.lt k hk⟩, Nat.le_refl _, h3, fun w' F' bs' d' M' _ ho hd hF => ⟨⟨F', bs', hd, fun k hk => (hF k hk).elim (h2 k) (fun h => by omega), by have := ho.size; omega⟩, ho.below h3 h2⟩⟩
theorem Two.swap {B : Nat} {w : World} {da db M : Nat} {d e : List Rg} (h : Two B w da db M d e) : Two B w db da M e d := by
  obtain ⟨F, G, bs, cs, h1, h2, h3, h4, h5, h6⟩ := h
  exact ⟨G, F, cs, bs, h2, h1, h4, h3, fun k hk hk2 => h5 k hk2 hk, h6⟩
theorem Two.opens {B : Nat} {w : World} {da db M : Nat} {d e : List Rg} (h : Two B w da db M d e) : Opens B w.heap.size w da M d (fun w' M' d' => Two B w' da db M' d' e ∧ Below B w w') := by
  obtain ⟨F, G, bs, cs, h1, h2, h3, h4, h5, h6⟩ := h
  refine ⟨F, bs, h1, fun k hk => ⟨h3 k hk, h1.lt k hk⟩, Nat.le_refl _, h6, fun w' F' bs' d' M' hM ho hd hF => ⟨⟨F', G, bs', cs, hd, (h2.only ho (fun k hk hk2 => h5 k hk2 hk)).more hM, fun k hk => (hF k hk).elim (h3 k) (fun h => by omega), h4, fun k hk hk2 => ?_, by have := ho.size; omega⟩, ho.below h6 h3⟩⟩
  rcases hF k hk with h7 | h7
  · exact h5 k h7 hk2
  · have := h2.lt k hk2; omega
theorem Two.left {B : Nat} {w : World} {da db M : Nat} {d e : List Rg} (h : Two B w da db M d e) : One B w da M d := by
  obtain ⟨F, G, bs, cs, h1, h2, h3, h4, h5, h6⟩ := h
  exact ⟨F, bs, h1, h3, h6⟩
theorem One.below {B : Nat} {w w' : World} {da M : Nat} {d : List Rg} (h : One B w da M d) (hb : Below w.heap.size w w') : One B w' da M d := by
  obtain ⟨F, bs, h1, h2, h3⟩ := h
  exact ⟨F, bs, h1.below hb, h2, by have := hb.size; omega⟩
theorem Two.below {B : Nat} {w w' : World} {da db M : Nat} {d e : List Rg} (h : Two B w da db M d e) (hb : Below w.heap.size w w') : Two B w' da db M d e := by
  obtain ⟨F, G, bs, cs, h1, h2, h3, h4, h5, h6⟩ := h
  exact ⟨F, G, bs, cs, h1.below hb, h2.below hb, h3, h4, h5, by have := hb.size; omega⟩
theorem One.more {B : Nat} {w : World} {da M M' : Nat} {d : List Rg} (h : One B w da M d) (hM : M ≤ M') : One B w da M' d := by
  obtain ⟨F, bs, h1, h2, h3⟩ := h
  exact ⟨F, bs, h1.more hM, h2, h3⟩
theorem Two.more {B : Nat} {w : World} {da db M M' : Nat} {d e : List Rg} (h : Two B w da db M d e) (hM : M ≤ M') : Two B w da db M' d e := by
  obtain ⟨F, G, bs, cs, h1, h2, h3⟩ := h
  exact ⟨F, G, bs, cs, h1.more hM, h2.more hM, h3⟩
/-- A second disk beside the first. -/
theorem Two.mk {B : Nat} {w w' : World} {da db M : Nat} {d e : List Rg} {F : List Nat} {bs : List (Nat × List Nat)} (h : One B w da M d) (hb : Below w.heap.size w w') (h2 : DskIn w' F db M bs e) (hF : ∀ k ∈ F, w.heap.size ≤ k) : Two B w' da db M d e := by
  obtain ⟨G, cs, h3, h4, h5⟩ := h
  exact ⟨G, F, cs, bs, h3.below hb, h2, h4, fun k hk => Nat.le_trans h5 (hF k hk), fun k hk hk2 => by have := h3.lt k hk; have := hF k hk2; omega, by have := hb.size; omega⟩

section
variable {B T : Nat} {w : World} {da M : Nat} {d : List Rg} {Q : World → Nat → List Rg → Prop}
theorem write_o (h : Opens B T w da M d Q) {a : Option Addr} {len cap : Nat} {l : List UInt8} (hb : Bs w a len cap l) (hF : ∀ g off, a = some ⟨g, off, none⟩ → g < B ∨ T ≤ g) (hM : M ≤ 900000) (r p : Int) :
    Calls Tryd.prog 18 #[.pointer (some ⟨da, 0, none⟩), .int .i64 r, .int .i64 p, .slice a len cap] w fun e w' => e = .returned (.int .i64 (writeE d r p l)) ∧ Q w' (M + 1) (writeD d r p l) := by
  obtain ⟨F, bs, h1, h2, h3, h4, h5⟩ := h
  refine (write_any h1 hb (fun g off hg hk => by have := h2 g hk; rcases hF g off hg with h | h <;> omega) hM r p).mono ?_
  rintro e w' ⟨rfl, ho, F', bs', hd, hF'⟩
  exact ⟨rfl, h5 w' F' bs' _ _ (Nat.le_succ M) ho hd (fun k hk => (hF' k hk).imp id (fun h => by omega))⟩
theorem write_o2 (h : Opens B T w da M d Q) {a : Option Addr} {len cap : Nat} {l : List UInt8} (hb : Bs w a len cap l) (hF : len = 128 → ∀ g off, a = some ⟨g, off, none⟩ → g < B ∨ T ≤ g) (hM : M ≤ 900000) (r p : Int) :
    Calls Tryd.prog 18 #[.pointer (some ⟨da, 0, none⟩), .int .i64 r, .int .i64 p, .slice a len cap] w fun e w' => e = .returned (.int .i64 (writeE d r p l)) ∧ Q w' (M + 1) (writeD d r p l) := by
  obtain ⟨F, bs, h1, h2, h3, h4, h5⟩ := h
  refine (write_wide h1 hb (fun hn g off hg hk => by have := h2 g hk; rcases hF hn g off hg with h | h <;> omega) hM r p).mono ?_
  rintro e w' ⟨rfl, ho, F', bs', hd, hF'⟩
  exact ⟨rfl, h5 w' F' bs' _ _ (Nat.le_succ M) ho hd (fun k hk => (hF' k hk).imp id (fun h => by omega))⟩
end
section
variable {B : Nat} {w : World} {da M : Nat} {d : List Rg}
theorem read_o (h : One B w da M d) (r p : Int) : Calls Tryd.prog 48 #[.pointer (some ⟨da, 0, none⟩), .int .i64 r, .int .i64 p] w (ReadPost w (readB d r p) (pagedE d r p)) := by
  obtain ⟨F, bs, h1, h2, h3⟩ := h
  exact dread_any h1 r p
end
/-- What New leaves, when it goes. -/
def NewOk (w : World) (d : List Rg) (e : Ending) (w' : World) : Prop := ∃ db, e = .returned (.tuple #[.pointer (some ⟨db, 0, none⟩), .int .i64 0]) ∧ One w.heap.size w' db 0 d ∧ Below w.heap.size w w'
theorem new_ok {w : World} {a : Option Addr} {len cap : Nat} {l : List Int} (h : Row .i64 w a len cap l) (hl : newOk l = true) : Calls Tryd.prog 16 #[.slice a len cap] w (NewOk w (newD l)) := by
  refine (dnew_any h).mono ?_
  rintro e w' ⟨hb, hr⟩
  rw [hl, if_pos rfl] at hr
  obtain ⟨F, db, bs, rfl, hd, hF⟩ := hr
  exact ⟨db, rfl, ⟨F, bs, hd, hF, hb.size⟩, hb⟩
def NewTwo (B : Nat) (w : World) (da M : Nat) (d e : List Rg) (en : Ending) (w' : World) : Prop := ∃ db, en = .returned (.tuple #[.pointer (some ⟨db, 0, none⟩), .int .i64 0]) ∧ Two B w' da db M d e ∧ Below w.heap.size w w'
theorem new_two {B : Nat} {w : World} {da M : Nat} {d : List Rg} (h1 : One B w da M d) {a : Option Addr} {len cap : Nat} {l : List Int} (h : Row .i64 w a len cap l) (hl : newOk l = true) : Calls Tryd.prog 16 #[.slice a len cap] w (NewTwo B w da M d (newD l)) := by
  refine (dnew_any h).mono ?_
  rintro e w' ⟨hb, hr⟩
  rw [hl, if_pos rfl] at hr
  obtain ⟨F, db, bs, rfl, hd, hF⟩ := hr
  exact ⟨db, rfl, Two.mk h1 hb (hd.more (Nat.zero_le M)) hF, hb⟩
end Go.Proofs.YtopnfpobbemfbaaDoor
