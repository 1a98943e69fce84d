/- The walk of Read. -/
import Derived.Test.YtopnfpobbemfbaaDskT
namespace Go.Proofs.Ytopnfpobbemfbaa
open Go.RowKit

/-- A row of bytes of the call's own, and an error. -/
def ReadPost (w : World) (l : List UInt8) (er : Int) (e : Ending) (w' : World) : Prop :=
  ∃ v, e = .returned (.tuple #[v, .int .i64 er]) ∧ w'.ownsRow w.heap.size 5 1 v l.length ((toI l).map (Value.int .u8)) ∧ Below w.heap.size w w'
theorem zero_page' (w : World) : (zeroValue 76).run Try.prog w = .ok (.agg (pcells zpage.1).toArray) w := zero_page w
theorem info_byte : (Try.prog.info? 5).map (fun i => (i.zero, i.size, i.bytes)) = some (some (.int .u8 0), 1, 1) := by kernel_rfl
theorem lastW_take (p : Nat) (b : P128) (l : List (Nat × P128)) (k : Nat) (y : Nat × P128) (h : l[k]? = some y) : lastW p b (l.take (k + 1)) = if y.1 = p then y.2 else lastW p b (l.take k) := by
  have hk := (List.getElem?_eq_some_iff.1 h)
  rw [List.take_succ_eq_append_getElem hk.1, hk.2, lastW_snoc]
theorem row_of_range {w : World} {g : Nat} {l : List UInt8} (h : w.rangeAt g 0 (pcells l)) (hg : g < w.heap.size) (hl : l.length = 128) : Row .u8 w (some ⟨g, 0, none⟩) 128 128 (toI l) := by
  refine ⟨by rw [toI_length, hl], Nat.le_refl _, by unfold maxLen; omega, (fun h => by cases h), .inr ⟨g, 0, rfl, hg, fun i hi => ?_⟩⟩
  have hil : i < l.length := by omega
  have := h i (.int .u8 (l[i].toNat : Int)) (by simp [pcells, toI, List.getElem?_eq_getElem hil])
  rw [this]; simp [toI, List.getElem?_eq_getElem hil]
theorem RegIn.map {w : World} {fp : List Nat} {b M : Nat} {x : Rg} (h : RegIn w fp b M x) : ∃ mb n, w.cell? ⟨b, 1, none⟩ = some (.map (some mb)) ∧ PgMap w mb n x.pages := by
  obtain ⟨mb, n, v, h1, h2, _⟩ := h
  exact ⟨mb, n, by simp [World.cell?, h1], h2⟩
set_option maxRecDepth 100000 in
set_option maxHeartbeats 4000000 in
theorem dread_in {w : World} {F : List Nat} {db M : Nat} {bs : List (Nat × List Nat)} {d : List Rg} (h : DskIn w F db M bs d) (i pn : Nat) (x : Rg) (hx : d[i]? = some x) (hdn : x.down = false) (hp : pn < x.size) :
    Calls Try.prog 14 #[.pointer (some ⟨db, 0, none⟩), .int .i64 (i : Int), .int .i64 (pn : Int)] w (ReadPost w (seen x pn).1 0) := by
  have hi : i < d.length := (List.getElem?_eq_some_iff.1 hx).1
  obtain ⟨q, hq⟩ : ∃ q, bs[i]? = some q := ⟨_, List.getElem?_eq_getElem (by rw [h.len]; exact hi)⟩
  have R := h.reg i q x hq hx
  have U := paged_any h (i : Int) (pn : Int)
  have hsz : x.size ≤ 1000 := by obtain ⟨_, _, _, _, _, _, _, _, _, _, _, h9, _⟩ := R; exact h9
  have hu : pagedE d (i : Int) (pn : Int) = 0 := by
    have h1 : upE d (i : Int) = 0 := by
      unfold upE; rw [if_pos (by omega), Int.toNat_natCast, hx]; simp [hdn]
    unfold pagedE; rw [if_pos h1, atR_of hx, if_pos (by omega)]
  rw [hu] at U
  have U : Calls Try.prog 30 #[.pointer (some ⟨db, 0, none⟩), .int .i64 (i : Int), .int .i64 (pn : Int)] w fun e w' => e = .returned (.tuple #[.pointer (some ⟨q.1, 0, none⟩), .int .i64 0]) ∧ w = w' := U.mono fun e w' ⟨h1, h2⟩ => by
    refine ⟨?_, h2⟩
    rcases h1 with ⟨_, q', hq', he⟩ | ⟨h0, _⟩
    · rw [Int.toNat_natCast, hq] at hq'; cases hq'; exact he
    · exact absurd rfl h0
  obtain ⟨a, cap, c2, hc1, hc2, _, hrow⟩ := R.loose
  obtain ⟨mb, n, c1, hm⟩ := R.map
  have LK : (Instr.lookup 68 (.map (some mb)) (.int .i64 (pn : Int)) false).run Try.prog w = .ok (.agg (pcells (x.pages pn).1).toArray) w := hm.lookup pn (by omega)
  obtain ⟨i0, hi0, hz0, hz1, hz2⟩ := info_parts info_byte
  obtain ⟨w1, hfill, hb1, hs1, hra, hfz⟩ := fresh_fill (P := Try.prog) w 76 (pcells zpage.1) (pcells (x.pages pn).1) (by rw [pcells_length, pcells_length, zpage.2, (x.pages pn).2]) (pcells_one _)
  have hlt2 := World.block_lt_of_cell? w _ c2
  have c2' : w1.cell? ⟨q.1, 2, none⟩ = some (.slice a x.loose.length cap) := (hb1.cell (p := ⟨q.1, 2, none⟩) hlt2).trans c2
  have ZP := zero_page'
  have SP : (pcells (x.pages pn).1).length = 128 := by rw [pcells_length, (x.pages pn).2]
  have HR := Lib.hid hrow
  have HX : Hid (x.loose.length = x.loose.length) := Lib.hid rfl
  clear h hx hq R hi hu hdn hm hrow hz0 hz1 hz2 hi0
  have hi0 := Lib.hid (info_parts info_byte)
  have HRA := Lib.hid hra
  have HFZ := Lib.hid hfz
  clear hra hfz
  go_enter Try.func14, Try.ntmps14
  go_wp2_with fail
  refine U.mono ?_
  rintro e w' ⟨rfl, rfl⟩
  go_wp2_with fail
  clear ZP SP hfill LK
  go_loopw [34] (fun s wr => ∃ (k : Nat), k ≤ x.loose.length ∧ s = .int .i64 k ∧ wr.rangeAt w.heap.size 0 (pcells (lastW pn (x.pages pn) (x.loose.take k)).1) ∧ (∀ j, wr.frozen? ⟨w.heap.size, j, none⟩ = false) ∧ Below w.heap.size w wr ∧ w.heap.size < wr.heap.size) (fun s _ => x.loose.length - (intOf s).toNat)
  case atStart => exact ⟨0, Nat.zero_le _, rfl, HRA.out, HFZ.out, hb1, by omega⟩
  case round =>
    obtain ⟨k, hk, rfl, hra, hfz, hbw, hgt⟩ := hrel
    by_cases hlt : k < x.loose.length
    · obtain ⟨y, hy⟩ : ∃ y, x.loose[k]? = some y := ⟨_, List.getElem?_eq_getElem hlt⟩
      obtain ⟨g, rfl, hgf, hr⟩ := HR.out k y hy
      have hr2 : wr.rangeAt g (k * 129) (wcells y) := rangeAt_only (S := []) hr (Only.of_below hbw) (by simp)
      have HL := load_write hr2
      obtain ⟨w2, hfill, hb2, hs2, hra2, hfz2⟩ := fresh_fill (P := Try.prog) wr 78 (wcells (0, zpage)) (wcells y) (by rw [wcells_length, wcells_length]) (wcells_one y)
      have hc0 := wcells_at hra2
      have hra3 := rangeAt_below hra hb2 hgt
      have hfz3 : ∀ j, w2.frozen? ⟨w.heap.size, j, none⟩ = false := fun j => (hb2.frozen (p := ⟨w.heap.size, j, none⟩) hgt).trans (hfz j)
      have hwr := hbw.size
      have ZW := zero_write
      have SZ := wcells_length y
      have HLW := lastW_take pn (x.pages pn) x.loose k y hy
      by_cases hyp : y.1 = pn
      · rw [if_pos hyp] at HLW
        have HLP := load_page (wcells_page hra2)
        obtain ⟨w3, hfill3, hb3, hs3, hra4, hfz4⟩ := fill_again (P := Try.prog) (w := w2) 76 (pcells (lastW pn (x.pages pn) (x.loose.take k)).1) (pcells y.2.1) hra3 hfz3 (by rw [pcells_length, pcells_length, (lastW pn (x.pages pn) (x.loose.take k)).2, y.2.2]) (pcells_one _) (Nat.le_refl w.heap.size)
        have SP : (pcells y.2.1).length = 128 := by rw [pcells_length, y.2.2]
        have END : ∃ k' : Nat, k' ≤ x.loose.length ∧ Value.int .i64 ((k + 1 : Nat) : Int) = .int .i64 k' ∧ w3.rangeAt w.heap.size 0 (pcells (lastW pn (x.pages pn) (x.loose.take k')).1) ∧ (∀ j, w3.frozen? ⟨w.heap.size, j, none⟩ = false) ∧ Below w.heap.size w w3 ∧ w.heap.size < w3.heap.size := ⟨k + 1, hlt, rfl, by rw [HLW]; exact hra4, hfz4, (hbw.trans (hb2.mono hwr)).trans hb3, by have := hb3.size; omega⟩
        have END := Lib.hid END
        have q0 : ((y.1 : Int) == (pn : Int)) = true := by simp [hyp]
        have q1 : (y.1 == pn) = true := by simp [hyp]
        clear hra hfz hra2 hfz2 hra3 hfz3 hra4 hfz4 hb2 hb3 hbw hs2 hs3 hwr hr hr2 HLW hyp hy hgt
        go_wp2_with fail
        refine wp_load_run 78 _ rfl rfl HL ?_
        go_at_K
        go_wp2_with fail
        refine wp_load_run 76 _ rfl rfl HLP ?_
        go_at_K
        unfold pv
        go_wp2_with fail
        go_roundw
        case rel => exact END.out
        case measure => simp [intOf]; omega
      · rw [if_neg hyp] at HLW
        have END : ∃ k' : Nat, k' ≤ x.loose.length ∧ Value.int .i64 ((k + 1 : Nat) : Int) = .int .i64 k' ∧ w2.rangeAt w.heap.size 0 (pcells (lastW pn (x.pages pn) (x.loose.take k')).1) ∧ (∀ j, w2.frozen? ⟨w.heap.size, j, none⟩ = false) ∧ Below w.heap.size w w2 ∧ w.heap.size < w2.heap.size := ⟨k + 1, hlt, rfl, by rw [HLW]; exact hra3, hfz3, hbw.trans (hb2.mono hwr), by omega⟩
        have END := Lib.hid END
        have q0 : ((y.1 : Int) == (pn : Int)) = false := by simp; omega
        have q1 : (y.1 == pn) = false := by simp [hyp]
        clear hra hfz hra2 hfz2 hra3 hfz3 hb2 hbw hs2 hwr hr hr2 HLW hyp hy hgt
        go_wp2_with fail
        refine wp_load_run 78 _ rfl rfl HL ?_
        go_at_K
        go_wp2_with fail
        go_roundw
        case rel => exact END.out
        case measure => simp [intOf]; omega
    · obtain rfl : k = x.loose.length := by omega
      rw [List.take_length] at hra
      have hsn : lastW pn (x.pages pn) x.loose = seen x pn := rfl
      rw [hsn] at hra
      have hl := (seen x pn).2
      obtain ⟨i1, hi1, hz0, hz1, hz2⟩ := hi0.out
      have hRow := (row_of_range hra hgt hl).below (Nat.le_refl _) ((Below.refl wr.heap.size wr).alloc (Nat.le_refl _) (.cells #[] 5))
      obtain ⟨v', w3, hr9, ho9, hg9, _⟩ := run_append_row (P := Try.prog) (w := wr.alloc (.cells #[] 5)) w.heap.size 22 5 i1 _ 1 Try.underlying22 hi1 hz0 hz1 hz2 rfl (own_made .u8 wr 5 [] rfl hbw.size (by unfold maxLen; simp)) hRow (by unfold maxLen; simp) (by simp) (by have := hbw.size; simp; omega)
      have hb3 : Below w.heap.size w w3 := (hbw.alloc hbw.size _).grown hg9 (by have := hbw.size; simp; omega) (fun k hk => by cases hk; exact hbw.size)
      have END : ReadPost w (seen x pn).1 0 (.returned (.tuple #[v', .int .i64 0])) w3 := ⟨v', rfl, by rw [hl]; simpa using ho9, hb3⟩
      have END := Lib.hid END
      clear hra hfz hRow ho9 hg9 hb3 hbw hz0 hz1 hz2 hi1 hsn hl hgt
      go_wp2_with (at_builtin; refine wpList_append_run rfl _ _ _ _ rfl rfl rfl hr9 ?_)
      go_ret2
      exact END.out
set_option maxRecDepth 100000 in
set_option maxHeartbeats 1000000 in
/-- A page that is there, and one that isn't. -/
theorem dread_any {w : World} {F : List Nat} {db M : Nat} {bs : List (Nat × List Nat)} {d : List Rg} (h : DskIn w F db M bs d) (r p : Int) :
    Calls Try.prog 14 #[.pointer (some ⟨db, 0, none⟩), .int .i64 r, .int .i64 p] w (ReadPost w (readB d r p) (pagedE d r p)) := by
  by_cases hu : pagedE d r p = 0
  · obtain ⟨i, pn, x, rfl, rfl, hx, hdn, hpn⟩ := pagedE_zero hu
    have e1 : readB d i pn = (seen x pn).1 := by rw [readB, if_pos hu, atR_of hx, Int.toNat_natCast]
    rw [hu, e1]
    exact dread_in h i pn x hx hdn hpn
  · have U := paged_any h r p
    have e1 : readB d r p = [] := by rw [readB, if_neg hu]
    rw [e1]
    have q0 : (pagedE d r p == 0) = false := by simpa using hu
    generalize pagedE d r p = er at *
    have U : Calls Try.prog 30 #[.pointer (some ⟨db, 0, none⟩), .int .i64 r, .int .i64 p] w fun e w' => e = .returned (.tuple #[.pointer none, .int .i64 er]) ∧ w = w' := U.mono fun e w' ⟨h1, h2⟩ => by
      refine ⟨?_, h2⟩
      rcases h1 with ⟨h0, _⟩ | ⟨_, he⟩
      · exact absurd h0 hu
      · exact he
    have END := Lib.hid (show ReadPost w [] er (.returned (.tuple #[.slice none 0 0, .int .i64 er])) w from ⟨_, rfl, World.ownsRow_nil _ _ _ _, Below.refl _ _⟩)
    clear hu e1 h
    go_enter Try.func14, Try.ntmps14
    go_wp2_with fail
    refine U.mono ?_
    rintro e w0 ⟨rfl, rfl⟩
    go_wp2_with fail
    go_ret2
    exact END.out
end Go.Proofs.Ytopnfpobbemfbaa
