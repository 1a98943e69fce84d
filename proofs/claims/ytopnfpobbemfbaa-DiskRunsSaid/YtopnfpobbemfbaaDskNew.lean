/- The walk of New (printed by gen_dskNew.py). -/
import Derived.Test.YtopnfpobbemfbaaDskZ
namespace Go.Proofs.Ytopnfpobbemfbaa
open Go.RowKit

def newOk (l : List Int) : Bool := decide (1 ≤ l.length) && decide (l.length ≤ 64) && l.all fun n => decide (1 ≤ n) && decide (n ≤ 1000)
def newE (l : List Int) : Int := if newOk l then 0 else 1
def newD (l : List Int) : List Rg := l.map fun n => Rg.new n.toNat
theorem info_ptr : (Try.prog.info? 67).map (fun i => (i.zero, i.size, i.bytes)) = some (some (.pointer none), 1, 8) := by kernel_rfl
theorem heap_alloc_lt (w : World) (o : Obj) {k : Nat} (h : k < w.heap.size) : (w.alloc o).heap[k]? = w.heap[k]? := ((Below.refl w.heap.size w).alloc (Nat.le_refl _) o).block k h
/-- A fresh region is put behind the others. -/
theorem DskIn.push {w : World} {F : List Nat} {db : Nat} {bs : List (Nat × List Nat)} {d : List Rg} (h : DskIn w F db 0 bs d) (n : Nat) (hn : n ≤ 1000) (hd : d.length ≤ 1000) (B : Nat) (hB : ∀ k ∈ F, B ≤ k) (hBw : B ≤ w.heap.size) :
    ∃ a m c v' w4, w.cell? ⟨db, 0, none⟩ = some (.slice a m c) ∧ m = d.length ∧
      (Builtin.append_ #[64, 64] 64 #[.slice a m c, .slice (some ⟨w.heap.size + 1 + 1, 0, none⟩) 1 1]).run Try.prog (((w.alloc (.map #[] 0)).alloc (.cells #[.int .i64 (n : Int), .map (some w.heap.size), .slice none 0 0, .int .i64 (-1), .bool false] 71)).alloc (.cells #[.pointer (some ⟨w.heap.size + 1, 0, none⟩)] 67)) = .ok v' w4 ∧
      w4.cell? ⟨db, 0, none⟩ = some (.slice a m c) ∧ w4.frozen? ⟨db, 0, none⟩ = false ∧ (∃ a' m' c', v' = .slice a' m' c') ∧ Below B w (w4.setCell ⟨db, 0, none⟩ v') ∧
      ∃ F' bs', DskIn (w4.setCell ⟨db, 0, none⟩ v') F' db 0 bs' (d ++ [Rg.new n]) ∧ ∀ k ∈ F', B ≤ k := by
  obtain ⟨pv, h1, h2, h3⟩ := h.cells
  obtain ⟨a, c, rfl, hc1, hc2, _⟩ := own_slice h2
  have hdb := h.lt db h.mem
  generalize hW2 : (w.alloc (.map #[] 0)).alloc (.cells #[.int .i64 (n : Int), .map (some w.heap.size), .slice none 0 0, .int .i64 (-1), .bool false] 71) = W2
  have hs2 : W2.heap.size = w.heap.size + 2 := by rw [← hW2]; simp
  have hb2 : Below w.heap.size w W2 := by rw [← hW2]; exact ((Below.refl _ _).alloc (Nat.le_refl _) _).alloc (by simp) _
  have hmb : W2.heap[w.heap.size]? = some (.map #[] 0) := by
    rw [← hW2, heap_alloc_lt _ _ (by simp)]; exact World.alloc_heap_new w _
  have hrb : W2.heap[w.heap.size + 1]? = some (.cells #[.int .i64 (n : Int), .map (some w.heap.size), .slice none 0 0, .int .i64 (-1), .bool false] 71 (0, 0)) := by
    rw [← hW2]
    have := World.alloc_heap_new (w.alloc (.map #[] 0)) (.cells #[.int .i64 (n : Int), .map (some w.heap.size), .slice none 0 0, .int .i64 (-1), .bool false] 71)
    rwa [show (w.alloc (.map #[] 0)).heap.size = w.heap.size + 1 by simp] at this
  obtain ⟨i0, hi0, hz0, hz1, hz2⟩ := info_parts info_ptr
  obtain ⟨v', w4, hr, ho, hg, hv⟩ := run_append_new (P := Try.prog) (w := W2) 0 64 67 i0 _ 1 8 Try.underlying64 hi0 hz0 hz1 hz2 rfl (by decide) (own_step h2 hb2) #[.pointer (some ⟨w.heap.size + 1, 0, none⟩)] rfl (by intro u hu; simp at hu; subst hu; rfl) (by unfold maxLen; omega) (by omega) (Nat.zero_le _)
  have hown_ne : ∀ k, Value.ownBlock (.slice a d.length c) = some k → k ≠ db ∧ k < w.heap.size := by
    intro k hk
    refine ⟨fun e => ?_, h.lt k (h3 k hk).1⟩
    rcases h2.2 with ⟨e2, _⟩ | ⟨g, cap, cur, e2, _, hg, _⟩
    · rw [e2] at hk; cases hk
    · rw [e2] at hk; cases hk
      have e' : g = db := e
      rw [e', h1] at hg
      simp only [Option.some.injEq, Obj.cells.injEq] at hg
      exact absurd hg.2.1 (by decide)
  have kb : ∀ k, k < w.heap.size → some k ≠ Value.ownBlock (.slice a d.length c) → w4.heap[k]? = w.heap[k]? := fun k hk hne => (hg.block k (by omega) hne).trans (hb2.block k hk)
  have hdb4 : w4.heap[db]? = some (.cells #[.slice a d.length c] 66 (0, 0)) := (kb db hdb (fun e => (hown_ne db e.symm).1 rfl)).trans h1
  have k4 : ∀ k, w.heap.size ≤ k → k < W2.heap.size → w4.heap[k]? = W2.heap[k]? := fun k hk hk2 => hg.block k hk2 (fun e => by have := (hown_ne k e.symm).2; omega)
  have hs4 := hg.size
  have hvlt := own_lt ho
  have hvk : ∀ k, v'.ownBlock = some k → (k ∈ F ∧ (∀ q ∈ bs, k ∉ q.2) ∧ k < w.heap.size ∧ k ≠ db) ∨ w.heap.size + 2 < k := by
    intro k hk
    rcases hv with hv | hv
    · rw [hv] at hk; exact .inl ⟨(h3 k hk).1, (h3 k hk).2, (hown_ne k hk).2, (hown_ne k hk).1⟩
    · rw [hv, hs2] at hk; cases hk; exact .inr (by omega)
  obtain ⟨a', c', rfl, _⟩ := own_slice ho
  have hS : Only [db] w4 (w4.setCell ⟨db, 0, none⟩ (.slice a' (d.length + 1) c')) := (Only.refl _ _).set _ _ (by simp)
  have hBF : ∀ k ∈ F ++ ([w.heap.size + 1, w.heap.size] ++ (Value.ownBlock (.slice a' (d.length + 1) c')).toList), B ≤ k := by
    intro k hk
    simp only [List.mem_append, List.mem_cons, List.not_mem_nil, or_false] at hk
    rcases hk with hk | (rfl | rfl) | hk
    · exact hB k hk
    · omega
    · omega
    · have hk' : Value.ownBlock (.slice a' (d.length + 1) c') = some k := by simpa using hk
      rcases hvk k hk' with h5 | h5
      · exact hB k h5.1
      · omega
  have hO : Only F w w4 := ⟨hg.os.trans hb2.os, hg.tape.trans hb2.tape, hg.output.trans hb2.output, Nat.le_trans hb2.size hg.size, fun k hk hkF => kb k hk (fun e => hkF (h3 k e.symm).1)⟩
  have hDSK : DskIn (w4.setCell ⟨db, 0, none⟩ (.slice a' (d.length + 1) c')) (F ++ ([w.heap.size + 1, w.heap.size] ++ (Value.ownBlock (.slice a' (d.length + 1) c')).toList)) db 0 (bs ++ [(w.heap.size + 1, [w.heap.size + 1, w.heap.size])]) (d ++ [Rg.new n]) := by
    refine ⟨⟨.slice a' (d.length + 1) c', ?_, ?_, ?_⟩, List.mem_append_left _ h.mem, ?_, by simp [h.len], ?_, ?_, ?_, ?_⟩
    · rw [heap_setCell_at 0 _ hdb4]; rfl
    · have := own_only ho hS (fun k hk => by
        rcases hvk k hk with h5 | h5
        · simpa using h5.2.2.2
        · simp; omega)
      simpa using this
    · intro k hk
      refine ⟨by simp [hk], fun q hq => ?_⟩
      rcases List.mem_append.1 hq with hq | hq
      · rcases hvk k hk with h5 | h5
        · exact h5.2.1 q hq
        · intro hk2; have := h.lt k (h.sub q hq k hk2); omega
      · simp at hq; subst hq
        simp
        rcases hvk k hk with h5 | h5 <;> omega
    · intro q hq
      rcases List.mem_append.1 hq with hq | hq
      · exact h.off q hq
      · simp at hq; subst hq; simp; omega
    · intro i q x hq hx
      have hbd := h.len
      by_cases hi : i < d.length
      · rw [List.getElem?_append_left (by omega)] at hq
        rw [List.getElem?_append_left hi] at hx
        have hqm := List.mem_of_getElem? hq
        have hO4 : Only (Value.ownBlock (.slice a d.length c)).toList w w4 := ⟨hO.1, hO.2.1, hO.2.2.1, hO.size, fun k hk hkn => kb k hk (fun e => hkn (by rw [← e]; simp))⟩
        refine ((h.reg i q x hq hx).only hO4 (fun k hk hk2 => ?_)).only hS (fun k hk => ?_)
        · exact (h3 k (by simpa using hk2)).2 q hqm hk
        · simp; exact fun e => h.off q hqm (e ▸ hk)
      · have hil : i = d.length := by
          have := (List.getElem?_eq_some_iff.1 hx).1; simp at this; omega
        subst hil
        rw [List.getElem?_append_right (by omega), hbd, Nat.sub_self] at hq
        rw [List.getElem?_append_right (Nat.le_refl _), Nat.sub_self] at hx
        simp at hq hx
        subst hq hx
        have e1 : (w4.setCell ⟨db, 0, none⟩ (.slice a' (d.length + 1) c')).heap[w.heap.size + 1]? = _ := (hS.block (k := w.heap.size + 1) (by omega) (by simp; omega)).trans ((k4 _ (by omega) (by omega)).trans hrb)
        have e2 : (w4.setCell ⟨db, 0, none⟩ (.slice a' (d.length + 1) c')).heap[w.heap.size]? = some (.map #[] 0) := (hS.block (k := w.heap.size) (by omega) (by simp; omega)).trans ((k4 _ (by omega) (by omega)).trans hmb)
        refine ⟨w.heap.size, 0, .slice none 0 0, e1, (PgMap.made w).kept (e2.trans (World.alloc_heap_new w _).symm), World.ownsRow_nil _ _ _ _, Nat.le_refl _, by simp, by simp, (fun k hk => by cases hk), fun k hk => ?_, hn, (fun p hp => by simp [Rg.new] at hp), (by simp [Rg.new])⟩
        have := hS.size
        simp at hk
        omega
    · intro i j q r hij hq hr2 k hk hk2
      have hbd := h.len
      have cs : ∀ i q, (bs ++ [(w.heap.size + 1, [w.heap.size + 1, w.heap.size])])[i]? = some q → (bs[i]? = some q ∧ ∀ k ∈ q.2, k < w.heap.size) ∨ (i = bs.length ∧ ∀ k ∈ q.2, w.heap.size ≤ k) := by
        intro i q hq
        by_cases hi : i < bs.length
        · rw [List.getElem?_append_left hi] at hq
          exact .inl ⟨hq, fun k hk => h.lt k (h.sub q (List.mem_of_getElem? hq) k hk)⟩
        · have hil : i = bs.length := by
            have := (List.getElem?_eq_some_iff.1 hq).1; simp at this; omega
          subst hil
          rw [List.getElem?_append_right (Nat.le_refl _), Nat.sub_self] at hq
          simp at hq; subst hq
          refine .inr ⟨rfl, fun k hk => ?_⟩
          simp at hk; omega
      rcases cs i q hq with ⟨g1, g2⟩ | ⟨g1, g2⟩
      · rcases cs j r hr2 with ⟨g3, g4⟩ | ⟨g3, g4⟩
        · exact h.apart i j q r hij g1 g3 k hk hk2
        · have := g2 k hk; have := g4 k hk2; omega
      · rcases cs j r hr2 with ⟨g3, g4⟩ | ⟨g3, g4⟩
        · have := g2 k hk; have := g4 k hk2; omega
        · omega
    · intro q hq k hk
      rcases List.mem_append.1 hq with hq | hq
      · exact List.mem_append_left _ (h.sub q hq k hk)
      · simp at hq; subst hq
        refine List.mem_append_right _ (List.mem_append_left _ hk)
    · intro k hk
      have := hS.size
      simp only [List.mem_append, List.mem_cons, List.not_mem_nil, or_false] at hk
      rcases hk with hk | (rfl | rfl) | hk
      · have := h.lt k hk; omega
      · omega
      · omega
      · have hk' : Value.ownBlock (.slice a' (d.length + 1) c') = some k := by simpa using hk
        have := hvlt k hk'
        omega
  refine ⟨a, d.length, c, .slice a' (d.length + 1) c', w4, by simp [World.cell?, h1], rfl, (by rw [hs2] at hr; exact hr), by simp [World.cell?, hdb4], by simp [World.frozen?, hdb4], ⟨_, _, _, rfl⟩, (hO.set _ _ h.mem).below hBw hB, _, _, hDSK, hBF⟩

/-- What stands behind so many sizes. -/
def NewRel (w : World) (l : List Int) (k : Nat) (wr : World) : Prop := ∃ F bs, DskIn wr F w.heap.size 0 bs (newD (l.take k)) ∧ (∀ j ∈ F, w.heap.size ≤ j) ∧ Below w.heap.size w wr ∧ (l.take k).all (fun n => decide (1 ≤ n) && decide (n ≤ 1000)) = true
def NewPost (w : World) (l : List Int) (e : Ending) (w' : World) : Prop :=
  Below w.heap.size w w' ∧ (if newOk l then ∃ F db bs, e = .returned (.tuple #[.pointer (some ⟨db, 0, none⟩), .int .i64 0]) ∧ DskIn w' F db 0 bs (newD l) ∧ ∀ j ∈ F, w.heap.size ≤ j else e = .returned (.tuple #[.pointer none, .int .i64 1]))
theorem newPost_bad {w w' : World} {l : List Int} (h : newOk l = false) (hb : Below w.heap.size w w') : NewPost w l (.returned (.tuple #[.pointer none, .int .i64 1])) w' := ⟨hb, by rw [h]; rfl⟩
theorem DskIn.fresh (w : World) : DskIn (w.alloc (.cells #[.slice none 0 0] 66)) [w.heap.size] w.heap.size 0 [] [] := by
  have hh := World.alloc_heap_new w (.cells #[.slice none 0 0] 66)
  exact ⟨⟨.slice none 0 0, hh, World.ownsRow_nil _ _ _ _, fun k hk => by cases hk⟩, by simp, by simp, rfl, fun i q x hq => by simp at hq, fun i j q r _ hq => by simp at hq, by simp, by simp⟩
set_option maxRecDepth 100000 in
set_option maxHeartbeats 8000000 in
theorem dnew_any {w : World} {a : Option Addr} {len cap : Nat} {l : List Int} (h : Row .i64 w a len cap l) :
    Calls Try.prog 9 #[.slice a len cap] w (NewPost w l) := by
  have hl := h.1
  have hm : len ≤ 9223372036854775807 := by have := h.2.1; have := h.2.2.1; unfold maxLen at this; omega
  by_cases h0 : len < 1
  · have d0 : decide (len < 1) = true := by simpa using h0
    have d0' : decide ((len : Int) < 1) = true := by simp; omega
    have HB := Lib.hid (newPost_bad (w := w) (w' := w) (l := l) (by unfold newOk; rw [show decide (1 ≤ l.length) = false from decide_eq_false (by omega)]; rfl) (Below.refl _ _))
    clear h hl
    go_enter Try.func9, Try.ntmps9
    go_wp2_with fail
    go_ret2
    exact HB.out
  · by_cases h64 : 64 < len
    · have d0 : decide (len < 1) = false := by simpa using h0
      have d0' : decide ((len : Int) < 1) = false := by simp; omega
      have d1 : decide (64 < len) = true := by simpa using h64
      have d1' : decide ((64 : Int) < len) = true := by simp; omega
      have HB := Lib.hid (newPost_bad (w := w) (w' := w) (l := l) (by unfold newOk; rw [show decide (l.length ≤ 64) = false from decide_eq_false (by omega)]; simp) (Below.refl _ _))
      clear h hl
      go_enter Try.func9, Try.ntmps9
      go_wp2_with fail
      go_ret2
      exact HB.out
    · have d0 : decide (len < 1) = false := by simpa using h0
      have d0' : decide ((len : Int) < 1) = false := by simp; omega
      have d1 : decide (64 < len) = false := by simpa using h64
      have d1' : decide ((64 : Int) < len) = false := by simp; omega
      have START : NewRel w l 0 (w.alloc (.cells #[.slice none 0 0] 66)) := ⟨_, _, DskIn.fresh w, by (intro j hj; simp at hj; subst hj; exact Nat.le_refl _), (Below.refl _ _).alloc (Nat.le_refl _) _, rfl⟩
      have HSTART := Lib.hid START
      have HROW := Lib.hid h
      have HL := Lib.hid hl
      obtain ⟨_, _, _, _, hcells⟩ := h
      clear START hl
      go_enter Try.func9, Try.ntmps9
      go_wp2_with fail
      go_loopw [19] (fun s wr => ∃ (k : Nat), k ≤ len ∧ s = .int .i64 k ∧ NewRel w l k wr) (fun s _ => len - (intOf s).toNat)
      case atStart => exact ⟨0, Nat.zero_le _, rfl, HSTART.out⟩
      case round =>
        obtain ⟨k, hk, rfl, hrel⟩ := hrel
        by_cases hlt : k < len
        · obtain ⟨b, off, rfl, hb, hc⟩ : ∃ b off, a = some ⟨b, off, none⟩ ∧ b < w.heap.size ∧ ∀ i, i < len → w.cell? ⟨b, off + i, none⟩ = some (.int .i64 (l[i]?.getD 0)) := by
            rcases hcells with h0 | h0
            · omega
            · exact h0
          obtain ⟨F, bs, hd, hF, hbw, hall⟩ := hrel
          have hkl : k < l.length := by have := HL.out; omega
          have hn : ∃ n, l[k]? = some n := ⟨_, List.getElem?_eq_getElem hkl⟩
          obtain ⟨n, hn⟩ := hn
          have hts : l.take (k + 1) = l.take k ++ [n] := by rw [List.take_succ_eq_append_getElem hkl, (List.getElem?_eq_some_iff.1 hn).2]
          have c1 : wr.cell? ⟨b, off + k, none⟩ = some (.int .i64 n) := by
            rw [hbw.cell (p := ⟨b, off + k, none⟩) hb, hc k hlt, hn]; rfl
          by_cases hgood : 1 ≤ n ∧ n ≤ 1000
          · obtain ⟨m, rfl⟩ := Int.eq_ofNat_of_zero_le (show 0 ≤ n by omega)
            have e0 : decide ((m : Int) < 1) = false := by simp; omega
            have e1 : decide ((1000 : Int) < m) = false := by simp; omega
            have e2 : decide (m < 1) = false := by simp; omega
            have e3 : decide (1000 < m) = false := by simp; omega
            have hdl : (newD (l.take k)).length ≤ 1000 := by have := HL.out; simp [newD]; omega
            obtain ⟨a9, m9, k9, v9, w9, c9, -, hr9, c10, f10, ⟨a8, m8, k8, rfl⟩, hb9, F9, bs9, hd9, hF9⟩ := hd.push m (by omega) hdl w.heap.size hF hbw.size
            have END : ∃ k' : Nat, k' ≤ len ∧ Value.int .i64 ((k + 1 : Nat) : Int) = .int .i64 k' ∧ NewRel w l k' (w9.setCell ⟨w.heap.size, 0, none⟩ (.slice a8 m8 k8)) := by
              refine ⟨k + 1, hlt, rfl, F9, bs9, ?_, hF9, hbw.trans hb9, ?_⟩
              · rw [hts]; simpa [newD] using hd9
              · rw [hts, List.all_append, hall]; simp; omega
            have END := Lib.hid END
            clear hd hF hbw hall hd9 hF9 hb9 hdl hts hn hgood hkl hcells hc hb
            have hmm := @run_makeMap Try.prog
            go_wp2_with (at_builtin; refine wpList_append_run rfl _ _ _ _ rfl rfl rfl hr9 ?_)
            go_roundw
            case rel => exact END.out
            case measure => simp [intOf]; omega
          · have hbad : newOk l = false := by
              unfold newOk
              rw [show l.all (fun n => decide (1 ≤ n) && decide (n ≤ 1000)) = false from by
                rw [List.all_eq_false]
                exact ⟨n, List.mem_of_getElem? hn, by simp; omega⟩]
              simp
            have HB := Lib.hid (newPost_bad hbad hbw)
            by_cases g1 : n < 1
            · have e0 : decide (n < 1) = true := by simpa using g1
              clear hd hF hbw hall hts hn hgood hkl hcells hc hb hbad
              go_wp2_with fail
              go_ret2
              exact HB.out
            · have e0 : decide (n < 1) = false := by simpa using g1
              have e1 : decide (1000 < n) = true := by simp; omega
              clear hd hF hbw hall hts hn hgood hkl hcells hc hb hbad
              go_wp2_with fail
              go_ret2
              exact HB.out
        · obtain rfl : k = len := by omega
          obtain ⟨F, bs, hd, hF, hbw, hall⟩ := hrel
          have htl : l.take k = l := List.take_of_length_le (by rw [HL.out]; exact Nat.le_refl _)
          rw [htl] at hd hall
          have END : NewPost w l (.returned (.tuple #[.pointer (some ⟨w.heap.size, 0, none⟩), .int .i64 0])) wr := by
            refine ⟨hbw, ?_⟩
            rw [if_pos (by unfold newOk; have := HL.out; rw [hall]; simp; omega)]
            exact ⟨F, _, bs, rfl, hd, hF⟩
          have END := Lib.hid END
          clear hd hF hbw hall htl
          go_wp2_with fail
          go_ret2
          exact END.out
end Go.Proofs.Ytopnfpobbemfbaa
