/- The walk of Write (printed by gen_dskQ.py). -/
import Derived.Test.YtopnfpobbemfbaaDskP
import Derived.Deep.DeepCutAuto
import Derived.Deep.RegionHeld3
import Derived.Deep.RegionLaw
namespace Go.Proofs.Ytopnfpobbemfbaa
open Go.RowKit

theorem Bs.range {w : World} {g off len cap : Nat} {l : List UInt8} (h : Bs w (some ⟨g, off, none⟩) len cap l) : w.rangeAt g off (pcells l) := by
  intro j v hv
  have hj : j < len := by
    have := (List.getElem?_eq_some_iff.1 hv).1
    rw [pcells_length] at this; have := h.len; omega
  obtain ⟨b, o, e, _, hc⟩ := h.cell hj
  cases e
  rw [hc j hj]
  have hl : j < l.length := by have := h.len; omega
  simp [pcells, toI, List.getElem?_eq_getElem hl] at hv
  rw [List.getElem?_eq_getElem hl, Option.getD_some, hv]
theorem rangeAt_only {S : List Nat} {w w' : World} {g off : Nat} {cs : List Value} (h : w.rangeAt g off cs) (ho : Only S w w') (hg : g ∉ S) : w'.rangeAt g off cs := fun j v hv => by
  have h1 := h j v hv
  rw [← h1]
  exact World.cell?_of_block (ho.block (World.block_lt_of_cell? w _ h1) hg)
theorem atR_of {d : List Rg} {i : Nat} {x : Rg} (h : d[i]? = some x) : atR d (i : Int) = x := by rw [atR, Int.toNat_natCast, h]; rfl
theorem cntE_or (x : Rg) : cntE x = 0 ∨ cntE x = 3 := by unfold cntE; split <;> simp
theorem wrote_size (x : Rg) : (cntR x).size = x.size := by unfold cntR; split <;> (try split) <;> rfl
theorem pagedE_zero {d : List Rg} {r p : Int} (h : pagedE d r p = 0) : ∃ i pn : Nat, ∃ x, r = i ∧ p = pn ∧ d[i]? = some x ∧ x.down = false ∧ pn < x.size := by
  unfold pagedE at h
  split at h
  · rename_i hu
    split at h
    · rename_i hp
      unfold upE at hu
      split at hu
      · rename_i hr
        obtain ⟨i, rfl⟩ := Int.eq_ofNat_of_zero_le hr.1
        obtain ⟨pn, rfl⟩ := Int.eq_ofNat_of_zero_le hp.1
        have hi : i < d.length := by omega
        have hx : d[i]? = some d[i] := List.getElem?_eq_getElem hi
        rw [atR_of hx] at hp
        rw [Int.toNat_natCast, hx] at hu
        refine ⟨i, pn, _, rfl, rfl, hx, ?_, by omega⟩
        cases hd : d[i].down
        · rfl
        · simp [hd] at hu
      · cases hu
    · cases h
  · rename_i hu
    exact absurd h hu

def WritePost (w : World) (F : List Nat) (db M : Nat) (d : List Rg) (r p : Int) (l : List UInt8) (e : Ending) (w' : World) : Prop :=
  e = .returned (.int .i64 (writeE d r p l)) ∧ Only F w w' ∧ ∃ F' bs', DskIn w' F' db (M + 1) bs' (writeD d r p l) ∧ ∀ k ∈ F', k ∈ F ∨ w.heap.size ≤ k
set_option maxRecDepth 100000 in
set_option maxHeartbeats 8000000 in
theorem write_wide {w : World} {F : List Nat} {db M : Nat} {bs : List (Nat × List Nat)} {d : List Rg} (h : DskIn w F db M bs d) {a : Option Addr} {len cap : Nat} {l : List UInt8} (hb : Bs w a len cap l) (hF : len = 128 → ∀ g off, a = some ⟨g, off, none⟩ → g ∉ F) (hM : M ≤ 900000) (r p : Int) :
    Calls Try.prog 10 #[.pointer (some ⟨db, 0, none⟩), .int .i64 r, .int .i64 p, .slice a len cap] w (WritePost w F db M d r p l) := by
  have U := paged_any h r p
  have hll := hb.len
  by_cases hu : pagedE d r p = 0
  · obtain ⟨i, pn, x, rfl, rfl, hx, hdn, hpn⟩ := pagedE_zero hu
    have hi : i < d.length := (List.getElem?_eq_some_iff.1 hx).1
    obtain ⟨q, hq⟩ : ∃ q, bs[i]? = some q := ⟨_, List.getElem?_eq_getElem (by rw [h.len]; exact hi)⟩
    rw [hu] at U
    have U : Calls Try.prog 30 #[.pointer (some ⟨db, 0, none⟩), .int .i64 (i : Int), .int .i64 (pn : Int)] w fun e w' => e = .returned (.tuple #[.pointer (some ⟨q.1, 0, none⟩), .int .i64 0]) ∧ w = w' := U.mono fun e w' ⟨h1, h2⟩ => by
      refine ⟨?_, h2⟩
      rcases h1 with ⟨_, q', hq', he⟩ | ⟨h0, _⟩
      · rw [Int.toNat_natCast, hq] at hq'; cases hq'; exact he
      · exact absurd rfl h0
    have hE : writeE d i pn l = if l.length = 128 then cntE x else 1 := by rw [writeE, if_pos hu, atR_of hx]
    have hD : writeD d i pn l = if l.length = 128 then d.set i (wroteR x pn (toP l)) else d := by
      unfold writeD
      rw [atR_of hx, Int.toNat_natCast, Int.toNat_natCast]
      by_cases h1 : l.length = 128
      · rw [if_pos ⟨hu, h1⟩, if_pos h1]
      · rw [if_neg (fun h => h1 h.2), if_neg h1]
    by_cases hl : l.length = 128
    · rw [if_pos hl] at hE hD
      obtain rfl : len = 128 := by omega
      obtain ⟨g, off, rfl, hg, _⟩ := hb.cell (k := 0) (by omega)
      have hgF := hF rfl g off rfl
      have hgq : g ∉ q.2 := fun e => hgF (h.sub q (List.mem_of_getElem? hq) g e)
      have C := count_any (h.reg i q x hq hx)
      have R0 := hb.range
      rcases cntE_or x with hc | hc
      · -- it goes
        have hwr : wroteR x pn (toP l) = { cntR x with loose := (cntR x).loose ++ [(pn, toP l)] } := by
          unfold wroteR; rw [if_pos hc]
          unfold cntR; split <;> (try split) <;> rfl
        have KEY : ∀ w1, CountPost w q.2 q.1 M x (.returned (.int .i64 0)) w1 → ∃ a9 n9 k9 v9 m9 j9 w9, w1.cell? ⟨q.1, 2, none⟩ = some (.slice a9 n9 k9) ∧ (Builtin.append_ #[69, 69] 69 #[.slice a9 n9 k9, .slice (some ⟨w1.drew.heap.size, 0, none⟩) 1 1]).run Try.prog (w1.drew.alloc (.cells (wcells (pn, ⟨l, hl⟩)).toArray 78)) = .ok (.slice v9 m9 j9) w9 ∧
            (∃ k, w9.cell? ⟨q.1, 2, none⟩ = some k) ∧ w9.frozen? ⟨q.1, 2, none⟩ = false ∧ w1.drew.rangeAt g off (pcells l) ∧ w9.rangeAt g off (pcells l) ∧ (w9.setCell ⟨q.1, 2, none⟩ (.slice v9 m9 j9)).rangeAt g off (pcells l) ∧
            WritePost w F db M d i pn l (.returned (.int .i64 0)) (w9.setCell ⟨q.1, 2, none⟩ (.slice v9 m9 j9)) := by
          rintro w1 ⟨_, o1, r1⟩
          have hqb : q.1 ∈ q.2 := by obtain ⟨_, _, _, _, _, _, _, h5, _⟩ := h.reg i q x hq hx; exact h5
          obtain ⟨a9, k9, _, w9, c1, c2, c3, c4, c5, ⟨v9, m9, j9, rfl⟩, fp', c7, c8⟩ := (r1.only (S := []) (Only.refl _ _).drew (fun _ _ => by simp)).push pn (by rw [wrote_size]; exact hpn) ⟨l, hl⟩ (by omega)
          have o2 : Only q.2 w w9 := o1.drew.trans c5
          have o3 : Only q.2 w (w9.setCell ⟨q.1, 2, none⟩ (.slice v9 m9 j9)) := o2.set _ _ hqb
          have hs := o1.size
          refine ⟨a9, _, k9, v9, m9, j9, w9, c1, c2, c3, c4, rangeAt_only R0 o1.drew hgq, rangeAt_only R0 o2 hgq, rangeAt_only R0 o3 hgq, by rw [hE, hc], o3.mono (fun k hk => h.sub q (List.mem_of_getElem? hq) k hk), ?_⟩
          have hf : ∀ k ∈ fp', k ∈ q.2 ∨ w.heap.size ≤ k := fun k hk => (c8 k hk).imp id (fun h => Nat.le_trans hs h)
          rw [hD, hwr, show toP l = ⟨l, hl⟩ by rw [toP, dif_pos hl]]
          refine ⟨_, _, h.turn hq o3 c7 hf (Nat.le_succ M), fun k hk => ?_⟩
          rcases List.mem_append.1 hk with hk | hk
          · exact .inl hk
          · exact (hf k hk).imp (fun e => h.sub q (List.mem_of_getElem? hq) k e) id
        have C : Calls Try.prog 31 #[.pointer (some ⟨q.1, 0, none⟩)] w fun e w1 => e = .returned (.int .i64 0) ∧ CountPost w q.2 q.1 M x (.returned (.int .i64 0)) w1 := C.mono fun e w1 ⟨h1, h2, h3⟩ => ⟨by rw [h1, hc], by rw [hc], h2, h3⟩
        clear h hb hF hu hx hdn hq hE hD hgF hgq hll R0 hwr hg hc hi hpn hM
        go_enter Try.func10, Try.ntmps10
        go_wp2_with fail
        refine U.mono ?_
        rintro e w0 ⟨rfl, rfl⟩
        go_wp2_with fail
        refine C.mono ?_
        rintro e w1 ⟨rfl, hC⟩
        obtain ⟨a9, n9, k9, v9, m9, j9, w9, c9, hr9, ⟨k2, c10⟩, f10, hR, h9, h10, END⟩ := KEY w1 hC
        have hA := World.rangeAt_alloc hR (.cells (wcells (pn, ⟨l, hl⟩)).toArray 78)
        have hlt9 := World.block_lt_of_cell? w1 _ c9
        have cA : (w1.drew.alloc (.cells (wcells (pn, ⟨l, hl⟩)).toArray 78)).cell? ⟨q.1, 2, none⟩ = some (.slice a9 n9 k9) := ((Below.refl w1.heap.size w1.drew).alloc (Nat.le_refl _) _).cell (p := ⟨q.1, 2, none⟩) hlt9 |>.trans c9
        have c9 : w1.drew.cell? ⟨q.1, 2, none⟩ = some (.slice a9 n9 k9) := c9
        have END := Lib.hid END
        clear KEY hC C U
        go_wp2_with fail
        refine wp_region_noPanic ?_
        refine wp_region_held_drew (S := fun W => W.rangeAt g off (pcells l)) (by kernel_rfl) (by exact hR) (fun hHeld => ?_)
        refine wpAnyH_take (i := 0) (oi := { dst := some 30, op := Op.move (Operand.tmp 9), type := 67, pos := "disk.go:120", after := #[], guard := none }) (v := ?_) rfl (by kernel_rfl) (by kernel_rfl) (by kernel_rfl) (fun _ _ _ h => h) (Or.inl ⟨by rfl, ?_⟩) (by assumption) ?_
        rotate_left
        · (intro W hW; (try dsimp only at hW); go_simp <;> (with_reducible rfl))
        try simp only [Act.put, List.setIfInBounds_toArray, List.set_cons_zero, List.set_cons_succ]
        refine wpAnyH_take (i := 1) (oi := { dst := some 31, op := Op.move (Operand.tmp 9), type := 67, pos := "disk.go:120", after := #[], guard := none }) (v := ?_) rfl (by kernel_rfl) (by kernel_rfl) (by kernel_rfl) (fun _ _ _ h => h) (Or.inl ⟨by rfl, ?_⟩) (by assumption) ?_
        rotate_left
        · (intro W hW; (try dsimp only at hW); go_simp <;> (with_reducible rfl))
        try simp only [Act.put, List.setIfInBounds_toArray, List.set_cons_zero, List.set_cons_succ]
        refine wpAnyH_take (i := 2) (oi := { dst := some 32, op := Op.nilCheck (Operand.tmp 31), type := 0, pos := "disk.go:120", after := #[{ on := 1, ground := Ground.data }], guard := none }) (v := ?_) rfl (by kernel_rfl) (by kernel_rfl) (by kernel_rfl) (fun _ _ _ h => h) (Or.inl ⟨by rfl, ?_⟩) (by assumption) ?_
        rotate_left
        · (intro W hW; (try dsimp only at hW); go_simp <;> (with_reducible rfl))
        try simp only [Act.put, List.setIfInBounds_toArray, List.set_cons_zero, List.set_cons_succ]
        refine wpAnyH_take (i := 3) (oi := { dst := some 33, op := Op.fieldAddr 71 (Operand.tmp 32) 2, type := 0, pos := "disk.go:120", after := #[{ on := 2, ground := Ground.data }], guard := none }) (v := ?_) rfl (by kernel_rfl) (by kernel_rfl) (by kernel_rfl) (fun _ _ _ h => h) (Or.inl ⟨by rfl, ?_⟩) (by assumption) ?_
        rotate_left
        · (intro W hW; (try dsimp only at hW); go_simp <;> (with_reducible rfl))
        try simp only [Act.put, List.setIfInBounds_toArray, List.set_cons_zero, List.set_cons_succ]
        refine wpAnyH_take (i := 5) (oi := { dst := some 35, op := Op.move (Operand.tmp 2), type := 3, pos := "disk.go:120", after := #[], guard := none }) (v := ?_) rfl (by kernel_rfl) (by kernel_rfl) (by kernel_rfl) (fun _ _ _ h => h) (Or.inl ⟨by rfl, ?_⟩) (by assumption) ?_
        rotate_left
        · (intro W hW; (try dsimp only at hW); go_simp <;> (with_reducible rfl))
        try simp only [Act.put, List.setIfInBounds_toArray, List.set_cons_zero, List.set_cons_succ]
        refine wpAnyH_take (i := 6) (oi := { dst := some 36, op := Op.move (Operand.tmp 3), type := 22, pos := "disk.go:120", after := #[], guard := none }) (v := ?_) rfl (by kernel_rfl) (by kernel_rfl) (by kernel_rfl) (fun _ _ _ h => h) (Or.inl ⟨by rfl, ?_⟩) (by assumption) ?_
        rotate_left
        · (intro W hW; (try dsimp only at hW); go_simp <;> (with_reducible rfl))
        try simp only [Act.put, List.setIfInBounds_toArray, List.set_cons_zero, List.set_cons_succ]
        refine wpAnyH_take (i := 7) (oi := { dst := some 37, op := Op.sliceToArrayPointer 76 (Operand.tmp 36), type := 0, pos := "disk.go:120", after := #[{ on := 6, ground := Ground.data }], guard := none }) (v := .pointer (some ⟨g, off, none⟩)) rfl (by kernel_rfl) (by kernel_rfl) (by kernel_rfl) (fun _ _ _ h => h) (Or.inl ⟨by rfl, fun W _ => exec_arrayAt 76 _ rfl rfl Try.underlying76 (Nat.le_refl _)⟩) (by assumption) ?_
        try simp only [Act.put, List.setIfInBounds_toArray, List.set_cons_zero, List.set_cons_succ]
        refine wpAnyH_take (i := 8) (oi := { dst := some 38, op := Op.load 76 (Operand.tmp 37), type := 76, pos := "disk.go:120", after := #[{ on := 7, ground := Ground.data }], guard := none }) (v := pv l) rfl (by kernel_rfl) (by kernel_rfl) (by kernel_rfl) (fun _ _ _ h => h) (Or.inl ⟨by rfl, fun W hW => exec_load_mid 76 _ rfl g off rfl (pcells l) _ hW Try.underlying76 rfl (by rw [size_page, pcells_length, hl])⟩) (by assumption) ?_
        try simp only [Act.put, List.setIfInBounds_toArray, List.set_cons_zero, List.set_cons_succ]
        refine wpAnyH_take (i := 9) (oi := { dst := some 39, op := Op.build 78 #[(0, Operand.tmp 35), (1, Operand.tmp 38)], type := 78, pos := "disk.go:120", after := #[{ on := 5, ground := Ground.data }, { on := 8, ground := Ground.data }], guard := none }) (v := .agg (wcells (pn, ⟨l, hl⟩)).toArray) rfl (by kernel_rfl) (by kernel_rfl) (by kernel_rfl) (fun _ _ _ h => h) (Or.inl ⟨by rfl, fun W _ => exec_build_two (vx := .int .i64 (pn : Int)) (vy := pv l) 78 _ _ rfl rfl rfl (build_write W pn ⟨l, hl⟩)⟩) (by assumption) ?_
        try simp only [Act.put, List.setIfInBounds_toArray, List.set_cons_zero, List.set_cons_succ]
        refine wpAnyH_ready (rs := [4, 10]) (by kernel_rfl) (by simp) (AllReadyH.cons (o := { dst := some 34, op := Op.load 69 (Operand.tmp 33), type := 69, pos := "disk.go:120", after := #[{ on := 3, ground := Ground.data }], guard := none }) rfl (fun K hK => ?_) (AllReadyH.cons (o := { dst := some 40, op := Op.buildSlice 69 1 #[(0, Operand.tmp 39)], type := 69, pos := "disk.go:120", after := #[{ on := 9, ground := Ground.data }], guard := none }) rfl (fun K hK => ?_) AllReadyH.nil))
        · refine step_load_run rfl 69 _ rfl rfl (load_loose c9) ?_
          refine hK.out _ _ (by with_reducible assumption) (fun hHeld => ?_)
          clear hK K
          try simp only [Act.put, List.setIfInBounds_toArray, List.set_cons_zero, List.set_cons_succ]
          refine wpAnyH_ready (rs := [10]) (by kernel_rfl) (by simp) (AllReadyH.cons (o := { dst := some 40, op := Op.buildSlice 69 1 #[(0, Operand.tmp 39)], type := 69, pos := "disk.go:120", after := #[{ on := 9, ground := Ground.data }], guard := none }) rfl (fun K hK => ?_) AllReadyH.nil)
          refine step_buildSlice_one rfl 69 _ rfl rfl (row_write _ _) ?_
          refine hK.out _ _ (by exact hA) (fun hHeld => ?_)
          clear hK K
          try simp only [Act.put, List.setIfInBounds_toArray, List.set_cons_zero, List.set_cons_succ]
          refine wpAnyH_ready (rs := [11]) (by kernel_rfl) (by simp) (AllReadyH.cons (o := { dst := some 41, op := Op.call { callee := Callee.builtin Builtin.append, args := #[Operand.tmp 34, Operand.tmp 40], argTypes := #[69, 69] }, type := 69, pos := "disk.go:120", after := #[{ on := 4, ground := Ground.data }, { on := 10, ground := Ground.data }], guard := none }) rfl (fun K hK => ?_) AllReadyH.nil)
          refine step_append_run rfl _ _ _ _ rfl rfl rfl hr9 ?_
          refine hK.out _ _ (by exact h9) (fun hHeld => ?_)
          clear hK K
          try simp only [Act.put, List.setIfInBounds_toArray, List.set_cons_zero, List.set_cons_succ]
          refine wpAnyH_take (i := 12) (oi := { dst := some 42, op := Op.nilCheck (Operand.tmp 30), type := 0, pos := "disk.go:120", after := #[{ on := 0, ground := Ground.data }, { on := 0, ground := Ground.phase }, { on := 1, ground := Ground.phase }, { on := 2, ground := Ground.phase }, { on := 3, ground := Ground.phase }, { on := 4, ground := Ground.phase }, { on := 5, ground := Ground.phase }, { on := 6, ground := Ground.phase }, { on := 7, ground := Ground.phase }, { on := 8, ground := Ground.phase }, { on := 9, ground := Ground.phase }, { on := 10, ground := Ground.phase }, { on := 11, ground := Ground.phase }], guard := none }) (v := ?_) rfl (by kernel_rfl) (by kernel_rfl) (by kernel_rfl) (fun _ _ _ h => h) (Or.inl ⟨by rfl, ?_⟩) (by assumption) ?_
          rotate_left
          · (intro W hW; (try dsimp only at hW); go_simp <;> (with_reducible rfl))
          try simp only [Act.put, List.setIfInBounds_toArray, List.set_cons_zero, List.set_cons_succ]
          refine wpAnyH_take (i := 13) (oi := { dst := some 43, op := Op.fieldAddr 71 (Operand.tmp 42) 2, type := 0, pos := "disk.go:120", after := #[{ on := 12, ground := Ground.data }, { on := 0, ground := Ground.phase }, { on := 1, ground := Ground.phase }, { on := 2, ground := Ground.phase }, { on := 3, ground := Ground.phase }, { on := 4, ground := Ground.phase }, { on := 5, ground := Ground.phase }, { on := 6, ground := Ground.phase }, { on := 7, ground := Ground.phase }, { on := 8, ground := Ground.phase }, { on := 9, ground := Ground.phase }, { on := 10, ground := Ground.phase }, { on := 11, ground := Ground.phase }], guard := none }) (v := ?_) rfl (by kernel_rfl) (by kernel_rfl) (by kernel_rfl) (fun _ _ _ h => h) (Or.inl ⟨by rfl, ?_⟩) (by assumption) ?_
          rotate_left
          · (intro W hW; (try dsimp only at hW); go_simp <;> (with_reducible rfl))
          try simp only [Act.put, List.setIfInBounds_toArray, List.set_cons_zero, List.set_cons_succ]
          refine wpAnyH_ready (rs := [14]) (by kernel_rfl) (by simp) (AllReadyH.cons (o := { dst := none, op := Op.store 69 (Operand.tmp 43) (Operand.tmp 41), type := 0, pos := "disk.go:120", after := #[{ on := 13, ground := Ground.data }, { on := 11, ground := Ground.data }, { on := 11, ground := Ground.chain }, { on := 0, ground := Ground.phase }, { on := 1, ground := Ground.phase }, { on := 2, ground := Ground.phase }, { on := 3, ground := Ground.phase }, { on := 4, ground := Ground.phase }, { on := 5, ground := Ground.phase }, { on := 6, ground := Ground.phase }, { on := 7, ground := Ground.phase }, { on := 8, ground := Ground.phase }, { on := 9, ground := Ground.phase }, { on := 10, ground := Ground.phase }, { on := 11, ground := Ground.phase }], guard := none }) rfl (fun K hK => ?_) AllReadyH.nil)
          refine step_store_run rfl 69 _ _ rfl rfl rfl (store_loose c10 f10) ?_
          refine hK.out _ _ (by exact h10) (fun hHeld => ?_)
          clear hK K
          refine wpAnyH_done (by kernel_rfl) ?_ _
          refine NoPanic.normal ?_
          clear hHeld
          go_wp2_with fail
          go_ret
          exact END.out
        · refine step_buildSlice_one rfl 69 _ rfl rfl (row_write _ _) ?_
          refine hK.out _ _ (by exact hA) (fun hHeld => ?_)
          clear hK K
          try simp only [Act.put, List.setIfInBounds_toArray, List.set_cons_zero, List.set_cons_succ]
          refine wpAnyH_ready (rs := [4]) (by kernel_rfl) (by simp) (AllReadyH.cons (o := { dst := some 34, op := Op.load 69 (Operand.tmp 33), type := 69, pos := "disk.go:120", after := #[{ on := 3, ground := Ground.data }], guard := none }) rfl (fun K hK => ?_) AllReadyH.nil)
          refine step_load_run rfl 69 _ rfl rfl (load_loose cA) ?_
          refine hK.out _ _ (by exact hA) (fun hHeld => ?_)
          clear hK K
          try simp only [Act.put, List.setIfInBounds_toArray, List.set_cons_zero, List.set_cons_succ]
          refine wpAnyH_ready (rs := [11]) (by kernel_rfl) (by simp) (AllReadyH.cons (o := { dst := some 41, op := Op.call { callee := Callee.builtin Builtin.append, args := #[Operand.tmp 34, Operand.tmp 40], argTypes := #[69, 69] }, type := 69, pos := "disk.go:120", after := #[{ on := 4, ground := Ground.data }, { on := 10, ground := Ground.data }], guard := none }) rfl (fun K hK => ?_) AllReadyH.nil)
          refine step_append_run rfl _ _ _ _ rfl rfl rfl hr9 ?_
          refine hK.out _ _ (by exact h9) (fun hHeld => ?_)
          clear hK K
          try simp only [Act.put, List.setIfInBounds_toArray, List.set_cons_zero, List.set_cons_succ]
          refine wpAnyH_take (i := 12) (oi := { dst := some 42, op := Op.nilCheck (Operand.tmp 30), type := 0, pos := "disk.go:120", after := #[{ on := 0, ground := Ground.data }, { on := 0, ground := Ground.phase }, { on := 1, ground := Ground.phase }, { on := 2, ground := Ground.phase }, { on := 3, ground := Ground.phase }, { on := 4, ground := Ground.phase }, { on := 5, ground := Ground.phase }, { on := 6, ground := Ground.phase }, { on := 7, ground := Ground.phase }, { on := 8, ground := Ground.phase }, { on := 9, ground := Ground.phase }, { on := 10, ground := Ground.phase }, { on := 11, ground := Ground.phase }], guard := none }) (v := ?_) rfl (by kernel_rfl) (by kernel_rfl) (by kernel_rfl) (fun _ _ _ h => h) (Or.inl ⟨by rfl, ?_⟩) (by assumption) ?_
          rotate_left
          · (intro W hW; (try dsimp only at hW); go_simp <;> (with_reducible rfl))
          try simp only [Act.put, List.setIfInBounds_toArray, List.set_cons_zero, List.set_cons_succ]
          refine wpAnyH_take (i := 13) (oi := { dst := some 43, op := Op.fieldAddr 71 (Operand.tmp 42) 2, type := 0, pos := "disk.go:120", after := #[{ on := 12, ground := Ground.data }, { on := 0, ground := Ground.phase }, { on := 1, ground := Ground.phase }, { on := 2, ground := Ground.phase }, { on := 3, ground := Ground.phase }, { on := 4, ground := Ground.phase }, { on := 5, ground := Ground.phase }, { on := 6, ground := Ground.phase }, { on := 7, ground := Ground.phase }, { on := 8, ground := Ground.phase }, { on := 9, ground := Ground.phase }, { on := 10, ground := Ground.phase }, { on := 11, ground := Ground.phase }], guard := none }) (v := ?_) rfl (by kernel_rfl) (by kernel_rfl) (by kernel_rfl) (fun _ _ _ h => h) (Or.inl ⟨by rfl, ?_⟩) (by assumption) ?_
          rotate_left
          · (intro W hW; (try dsimp only at hW); go_simp <;> (with_reducible rfl))
          try simp only [Act.put, List.setIfInBounds_toArray, List.set_cons_zero, List.set_cons_succ]
          refine wpAnyH_ready (rs := [14]) (by kernel_rfl) (by simp) (AllReadyH.cons (o := { dst := none, op := Op.store 69 (Operand.tmp 43) (Operand.tmp 41), type := 0, pos := "disk.go:120", after := #[{ on := 13, ground := Ground.data }, { on := 11, ground := Ground.data }, { on := 11, ground := Ground.chain }, { on := 0, ground := Ground.phase }, { on := 1, ground := Ground.phase }, { on := 2, ground := Ground.phase }, { on := 3, ground := Ground.phase }, { on := 4, ground := Ground.phase }, { on := 5, ground := Ground.phase }, { on := 6, ground := Ground.phase }, { on := 7, ground := Ground.phase }, { on := 8, ground := Ground.phase }, { on := 9, ground := Ground.phase }, { on := 10, ground := Ground.phase }, { on := 11, ground := Ground.phase }], guard := none }) rfl (fun K hK => ?_) AllReadyH.nil)
          refine step_store_run rfl 69 _ _ rfl rfl rfl (store_loose c10 f10) ?_
          refine hK.out _ _ (by exact h10) (fun hHeld => ?_)
          clear hK K
          refine wpAnyH_done (by kernel_rfl) ?_ _
          refine NoPanic.normal ?_
          clear hHeld
          go_wp2_with fail
          go_ret
          exact END.out
      · -- it stops
        have END : ∀ w1, CountPost w q.2 q.1 M x (.returned (.int .i64 3)) w1 → WritePost w F db M d i pn l (.returned (.int .i64 3)) w1 := by
          rintro w1 ⟨_, o1, r1⟩
          refine ⟨by rw [hE, hc], o1.mono (fun k hk => h.sub q (List.mem_of_getElem? hq) k hk), ?_⟩
          rw [hD, wroteR, if_neg (by rw [hc]; decide)]
          refine ⟨_, _, h.turn hq o1 (r1.more (Nat.le_succ M)) (fun k hk => .inl hk) (Nat.le_succ M), fun k hk => ?_⟩
          rcases List.mem_append.1 hk with hk | hk
          · exact .inl hk
          · exact .inl (h.sub q (List.mem_of_getElem? hq) k hk)
        have C : Calls Try.prog 31 #[.pointer (some ⟨q.1, 0, none⟩)] w fun e w1 => e = .returned (.int .i64 3) ∧ CountPost w q.2 q.1 M x (.returned (.int .i64 3)) w1 := C.mono fun e w1 ⟨h1, h2, h3⟩ => ⟨by rw [h1, hc], by rw [hc], h2, h3⟩
        clear h hb hF hu hx hdn hq hE hD hgF hgq hll R0 hg hc hi hpn hM
        go_enter Try.func10, Try.ntmps10
        go_wp2_with fail
        refine U.mono ?_
        rintro e w0 ⟨rfl, rfl⟩
        go_wp2_with fail
        refine C.mono ?_
        rintro e w1 ⟨rfl, hC⟩
        have END := Lib.hid (END w1 hC)
        clear hC C U
        go_wp2
        go_ret
        exact END.out
    · rw [if_neg hl] at hE hD
      have q0 : ((len : Int) == 128) = false := by simp; omega
      have q1 : (len == 128) = false := by simp; omega
      have END := Lib.hid (show WritePost w F db M d i pn l (.returned (.int .i64 1)) w from ⟨by rw [hE], Only.refl _ _, F, bs, by rw [hD]; exact h.more (Nat.le_succ M), fun k hk => .inl hk⟩)
      clear h hb hF hu hx hdn hq hE hD hll hi hpn hM hl
      go_enter Try.func10, Try.ntmps10
      go_wp2_with fail
      refine U.mono ?_
      rintro e w0 ⟨rfl, rfl⟩
      go_wp2
      go_ret
      exact END.out
  · have hE : writeE d r p l = pagedE d r p := by rw [writeE, if_neg hu]
    have hD : writeD d r p l = d := by rw [writeD, if_neg (fun h => hu h.1)]
    have END := Lib.hid (show WritePost w F db M d r p l (.returned (.int .i64 (pagedE d r p))) w from ⟨by rw [hE], Only.refl _ _, F, bs, by rw [hD]; exact h.more (Nat.le_succ M), fun k hk => .inl hk⟩)
    have q0 : (pagedE d r p == 0) = false := by simpa using hu
    clear hE hD
    generalize pagedE d r p = er at *
    have U : Calls Try.prog 30 #[.pointer (some ⟨db, 0, none⟩), .int .i64 r, .int .i64 p] w fun e w' => e = .returned (.tuple #[.pointer none, .int .i64 er]) ∧ w = w' := U.mono fun e w' ⟨h1, h2⟩ => by
      refine ⟨?_, h2⟩
      rcases h1 with ⟨h0, _⟩ | ⟨_, he⟩
      · exact absurd h0 hu
      · exact he
    clear hu h hb hF hll hM
    go_enter Try.func10, Try.ntmps10
    go_wp2_with fail
    refine U.mono ?_
    rintro e w0 ⟨rfl, rfl⟩
    go_wp2
    go_ret
    exact END.out
theorem write_any {w : World} {F : List Nat} {db M : Nat} {bs : List (Nat × List Nat)} {d : List Rg} (h : DskIn w F db M bs d) {a : Option Addr} {len cap : Nat} {l : List UInt8} (hb : Bs w a len cap l) (hF : ∀ g off, a = some ⟨g, off, none⟩ → g ∉ F) (hM : M ≤ 900000) (r p : Int) :
    Calls Try.prog 10 #[.pointer (some ⟨db, 0, none⟩), .int .i64 r, .int .i64 p, .slice a len cap] w (WritePost w F db M d r p l) := write_wide h hb (fun _ => hF) hM r p
end Go.Proofs.Ytopnfpobbemfbaa
