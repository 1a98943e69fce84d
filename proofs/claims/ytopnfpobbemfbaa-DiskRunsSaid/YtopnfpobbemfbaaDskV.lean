/- The walk of settle (printed by gen_dskV.py): loose writes of which something is so stay. -/
import Derived.Test.YtopnfpobbemfbaaDskU
import Derived.Deep.DeepCutAuto
import Derived.Deep.RegionHeld3
import Derived.Deep.RegionLaw
namespace Go.Proofs.Ytopnfpobbemfbaa
open Go.RowKit

section
variable {P : Program}
theorem step_mapUpdate_run {ops : Array Oper} {o : Oper} {a : Act} {w : World} {K : Act → World → Prop} {Q : Exit → Act → World → Prop} {E : Prop} (hgd : o.guard = none) (ty : TypeId) (x y z : Operand) (ho : o.op = .mapUpdate ty x y z) {m k v : Value} {w' : World} (hx : a.eval x = m) (hy : a.eval y = k) (hz : a.eval z = v)
    (hr : (Instr.mapUpdate ty m k v).run P w = .ok () w') (h : K (a.put o.dst undef) w') : if Region.wanted o (yielded ops a.tmps) = true then Oper.wp P o a w K Q else E := by
  have hw : Region.wanted o (yielded ops a.tmps) = true := by simp [Region.wanted, hgd]
  rw [if_pos hw]
  unfold Oper.wp execOp
  simp only [ho, Sem.run_bind, Sem.run_pure, Result.andThen_ok, hx, hy, hz, hr]
  exact h
end
theorem laid_take (keep : Nat → Bool) (l : List (Nat × P128)) (f : Nat → P128) (k : Nat) (y : Nat × P128) (h : l[k]? = some y) :
    laid keep 0 (l.take (k + 1)) f = if keep k then (fun q => if q = y.1 then y.2 else laid keep 0 (l.take k) f q) else laid keep 0 (l.take k) f := by
  have hk := (List.getElem?_eq_some_iff.1 h)
  rw [List.take_succ_eq_append_getElem hk.1, hk.2, laid_snoc, List.length_take, Nat.min_eq_left (Nat.le_of_lt hk.1), Nat.zero_add]
/-- What a round of settle leaves. -/
def SetRel (w : World) (mb n : Nat) (x : Rg) (keep : Nat → Bool) (k : Nat) (wr : World) : Prop := ∃ nn, nn ≤ n + k ∧ PgMap wr mb nn (laid keep 0 (x.loose.take k) x.pages) ∧ Only [mb] w wr
def SettlePost (w : World) (fp : List Nat) (b M : Nat) (x : Rg) (e : Ending) (w' : World) : Prop := e = .returned (.tuple #[]) ∧ Only fp w w' ∧ RegIn w' fp b M x
theorem RegIn.parts {w : World} {fp : List Nat} {b M : Nat} {x : Rg} (h : RegIn w fp b M x) (keep : Nat → Bool) : ∃ mb n a cap, w.cell? ⟨b, 1, none⟩ = some (.map (some mb)) ∧ w.cell? ⟨b, 2, none⟩ = some (.slice a x.loose.length cap) ∧ mb ∈ fp ∧ b ≠ mb ∧ b < w.heap.size ∧ mb < w.heap.size ∧ (∀ j, w.frozen? ⟨b, j, none⟩ = false) ∧
    x.loose.length ≤ cap ∧ cap ≤ 9223372036854775807 ∧ n + x.loose.length ≤ M ∧ PgMap w mb n x.pages ∧ (∀ k y, x.loose[k]? = some y → ∃ g, a = some ⟨g, 0, none⟩ ∧ g ≠ mb ∧ g < w.heap.size ∧ y.1 < x.size ∧ w.rangeAt g (k * 129) (wcells y)) ∧
    (∀ w1, SetRel w mb n x keep x.loose.length w1 → SettlePost w fp b M (settled x keep) (.returned (.tuple #[])) (w1.setCell ⟨b, 2, none⟩ (.slice none 0 0))) := by
  obtain ⟨mb, n, v, h1, h2, h3, h4, h5, h6, h7, h8, h9, h10, h11⟩ := h
  obtain ⟨a1, a2⟩ := reg_apart h1 h2 h3
  obtain ⟨a, cap, rfl, hc1, hc2, _⟩ := own_slice h3
  refine ⟨mb, n, a, cap, by simp [World.cell?, h1], by simp [World.cell?, h1], h6, fun e => a1 e.symm, h8 b h5, h8 mb h6, fun j => by simp [World.frozen?, h1], hc1, by unfold maxLen at hc2; omega, h4, h2, fun k y hy => ?_, ?_⟩
  · obtain ⟨g, cap', e, _, _, hr⟩ := own_range h3 hy
    cases e
    exact ⟨g, rfl, (a2 g rfl).2, h8 g (h7 g rfl), h10 y (List.mem_of_getElem? hy), hr⟩
  · rintro w1 ⟨nn, hnn, hm, ho⟩
    rw [List.take_length] at hm
    have hb : w1.heap[b]? = some (.cells #[.int .i64 (x.size : Int), .map (some mb), .slice a x.loose.length cap, .int .i64 x.left, .bool x.down] 71 (0, 0)) := (ho.block (h8 b h5) (by simp; exact fun e => a1 e.symm)).trans h1
    have ho2 : Only fp w (w1.setCell ⟨b, 2, none⟩ (.slice none 0 0)) := (ho.mono (S' := fp) (fun k hk => by simp at hk; subst hk; exact h6)).set _ _ h5
    refine ⟨rfl, ho2, mb, nn, .slice none 0 0, by rw [heap_setCell_at 2 _ hb]; rfl, ?_, World.ownsRow_nil _ _ _ _, ?_, h5, h6, (fun k hk => by cases hk), fun k hk => Nat.lt_of_lt_of_le (h8 k hk) ho2.size, h9, (fun p hp => by simp [settled] at hp), h11⟩
    · exact hm.kept (Below.heap_setCell w1 _ _ mb a1)
    · simp [settled]; omega
set_option maxRecDepth 100000 in
set_option maxHeartbeats 8000000 in
theorem settle_any {w : World} {fp : List Nat} {b M : Nat} {x : Rg} (h : RegIn w fp b M x) (hM : M ≤ 1000000) (fn : Nat) (caps : Array Value) (keep : Nat → Bool)
    (HF : ∀ (args : Array Value) (W : World), (callFunc fn args).run Try.prog W = .ok (.enter fn args) W)
    (C : ∀ (k : Nat) W, k < x.loose.length → Only fp w W → Calls Try.prog fn (#[.int .i64 (k : Int)] ++ caps) W fun e w' => e = .returned (.bool (keep k)) ∧ W = w') :
    Calls Try.prog 33 #[.pointer (some ⟨b, 0, none⟩), .func (.func fn) #[] caps] w (SettlePost w fp b M (settled x keep)) := by
  obtain ⟨mb, n, a, cap, c1, c2, hmf, hbm, hblt, hmlt, hfz, hc1, hc2, hnM, hpm, hrow, END⟩ := h.parts keep
  have hsz : x.size ≤ 1000 := by obtain ⟨_, _, _, _, _, _, _, _, _, _, _, h9, _⟩ := h; exact h9
  have hmono : ∀ W, Only [mb] w W → Only fp w W := fun W ho => ho.mono (fun k hk => by simp at hk; subst hk; exact hmf)
  have HMONO := Lib.hid hmono
  have HC := Lib.hid C
  have HROW := Lib.hid hrow
  have HEND := Lib.hid END
  have hfz2 := hfz 2
  have HPM := Lib.hid hpm
  clear h hmono C hrow END hfz hpm
  go_enter Try.func33, Try.ntmps33
  go_wp2_with fail
  go_loopw [11] (fun s wr => ∃ (k : Nat), k ≤ x.loose.length ∧ s = .int .i64 k ∧ SetRel w mb n x keep k wr) (fun s _ => x.loose.length - (intOf s).toNat)
  case atStart => exact ⟨0, Nat.zero_le _, rfl, n, by omega, HPM.out, Only.refl _ _⟩
  case round =>
    obtain ⟨k, hk, rfl, hrel⟩ := hrel
    by_cases hlt : k < x.loose.length
    · obtain ⟨y, hy⟩ : ∃ y, x.loose[k]? = some y := ⟨_, List.getElem?_eq_getElem hlt⟩
      obtain ⟨g, rfl, hgm, hglt, hys, hr⟩ := HROW.out k y hy
      obtain ⟨nn, hnn, hpm, ho⟩ := hrel
      have hr2 : wr.rangeAt g (k * 129) (wcells y) := rangeAt_only hr ho (by simpa using hgm)
      have HL := load_write hr2
      obtain ⟨w2, hfill, hb2, hs2, hra2, hfz2'⟩ := fresh_fill (P := Try.prog) wr 78 (wcells (0, zpage)) (wcells y) (by rw [wcells_length, wcells_length]) (wcells_one y)
      have hwr := ho.size
      have ho2 : Only [mb] w w2 := ho.then (S' := []) (Only.of_below hb2) (fun _ h => by simp at h)
      have HCK := HC.out k w2 hlt (HMONO.out w2 ho2)
      have ZW := zero_write
      have SZ := wcells_length y
      have hLT := laid_take keep x.loose x.pages k y hy
      have HCK2 := Lib.hid HCK
      clear HCK
      cases hkeep : keep k with
      | true =>
        rw [hkeep] at hLT
        have HCK := HCK2.out
        rw [hkeep] at HCK
        simp only [if_true] at hLT
        have hpm2 : PgMap w2.drew mb nn (laid keep 0 (x.loose.take k) x.pages) := hpm.kept (hb2.block mb (Nat.lt_of_lt_of_le hmlt hwr))
        obtain ⟨w3, hup, hpm3, hg3⟩ := hpm2.update y.1 (by omega) y.2 (by omega)
        have ho3 : Only [mb] w w3 := ho2.drew.trans (Only.of_grown hg3 (fun j hj => by cases hj; exact .inl (by simp)))
        have END : ∃ k' : Nat, k' ≤ x.loose.length ∧ Value.int .i64 ((k + 1 : Nat) : Int) = .int .i64 k' ∧ SetRel w mb n x keep k' w3 := ⟨k + 1, hlt, rfl, nn + 1, by omega, by rw [hLT]; exact hpm3, ho3⟩
        have END := Lib.hid END
        have c1r : w2.drew.cell? ⟨b, 1, none⟩ = some (.map (some mb)) := (World.cell?_of_block (ho2.block hblt (by simpa using hbm))).trans c1
        have c5r : w2.drew.cell? ⟨wr.heap.size, 0, none⟩ = some (.int .i64 (y.1 : Int)) := wcells_at hra2
        have r5r : w2.drew.rangeAt wr.heap.size 1 (pcells y.2.1) := by have := wcells_page hra2; rwa [Nat.zero_add] at this
        have hgr := hg3.size
        have hne5 : wr.heap.size ≠ mb := by omega
        have k1r : w3.cell? ⟨b, 1, none⟩ = some (.map (some mb)) := (World.cell?_of_block (ho3.block hblt (by simpa using hbm))).trans c1
        have k5 : w3.heap[wr.heap.size]? = w2.drew.heap[wr.heap.size]? := hg3.block _ (by simpa using hs2) (fun e => by cases e; exact hne5 rfl)
        have k5r : w3.cell? ⟨wr.heap.size, 0, none⟩ = some (.int .i64 (y.1 : Int)) := (World.cell?_of_block k5).trans c5r
        have q5r : w3.rangeAt wr.heap.size 1 (pcells y.2.1) := fun j v hv => (World.cell?_of_block k5).trans (r5r j v hv)
        clear hra2 hfz2' hs2 hr hr2 hpm hpm2 hpm3 hg3 ho ho2 ho3 hb2 hgr hwr hLT hy hnn k5 hne5 HCK2 hkeep
        go_wp2_with fail
        refine wp_load_run 78 _ rfl rfl HL ?_
        go_at_K
        go_wp2_with fail
        refine HCK.mono ?_
        rintro e w9 ⟨rfl, rfl⟩
        clear HCK HF HL hfill
        go_wp2_with fail
        refine wp_region_noPanic ?_
        refine wp_region_held_drew (S := fun W => W.cell? ⟨b, 1, none⟩ = some (.map (some mb)) ∧ W.cell? ⟨wr.heap.size, 0, none⟩ = some (.int .i64 (y.1 : Int)) ∧ W.rangeAt wr.heap.size 1 (pcells y.2.1)) (by kernel_rfl) (by exact ⟨c1r, c5r, r5r⟩) (fun hHeld => ?_)
        refine wpAnyH_take (i := 0) (oi := { dst := some 19, op := Op.move (Operand.tmp 0), type := 67, pos := "disk.go:128", after := #[], guard := none }) (v := ?_) rfl (by kernel_rfl) (by kernel_rfl) (by kernel_rfl) (fun _ _ _ h => h) (Or.inl ⟨by rfl, ?_⟩) (by assumption) ?_
        rotate_left
        · (intro W hW; obtain ⟨hW1, hW2, hW3⟩ := hW; go_simp <;> (with_reducible rfl))
        try simp only [Act.put, List.setIfInBounds_toArray, List.set_cons_zero, List.set_cons_succ]
        refine wpAnyH_take (i := 1) (oi := { dst := some 20, op := Op.nilCheck (Operand.tmp 19), type := 0, pos := "disk.go:128", after := #[{ on := 0, ground := Ground.data }], guard := none }) (v := ?_) rfl (by kernel_rfl) (by kernel_rfl) (by kernel_rfl) (fun _ _ _ h => h) (Or.inl ⟨by rfl, ?_⟩) (by assumption) ?_
        rotate_left
        · (intro W hW; obtain ⟨hW1, hW2, hW3⟩ := hW; go_simp <;> (with_reducible rfl))
        try simp only [Act.put, List.setIfInBounds_toArray, List.set_cons_zero, List.set_cons_succ]
        refine wpAnyH_take (i := 2) (oi := { dst := some 21, op := Op.fieldAddr 71 (Operand.tmp 20) 1, type := 0, pos := "disk.go:128", after := #[{ on := 1, ground := Ground.data }], guard := none }) (v := ?_) rfl (by kernel_rfl) (by kernel_rfl) (by kernel_rfl) (fun _ _ _ h => h) (Or.inl ⟨by rfl, ?_⟩) (by assumption) ?_
        rotate_left
        · (intro W hW; obtain ⟨hW1, hW2, hW3⟩ := hW; go_simp <;> (with_reducible rfl))
        try simp only [Act.put, List.setIfInBounds_toArray, List.set_cons_zero, List.set_cons_succ]
        refine wpAnyH_take (i := 3) (oi := { dst := some 22, op := Op.load 68 (Operand.tmp 21), type := 68, pos := "disk.go:128", after := #[{ on := 2, ground := Ground.data }], guard := none }) (v := ?_) rfl (by kernel_rfl) (by kernel_rfl) (by kernel_rfl) (fun _ _ _ h => h) (Or.inl ⟨by rfl, ?_⟩) (by assumption) ?_
        rotate_left
        · (intro W hW; obtain ⟨hW1, hW2, hW3⟩ := hW; go_simp <;> (with_reducible rfl))
        try simp only [Act.put, List.setIfInBounds_toArray, List.set_cons_zero, List.set_cons_succ]
        refine wpAnyH_take (i := 4) (oi := { dst := some 23, op := Op.fieldAddr 78 (Operand.tmp 5) 0, type := 0, pos := "disk.go:128", after := #[], guard := none }) (v := ?_) rfl (by kernel_rfl) (by kernel_rfl) (by kernel_rfl) (fun _ _ _ h => h) (Or.inl ⟨by rfl, ?_⟩) (by assumption) ?_
        rotate_left
        · (intro W hW; obtain ⟨hW1, hW2, hW3⟩ := hW; go_simp <;> (with_reducible rfl))
        try simp only [Act.put, List.setIfInBounds_toArray, List.set_cons_zero, List.set_cons_succ]
        refine wpAnyH_take (i := 5) (oi := { dst := some 24, op := Op.load 3 (Operand.tmp 23), type := 3, pos := "disk.go:128", after := #[{ on := 4, ground := Ground.data }], guard := none }) (v := ?_) rfl (by kernel_rfl) (by kernel_rfl) (by kernel_rfl) (fun _ _ _ h => h) (Or.inl ⟨by rfl, ?_⟩) (by assumption) ?_
        rotate_left
        · (intro W hW; obtain ⟨hW1, hW2, hW3⟩ := hW; go_simp <;> (with_reducible rfl))
        try simp only [Act.put, List.setIfInBounds_toArray, List.set_cons_zero, List.set_cons_succ]
        refine wpAnyH_take (i := 6) (oi := { dst := some 25, op := Op.fieldAddr 78 (Operand.tmp 5) 1, type := 0, pos := "disk.go:128", after := #[], guard := none }) (v := ?_) rfl (by kernel_rfl) (by kernel_rfl) (by kernel_rfl) (fun _ _ _ h => h) (Or.inl ⟨by rfl, ?_⟩) (by assumption) ?_
        rotate_left
        · (intro W hW; obtain ⟨hW1, hW2, hW3⟩ := hW; go_simp <;> (with_reducible rfl))
        try simp only [Act.put, List.setIfInBounds_toArray, List.set_cons_zero, List.set_cons_succ]
        refine wpAnyH_take (i := 7) (oi := { dst := some 26, op := Op.load 76 (Operand.tmp 25), type := 76, pos := "disk.go:128", after := #[{ on := 6, ground := Ground.data }], guard := none }) (v := pv y.2.1) rfl (by kernel_rfl) (by kernel_rfl) (by kernel_rfl) (fun _ _ _ h => h) (Or.inl ⟨by rfl, fun W hW => exec_load_mid 76 _ rfl wr.heap.size 1 rfl (pcells y.2.1) _ hW.2.2 Try.underlying76 rfl (by rw [size_page, pcells_length, y.2.2])⟩) (by assumption) ?_
        try simp only [Act.put, List.setIfInBounds_toArray, List.set_cons_zero, List.set_cons_succ]
        refine wpAnyH_ready (rs := [8]) (by kernel_rfl) (by simp) (AllReadyH.cons (o := { dst := none, op := Op.mapUpdate 68 (Operand.tmp 22) (Operand.tmp 24) (Operand.tmp 26), type := 0, pos := "disk.go:128", after := #[{ on := 3, ground := Ground.data }, { on := 5, ground := Ground.data }, { on := 7, ground := Ground.data }, { on := 0, ground := Ground.phase }, { on := 1, ground := Ground.phase }, { on := 2, ground := Ground.phase }, { on := 3, ground := Ground.phase }, { on := 4, ground := Ground.phase }, { on := 5, ground := Ground.phase }, { on := 6, ground := Ground.phase }, { on := 7, ground := Ground.phase }], guard := none }) rfl (fun K hK => ?_) AllReadyH.nil)
        refine step_mapUpdate_run rfl 68 _ _ _ rfl rfl rfl rfl hup ?_
        refine hK.out _ _ (by exact ⟨k1r, k5r, q5r⟩) (fun hHeld => ?_)
        clear hK K
        refine wpAnyH_done (by kernel_rfl) ?_ _
        refine NoPanic.normal ?_
        clear hHeld
        go_wp2_with fail
        go_roundw
        case rel => exact END.out
        case measure => simp [intOf]; omega
      | false =>
        rw [hkeep] at hLT
        have HCK := HCK2.out
        rw [hkeep] at HCK
        rw [if_neg (by decide)] at hLT
        have hpm2 : PgMap w2 mb nn (laid keep 0 (x.loose.take k) x.pages) := hpm.kept (hb2.block mb (Nat.lt_of_lt_of_le hmlt hwr))
        have END : ∃ k' : Nat, k' ≤ x.loose.length ∧ Value.int .i64 ((k + 1 : Nat) : Int) = .int .i64 k' ∧ SetRel w mb n x keep k' w2 := ⟨k + 1, hlt, rfl, nn, by omega, by rw [hLT]; exact hpm2, ho2⟩
        have END := Lib.hid END
        clear hra2 hfz2' hs2 hr hr2 hpm hpm2 ho ho2 hb2 hwr hLT hy hnn HCK2 hkeep
        go_wp2_with fail
        refine wp_load_run 78 _ rfl rfl HL ?_
        go_at_K
        go_wp2_with fail
        refine HCK.mono ?_
        rintro e w9 ⟨rfl, rfl⟩
        clear HCK HF HL hfill
        go_wp2_with fail
        go_roundw
        case rel => exact END.out
        case measure => simp [intOf]; omega
    · obtain rfl : k = x.loose.length := by omega
      have END := Lib.hid (HEND.out wr hrel)
      obtain ⟨nn, hnn, hpm, ho⟩ := hrel
      have e2 : wr.cell? ⟨b, 2, none⟩ = some (.slice a x.loose.length cap) := (World.cell?_of_block (ho.block hblt (by simpa using hbm))).trans c2
      have f2 : wr.frozen? ⟨b, 2, none⟩ = false := (World.frozen?_of_block (ho.block hblt (by simpa using hbm))).trans hfz2
      clear hnn hpm ho HF
      go_wp2_with fail
      (first | go_end0 | refine bodyPost_end (results_none rfl _ _ _) rfl ?_)
      exact END.out
end Go.Proofs.Ytopnfpobbemfbaa
