/- A page is written. -/
import Derived.Test.YtopnfpobbemfbaaDskN
namespace Go.Proofs.Ytopnfpobbemfbaa
open Go.RowKit

section
variable {P : Program}
theorem run_arrayAt {w : World} {arr e : TypeId} {n len cap : Nat} {a : Option Addr} (hu : P.underlying arr = some (.array n e)) (hn : n ≤ len) : (Instr.arrayAt arr (.slice a len cap)).run P w = .ok (.pointer a) w := by
  unfold Instr.arrayAt
  simp only [Sem.run_bind, run_underlying hu w, Result.andThen_ok]
  rw [if_neg (by omega)]
  rfl
theorem exec_arrayAt {w : World} {a : Act} {o : Oper} (ty : TypeId) (x : Operand) (ho : o.op = .sliceToArrayPointer ty x) {e : TypeId} {n len cap : Nat} {p : Option Addr} (hx : a.eval x = .slice p len cap) (hu : P.underlying ty = some (.array n e)) (hn : n ≤ len) :
    (execOp a.eval o).run P w = .ok (.value (.pointer p)) w := by
  unfold execOp
  simp only [ho, hx, Sem.run_bind, Sem.run_pure, Result.andThen_ok, run_arrayAt hu hn]
theorem exec_load_mid {w : World} {a : Act} {o : Oper} (ty : TypeId) (x : Operand) (ho : o.op = .load ty x) (b off : Nat) (hx : a.eval x = .pointer (some ⟨b, off, none⟩)) (cs : List Value) (d : TypeDesc) (hc : w.rangeAt b off cs)
    (hu : P.underlying ty = some d) (hd : d.isRow = true) (hi : (P.info? ty).map (·.size) = some cs.length) : (execOp a.eval o).run P w = .ok (.value (.agg cs.toArray)) w := by
  unfold execOp
  simp only [ho, hx, Instr.loadAt, Instr.sureAddr, Sem.run_bind, Sem.run_pure, Result.andThen_ok, run_loadVar_mid w b off ty cs d hc hu hd hi]
theorem exec_build_two {w : World} {a : Act} {o : Oper} (t : TypeId) (x y : Operand) (ho : o.op = .build t #[(0, x), (1, y)]) {vx vy v : Value} (hx : a.eval x = vx) (hy : a.eval y = vy) (hr : (Instr.build t #[(0, vx), (1, vy)]).run P w = .ok v w) :
    (execOp a.eval o).run P w = .ok (.value v) w := by
  unfold execOp
  simp only [ho, Sem.run_bind, Sem.run_pure, Result.andThen_ok, List.map_toArray, List.map_cons, List.map_nil, hx, hy, hr]
theorem step_buildSlice_one {ops : Array Oper} {o : Oper} {a : Act} {w : World} {K : Act → World → Prop} {Q : Exit → Act → World → Prop} {E : Prop} (hgd : o.guard = none) (t : TypeId) (x : Operand) (ho : o.op = .buildSlice t 1 #[(0, x)]) {v r : Value} {w' : World} (hx : a.eval x = v)
    (hr : (Instr.buildSlice t 1 #[(0, v)]).run P w = .ok r w') (h : K (a.put o.dst r) w') : if Region.wanted o (yielded ops a.tmps) = true then Oper.wp P o a w K Q else E := by
  have hw : Region.wanted o (yielded ops a.tmps) = true := by simp [Region.wanted, hgd]
  rw [if_pos hw]
  unfold Oper.wp execOp
  simp only [ho, Sem.run_bind, Sem.run_pure, Result.andThen_ok, List.map_toArray, List.map_cons, List.map_nil, hx, hr]
  exact h
theorem step_load_run {ops : Array Oper} {o : Oper} {a : Act} {w : World} {K : Act → World → Prop} {Q : Exit → Act → World → Prop} {E : Prop} (hgd : o.guard = none) (ty : TypeId) (x : Operand) (ho : o.op = .load ty x) {v r : Value} (hx : a.eval x = v)
    (hr : (Instr.loadAt ty v).run P w = .ok r w) (h : K (a.put o.dst r) w) : if Region.wanted o (yielded ops a.tmps) = true then Oper.wp P o a w K Q else E := by
  have hw : Region.wanted o (yielded ops a.tmps) = true := by simp [Region.wanted, hgd]
  rw [if_pos hw]
  unfold Oper.wp execOp
  simp only [ho, Sem.run_bind, Sem.run_pure, Result.andThen_ok, hx, hr]
  exact h
theorem step_store_run {ops : Array Oper} {o : Oper} {a : Act} {w : World} {K : Act → World → Prop} {Q : Exit → Act → World → Prop} {E : Prop} (hgd : o.guard = none) (ty : TypeId) (x y : Operand) (ho : o.op = .store ty x y) {p v : Value} {w' : World} (hx : a.eval x = p) (hy : a.eval y = v)
    (hr : (Instr.storeAt ty p v).run P w = .ok () w') (h : K (a.put o.dst undef) w') : if Region.wanted o (yielded ops a.tmps) = true then Oper.wp P o a w K Q else E := by
  have hw : Region.wanted o (yielded ops a.tmps) = true := by simp [Region.wanted, hgd]
  rw [if_pos hw]
  unfold Oper.wp execOp
  simp only [ho, Sem.run_bind, Sem.run_pure, Result.andThen_ok, hx, hy, hr]
  exact h
end
theorem store_loose {W : World} {b n k : Nat} {a : Option Addr} {u : Value} (h : W.cell? ⟨b, 2, none⟩ = some u) (hf : W.frozen? ⟨b, 2, none⟩ = false) : (Instr.storeAt 69 (.pointer (some ⟨b, 2, none⟩)) (.slice a n k)).run Try.prog W = .ok () (W.setCell ⟨b, 2, none⟩ (.slice a n k)) := by
  go_simp
theorem load_loose {W : World} {b n k : Nat} {a : Option Addr} (h : W.cell? ⟨b, 2, none⟩ = some (.slice a n k)) : (Instr.loadAt 69 (.pointer (some ⟨b, 2, none⟩))).run Try.prog W = .ok (.slice a n k) W := by
  go_simp
theorem info_page : (Try.prog.info? 76).map (fun i => (i.zero, i.size, i.bytes)) = some (some (pv zpage.1), 128, 128) := by kernel_rfl
theorem info_write : (Try.prog.info? 78).map (fun i => (i.zero, i.size, i.bytes)) = some (some (.agg (wcells (0, zpage)).toArray), 129, 136) := by kernel_rfl
theorem info_int : (Try.prog.info? 3).map (fun i => (i.zero, i.size, i.bytes)) = some (some (.int .i64 0), 1, 8) := by kernel_rfl
theorem size_page : (Try.prog.info? 76).map (·.size) = some 128 := by
  obtain ⟨i, hi, _, hs, _⟩ := info_parts info_page
  rw [hi, Option.map_some, hs]
theorem size_write : (Try.prog.info? 78).map (·.size) = some 129 := by
  obtain ⟨i, hi, _, hs, _⟩ := info_parts info_write
  rw [hi, Option.map_some, hs]
theorem build_write (w : World) (p : Nat) (l : P128) : (Instr.build 78 #[(0, .int .i64 (p : Int)), (1, pv l.1)]).run Try.prog w = .ok (.agg (wcells (p, l)).toArray) w := by
  obtain ⟨i, hi, hz, hs, _⟩ := info_parts info_write
  obtain ⟨i0, hi0, hz0, hs0, _⟩ := info_parts info_int
  obtain ⟨i1, hi1, hz1, hs1, _⟩ := info_parts info_page
  have := run_build_two (P := Try.prog) (w := w) Try.underlying78 hi hz hi0 hi1 rfl (by rw [hs0]) (by rw [hs0, hs1]; simp [Value.cells, wcells_length]) (.int .i64 (p : Int)) (pv l.1) (by rw [hs0]; rfl) (by rw [hs1]; simp [pv, Value.cells, pcells_length, l.2])
  rw [this]
  simp [wcells, pv, Value.cells]
theorem row_write (w : World) (x : Nat × P128) : (Instr.buildSlice 69 1 #[(0, .agg (wcells x).toArray)]).run Try.prog w = .ok (.slice (some ⟨w.heap.size, 0, none⟩) 1 1) (w.alloc (.cells (wcells x).toArray 78)) := by
  obtain ⟨i, hi, hz, hs, _⟩ := info_parts info_write
  exact run_buildSlice_one Try.underlying69 hi hz (by rw [hs]; simp [Value.cells, wcells_length]) (by omega) (by omega) _ (by rw [hs]; simp [Value.cells, wcells_length])

theorem RegIn.push {w : World} {fp : List Nat} {b M : Nat} {x : Rg} (h : RegIn w fp b M x) (p : Nat) (hp : p < x.size) (l : P128) (hM : M ≤ 1000000) :
    ∃ a cap v' w', w.cell? ⟨b, 2, none⟩ = some (.slice a x.loose.length cap) ∧ (Builtin.append_ #[69, 69] 69 #[.slice a x.loose.length cap, .slice (some ⟨w.heap.size, 0, none⟩) 1 1]).run Try.prog (w.alloc (.cells (wcells (p, l)).toArray 78)) = .ok v' w' ∧
      (∃ k, w'.cell? ⟨b, 2, none⟩ = some k) ∧ w'.frozen? ⟨b, 2, none⟩ = false ∧ Only fp w w' ∧ (∃ a' n' c', v' = .slice a' n' c') ∧
      ∃ fp', RegIn (w'.setCell ⟨b, 2, none⟩ v') fp' b (M + 1) { x with loose := x.loose ++ [(p, l)] } ∧ ∀ k ∈ fp', k ∈ fp ∨ w.heap.size ≤ k := by
  obtain ⟨mb, n, v, h1, h2, h3, h4, h5, h6, h7, h8, h9, h10, h11⟩ := h
  obtain ⟨a1, a2⟩ := reg_apart h1 h2 h3
  obtain ⟨a, cap, rfl, _⟩ := own_slice h3
  obtain ⟨i, hi, hz, hs, hby⟩ := info_parts info_write
  have hn : x.loose.length ≤ 1000000 := by omega
  obtain ⟨v', w', hr, ho, hg, hv⟩ := run_append_new (P := Try.prog) 0 69 78 i _ 129 136 Try.underlying69 hi hz hs hby (by simp [Value.cells, wcells_length]) (by decide) h3 (wcells (p, l)).toArray (by simp [wcells_length]) (fun u hu => wcells_one _ u (by simpa using hu)) (by unfold maxLen; omega) (by omega) (Nat.zero_le _)
  have hb : w'.heap[b]? = some (.cells #[.int .i64 (x.size : Int), .map (some mb), .slice a x.loose.length cap, .int .i64 x.left, .bool x.down] 71 (0, 0)) :=
    (hg.block b (h8 b h5) (fun e => (a2 b e.symm).1 rfl)).trans h1
  have hmb : w'.heap[mb]? = w.heap[mb]? := hg.block mb (h8 mb h6) (fun e => (a2 mb e.symm).2 rfl)
  have hO : Only fp w w' := Only.of_grown hg (fun k hk => .inl (h7 k hk))
  obtain ⟨a', cap', rfl, _⟩ := own_slice ho
  have hv2 : ∀ k, Value.ownBlock (.slice a' (x.loose.length + 1) cap') = some k → k ≠ b := fun k hk => by
    rcases hv with hv | hv
    · rw [hv] at hk; exact (a2 k hk).1
    · rw [hv] at hk; cases hk; have := h8 b h5; omega
  refine ⟨a, cap, _, w', by simp [World.cell?, h1], hr, ⟨_, by simp only [World.cell?, hb]; rfl⟩, by simp [World.frozen?, hb], hO, ⟨_, _, _, rfl⟩, fp ++ (Value.ownBlock (.slice a' (x.loose.length + 1) cap')).toList, ?_, ?_⟩
  · have hO2 : Only [b] w' (w'.setCell ⟨b, 2, none⟩ (.slice a' (x.loose.length + 1) cap')) := (Only.refl _ _).set _ _ (by simp)
    refine ⟨mb, n, .slice a' (x.loose.length + 1) cap', ?_, ?_, ?_, ?_, List.mem_append_left _ h5, List.mem_append_left _ h6, fun k hk => List.mem_append_right _ (by rw [hk]; simp), fun k hk => ?_, h9, ?_, h11⟩
    · rw [heap_setCell_at 2 _ hb]; rfl
    · exact h2.kept ((hO2.block (Nat.lt_of_lt_of_le (h8 mb h6) hg.size) (by simpa using a1)).trans hmb)
    · have := own_only ho hO2 (fun k hk => by simpa using hv2 k hk)
      simpa using this
    · simp; omega
    · have hlt : k < w'.heap.size := by
        rcases List.mem_append.1 hk with hk | hk
        · exact Nat.lt_of_lt_of_le (h8 k hk) hg.size
        · rcases ho.2 with ⟨e, _⟩ | ⟨g, c, cur, e, _, hh, _⟩
          · rw [e] at hk; simp [Value.ownBlock] at hk
          · rw [e] at hk; simp [Value.ownBlock] at hk; subst hk; exact (Array.getElem?_eq_some_iff.1 hh).1
      exact Nat.lt_of_lt_of_le hlt hO2.size
    · intro q hq
      rcases List.mem_append.1 hq with hq | hq
      · exact h10 q hq
      · simp at hq; subst hq; exact hp
  · intro k hk
    rcases List.mem_append.1 hk with hk | hk
    · exact .inl hk
    · rcases hv with hv | hv
      · rw [hv] at hk; exact .inl (h7 k (by simpa using hk))
      · rw [hv] at hk; simp at hk; right; omega
end Go.Proofs.Ytopnfpobbemfbaa
