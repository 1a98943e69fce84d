/- The laws of the chapter on nodes: a node, as the reference has it; cells as texts; few and short. -/
import Derived.Test.YtjdepdgoaopfoaaDoorNodH
import Derived.Test.YtjdepdgoaopfoaaDoorHeld
import Derived.Deep.RegionLaw
namespace Go.Proofs.YtjdepdgoaopfoaaDoor
open Go.RowKit

theorem take_cells (l : List En) (k : Nat) (e : En) (h : l[k]? = some e) : l.take (k + 1) = l.take k ++ [e] := by rw [List.take_add_one, h]; rfl
def PlainPost (w : World) (leaf : Bool) (l : List En) (e : Ending) (w' : World) : Prop :=
  ∃ v, e = .returned (.agg #[.bool leaf, v]) ∧ OwnRe w' w.heap.size v l ∧ Below w.heap.size w w'

set_option maxRecDepth 100000 in
set_option maxHeartbeats 16000000 in
theorem nplain_any (leaf : Bool) (a : Option Addr) (len cap : Nat) (l : List En) (w : World) (h : Ents w a len cap l) (hlen : len ≤ 65536) :
    Calls Tryd.prog 27 #[.agg #[.bool leaf, .slice a len cap]] w (PlainPost w leaf l) := by
  have hB := below_three w (.cells #[.bool leaf, .slice a len cap] 52) (.cells #[.bool false, .slice none 0 0] 56) (.cells #[.bool leaf, .slice none 0 0] 56)
  have BX := (((Boxes.nil w).alloc #[.bool leaf, .slice a len cap] 52 rfl).alloc #[.bool false, .slice none 0 0] 56 (by simp : _ = w.heap.size + 1)).alloc #[.bool leaf, .slice none 0 0] 56 (by simp : _ = w.heap.size + 1 + 1)
  have hll := Lib.hid h.len
  go_enter Tryd.func27, Tryd.ntmps27
  go_wp2_with fail
  have HX := Lib.hid BX
  have HB := Lib.hid hB
  clear BX hB
  go_loopw [4] (fun i wr => ∃ (k : Nat) (v : Value), k ≤ len ∧ i = .int .i64 k ∧ Boxes wr [(w.heap.size + 1 + 1, [.bool leaf, v]), (w.heap.size + 1, [.bool false, .slice none 0 0]), (w.heap.size, [.bool leaf, .slice a len cap])] ∧ OwnRe wr (w.heap.size + 3) v (l.take k) ∧ Below w.heap.size w wr) (fun i _ => len - (intOf i).toNat)
  case atStart => exact ⟨0, _, Nat.zero_le _, rfl, HX.out, OwnRe.nil _ _, HB.out⟩
  case round =>
    obtain ⟨k, v, hk, rfl, BX, hown, hbw⟩ := hrel
    have d1 := BX.cell 2 1 rfl rfl
    by_cases hlt : k < len
    · obtain ⟨b, off, e, rfl, hbb, hy, e0, e1, e2, e3, e4⟩ := (h.below (Nat.le_refl _) hbw).at hlt
      obtain ⟨b', off', e', q1, hbw0, q2, _⟩ := h.at hlt
      cases q1
      have hn2 := BX.lt 0 rfl
      have hb6 := below_one wr (.cells #[.string (strOf e.v.data), .bool e.v.far, .int .i64 e.v.size, .int .i64 e.v.page] 74)
      have B6 := BX.alloc #[.string (strOf e.v.data), .bool e.v.far, .int .i64 e.v.size, .int .i64 e.v.page] 74 rfl
      have hown6 := hown.below (Nat.le_refl _) hb6
      have hlt6 := Lib.hid (own_lt hown)
      have hbw6 := below_then hbw hb6
      have k0 := (hb6.cell (p := ⟨b, off + k * 5, none⟩) hbb).trans e0
      go_wp2_with fail
      clear e0 e1 e2 e3 e4 d1 hown BX hb6
      generalize wr.alloc _ = W6 at *
      have hx := own_ge hown6
      obtain ⟨v9, w9, hr9, ho9, hg9⟩ := append_re (w := W6.drew) hown6 e (by simp; omega) (by have := B6.lt 1 rfl; simp; omega)
      obtain ⟨a9, k9, rfl, hk91, hk92, hk93⟩ := own_slice ho9
      have hne6 : ∀ j, v.ownBlock = some j → w.heap.size + 3 ≤ j := own_ge hown6
      have B9 := (B6.drew.sub (m := [(w.heap.size + 1 + 1, [.bool leaf, v]), (w.heap.size + 1, [.bool false, .slice none 0 0]), (w.heap.size, [.bool leaf, .slice (some ⟨b, off, none⟩) len cap])]) (fun p hp => List.mem_cons_of_mem _ hp)).grown hg9 (fun p hp => by
        intro e; have := hne6 _ e; simp at hp; rcases hp with rfl | rfl | rfl <;> simp at this <;> omega)
      have hbw9 : Below w.heap.size w w9 := (hbw6.drew).grown hg9 hbw6.size (fun j e => by have := hne6 j e; omega)
      have hl9 : (l.take k ++ [e]).length = k + 1 := by have := hll.out; simp; omega
      rw [hl9] at hr9 ho9
      rw [← take_cells l k e hy] at ho9
      have f1 := B9.frozen 0 1 rfl
      have g1 := B9.cell 0 1 rfl rfl
      have HO9 := Lib.hid ho9
      have HB9 := Lib.hid hbw9
      clear hk91 hk92 hk93 hl9 ho9 hbw9 hx
      have HN6 := Lib.hid hne6
      clear hne6
      have hld : Held [(wr.heap.size, [.string (strOf e.v.data), .bool e.v.far, .int .i64 e.v.size, .int .i64 e.v.page]), (w.heap.size, [.bool leaf, .slice (some ⟨b, off, none⟩) len cap])] [(⟨b, off + k * 5, none⟩, .string (strOf e.key))] W6.drew := Held.mk (B6.drew.sub (by simp)) (by simpa using k0)
      have c0 : ∀ W, Held [(wr.heap.size, [.string (strOf e.v.data), .bool e.v.far, .int .i64 e.v.size, .int .i64 e.v.page]), (w.heap.size, [.bool leaf, .slice (some ⟨b, off, none⟩) len cap])] [(⟨b, off + k * 5, none⟩, .string (strOf e.key))] W → W.cell? ⟨wr.heap.size, 0, none⟩ = some (.string (strOf e.v.data)) := fun W h => h.box 0 0 rfl rfl
      have c1 : ∀ W, Held [(wr.heap.size, [.string (strOf e.v.data), .bool e.v.far, .int .i64 e.v.size, .int .i64 e.v.page]), (w.heap.size, [.bool leaf, .slice (some ⟨b, off, none⟩) len cap])] [(⟨b, off + k * 5, none⟩, .string (strOf e.key))] W → W.cell? ⟨wr.heap.size, 1, none⟩ = some (.bool e.v.far) := fun W h => h.box 0 1 rfl rfl
      have c2 : ∀ W, Held [(wr.heap.size, [.string (strOf e.v.data), .bool e.v.far, .int .i64 e.v.size, .int .i64 e.v.page]), (w.heap.size, [.bool leaf, .slice (some ⟨b, off, none⟩) len cap])] [(⟨b, off + k * 5, none⟩, .string (strOf e.key))] W → W.cell? ⟨wr.heap.size, 2, none⟩ = some (.int .i64 e.v.size) := fun W h => h.box 0 2 rfl rfl
      have c3 : ∀ W, Held [(wr.heap.size, [.string (strOf e.v.data), .bool e.v.far, .int .i64 e.v.size, .int .i64 e.v.page]), (w.heap.size, [.bool leaf, .slice (some ⟨b, off, none⟩) len cap])] [(⟨b, off + k * 5, none⟩, .string (strOf e.key))] W → W.cell? ⟨wr.heap.size, 3, none⟩ = some (.int .i64 e.v.page) := fun W h => h.box 0 3 rfl rfl
      have c5 : ∀ W, Held [(wr.heap.size, [.string (strOf e.v.data), .bool e.v.far, .int .i64 e.v.size, .int .i64 e.v.page]), (w.heap.size, [.bool leaf, .slice (some ⟨b, off, none⟩) len cap])] [(⟨b, off + k * 5, none⟩, .string (strOf e.key))] W → W.cell? ⟨w.heap.size, 1, none⟩ = some (.slice (some ⟨b, off, none⟩) len cap) := fun W h => h.box 1 1 rfl rfl
      have c6 : ∀ W, Held [(wr.heap.size, [.string (strOf e.v.data), .bool e.v.far, .int .i64 e.v.size, .int .i64 e.v.page]), (w.heap.size, [.bool leaf, .slice (some ⟨b, off, none⟩) len cap])] [(⟨b, off + k * 5, none⟩, .string (strOf e.key))] W → W.cell? ⟨b, off + k * 5, none⟩ = some (.string (strOf e.key)) := fun W h => h.cell 0 rfl
      have c4 := B6.cell 1 1 rfl rfl
      have c4' := fun o => (B6.step (below_one W6 o)).cell 1 1 rfl rfl
      have hwl : ∀ o, w.heap.size + 1 + 1 < (W6.drew.alloc o).heap.size := fun o => by have := B6.lt 1 rfl; simp; omega
      have HWL := Lib.hid hwl
      clear hwl
      have hA : ∀ o, Held [(wr.heap.size, [.string (strOf e.v.data), .bool e.v.far, .int .i64 e.v.size, .int .i64 e.v.page]), (w.heap.size, [.bool leaf, .slice (some ⟨b, off, none⟩) len cap])] [(⟨b, off + k * 5, none⟩, .string (strOf e.key))] (W6.drew.alloc o) := fun o => hld.alloc o
      have h9 : Held [(wr.heap.size, [.string (strOf e.v.data), .bool e.v.far, .int .i64 e.v.size, .int .i64 e.v.page]), (w.heap.size, [.bool leaf, .slice (some ⟨b, off, none⟩) len cap])] [(⟨b, off + k * 5, none⟩, .string (strOf e.key))] w9 := by
        exact hld.grown hg9 (fun p hp => by intro e; have := HN6.out _ e; have h2 := hlt6.out _ e; simp at hp; rcases hp with rfl | rfl <;> simp at this h2 <;> omega) (fun p hp => by intro e; have := HN6.out _ e; simp at hp; subst hp; simp at this; omega)
      have h10 : ∀ u, Held [(wr.heap.size, [.string (strOf e.v.data), .bool e.v.far, .int .i64 e.v.size, .int .i64 e.v.page]), (w.heap.size, [.bool leaf, .slice (some ⟨b, off, none⟩) len cap])] [(⟨b, off + k * 5, none⟩, .string (strOf e.key))] (w9.setCell ⟨w.heap.size + 1 + 1, 1, none⟩ u) := fun u => by
        exact h9.set _ u (fun p hp => by simp at hp; rcases hp with rfl | rfl <;> simp <;> omega) (fun p hp => by simp at hp; subst hp; simp; omega)
      have hr9 : (Builtin.append_ #[54, 54] 54 #[v, .slice (some ⟨W6.heap.size, 0, none⟩) 1 1]).run Tryd.prog (W6.alloc (.cells #[.string (strOf e.key), .string (strOf e.v.data), .bool e.v.far, .int .i64 e.v.size, .int .i64 e.v.page] 108)).drew = .ok (.slice a9 (k + 1) k9) w9 := hr9
      refine wp_region_noPanic ?_
      refine wp_region_held_drew (S := (Held [(wr.heap.size, [.string (strOf e.v.data), .bool e.v.far, .int .i64 e.v.size, .int .i64 e.v.page]), (w.heap.size, [.bool leaf, .slice (some ⟨b, off, none⟩) len cap])] [(⟨b, off + k * 5, none⟩, .string (strOf e.key))])) (by kernel_rfl) (by exact hld) (fun hHeld => ?_)
      refine wpAnyH_take (i := 0) (oi := { dst := some 22, op := Op.fieldAddr 56 (Operand.tmp 3) 1, type := 0, pos := "law.go:16", after := #[], guard := none }) (v := ?_) rfl (by kernel_rfl) (by kernel_rfl) (by kernel_rfl) (fun _ _ _ h => h) (Or.inl ⟨by rfl, ?_⟩) (by assumption) ?_
      rotate_left
      · (intro W hW; (try dsimp only at hW); go_simp <;> (with_reducible rfl))
      try simp only [Act.put, List.setIfInBounds_toArray, List.set_cons_zero, List.set_cons_succ]
      refine wpAnyH_take (i := 2) (oi := { dst := some 24, op := Op.fieldAddr 52 (Operand.tmp 1) 1, type := 0, pos := "law.go:16", after := #[], guard := none }) (v := ?_) rfl (by kernel_rfl) (by kernel_rfl) (by kernel_rfl) (fun _ _ _ h => h) (Or.inl ⟨by rfl, ?_⟩) (by assumption) ?_
      rotate_left
      · (intro W hW; (try dsimp only at hW); go_simp <;> (with_reducible rfl))
      try simp only [Act.put, List.setIfInBounds_toArray, List.set_cons_zero, List.set_cons_succ]
      refine wpAnyH_take (i := 3) (oi := { dst := some 25, op := Op.load 50 (Operand.tmp 24), type := 50, pos := "law.go:16", after := #[{ on := 2, ground := Ground.data }], guard := none }) (v := ?_) rfl (by kernel_rfl) (by kernel_rfl) (by kernel_rfl) (fun _ _ _ h => h) (Or.inl ⟨by rfl, ?_⟩) (by assumption) ?_
      rotate_left
      · (intro W hW; (try dsimp only at hW); go_simp <;> (with_reducible rfl))
      try simp only [Act.put, List.setIfInBounds_toArray, List.set_cons_zero, List.set_cons_succ]
      refine wpAnyH_take (i := 4) (oi := { dst := some 26, op := Op.move (Operand.tmp 4), type := 3, pos := "law.go:16", after := #[], guard := none }) (v := ?_) rfl (by kernel_rfl) (by kernel_rfl) (by kernel_rfl) (fun _ _ _ h => h) (Or.inl ⟨by rfl, ?_⟩) (by assumption) ?_
      rotate_left
      · (intro W hW; (try dsimp only at hW); go_simp <;> (with_reducible rfl))
      try simp only [Act.put, List.setIfInBounds_toArray, List.set_cons_zero, List.set_cons_succ]
      refine wpAnyH_take (i := 5) (oi := { dst := some 27, op := Op.indexAddr 50 (Operand.tmp 25) (Operand.tmp 26), type := 0, pos := "law.go:16", after := #[{ on := 3, ground := Ground.data }, { on := 4, ground := Ground.data }], guard := none }) (v := ?_) rfl (by kernel_rfl) (by kernel_rfl) (by kernel_rfl) (fun _ _ _ h => h) (Or.inl ⟨by rfl, ?_⟩) (by assumption) ?_
      rotate_left
      · (intro W hW; (try dsimp only at hW); go_simp <;> (with_reducible rfl))
      try simp only [Act.put, List.setIfInBounds_toArray, List.set_cons_zero, List.set_cons_succ]
      refine wpAnyH_take (i := 6) (oi := { dst := some 28, op := Op.fieldAddr 76 (Operand.tmp 27) 0, type := 0, pos := "law.go:16", after := #[{ on := 5, ground := Ground.data }], guard := none }) (v := ?_) rfl (by kernel_rfl) (by kernel_rfl) (by kernel_rfl) (fun _ _ _ h => h) (Or.inl ⟨by rfl, ?_⟩) (by assumption) ?_
      rotate_left
      · (intro W hW; (try dsimp only at hW); go_simp <;> (with_reducible rfl))
      try simp only [Act.put, List.setIfInBounds_toArray, List.set_cons_zero, List.set_cons_succ]
      refine wpAnyH_take (i := 7) (oi := { dst := some 29, op := Op.load 9 (Operand.tmp 28), type := 9, pos := "law.go:16", after := #[{ on := 6, ground := Ground.data }], guard := none }) (v := ?_) rfl (by kernel_rfl) (by kernel_rfl) (by kernel_rfl) (fun _ _ _ h => h) (Or.inl ⟨by rfl, ?_⟩) (by assumption) ?_
      rotate_left
      · (intro W hW; (try dsimp only at hW); go_simp <;> (with_reducible rfl))
      try simp only [Act.put, List.setIfInBounds_toArray, List.set_cons_zero, List.set_cons_succ]
      refine wpAnyH_take (i := 8) (oi := { dst := some 30, op := Op.fieldAddr 74 (Operand.tmp 5) 0, type := 0, pos := "law.go:16", after := #[], guard := none }) (v := ?_) rfl (by kernel_rfl) (by kernel_rfl) (by kernel_rfl) (fun _ _ _ h => h) (Or.inl ⟨by rfl, ?_⟩) (by assumption) ?_
      rotate_left
      · (intro W hW; (try dsimp only at hW); go_simp <;> (with_reducible rfl))
      try simp only [Act.put, List.setIfInBounds_toArray, List.set_cons_zero, List.set_cons_succ]
      refine wpAnyH_take (i := 9) (oi := { dst := some 31, op := Op.load 9 (Operand.tmp 30), type := 9, pos := "law.go:16", after := #[{ on := 8, ground := Ground.data }], guard := none }) (v := ?_) rfl (by kernel_rfl) (by kernel_rfl) (by kernel_rfl) (fun _ _ _ h => h) (Or.inl ⟨by rfl, ?_⟩) (by assumption) ?_
      rotate_left
      · (intro W hW; (try dsimp only at hW); go_simp <;> (with_reducible rfl))
      try simp only [Act.put, List.setIfInBounds_toArray, List.set_cons_zero, List.set_cons_succ]
      refine wpAnyH_take (i := 10) (oi := { dst := some 32, op := Op.fieldAddr 74 (Operand.tmp 5) 1, type := 0, pos := "law.go:16", after := #[], guard := none }) (v := ?_) rfl (by kernel_rfl) (by kernel_rfl) (by kernel_rfl) (fun _ _ _ h => h) (Or.inl ⟨by rfl, ?_⟩) (by assumption) ?_
      rotate_left
      · (intro W hW; (try dsimp only at hW); go_simp <;> (with_reducible rfl))
      try simp only [Act.put, List.setIfInBounds_toArray, List.set_cons_zero, List.set_cons_succ]
      refine wpAnyH_take (i := 11) (oi := { dst := some 33, op := Op.load 4 (Operand.tmp 32), type := 4, pos := "law.go:16", after := #[{ on := 10, ground := Ground.data }], guard := none }) (v := ?_) rfl (by kernel_rfl) (by kernel_rfl) (by kernel_rfl) (fun _ _ _ h => h) (Or.inl ⟨by rfl, ?_⟩) (by assumption) ?_
      rotate_left
      · (intro W hW; (try dsimp only at hW); go_simp <;> (with_reducible rfl))
      try simp only [Act.put, List.setIfInBounds_toArray, List.set_cons_zero, List.set_cons_succ]
      refine wpAnyH_take (i := 12) (oi := { dst := some 34, op := Op.fieldAddr 74 (Operand.tmp 5) 2, type := 0, pos := "law.go:16", after := #[], guard := none }) (v := ?_) rfl (by kernel_rfl) (by kernel_rfl) (by kernel_rfl) (fun _ _ _ h => h) (Or.inl ⟨by rfl, ?_⟩) (by assumption) ?_
      rotate_left
      · (intro W hW; (try dsimp only at hW); go_simp <;> (with_reducible rfl))
      try simp only [Act.put, List.setIfInBounds_toArray, List.set_cons_zero, List.set_cons_succ]
      refine wpAnyH_take (i := 13) (oi := { dst := some 35, op := Op.load 3 (Operand.tmp 34), type := 3, pos := "law.go:16", after := #[{ on := 12, ground := Ground.data }], guard := none }) (v := ?_) rfl (by kernel_rfl) (by kernel_rfl) (by kernel_rfl) (fun _ _ _ h => h) (Or.inl ⟨by rfl, ?_⟩) (by assumption) ?_
      rotate_left
      · (intro W hW; (try dsimp only at hW); go_simp <;> (with_reducible rfl))
      try simp only [Act.put, List.setIfInBounds_toArray, List.set_cons_zero, List.set_cons_succ]
      refine wpAnyH_take (i := 14) (oi := { dst := some 36, op := Op.fieldAddr 74 (Operand.tmp 5) 3, type := 0, pos := "law.go:16", after := #[], guard := none }) (v := ?_) rfl (by kernel_rfl) (by kernel_rfl) (by kernel_rfl) (fun _ _ _ h => h) (Or.inl ⟨by rfl, ?_⟩) (by assumption) ?_
      rotate_left
      · (intro W hW; (try dsimp only at hW); go_simp <;> (with_reducible rfl))
      try simp only [Act.put, List.setIfInBounds_toArray, List.set_cons_zero, List.set_cons_succ]
      refine wpAnyH_take (i := 15) (oi := { dst := some 37, op := Op.load 3 (Operand.tmp 36), type := 3, pos := "law.go:16", after := #[{ on := 14, ground := Ground.data }], guard := none }) (v := ?_) rfl (by kernel_rfl) (by kernel_rfl) (by kernel_rfl) (fun _ _ _ h => h) (Or.inl ⟨by rfl, ?_⟩) (by assumption) ?_
      rotate_left
      · (intro W hW; (try dsimp only at hW); go_simp <;> (with_reducible rfl))
      try simp only [Act.put, List.setIfInBounds_toArray, List.set_cons_zero, List.set_cons_succ]
      refine wpAnyH_take (i := 16) (oi := { dst := some 38, op := Op.build 106 #[(0, Operand.tmp 31), (1, Operand.tmp 33), (2, Operand.tmp 35), (3, Operand.tmp 37)], type := 106, pos := "law.go:16", after := #[{ on := 9, ground := Ground.data }, { on := 11, ground := Ground.data }, { on := 13, ground := Ground.data }, { on := 15, ground := Ground.data }], guard := none }) (v := ?_) rfl (by kernel_rfl) (by kernel_rfl) (by kernel_rfl) (fun _ _ _ h => h) (Or.inl ⟨by rfl, ?_⟩) (by assumption) ?_
      rotate_left
      · (intro W hW; (try dsimp only at hW); go_simp <;> (with_reducible rfl))
      try simp only [Act.put, List.setIfInBounds_toArray, List.set_cons_zero, List.set_cons_succ]
      refine wpAnyH_take (i := 17) (oi := { dst := some 39, op := Op.build 108 #[(0, Operand.tmp 29), (1, Operand.tmp 38)], type := 108, pos := "law.go:16", after := #[{ on := 7, ground := Ground.data }, { on := 16, ground := Ground.data }], guard := none }) (v := ?_) rfl (by kernel_rfl) (by kernel_rfl) (by kernel_rfl) (fun _ _ _ h => h) (Or.inl ⟨by rfl, ?_⟩) (by assumption) ?_
      rotate_left
      · (intro W hW; (try dsimp only at hW); go_simp <;> (with_reducible rfl))
      try simp only [Act.put, List.setIfInBounds_toArray, List.set_cons_zero, List.set_cons_succ]
      refine wpAnyH_ready (rs := [1, 18]) (by kernel_rfl) (by simp) (AllReadyH.cons (o := { dst := some 23, op := Op.load 54 (Operand.tmp 22), type := 54, pos := "law.go:16", after := #[{ on := 0, ground := Ground.data }], guard := none }) rfl (fun K hK => ?_) (AllReadyH.cons (o := { dst := some 40, op := Op.buildSlice 54 1 #[(0, Operand.tmp 39)], type := 54, pos := "law.go:16", after := #[{ on := 17, ground := Ground.data }], guard := none }) rfl (fun K hK => ?_) AllReadyH.nil))
      · rw [if_pos (by rfl)]
        go_wp2_with (fail)
        refine hK.out _ _ (by with_reducible assumption) (fun hHeld => ?_)
        clear hK K
        try simp only [Act.put, List.setIfInBounds_toArray, List.set_cons_zero, List.set_cons_succ]
        refine wpAnyH_ready (rs := [18]) (by kernel_rfl) (by simp) (AllReadyH.cons (o := { dst := some 40, op := Op.buildSlice 54 1 #[(0, Operand.tmp 39)], type := 54, pos := "law.go:16", after := #[{ on := 17, ground := Ground.data }], guard := none }) rfl (fun K hK => ?_) AllReadyH.nil)
        rw [if_pos (by rfl)]
        go_wp2_with (fail)
        refine hK.out _ _ (by exact hA _) (fun hHeld => ?_)
        clear hK K
        try simp only [Act.put, List.setIfInBounds_toArray, List.set_cons_zero, List.set_cons_succ]
        refine wpAnyH_ready (rs := [19]) (by kernel_rfl) (by simp) (AllReadyH.cons (o := { dst := some 41, op := Op.call { callee := Callee.builtin Builtin.append, args := #[Operand.tmp 23, Operand.tmp 40], argTypes := #[54, 54] }, type := 54, pos := "law.go:16", after := #[{ on := 1, ground := Ground.data }, { on := 18, ground := Ground.data }], guard := none }) rfl (fun K hK => ?_) AllReadyH.nil)
        refine step_append_run rfl _ _ _ _ rfl rfl rfl hr9 ?_
        refine hK.out _ _ (by exact h9) (fun hHeld => ?_)
        clear hK K
        try simp only [Act.put, List.setIfInBounds_toArray, List.set_cons_zero, List.set_cons_succ]
        refine wpAnyH_take (i := 20) (oi := { dst := some 42, op := Op.fieldAddr 56 (Operand.tmp 3) 1, type := 0, pos := "law.go:16", after := #[{ on := 0, ground := Ground.phase }, { on := 1, ground := Ground.phase }, { on := 2, ground := Ground.phase }, { on := 3, ground := Ground.phase }, { on := 4, ground := Ground.phase }, { on := 5, ground := Ground.phase }, { on := 6, ground := Ground.phase }, { on := 7, ground := Ground.phase }, { on := 8, ground := Ground.phase }, { on := 9, ground := Ground.phase }, { on := 10, ground := Ground.phase }, { on := 11, ground := Ground.phase }, { on := 12, ground := Ground.phase }, { on := 13, ground := Ground.phase }, { on := 14, ground := Ground.phase }, { on := 15, ground := Ground.phase }, { on := 16, ground := Ground.phase }, { on := 17, ground := Ground.phase }, { on := 18, ground := Ground.phase }, { on := 19, ground := Ground.phase }], guard := none }) (v := ?_) rfl (by kernel_rfl) (by kernel_rfl) (by kernel_rfl) (fun _ _ _ h => h) (Or.inl ⟨by rfl, ?_⟩) (by assumption) ?_
        rotate_left
        · (intro W hW; (try dsimp only at hW); go_simp <;> (with_reducible rfl))
        try simp only [Act.put, List.setIfInBounds_toArray, List.set_cons_zero, List.set_cons_succ]
        refine wpAnyH_ready (rs := [21]) (by kernel_rfl) (by simp) (AllReadyH.cons (o := { dst := none, op := Op.store 54 (Operand.tmp 42) (Operand.tmp 41), type := 0, pos := "law.go:16", after := #[{ on := 20, ground := Ground.data }, { on := 19, ground := Ground.data }, { on := 19, ground := Ground.chain }, { on := 0, ground := Ground.phase }, { on := 1, ground := Ground.phase }, { on := 2, ground := Ground.phase }, { on := 3, ground := Ground.phase }, { on := 4, ground := Ground.phase }, { on := 5, ground := Ground.phase }, { on := 6, ground := Ground.phase }, { on := 7, ground := Ground.phase }, { on := 8, ground := Ground.phase }, { on := 9, ground := Ground.phase }, { on := 10, ground := Ground.phase }, { on := 11, ground := Ground.phase }, { on := 12, ground := Ground.phase }, { on := 13, ground := Ground.phase }, { on := 14, ground := Ground.phase }, { on := 15, ground := Ground.phase }, { on := 16, ground := Ground.phase }, { on := 17, ground := Ground.phase }, { on := 18, ground := Ground.phase }, { on := 19, ground := Ground.phase }], guard := none }) rfl (fun K hK => ?_) AllReadyH.nil)
        rw [if_pos (by rfl)]
        go_wp2_with (fail)
        refine hK.out _ _ (by exact h10 _) (fun hHeld => ?_)
        clear hK K
        try simp only [Act.put, List.setIfInBounds_toArray, List.set_cons_zero, List.set_cons_succ]
        refine wpAnyH_done (by kernel_rfl) ?_ _
        refine NoPanic.normal ?_
        clear c0 c1 c2 c3 c4 c4' c5 c6 hA h9 h10 hHeld hr9 f1 g1
        go_wp2_with fail
        go_roundw
        case rel =>
          have hne9 : Value.ownBlock (.slice a9 (k + 1) k9) ≠ some (w.heap.size + 1 + 1) := fun e => by have h2 := own_ge HO9.out _ e; omega
          exact ⟨k + 1, _, by omega, by go_num, B9.put 1 _ (fun p hp => by simp at hp; rcases hp with rfl | rfl <;> simp <;> omega), own_set HO9.out _ _ hne9, HB9.out.setCell (by simp; omega) _⟩
        case measure => simp [intOf]; omega
      · rw [if_pos (by rfl)]
        go_wp2_with (fail)
        refine hK.out _ _ (by exact hA _) (fun hHeld => ?_)
        clear hK K
        try simp only [Act.put, List.setIfInBounds_toArray, List.set_cons_zero, List.set_cons_succ]
        refine wpAnyH_ready (rs := [1]) (by kernel_rfl) (by simp) (AllReadyH.cons (o := { dst := some 23, op := Op.load 54 (Operand.tmp 22), type := 54, pos := "law.go:16", after := #[{ on := 0, ground := Ground.data }], guard := none }) rfl (fun K hK => ?_) AllReadyH.nil)
        rw [if_pos (by rfl)]
        go_wp2_with (fail)
        refine hK.out _ _ (by with_reducible assumption) (fun hHeld => ?_)
        clear hK K
        try simp only [Act.put, List.setIfInBounds_toArray, List.set_cons_zero, List.set_cons_succ]
        refine wpAnyH_ready (rs := [19]) (by kernel_rfl) (by simp) (AllReadyH.cons (o := { dst := some 41, op := Op.call { callee := Callee.builtin Builtin.append, args := #[Operand.tmp 23, Operand.tmp 40], argTypes := #[54, 54] }, type := 54, pos := "law.go:16", after := #[{ on := 1, ground := Ground.data }, { on := 18, ground := Ground.data }], guard := none }) rfl (fun K hK => ?_) AllReadyH.nil)
        refine step_append_run rfl _ _ _ _ rfl rfl rfl hr9 ?_
        refine hK.out _ _ (by exact h9) (fun hHeld => ?_)
        clear hK K
        try simp only [Act.put, List.setIfInBounds_toArray, List.set_cons_zero, List.set_cons_succ]
        refine wpAnyH_take (i := 20) (oi := { dst := some 42, op := Op.fieldAddr 56 (Operand.tmp 3) 1, type := 0, pos := "law.go:16", after := #[{ on := 0, ground := Ground.phase }, { on := 1, ground := Ground.phase }, { on := 2, ground := Ground.phase }, { on := 3, ground := Ground.phase }, { on := 4, ground := Ground.phase }, { on := 5, ground := Ground.phase }, { on := 6, ground := Ground.phase }, { on := 7, ground := Ground.phase }, { on := 8, ground := Ground.phase }, { on := 9, ground := Ground.phase }, { on := 10, ground := Ground.phase }, { on := 11, ground := Ground.phase }, { on := 12, ground := Ground.phase }, { on := 13, ground := Ground.phase }, { on := 14, ground := Ground.phase }, { on := 15, ground := Ground.phase }, { on := 16, ground := Ground.phase }, { on := 17, ground := Ground.phase }, { on := 18, ground := Ground.phase }, { on := 19, ground := Ground.phase }], guard := none }) (v := ?_) rfl (by kernel_rfl) (by kernel_rfl) (by kernel_rfl) (fun _ _ _ h => h) (Or.inl ⟨by rfl, ?_⟩) (by assumption) ?_
        rotate_left
        · (intro W hW; (try dsimp only at hW); go_simp <;> (with_reducible rfl))
        try simp only [Act.put, List.setIfInBounds_toArray, List.set_cons_zero, List.set_cons_succ]
        refine wpAnyH_ready (rs := [21]) (by kernel_rfl) (by simp) (AllReadyH.cons (o := { dst := none, op := Op.store 54 (Operand.tmp 42) (Operand.tmp 41), type := 0, pos := "law.go:16", after := #[{ on := 20, ground := Ground.data }, { on := 19, ground := Ground.data }, { on := 19, ground := Ground.chain }, { on := 0, ground := Ground.phase }, { on := 1, ground := Ground.phase }, { on := 2, ground := Ground.phase }, { on := 3, ground := Ground.phase }, { on := 4, ground := Ground.phase }, { on := 5, ground := Ground.phase }, { on := 6, ground := Ground.phase }, { on := 7, ground := Ground.phase }, { on := 8, ground := Ground.phase }, { on := 9, ground := Ground.phase }, { on := 10, ground := Ground.phase }, { on := 11, ground := Ground.phase }, { on := 12, ground := Ground.phase }, { on := 13, ground := Ground.phase }, { on := 14, ground := Ground.phase }, { on := 15, ground := Ground.phase }, { on := 16, ground := Ground.phase }, { on := 17, ground := Ground.phase }, { on := 18, ground := Ground.phase }, { on := 19, ground := Ground.phase }], guard := none }) rfl (fun K hK => ?_) AllReadyH.nil)
        rw [if_pos (by rfl)]
        go_wp2_with (fail)
        refine hK.out _ _ (by exact h10 _) (fun hHeld => ?_)
        clear hK K
        try simp only [Act.put, List.setIfInBounds_toArray, List.set_cons_zero, List.set_cons_succ]
        refine wpAnyH_done (by kernel_rfl) ?_ _
        refine NoPanic.normal ?_
        clear c0 c1 c2 c3 c4 c4' c5 c6 hA h9 h10 hHeld hr9 f1 g1
        go_wp2_with fail
        go_roundw
        case rel =>
          have hne9 : Value.ownBlock (.slice a9 (k + 1) k9) ≠ some (w.heap.size + 1 + 1) := fun e => by have h2 := own_ge HO9.out _ e; omega
          exact ⟨k + 1, _, by omega, by go_num, B9.put 1 _ (fun p hp => by simp at hp; rcases hp with rfl | rfl <;> simp <;> omega), own_set HO9.out _ _ hne9, HB9.out.setCell (by simp; omega) _⟩
        case measure => simp [intOf]; omega
    · obtain rfl : k = len := by omega
      rw [List.take_of_length_le (by rw [hll.out]; exact Nat.le_refl _)] at hown
      have hlk := hll.out
      subst hlk
      obtain ⟨av, kv, rfl, hen⟩ := hown.ents
      have g0 := BX.cell 0 0 rfl rfl
      have g1 := BX.cell 0 1 rfl rfl
      have g2 := BX.cell 1 0 rfl rfl
      have g3 := BX.cell 1 1 rfl rfl
      have f2 := BX.frozen 1 0 rfl
      have f3 := BX.frozen 1 1 rfl
      have HO := Lib.hid hown
      clear hown hen
      go_wp2_with fail
      refine bodyPost_ret (v := .agg #[.bool leaf, .slice av l.length kv]) (by simp [results, Tryd.results27, go_sem, g0, g1, g2, g3]) rfl ⟨_, rfl, ?_, ?_⟩
      · have hrb : ∀ i u W, OwnRe W (w.heap.size + 3) (.slice av l.length kv) l → OwnRe (W.setCell ⟨w.heap.size + 1, i, none⟩ u) (w.heap.size + 3) (.slice av l.length kv) l := fun i u W hW => own_set hW _ _ (fun e => by have h2 := own_ge hW _ e; have h3 : w.heap.size + 3 ≤ w.heap.size + 1 := h2; omega)
        exact own_base (hrb _ _ _ (hrb _ _ _ HO.out)) (by omega)
      · exact ((hbw.setCell (by simp) _).setCell (by simp) _)
end Go.Proofs.YtjdepdgoaopfoaaDoor
