/- The walks of the chapter on nodes: a node's cells. -/
import Derived.Test.YtjdepdgoaopfoaaDoorNodP
import Derived.Test.YtjdepdgoaopfoaaDoorCelV
import Derived.Deep.DeepCutAuto
import Derived.Deep.RegionWith
namespace Go.Proofs.YtjdepdgoaopfoaaDoor
open Go.RowKit

def IsEn (cs : List Value) (y : En) : Prop := cs = ecells y
/-- A row of entries. -/
def Ents (w : World) (a : Option Addr) (len cap : Nat) (l : List En) : Prop := TabR 5 IsEn w a len cap l
theorem Ents.below {w w' : World} {a : Option Addr} {len cap : Nat} {l : List En} {B : Nat} (hB : w.heap.size ≤ B) (hb : Below B w w') (h : Ents w a len cap l) : Ents w' a len cap l := TabR.below hB hb h
theorem Ents.len {w : World} {a : Option Addr} {len cap : Nat} {l : List En} (h : Ents w a len cap l) : l.length = len := h.1
def Ent.zero : En := ⟨[], Vv.zero⟩
theorem Ents.at {w : World} {a : Option Addr} {len cap : Nat} {l : List En} (h : Ents w a len cap l) {k : Nat} (hk : k < len) :
    ∃ b off e, a = some ⟨b, off, none⟩ ∧ b < w.heap.size ∧ l[k]? = some e ∧ w.cell? ⟨b, off + k * 5, none⟩ = some (.string (strOf e.key)) ∧ w.cell? ⟨b, off + k * 5 + 1, none⟩ = some (.string (strOf e.v.data)) ∧ w.cell? ⟨b, off + k * 5 + 2, none⟩ = some (.bool e.v.far) ∧ w.cell? ⟨b, off + k * 5 + 3, none⟩ = some (.int .i64 e.v.size) ∧ w.cell? ⟨b, off + k * 5 + 4, none⟩ = some (.int .i64 e.v.page) := by
  obtain ⟨b, off, y, cs, e1, e2, e3, _, e5, e6⟩ := TabR.at h hk
  unfold IsEn at e5
  subst e5
  exact ⟨b, off, y, e1, e2, e3, e6 0 _ rfl, e6 1 _ rfl, e6 2 _ rfl, e6 3 _ rfl, e6 4 _ rfl⟩

/-- The lone region at the head of three functions: which shape a node has. -/
theorem shape_at (leaf : Bool) {w : World} {b : Nat} (h : Boxes w [(b, shapeL)]) : w.cell? ⟨b, (kindN leaf).toNat, none⟩ = some (shapeV leaf) := by
  cases leaf
  · exact h.cell 0 2 rfl rfl
  · exact h.cell 0 1 rfl rfl

def BssPost (w : World) (l : List (List UInt8)) (e : Ending) (w' : World) : Prop := ∃ v, e = .returned v ∧ OwnBss w' w.heap.size v l ∧ Below w.heap.size w w'

theorem cellsN_snoc (leaf : Bool) (l : List En) (k : Nat) (e : En) (h : l[k]? = some e) : cellsN leaf (l.take (k + 1)) = cellsN leaf (l.take k) ++ [cellN leaf e] := by
  rw [cellsN, List.take_add_one, h]; simp [cellsN]
theorem OwnBss.blk {w : World} {base : Nat} {v : Value} {l : List (List UInt8)} (h : OwnBss w base v l) : v.ownBlock ≠ some w.heap.size := by
  obtain ⟨vs, h1, _⟩ := h
  intro e
  have := own_lt h1 _ e
  omega
/-- One row of bytes more in a row of rows of bytes. -/
theorem append_bss {w : World} {base B : Nat} {v : Value} {l : List (List UInt8)} (h : OwnBss w base v l) {u : Value} {c : List UInt8} (hu : w.ownsRow B 5 1 u c.length ((toI c).map (Value.int .u8))) (hB : base ≤ B) (hl : l.length ≤ 65536) (hbase : base ≤ w.heap.size) :
    ∃ v' w', (Builtin.append_ #[46, 46] 46 #[v, .slice (some ⟨w.heap.size, 0, none⟩) 1 1]).run Tryd.prog (w.alloc (.cells #[u] 26)) = .ok v' w' ∧ OwnBss w' base v' (l ++ [c]) ∧ w.grownBy w' v.ownBlock := by
  obtain ⟨i0, hi, hz0, hz1, hz2⟩ := info_parts info_bytes
  obtain ⟨vs, h1, h2, h3⟩ := h
  obtain ⟨au, ku, rfl, _⟩ := own_slice hu
  obtain ⟨v', w', hr, ho, hg, _⟩ := run_append_new (P := Tryd.prog) base 46 26 i0 _ 1 24 Tryd.underlying46 hi hz0 hz1 hz2 rfl (by decide) h1 #[.slice au c.length ku] rfl (fun u hu => by simp at hu; subst hu; rfl) (by unfold maxLen; omega) (by omega) hbase
  exact ⟨v', w', hr, OwnBss.snoc h1 rfl h2 h3 (own_base hu hB) hg ho, hg⟩
theorem own_cell {w : World} {B : Nat} {v : Value} {leaf : Bool} {e : En} (h : w.ownsRow B 5 1 v ((textF e.key).length + (encV leaf e.v).length) ((toI (textF e.key ++ encV leaf e.v)).map (Value.int .u8))) :
    w.ownsRow B 5 1 v (cellN leaf e).length ((toI (cellN leaf e)).map (Value.int .u8)) := by rw [cellN, List.length_append]; exact h
set_option maxRecDepth 100000 in
set_option maxHeartbeats 8000000 in
theorem cells_leaf (a : Option Addr) (len cap : Nat) (l : List En) (w : World) (h : Ents w a len cap l) (hlen : len ≤ 65536) (hd : ∀ e ∈ l, e.key.length ≤ 140737488351232 ∧ e.v.data.length ≤ 140737488351232) :
    Calls Tryd.prog 32 #[.agg #[.bool true, .slice a len cap]] w (BssPost w (cellsN true l)) := by
  have hB := below_one w (.cells #[.bool true, .slice a len cap] 52)
  have BX := (Boxes.nil w).alloc #[.bool true, .slice a len cap] 52 rfl
  have SH := fun W => shapes_any W
  have KI : ∀ W, Calls Tryd.prog 55 #[.agg #[.bool true, .slice a len cap]] W fun e w' => e = .returned (.int .u8 1) ∧ Below W.heap.size W w' := fun W => kind_any true (.slice a len cap) W
  go_enter Tryd.func32, Tryd.ntmps32
  go_wp2_with fail
  have h1 := h.below (Nat.le_refl _) hB
  generalize w.alloc _ = W1 at *
  have c0 : ∀ W, Below W1.heap.size W1 W → W.cell? ⟨w.heap.size, 0, none⟩ = some (.bool true) := fun W hW => (BX.step hW).cell 0 0 rfl rfl
  have c1 : ∀ W, Below W1.heap.size W1 W → W.cell? ⟨w.heap.size, 1, none⟩ = some (.slice a len cap) := fun W hW => (BX.step hW).cell 0 1 rfl rfl
  have hC : Below W1.heap.size W1 W1.drew := (Below.refl _ _).drew
  go_upto_region 1 with (fail)
  go_cut [3] (fun s wx => s = .iface 125 (.agg #[]) ∧ Below W1.heap.size W1 wx)
  case first =>
    go_region_with (first | (go_at_call 56; (with_reducible refine (SH _).mono ?_); rintro e w2 ⟨bs, rfl, hs2, hb2⟩; have hC2 := hC.trans (hb2.mono hC.size); have e0 := c0 _ hC2; have e1 := c1 _ hC2) | (go_at_call 55; (with_reducible refine (KI _).mono ?_); rintro e w3 ⟨rfl, hb3⟩; have hC3 := hC2.trans (hb3.mono hC2.size); have q3 := (hs2.step hb3).cell 0 1 rfl rfl))
    all_goals
      go_wp2_with fail
      go_meet
      exact ⟨rfl, hC3⟩
  case rest =>
  obtain ⟨rfl, hC4⟩ := hcut
  have hb := below_then hB hC4
  have BX := BX.step hC4
  have h1 := h1.below (Nat.le_refl _) hC4
  clear c0 c1 hC hC4
  have d1 := BX.cell 0 1 rfl rfl
  go_wp2_with fail
  clear d1
  have hll := Lib.hid h1.len
  have HI := Lib.hid hd
  clear hd
  have HB := Lib.hid hb
  have BX3 := BX
  clear BX hb
  go_loopw [4, 15] (fun o i wr => ∃ (k : Nat) (v : Value), k ≤ len ∧ i = .int .i64 k ∧ v = o ∧ OwnBss wr w.heap.size v (cellsN true (l.take k)) ∧ Below w.heap.size w wr) (fun _ i _ => len - (intOf i).toNat)
  case atStart => exact ⟨0, _, Nat.zero_le _, rfl, rfl, OwnBss.nil _ _, HB.out⟩
  case round =>
    obtain ⟨k, v, hk, rfl, rfl, hown, hbw⟩ := hrel
    by_cases hlt : k < len
    · obtain ⟨b, off, e, rfl, hbb, hy, e0, e1, e2, e3, e4⟩ := (h.below (Nat.le_refl _) hbw).at hlt
      have B6 := (Boxes.nil wr).alloc #[.string (strOf e.key), .string (strOf e.v.data), .bool e.v.far, .int .i64 e.v.size, .int .i64 e.v.page] 76 rfl
      have hb6 := below_one wr (.cells #[.string (strOf e.key), .string (strOf e.v.data), .bool e.v.far, .int .i64 e.v.size, .int .i64 e.v.page] 76)
      have hown6 := hown.below (Nat.le_refl _) hb6
      have hbw6 := below_then hbw hb6
      obtain ⟨hl1, hl2⟩ := HI.out e (List.mem_of_getElem? hy)
      have T1 := fun W => text_any e.key W (by omega)
      have PU : ∀ W, Calls Tryd.prog 105 #[.agg #[], .agg #[.string (strOf e.v.data), .bool e.v.far, .int .i64 e.v.size, .int .i64 e.v.page]] W (OwnBytes 5 W (encV true e.v)) := fun W => put_any true e.v W hl2
      have hmp := m_putL
      have hvb := hown.blk
      have hvg : ∀ j, v.ownBlock = some j → w.heap.size ≤ j := by obtain ⟨vs, hv, _⟩ := hown; exact own_ge hv
      have hsz := hbw6.size
      clear hown hb6
      go_wp2_with fail
      clear e0 e1 e2 e3 e4
      generalize wr.heap.size = bx at *
      generalize wr.alloc _ = W6 at *
      have c0 : ∀ W, Boxes W [(bx, [.string (strOf e.key), .string (strOf e.v.data), .bool e.v.far, .int .i64 e.v.size, .int .i64 e.v.page])] → W.cell? ⟨bx, 0, none⟩ = some (.string (strOf e.key)) := fun W hW => hW.cell 0 0 rfl rfl
      have c1 : ∀ W, Boxes W [(bx, [.string (strOf e.key), .string (strOf e.v.data), .bool e.v.far, .int .i64 e.v.size, .int .i64 e.v.page])] → W.cell? ⟨bx, 1, none⟩ = some (.string (strOf e.v.data)) := fun W hW => hW.cell 0 1 rfl rfl
      have c2 : ∀ W, Boxes W [(bx, [.string (strOf e.key), .string (strOf e.v.data), .bool e.v.far, .int .i64 e.v.size, .int .i64 e.v.page])] → W.cell? ⟨bx, 2, none⟩ = some (.bool e.v.far) := fun W hW => hW.cell 0 2 rfl rfl
      have c3 : ∀ W, Boxes W [(bx, [.string (strOf e.key), .string (strOf e.v.data), .bool e.v.far, .int .i64 e.v.size, .int .i64 e.v.page])] → W.cell? ⟨bx, 3, none⟩ = some (.int .i64 e.v.size) := fun W hW => hW.cell 0 3 rfl rfl
      have c4 : ∀ W, Boxes W [(bx, [.string (strOf e.key), .string (strOf e.v.data), .bool e.v.far, .int .i64 e.v.size, .int .i64 e.v.page])] → W.cell? ⟨bx, 4, none⟩ = some (.int .i64 e.v.page) := fun W hW => hW.cell 0 4 rfl rfl
      have hC : Below W6.heap.size W6 W6.drew := (Below.refl _ _).drew
      have B6 : Boxes W6 [(bx, [.string (strOf e.key), .string (strOf e.v.data), .bool e.v.far, .int .i64 e.v.size, .int .i64 e.v.page])] := B6
      have B6d : Boxes W6.drew [(bx, [.string (strOf e.key), .string (strOf e.v.data), .bool e.v.far, .int .i64 e.v.size, .int .i64 e.v.page])] := B6
      go_region_held3 (fun W => Boxes W [(bx, [.string (strOf e.key), .string (strOf e.v.data), .bool e.v.far, .int .i64 e.v.size, .int .i64 e.v.page])]) (first | with_reducible assumption | (with_reducible exact B9.step (below_one w9 _))) (first | (go_at_call 57; (with_reducible refine (T1 _).mono ?_); rintro e1 w7 ⟨v7, rfl, ho7, hb7⟩; have hC7 := hC.trans (hb7.mono hC.size); have B7 := B6d.step hb7) | (go_at_call 105; (with_reducible refine (PU _).mono ?_); rintro e1 w8 ⟨v8, rfl, ho8, hb8⟩; have hC8 := hC7.trans (hb8.mono hC7.size); have B8 := B7.step hb8; obtain ⟨a8, k8, rfl, hs8⟩ := Bs.of_own ho8; obtain ⟨v9, w9, hr9, ho9, hg9, ha9⟩ := append_bytes (own_below (own_base (b0 := W6.heap.size) ho7 hC.size) (Nat.le_refl _) hb8) hs8 (by rw [textF_length, encV_length]; simp; split <;> omega) hC8.size; have hC9 : Below W6.heap.size W6 w9 := hC8.grown hg9 hC8.size (own_ge (own_base (b0 := W6.heap.size) ho7 hC.size)); have B9 := B6.step hC9; have ho9 := own_cell ho9; obtain ⟨a9, k9, rfl, hk91, hk92, hk93⟩ := own_slice ho9; have hown9 := hown6.below (Nat.le_refl _) hC9; obtain ⟨v10, w10, hr10, ho10, hg10⟩ := append_bss hown9 ho9 hsz (by rw [cellsN_length, List.length_take]; omega) (Nat.le_trans hsz hC9.size); have B10 := B9.grown hg10 (fun p hp => by simp at hp; subst hp; exact hvb); have hb9 := below_then hbw6 hC9; have hb10 := hb9.grown hg10 hb9.size hvg) | (refine step_append_run rfl _ _ _ _ rfl rfl rfl hr9 ?_) | (refine step_append_run rfl _ _ _ _ rfl rfl rfl hr10 ?_))
      rw [← cellsN_snoc true l k e hy] at ho10
      have HO := Lib.hid ho10
      have HB10 := Lib.hid hb10
      clear ho10 hb10 B10 hg10 hr10 hown9 hk91 hk92 hk93 ho9 ha9 hr9 B9 hC9 hg9 hs8 ho8 B8 hC8 hb8 B7 hC7 hb7 ho7 hC B6 B6d c0 c1 c2 c3 c4 hvb hvg
      go_wp2_with fail
      go_roundw
      case rel => exact ⟨k + 1, _, by omega, by go_num, rfl, HO.out, HB10.out⟩
      case measure => simp [intOf]; omega
    · obtain rfl : k = len := by omega
      go_wp2_with fail
      go_ret
      rw [List.take_of_length_le (by rw [hll.out]; exact Nat.le_refl _)] at hown
      exact ⟨v, rfl, hown, hbw⟩
set_option maxRecDepth 100000 in
set_option maxHeartbeats 8000000 in
theorem cells_branch (a : Option Addr) (len cap : Nat) (l : List En) (w : World) (h : Ents w a len cap l) (hlen : len ≤ 65536) (hd : ∀ e ∈ l, e.key.length ≤ 140737488351232 ∧ e.v.data.length ≤ 140737488351232) :
    Calls Tryd.prog 32 #[.agg #[.bool false, .slice a len cap]] w (BssPost w (cellsN false l)) := by
  have hB := below_one w (.cells #[.bool false, .slice a len cap] 52)
  have BX := (Boxes.nil w).alloc #[.bool false, .slice a len cap] 52 rfl
  have SH := fun W => shapes_any W
  have KI : ∀ W, Calls Tryd.prog 55 #[.agg #[.bool false, .slice a len cap]] W fun e w' => e = .returned (.int .u8 2) ∧ Below W.heap.size W w' := fun W => kind_any false (.slice a len cap) W
  go_enter Tryd.func32, Tryd.ntmps32
  go_wp2_with fail
  have h1 := h.below (Nat.le_refl _) hB
  generalize w.alloc _ = W1 at *
  have c0 : ∀ W, Below W1.heap.size W1 W → W.cell? ⟨w.heap.size, 0, none⟩ = some (.bool false) := fun W hW => (BX.step hW).cell 0 0 rfl rfl
  have c1 : ∀ W, Below W1.heap.size W1 W → W.cell? ⟨w.heap.size, 1, none⟩ = some (.slice a len cap) := fun W hW => (BX.step hW).cell 0 1 rfl rfl
  have hC : Below W1.heap.size W1 W1.drew := (Below.refl _ _).drew
  go_upto_region 1 with (fail)
  go_cut [3] (fun s wx => s = .iface 142 (.agg #[]) ∧ Below W1.heap.size W1 wx)
  case first =>
    go_region_with (first | (go_at_call 56; (with_reducible refine (SH _).mono ?_); rintro e w2 ⟨bs, rfl, hs2, hb2⟩; have hC2 := hC.trans (hb2.mono hC.size); have e0 := c0 _ hC2; have e1 := c1 _ hC2) | (go_at_call 55; (with_reducible refine (KI _).mono ?_); rintro e w3 ⟨rfl, hb3⟩; have hC3 := hC2.trans (hb3.mono hC2.size); have q3 := (hs2.step hb3).cell 0 2 rfl rfl))
    all_goals
      go_wp2_with fail
      go_meet
      exact ⟨rfl, hC3⟩
  case rest =>
  obtain ⟨rfl, hC4⟩ := hcut
  have hb := below_then hB hC4
  have BX := BX.step hC4
  have h1 := h1.below (Nat.le_refl _) hC4
  clear c0 c1 hC hC4
  have d1 := BX.cell 0 1 rfl rfl
  go_wp2_with fail
  clear d1
  have hll := Lib.hid h1.len
  have HI := Lib.hid hd
  clear hd
  have HB := Lib.hid hb
  have BX3 := BX
  clear BX hb
  go_loopw [4, 15] (fun o i wr => ∃ (k : Nat) (v : Value), k ≤ len ∧ i = .int .i64 k ∧ v = o ∧ OwnBss wr w.heap.size v (cellsN false (l.take k)) ∧ Below w.heap.size w wr) (fun _ i _ => len - (intOf i).toNat)
  case atStart => exact ⟨0, _, Nat.zero_le _, rfl, rfl, OwnBss.nil _ _, HB.out⟩
  case round =>
    obtain ⟨k, v, hk, rfl, rfl, hown, hbw⟩ := hrel
    by_cases hlt : k < len
    · obtain ⟨b, off, e, rfl, hbb, hy, e0, e1, e2, e3, e4⟩ := (h.below (Nat.le_refl _) hbw).at hlt
      have B6 := (Boxes.nil wr).alloc #[.string (strOf e.key), .string (strOf e.v.data), .bool e.v.far, .int .i64 e.v.size, .int .i64 e.v.page] 76 rfl
      have hb6 := below_one wr (.cells #[.string (strOf e.key), .string (strOf e.v.data), .bool e.v.far, .int .i64 e.v.size, .int .i64 e.v.page] 76)
      have hown6 := hown.below (Nat.le_refl _) hb6
      have hbw6 := below_then hbw hb6
      obtain ⟨hl1, hl2⟩ := HI.out e (List.mem_of_getElem? hy)
      have T1 := fun W => text_any e.key W (by omega)
      have PU : ∀ W, Calls Tryd.prog 114 #[.agg #[], .agg #[.string (strOf e.v.data), .bool e.v.far, .int .i64 e.v.size, .int .i64 e.v.page]] W (OwnBytes 5 W (encV false e.v)) := fun W => put_any false e.v W hl2
      have hmp := m_putB
      have hvb := hown.blk
      have hvg : ∀ j, v.ownBlock = some j → w.heap.size ≤ j := by obtain ⟨vs, hv, _⟩ := hown; exact own_ge hv
      have hsz := hbw6.size
      clear hown hb6
      go_wp2_with fail
      clear e0 e1 e2 e3 e4
      generalize wr.heap.size = bx at *
      generalize wr.alloc _ = W6 at *
      have c0 : ∀ W, Boxes W [(bx, [.string (strOf e.key), .string (strOf e.v.data), .bool e.v.far, .int .i64 e.v.size, .int .i64 e.v.page])] → W.cell? ⟨bx, 0, none⟩ = some (.string (strOf e.key)) := fun W hW => hW.cell 0 0 rfl rfl
      have c1 : ∀ W, Boxes W [(bx, [.string (strOf e.key), .string (strOf e.v.data), .bool e.v.far, .int .i64 e.v.size, .int .i64 e.v.page])] → W.cell? ⟨bx, 1, none⟩ = some (.string (strOf e.v.data)) := fun W hW => hW.cell 0 1 rfl rfl
      have c2 : ∀ W, Boxes W [(bx, [.string (strOf e.key), .string (strOf e.v.data), .bool e.v.far, .int .i64 e.v.size, .int .i64 e.v.page])] → W.cell? ⟨bx, 2, none⟩ = some (.bool e.v.far) := fun W hW => hW.cell 0 2 rfl rfl
      have c3 : ∀ W, Boxes W [(bx, [.string (strOf e.key), .string (strOf e.v.data), .bool e.v.far, .int .i64 e.v.size, .int .i64 e.v.page])] → W.cell? ⟨bx, 3, none⟩ = some (.int .i64 e.v.size) := fun W hW => hW.cell 0 3 rfl rfl
      have c4 : ∀ W, Boxes W [(bx, [.string (strOf e.key), .string (strOf e.v.data), .bool e.v.far, .int .i64 e.v.size, .int .i64 e.v.page])] → W.cell? ⟨bx, 4, none⟩ = some (.int .i64 e.v.page) := fun W hW => hW.cell 0 4 rfl rfl
      have hC : Below W6.heap.size W6 W6.drew := (Below.refl _ _).drew
      have B6 : Boxes W6 [(bx, [.string (strOf e.key), .string (strOf e.v.data), .bool e.v.far, .int .i64 e.v.size, .int .i64 e.v.page])] := B6
      have B6d : Boxes W6.drew [(bx, [.string (strOf e.key), .string (strOf e.v.data), .bool e.v.far, .int .i64 e.v.size, .int .i64 e.v.page])] := B6
      go_region_held3 (fun W => Boxes W [(bx, [.string (strOf e.key), .string (strOf e.v.data), .bool e.v.far, .int .i64 e.v.size, .int .i64 e.v.page])]) (first | with_reducible assumption | (with_reducible exact B9.step (below_one w9 _))) (first | (go_at_call 57; (with_reducible refine (T1 _).mono ?_); rintro e1 w7 ⟨v7, rfl, ho7, hb7⟩; have hC7 := hC.trans (hb7.mono hC.size); have B7 := B6d.step hb7) | (go_at_call 114; (with_reducible refine (PU _).mono ?_); rintro e1 w8 ⟨v8, rfl, ho8, hb8⟩; have hC8 := hC7.trans (hb8.mono hC7.size); have B8 := B7.step hb8; obtain ⟨a8, k8, rfl, hs8⟩ := Bs.of_own ho8; obtain ⟨v9, w9, hr9, ho9, hg9, ha9⟩ := append_bytes (own_below (own_base (b0 := W6.heap.size) ho7 hC.size) (Nat.le_refl _) hb8) hs8 (by rw [textF_length, encV_length]; simp; omega) hC8.size; have hC9 : Below W6.heap.size W6 w9 := hC8.grown hg9 hC8.size (own_ge (own_base (b0 := W6.heap.size) ho7 hC.size)); have B9 := B6.step hC9; have ho9 := own_cell ho9; obtain ⟨a9, k9, rfl, hk91, hk92, hk93⟩ := own_slice ho9; have hown9 := hown6.below (Nat.le_refl _) hC9; obtain ⟨v10, w10, hr10, ho10, hg10⟩ := append_bss hown9 ho9 hsz (by rw [cellsN_length, List.length_take]; omega) (Nat.le_trans hsz hC9.size); have B10 := B9.grown hg10 (fun p hp => by simp at hp; subst hp; exact hvb); have hb9 := below_then hbw6 hC9; have hb10 := hb9.grown hg10 hb9.size hvg) | (refine step_append_run rfl _ _ _ _ rfl rfl rfl hr9 ?_) | (refine step_append_run rfl _ _ _ _ rfl rfl rfl hr10 ?_))
      rw [← cellsN_snoc false l k e hy] at ho10
      have HO := Lib.hid ho10
      have HB10 := Lib.hid hb10
      clear ho10 hb10 B10 hg10 hr10 hown9 hk91 hk92 hk93 ho9 ha9 hr9 B9 hC9 hg9 hs8 ho8 B8 hC8 hb8 B7 hC7 hb7 ho7 hC B6 B6d c0 c1 c2 c3 c4 hvb hvg
      go_wp2_with fail
      go_roundw
      case rel => exact ⟨k + 1, _, by omega, by go_num, rfl, HO.out, HB10.out⟩
      case measure => simp [intOf]; omega
    · obtain rfl : k = len := by omega
      go_wp2_with fail
      go_ret
      rw [List.take_of_length_le (by rw [hll.out]; exact Nat.le_refl _)] at hown
      exact ⟨v, rfl, hown, hbw⟩

theorem cells_any (leaf : Bool) (a : Option Addr) (len cap : Nat) (l : List En) (w : World) (h : Ents w a len cap l) (hlen : len ≤ 65536) (hd : ∀ e ∈ l, e.key.length ≤ 140737488351232 ∧ e.v.data.length ≤ 140737488351232) :
    Calls Tryd.prog 32 #[.agg #[.bool leaf, .slice a len cap]] w (BssPost w (cellsN leaf l)) := by
  cases leaf
  · exact cells_branch a len cap l w h hlen hd
  · exact cells_leaf a len cap l w h hlen hd
end Go.Proofs.YtjdepdgoaopfoaaDoor
