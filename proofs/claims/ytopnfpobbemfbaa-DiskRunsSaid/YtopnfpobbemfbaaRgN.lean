/- The reference's regions: New. -/
import Derived.Test.YtopnfpobbemfbaaRgC
import Derived.Test.YtopnfpobbemfbaaStep
import Derived.Deep.RegionHeld3
namespace Go.Proofs.Ytopnfpobbemfbaa
open Go.RowKit

def RNewPost (w : World) (l : List Int) (e : Ending) (w' : World) : Prop :=
  Below w.heap.size w w' ∧ (if newOk l then ∃ a cap, e = .returned (.tuple #[.slice a l.length cap, .int .i64 0]) ∧ GsK (From (fun _ => False) w.heap.size) w' a l.length cap (newD l) else e = .returned (.tuple #[.slice none 0 0, .int .i64 1]))
theorem rnewPost_bad {w w' : World} {l : List Int} (h : newOk l = false) (hb : Below w.heap.size w w') : RNewPost w l (.returned (.tuple #[.slice none 0 0, .int .i64 1])) w' := ⟨hb, by rw [h]; rfl⟩
/-- A page of noughts as a text. -/
def zstr : Value := strV (List.replicate 128 0)
/-- A region while its pages are laid. -/
def NewIn (gb : Nat) (w0 : World) (k : Nat) (wx : World) : Prop := ∃ v, wx.heap[gb]? = some (.cells #[v, .slice none 0 0, .int .i64 (-1), .bool false] 58 (0, 0)) ∧ wx.ownsRow (gb + 1) 9 1 v k (List.replicate k zstr) ∧ Below gb w0 wx ∧ gb < wx.heap.size
theorem pagesL_new (n : Nat) : (pagesL (Rg.new n)).map strV = List.replicate n zstr := by
  unfold pagesL Rg.new
  rw [List.map_map]
  apply List.ext_getElem
  · simp
  · intro i h1 h2
    simp [zstr, zpage]
theorem info_u8N : (Try.prog.info? 5).map (fun i => (i.zero, i.size, i.bytes)) = some (some (.int .u8 0), 1, 1) := by kernel_rfl
/-- One page more: every world on the way. -/
theorem new_page {gb k : Nat} {w0 wx : World} (hk : k ≤ 1000) (h : NewIn gb w0 k wx) : ∃ a c w1 a9 c9 w9, wx.cell? ⟨gb, 0, none⟩ = some (.slice a k c) ∧ w1.cell? ⟨gb, 0, none⟩ = some (.slice a k c) ∧ (w1.alloc (.cells #[zstr] 9)).cell? ⟨gb, 0, none⟩ = some (.slice a k c) ∧
    (Instr.makeSlice 22 (.int .i64 128) (.int .i64 128)).run Try.prog wx.drew = .ok (.slice (some ⟨wx.heap.size, 0, none⟩) 128 128) w1 ∧
    (convert 22 9 (.slice (some ⟨wx.heap.size, 0, none⟩) 128 128)).run Try.prog w1 = .ok zstr w1 ∧
    (Builtin.append_ #[31, 31] 31 #[.slice a k c, .slice (some ⟨w1.heap.size, 0, none⟩) 1 1]).run Try.prog (w1.alloc (.cells #[zstr] 9)) = .ok (.slice a9 (k + 1) c9) w9 ∧
    w9.cell? ⟨gb, 0, none⟩ = some (.slice a k c) ∧ w9.frozen? ⟨gb, 0, none⟩ = false ∧ NewIn gb w0 (k + 1) (w9.setCell ⟨gb, 0, none⟩ (.slice a9 (k + 1) c9)) := by
  obtain ⟨v, h1, h2, h3, h4⟩ := h
  obtain ⟨i0, hi, hz0, hz1, hz2⟩ := info_parts info_u8N
  obtain ⟨k0, hk0, hx0, hx1, hx2⟩ := info_parts info_str2
  have hd : wx.drew.heap = wx.heap := rfl
  obtain ⟨w1, hm, ho1, hg1⟩ := run_makeSlice_full (P := Try.prog) (w := wx.drew) wx.heap.size 22 5 i0 _ 1 Try.underlying22 hi hz0 hz1 .i64 .i64 128 (by omega) (by rw [hz2]; omega) (by unfold maxLen; omega) (Nat.le_refl _)
  have hb1 : Below wx.heap.size wx w1 := ((Below.refl wx.heap.size wx).drew).grown hg1 (Nat.le_refl _) (fun j e => by cases e)
  have hbs : Bs w1 (some ⟨wx.heap.size, 0, none⟩) 128 128 (List.replicate 128 0) := by
    have ho : w1.ownsRow wx.heap.size 5 1 (.slice (some ⟨wx.heap.size, 0, none⟩) 128 128) 128 ((toI (List.replicate 128 0)).map (Value.int .u8)) := by
      have hmade : (madeCells (Value.int .u8 0).cells (128 * 1)).toList = List.replicate 128 (.int .u8 0) := made_list (.int .u8 0) 128
      rw [hmade] at ho1
      have e : ((toI (List.replicate 128 0)).map (Value.int .u8)) = List.replicate 128 (.int .u8 0) := by simp [toI]
      rw [e]
      exact ho1
    obtain ⟨a', c', e, hb⟩ := Bs.of_own ho
    cases e
    exact hb
  have hcv := conv_string Try.underlying22 Try.underlying5 Try.underlying9 hbs
  have h2' := own_step h2 hb1
  have hs1 := hb1.size
  obtain ⟨v9, w9, hr9, ho9, hg9, _⟩ := run_append_new (P := Try.prog) (w := w1) (gb + 1) 31 9 k0 _ 1 16 Try.underlying31 hk0 hx0 hx1 hx2 rfl (by decide) h2' #[zstr] rfl (by intro u hu; simp at hu; subst hu; rfl) (by unfold maxLen; omega) (by omega) (by omega)
  obtain ⟨a, c, rfl, _⟩ := own_slice h2
  obtain ⟨a9, c9, rfl, _⟩ := own_slice ho9
  have hge := own_ge h2'
  have e1 : w1.heap[gb]? = some (.cells #[.slice a k c, .slice none 0 0, .int .i64 (-1), .bool false] 58 (0, 0)) := (hb1.block gb h4).trans h1
  have e9 : w9.heap[gb]? = some (.cells #[.slice a k c, .slice none 0 0, .int .i64 (-1), .bool false] 58 (0, 0)) := (hg9.block gb (by omega) (fun e => by have := hge gb e.symm; omega)).trans e1
  have c1 : w1.cell? ⟨gb, 0, none⟩ = some (.slice a k c) := by simp [World.cell?, e1]
  have hb9 : Below gb wx w9 := (hb1.mono (Nat.le_of_lt h4)).grown hg9 (by omega) (fun j e => by have := hge j e; omega)
  refine ⟨a, c, w1, a9, c9, w9, by simp [World.cell?, h1], c1, (World.cell?_alloc_some w1 ⟨gb, 0, none⟩ _ (by rw [c1]; rfl)).trans c1, hm, hcv, hr9, by simp [World.cell?, e9], by simp [World.frozen?, e9], .slice a9 (k + 1) c9, ?_, ?_, (h3.trans hb9).setCell (Nat.le_refl _) _, ?_⟩
  · rw [heap_setCell_at 0 _ e9]; rfl
  · have h5 := own_set ho9 ⟨gb, 0, none⟩ (.slice a9 (k + 1) c9) (fun e => by have := own_ge ho9 _ e; simp at this; omega)
    rw [List.replicate_succ']
    exact h5
  · have := hg9.size
    simp [World.setCell]; omega

set_option maxRecDepth 100000 in
set_option maxHeartbeats 8000000 in
theorem rnew_any {w : World} {a : Option Addr} {len cap : Nat} {l : List Int} (h : Row .i64 w a len cap l) (hlen : len ≤ 1000) :
    Calls Try.prog 19 #[.slice a len cap] w (RNewPost w l) := by
  have hl := h.1
  have HROW := Lib.hid h
  have HL := Lib.hid hl
  obtain ⟨_, _, _, _, hcells⟩ := h
  have HC := Lib.hid hcells
  clear hl hcells
  go_enter Try.func19, Try.ntmps19
  go_wp2_with fail
  go_loopw [4, 5] (fun s4 s wr => ∃ (i : Nat), i ≤ len ∧ s = .int .i64 i ∧ GOwn w.heap.size wr s4 (newD (l.take i)) ∧ Below w.heap.size w wr ∧ (l.take i).all (fun n => decide (1 ≤ n) && decide (n ≤ 1000)) = true) (fun _ s _ => len - (intOf s).toNat)
  case atStart => exact ⟨0, Nat.zero_le _, rfl, GOwn.nil _ _, Below.refl _ _, rfl⟩
  case round =>
    obtain ⟨i, hi, rfl, hown, hb, hall⟩ := hrel
    obtain ⟨wB, rfl⟩ : ∃ wB, wB = wr := ⟨_, rfl⟩
    by_cases hlt : i < len
    · obtain ⟨b, off, rfl, hbl, hc⟩ := HC.out.resolve_left (by omega)
      have hkl : i < l.length := by have := HL.out; omega
      obtain ⟨n, hn⟩ : ∃ n, l[i]? = some n := ⟨_, List.getElem?_eq_getElem hkl⟩
      have hts : l.take (i + 1) = l.take i ++ [n] := by rw [List.take_succ_eq_append_getElem hkl, (List.getElem?_eq_some_iff.1 hn).2]
      have c1 : wB.cell? ⟨b, off + i, none⟩ = some (.int .i64 n) := by
        rw [hb.cell (p := ⟨b, off + i, none⟩) hbl, hc i hlt, hn]; rfl
      have cN : ∀ W, Below w.heap.size w W → W.cell? ⟨b, off + i, none⟩ = some (.int .i64 n) := fun W hW => by
        rw [hW.cell (p := ⟨b, off + i, none⟩) hbl, hc i hlt, hn]; rfl
      by_cases hgood : 1 ≤ n ∧ n ≤ 1000
      · obtain ⟨m, rfl⟩ := Int.eq_ofNat_of_zero_le (show 0 ≤ n by omega)
        have e0 : decide ((m : Int) < 1) = false := by simp; omega
        have e1 : decide ((1000 : Int) < m) = false := by simp; omega
        have e2 : decide (m < 1) = false := by simp; omega
        have e3 : decide (1000 < m) = false := by simp; omega
        have hm1 : m ≤ 1000 := by omega
        have HALL : Hid ((l.take (i + 1)).all (fun n => decide (1 ≤ n) && decide (n ≤ 1000)) = true) := Lib.hid (by rw [hts, List.all_append, hall]; simp; omega)
        have HND : Hid (newD (l.take (i + 1)) = newD (l.take i) ++ [Rg.new m]) := Lib.hid (by rw [hts]; simp [newD])
        have HNL : Hid ((newD (l.take i)).length ≤ 1000) := Lib.hid (by have := HL.out; simp [newD]; omega)
        have hs0 := hb.size
        have hbA : Below w.heap.size w (wB.alloc (.cells #[.slice none 0 0, .slice none 0 0, .int .i64 (-1), .bool false] 58)) := hb.alloc hs0 _
        have hin : NewIn wB.heap.size wB 0 (wB.alloc (.cells #[.slice none 0 0, .slice none 0 0, .int .i64 (-1), .bool false] 58)) := ⟨_, World.alloc_heap_new wB _, World.ownsRow_nil _ _ _ _, (Below.refl _ _).alloc (Nat.le_refl _) _, by simp⟩
        have HIN := Lib.hid hin
        have HB := Lib.hid hb
        have HO := Lib.hid hown
        clear hin hbA hall hts hn hgood hkl hc hown hb
        go_wp2_with fail
        go_loopw [7] (fun s7 wx => ∃ (k : Nat), k ≤ m ∧ s7 = .int .i64 k ∧ NewIn wB.heap.size wB k wx) (fun s _ => m - (intOf s).toNat)
        case atStart => exact ⟨0, Nat.zero_le _, rfl, HIN.out⟩
        case round =>
          clear HIN
          obtain ⟨k, hk, rfl, hin⟩ := hrel
          have hbB : Below wB.heap.size wB wr := by obtain ⟨_, _, _, h3, _⟩ := hin; exact h3
          have hbx : Below w.heap.size w wr := below_then HB.out hbB
          by_cases hltk : k < m
          · have d4 : decide ((k : Int) < m) = true := by simp; omega
            obtain ⟨a4, c4, w1, a9, c9, w9, f0, f1, f2, hmk, hcv, hr9, f3, f4, hin2⟩ := new_page (by omega) hin
            have cx := cN _ hbx
            have f0d : wr.drew.cell? ⟨wB.heap.size, 0, none⟩ = some (.slice a4 k c4) := f0
            have ld0 : (Instr.loadAt 31 (.pointer (some ⟨wB.heap.size, 0, none⟩))).run Try.prog wr.drew = .ok (.slice a4 k c4) wr.drew := by go_simp
            have ld1 : (Instr.loadAt 31 (.pointer (some ⟨wB.heap.size, 0, none⟩))).run Try.prog w1 = .ok (.slice a4 k c4) w1 := by go_simp
            have ld2 : (Instr.loadAt 31 (.pointer (some ⟨wB.heap.size, 0, none⟩))).run Try.prog (w1.alloc (.cells #[zstr] 9)) = .ok (.slice a4 k c4) (w1.alloc (.cells #[zstr] 9)) := by go_simp
            have bs1 : (Instr.buildSlice 31 1 #[(0, zstr)]).run Try.prog w1 = .ok (.slice (some ⟨w1.heap.size, 0, none⟩) 1 1) (w1.alloc (.cells #[zstr] 9)) := by unfold zstr strV; go_simp
            have st1 : (Instr.storeAt 31 (.pointer (some ⟨wB.heap.size, 0, none⟩)) (.slice a9 (k + 1) c9)).run Try.prog w9 = .ok () (w9.setCell ⟨wB.heap.size, 0, none⟩ (.slice a9 (k + 1) c9)) := by go_simp
            have HIN2 := Lib.hid hin2
            clear hin hin2 hbx hbB
            go_wp2_with fail
            refine wp_region_noPanic ?_
            refine wp_region_held_drew (S := (fun _ => True)) (by kernel_rfl) (by trivial) (fun hHeld => ?_)
            refine wpAnyH_take (i := 0) (oi := { dst := some 35, op := Op.fieldAddr 58 (Operand.tmp 6) 0, type := 0, pos := "ref.go:29", after := #[], guard := none }) (v := ?_) rfl (by kernel_rfl) (by kernel_rfl) (by kernel_rfl) (fun _ _ _ h => h) (Or.inl ⟨by rfl, ?_⟩) (by assumption) ?_
            rotate_left
            · (intro W hW; (try dsimp only at hW); go_simp <;> (with_reducible rfl))
            try simp only [Act.put, List.setIfInBounds_toArray, List.set_cons_zero, List.set_cons_succ]
            refine wpAnyH_ready (rs := [1, 2]) (by kernel_rfl) (by simp) (AllReadyH.cons (o := { dst := some 36, op := Op.load 31 (Operand.tmp 35), type := 31, pos := "ref.go:29", after := #[{ on := 0, ground := Ground.data }], guard := none }) rfl (fun K hK => ?_) (AllReadyH.cons (o := { dst := some 37, op := Op.makeSlice 22 (Operand.const (Value.int IntKind.i64 128)) (Operand.const (Value.int IntKind.i64 128)), type := 22, pos := "ref.go:29", after := #[], guard := none }) rfl (fun K hK => ?_) AllReadyH.nil))
            · refine step_load_run rfl _ _ rfl rfl (by first | exact ld0 | exact ld1 | exact ld2) ?_
              refine hK.out _ _ (by trivial) (fun hHeld => ?_)
              clear hK K
              try simp only [Act.put, List.setIfInBounds_toArray, List.set_cons_zero, List.set_cons_succ]
              refine wpAnyH_ready (rs := [2]) (by kernel_rfl) (by simp) (AllReadyH.cons (o := { dst := some 37, op := Op.makeSlice 22 (Operand.const (Value.int IntKind.i64 128)) (Operand.const (Value.int IntKind.i64 128)), type := 22, pos := "ref.go:29", after := #[], guard := none }) rfl (fun K hK => ?_) AllReadyH.nil)
              refine step_make_run rfl _ _ _ rfl rfl rfl hmk ?_
              refine hK.out _ _ (by trivial) (fun hHeld => ?_)
              clear hK K
              try simp only [Act.put, List.setIfInBounds_toArray, List.set_cons_zero, List.set_cons_succ]
              refine wpAnyH_ready (rs := [3]) (by kernel_rfl) (by simp) (AllReadyH.cons (o := { dst := some 38, op := Op.convert 22 9 (Operand.tmp 37), type := 9, pos := "ref.go:29", after := #[{ on := 2, ground := Ground.data }], guard := none }) rfl (fun K hK => ?_) AllReadyH.nil)
              refine step_convert_run rfl _ _ _ rfl rfl hcv ?_
              refine hK.out _ _ (by trivial) (fun hHeld => ?_)
              clear hK K
              try simp only [Act.put, List.setIfInBounds_toArray, List.set_cons_zero, List.set_cons_succ]
              refine wpAnyH_ready (rs := [4]) (by kernel_rfl) (by simp) (AllReadyH.cons (o := { dst := some 39, op := Op.buildSlice 31 1 #[(0, Operand.tmp 38)], type := 31, pos := "ref.go:29", after := #[{ on := 3, ground := Ground.data }], guard := none }) rfl (fun K hK => ?_) AllReadyH.nil)
              refine step_buildSlice_one rfl _ _ rfl rfl bs1 ?_
              refine hK.out _ _ (by trivial) (fun hHeld => ?_)
              clear hK K
              try simp only [Act.put, List.setIfInBounds_toArray, List.set_cons_zero, List.set_cons_succ]
              refine wpAnyH_ready (rs := [5]) (by kernel_rfl) (by simp) (AllReadyH.cons (o := { dst := some 40, op := Op.call { callee := Callee.builtin Builtin.append, args := #[Operand.tmp 36, Operand.tmp 39], argTypes := #[31, 31] }, type := 31, pos := "ref.go:29", after := #[{ on := 1, ground := Ground.data }, { on := 4, ground := Ground.data }], guard := none }) rfl (fun K hK => ?_) AllReadyH.nil)
              refine step_append_run rfl _ _ _ _ rfl rfl rfl hr9 ?_
              refine hK.out _ _ (by trivial) (fun hHeld => ?_)
              clear hK K
              try simp only [Act.put, List.setIfInBounds_toArray, List.set_cons_zero, List.set_cons_succ]
              refine wpAnyH_take (i := 6) (oi := { dst := some 41, op := Op.fieldAddr 58 (Operand.tmp 6) 0, type := 0, pos := "ref.go:29", after := #[{ on := 0, ground := Ground.phase }, { on := 1, ground := Ground.phase }, { on := 2, ground := Ground.phase }, { on := 3, ground := Ground.phase }, { on := 4, ground := Ground.phase }, { on := 5, ground := Ground.phase }], guard := none }) (v := ?_) rfl (by kernel_rfl) (by kernel_rfl) (by kernel_rfl) (fun _ _ _ h => h) (Or.inl ⟨by rfl, ?_⟩) (by assumption) ?_
              rotate_left
              · (intro W hW; (try dsimp only at hW); go_simp <;> (with_reducible rfl))
              try simp only [Act.put, List.setIfInBounds_toArray, List.set_cons_zero, List.set_cons_succ]
              refine wpAnyH_ready (rs := [7]) (by kernel_rfl) (by simp) (AllReadyH.cons (o := { dst := none, op := Op.store 31 (Operand.tmp 41) (Operand.tmp 40), type := 0, pos := "ref.go:29", after := #[{ on := 6, ground := Ground.data }, { on := 5, ground := Ground.data }, { on := 5, ground := Ground.chain }, { on := 0, ground := Ground.phase }, { on := 1, ground := Ground.phase }, { on := 2, ground := Ground.phase }, { on := 3, ground := Ground.phase }, { on := 4, ground := Ground.phase }, { on := 5, ground := Ground.phase }], guard := none }) rfl (fun K hK => ?_) AllReadyH.nil)
              refine step_store_run rfl _ _ _ rfl rfl rfl st1 ?_
              refine hK.out _ _ (by trivial) (fun hHeld => ?_)
              clear hK K
              try simp only [Act.put, List.setIfInBounds_toArray, List.set_cons_zero, List.set_cons_succ]
              refine wpAnyH_done (by kernel_rfl) ?_ _
              refine NoPanic.normal ?_
              clear hHeld
              go_wp2_with fail
              go_roundw
              case rel => exact ⟨k + 1, hltk, by go_num, HIN2.out⟩
              case measure => simp [intOf]; omega
            · refine step_make_run rfl _ _ _ rfl rfl rfl hmk ?_
              refine hK.out _ _ (by trivial) (fun hHeld => ?_)
              clear hK K
              try simp only [Act.put, List.setIfInBounds_toArray, List.set_cons_zero, List.set_cons_succ]
              refine wpAnyH_ready (rs := [1, 3]) (by kernel_rfl) (by simp) (AllReadyH.cons (o := { dst := some 36, op := Op.load 31 (Operand.tmp 35), type := 31, pos := "ref.go:29", after := #[{ on := 0, ground := Ground.data }], guard := none }) rfl (fun K hK => ?_) (AllReadyH.cons (o := { dst := some 38, op := Op.convert 22 9 (Operand.tmp 37), type := 9, pos := "ref.go:29", after := #[{ on := 2, ground := Ground.data }], guard := none }) rfl (fun K hK => ?_) AllReadyH.nil))
              · refine step_load_run rfl _ _ rfl rfl (by first | exact ld0 | exact ld1 | exact ld2) ?_
                refine hK.out _ _ (by trivial) (fun hHeld => ?_)
                clear hK K
                try simp only [Act.put, List.setIfInBounds_toArray, List.set_cons_zero, List.set_cons_succ]
                refine wpAnyH_ready (rs := [3]) (by kernel_rfl) (by simp) (AllReadyH.cons (o := { dst := some 38, op := Op.convert 22 9 (Operand.tmp 37), type := 9, pos := "ref.go:29", after := #[{ on := 2, ground := Ground.data }], guard := none }) rfl (fun K hK => ?_) AllReadyH.nil)
                refine step_convert_run rfl _ _ _ rfl rfl hcv ?_
                refine hK.out _ _ (by trivial) (fun hHeld => ?_)
                clear hK K
                try simp only [Act.put, List.setIfInBounds_toArray, List.set_cons_zero, List.set_cons_succ]
                refine wpAnyH_ready (rs := [4]) (by kernel_rfl) (by simp) (AllReadyH.cons (o := { dst := some 39, op := Op.buildSlice 31 1 #[(0, Operand.tmp 38)], type := 31, pos := "ref.go:29", after := #[{ on := 3, ground := Ground.data }], guard := none }) rfl (fun K hK => ?_) AllReadyH.nil)
                refine step_buildSlice_one rfl _ _ rfl rfl bs1 ?_
                refine hK.out _ _ (by trivial) (fun hHeld => ?_)
                clear hK K
                try simp only [Act.put, List.setIfInBounds_toArray, List.set_cons_zero, List.set_cons_succ]
                refine wpAnyH_ready (rs := [5]) (by kernel_rfl) (by simp) (AllReadyH.cons (o := { dst := some 40, op := Op.call { callee := Callee.builtin Builtin.append, args := #[Operand.tmp 36, Operand.tmp 39], argTypes := #[31, 31] }, type := 31, pos := "ref.go:29", after := #[{ on := 1, ground := Ground.data }, { on := 4, ground := Ground.data }], guard := none }) rfl (fun K hK => ?_) AllReadyH.nil)
                refine step_append_run rfl _ _ _ _ rfl rfl rfl hr9 ?_
                refine hK.out _ _ (by trivial) (fun hHeld => ?_)
                clear hK K
                try simp only [Act.put, List.setIfInBounds_toArray, List.set_cons_zero, List.set_cons_succ]
                refine wpAnyH_take (i := 6) (oi := { dst := some 41, op := Op.fieldAddr 58 (Operand.tmp 6) 0, type := 0, pos := "ref.go:29", after := #[{ on := 0, ground := Ground.phase }, { on := 1, ground := Ground.phase }, { on := 2, ground := Ground.phase }, { on := 3, ground := Ground.phase }, { on := 4, ground := Ground.phase }, { on := 5, ground := Ground.phase }], guard := none }) (v := ?_) rfl (by kernel_rfl) (by kernel_rfl) (by kernel_rfl) (fun _ _ _ h => h) (Or.inl ⟨by rfl, ?_⟩) (by assumption) ?_
                rotate_left
                · (intro W hW; (try dsimp only at hW); go_simp <;> (with_reducible rfl))
                try simp only [Act.put, List.setIfInBounds_toArray, List.set_cons_zero, List.set_cons_succ]
                refine wpAnyH_ready (rs := [7]) (by kernel_rfl) (by simp) (AllReadyH.cons (o := { dst := none, op := Op.store 31 (Operand.tmp 41) (Operand.tmp 40), type := 0, pos := "ref.go:29", after := #[{ on := 6, ground := Ground.data }, { on := 5, ground := Ground.data }, { on := 5, ground := Ground.chain }, { on := 0, ground := Ground.phase }, { on := 1, ground := Ground.phase }, { on := 2, ground := Ground.phase }, { on := 3, ground := Ground.phase }, { on := 4, ground := Ground.phase }, { on := 5, ground := Ground.phase }], guard := none }) rfl (fun K hK => ?_) AllReadyH.nil)
                refine step_store_run rfl _ _ _ rfl rfl rfl st1 ?_
                refine hK.out _ _ (by trivial) (fun hHeld => ?_)
                clear hK K
                try simp only [Act.put, List.setIfInBounds_toArray, List.set_cons_zero, List.set_cons_succ]
                refine wpAnyH_done (by kernel_rfl) ?_ _
                refine NoPanic.normal ?_
                clear hHeld
                go_wp2_with fail
                go_roundw
                case rel => exact ⟨k + 1, hltk, by go_num, HIN2.out⟩
                case measure => simp [intOf]; omega
              · refine step_convert_run rfl _ _ _ rfl rfl hcv ?_
                refine hK.out _ _ (by trivial) (fun hHeld => ?_)
                clear hK K
                try simp only [Act.put, List.setIfInBounds_toArray, List.set_cons_zero, List.set_cons_succ]
                refine wpAnyH_ready (rs := [1, 4]) (by kernel_rfl) (by simp) (AllReadyH.cons (o := { dst := some 36, op := Op.load 31 (Operand.tmp 35), type := 31, pos := "ref.go:29", after := #[{ on := 0, ground := Ground.data }], guard := none }) rfl (fun K hK => ?_) (AllReadyH.cons (o := { dst := some 39, op := Op.buildSlice 31 1 #[(0, Operand.tmp 38)], type := 31, pos := "ref.go:29", after := #[{ on := 3, ground := Ground.data }], guard := none }) rfl (fun K hK => ?_) AllReadyH.nil))
                · refine step_load_run rfl _ _ rfl rfl (by first | exact ld0 | exact ld1 | exact ld2) ?_
                  refine hK.out _ _ (by trivial) (fun hHeld => ?_)
                  clear hK K
                  try simp only [Act.put, List.setIfInBounds_toArray, List.set_cons_zero, List.set_cons_succ]
                  refine wpAnyH_ready (rs := [4]) (by kernel_rfl) (by simp) (AllReadyH.cons (o := { dst := some 39, op := Op.buildSlice 31 1 #[(0, Operand.tmp 38)], type := 31, pos := "ref.go:29", after := #[{ on := 3, ground := Ground.data }], guard := none }) rfl (fun K hK => ?_) AllReadyH.nil)
                  refine step_buildSlice_one rfl _ _ rfl rfl bs1 ?_
                  refine hK.out _ _ (by trivial) (fun hHeld => ?_)
                  clear hK K
                  try simp only [Act.put, List.setIfInBounds_toArray, List.set_cons_zero, List.set_cons_succ]
                  refine wpAnyH_ready (rs := [5]) (by kernel_rfl) (by simp) (AllReadyH.cons (o := { dst := some 40, op := Op.call { callee := Callee.builtin Builtin.append, args := #[Operand.tmp 36, Operand.tmp 39], argTypes := #[31, 31] }, type := 31, pos := "ref.go:29", after := #[{ on := 1, ground := Ground.data }, { on := 4, ground := Ground.data }], guard := none }) rfl (fun K hK => ?_) AllReadyH.nil)
                  refine step_append_run rfl _ _ _ _ rfl rfl rfl hr9 ?_
                  refine hK.out _ _ (by trivial) (fun hHeld => ?_)
                  clear hK K
                  try simp only [Act.put, List.setIfInBounds_toArray, List.set_cons_zero, List.set_cons_succ]
                  refine wpAnyH_take (i := 6) (oi := { dst := some 41, op := Op.fieldAddr 58 (Operand.tmp 6) 0, type := 0, pos := "ref.go:29", after := #[{ on := 0, ground := Ground.phase }, { on := 1, ground := Ground.phase }, { on := 2, ground := Ground.phase }, { on := 3, ground := Ground.phase }, { on := 4, ground := Ground.phase }, { on := 5, ground := Ground.phase }], guard := none }) (v := ?_) rfl (by kernel_rfl) (by kernel_rfl) (by kernel_rfl) (fun _ _ _ h => h) (Or.inl ⟨by rfl, ?_⟩) (by assumption) ?_
                  rotate_left
                  · (intro W hW; (try dsimp only at hW); go_simp <;> (with_reducible rfl))
                  try simp only [Act.put, List.setIfInBounds_toArray, List.set_cons_zero, List.set_cons_succ]
                  refine wpAnyH_ready (rs := [7]) (by kernel_rfl) (by simp) (AllReadyH.cons (o := { dst := none, op := Op.store 31 (Operand.tmp 41) (Operand.tmp 40), type := 0, pos := "ref.go:29", after := #[{ on := 6, ground := Ground.data }, { on := 5, ground := Ground.data }, { on := 5, ground := Ground.chain }, { on := 0, ground := Ground.phase }, { on := 1, ground := Ground.phase }, { on := 2, ground := Ground.phase }, { on := 3, ground := Ground.phase }, { on := 4, ground := Ground.phase }, { on := 5, ground := Ground.phase }], guard := none }) rfl (fun K hK => ?_) AllReadyH.nil)
                  refine step_store_run rfl _ _ _ rfl rfl rfl st1 ?_
                  refine hK.out _ _ (by trivial) (fun hHeld => ?_)
                  clear hK K
                  try simp only [Act.put, List.setIfInBounds_toArray, List.set_cons_zero, List.set_cons_succ]
                  refine wpAnyH_done (by kernel_rfl) ?_ _
                  refine NoPanic.normal ?_
                  clear hHeld
                  go_wp2_with fail
                  go_roundw
                  case rel => exact ⟨k + 1, hltk, by go_num, HIN2.out⟩
                  case measure => simp [intOf]; omega
                · refine step_buildSlice_one rfl _ _ rfl rfl bs1 ?_
                  refine hK.out _ _ (by trivial) (fun hHeld => ?_)
                  clear hK K
                  try simp only [Act.put, List.setIfInBounds_toArray, List.set_cons_zero, List.set_cons_succ]
                  refine wpAnyH_ready (rs := [1]) (by kernel_rfl) (by simp) (AllReadyH.cons (o := { dst := some 36, op := Op.load 31 (Operand.tmp 35), type := 31, pos := "ref.go:29", after := #[{ on := 0, ground := Ground.data }], guard := none }) rfl (fun K hK => ?_) AllReadyH.nil)
                  refine step_load_run rfl _ _ rfl rfl (by first | exact ld0 | exact ld1 | exact ld2) ?_
                  refine hK.out _ _ (by trivial) (fun hHeld => ?_)
                  clear hK K
                  try simp only [Act.put, List.setIfInBounds_toArray, List.set_cons_zero, List.set_cons_succ]
                  refine wpAnyH_ready (rs := [5]) (by kernel_rfl) (by simp) (AllReadyH.cons (o := { dst := some 40, op := Op.call { callee := Callee.builtin Builtin.append, args := #[Operand.tmp 36, Operand.tmp 39], argTypes := #[31, 31] }, type := 31, pos := "ref.go:29", after := #[{ on := 1, ground := Ground.data }, { on := 4, ground := Ground.data }], guard := none }) rfl (fun K hK => ?_) AllReadyH.nil)
                  refine step_append_run rfl _ _ _ _ rfl rfl rfl hr9 ?_
                  refine hK.out _ _ (by trivial) (fun hHeld => ?_)
                  clear hK K
                  try simp only [Act.put, List.setIfInBounds_toArray, List.set_cons_zero, List.set_cons_succ]
                  refine wpAnyH_take (i := 6) (oi := { dst := some 41, op := Op.fieldAddr 58 (Operand.tmp 6) 0, type := 0, pos := "ref.go:29", after := #[{ on := 0, ground := Ground.phase }, { on := 1, ground := Ground.phase }, { on := 2, ground := Ground.phase }, { on := 3, ground := Ground.phase }, { on := 4, ground := Ground.phase }, { on := 5, ground := Ground.phase }], guard := none }) (v := ?_) rfl (by kernel_rfl) (by kernel_rfl) (by kernel_rfl) (fun _ _ _ h => h) (Or.inl ⟨by rfl, ?_⟩) (by assumption) ?_
                  rotate_left
                  · (intro W hW; (try dsimp only at hW); go_simp <;> (with_reducible rfl))
                  try simp only [Act.put, List.setIfInBounds_toArray, List.set_cons_zero, List.set_cons_succ]
                  refine wpAnyH_ready (rs := [7]) (by kernel_rfl) (by simp) (AllReadyH.cons (o := { dst := none, op := Op.store 31 (Operand.tmp 41) (Operand.tmp 40), type := 0, pos := "ref.go:29", after := #[{ on := 6, ground := Ground.data }, { on := 5, ground := Ground.data }, { on := 5, ground := Ground.chain }, { on := 0, ground := Ground.phase }, { on := 1, ground := Ground.phase }, { on := 2, ground := Ground.phase }, { on := 3, ground := Ground.phase }, { on := 4, ground := Ground.phase }, { on := 5, ground := Ground.phase }], guard := none }) rfl (fun K hK => ?_) AllReadyH.nil)
                  refine step_store_run rfl _ _ _ rfl rfl rfl st1 ?_
                  refine hK.out _ _ (by trivial) (fun hHeld => ?_)
                  clear hK K
                  try simp only [Act.put, List.setIfInBounds_toArray, List.set_cons_zero, List.set_cons_succ]
                  refine wpAnyH_done (by kernel_rfl) ?_ _
                  refine NoPanic.normal ?_
                  clear hHeld
                  go_wp2_with fail
                  go_roundw
                  case rel => exact ⟨k + 1, hltk, by go_num, HIN2.out⟩
                  case measure => simp [intOf]; omega
          · obtain rfl : k = m := by omega
            have d4 : decide ((k : Int) < k) = false := by simp
            obtain ⟨v, h1, h2, h3, h4⟩ := hin
            obtain ⟨a4, c4, rfl, _⟩ := own_slice h2
            have cx := cN _ hbx
            have k0 : wr.cell? ⟨wB.heap.size, 0, none⟩ = some (.slice a4 k c4) := by simp [World.cell?, h1]
            have k1 : wr.cell? ⟨wB.heap.size, 1, none⟩ = some (.slice none 0 0) := by simp [World.cell?, h1]
            have k2 : wr.cell? ⟨wB.heap.size, 2, none⟩ = some (.int .i64 (-1)) := by simp [World.cell?, h1]
            have k3 : wr.cell? ⟨wB.heap.size, 3, none⟩ = some (.bool false) := by simp [World.cell?, h1]
            have hgo : IsGo w.heap.size wr [.slice a4 k c4, .slice none 0 0, .int .i64 (-1), .bool false] (Rg.new k) := by
              refine ⟨a4, c4, rfl, ?_, rfl, hm1, by show (-1 : Int) ≤ -1; omega, by show (-1 : Int) ≤ _; omega⟩
              rw [pagesL_new]
              exact ⟨h2.1, h2.2.imp id fun ⟨g, cap, cur, e, hg, r⟩ => ⟨g, cap, cur, e, by omega, r⟩⟩
            have hG := HO.out.below hbB
            obtain ⟨v9, w9, hr9, hG9, hg9, hge9⟩ := hG.push HNL.out hbx.size (⟨[.slice a4 k c4, .slice none 0 0, .int .i64 (-1), .bool false], rfl, by
              intro u hu
              simp only [List.mem_cons, List.not_mem_nil, or_false] at hu
              rcases hu with rfl | rfl | rfl | rfl <;> rfl⟩ : C4) (Rg.new k) hgo
            rw [← HND.out] at hG9
            obtain ⟨a8, c8, e8, _⟩ := hG.gs
            have hr9 : (Builtin.append_ #[46, 46] 46 #[u4, .slice (some ⟨wr.heap.size, 0, none⟩) 1 1]).run Try.prog (wr.alloc (.cells #[.slice a4 k c4, .slice none 0 0, .int .i64 (-1), .bool false] 58)) = .ok v9 w9 := hr9
            have HG9 := Lib.hid hG9
            have HB9 := Lib.hid (hbx.grown hg9 hbx.size hge9)
            clear h1 h2 h3 h4 hgo hG hg9 hge9 hG9 hbx hbB e8
            go_wp2_with (at_builtin; refine wpList_append_run rfl _ _ _ _ rfl rfl rfl hr9 ?_)
            go_roundw
            case rel => exact ⟨i + 1, hlt, by go_num, HG9.out, HB9.out, HALL.out⟩
            case measure => simp [intOf]; omega
      · have hbad : newOk l = false := by
          unfold newOk
          rw [show l.all (fun n => decide (1 ≤ n) && decide (n ≤ 1000)) = false from by
            rw [List.all_eq_false]
            exact ⟨n, List.mem_of_getElem? hn, by simp; omega⟩]
          simp
        have HBD := Lib.hid (rnewPost_bad hbad hb)
        by_cases g1 : n < 1
        · have e0 : decide (n < 1) = true := by simpa using g1
          clear hown hb hall hts hn hgood hkl hc hbad
          go_wp2_with fail
          go_ret2
          exact HBD.out
        · have e0 : decide (n < 1) = false := by simpa using g1
          have e1 : decide (1000 < n) = true := by simp; omega
          clear hown hb hall hts hn hgood hkl hc hbad
          go_wp2_with fail
          go_ret2
          exact HBD.out
    · obtain rfl : i = len := by omega
      have htl : l.take i = l := List.take_of_length_le (by rw [HL.out]; exact Nat.le_refl _)
      rw [htl] at hown hall
      by_cases h1 : i < 1
      · have d0 : decide (i < 1) = true := by simpa using h1
        have d0' : decide ((i : Int) < 1) = true := by simp; omega
        have HBD := Lib.hid (rnewPost_bad (w := w) (w' := wB) (l := l) (by unfold newOk; have := HL.out; rw [show decide (1 ≤ l.length) = false from decide_eq_false (by omega)]; rfl) hb)
        clear hown hb hall htl
        go_wp2_with fail
        go_ret2
        exact HBD.out
      · have d0 : decide (i < 1) = false := by simpa using h1
        have d0' : decide ((i : Int) < 1) = false := by simp; omega
        by_cases h64 : 64 < i
        · have d1 : decide (64 < i) = true := by simpa using h64
          have d1' : decide ((64 : Int) < i) = true := by simp; omega
          have HBD := Lib.hid (rnewPost_bad (w := w) (w' := wB) (l := l) (by unfold newOk; have := HL.out; rw [show decide (l.length ≤ 64) = false from decide_eq_false (by omega)]; simp) hb)
          clear hown hb hall htl
          go_wp2_with fail
          go_ret2
          exact HBD.out
        · have d1 : decide (64 < i) = false := by simpa using h64
          have d1' : decide ((64 : Int) < i) = false := by simp; omega
          obtain ⟨ax, cx, ex, hgs⟩ := hown.gsK
          have hnl : (newD l).length = i := by rw [← HL.out]; simp [newD]
          rw [hnl] at ex hgs
          subst ex
          have END : RNewPost w l (.returned (.tuple #[.slice ax i cx, .int .i64 0])) wB := by
            refine ⟨hb, ?_⟩
            rw [if_pos (by unfold newOk; have := HL.out; rw [hall]; simp; omega)]
            exact ⟨ax, cx, by rw [HL.out], by rw [HL.out]; exact hgs⟩
          have END := Lib.hid END
          clear hown hb hall htl hgs hnl
          go_wp2_with fail
          go_ret2
          exact END.out
end Go.Proofs.Ytopnfpobbemfbaa
