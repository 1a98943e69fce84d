/- The walks of the chapter on nodes: the reference's cells and its word on a value. -/
import Derived.Test.YtjdepdgoaopfoaaDoorNodQ
import Derived.Test.YtjdepdgoaopfoaaDoorCelG
namespace Go.Proofs.YtjdepdgoaopfoaaDoor
open Go.RowKit

/-- May a value be? -/
def fineB (v : Vv) : Bool :=
  if v.far then v.data == [] && (decide (16 < v.size) && (decide (v.size ≤ 400) && pageB v.page))
  else decide (v.data.length ≤ 16) && (v.size == 0 && v.page == 0)
theorem mayL_fine (e : En) : mayL e = (keyB e.key && fineB e.v) := by
  unfold mayL fineB; split <;> rfl
set_option maxRecDepth 100000 in
set_option maxHeartbeats 4000000 in
theorem rfine_any (v : Vv) (w : World) :
    Calls Tryd.prog 60 #[vv v] w fun e w' => e = .returned (.bool (fineB v)) ∧ Below w.heap.size w w' := by
  obtain ⟨d, f, s, p⟩ := v
  have hst := strOf_toList
  have hsz := strOf_size d
  unfold vv
  cases f
  all_goals
    go_enter Tryd.func60, Tryd.ntmps60
    go_wp2
    all_goals
      go_ret
      exact ret_b (by simp [fineB, pageB, *] <;> omega) (below_one w _)

theorem encV_false (v : Vv) : encV false v = two v.page := rfl
/-- One text more in a row of texts. -/
theorem append_strs {w : World} {base : Nat} {v : Value} {n : Nat} {l : List (List UInt8)} (h : w.ownsRow base 9 1 v n (l.map sv)) (c : List UInt8) (hn : n ≤ 65536) (hbase : base ≤ w.heap.size) :
    ∃ v' w', (Builtin.append_ #[61, 61] 61 #[v, .slice (some ⟨w.heap.size, 0, none⟩) 1 1]).run Tryd.prog (w.alloc (.cells #[.string (strOf c)] 9)) = .ok v' w' ∧ w'.ownsRow base 9 1 v' (n + 1) ((l ++ [c]).map sv) ∧ w.grownBy w' v.ownBlock := by
  obtain ⟨i0, hi, hz0, hz1, hz2⟩ := info_parts info_str
  obtain ⟨v', w', hr, ho, hg, _⟩ := run_append_new (P := Tryd.prog) base 61 9 i0 _ 1 16 Tryd.underlying61 hi hz0 hz1 hz2 rfl (by decide) h #[.string (strOf c)] rfl (fun u hu => by simp at hu; subst hu; rfl) (by unfold maxLen; omega) (by omega) hbase
  exact ⟨v', w', hr, by rw [List.map_append]; exact ho, hg⟩
theorem cellsN_snoc1 (leaf : Bool) (l : List En) (k : Nat) (e : En) (h : l[k]? = some e) : cellsN leaf (l.take (k + 1)) = cellsN leaf (l.take k) ++ [cellN leaf e] := cellsN_snoc leaf l k e h

set_option maxRecDepth 100000 in
set_option maxHeartbeats 8000000 in
theorem rcells_any (leaf : Bool) (a : Option Addr) (len cap : Nat) (l : List En) (w : World) (h : Ents w a len cap l) (hlen : len ≤ 65536) (hd : SmE l) :
    Calls Tryd.prog 33 #[.agg #[.bool leaf, .slice a len cap]] w (OwnStrs w (cellsN leaf l)) := by
  have hB := below_one w (.cells #[.bool leaf, .slice a len cap] 56)
  have BX := (Boxes.nil w).alloc #[.bool leaf, .slice a len cap] 56 rfl
  have h1 := h.below (Nat.le_refl _) hB
  have hll := Lib.hid h1.len
  have HI := Lib.hid hd
  clear hd h1
  have HB := Lib.hid hB
  have HX := Lib.hid BX
  clear hB BX
  go_enter Tryd.func33, Tryd.ntmps33
  go_wp2_with fail
  go_loopw [3, 4] (fun o i wr => ∃ (k : Nat) (v : Value), k ≤ len ∧ i = .int .i64 k ∧ v = o ∧ wr.ownsRow (w.heap.size + 1) 9 1 v k ((cellsN leaf (l.take k)).map sv) ∧ Boxes wr [(w.heap.size, [.bool leaf, .slice a len cap])] ∧ Below w.heap.size w wr) (fun _ i _ => len - (intOf i).toNat)
  case atStart => exact ⟨0, _, Nat.zero_le _, rfl, rfl, World.ownsRow_nil _ _ _ _, HX.out, HB.out⟩
  case round =>
    obtain ⟨k, v, hk, rfl, rfl, hown, BX, hbw⟩ := hrel
    have d0 := BX.cell 0 0 rfl rfl
    have d1 := BX.cell 0 1 rfl rfl
    by_cases hlt : k < len
    · obtain ⟨b, off, e, rfl, hbb, hy, e0, e1, e2, e3, e4⟩ := (h.below (Nat.le_refl _) hbw).at hlt
      obtain ⟨hl1, hl2⟩ := HI.out e (List.mem_of_getElem? hy)
      have hnb : v.ownBlock ≠ some w.heap.size := fun e9 => by have := own_ge hown _ e9; omega
      have hwl := BX.lt 0 rfl
      have hov : ∀ j, v.ownBlock = some j → w.heap.size ≤ j := fun j hj => by have := own_ge hown j hj; omega
      have hb6 := below_one wr (.cells #[.string (strOf e.v.data), .bool e.v.far, .int .i64 e.v.size, .int .i64 e.v.page] 106)
      have B6 := BX.alloc #[.string (strOf e.v.data), .bool e.v.far, .int .i64 e.v.size, .int .i64 e.v.page] 106 rfl
      have hq1 := (hb6.cell (p := ⟨b, off + k * 5, none⟩) hbb).trans e0
      have T1 := fun W => refText_any e.key W (by omega)
      have d2 := B6.cell 1 1 rfl rfl
      have d3 := B6.cell 1 0 rfl rfl
      have hbl := Lib.hid hbw
      have hbx := B6.lt 0 rfl
      have HBX := Lib.hid BX
      clear BX
      cases leaf with
      | false =>
        have hw := wrap_u64N e.v.page
        have N2 : ∀ W, Calls Tryd.prog 42 #[.int .u64 (u64N e.v.page : Int), .int .i64 2] W (RetStr W (two e.v.page)) := fun W => refNum_ok (u64N e.v.page) 2 W (u64N_lt _) (by decide) (by decide)
        have ha : ∀ W, (Op.stringOp .add (strOf (textF e.key)) (strOf (two e.v.page))).run Tryd.prog W = .ok (.string (strOf (cellN false e))) W := fun W => str_add (P := Tryd.prog) _ _ (by rw [textF_length, two_length]; omega) W
        go_wp2_with fail
        refine (T1 _).mono ?_
        rintro en w7 ⟨rfl, hb7⟩
        have B7 := B6.step hb7
        have d4 := B7.cell 1 0 rfl rfl
        have d5 := B7.cell 0 3 rfl rfl
        have hE := below_then hb6 hb7
        clear hb7 d2 d3 d0 d1 hq1 e0 e1 e2 e3 e4
        go_wp2_with fail
        refine (N2 _).mono ?_
        rintro en w8 ⟨rfl, hb8⟩
        have hE := below_then hE hb8
        clear hb8 d4 d5 B6 B7
        have BX := HBX.out
        have hbw := hbl.out
        have hx := append_strs (own_below hown (Nat.le_refl _) hE) (cellN false e) (by omega) (Nat.le_trans hwl hE.size)
        obtain ⟨v9, wz, hr9, ho9, hg9⟩ := hx
        have hbe := below_then hbw hE
        have hz9 := hbe.grown hg9 hbe.size hov
        have B9 := (BX.step hE).grown hg9 (fun p hp => by simp at hp; subst hp; exact hnb)
        rw [← cellsN_snoc1 false l k e hy] at ho9
        have HO := Lib.hid ho9
        have HB9 := Lib.hid hz9
        have HB9x := Lib.hid B9
        clear ho9 hz9 B9 hg9 hE hbe
        go_wp2_with (at_builtin; refine wpList_append_run rfl _ _ _ _ rfl rfl rfl hr9 ?_)
        go_roundw
        case rel => exact ⟨k + 1, _, by omega, by go_num, rfl, HO.out, HB9x.out, HB9.out⟩
        case measure => simp [intOf]; omega
      | true =>
        cases hf : e.v.far with
        | false =>
        have ha1 : ∀ W, (Op.stringOp .add ⟨#[0]⟩ (strOf e.v.data)).run Tryd.prog W = .ok (.string (strOf ([0] ++ e.v.data))) W := fun W => str_add (P := Tryd.prog) [0] e.v.data (by simp; omega) W
        have ha : ∀ W, (Op.stringOp .add (strOf (textF e.key)) (strOf ([0] ++ e.v.data))).run Tryd.prog W = .ok (.string (strOf (cellN true e))) W := fun W => by
          have := str_add (P := Tryd.prog) (textF e.key) ([0] ++ e.v.data) (by rw [textF_length]; simp; omega) W
          rwa [show textF e.key ++ ([0] ++ e.v.data) = cellN true e from by simp [cellN, encV, encL, hf]] at this
        generalize hs3 : [0] ++ e.v.data = s3 at *
        clear hs3
        simp only [hf] at B6 hb6 hq1 e2
        go_wp2_with fail
        refine (T1 _).mono ?_
        rintro en w7 ⟨rfl, hb7⟩
        have B7 := B6.step hb7
        have d4 := B7.cell 1 0 rfl rfl
        have d5 := B7.cell 0 0 rfl rfl
        have d6 := B7.cell 0 1 rfl rfl
        have hE := below_then hb6 hb7
        clear hb7 d2 d3 d0 d1 hq1 e0 e1 e2 e3 e4 B6 B7
        have BX := HBX.out
        have hbw := hbl.out
        have hx := append_strs (own_below hown (Nat.le_refl _) hE) (cellN true e) (by omega) (Nat.le_trans hwl hE.size)
        obtain ⟨v9, wz, hr9, ho9, hg9⟩ := hx
        have hbe := below_then hbw hE
        have hz9 := hbe.grown hg9 hbe.size hov
        have B9 := (BX.step hE).grown hg9 (fun p hp => by simp at hp; subst hp; exact hnb)
        rw [← cellsN_snoc1 true l k e hy] at ho9
        have HO := Lib.hid ho9
        have HB9 := Lib.hid hz9
        have HB9x := Lib.hid B9
        clear ho9 hz9 B9 hg9 hE hbe
        go_wp2_with (at_builtin; refine wpList_append_run rfl _ _ _ _ rfl rfl rfl hr9 ?_)
        go_roundw
        case rel => exact ⟨k + 1, _, by omega, by go_num, rfl, HO.out, HB9x.out, HB9.out⟩
        case measure => simp [intOf]; omega
        | true =>
        have hw := wrap_u64N e.v.page
        have hw2 := wrap_u64N e.v.size
        have N1 : ∀ W, Calls Tryd.prog 42 #[.int .u64 (u64N e.v.size : Int), .int .i64 2] W (RetStr W (two e.v.size)) := fun W => refNum_ok (u64N e.v.size) 2 W (u64N_lt _) (by decide) (by decide)
        have N2 : ∀ W, Calls Tryd.prog 42 #[.int .u64 (u64N e.v.page : Int), .int .i64 2] W (RetStr W (two e.v.page)) := fun W => refNum_ok (u64N e.v.page) 2 W (u64N_lt _) (by decide) (by decide)
        have ha1 : ∀ W, (Op.stringOp .add ⟨#[1]⟩ (strOf (two e.v.size))).run Tryd.prog W = .ok (.string (strOf ([1] ++ two e.v.size))) W := fun W => str_add (P := Tryd.prog) [1] (two e.v.size) (by simp [two_length]) W
        have ha2 : ∀ W, (Op.stringOp .add (strOf ([1] ++ two e.v.size)) (strOf (two e.v.page))).run Tryd.prog W = .ok (.string (strOf ([1] ++ two e.v.size ++ two e.v.page))) W := fun W => str_add (P := Tryd.prog) ([1] ++ two e.v.size) (two e.v.page) (by simp [two_length]) W
        have ha : ∀ W, (Op.stringOp .add (strOf (textF e.key)) (strOf ([1] ++ two e.v.size ++ two e.v.page))).run Tryd.prog W = .ok (.string (strOf (cellN true e))) W := fun W => by
          have := str_add (P := Tryd.prog) (textF e.key) ([1] ++ two e.v.size ++ two e.v.page) (by rw [textF_length]; simp [two_length]; omega) W
          rwa [show textF e.key ++ ([1] ++ two e.v.size ++ two e.v.page) = cellN true e from by simp [cellN, encV, encL, hf]] at this
        simp only [hf] at B6 hb6 hq1 e2
        generalize [1] ++ two e.v.size ++ two e.v.page = s3 at *
        generalize [1] ++ two e.v.size = s2 at *
        generalize hs1 : two e.v.size = s1 at *
        generalize hsp : two e.v.page = sp at *
        clear hs1 hsp
        go_wp2_with fail
        refine (T1 _).mono ?_
        rintro en w7 ⟨rfl, hb7⟩
        have B7 := B6.step hb7
        have d4 := B7.cell 1 0 rfl rfl
        have d6 := B7.cell 0 1 rfl rfl
        have hE := below_then hb6 hb7
        clear hb7 d2 d3 d0 d1 hq1 e0 e1 e2 e3 e4 B6
        have c2 : ∀ W, Below w7.heap.size w7 W → W.cell? ⟨wr.heap.size, 2, none⟩ = some (.int .i64 e.v.size) := fun W hW => (B7.step hW).cell 0 2 rfl rfl
        have c3 : ∀ W, Below w7.heap.size w7 W → W.cell? ⟨wr.heap.size, 3, none⟩ = some (.int .i64 e.v.page) := fun W hW => (B7.step hW).cell 0 3 rfl rfl
        have hC : Below w7.heap.size w7 w7.drew := (Below.refl _ _).drew
        go_wp2_with fail
        go_region_held3 (fun W => Below w7.heap.size w7 W) (first | with_reducible assumption) (first | (go_at_call 42; (with_reducible refine (N1 _).mono ?_); rintro en w8 ⟨rfl, hb8⟩; have hC8 := hC.trans (hb8.mono hC.size)) | (go_at_call 42; (with_reducible refine (N2 _).mono ?_); rintro en w9 ⟨rfl, hb9⟩; have hC9 := hC8.trans (hb9.mono hC8.size)))
        have hE := below_then hE hC9
        clear hC hC8 hC9 c2 c3 d4 d6 B7
        have BX := HBX.out
        have hbw := hbl.out
        have hx := append_strs (own_below hown (Nat.le_refl _) hE) (cellN true e) (by omega) (Nat.le_trans hwl hE.size)
        obtain ⟨v9, wz, hr9, ho9, hg9⟩ := hx
        have hbe := below_then hbw hE
        have hz9 := hbe.grown hg9 hbe.size hov
        have B9 := (BX.step hE).grown hg9 (fun p hp => by simp at hp; subst hp; exact hnb)
        rw [← cellsN_snoc1 true l k e hy] at ho9
        have HO := Lib.hid ho9
        have HB9 := Lib.hid hz9
        have HB9x := Lib.hid B9
        clear ho9 hz9 B9 hg9 hE hbe
        go_wp2_with (at_builtin; refine wpList_append_run rfl _ _ _ _ rfl rfl rfl hr9 ?_)
        go_roundw
        case rel => exact ⟨k + 1, _, by omega, by go_num, rfl, HO.out, HB9x.out, HB9.out⟩
        case measure => simp [intOf]; omega
    · obtain rfl : k = len := by omega
      go_wp2_with fail
      go_ret
      rw [List.take_of_length_le (by rw [hll.out]; exact Nat.le_refl _)] at hown
      exact ⟨v, rfl, by rw [cellsN_length, hll.out]; exact own_base hown (by omega), hbw⟩
end Go.Proofs.YtjdepdgoaopfoaaDoor

