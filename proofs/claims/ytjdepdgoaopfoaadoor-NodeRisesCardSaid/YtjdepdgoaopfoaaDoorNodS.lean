/- The walks of the chapter on nodes: may a node be, by the reference? -/
import Derived.Test.YtjdepdgoaopfoaaDoorNodR
namespace Go.Proofs.YtjdepdgoaopfoaaDoor
open Go.RowKit

/-- May a key stand there? -/
def keyOk (leaf : Bool) (i : Nat) (k : List UInt8) : Bool := if leaf then keyB k else firstB i k
/-- May a value? -/
def valOk (leaf : Bool) (v : Vv) : Bool := if leaf then fineB v else pageB v.page && v == ⟨[], false, 0, v.page⟩
theorem mayN_parts (leaf : Bool) (i : Nat) (e : En) : mayN leaf i e = (keyOk leaf i e.key && valOk leaf e.v) := by
  cases leaf
  · rfl
  · exact mayL_fine e
theorem vneq_page (v : Vv) (w : World) :
    (binOp .neq 106 (.agg #[.string (strOf v.data), .bool v.far, .int .i64 v.size, .int .i64 v.page]) (.agg #[.string ⟨#[]⟩, .bool false, .int .i64 0, .int .i64 v.page])).run Tryd.prog w = .ok (.bool (v != ⟨[], false, 0, v.page⟩)) w := by
  obtain ⟨a, b, c, d⟩ := v
  have hn : (ByteArray.mk #[]).toList = [] := strOf_toList []
  by_cases h1 : a = [] <;> by_cases h2 : b = false <;> by_cases h3 : c = 0 <;> simp [go_sem, strOf_toList, h1, h2, h3, bne, hn]

set_option maxRecDepth 100000 in
set_option maxHeartbeats 8000000 in
theorem rcheck_any (leaf : Bool) (a : Option Addr) (len cap : Nat) (l : List En) (w : World) (h : Ents w a len cap l) (hlen : len ≤ 65536) (hd : SmE l) :
    Calls Tryd.prog 35 #[.agg #[.bool leaf, .slice a len cap]] w fun e w' => e = .returned (.bool (nodeB leaf l)) ∧ Below w.heap.size w w' := by
  have hB := below_one w (.cells #[.bool leaf, .slice a len cap] 56)
  have BX := (Boxes.nil w).alloc #[.bool leaf, .slice a len cap] 56 rfl
  have h1 := h.below (Nat.le_refl _) hB
  have hll := Lib.hid h1.len
  have HI := Lib.hid hd
  clear hd h1
  have HB := Lib.hid hB
  have HX := Lib.hid BX
  clear hB BX
  go_enter Tryd.func35, Tryd.ntmps35
  go_wp2_with fail
  go_loopw [3] (fun i wr => ∃ (k : Nat), k ≤ len ∧ i = .int .i64 k ∧ upN leaf l k = true ∧ Boxes wr [(w.heap.size, [.bool leaf, .slice a len cap])] ∧ Below w.heap.size w wr) (fun i _ => len - (intOf i).toNat)
  case atStart => exact ⟨0, Nat.zero_le _, rfl, rfl, HX.out, HB.out⟩
  case round =>
    obtain ⟨k, hk, rfl, hup, BX, hbw⟩ := hrel
    have d0 := BX.cell 0 0 rfl rfl
    have d1 := BX.cell 0 1 rfl rfl
    by_cases hlt : k < len
    · obtain ⟨b, off, e, rfl, hbb, hy, e0, e1, e2, e3, e4⟩ := (h.below (Nat.le_refl _) hbw).at hlt
      obtain ⟨hl1, hl2⟩ := HI.out e (List.mem_of_getElem? hy)
      have hb6 := below_one wr (.cells #[.string (strOf e.v.data), .bool e.v.far, .int .i64 e.v.size, .int .i64 e.v.page] 106)
      have B6 := BX.alloc #[.string (strOf e.v.data), .bool e.v.far, .int .i64 e.v.size, .int .i64 e.v.page] 106 rfl
      have hbw6 := below_then hbw hb6
      have d2 := B6.cell 1 1 rfl rfl
      have d3 := B6.cell 1 0 rfl rfl
      have hgd : l[k]?.getD ⟨[], Vv.zero⟩ = e := by rw [hy]; rfl
      have hst : stepN leaf l k = ((keyOk leaf k e.key && valOk leaf e.v) && !(decide (0 < k) && kle e.key (l[k - 1]?.getD ⟨[], Vv.zero⟩).key)) := by rw [stepN, hgd, mayN_parts]
      have hus : upN leaf l (k + 1) = stepN leaf l k := by rw [upN_succ, hup, Bool.true_and]
      have hns : stepN leaf l k = false → nodeB leaf l = false := nodeB_step (by rw [hll.out]; exact hlt)
      have HST := Lib.hid hst
      have HUS := Lib.hid hus
      have HNS := Lib.hid hns
      have F : ∀ W, Calls Tryd.prog 60 #[.agg #[.string (strOf e.v.data), .bool e.v.far, .int .i64 e.v.size, .int .i64 e.v.page]] W fun en w' => en = .returned (.bool (fineB e.v)) ∧ Below W.heap.size W w' := fun W => rfine_any e.v W
      have hss := strOf_toList
      have hsz := strOf_size e.key
      clear hst hus hns hgd
      cases leaf with
      | true =>
        by_cases hk0 : k = 0
        · subst hk0
          simp only [Nat.zero_mul, Nat.add_zero] at e0 e1 e2 e3 e4
          by_cases hkn : e.key = []
          · have hkb : keyB e.key = false := by rw [hkn]; rfl
            have HF : Hid (nodeB true l = false) := Lib.hid (HNS.out (by rw [HST.out]; simp [keyOk, hkb]))
            simp only [hkn] at e0 hsz
            go_wp2_with fail
            go_ret
            exact ⟨ret_bool HF.out.symm, hbw6⟩
          · have hkn2 : (e.key == []) = false := by simpa using hkn
            by_cases hk16 : 16 < e.key.length
            · have q16 : decide ((16 : Int) < (e.key.length : Int)) = true := by simp; omega
              have hkb : keyB e.key = false := by simp [keyB]; omega
              have HF : Hid (nodeB true l = false) := Lib.hid (HNS.out (by rw [HST.out]; simp [keyOk, hkb]))
              go_wp2_with fail
              go_ret
              exact ⟨ret_bool HF.out.symm, hbw6⟩
            · have q16 : decide ((16 : Int) < (e.key.length : Int)) = false := by simp; omega
              have hkb : keyB e.key = true := by simp [keyB, hkn]; omega
              cases hfn : fineB e.v with
              | false =>
                rw [hfn] at F
                have HF : Hid (nodeB true l = false) := Lib.hid (HNS.out (by rw [HST.out]; simp [valOk, hfn]))
                go_wp2_with (first | (go_at_call 60; (with_reducible refine (F _).mono ?_); rintro en w7 ⟨rfl, hb7⟩; have hC7 := below_then hbw6 hb7; have B7 := B6.step hb7; have f0 := B7.cell 0 0 rfl rfl; have f1 := B7.cell 0 1 rfl rfl; have f2 := B7.cell 0 2 rfl rfl; have f3 := B7.cell 0 3 rfl rfl; have f4 := B7.cell 1 0 rfl rfl))
                go_ret
                exact ⟨ret_bool HF.out.symm, hC7⟩
              | true =>
                rw [hfn] at F
                have HU : Hid (upN true l (0 + 1) = true) := Lib.hid (by rw [HUS.out, HST.out]; simp [hkb, keyOk, valOk, hfn])
                go_wp2_with (first | (go_at_call 60; (with_reducible refine (F _).mono ?_); rintro en w7 ⟨rfl, hb7⟩; have hC7 := below_then hbw6 hb7; have B7 := B6.step hb7; have f0 := B7.cell 0 0 rfl rfl; have f1 := B7.cell 0 1 rfl rfl; have f2 := B7.cell 0 2 rfl rfl; have f3 := B7.cell 0 3 rfl rfl; have f4 := B7.cell 1 0 rfl rfl))
                have B8 := B7.sub (m := [(w.heap.size, [.bool true, .slice (some ⟨b, off, none⟩) len cap])]) (by intro p hp; simp at hp; subst hp; simp)
                clear f0 f1 f2 f3 f4
                go_roundw
                case rel => exact ⟨0 + 1, by omega, by go_num, HU.out, B8, hC7⟩
                case measure => simp [intOf]; omega
        · obtain ⟨p, hp1, hp2⟩ : ∃ p, p + 1 = k ∧ p < len := ⟨k - 1, by omega, by omega⟩
          obtain ⟨b2, off2, e', hq, hb2l, hy2, hc', _⟩ := (h.below (Nat.le_refl _) hbw).at hp2
          cases hq
          have hg2 : l[k - 1]?.getD ⟨[], Vv.zero⟩ = e' := by rw [show k - 1 = p by omega, hy2]; rfl
          rw [hg2] at HST
          have hk1 : decide ((0 : Int) < (k : Int)) = true := by simp; omega
          have hk1n : decide (0 < k) = true := by simp; omega
          have hk1p : 0 < k := by omega
          have hk1z : ((k : Int) == 0) = false := by simp; omega
          have hpp : (0 : Int) ≤ (p : Int) ∧ (p : Int) < (len : Int) := by omega
          have hsub : (k : Int) - 1 = (p : Int) := by omega
          have hp6 := (hb6.cell (p := ⟨b, off + p * 5, none⟩) hb2l).trans hc'
          clear hg2 hy2 hb2l
          by_cases hkn : e.key = []
          · have hkb : keyB e.key = false := by rw [hkn]; rfl
            have HF : Hid (nodeB true l = false) := Lib.hid (HNS.out (by rw [HST.out]; simp [keyOk, hkb]))
            simp only [hkn] at e0 hsz
            go_wp2_with fail
            go_ret
            exact ⟨ret_bool HF.out.symm, hbw6⟩
          · have hkn2 : (e.key == []) = false := by simpa using hkn
            by_cases hk16 : 16 < e.key.length
            · have q16 : decide ((16 : Int) < (e.key.length : Int)) = true := by simp; omega
              have hkb : keyB e.key = false := by simp [keyB]; omega
              have HF : Hid (nodeB true l = false) := Lib.hid (HNS.out (by rw [HST.out]; simp [keyOk, hkb]))
              go_wp2_with fail
              go_ret
              exact ⟨ret_bool HF.out.symm, hbw6⟩
            · have q16 : decide ((16 : Int) < (e.key.length : Int)) = false := by simp; omega
              have hkb : keyB e.key = true := by simp [keyB, hkn]; omega
              cases hke : kle e.key e'.key with
              | true =>
                have hlq : (Op.bytesLess (strOf e.key).toList (strOf e'.key).toList || (strOf e.key).toList == (strOf e'.key).toList) = true := by rw [strOf_toList, strOf_toList, bytes_less]; exact hke
                simp only [strOf_toList] at hlq
                have HF : Hid (nodeB true l = false) := Lib.hid (HNS.out (by rw [HST.out]; simp [hke, hk1p]))
                clear hp1
                go_wp2_with fail
                go_ret
                exact ⟨ret_bool HF.out.symm, hbw6⟩
              | false =>
                have hlq : (Op.bytesLess (strOf e.key).toList (strOf e'.key).toList || (strOf e.key).toList == (strOf e'.key).toList) = false := by rw [strOf_toList, strOf_toList, bytes_less]; exact hke
                simp only [strOf_toList] at hlq
                have hlq1 := (Bool.or_eq_false_iff.1 hlq).1
                have hlq2 := (Bool.or_eq_false_iff.1 hlq).2
                cases hfn : fineB e.v with
                | false =>
                  rw [hfn] at F
                  have HF : Hid (nodeB true l = false) := Lib.hid (HNS.out (by rw [HST.out]; simp [valOk, hfn]))
                  go_wp2_with (first | (go_at_call 60; (with_reducible refine (F _).mono ?_); rintro en w7 ⟨rfl, hb7⟩; have hC7 := below_then hbw6 hb7; have B7 := B6.step hb7; have f0 := B7.cell 0 0 rfl rfl; have f1 := B7.cell 0 1 rfl rfl; have f2 := B7.cell 0 2 rfl rfl; have f3 := B7.cell 0 3 rfl rfl; have f4 := B7.cell 1 0 rfl rfl))
                  go_ret
                  exact ⟨ret_bool HF.out.symm, hC7⟩
                | true =>
                  rw [hfn] at F
                  have HU : Hid (upN true l (k + 1) = true) := Lib.hid (by rw [HUS.out, HST.out]; simp [hke, hk1p, hkb, keyOk, valOk, hfn])
                  go_wp2_with (first | (go_at_call 60; (with_reducible refine (F _).mono ?_); rintro en w7 ⟨rfl, hb7⟩; have hC7 := below_then hbw6 hb7; have B7 := B6.step hb7; have f0 := B7.cell 0 0 rfl rfl; have f1 := B7.cell 0 1 rfl rfl; have f2 := B7.cell 0 2 rfl rfl; have f3 := B7.cell 0 3 rfl rfl; have f4 := B7.cell 1 0 rfl rfl))
                  have B8 := B7.sub (m := [(w.heap.size, [.bool true, .slice (some ⟨b, off, none⟩) len cap])]) (by intro p hp; simp at hp; subst hp; simp)
                  clear f0 f1 f2 f3 f4
                  go_roundw
                  case rel => exact ⟨k + 1, by omega, by go_num, HU.out, B8, hC7⟩
                  case measure => simp [intOf]; omega
      | false =>
        by_cases hk0 : k = 0
        · subst hk0
          simp only [Nat.zero_mul, Nat.add_zero] at e0 e1 e2 e3 e4
          by_cases hkn : e.key = []
          · have hfb : firstB 0 e.key = true := by rw [hkn]; rfl
            simp only [hkn] at e0 hsz
            by_cases hp1 : e.v.page < 2
            · have q1 : decide (e.v.page < 2) = true := by simpa using hp1
              have hpb : pageB e.v.page = false := by simp [pageB]; omega
              have HF : Hid (nodeB false l = false) := Lib.hid (HNS.out (by rw [HST.out]; simp [valOk, hpb]))
              go_wp2_with (first | (go_at_call 60; (with_reducible refine (F _).mono ?_); rintro en w7 ⟨rfl, hb7⟩; have hC7 := below_then hbw6 hb7; have B7 := B6.step hb7; have f0 := B7.cell 0 0 rfl rfl; have f1 := B7.cell 0 1 rfl rfl; have f2 := B7.cell 0 2 rfl rfl; have f3 := B7.cell 0 3 rfl rfl; have f4 := B7.cell 1 0 rfl rfl))
              go_ret
              exact ⟨ret_bool HF.out.symm, hC7⟩
            · have q1 : decide (e.v.page < 2) = false := by simpa using hp1
              by_cases hp2 : 999 < e.v.page
              · have q2 : decide (999 < e.v.page) = true := by simpa using hp2
                have hpb : pageB e.v.page = false := by simp [pageB]; omega
                have HF : Hid (nodeB false l = false) := Lib.hid (HNS.out (by rw [HST.out]; simp [valOk, hpb]))
                go_wp2_with (first | (go_at_call 60; (with_reducible refine (F _).mono ?_); rintro en w7 ⟨rfl, hb7⟩; have hC7 := below_then hbw6 hb7; have B7 := B6.step hb7; have f0 := B7.cell 0 0 rfl rfl; have f1 := B7.cell 0 1 rfl rfl; have f2 := B7.cell 0 2 rfl rfl; have f3 := B7.cell 0 3 rfl rfl; have f4 := B7.cell 1 0 rfl rfl))
                go_ret
                exact ⟨ret_bool HF.out.symm, hC7⟩
              · have q2 : decide (999 < e.v.page) = false := by simpa using hp2
                have hpb : pageB e.v.page = true := by simp [pageB]; omega
                have hv := fun W => vneq_page e.v W
                have hvq : (e.v == ⟨[], false, 0, e.v.page⟩) = !(e.v != ⟨[], false, 0, e.v.page⟩) := by simp [bne]
                generalize (e.v != ⟨[], false, 0, e.v.page⟩) = vb at *
                cases vb with
                | true =>
                  have HF : Hid (nodeB false l = false) := Lib.hid (HNS.out (by rw [HST.out]; simp [valOk, hvq]))
                  go_wp2_with (first | (go_at_call 60; (with_reducible refine (F _).mono ?_); rintro en w7 ⟨rfl, hb7⟩; have hC7 := below_then hbw6 hb7; have B7 := B6.step hb7; have f0 := B7.cell 0 0 rfl rfl; have f1 := B7.cell 0 1 rfl rfl; have f2 := B7.cell 0 2 rfl rfl; have f3 := B7.cell 0 3 rfl rfl; have f4 := B7.cell 1 0 rfl rfl))
                  go_ret
                  exact ⟨ret_bool HF.out.symm, hC7⟩
                | false =>
                  have HU : Hid (upN false l (0 + 1) = true) := Lib.hid (by rw [HUS.out, HST.out]; simp [hfb, keyOk, valOk, hpb, hvq])
                  go_wp2_with (first | (go_at_call 60; (with_reducible refine (F _).mono ?_); rintro en w7 ⟨rfl, hb7⟩; have hC7 := below_then hbw6 hb7; have B7 := B6.step hb7; have f0 := B7.cell 0 0 rfl rfl; have f1 := B7.cell 0 1 rfl rfl; have f2 := B7.cell 0 2 rfl rfl; have f3 := B7.cell 0 3 rfl rfl; have f4 := B7.cell 1 0 rfl rfl))
                  have B8 := B7.sub (m := [(w.heap.size, [.bool false, .slice (some ⟨b, off, none⟩) len cap])]) (by intro p hp; simp at hp; subst hp; simp)
                  clear f0 f1 f2 f3 f4
                  go_roundw
                  case rel => exact ⟨0 + 1, by omega, by go_num, HU.out, B8, hC7⟩
                  case measure => simp [intOf]; omega
          · have hkn2 : (e.key == []) = false := by simpa using hkn
            have hfb : firstB 0 e.key = false := hkn2
            have HF : Hid (nodeB false l = false) := Lib.hid (HNS.out (by rw [HST.out]; simp [keyOk, hfb]))
            go_wp2_with fail
            go_ret
            exact ⟨ret_bool HF.out.symm, hbw6⟩
        · obtain ⟨p, hp1, hp2⟩ : ∃ p, p + 1 = k ∧ p < len := ⟨k - 1, by omega, by omega⟩
          obtain ⟨b2, off2, e', hq, hb2l, hy2, hc', _⟩ := (h.below (Nat.le_refl _) hbw).at hp2
          cases hq
          have hg2 : l[k - 1]?.getD ⟨[], Vv.zero⟩ = e' := by rw [show k - 1 = p by omega, hy2]; rfl
          rw [hg2] at HST
          have hk1 : decide ((0 : Int) < (k : Int)) = true := by simp; omega
          have hk1n : decide (0 < k) = true := by simp; omega
          have hk1p : 0 < k := by omega
          have hk1z : ((k : Int) == 0) = false := by simp; omega
          have hpp : (0 : Int) ≤ (p : Int) ∧ (p : Int) < (len : Int) := by omega
          have hsub : (k : Int) - 1 = (p : Int) := by omega
          have hp6 := (hb6.cell (p := ⟨b, off + p * 5, none⟩) hb2l).trans hc'
          clear hg2 hy2 hb2l
          by_cases hkn : e.key = []
          · have hkb : keyB e.key = false := by rw [hkn]; rfl
            have HF : Hid (nodeB false l = false) := Lib.hid (HNS.out (by rw [HST.out]; simp [keyOk, firstB, hk0, hkb]))
            simp only [hkn] at e0 hsz
            go_wp2_with fail
            go_ret
            exact ⟨ret_bool HF.out.symm, hbw6⟩
          · have hkn2 : (e.key == []) = false := by simpa using hkn
            by_cases hk16 : 16 < e.key.length
            · have q16 : decide ((16 : Int) < (e.key.length : Int)) = true := by simp; omega
              have hkb : keyB e.key = false := by simp [keyB]; omega
              have HF : Hid (nodeB false l = false) := Lib.hid (HNS.out (by rw [HST.out]; simp [keyOk, firstB, hk0, hkb]))
              go_wp2_with fail
              go_ret
              exact ⟨ret_bool HF.out.symm, hbw6⟩
            · have q16 : decide ((16 : Int) < (e.key.length : Int)) = false := by simp; omega
              have hkb : keyB e.key = true := by simp [keyB, hkn]; omega
              cases hke : kle e.key e'.key with
              | true =>
                have hlq : (Op.bytesLess (strOf e.key).toList (strOf e'.key).toList || (strOf e.key).toList == (strOf e'.key).toList) = true := by rw [strOf_toList, strOf_toList, bytes_less]; exact hke
                simp only [strOf_toList] at hlq
                have HF : Hid (nodeB false l = false) := Lib.hid (HNS.out (by rw [HST.out]; simp [hke, hk1p]))
                clear hp1
                go_wp2_with fail
                go_ret
                exact ⟨ret_bool HF.out.symm, hbw6⟩
              | false =>
                have hlq : (Op.bytesLess (strOf e.key).toList (strOf e'.key).toList || (strOf e.key).toList == (strOf e'.key).toList) = false := by rw [strOf_toList, strOf_toList, bytes_less]; exact hke
                simp only [strOf_toList] at hlq
                have hlq1 := (Bool.or_eq_false_iff.1 hlq).1
                have hlq2 := (Bool.or_eq_false_iff.1 hlq).2
                by_cases hp1 : e.v.page < 2
                · have q1 : decide (e.v.page < 2) = true := by simpa using hp1
                  have hpb : pageB e.v.page = false := by simp [pageB]; omega
                  have HF : Hid (nodeB false l = false) := Lib.hid (HNS.out (by rw [HST.out]; simp [valOk, hpb]))
                  go_wp2_with (first | (go_at_call 60; (with_reducible refine (F _).mono ?_); rintro en w7 ⟨rfl, hb7⟩; have hC7 := below_then hbw6 hb7; have B7 := B6.step hb7; have f0 := B7.cell 0 0 rfl rfl; have f1 := B7.cell 0 1 rfl rfl; have f2 := B7.cell 0 2 rfl rfl; have f3 := B7.cell 0 3 rfl rfl; have f4 := B7.cell 1 0 rfl rfl))
                  go_ret
                  exact ⟨ret_bool HF.out.symm, hC7⟩
                · have q1 : decide (e.v.page < 2) = false := by simpa using hp1
                  by_cases hp2 : 999 < e.v.page
                  · have q2 : decide (999 < e.v.page) = true := by simpa using hp2
                    have hpb : pageB e.v.page = false := by simp [pageB]; omega
                    have HF : Hid (nodeB false l = false) := Lib.hid (HNS.out (by rw [HST.out]; simp [valOk, hpb]))
                    go_wp2_with (first | (go_at_call 60; (with_reducible refine (F _).mono ?_); rintro en w7 ⟨rfl, hb7⟩; have hC7 := below_then hbw6 hb7; have B7 := B6.step hb7; have f0 := B7.cell 0 0 rfl rfl; have f1 := B7.cell 0 1 rfl rfl; have f2 := B7.cell 0 2 rfl rfl; have f3 := B7.cell 0 3 rfl rfl; have f4 := B7.cell 1 0 rfl rfl))
                    go_ret
                    exact ⟨ret_bool HF.out.symm, hC7⟩
                  · have q2 : decide (999 < e.v.page) = false := by simpa using hp2
                    have hpb : pageB e.v.page = true := by simp [pageB]; omega
                    have hv := fun W => vneq_page e.v W
                    have hvq : (e.v == ⟨[], false, 0, e.v.page⟩) = !(e.v != ⟨[], false, 0, e.v.page⟩) := by simp [bne]
                    generalize (e.v != ⟨[], false, 0, e.v.page⟩) = vb at *
                    cases vb with
                    | true =>
                      have HF : Hid (nodeB false l = false) := Lib.hid (HNS.out (by rw [HST.out]; simp [valOk, hvq]))
                      go_wp2_with (first | (go_at_call 60; (with_reducible refine (F _).mono ?_); rintro en w7 ⟨rfl, hb7⟩; have hC7 := below_then hbw6 hb7; have B7 := B6.step hb7; have f0 := B7.cell 0 0 rfl rfl; have f1 := B7.cell 0 1 rfl rfl; have f2 := B7.cell 0 2 rfl rfl; have f3 := B7.cell 0 3 rfl rfl; have f4 := B7.cell 1 0 rfl rfl))
                      go_ret
                      exact ⟨ret_bool HF.out.symm, hC7⟩
                    | false =>
                      have HU : Hid (upN false l (k + 1) = true) := Lib.hid (by rw [HUS.out, HST.out]; simp [hke, hk1p, hkb, keyOk, firstB, hk0, valOk, hpb, hvq])
                      go_wp2_with (first | (go_at_call 60; (with_reducible refine (F _).mono ?_); rintro en w7 ⟨rfl, hb7⟩; have hC7 := below_then hbw6 hb7; have B7 := B6.step hb7; have f0 := B7.cell 0 0 rfl rfl; have f1 := B7.cell 0 1 rfl rfl; have f2 := B7.cell 0 2 rfl rfl; have f3 := B7.cell 0 3 rfl rfl; have f4 := B7.cell 1 0 rfl rfl))
                      have B8 := B7.sub (m := [(w.heap.size, [.bool false, .slice (some ⟨b, off, none⟩) len cap])]) (by intro p hp; simp at hp; subst hp; simp)
                      clear f0 f1 f2 f3 f4
                      go_roundw
                      case rel => exact ⟨k + 1, by omega, by go_num, HU.out, B8, hC7⟩
                      case measure => simp [intOf]; omega
    · obtain rfl : k = len := by omega
      have hup2 : upN leaf l l.length = true := by rw [hll.out]; exact hup
      have hsm := HI.out
      have hr := h.below (Nat.le_refl _) hbw
      have hlens := cellsN_lens leaf 1000000 l (fun e he => (hsm e he).2)
      rw [hll.out] at hlens
      have CE := rcells_any leaf a k cap l wr hr hlen hsm
      have CS : ∀ W a2 n2 c2, n2 = (cellsN leaf l).length → Strs W a2 n2 c2 (cellsN leaf l) → Calls Tryd.prog 61 #[.slice a2 n2 c2] W fun e w' => e = .returned (.int .i64 ((k + lens (cellsN leaf l) : Nat) : Int)) ∧ W = w' := fun W a2 n2 c2 h1 h2 => by
        have hk2 : n2 = k := by rw [h1, cellsN_length, hll.out]
        subst hk2
        exact rsize_any a2 n2 c2 (cellsN leaf l) W h2 (by omega)
      have hN : nodeB leaf l = (decide (leastN leaf ≤ k) && decide (k + lens (cellsN leaf l) ≤ 122)) := by rw [nodeB, hup2, hll.out]; rfl
      have HN := Lib.hid hN
      have HCS := Lib.hid CS
      have HBX := Lib.hid BX
      have hcl := cellsN_length leaf l
      rw [hll.out] at hcl
      have HCL := Lib.hid hcl
      generalize hls : lens (cellsN leaf l) = ls at *
      clear hls hN hup hup2 hsm hlens hr CS BX hcl
      go_wp2_with fail
      refine CE.mono ?_
      rintro e w7 ⟨v7, rfl, ho7, hb7⟩
      obtain ⟨a7, c7, rfl, hs7⟩ := Strs.of_own ho7
      have hb8 := below_then hbw hb7
      have B7 := HBX.out.step hb7
      have d4 := B7.cell 0 0 rfl rfl
      have d5 := B7.cell 0 1 rfl rfl
      clear d0 d1 CE hb7 ho7 B7
      go_wp2_with fail
      refine (HCS.out _ _ _ _ rfl hs7).mono ?_
      rintro e w9 ⟨rfl, rfl⟩
      clear hs7
      by_cases h122 : k + ls ≤ 122
      · have q1 : decide (((k + ls : Nat) : Int) ≤ 122) = true := by simp; omega
        have q2 : decide ((k : Int) + (ls : Int) ≤ 122) = true := by simp; omega
        have q3 : (k : Int) + (ls : Int) ≤ 122 := by omega
        have hT : decide (k + ls ≤ 122) = true := by simpa using h122
        cases leaf with
        | false =>
          by_cases h1 : 1 < k
          · have r1 : decide ((1 : Int) < (k : Int)) = true := by simp; omega
            have HF : Hid (nodeB false l = true) := Lib.hid (by rw [HN.out, hT]; simp [leastN]; omega)
            go_wp2_with fail
            go_ret
            exact ⟨ret_bool HF.out.symm, hb8⟩
          · have r1 : decide ((1 : Int) < (k : Int)) = false := by simp; omega
            have HF : Hid (nodeB false l = false) := Lib.hid (by rw [HN.out, hT]; simp [leastN]; omega)
            go_wp2_with fail
            go_ret
            exact ⟨ret_bool HF.out.symm, hb8⟩
        | true =>
          by_cases h1 : 1 < k
          · have r1 : decide ((1 : Int) < (k : Int)) = true := by simp; omega
            have HF : Hid (nodeB true l = true) := Lib.hid (by rw [HN.out, hT]; simp [leastN]; omega)
            go_wp2_with fail
            go_ret
            exact ⟨ret_bool HF.out.symm, hb8⟩
          · have r1 : decide ((1 : Int) < (k : Int)) = false := by simp; omega
            have HF : Hid (nodeB true l = ((k : Int) == 1)) := Lib.hid (by
              rw [HN.out, hT, Bool.and_true]
              by_cases h2 : k = 1
              · subst h2; rfl
              · have : k = 0 := by omega
                subst this; rfl)
            go_wp2_with fail
            go_ret
            exact ⟨ret_bool HF.out.symm, hb8⟩
      · have q1 : decide (((k + ls : Nat) : Int) ≤ 122) = false := by simp; omega
        have q2 : decide ((k : Int) + (ls : Int) ≤ 122) = false := by simp; omega
        have hT : decide (k + ls ≤ 122) = false := by simpa using h122
        have HF : Hid (nodeB leaf l = false) := Lib.hid (by rw [HN.out, hT, Bool.and_false])
        go_wp2_with fail
        go_ret
        exact ⟨ret_bool HF.out.symm, hb8⟩
end Go.Proofs.YtjdepdgoaopfoaaDoor

