/- The walks of the chapter on metas: the document's page. -/
import Derived.Test.YtjdepdgoaopfoaaDoorMetR
namespace Go.Proofs.YtjdepdgoaopfoaaDoor
open Go.RowKit

theorem strs_single {w : World} (b : Nat) (hb : b < w.heap.size) {l : List UInt8} (hg : w.cell? ⟨b, 0, none⟩ = some (.string (strOf l))) : Strs w (some ⟨b, 0, none⟩) 1 1 [l] := by
  refine ⟨rfl, Nat.le_refl _, by unfold maxLen; omega, (fun h => by cases h), .inr ⟨b, 0, rfl, hb, fun i y hy => ?_⟩⟩
  match i, hy with
  | 0, hy =>
    cases hy
    refine ⟨[.string (strOf l)], rfl, rfl, fun j v hv => ?_⟩
    match j, hv with
    | 0, hv => cases hv; simpa using hg
    | j + 1, hv => simp at hv
  | i + 1, hy => simp at hy

set_option maxRecDepth 100000 in
set_option maxHeartbeats 4000000 in
theorem rput_bad (m : Mt) (w : World) (hok : metaOk m = false) :
    Calls Tryd.prog 15 #[mv m] w (StrPost w [] 1) := by
  have hB := below_box w (.cells (mcells m) 32)
  have hch := rcheck_any m (w.alloc (.cells (mcells m) 32))
  rw [hok] at hch
  unfold mv mcells at *
  clear hok
  go_enter Tryd.func15, Tryd.ntmps15
  go_wp2_with fail
  refine hch.mono ?_
  rintro e w1 ⟨rfl, hb1⟩
  have hb := below_then hB hb1
  go_wp2_with fail
  go_ret2
  exact ⟨rfl, hb⟩

set_option maxRecDepth 100000 in
set_option maxHeartbeats 8000000 in
theorem rput_ok (m : Mt) (w : World) (hok : metaOk m = true) (ht : m.txn < 18446744073709551616) :
    Calls Tryd.prog 15 #[mv m] w (StrPost w (pageOf 5 [metaB m]) 0) := by
  have hB := below_box w (.cells (mcells m) 32)
  have hblk := World.alloc_heap_new w (.cells (mcells m) 32)
  have hlt : w.heap.size < (w.alloc (.cells (mcells m) 32)).heap.size := by simp
  have hch := rcheck_any m (w.alloc (.cells (mcells m) 32))
  rw [hok] at hch
  have hok' := hok
  rw [metaOk_iff, placeB_iff, placeB_iff] at hok'
  obtain ⟨h1, h2, h3, h4, h5, h6, h7, _⟩ := hok'
  have HBLK := Lib.hid hblk
  have HLT := Lib.hid hlt
  have r0 : 0 ≤ m.root ∧ m.root ≤ 1000 := by omega
  have r1 : 0 ≤ m.list ∧ m.list ≤ 1000 := by omega
  have hMB := Lib.hid (show metaB m = (markB ++ beBytes m.label.toNat 1 ++ beBytes m.txn 8) ++ (beBytes m.root.toNat 2 ++ beBytes m.list.toNat 2 ++ beBytes m.high.toNat 2) by simp [metaB, encM])
  have hn : ∀ (x : Int) (n : Nat) (W : World), 0 ≤ x → x < 18446744073709551616 → 1 ≤ n → n ≤ 8 → Calls Tryd.prog 42 #[.int .u64 x, .int .i64 (n : Int)] W (RetStr W (beBytes x.toNat n)) := fun x n W h1 h2 h3 h4 => by
    obtain ⟨y, rfl⟩ := Int.eq_ofNat_of_zero_le h1
    exact refNum_ok y n W (by omega) h3 h4
  have n0 : ∀ W, Calls Tryd.prog 42 #[.int .u64 m.label, .int .i64 1] W (RetStr W (beBytes m.label.toNat 1)) := fun W => hn m.label 1 W h1 (by omega) (by omega) (by omega)
  have n1 : ∀ W, Calls Tryd.prog 42 #[.int .u64 m.txn, .int .i64 8] W (RetStr W (beBytes m.txn 8)) := fun W => hn m.txn 8 W (by omega) (by omega) (by omega) (by omega)
  have n2 : ∀ W, Calls Tryd.prog 42 #[.int .u64 m.root, .int .i64 2] W (RetStr W (beBytes m.root.toNat 2)) := fun W => hn m.root 2 W (by omega) (by omega) (by omega) (by omega)
  have n3 : ∀ W, Calls Tryd.prog 42 #[.int .u64 m.list, .int .i64 2] W (RetStr W (beBytes m.list.toNat 2)) := fun W => hn m.list 2 W (by omega) (by omega) (by omega) (by omega)
  have n4 : ∀ W, Calls Tryd.prog 42 #[.int .u64 m.high, .int .i64 2] W (RetStr W (beBytes m.high.toNat 2)) := fun W => hn m.high 2 W (by omega) (by omega) (by omega) (by omega)
  have l0 := beBytes_length m.label.toNat 1
  have l1 := beBytes_length m.txn 8
  have l2 := beBytes_length m.root.toNat 2
  have l3 := beBytes_length m.list.toNat 2
  have l4 := beBytes_length m.high.toNat 2
  have w0 : m.label % 18446744073709551616 = m.label := by omega
  have w1 : m.root % 18446744073709551616 = m.root := by omega
  have w2 : m.list % 18446744073709551616 = m.list := by omega
  have w3 : m.high % 18446744073709551616 = m.high := by omega
  have v0 : IntKind.u64.wrap m.label = m.label := by simp [IntKind.wrap, IntKind.signed, IntKind.bits]; omega
  have v1 : IntKind.u64.wrap m.root = m.root := by simp [IntKind.wrap, IntKind.signed, IntKind.bits]; omega
  have v2 : IntKind.u64.wrap m.list = m.list := by simp [IntKind.wrap, IntKind.signed, IntKind.bits]; omega
  have v3 : IntKind.u64.wrap m.high = m.high := by simp [IntKind.wrap, IntKind.signed, IntKind.bits]; omega
  have HL := Lib.hid (pageOf_length 5 [metaB m] (by simp [lens, metaB_length]))
  have hMBl := metaB_length m
  generalize metaB m = mb at *
  generalize beBytes m.label.toNat 1 = b0 at *
  generalize beBytes m.txn 8 = b1 at *
  generalize beBytes m.root.toNat 2 = b2 at *
  generalize beBytes m.list.toNat 2 = b3 at *
  generalize beBytes m.high.toNat 2 = b4 at *
  have s0 : ∀ W, (Op.stringOp .add ⟨#[109, 101, 116, 97]⟩ (strOf b0)).run Tryd.prog W = .ok (.string (strOf (markB ++ b0))) W := fun W => str_add markB b0 (by simp [markB, l0]) W
  have s1 : ∀ W, (Op.stringOp .add (strOf (markB ++ b0)) (strOf b1)).run Tryd.prog W = .ok (.string (strOf (markB ++ b0 ++ b1))) W := fun W => str_add _ _ (by simp [l0, l1, markB]) W
  have s2 : ∀ W, (Op.stringOp .add (strOf b2) (strOf b3)).run Tryd.prog W = .ok (.string (strOf (b2 ++ b3))) W := fun W => str_add _ _ (by simp [l2, l3]) W
  have s3 : ∀ W, (Op.stringOp .add (strOf (b2 ++ b3)) (strOf b4)).run Tryd.prog W = .ok (.string (strOf (b2 ++ b3 ++ b4))) W := fun W => str_add _ _ (by simp [l2, l3, l4]) W
  have s4 : ∀ W, (Op.stringOp .add (strOf (markB ++ b0 ++ b1)) (strOf (b2 ++ b3 ++ b4))).run Tryd.prog W = .ok (.string (strOf mb)) W := fun W => by
    rw [hMB.out]; exact str_add _ _ (by simp [l0, l1, l2, l3, l4, markB]) W
  have HML := Lib.hid hMBl
  clear hblk hlt hok h1 h2 h3 h4 h5 h6 h7 r0 r1 hn hMB l0 l1 l2 l3 l4 hMBl
  generalize markB ++ b0 ++ b1 = c1 at *
  generalize markB ++ b0 = c0 at *
  generalize b2 ++ b3 ++ b4 = c3 at *
  generalize b2 ++ b3 = c2 at *
  unfold mv mcells at *
  go_enter Tryd.func15, Tryd.ntmps15
  go_wp2_with fail
  refine hch.mono ?_
  rintro e w5 ⟨rfl, hb1⟩
  have hb := below_then hB hb1
  have hbl := (hb1.block _ HLT.out).trans HBLK.out
  have hlt5 : w.heap.size < w5.heap.size := (Array.getElem?_eq_some_iff.1 hbl).1
  have hcells : ∀ W, Below w5.heap.size w5 W → _ := fun W hW => rbox_cells (m := m) (w := W) ((hW.block _ hlt5).trans hbl)
  have g0 := fun W hW => (hcells W hW).1
  have g1 := fun W hW => (hcells W hW).2.1
  have g2 := fun W hW => (hcells W hW).2.2.1
  have g3 := fun W hW => (hcells W hW).2.2.2.1
  have g4 := fun W hW => (hcells W hW).2.2.2.2
  have hC : Below w5.heap.size w5 w5.drew := (Below.refl _ _).drew
  clear hcells hch hbl hb1 hB
  go_wp2_with fail
  go_region_held3 (fun W => Below w5.heap.size w5 W) (assumption) (first | (go_at_call 42; (with_reducible refine (n0 _).mono ?_); rintro e wa ⟨rfl, hba⟩; have hC8 := hC.trans (hba.mono hC.size)) | (go_at_call 42; (with_reducible refine (n1 _).mono ?_); rintro e wb ⟨rfl, hbb⟩; have hC9 := hC8.trans (hbb.mono hC8.size)))
  have hb9 := below_then hb hC9
  have hD : Below w5.heap.size w5 wb.drew := hC9.drew
  go_wp2_with fail
  go_region_held3 (fun W => Below w5.heap.size w5 W) (assumption) (first | (go_at_call 42; (with_reducible refine (n2 _).mono ?_); rintro e wc ⟨rfl, hbc⟩; have hD1 := hD.trans (hbc.mono hD.size)) | (go_at_call 42; (with_reducible refine (n3 _).mono ?_); rintro e wd ⟨rfl, hbd⟩; have hD2 := hD1.trans (hbd.mono hD1.size)) | (go_at_call 42; (with_reducible refine (n4 _).mono ?_); rintro e we ⟨rfl, hbe⟩; have hD3 := hD2.trans (hbe.mono hD2.size)))
  have hb10 := below_then hb hD3
  clear hC8 hC9 hD hD1 hD2 hD3 hb9 hC g0 g1 g2 g3 g4 n0 n1 n2 n3 n4
  have hB11 := below_then hb10 (below_box we (.cells #[.string (strOf mb)] 9))
  have hcl : (we.alloc (.cells #[.string (strOf mb)] 9)).cell? ⟨we.heap.size, 0, none⟩ = some (.string (strOf mb)) := by
    simp only [World.cell?, World.alloc_heap_new]; rfl
  have hss := strs_single (w := we.alloc (.cells #[.string (strOf mb)] 9)) we.heap.size (by simp) hcl
  have hpk : Calls Tryd.prog 36 #[.int .u8 5, .slice (some ⟨we.heap.size, 0, none⟩) 1 1] (we.alloc (.cells #[.string (strOf mb)] 9)) (StrPost (we.alloc (.cells #[.string (strOf mb)] 9)) (pageOf 5 [mb]) 0) := rpack_ok 5 _ 1 1 [mb] _ hss (by decide) (by simp [lens, HML.out])
  clear hcl hss hb10 hb
  go_wp2_with fail
  refine hpk.mono ?_
  rintro e w6 ⟨rfl, hb6⟩
  have hb7 := below_then hB11 hb6
  go_wp2_with fail
  go_ret2
  exact ⟨rfl, hb7⟩

theorem rput_any (m : Mt) (w : World) (ht : m.txn < 18446744073709551616) :
    Calls Tryd.prog 15 #[mv m] w (StrPost w (putV m) (putE m)) := by
  cases hok : metaOk m
  · rw [putV, putE, hok]; exact rput_bad m w hok
  · rw [putV, putE, hok]; exact rput_ok m w hok ht
end Go.Proofs.YtjdepdgoaopfoaaDoor
