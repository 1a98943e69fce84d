/- Texts that other texts of this claim lean on, one behind the other. -/
import Derived.Test.YtemfnjlfcemehaaM8
import Derived.Test.YtemfnjlfcemehaaM2
import Derived.Test.YtemfnjlfcemehaaM6
import Derived.Deep.DeepCutAuto
import Derived.Test.YtemfnjlfcemehaaM4
import Derived.Deep.RegionHeld3
import Derived.Test.YtemfnjlfcemehaaM7
import Derived.ChangeArms
import Derived.OpenShut
/- The walks of the laws: a tree as the document has it. -/
namespace Go.Proofs.Ytemfnjlfcemehaa
open Go.RowKit

theorem info_Cc : RowInfo Try.prog 48 4 80 := row_info (by kernel_rfl)
theorem _root_.List.take_succ_eq_append_of {α : Type} {l : List α} {i : Nat} {y : α} (h : l[i]? = some y) : l.take (i + 1) = l.take i ++ [y] := by
  rw [List.take_add_one, h]; rfl
/-- Where a cell lies that was made. -/
def PlCell (F : Nat → Prop) (n B : Nat) (wr : World) (v : Value) (y : Rc) (s : Value) (wx : World) : Prop := ∃ q pa pn pc xa xn xc, s = .pointer (some ⟨q, 0, none⟩) ∧ Boxes wx [(q, [.string (strOf y.key), .string (strOf y.val.data), .slice pa pn pc, .slice xa xn xc])] ∧ wr.heap.size ≤ q ∧ Below wr.heap.size wr wx ∧ RcOn (Gp F B v) n wx [.string (strOf y.key), .string (strOf y.val.data), .slice pa pn pc, .slice xa xn xc] y
set_option maxRecDepth 100000 in
set_option maxHeartbeats 3000000 in
theorem plain15_leaf {n : Nat} {F : Nat → Prop} {w : World} {cs : List Value} {p : Int} {l : List (List UInt8 × Tv)} (hF : ∀ b, F b → b < w.heap.size) (h : NodeOn F (n + 1) w cs (.leaf p l)) (hm : l.length ≤ 1000) :
    Calls Try.prog 37 #[.agg cs.toArray] w (RNodeTo F (n + 1) w (.leaf p l)) := by
  obtain ⟨ka, kn, kc, va, vn, vc, ca, cc, rfl, h1, f1, h2, f2, h3⟩ := h
  obtain ⟨e1, e2, e3⟩ := h1.lens
  obtain ⟨e4, e5, e6⟩ := h2.lens
  have hkl : (keysOf l).length = l.length := by simp [keysOf]
  obtain rfl : kn = vn := by rw [List.length_map] at e4; omega
  have hcl : (cellsR (.leaf p l)).length = kn := by rw [cellsR_len]; show l.length = kn; omega
  have hkn : kn ≤ 1000 := by omega
  have HH1 := Lib.hid h1
  have HV := Lib.hid h2
  have hB0 : Below w.heap.size w (((w.alloc (.cells #[.int .i64 p, .bool true, .slice ka kn kc, .slice va kn vc, .slice ca 0 cc] 33)).alloc (.cells #[.int .i64 0, .bool false, .slice none 0 0] 26)).alloc (.cells #[.int .i64 p, .bool true, .slice none 0 0] 26)) := Below.al (Below.al (Below.al (Below.refl _ _)))
  have HX0 : Hid (Boxes _ [(w.heap.size + 1 + 1, [.int .i64 p, .bool true, .slice none 0 0]), (w.heap.size + 1, [.int .i64 0, .bool false, .slice none 0 0]), (w.heap.size, [.int .i64 p, .bool true, .slice ka kn kc, .slice va kn vc, .slice ca 0 cc])]) := Lib.hid ((((Boxes.nil w).alloc #[.int .i64 p, .bool true, .slice ka kn kc, .slice va kn vc, .slice ca 0 cc] 33 (b := w.heap.size) rfl).alloc #[.int .i64 0, .bool false, .slice none 0 0] 26 (b := w.heap.size + 1) (by simp)).alloc #[.int .i64 p, .bool true, .slice none 0 0] 26 (b := w.heap.size + 1 + 1) (by simp))
  have HB0 := Lib.hid hB0
  have HCL := Lib.hid hcl
  clear h1 f1 h2 h3 hB0 e1 e4 hcl hkl e5 e6
  go_enter Try.func37, Try.ntmps37
  go_wp2_with fail
  go_loopw [4, 5] (fun s4 _ wr => ∃ (i : Nat) (v : Value), i ≤ kn ∧ s4 = .int .i64 i ∧ Boxes wr [(w.heap.size + 1 + 1, [.int .i64 p, .bool true, v]), (w.heap.size + 1, [.int .i64 0, .bool false, .slice none 0 0]), (w.heap.size, [.int .i64 p, .bool true, .slice ka kn kc, .slice va kn vc, .slice ca 0 cc])] ∧ CellsOwn 48 F n (w.heap.size + 3) wr v ((cellsR (.leaf p l)).take i) ∧ Below w.heap.size w wr) (fun s _ _ => kn - (intOf s).toNat)
  case atStart => exact ⟨0, _, Nat.zero_le _, rfl, HX0.out, CellsOwn.nil _ _ _ _ _, HB0.out⟩
  case round =>
    obtain ⟨i, v, hi, rfl, hx, hc, hb⟩ := hrel
    clear HX0 HB0
    have hx0 := hx.lt 2 rfl
    have hx1 := hx.lt 1 rfl
    have hx2 := hx.lt 0 rfl
    have n0 := hx.cell 2 0 rfl rfl
    have n1 := hx.cell 2 1 rfl rfl
    have n2 := hx.cell 2 2 rfl rfl
    have n3 := hx.cell 2 3 rfl rfl
    have n4 := hx.cell 2 4 rfl rfl
    have o0 := hx.cell 0 0 rfl rfl
    have o1 := hx.cell 0 1 rfl rfl
    have o2 := hx.cell 0 2 rfl rfl
    have u2 := hx.frozen 0 2 rfl
    by_cases hlt : i < kn
    · obtain ⟨bk, ok, rfl, hbk9, hck⟩ := HH1.out.at hlt
      have k0 := (hb.cell (p := ⟨bk, ok + i, none⟩) hbk9).trans hck
      obtain ⟨k, hk⟩ : ∃ k, (keysOf l)[i]?.getD [] = k := ⟨_, rfl⟩
      rw [hk] at k0
      have HK := Lib.hid hk
      have HX := Lib.hid hx
      have HC := Lib.hid hc
      have HB := Lib.hid hb
      have hbk8 := Nat.lt_of_lt_of_le hbk9 hb.size
      have hsl := hc.sl
      rw [show ((cellsR (.leaf p l)).take i).length = i by rw [List.length_take, HCL.out]; omega] at hsl
      obtain ⟨va0, vc0, rfl, hvc0, hvm0, _, _⟩ := hsl
      clear hk hck hx hc
      obtain ⟨bv, ov, tv, tcs, rfl, hbv, hyv, _, ⟨pa, pn, pc, rfl, hrow, hfa⟩, hcv⟩ := TabR.at HV.out hlt
      have v0 := (hb.cell (p := ⟨bv, ov + i * 2, none⟩) hbv).trans (hcv 0 _ rfl)
      have v1 := (hb.cell (p := ⟨bv, ov + i * 2 + 1, none⟩) hbv).trans (hcv 1 _ rfl)
      have hbv8 := Nat.lt_of_lt_of_le hbv hb.size
      have HYV := Lib.hid hyv
      have HROW := Lib.hid hrow
      have HFA := Lib.hid hfa
      clear hyv hrow hfa hcv
      obtain ⟨wx, hwx⟩ : ∃ wx, (wr.alloc (.cells #[.string (strOf k), .string (strOf tv.data), .slice pa pn pc, .slice none 0 0] 48)).drew = wx := ⟨_, rfl⟩
      have hwb : Below wr.heap.size wr wx := by rw [← hwx]; exact Below.dr (Below.al (Below.refl _ _))
      have hxq : Boxes wx [(wr.heap.size, [.string (strOf k), .string (strOf tv.data), .slice pa pn pc, .slice none 0 0])] := by rw [← hwx]; exact ((Boxes.nil wr).alloc #[.string (strOf k), .string (strOf tv.data), .slice pa pn pc, .slice none 0 0] 48 rfl).drew
      have hy : RcOn (Gp F (w.heap.size + 3) (.slice va0 i vc0)) n wx [.string (strOf k), .string (strOf tv.data), .slice pa pn pc, .slice none 0 0] ⟨k, tv, none⟩ := ⟨pa, pn, pc, none, 0, 0, rfl, (HROW.out.below (Nat.le_refl _) hb).below (Nat.le_refl _) hwb, HFA.out.mono (fun b hf => ⟨.inl hf, fun e => by have := HC.out.block e; have := hF b hf; omega⟩), TabR.nil _, Fa.zero _ _⟩
      have hyi : (cellsR (.leaf p l))[i]? = some ⟨k, tv, none⟩ := by
        rw [cellsR_leaf]
        have := HYV.out
        rw [List.getElem?_map] at this
        obtain ⟨c, hc1, hc2⟩ := Option.map_eq_some_iff.1 this
        have hk := HK.out
        rw [hc1, ← hk, ← hc2]
        simp [keysOf, hc1]
      obtain ⟨v', w8, hr8, hc8, hg8⟩ := CellsOwn.append (P := Try.prog) (t := 24) Try.underlying24 info_Cc (HC.out.below hwb) (by have := hwb.size; omega) (fun b hf => by have := hF b hf; omega) (by rw [List.length_take]; omega) hy
      rw [← List.take_succ_eq_append_of hyi] at hc8
      have hlen : ((cellsR (.leaf p l)).take (i + 1)).length = i + 1 := by rw [List.length_take, HCL.out]; omega
      have hsl8 := hc8.sl
      rw [hlen] at hsl8
      obtain ⟨va8, vc8, rfl, hvc8, hvm8, _, _⟩ := hsl8
      have hge : ∀ b, (Value.slice va0 i vc0).ownBlock = some b → w.heap.size + 3 ≤ b := fun b hb => (HC.out.block hb).1
      have hx8 := (HX.out.step hwb).grown hg8 (by intro p hp e; simp at hp; have := hge _ e; rcases hp with rfl | rfl | rfl <;> simp at this <;> omega)
      have hb8 := (hb.trans (hwb.mono hb.size)).grown hg8 (Nat.le_trans hb.size hwb.size) (fun k hk => by have := hge k hk; omega)
      have HX8 := Lib.hid hx8
      have HB8 := Lib.hid hb8
      have HC8 := Lib.hid hc8
      have r2 := hx8.cell 0 2 rfl rfl
      have ru := hx8.frozen 0 2 rfl
      have z0 := hxq.cell 0 0 rfl rfl
      have z1 := hxq.cell 0 1 rfl rfl
      have z2 := hxq.cell 0 2 rfl rfl
      have z3 := hxq.cell 0 3 rfl rfl
      have y2 := (HX.out.step hwb).cell 0 2 rfl rfl
      have y4 := (HX.out.step hwb).cell 2 4 rfl rfl
      clear hx8 hb8 hc8 hg8 hxq hy hyi hge hlen

      clear n0 n1 o0 o1
      go_wp2_with fail
      go_region
      go_upto_region 10 with (fail)
      try rw [hwx]
      clear hwx
      go_wp2_with (at_builtin; refine wpList_append_run rfl _ _ _ _ rfl rfl rfl hr8 ?_)
      go_roundw
      case rel => exact ⟨i + 1, _, hlt, by go_num, HX8.out.put 2 _ (by intro p hp; simp at hp; rcases hp with rfl | rfl <;> simp <;> omega), HC8.out.set _ (by simp) (fun hf => by have := hF _ hf; simp at this; omega), HB8.out.setCell (by show w.heap.size ≤ w.heap.size + 1 + 1; omega) _⟩
      case measure => simp [intOf]; omega
    · obtain rfl : i = kn := by omega
      have hc9 : CellsOwn 48 F n (w.heap.size + 3) wr v (cellsR (.leaf p l)) := by
        have := hc
        rwa [List.take_of_length_le (by rw [HCL.out]; exact Nat.le_refl _)] at this
      have hsl := hc9.sl
      rw [HCL.out] at hsl
      obtain ⟨va0, vc0, rfl, hvc0, hvm0, _, _⟩ := hsl
      have HC := Lib.hid hc9
      have HB := Lib.hid hb
      have z0 := hx.cell 1 0 rfl rfl
      have z1 := hx.cell 1 1 rfl rfl
      have z2 := hx.cell 1 2 rfl rfl
      have y0 := hx.frozen 1 0 rfl
      have y1 := hx.frozen 1 1 rfl
      have y2 := hx.frozen 1 2 rfl
      have HXE := Lib.hid hx
      clear hc hc9 hx hb
      have hend : RNodeTo F (n + 1) w (.leaf p l) (.returned (.agg #[.int .i64 p, .bool true, .slice va0 i vc0])) (((wr.setCell ⟨w.heap.size + 1, 0, none⟩ (.int .i64 p)).setCell ⟨w.heap.size + 1, 1, none⟩ (.bool true)).setCell ⟨w.heap.size + 1, 2, none⟩ (.slice va0 i vc0)) := by
        have h9 : ∀ j, ¬ F (⟨w.heap.size + 1, j, none⟩ : Addr).block := fun j hf => by have := hF _ hf; simp at this; omega
        have h8 : ∀ j, (⟨w.heap.size + 1, j, none⟩ : Addr).block < w.heap.size + 3 := fun j => by show w.heap.size + 1 < _; omega
        have h7 : ∀ j, w.heap.size ≤ (⟨w.heap.size + 1, j, none⟩ : Addr).block := fun j => by show _ ≤ w.heap.size + 1; omega
        exact ⟨[.int .i64 p, .bool true, .slice va0 i vc0], rfl, (((HC.out.set _ (h8 0) (h9 0)).set _ (h8 1) (h9 1)).set _ (h8 2) (h9 2)).node (by omega), ((HB.out.setCell (h7 0) _).setCell (h7 1) _).setCell (h7 2) _⟩
      have hxw := (((HXE.out.sub (m := [(w.heap.size + 1, [.int .i64 0, .bool false, .slice none 0 0])]) (by simp)).put 0 (.int .i64 p) (by simp)).put 1 (.bool true) (by simp)).put 2 (.slice va0 i vc0) (by simp)
      have g0 := hxw.cell 0 0 rfl rfl
      have g1 := hxw.cell 0 1 rfl rfl
      have g2 := hxw.cell 0 2 rfl rfl
      have HG := Lib.hid (And.intro g0 (And.intro g1 g2))
      clear g0 g1 g2 hxw
      have HE := Lib.hid hend
      clear hend
      go_wp2_with fail
      refine bodyPost_ret (v := .agg #[.int .i64 p, .bool true, .slice va0 i vc0]) (by obtain ⟨g0, g1, g2⟩ := HG.out; simp only [results, Try.results37]; simp [go_sem, g0, g1, g2]) rfl ?_
      exact HE.out
set_option maxRecDepth 100000 in
set_option maxHeartbeats 3000000 in
theorem plain15_node {n : Nat} (IH : ∀ {F : Nat → Prop} {w : World} {cs : List Value} {t : Tr}, (∀ b, F b → b < w.heap.size) → NodeOn F n w cs t → Bnd n t → Calls Try.prog 37 #[.agg cs.toArray] w (RNodeTo F n w t)) {F : Nat → Prop} {w : World} {cs : List Value} {p : Int} {l : List (List UInt8 × Tr)} (hF : ∀ b, F b → b < w.heap.size) (h : NodeOn F (n + 1) w cs (.node p l)) (hm : l.length ≤ 1000) (hbk : ∀ c ∈ l, Bnd n c.2) :
    Calls Try.prog 37 #[.agg cs.toArray] w (RNodeTo F (n + 1) w (.node p l)) := by
  obtain ⟨ka, kn, kc, va, vc, ca, cn, cc, rfl, h1, f1, h2, h3, f3⟩ := h
  obtain ⟨e1, e2, e3⟩ := h1.lens
  obtain ⟨e4, e5, e6⟩ := h3.lens
  have hkl : (keysOf l).length = l.length := by simp [keysOf]
  obtain rfl : kn = cn := by rw [List.length_map] at e4; omega
  have hcl : (cellsR (.node p l)).length = kn := by rw [cellsR_len]; show l.length = kn; omega
  have hkn : kn ≤ 1000 := by omega
  have HH1 := Lib.hid h1
  have HV := Lib.hid h3
  have hB0 : Below w.heap.size w (((w.alloc (.cells #[.int .i64 p, .bool false, .slice ka kn kc, .slice va 0 vc, .slice ca kn cc] 33)).alloc (.cells #[.int .i64 0, .bool false, .slice none 0 0] 26)).alloc (.cells #[.int .i64 p, .bool false, .slice none 0 0] 26)) := Below.al (Below.al (Below.al (Below.refl _ _)))
  have HX0 : Hid (Boxes _ [(w.heap.size + 1 + 1, [.int .i64 p, .bool false, .slice none 0 0]), (w.heap.size + 1, [.int .i64 0, .bool false, .slice none 0 0]), (w.heap.size, [.int .i64 p, .bool false, .slice ka kn kc, .slice va 0 vc, .slice ca kn cc])]) := Lib.hid ((((Boxes.nil w).alloc #[.int .i64 p, .bool false, .slice ka kn kc, .slice va 0 vc, .slice ca kn cc] 33 (b := w.heap.size) rfl).alloc #[.int .i64 0, .bool false, .slice none 0 0] 26 (b := w.heap.size + 1) (by simp)).alloc #[.int .i64 p, .bool false, .slice none 0 0] 26 (b := w.heap.size + 1 + 1) (by simp))
  have HB0 := Lib.hid hB0
  have HCL := Lib.hid hcl
  clear h1 f1 h2 h3 hB0 e1 e4 hcl hkl
  go_enter Try.func37, Try.ntmps37
  go_wp2_with fail
  go_loopw [4, 5] (fun s4 _ wr => ∃ (i : Nat) (v : Value), i ≤ kn ∧ s4 = .int .i64 i ∧ Boxes wr [(w.heap.size + 1 + 1, [.int .i64 p, .bool false, v]), (w.heap.size + 1, [.int .i64 0, .bool false, .slice none 0 0]), (w.heap.size, [.int .i64 p, .bool false, .slice ka kn kc, .slice va 0 vc, .slice ca kn cc])] ∧ CellsOwn 48 F n (w.heap.size + 3) wr v ((cellsR (.node p l)).take i) ∧ Below w.heap.size w wr) (fun s _ _ => kn - (intOf s).toNat)
  case atStart => exact ⟨0, _, Nat.zero_le _, rfl, HX0.out, CellsOwn.nil _ _ _ _ _, HB0.out⟩
  case round =>
    obtain ⟨i, v, hi, rfl, hx, hc, hb⟩ := hrel
    clear HX0 HB0
    have hx0 := hx.lt 2 rfl
    have hx1 := hx.lt 1 rfl
    have hx2 := hx.lt 0 rfl
    have n0 := hx.cell 2 0 rfl rfl
    have n1 := hx.cell 2 1 rfl rfl
    have n2 := hx.cell 2 2 rfl rfl
    have n3 := hx.cell 2 3 rfl rfl
    have n4 := hx.cell 2 4 rfl rfl
    have o0 := hx.cell 0 0 rfl rfl
    have o1 := hx.cell 0 1 rfl rfl
    have o2 := hx.cell 0 2 rfl rfl
    have u2 := hx.frozen 0 2 rfl
    by_cases hlt : i < kn
    · obtain ⟨bk, ok, rfl, hbk9, hck⟩ := HH1.out.at hlt
      have k0 := (hb.cell (p := ⟨bk, ok + i, none⟩) hbk9).trans hck
      obtain ⟨k, hk⟩ : ∃ k, (keysOf l)[i]?.getD [] = k := ⟨_, rfl⟩
      rw [hk] at k0
      have HK := Lib.hid hk
      have HX := Lib.hid hx
      have HC := Lib.hid hc
      have HB := Lib.hid hb
      have hbk8 := Nat.lt_of_lt_of_le hbk9 hb.size
      have hsl := hc.sl
      rw [show ((cellsR (.node p l)).take i).length = i by rw [List.length_take, HCL.out]; omega] at hsl
      obtain ⟨va0, vc0, rfl, hvc0, hvm0, _, _⟩ := hsl
      clear hk hck hx hc
      obtain ⟨bv, ov, kid, kcs, rfl, hbv, hyv, _, hkid, hcv⟩ := TabR.at HV.out hlt
      have hkid9 := hkid
      cases n with
      | zero => exact hkid.elim
      | succ n =>
      obtain ⟨y1, y2, y3, y4, y5, y6, y7, y8, _, _, ey, _⟩ := hkid.open
      subst ey
      have v0 := (hb.cell (p := ⟨bv, ov + i * 5, none⟩) hbv).trans (hcv 0 _ rfl)
      have v1 := (hb.cell (p := ⟨bv, ov + i * 5 + 1, none⟩) hbv).trans (hcv 1 _ rfl)
      have v2 := (hb.cell (p := ⟨bv, ov + i * 5 + 2, none⟩) hbv).trans (hcv 2 _ rfl)
      have v3 := (hb.cell (p := ⟨bv, ov + i * 5 + 3, none⟩) hbv).trans (hcv 3 _ rfl)
      have v4 := (hb.cell (p := ⟨bv, ov + i * 5 + 4, none⟩) hbv).trans (hcv 4 _ rfl)
      have hbv8 := Nat.lt_of_lt_of_le hbv hb.size
      obtain ⟨c, hc1, hc2⟩ : ∃ c, l[i]? = some c ∧ c.2 = kid := by
        rw [List.getElem?_map] at hyv
        exact Option.map_eq_some_iff.1 hyv
      have hyi : (cellsR (.node p l))[i]? = some ⟨k, ⟨[], []⟩, some kid⟩ := by
        rw [cellsR_node, hc1, ← hc2, ← HK.out]
        simp [keysOf, hc1]
      have hal : Below wr.heap.size wr (wr.alloc (.cells #[.string (strOf k), .string ⟨#[]⟩, .slice none 0 0, .slice none 0 0] 48)) := Below.al (Below.refl _ _)
      have CK := IH (F := F) (w := wr.alloc (.cells #[.string (strOf k), .string ⟨#[]⟩, .slice none 0 0, .slice none 0 0] 48)) (fun b hf => by have := hF b hf; simp; omega) ((hkid.below hb).below hal) (by rw [← hc2]; exact hbk c (List.mem_of_getElem? hc1))
      have HYI := Lib.hid hyi
      clear hyv hcv hkid hkid9 hc1 hc2 hyi
      go_wp2_with fail
      refine CK.mono ?_
      rintro e w2 ⟨cs2, rfl, hkn, hb2⟩
      obtain ⟨a3, c3, ecs, _, _⟩ := hkn.at
      subst ecs
      have hxq0 := ((Boxes.nil wr).alloc #[.string (strOf k), .string ⟨#[]⟩, .slice none 0 0, .slice none 0 0] 48 rfl).step hb2
      have hxq1 : Boxes (w2.alloc (.cells #[.int .i64 kid.page, .bool kid.isLeaf, .slice a3 (cntT kid) c3] 26)) _ := Boxes.al hxq0
      have q3 := hxq1.cell 0 3 rfl rfl
      have q3' := hxq1.frozen 0 3 rfl
      clear hxq1
      obtain ⟨wx, hwx⟩ : ∃ wx, (w2.alloc (.cells #[.int .i64 kid.page, .bool kid.isLeaf, .slice a3 (cntT kid) c3] 26)).setCell ⟨wr.heap.size, 3, none⟩ (.slice (some ⟨w2.heap.size, 0, none⟩) 1 1) = wx := ⟨_, rfl⟩
      have hz2 : wr.heap.size + 1 ≤ w2.heap.size := by have := hb2.size; simpa using this
      have hwb2 : Below wr.heap.size wr w2 := hal.trans (hb2.mono hal.size)
      have hwb : Below wr.heap.size wr wx := by rw [← hwx]; exact Below.st (Below.al hwb2) (Nat.le_refl _)
      have hxq : Boxes wx [(wr.heap.size, [.string (strOf k), .string ⟨#[]⟩, .slice none 0 0, .slice (some ⟨w2.heap.size, 0, none⟩) 1 1])] := by rw [← hwx]; exact (Boxes.al hxq0).put 3 _ (by simp)
      have hxk : Boxes wx [(w2.heap.size, [.int .i64 kid.page, .bool kid.isLeaf, .slice a3 (cntT kid) c3])] := by rw [← hwx]; exact Boxes.st ((Boxes.nil w2).alloc #[.int .i64 kid.page, .bool kid.isLeaf, .slice a3 (cntT kid) c3] 26 rfl) (by intro p hp; simp at hp; subst hp; simp; omega)
      have hagr : AgreeF (Fr F (wr.alloc (.cells #[.string (strOf k), .string ⟨#[]⟩, .slice none 0 0, .slice none 0 0] 48))) w2 wx := by
        rw [← hwx]
        refine AgreeF.set (AgreeF.of_below (Below.al (Below.refl _ _))) (.inl fun hf => ?_)
        rcases hf with hf | hf
        · have := hF _ hf; simp at this; have := hb.size; omega
        · simp at hf; omega
      have hge0 : ∀ b, (Value.slice va0 i vc0).ownBlock = some b → w.heap.size + 3 ≤ b ∧ b < wr.heap.size := fun b hb => HC.out.block hb
      have hkx : RNodeOn (Gp F (w.heap.size + 3) (.slice va0 i vc0)) (n + 1) wx [.int .i64 kid.page, .bool kid.isLeaf, .slice a3 (cntT kid) c3] kid := (hkn.agree hagr).mono (fun b hf => by
        rcases hf with hf | hf
        · exact ⟨.inl hf, fun e => by have := (hge0 b e).1; have := hF b hf; omega⟩
        · simp at hf
          exact ⟨.inr (by omega), fun e => by have := (hge0 b e).2; omega⟩)
      have hy : RcOn (Gp F (w.heap.size + 3) (.slice va0 i vc0)) (n + 1) wx [.string (strOf k), .string ⟨#[]⟩, .slice none 0 0, .slice (some ⟨w2.heap.size, 0, none⟩) 1 1] ⟨k, ⟨[], []⟩, some kid⟩ := by
        refine ⟨none, 0, 0, some ⟨w2.heap.size, 0, none⟩, 1, 1, rfl, ⟨rfl, Nat.le_refl _, by unfold maxLen; omega, fun _ => rfl, .inl rfl⟩, Fa.zero _ _, ⟨rfl, Nat.le_refl _, by unfold maxLen; omega, fun h => (by cases h), .inr ⟨w2.heap.size, 0, rfl, hxk.lt 0 rfl, fun j y hj => ?_⟩⟩, .inr fun b off e => ?_⟩
        · cases j with
          | succ j => cases hj
          | zero =>
            cases hj
            exact ⟨_, rfl, hkx, fun j v hv => by have := hxk.cell 0 j rfl hv; simpa using this⟩
        · cases e
          exact ⟨.inr (by omega), fun e => by have := (hge0 _ e).2; omega⟩
      have hyi := HYI.out
      clear hkn hagr hkx hge0 hxk hxq0 hwb2 CK hb2
      obtain ⟨v', w8, hr8, hc8, hg8⟩ := CellsOwn.append (P := Try.prog) (t := 24) Try.underlying24 info_Cc (HC.out.below hwb) (by have := hwb.size; omega) (fun b hf => by have := hF b hf; omega) (by rw [List.length_take]; omega) hy
      rw [← List.take_succ_eq_append_of hyi] at hc8
      have hlen : ((cellsR (.node p l)).take (i + 1)).length = i + 1 := by rw [List.length_take, HCL.out]; omega
      have hsl8 := hc8.sl
      rw [hlen] at hsl8
      obtain ⟨va8, vc8, rfl, hvc8, hvm8, _, _⟩ := hsl8
      have hge : ∀ b, (Value.slice va0 i vc0).ownBlock = some b → w.heap.size + 3 ≤ b := fun b hb => (HC.out.block hb).1
      have hx8 := (HX.out.step hwb).grown hg8 (by intro p hp e; simp at hp; have := hge _ e; rcases hp with rfl | rfl | rfl <;> simp at this <;> omega)
      have hb8 := (hb.trans (hwb.mono hb.size)).grown hg8 (Nat.le_trans hb.size hwb.size) (fun k hk => by have := hge k hk; omega)
      have HX8 := Lib.hid hx8
      have HB8 := Lib.hid hb8
      have HC8 := Lib.hid hc8
      have r2 := hx8.cell 0 2 rfl rfl
      have ru := hx8.frozen 0 2 rfl
      have z0 := hxq.cell 0 0 rfl rfl
      have z1 := hxq.cell 0 1 rfl rfl
      have z2 := hxq.cell 0 2 rfl rfl
      have z3 := hxq.cell 0 3 rfl rfl
      have y2 := (HX.out.step hwb).cell 0 2 rfl rfl
      have y4 := (HX.out.step hwb).cell 2 4 rfl rfl
      clear hx8 hb8 hc8 hg8 hxq hy hyi hge hlen
      go_upto_region 10 with (fail)
      try rw [hwx]
      clear hwx
      go_wp2_with (at_builtin; refine wpList_append_run rfl _ _ _ _ rfl rfl rfl hr8 ?_)
      go_roundw
      case rel => exact ⟨i + 1, _, hlt, by go_num, HX8.out.put 2 _ (by intro p hp; simp at hp; rcases hp with rfl | rfl <;> simp <;> omega), HC8.out.set _ (by simp) (fun hf => by have := hF _ hf; simp at this; omega), HB8.out.setCell (by show w.heap.size ≤ w.heap.size + 1 + 1; omega) _⟩
      case measure => simp [intOf]; omega
    · obtain rfl : i = kn := by omega
      have hc9 : CellsOwn 48 F n (w.heap.size + 3) wr v (cellsR (.node p l)) := by
        have := hc
        rwa [List.take_of_length_le (by rw [HCL.out]; exact Nat.le_refl _)] at this
      have hsl := hc9.sl
      rw [HCL.out] at hsl
      obtain ⟨va0, vc0, rfl, hvc0, hvm0, _, _⟩ := hsl
      have HC := Lib.hid hc9
      have HB := Lib.hid hb
      have z0 := hx.cell 1 0 rfl rfl
      have z1 := hx.cell 1 1 rfl rfl
      have z2 := hx.cell 1 2 rfl rfl
      have y0 := hx.frozen 1 0 rfl
      have y1 := hx.frozen 1 1 rfl
      have y2 := hx.frozen 1 2 rfl
      have HXE := Lib.hid hx
      clear hc hc9 hx hb
      have hend : RNodeTo F (n + 1) w (.node p l) (.returned (.agg #[.int .i64 p, .bool false, .slice va0 i vc0])) (((wr.setCell ⟨w.heap.size + 1, 0, none⟩ (.int .i64 p)).setCell ⟨w.heap.size + 1, 1, none⟩ (.bool false)).setCell ⟨w.heap.size + 1, 2, none⟩ (.slice va0 i vc0)) := by
        have h9 : ∀ j, ¬ F (⟨w.heap.size + 1, j, none⟩ : Addr).block := fun j hf => by have := hF _ hf; simp at this; omega
        have h8 : ∀ j, (⟨w.heap.size + 1, j, none⟩ : Addr).block < w.heap.size + 3 := fun j => by show w.heap.size + 1 < _; omega
        have h7 : ∀ j, w.heap.size ≤ (⟨w.heap.size + 1, j, none⟩ : Addr).block := fun j => by show _ ≤ w.heap.size + 1; omega
        exact ⟨[.int .i64 p, .bool false, .slice va0 i vc0], rfl, (((HC.out.set _ (h8 0) (h9 0)).set _ (h8 1) (h9 1)).set _ (h8 2) (h9 2)).node (by omega), ((HB.out.setCell (h7 0) _).setCell (h7 1) _).setCell (h7 2) _⟩
      have hxw := (((HXE.out.sub (m := [(w.heap.size + 1, [.int .i64 0, .bool false, .slice none 0 0])]) (by simp)).put 0 (.int .i64 p) (by simp)).put 1 (.bool false) (by simp)).put 2 (.slice va0 i vc0) (by simp)
      have g0 := hxw.cell 0 0 rfl rfl
      have g1 := hxw.cell 0 1 rfl rfl
      have g2 := hxw.cell 0 2 rfl rfl
      have HG := Lib.hid (And.intro g0 (And.intro g1 g2))
      clear g0 g1 g2 hxw
      have HE := Lib.hid hend
      clear hend
      go_wp2_with fail
      refine bodyPost_ret (v := .agg #[.int .i64 p, .bool false, .slice va0 i vc0]) (by obtain ⟨g0, g1, g2⟩ := HG.out; simp only [results, Try.results37]; simp [go_sem, g0, g1, g2]) rfl ?_
      exact HE.out
theorem plain15_any : ∀ {n : Nat} {F : Nat → Prop} {w : World} {cs : List Value} {t : Tr}, (∀ b, F b → b < w.heap.size) → NodeOn F n w cs t → Bnd n t → Calls Try.prog 37 #[.agg cs.toArray] w (RNodeTo F n w t)
  | 0, _, _, _, _, _, h, _ => h.elim
  | _n + 1, _, _, _, .leaf _p _l, hF, h, hb => plain15_leaf hF h hb.1
  | _n + 1, _, _, _, .node _p _l, hF, h, hb => plain15_node (fun hF h hb => plain15_any hF h hb) hF h hb.1 (fun c hc => (hb.2 c hc).2)
set_option maxRecDepth 100000 in
set_option maxHeartbeats 3000000 in
theorem plain16_leaf {n : Nat} {F : Nat → Prop} {w : World} {cs : List Value} {p : Int} {l : List (List UInt8 × Tv)} (hF : ∀ b, F b → b < w.heap.size) (h : NodeOn F (n + 1) w cs (.leaf p l)) (hm : l.length ≤ 1000) :
    Calls Try.prog 53 #[.agg cs.toArray] w (RNodeTo F (n + 1) w (.leaf p l)) := by
  obtain ⟨ka, kn, kc, va, vn, vc, ca, cc, rfl, h1, f1, h2, f2, h3⟩ := h
  obtain ⟨e1, e2, e3⟩ := h1.lens
  obtain ⟨e4, e5, e6⟩ := h2.lens
  have hkl : (keysOf l).length = l.length := by simp [keysOf]
  obtain rfl : kn = vn := by rw [List.length_map] at e4; omega
  have hcl : (cellsR (.leaf p l)).length = kn := by rw [cellsR_len]; show l.length = kn; omega
  have hkn : kn ≤ 1000 := by omega
  have HH1 := Lib.hid h1
  have HV := Lib.hid h2
  have hB0 : Below w.heap.size w (((w.alloc (.cells #[.int .i64 p, .bool true, .slice ka kn kc, .slice va kn vc, .slice ca 0 cc] 33)).alloc (.cells #[.int .i64 0, .bool false, .slice none 0 0] 26)).alloc (.cells #[.int .i64 p, .bool true, .slice none 0 0] 26)) := Below.al (Below.al (Below.al (Below.refl _ _)))
  have HX0 : Hid (Boxes _ [(w.heap.size + 1 + 1, [.int .i64 p, .bool true, .slice none 0 0]), (w.heap.size + 1, [.int .i64 0, .bool false, .slice none 0 0]), (w.heap.size, [.int .i64 p, .bool true, .slice ka kn kc, .slice va kn vc, .slice ca 0 cc])]) := Lib.hid ((((Boxes.nil w).alloc #[.int .i64 p, .bool true, .slice ka kn kc, .slice va kn vc, .slice ca 0 cc] 33 (b := w.heap.size) rfl).alloc #[.int .i64 0, .bool false, .slice none 0 0] 26 (b := w.heap.size + 1) (by simp)).alloc #[.int .i64 p, .bool true, .slice none 0 0] 26 (b := w.heap.size + 1 + 1) (by simp))
  have HB0 := Lib.hid hB0
  have HCL := Lib.hid hcl
  clear h1 f1 h2 h3 hB0 e1 e4 hcl hkl e5 e6
  go_enter Try.func53, Try.ntmps53
  go_wp2_with fail
  go_loopw [4, 5] (fun s4 _ wr => ∃ (i : Nat) (v : Value), i ≤ kn ∧ s4 = .int .i64 i ∧ Boxes wr [(w.heap.size + 1 + 1, [.int .i64 p, .bool true, v]), (w.heap.size + 1, [.int .i64 0, .bool false, .slice none 0 0]), (w.heap.size, [.int .i64 p, .bool true, .slice ka kn kc, .slice va kn vc, .slice ca 0 cc])] ∧ CellsOwn 48 F n (w.heap.size + 3) wr v ((cellsR (.leaf p l)).take i) ∧ Below w.heap.size w wr) (fun s _ _ => kn - (intOf s).toNat)
  case atStart => exact ⟨0, _, Nat.zero_le _, rfl, HX0.out, CellsOwn.nil _ _ _ _ _, HB0.out⟩
  case round =>
    obtain ⟨i, v, hi, rfl, hx, hc, hb⟩ := hrel
    clear HX0 HB0
    have hx0 := hx.lt 2 rfl
    have hx1 := hx.lt 1 rfl
    have hx2 := hx.lt 0 rfl
    have n0 := hx.cell 2 0 rfl rfl
    have n1 := hx.cell 2 1 rfl rfl
    have n2 := hx.cell 2 2 rfl rfl
    have n3 := hx.cell 2 3 rfl rfl
    have n4 := hx.cell 2 4 rfl rfl
    have o0 := hx.cell 0 0 rfl rfl
    have o1 := hx.cell 0 1 rfl rfl
    have o2 := hx.cell 0 2 rfl rfl
    have u2 := hx.frozen 0 2 rfl
    by_cases hlt : i < kn
    · obtain ⟨bk, ok, rfl, hbk9, hck⟩ := HH1.out.at hlt
      have k0 := (hb.cell (p := ⟨bk, ok + i, none⟩) hbk9).trans hck
      obtain ⟨k, hk⟩ : ∃ k, (keysOf l)[i]?.getD [] = k := ⟨_, rfl⟩
      rw [hk] at k0
      have HK := Lib.hid hk
      have HX := Lib.hid hx
      have HC := Lib.hid hc
      have HB := Lib.hid hb
      have hbk8 := Nat.lt_of_lt_of_le hbk9 hb.size
      have hsl := hc.sl
      rw [show ((cellsR (.leaf p l)).take i).length = i by rw [List.length_take, HCL.out]; omega] at hsl
      obtain ⟨va0, vc0, rfl, hvc0, hvm0, _, _⟩ := hsl
      clear hk hck hx hc
      obtain ⟨bv, ov, tv, tcs, rfl, hbv, hyv, _, ⟨pa, pn, pc, rfl, hrow, hfa⟩, hcv⟩ := TabR.at HV.out hlt
      have v0 := (hb.cell (p := ⟨bv, ov + i * 2, none⟩) hbv).trans (hcv 0 _ rfl)
      have v1 := (hb.cell (p := ⟨bv, ov + i * 2 + 1, none⟩) hbv).trans (hcv 1 _ rfl)
      have hbv8 := Nat.lt_of_lt_of_le hbv hb.size
      have HYV := Lib.hid hyv
      have HROW := Lib.hid hrow
      have HFA := Lib.hid hfa
      clear hyv hrow hfa hcv
      obtain ⟨wx, hwx⟩ : ∃ wx, (wr.alloc (.cells #[.string (strOf k), .string (strOf tv.data), .slice pa pn pc, .slice none 0 0] 48)).drew = wx := ⟨_, rfl⟩
      have hwb : Below wr.heap.size wr wx := by rw [← hwx]; exact Below.dr (Below.al (Below.refl _ _))
      have hxq : Boxes wx [(wr.heap.size, [.string (strOf k), .string (strOf tv.data), .slice pa pn pc, .slice none 0 0])] := by rw [← hwx]; exact ((Boxes.nil wr).alloc #[.string (strOf k), .string (strOf tv.data), .slice pa pn pc, .slice none 0 0] 48 rfl).drew
      have hy : RcOn (Gp F (w.heap.size + 3) (.slice va0 i vc0)) n wx [.string (strOf k), .string (strOf tv.data), .slice pa pn pc, .slice none 0 0] ⟨k, tv, none⟩ := ⟨pa, pn, pc, none, 0, 0, rfl, (HROW.out.below (Nat.le_refl _) hb).below (Nat.le_refl _) hwb, HFA.out.mono (fun b hf => ⟨.inl hf, fun e => by have := HC.out.block e; have := hF b hf; omega⟩), TabR.nil _, Fa.zero _ _⟩
      have hyi : (cellsR (.leaf p l))[i]? = some ⟨k, tv, none⟩ := by
        rw [cellsR_leaf]
        have := HYV.out
        rw [List.getElem?_map] at this
        obtain ⟨c, hc1, hc2⟩ := Option.map_eq_some_iff.1 this
        have hk := HK.out
        rw [hc1, ← hk, ← hc2]
        simp [keysOf, hc1]
      obtain ⟨v', w8, hr8, hc8, hg8⟩ := CellsOwn.append (P := Try.prog) (t := 24) Try.underlying24 info_Cc (HC.out.below hwb) (by have := hwb.size; omega) (fun b hf => by have := hF b hf; omega) (by rw [List.length_take]; omega) hy
      rw [← List.take_succ_eq_append_of hyi] at hc8
      have hlen : ((cellsR (.leaf p l)).take (i + 1)).length = i + 1 := by rw [List.length_take, HCL.out]; omega
      have hsl8 := hc8.sl
      rw [hlen] at hsl8
      obtain ⟨va8, vc8, rfl, hvc8, hvm8, _, _⟩ := hsl8
      have hge : ∀ b, (Value.slice va0 i vc0).ownBlock = some b → w.heap.size + 3 ≤ b := fun b hb => (HC.out.block hb).1
      have hx8 := (HX.out.step hwb).grown hg8 (by intro p hp e; simp at hp; have := hge _ e; rcases hp with rfl | rfl | rfl <;> simp at this <;> omega)
      have hb8 := (hb.trans (hwb.mono hb.size)).grown hg8 (Nat.le_trans hb.size hwb.size) (fun k hk => by have := hge k hk; omega)
      have HX8 := Lib.hid hx8
      have HB8 := Lib.hid hb8
      have HC8 := Lib.hid hc8
      have r2 := hx8.cell 0 2 rfl rfl
      have ru := hx8.frozen 0 2 rfl
      have z0 := hxq.cell 0 0 rfl rfl
      have z1 := hxq.cell 0 1 rfl rfl
      have z2 := hxq.cell 0 2 rfl rfl
      have z3 := hxq.cell 0 3 rfl rfl
      have y2 := (HX.out.step hwb).cell 0 2 rfl rfl
      have y4 := (HX.out.step hwb).cell 2 4 rfl rfl
      clear hx8 hb8 hc8 hg8 hxq hy hyi hge hlen

      clear n0 n1 o0 o1
      go_wp2_with fail
      go_region
      go_upto_region 10 with (fail)
      try rw [hwx]
      clear hwx
      go_wp2_with (at_builtin; refine wpList_append_run rfl _ _ _ _ rfl rfl rfl hr8 ?_)
      go_roundw
      case rel => exact ⟨i + 1, _, hlt, by go_num, HX8.out.put 2 _ (by intro p hp; simp at hp; rcases hp with rfl | rfl <;> simp <;> omega), HC8.out.set _ (by simp) (fun hf => by have := hF _ hf; simp at this; omega), HB8.out.setCell (by show w.heap.size ≤ w.heap.size + 1 + 1; omega) _⟩
      case measure => simp [intOf]; omega
    · obtain rfl : i = kn := by omega
      have hc9 : CellsOwn 48 F n (w.heap.size + 3) wr v (cellsR (.leaf p l)) := by
        have := hc
        rwa [List.take_of_length_le (by rw [HCL.out]; exact Nat.le_refl _)] at this
      have hsl := hc9.sl
      rw [HCL.out] at hsl
      obtain ⟨va0, vc0, rfl, hvc0, hvm0, _, _⟩ := hsl
      have HC := Lib.hid hc9
      have HB := Lib.hid hb
      have z0 := hx.cell 1 0 rfl rfl
      have z1 := hx.cell 1 1 rfl rfl
      have z2 := hx.cell 1 2 rfl rfl
      have y0 := hx.frozen 1 0 rfl
      have y1 := hx.frozen 1 1 rfl
      have y2 := hx.frozen 1 2 rfl
      have HXE := Lib.hid hx
      clear hc hc9 hx hb
      have hend : RNodeTo F (n + 1) w (.leaf p l) (.returned (.agg #[.int .i64 p, .bool true, .slice va0 i vc0])) (((wr.setCell ⟨w.heap.size + 1, 0, none⟩ (.int .i64 p)).setCell ⟨w.heap.size + 1, 1, none⟩ (.bool true)).setCell ⟨w.heap.size + 1, 2, none⟩ (.slice va0 i vc0)) := by
        have h9 : ∀ j, ¬ F (⟨w.heap.size + 1, j, none⟩ : Addr).block := fun j hf => by have := hF _ hf; simp at this; omega
        have h8 : ∀ j, (⟨w.heap.size + 1, j, none⟩ : Addr).block < w.heap.size + 3 := fun j => by show w.heap.size + 1 < _; omega
        have h7 : ∀ j, w.heap.size ≤ (⟨w.heap.size + 1, j, none⟩ : Addr).block := fun j => by show _ ≤ w.heap.size + 1; omega
        exact ⟨[.int .i64 p, .bool true, .slice va0 i vc0], rfl, (((HC.out.set _ (h8 0) (h9 0)).set _ (h8 1) (h9 1)).set _ (h8 2) (h9 2)).node (by omega), ((HB.out.setCell (h7 0) _).setCell (h7 1) _).setCell (h7 2) _⟩
      have hxw := (((HXE.out.sub (m := [(w.heap.size + 1, [.int .i64 0, .bool false, .slice none 0 0])]) (by simp)).put 0 (.int .i64 p) (by simp)).put 1 (.bool true) (by simp)).put 2 (.slice va0 i vc0) (by simp)
      have g0 := hxw.cell 0 0 rfl rfl
      have g1 := hxw.cell 0 1 rfl rfl
      have g2 := hxw.cell 0 2 rfl rfl
      have HG := Lib.hid (And.intro g0 (And.intro g1 g2))
      clear g0 g1 g2 hxw
      have HE := Lib.hid hend
      clear hend
      go_wp2_with fail
      refine bodyPost_ret (v := .agg #[.int .i64 p, .bool true, .slice va0 i vc0]) (by obtain ⟨g0, g1, g2⟩ := HG.out; simp only [results, Try.results53]; simp [go_sem, g0, g1, g2]) rfl ?_
      exact HE.out
set_option maxRecDepth 100000 in
set_option maxHeartbeats 3000000 in
theorem plain16_node {n : Nat} (IH : ∀ {F : Nat → Prop} {w : World} {cs : List Value} {t : Tr}, (∀ b, F b → b < w.heap.size) → NodeOn F n w cs t → Bnd n t → Calls Try.prog 53 #[.agg cs.toArray] w (RNodeTo F n w t)) {F : Nat → Prop} {w : World} {cs : List Value} {p : Int} {l : List (List UInt8 × Tr)} (hF : ∀ b, F b → b < w.heap.size) (h : NodeOn F (n + 1) w cs (.node p l)) (hm : l.length ≤ 1000) (hbk : ∀ c ∈ l, Bnd n c.2) :
    Calls Try.prog 53 #[.agg cs.toArray] w (RNodeTo F (n + 1) w (.node p l)) := by
  obtain ⟨ka, kn, kc, va, vc, ca, cn, cc, rfl, h1, f1, h2, h3, f3⟩ := h
  obtain ⟨e1, e2, e3⟩ := h1.lens
  obtain ⟨e4, e5, e6⟩ := h3.lens
  have hkl : (keysOf l).length = l.length := by simp [keysOf]
  obtain rfl : kn = cn := by rw [List.length_map] at e4; omega
  have hcl : (cellsR (.node p l)).length = kn := by rw [cellsR_len]; show l.length = kn; omega
  have hkn : kn ≤ 1000 := by omega
  have HH1 := Lib.hid h1
  have HV := Lib.hid h3
  have hB0 : Below w.heap.size w (((w.alloc (.cells #[.int .i64 p, .bool false, .slice ka kn kc, .slice va 0 vc, .slice ca kn cc] 33)).alloc (.cells #[.int .i64 0, .bool false, .slice none 0 0] 26)).alloc (.cells #[.int .i64 p, .bool false, .slice none 0 0] 26)) := Below.al (Below.al (Below.al (Below.refl _ _)))
  have HX0 : Hid (Boxes _ [(w.heap.size + 1 + 1, [.int .i64 p, .bool false, .slice none 0 0]), (w.heap.size + 1, [.int .i64 0, .bool false, .slice none 0 0]), (w.heap.size, [.int .i64 p, .bool false, .slice ka kn kc, .slice va 0 vc, .slice ca kn cc])]) := Lib.hid ((((Boxes.nil w).alloc #[.int .i64 p, .bool false, .slice ka kn kc, .slice va 0 vc, .slice ca kn cc] 33 (b := w.heap.size) rfl).alloc #[.int .i64 0, .bool false, .slice none 0 0] 26 (b := w.heap.size + 1) (by simp)).alloc #[.int .i64 p, .bool false, .slice none 0 0] 26 (b := w.heap.size + 1 + 1) (by simp))
  have HB0 := Lib.hid hB0
  have HCL := Lib.hid hcl
  clear h1 f1 h2 h3 hB0 e1 e4 hcl hkl
  go_enter Try.func53, Try.ntmps53
  go_wp2_with fail
  go_loopw [4, 5] (fun s4 _ wr => ∃ (i : Nat) (v : Value), i ≤ kn ∧ s4 = .int .i64 i ∧ Boxes wr [(w.heap.size + 1 + 1, [.int .i64 p, .bool false, v]), (w.heap.size + 1, [.int .i64 0, .bool false, .slice none 0 0]), (w.heap.size, [.int .i64 p, .bool false, .slice ka kn kc, .slice va 0 vc, .slice ca kn cc])] ∧ CellsOwn 48 F n (w.heap.size + 3) wr v ((cellsR (.node p l)).take i) ∧ Below w.heap.size w wr) (fun s _ _ => kn - (intOf s).toNat)
  case atStart => exact ⟨0, _, Nat.zero_le _, rfl, HX0.out, CellsOwn.nil _ _ _ _ _, HB0.out⟩
  case round =>
    obtain ⟨i, v, hi, rfl, hx, hc, hb⟩ := hrel
    clear HX0 HB0
    have hx0 := hx.lt 2 rfl
    have hx1 := hx.lt 1 rfl
    have hx2 := hx.lt 0 rfl
    have n0 := hx.cell 2 0 rfl rfl
    have n1 := hx.cell 2 1 rfl rfl
    have n2 := hx.cell 2 2 rfl rfl
    have n3 := hx.cell 2 3 rfl rfl
    have n4 := hx.cell 2 4 rfl rfl
    have o0 := hx.cell 0 0 rfl rfl
    have o1 := hx.cell 0 1 rfl rfl
    have o2 := hx.cell 0 2 rfl rfl
    have u2 := hx.frozen 0 2 rfl
    by_cases hlt : i < kn
    · obtain ⟨bk, ok, rfl, hbk9, hck⟩ := HH1.out.at hlt
      have k0 := (hb.cell (p := ⟨bk, ok + i, none⟩) hbk9).trans hck
      obtain ⟨k, hk⟩ : ∃ k, (keysOf l)[i]?.getD [] = k := ⟨_, rfl⟩
      rw [hk] at k0
      have HK := Lib.hid hk
      have HX := Lib.hid hx
      have HC := Lib.hid hc
      have HB := Lib.hid hb
      have hbk8 := Nat.lt_of_lt_of_le hbk9 hb.size
      have hsl := hc.sl
      rw [show ((cellsR (.node p l)).take i).length = i by rw [List.length_take, HCL.out]; omega] at hsl
      obtain ⟨va0, vc0, rfl, hvc0, hvm0, _, _⟩ := hsl
      clear hk hck hx hc
      obtain ⟨bv, ov, kid, kcs, rfl, hbv, hyv, _, hkid, hcv⟩ := TabR.at HV.out hlt
      have hkid9 := hkid
      cases n with
      | zero => exact hkid.elim
      | succ n =>
      obtain ⟨y1, y2, y3, y4, y5, y6, y7, y8, _, _, ey, _⟩ := hkid.open
      subst ey
      have v0 := (hb.cell (p := ⟨bv, ov + i * 5, none⟩) hbv).trans (hcv 0 _ rfl)
      have v1 := (hb.cell (p := ⟨bv, ov + i * 5 + 1, none⟩) hbv).trans (hcv 1 _ rfl)
      have v2 := (hb.cell (p := ⟨bv, ov + i * 5 + 2, none⟩) hbv).trans (hcv 2 _ rfl)
      have v3 := (hb.cell (p := ⟨bv, ov + i * 5 + 3, none⟩) hbv).trans (hcv 3 _ rfl)
      have v4 := (hb.cell (p := ⟨bv, ov + i * 5 + 4, none⟩) hbv).trans (hcv 4 _ rfl)
      have hbv8 := Nat.lt_of_lt_of_le hbv hb.size
      obtain ⟨c, hc1, hc2⟩ : ∃ c, l[i]? = some c ∧ c.2 = kid := by
        rw [List.getElem?_map] at hyv
        exact Option.map_eq_some_iff.1 hyv
      have hyi : (cellsR (.node p l))[i]? = some ⟨k, ⟨[], []⟩, some kid⟩ := by
        rw [cellsR_node, hc1, ← hc2, ← HK.out]
        simp [keysOf, hc1]
      have hal : Below wr.heap.size wr (wr.alloc (.cells #[.string (strOf k), .string ⟨#[]⟩, .slice none 0 0, .slice none 0 0] 48)) := Below.al (Below.refl _ _)
      have CK := IH (F := F) (w := wr.alloc (.cells #[.string (strOf k), .string ⟨#[]⟩, .slice none 0 0, .slice none 0 0] 48)) (fun b hf => by have := hF b hf; simp; omega) ((hkid.below hb).below hal) (by rw [← hc2]; exact hbk c (List.mem_of_getElem? hc1))
      have HYI := Lib.hid hyi
      clear hyv hcv hkid hkid9 hc1 hc2 hyi
      go_wp2_with fail
      refine CK.mono ?_
      rintro e w2 ⟨cs2, rfl, hkn, hb2⟩
      obtain ⟨a3, c3, ecs, _, _⟩ := hkn.at
      subst ecs
      have hxq0 := ((Boxes.nil wr).alloc #[.string (strOf k), .string ⟨#[]⟩, .slice none 0 0, .slice none 0 0] 48 rfl).step hb2
      have hxq1 : Boxes (w2.alloc (.cells #[.int .i64 kid.page, .bool kid.isLeaf, .slice a3 (cntT kid) c3] 26)) _ := Boxes.al hxq0
      have q3 := hxq1.cell 0 3 rfl rfl
      have q3' := hxq1.frozen 0 3 rfl
      clear hxq1
      obtain ⟨wx, hwx⟩ : ∃ wx, (w2.alloc (.cells #[.int .i64 kid.page, .bool kid.isLeaf, .slice a3 (cntT kid) c3] 26)).setCell ⟨wr.heap.size, 3, none⟩ (.slice (some ⟨w2.heap.size, 0, none⟩) 1 1) = wx := ⟨_, rfl⟩
      have hz2 : wr.heap.size + 1 ≤ w2.heap.size := by have := hb2.size; simpa using this
      have hwb2 : Below wr.heap.size wr w2 := hal.trans (hb2.mono hal.size)
      have hwb : Below wr.heap.size wr wx := by rw [← hwx]; exact Below.st (Below.al hwb2) (Nat.le_refl _)
      have hxq : Boxes wx [(wr.heap.size, [.string (strOf k), .string ⟨#[]⟩, .slice none 0 0, .slice (some ⟨w2.heap.size, 0, none⟩) 1 1])] := by rw [← hwx]; exact (Boxes.al hxq0).put 3 _ (by simp)
      have hxk : Boxes wx [(w2.heap.size, [.int .i64 kid.page, .bool kid.isLeaf, .slice a3 (cntT kid) c3])] := by rw [← hwx]; exact Boxes.st ((Boxes.nil w2).alloc #[.int .i64 kid.page, .bool kid.isLeaf, .slice a3 (cntT kid) c3] 26 rfl) (by intro p hp; simp at hp; subst hp; simp; omega)
      have hagr : AgreeF (Fr F (wr.alloc (.cells #[.string (strOf k), .string ⟨#[]⟩, .slice none 0 0, .slice none 0 0] 48))) w2 wx := by
        rw [← hwx]
        refine AgreeF.set (AgreeF.of_below (Below.al (Below.refl _ _))) (.inl fun hf => ?_)
        rcases hf with hf | hf
        · have := hF _ hf; simp at this; have := hb.size; omega
        · simp at hf; omega
      have hge0 : ∀ b, (Value.slice va0 i vc0).ownBlock = some b → w.heap.size + 3 ≤ b ∧ b < wr.heap.size := fun b hb => HC.out.block hb
      have hkx : RNodeOn (Gp F (w.heap.size + 3) (.slice va0 i vc0)) (n + 1) wx [.int .i64 kid.page, .bool kid.isLeaf, .slice a3 (cntT kid) c3] kid := (hkn.agree hagr).mono (fun b hf => by
        rcases hf with hf | hf
        · exact ⟨.inl hf, fun e => by have := (hge0 b e).1; have := hF b hf; omega⟩
        · simp at hf
          exact ⟨.inr (by omega), fun e => by have := (hge0 b e).2; omega⟩)
      have hy : RcOn (Gp F (w.heap.size + 3) (.slice va0 i vc0)) (n + 1) wx [.string (strOf k), .string ⟨#[]⟩, .slice none 0 0, .slice (some ⟨w2.heap.size, 0, none⟩) 1 1] ⟨k, ⟨[], []⟩, some kid⟩ := by
        refine ⟨none, 0, 0, some ⟨w2.heap.size, 0, none⟩, 1, 1, rfl, ⟨rfl, Nat.le_refl _, by unfold maxLen; omega, fun _ => rfl, .inl rfl⟩, Fa.zero _ _, ⟨rfl, Nat.le_refl _, by unfold maxLen; omega, fun h => (by cases h), .inr ⟨w2.heap.size, 0, rfl, hxk.lt 0 rfl, fun j y hj => ?_⟩⟩, .inr fun b off e => ?_⟩
        · cases j with
          | succ j => cases hj
          | zero =>
            cases hj
            exact ⟨_, rfl, hkx, fun j v hv => by have := hxk.cell 0 j rfl hv; simpa using this⟩
        · cases e
          exact ⟨.inr (by omega), fun e => by have := (hge0 _ e).2; omega⟩
      have hyi := HYI.out
      clear hkn hagr hkx hge0 hxk hxq0 hwb2 CK hb2
      obtain ⟨v', w8, hr8, hc8, hg8⟩ := CellsOwn.append (P := Try.prog) (t := 24) Try.underlying24 info_Cc (HC.out.below hwb) (by have := hwb.size; omega) (fun b hf => by have := hF b hf; omega) (by rw [List.length_take]; omega) hy
      rw [← List.take_succ_eq_append_of hyi] at hc8
      have hlen : ((cellsR (.node p l)).take (i + 1)).length = i + 1 := by rw [List.length_take, HCL.out]; omega
      have hsl8 := hc8.sl
      rw [hlen] at hsl8
      obtain ⟨va8, vc8, rfl, hvc8, hvm8, _, _⟩ := hsl8
      have hge : ∀ b, (Value.slice va0 i vc0).ownBlock = some b → w.heap.size + 3 ≤ b := fun b hb => (HC.out.block hb).1
      have hx8 := (HX.out.step hwb).grown hg8 (by intro p hp e; simp at hp; have := hge _ e; rcases hp with rfl | rfl | rfl <;> simp at this <;> omega)
      have hb8 := (hb.trans (hwb.mono hb.size)).grown hg8 (Nat.le_trans hb.size hwb.size) (fun k hk => by have := hge k hk; omega)
      have HX8 := Lib.hid hx8
      have HB8 := Lib.hid hb8
      have HC8 := Lib.hid hc8
      have r2 := hx8.cell 0 2 rfl rfl
      have ru := hx8.frozen 0 2 rfl
      have z0 := hxq.cell 0 0 rfl rfl
      have z1 := hxq.cell 0 1 rfl rfl
      have z2 := hxq.cell 0 2 rfl rfl
      have z3 := hxq.cell 0 3 rfl rfl
      have y2 := (HX.out.step hwb).cell 0 2 rfl rfl
      have y4 := (HX.out.step hwb).cell 2 4 rfl rfl
      clear hx8 hb8 hc8 hg8 hxq hy hyi hge hlen
      go_upto_region 10 with (fail)
      try rw [hwx]
      clear hwx
      go_wp2_with (at_builtin; refine wpList_append_run rfl _ _ _ _ rfl rfl rfl hr8 ?_)
      go_roundw
      case rel => exact ⟨i + 1, _, hlt, by go_num, HX8.out.put 2 _ (by intro p hp; simp at hp; rcases hp with rfl | rfl <;> simp <;> omega), HC8.out.set _ (by simp) (fun hf => by have := hF _ hf; simp at this; omega), HB8.out.setCell (by show w.heap.size ≤ w.heap.size + 1 + 1; omega) _⟩
      case measure => simp [intOf]; omega
    · obtain rfl : i = kn := by omega
      have hc9 : CellsOwn 48 F n (w.heap.size + 3) wr v (cellsR (.node p l)) := by
        have := hc
        rwa [List.take_of_length_le (by rw [HCL.out]; exact Nat.le_refl _)] at this
      have hsl := hc9.sl
      rw [HCL.out] at hsl
      obtain ⟨va0, vc0, rfl, hvc0, hvm0, _, _⟩ := hsl
      have HC := Lib.hid hc9
      have HB := Lib.hid hb
      have z0 := hx.cell 1 0 rfl rfl
      have z1 := hx.cell 1 1 rfl rfl
      have z2 := hx.cell 1 2 rfl rfl
      have y0 := hx.frozen 1 0 rfl
      have y1 := hx.frozen 1 1 rfl
      have y2 := hx.frozen 1 2 rfl
      have HXE := Lib.hid hx
      clear hc hc9 hx hb
      have hend : RNodeTo F (n + 1) w (.node p l) (.returned (.agg #[.int .i64 p, .bool false, .slice va0 i vc0])) (((wr.setCell ⟨w.heap.size + 1, 0, none⟩ (.int .i64 p)).setCell ⟨w.heap.size + 1, 1, none⟩ (.bool false)).setCell ⟨w.heap.size + 1, 2, none⟩ (.slice va0 i vc0)) := by
        have h9 : ∀ j, ¬ F (⟨w.heap.size + 1, j, none⟩ : Addr).block := fun j hf => by have := hF _ hf; simp at this; omega
        have h8 : ∀ j, (⟨w.heap.size + 1, j, none⟩ : Addr).block < w.heap.size + 3 := fun j => by show w.heap.size + 1 < _; omega
        have h7 : ∀ j, w.heap.size ≤ (⟨w.heap.size + 1, j, none⟩ : Addr).block := fun j => by show _ ≤ w.heap.size + 1; omega
        exact ⟨[.int .i64 p, .bool false, .slice va0 i vc0], rfl, (((HC.out.set _ (h8 0) (h9 0)).set _ (h8 1) (h9 1)).set _ (h8 2) (h9 2)).node (by omega), ((HB.out.setCell (h7 0) _).setCell (h7 1) _).setCell (h7 2) _⟩
      have hxw := (((HXE.out.sub (m := [(w.heap.size + 1, [.int .i64 0, .bool false, .slice none 0 0])]) (by simp)).put 0 (.int .i64 p) (by simp)).put 1 (.bool false) (by simp)).put 2 (.slice va0 i vc0) (by simp)
      have g0 := hxw.cell 0 0 rfl rfl
      have g1 := hxw.cell 0 1 rfl rfl
      have g2 := hxw.cell 0 2 rfl rfl
      have HG := Lib.hid (And.intro g0 (And.intro g1 g2))
      clear g0 g1 g2 hxw
      have HE := Lib.hid hend
      clear hend
      go_wp2_with fail
      refine bodyPost_ret (v := .agg #[.int .i64 p, .bool false, .slice va0 i vc0]) (by obtain ⟨g0, g1, g2⟩ := HG.out; simp only [results, Try.results53]; simp [go_sem, g0, g1, g2]) rfl ?_
      exact HE.out
theorem plain16_any : ∀ {n : Nat} {F : Nat → Prop} {w : World} {cs : List Value} {t : Tr}, (∀ b, F b → b < w.heap.size) → NodeOn F n w cs t → Bnd n t → Calls Try.prog 53 #[.agg cs.toArray] w (RNodeTo F n w t)
  | 0, _, _, _, _, _, h, _ => h.elim
  | _n + 1, _, _, _, .leaf _p _l, hF, h, hb => plain16_leaf hF h hb.1
  | _n + 1, _, _, _, .node _p _l, hF, h, hb => plain16_node (fun hF h hb => plain16_any hF h hb) hF h hb.1 (fun c hc => (hb.2 c hc).2)
end Go.Proofs.Ytemfnjlfcemehaa

/- The walks of trees: the document's Entries. -/
namespace Go.Proofs.Ytemfnjlfcemehaa
open Go.RowKit

/-- An entry's words. -/
def entC (y : List UInt8 × Tv) : Cl 4 := ⟨[.string (strOf y.1), .string (strOf y.2.data), .slice none 0 0, .slice none 0 0], rfl, by intro u hu; simp at hu; rcases hu with rfl | rfl | rfl <;> rfl⟩
theorem info_Ce : RowInfo Try.prog 48 4 80 := row_info (by kernel_rfl)
theorem flat_entC (a : List (Cl 4)) (y : List UInt8 × Tv) : flatC (a ++ [entC y]) = flatC a ++ [.string (strOf y.1), .string (strOf y.2.data), .slice none 0 0, .slice none 0 0] := by
  rw [flatC_append]; exact congrArg (flatC a ++ ·) (List.append_nil _)
/-- What a round reads. -/
def EsS (B : Nat) (sl : Value) (b o : Nat) (k d : Value) (W : World) : Prop := (B < W.heap.size ∧ b < W.heap.size) ∧ W.cell? ⟨B, 2, none⟩ = some sl ∧ W.cell? ⟨b, o, none⟩ = some k ∧ W.cell? ⟨b, o + 1, none⟩ = some d
theorem EsS.below {B : Nat} {sl : Value} {b o : Nat} {k d : Value} {W W' : World} (h : EsS B sl b o k d W) (hb : Below W.heap.size W W') : EsS B sl b o k d W' :=
  ⟨⟨Nat.lt_of_lt_of_le h.1.1 hb.size, Nat.lt_of_lt_of_le h.1.2 hb.size⟩, (hb.cell (p := ⟨B, 2, none⟩) h.1.1).trans h.2.1, (hb.cell (p := ⟨b, o, none⟩) h.1.2).trans h.2.2.1, (hb.cell (p := ⟨b, o + 1, none⟩) h.1.2).trans h.2.2.2⟩
theorem EsS.dr {B : Nat} {sl : Value} {b o : Nat} {k d : Value} {W : World} (h : EsS B sl b o k d W) : EsS B sl b o k d W.drew := h
theorem EsS.al {B : Nat} {sl : Value} {b o : Nat} {k d : Value} {W : World} {ob : Obj} (h : EsS B sl b o k d W) : EsS B sl b o k d (W.alloc ob) := h.below (Below.al (Below.refl _ _))
theorem EsS.grown {B : Nat} {sl : Value} {b o : Nat} {k d : Value} {W W' : World} {row : Option Nat} (h : EsS B sl b o k d W) (hg : W.grownBy W' row) (h1 : row ≠ some B) (h2 : row ≠ some b) : EsS B sl b o k d W' := by
  have g : ∀ j off, j < W.heap.size → row ≠ some j → W'.cell? ⟨j, off, none⟩ = W.cell? ⟨j, off, none⟩ := fun j off hj hne => World.cell?_of_block (hg.block j hj (fun e => hne e.symm))
  exact ⟨⟨Nat.lt_of_lt_of_le h.1.1 hg.size, Nat.lt_of_lt_of_le h.1.2 hg.size⟩, (g B 2 h.1.1 h1).trans h.2.1, (g b o h.1.2 h2).trans h.2.2.1, (g b (o + 1) h.1.2 h2).trans h.2.2.2⟩
set_option maxRecDepth 100000 in
set_option maxHeartbeats 3000000 in
theorem entries_leaf {n : Nat} {F : Nat → Prop} {w : World} {cs : List Value} {p : Int} {l : List (List UInt8 × Tv)} (h : RNodeOn F (n + 1) w cs (.leaf p l)) (hm : l.length ≤ 1000) :
    Calls Try.prog 27 #[.agg cs.toArray] w (OwnRaw 48 4 w (l.map entC)) := by
  obtain ⟨a, c, rfl, h1, _⟩ := h.at
  obtain ⟨e1, e2, e3⟩ := h1.lens
  obtain ⟨m, hml⟩ : ∃ m, cntT (.leaf p l) = m := ⟨_, rfl⟩
  rw [hml] at h1 e1 e2 ⊢
  have hml : l.length = m := hml
  show Calls _ _ #[.agg #[.int .i64 p, .bool true, .slice a m c]] _ _
  have H1 := Lib.hid h1
  have hB0 : Below w.heap.size w (w.alloc (.cells #[.int .i64 p, .bool true, .slice a m c] 26)) := Below.al (Below.refl _ _)
  have HX0 := Lib.hid ((Boxes.nil w).alloc #[.int .i64 p, .bool true, .slice a m c] 26 (b := w.heap.size) rfl)
  have HB0 := Lib.hid hB0
  have HML := Lib.hid hml
  obtain ⟨ti, tz, i1, i2, i3, i4, i5⟩ := info_Ce
  clear h1 hB0 e1 h hml
  have hm : m ≤ 1000 := by rw [← HML.out]; exact hm
  go_enter Try.func27, Try.ntmps27
  go_wp2_with fail
  go_loopw [3, 4] (fun s3 s4 wr => ∃ (i : Nat), i ≤ m ∧ s4 = .int .i64 i ∧ Boxes wr [(w.heap.size, [.int .i64 p, .bool true, .slice a m c])] ∧ wr.ownsRow (w.heap.size + 1) 48 4 s3 i (flatC ((l.take i).map entC)) ∧ Below w.heap.size w wr) (fun _ s _ => m - (intOf s).toNat)
  case atStart => exact ⟨0, Nat.zero_le _, rfl, HX0.out, own_nil _ _ _ _, HB0.out⟩
  case round =>
    obtain ⟨i, hi, rfl, hx, hown, hb⟩ := hrel
    clear HX0 HB0
    have hx0 := hx.lt 0 rfl
    have n0 := hx.cell 0 0 rfl rfl
    have n1 := hx.cell 0 1 rfl rfl
    have n2 := hx.cell 0 2 rfl rfl
    by_cases hlt : i < m
    · obtain ⟨b, off, y, pa, pn, pc, ka, kn, kc, rfl, hbb, hy, _, _, _, _, _, c0, c1, c2, c3⟩ := RNodeOn.cell H1.out hlt
      rw [cellsR_leaf] at hy
      obtain ⟨x, hx1, hx2⟩ := Option.map_eq_some_iff.1 hy
      subst hx2
      have v0 := (hb.cell (p := ⟨b, off + i * 4, none⟩) hbb).trans c0
      have v1 := (hb.cell (p := ⟨b, off + i * 4 + 1, none⟩) hbb).trans c1
      have hts : (l.take (i + 1)).map entC = (l.take i).map entC ++ [entC x] := by rw [List.take_add_one, hx1]; simp
      obtain ⟨v8, w8, hr8, ho8, hg8, hv8⟩ := run_append_new (P := Try.prog) (w := wr.drew) (w.heap.size + 1) 24 48 ti tz 4 80 Try.underlying24 i1 i2 i3 i4 i5 (by decide) hown #[.string (strOf x.1), .string (strOf x.2.data), .slice none 0 0, .slice none 0 0] rfl (by intro u hu; simp at hu; rcases hu with rfl | rfl | rfl <;> rfl) (by unfold maxLen; omega) (by omega) (by show w.heap.size + 1 ≤ wr.heap.size; omega)
      have HO8 : Hid (w8.ownsRow (w.heap.size + 1) 48 4 v8 (i + 1) (flatC ((l.take (i + 1)).map entC))) := Lib.hid (by rw [hts, flat_entC]; exact ho8)
      have hge := own_ge hown
      have HX8 := Lib.hid ((hx.drew).grown hg8 (by intro p hp e; simp at hp; subst hp; have := hge _ e; simp at this; omega))
      have HB8 := Lib.hid (hb.drew.grown hg8 (by show w.heap.size ≤ wr.heap.size; omega) (fun k hk => by have := hge k hk; omega))
      have hS : EsS w.heap.size (.slice (some ⟨b, off, none⟩) m c) b (off + i * 4) (.string (strOf x.1)) (.string (strOf x.2.data)) wr.drew := ⟨⟨hx0, Nat.lt_of_lt_of_le hbb hb.size⟩, n2, v0, v1⟩
      have hSw : EsS w.heap.size (.slice (some ⟨b, off, none⟩) m c) b (off + i * 4) (.string (strOf x.1)) (.string (strOf x.2.data)) wr := hS
      have hS8 := hS.grown hg8 (fun e => by have := hge _ e; omega) (fun e => by have := hge _ e; omega)
      have t0 : ∀ W, EsS w.heap.size (.slice (some ⟨b, off, none⟩) m c) b (off + i * 4) (.string (strOf x.1)) (.string (strOf x.2.data)) W → W.cell? ⟨w.heap.size, 2, none⟩ = some (.slice (some ⟨b, off, none⟩) m c) := fun W h => h.2.1
      have t1 : ∀ W, EsS w.heap.size (.slice (some ⟨b, off, none⟩) m c) b (off + i * 4) (.string (strOf x.1)) (.string (strOf x.2.data)) W → W.cell? ⟨b, off + i * 4, none⟩ = some (.string (strOf x.1)) := fun W h => h.2.2.1
      have t2 : ∀ W, EsS w.heap.size (.slice (some ⟨b, off, none⟩) m c) b (off + i * 4) (.string (strOf x.1)) (.string (strOf x.2.data)) W → W.cell? ⟨b, off + i * 4 + 1, none⟩ = some (.string (strOf x.2.data)) := fun W h => h.2.2.2
      clear hx hown hb hts ho8 hg8 hv8 hge c0 c1 c2 c3 hx1 hy
      go_wp2_with fail
      go_region_held3 (fun W => EsS w.heap.size (.slice (some ⟨b, off, none⟩) m c) b (off + i * 4) (.string (strOf x.1)) (.string (strOf x.2.data)) W) (first | with_reducible assumption | (repeat (with_reducible first | assumption | apply EsS.dr | apply EsS.al))) (refine step_append_run rfl _ _ _ _ rfl rfl rfl hr8 ?_)
      go_wp2_with fail
      go_roundw
      case rel => exact ⟨i + 1, hlt, by go_num, HX8.out, HO8.out, HB8.out⟩
      case measure => simp [intOf]; omega
    · obtain rfl : i = m := by omega
      have HE : Hid (OwnRaw 48 4 w (l.map entC) (.returned u3) wr) := Lib.hid (by
        rw [List.take_of_length_le (by rw [HML.out]; exact Nat.le_refl _)] at hown
        exact ⟨u3, rfl, by rw [List.length_map, HML.out]; exact own_base hown (by omega), hb⟩)
      clear hx hown hb
      go_wp2_with fail
      go_ret
      exact HE.out
theorem entsK_take {n : Nat} {l : List (List UInt8 × Tr)} {i : Nat} {c : List UInt8 × Tr} (h : l[i]? = some c) : entsK n (l.take (i + 1)) = entsK n (l.take i) ++ entsT n c.2 := by
  rw [List.take_add_one, h, entsK_append]
  simp [entsK]
theorem entsK_part (n : Nat) (l : List (List UInt8 × Tr)) (i : Nat) : (entsK n (l.take i)).length ≤ (entsK n l).length := by
  conv => rhs; rw [← List.take_append_drop i l, entsK_append, List.length_append]
  omega
set_option maxRecDepth 100000 in
set_option maxHeartbeats 3000000 in
theorem entries_node {n : Nat} {F : Nat → Prop} (IH : ∀ {w : World} {cs : List Value} {t : Tr}, RNodeOn F n w cs t → Bnd n t → (entsT n t).length ≤ 100000 → Calls Try.prog 27 #[.agg cs.toArray] w (OwnRaw 48 4 w ((entsT n t).map entC)))
    {w : World} {cs : List Value} {p : Int} {l : List (List UInt8 × Tr)} (h : RNodeOn F (n + 1) w cs (.node p l)) (hbd : Bnd (n + 1) (.node p l)) (hen : (entsK n l).length ≤ 100000) :
    Calls Try.prog 27 #[.agg cs.toArray] w (OwnRaw 48 4 w ((entsK n l).map entC)) := by
  obtain ⟨a, c, rfl, h1, _⟩ := h.at
  obtain ⟨e1, e2, e3⟩ := h1.lens
  obtain ⟨m, hml⟩ : ∃ m, cntT (.node p l) = m := ⟨_, rfl⟩
  rw [hml] at h1 e1 e2 ⊢
  have hml : l.length = m := hml
  show Calls _ _ #[.agg #[.int .i64 p, .bool false, .slice a m c]] _ _
  have H1 := Lib.hid h1
  have hB0 : Below w.heap.size w (w.alloc (.cells #[.int .i64 p, .bool false, .slice a m c] 26)) := Below.al (Below.refl _ _)
  have HX0 := Lib.hid ((Boxes.nil w).alloc #[.int .i64 p, .bool false, .slice a m c] 26 (b := w.heap.size) rfl)
  have HB0 := Lib.hid hB0
  have HML := Lib.hid hml
  obtain ⟨ti, tz, i1, i2, i3, i4, i5⟩ := info_Ce
  have hm : m ≤ 1000 := by rw [← hml]; exact hbd.1
  have HBD := Lib.hid hbd.2
  clear h1 hB0 e1 h hml hbd
  go_enter Try.func27, Try.ntmps27
  go_wp2_with fail
  go_loopw [3, 4] (fun s3 s4 wr => ∃ (i : Nat), i ≤ m ∧ s4 = .int .i64 i ∧ Boxes wr [(w.heap.size, [.int .i64 p, .bool false, .slice a m c])] ∧ wr.ownsRow (w.heap.size + 1) 48 4 s3 (entsK n (l.take i)).length (flatC ((entsK n (l.take i)).map entC)) ∧ Below w.heap.size w wr) (fun _ s _ => m - (intOf s).toNat)
  case atStart => exact ⟨0, Nat.zero_le _, rfl, HX0.out, own_nil _ _ _ _, HB0.out⟩
  case round =>
    obtain ⟨i, hi, rfl, hx, hown, hb⟩ := hrel
    clear HX0 HB0
    have hx0 := hx.lt 0 rfl
    have n0 := hx.cell 0 0 rfl rfl
    have n1 := hx.cell 0 1 rfl rfl
    have n2 := hx.cell 0 2 rfl rfl
    by_cases hlt : i < m
    · obtain ⟨b, off, y, pa, pn, pc, ka, kn, kc, rfl, hbb, hy, _, _, _, hk, _, c0, c1, c2, c3⟩ := RNodeOn.cell H1.out hlt
      rw [cellsR_node] at hy
      obtain ⟨x, hx1, hx2⟩ := Option.map_eq_some_iff.1 hy
      subst hx2
      have v3 := (hb.cell (p := ⟨b, off + i * 4 + 3, none⟩) hbb).trans c3
      have hkn : kn = 1 := hk.1.symm
      subst hkn
      obtain ⟨kb, ko, ky, kcs, rfl, hkb, hky, hkl, hkid, hkc⟩ := TabR.at hk (Nat.lt_add_one 0)
      have hky : ky = x.2 := by simpa using hky.symm
      subst hky
      cases n with
      | zero => exact hkid.elim
      | succ n =>
      obtain ⟨xa, xc, ek, _, _⟩ := hkid.at
      subst ek
      have g0 := (hb.cell (p := ⟨kb, ko + 0 * 3, none⟩) hkb).trans (hkc 0 _ rfl)
      have g1 := (hb.cell (p := ⟨kb, ko + 0 * 3 + 1, none⟩) hkb).trans (hkc 1 _ rfl)
      have g2 := (hb.cell (p := ⟨kb, ko + 0 * 3 + 2, none⟩) hkb).trans (hkc 2 _ rfl)
      rw [Nat.zero_mul, Nat.add_zero] at g0 g1 g2
      have hts := entsK_take (n := n + 1) hx1
      have hp1 := entsK_part (n + 1) l (i + 1)
      have hp2 := congrArg List.length hts
      rw [List.length_append] at hp2
      have CE := IH (hkid.below hb) (HBD.out x (List.mem_of_getElem? hx1)).2 (by omega)
      obtain ⟨ct, hct⟩ : ∃ q, cntT x.2 = q := ⟨_, rfl⟩
      obtain ⟨pt, hpt⟩ : ∃ q, x.2.page = q := ⟨_, rfl⟩
      obtain ⟨lt, hlt2⟩ : ∃ q, x.2.isLeaf = q := ⟨_, rfl⟩
      rw [hct, hpt, hlt2] at CE
      rw [hct] at g2
      rw [hpt] at g0
      rw [hlt2] at g1
      have HX := Lib.hid hx
      have HB := Lib.hid hb
      have HO := Lib.hid hown
      have HTS := Lib.hid hts
      have hbb9 := Nat.lt_of_lt_of_le hbb hb.size
      have hkb9 := Nat.lt_of_lt_of_le hkb hb.size
      have hkc1 := hk.2.1
      have hkc2 := hk.lens.2.2
      clear hx hown hb hts c0 c1 c2 c3 hy hkid hkc hct hpt hlt2 hk
      obtain ⟨el, hel⟩ : ∃ q, (entsK (n + 1) (l.take i)).length = q := ⟨_, rfl⟩
      have HEL := Lib.hid hel
      rw [hel] at hp2
      clear hel
      go_wp2_with fail
      refine CE.mono ?_
      rintro e w2 ho2
      obtain ⟨L2, hL2⟩ : ∃ q, (entsT (n + 1) x.2).map entC = q := ⟨_, rfl⟩
      have hl9 : L2.length = (entsT (n + 1) x.2).length := by rw [← hL2]; exact List.length_map _
      rw [hL2] at ho2
      obtain ⟨a2, k2, he2, hl2, hm2, ho2, hb2⟩ := ho2.sl
      have hraw := Raw.of_sl ho2 rfl
      obtain ⟨ll, hll⟩ : ∃ q, L2.length = q := ⟨_, rfl⟩
      rw [hll] at hl9 hl2 hraw he2
      subst he2
      have HLL := Lib.hid hll
      have HL2 := Lib.hid hL2
      have HL9 := Lib.hid hl9
      obtain ⟨v8, w8, hr8, ho8, hg8, hv8⟩ := run_append_tab (α := Cl 4) (P := Try.prog) (w := w2) (w.heap.size + 1) 24 48 ti tz 4 80 Try.underlying24 i1 i2 i3 i4 i5 (by decide) (own_held HO.out hb2) (fun cs y => cs = y.1) (fun y => y.1) (fun _ _ h => h) (fun y => y.2.1) (fun y => y.2.2) hraw (by rw [hl9, HEL.out]; unfold maxLen; omega) (by rw [hl9, HEL.out]; omega) (by have := HB.out.size; have := hb2.size; omega)
      have hge := own_ge HO.out
      have HO8 : Hid (w8.ownsRow (w.heap.size + 1) 48 4 v8 (entsK (n + 1) (l.take (i + 1))).length (flatC ((entsK (n + 1) (l.take (i + 1))).map entC))) := Lib.hid (by
        rw [HTS.out, List.length_append, List.map_append, flatC_append, ← HL9.out, HL2.out]
        exact ho8)
      have HX8 := Lib.hid ((HX.out.step hb2).grown hg8 (by intro p hp e; simp at hp; subst hp; have := hge _ e; simp at this; omega))
      have HB8 := Lib.hid ((HB.out.trans (hb2.mono HB.out.size)).grown hg8 (Nat.le_trans HB.out.size hb2.size) (fun k hk => by have := hge k hk; omega))
      clear ho8 hg8 hv8 hge hraw ho2 hb2 CE hl9 hll hL2
      go_wp2_with (at_builtin; refine wpList_append_run rfl _ _ _ _ rfl rfl rfl hr8 ?_)
      go_roundw
      case rel => exact ⟨i + 1, hlt, by go_num, HX8.out, HO8.out, HB8.out⟩
      case measure => simp [intOf]; omega
    · obtain rfl : i = m := by omega
      have HE : Hid (OwnRaw 48 4 w ((entsK n l).map entC) (.returned u3) wr) := Lib.hid (by
        rw [List.take_of_length_le (by rw [HML.out]; exact Nat.le_refl _)] at hown
        exact ⟨u3, rfl, by rw [List.length_map]; exact own_base hown (by omega), hb⟩)
      clear hx hown hb
      go_wp2_with fail
      go_ret
      exact HE.out
theorem entries_any : ∀ {n : Nat} {F : Nat → Prop} {w : World} {cs : List Value} {t : Tr}, RNodeOn F n w cs t → Bnd n t → (entsT n t).length ≤ 100000 → Calls Try.prog 27 #[.agg cs.toArray] w (OwnRaw 48 4 w ((entsT n t).map entC))
  | 0, _, _, _, _, h, _, _ => h.elim
  | _n + 1, _, _, _, .leaf _p _l, h, hb, _ => entries_leaf h hb.1
  | _n + 1, _, _, _, .node _p _l, h, hb, he => entries_node (fun h hb he => entries_any h hb he) h hb he
end Go.Proofs.Ytemfnjlfcemehaa

/- Entries as a set of pairs: put, struck out, in whichever order: plain laws. -/
namespace Go.Proofs.Ytemfnjlfcemehaa

def Srt (l : List (List UInt8 × Tv)) : Prop := (keysOf l).Pairwise (fun a b => a < b)
theorem srt_cons {c : List UInt8 × Tv} {r : List (List UInt8 × Tv)} : Srt (c :: r) ↔ (∀ d ∈ r, c.1 < d.1) ∧ Srt r := by
  unfold Srt keysOf
  rw [List.map_cons, List.pairwise_cons]
  constructor
  · intro h; exact ⟨fun d hd => h.1 d.1 (List.mem_map_of_mem hd), h.2⟩
  · intro h; exact ⟨fun x hx => by obtain ⟨d, hd, rfl⟩ := List.mem_map.1 hx; exact h.1 d hd, h.2⟩
/-- Rows that rise and have the same entries are the same. -/
theorem srt_ext : ∀ {l m : List (List UInt8 × Tv)}, Srt l → Srt m → (∀ c, c ∈ l ↔ c ∈ m) → l = m
  | [], [], _, _, _ => rfl
  | [], d :: m, _, _, h => absurd ((h d).2 (by simp)) (by simp)
  | c :: l, [], _, _, h => absurd ((h c).1 (by simp)) (by simp)
  | c :: l, d :: m, hl, hm, h => by
    obtain ⟨l1, l2⟩ := srt_cons.1 hl
    obtain ⟨m1, m2⟩ := srt_cons.1 hm
    have hcd : c = d := by
      rcases List.mem_cons.1 ((h c).1 (by simp)) with e | hc
      · exact e
      · rcases List.mem_cons.1 ((h d).2 (by simp)) with e | hd
        · exact e.symm
        · exact absurd (klt_trans (m1 c hc) (l1 d hd)) (klt_irrefl _)
    subst hcd
    rw [srt_ext l2 m2 (fun x => ⟨fun hx => ?_, fun hx => ?_⟩)]
    · rcases List.mem_cons.1 ((h x).1 (by simp [hx])) with e | hx'
      · subst e; exact absurd (l1 _ hx) (klt_irrefl _)
      · exact hx'
    · rcases List.mem_cons.1 ((h x).2 (by simp [hx])) with e | hx'
      · subst e; exact absurd (m1 _ hx) (klt_irrefl _)
      · exact hx'
theorem srt_put {key : List UInt8} {v : Tv} {l : List (List UInt8 × Tv)} (h : Srt l) : Srt (putL key v l) := putL_sorted h
theorem srt_del {key : List UInt8} {l : List (List UInt8 × Tv)} (h : Srt l) : Srt (delL key l) := by
  unfold Srt keysOf at *
  exact List.Pairwise.sublist (List.Sublist.map _ List.filter_sublist) h
theorem mem_put {key : List UInt8} {v : Tv} : ∀ {l : List (List UInt8 × Tv)}, Srt l → ∀ c, c ∈ putL key v l ↔ c = (key, v) ∨ c ∈ l ∧ c.1 ≠ key
  | [], _, c => by simp [putL]
  | d :: r, h, c => by
    obtain ⟨h1, h2⟩ := srt_cons.1 h
    have ih := mem_put (key := key) (v := v) h2 c
    show c ∈ (if d.1 < key then d :: putL key v r else if d.1 = key then (key, v) :: r else (key, v) :: d :: r) ↔ _
    split
    · rename_i hd
      rw [List.mem_cons, ih, List.mem_cons]
      constructor
      · rintro (rfl | rfl | ⟨a, b⟩)
        · exact .inr ⟨.inl rfl, fun e => klt_irrefl key (by rw [e] at hd; exact hd)⟩
        · exact .inl rfl
        · exact .inr ⟨.inr a, b⟩
      · rintro (rfl | ⟨rfl | a, b⟩)
        · exact .inr (.inl rfl)
        · exact .inl rfl
        · exact .inr (.inr ⟨a, b⟩)
    · rename_i hd
      split
      · rename_i he
        rw [List.mem_cons, List.mem_cons]
        constructor
        · rintro (rfl | a)
          · exact .inl rfl
          · refine .inr ⟨.inr a, fun e => ?_⟩
            have := h1 c a
            rw [he, e] at this
            exact klt_irrefl _ this
        · rintro (rfl | ⟨rfl | a, b⟩)
          · exact .inl rfl
          · exact absurd he b
          · exact .inr a
      · rename_i he
        rw [List.mem_cons, List.mem_cons]
        have hlt : key < d.1 := ((ktri d.1 key).resolve_left hd).resolve_left he
        constructor
        · rintro (rfl | rfl | a)
          · exact .inl rfl
          · exact .inr ⟨.inl rfl, he⟩
          · refine .inr ⟨.inr a, fun e => ?_⟩
            have := klt_trans hlt (h1 c a)
            rw [e] at this
            exact klt_irrefl _ this
        · rintro (rfl | ⟨rfl | a, b⟩)
          · exact .inl rfl
          · exact .inr (.inl rfl)
          · exact .inr (.inr a)
theorem mem_del {key : List UInt8} {l : List (List UInt8 × Tv)} (c : List UInt8 × Tv) : c ∈ delL key l ↔ c ∈ l ∧ c.1 ≠ key := by
  unfold delL
  rw [List.mem_filter]; simp
theorem srt_key {l : List (List UInt8 × Tv)} (h : Srt l) {c d : List UInt8 × Tv} (hc : c ∈ l) (hd : d ∈ l) (e : c.1 = d.1) : c = d := by
  induction l with
  | nil => cases hc
  | cons x r ih =>
    obtain ⟨h1, h2⟩ := srt_cons.1 h
    rcases List.mem_cons.1 hc with e1 | hc' <;> rcases List.mem_cons.1 hd with e2 | hd'
    · rw [e1, e2]
    · have := h1 d hd'; rw [← e1, e] at this; exact absurd this (klt_irrefl _)
    · have := h1 c hc'; rw [← e2, e] at this; exact absurd this (klt_irrefl _)
    · exact ih h2 hc' hd'
theorem put_length {key : List UInt8} {v : Tv} {l : List (List UInt8 × Tv)} (h : Srt l) : (putL key v l).length = l.length + (if (lookT l key).isSome then 0 else 1) := by
  rw [putL_pos, look_pos h]
  have hle := posK_le key (keysOf l)
  have hlen : (keysOf l).length = l.length := by simp [keysOf]
  by_cases hk : hasK key (keysOf l) = true
  · have hpos : posK key (keysOf l) < l.length := by
      unfold hasK at hk
      rw [← hlen]
      by_cases hp : posK key (keysOf l) < (keysOf l).length
      · exact hp
      · rw [List.getElem?_eq_none (by omega)] at hk; simp at hk
    rw [if_pos hk, if_pos hk]
    simp [hpos, List.length_take, List.length_drop]; omega
  · rw [if_neg hk, if_neg hk]
    simp [List.length_take, List.length_drop]; omega
theorem del_length {key : List UInt8} : ∀ {l : List (List UInt8 × Tv)}, Srt l → (delL key l).length + (if (lookT l key).isSome then 1 else 0) = l.length
  | [], _ => by simp [delL, lookT]
  | c :: r, h => by
    obtain ⟨h1, h2⟩ := srt_cons.1 h
    have ih := del_length (key := key) h2
    unfold delL lookT at *
    rw [List.filter_cons, List.find?_cons]
    by_cases he : c.1 = key
    · have e1 : (c.1 == key) = true := by simpa using he
      have e2 : (c.1 != key) = false := by simp [he]
      have hn : r.filter (fun c => c.1 != key) = r := by
        rw [List.filter_eq_self]
        intro d hd
        have := h1 d hd
        rw [he] at this
        simp
        intro e; rw [e] at this; exact klt_irrefl _ this
      rw [e1, e2, hn]; simp
    · have e1 : (c.1 == key) = false := by simpa using he
      have e2 : (c.1 != key) = true := by simp [he]
      rw [e1, e2]; simp at ih ⊢; omega
theorem look_mem {l : List (List UInt8 × Tv)} (h : Srt l) {c : List UInt8 × Tv} (hc : c ∈ l) : lookT l c.1 = some c.2.data := by
  unfold lookT
  cases hf : l.find? (fun d => d.1 == c.1) with
  | none =>
    rw [List.find?_eq_none] at hf
    exact absurd (hf c hc) (by simp)
  | some d =>
    have h1 := List.mem_of_find?_eq_some hf
    have h2 : (d.1 == c.1) = true := List.find?_some (p := fun (d : List UInt8 × Tv) => d.1 == c.1) hf
    have := srt_key h h1 hc (by simpa using h2)
    subst this; rfl
theorem look_not {l : List (List UInt8 × Tv)} {key : List UInt8} (h : lookT l key = none) (c : List UInt8 × Tv) (hc : c ∈ l) : c.1 ≠ key := by
  unfold lookT at h
  rw [Option.map_eq_none_iff, List.find?_eq_none] at h
  intro e
  exact h c hc (by simpa using e)
theorem look_del {l : List (List UInt8 × Tv)} (key : List UInt8) : lookT (delL key l) key = none := by
  unfold lookT
  rw [Option.map_eq_none_iff, List.find?_eq_none]
  intro c hc
  have := (mem_del c).1 hc
  simpa using this.2
theorem look_put {l : List (List UInt8 × Tv)} (h : Srt l) (key : List UInt8) (v : Tv) : lookT (putL key v l) key = some v.data :=
  look_mem (c := (key, v)) (srt_put h) ((mem_put h _).2 (.inl rfl))

/-! many put, many struck out -/
def putsL : List (List UInt8 × Tv) → List (List UInt8 × Tv) → List (List UInt8 × Tv)
  | [], l => l
  | p :: r, l => putsL r (putL p.1 p.2 l)
theorem puts_append (p q l : List (List UInt8 × Tv)) : putsL (p ++ q) l = putsL q (putsL p l) := by
  induction p generalizing l with
  | nil => rfl
  | cons c r ih => exact ih _
theorem srt_puts : ∀ {p l : List (List UInt8 × Tv)}, Srt l → Srt (putsL p l)
  | [], _, h => h
  | _c :: r, _, h => srt_puts (p := r) (srt_put h)
/-- Where each key has one value the entries are just those that were put. -/
theorem mem_puts {f : List UInt8 → Tv} : ∀ {p l : List (List UInt8 × Tv)}, Srt l → (∀ c ∈ p, c.2 = f c.1) → (∀ c ∈ l, c.2 = f c.1) → ∀ c, c ∈ putsL p l ↔ c ∈ p ∨ c ∈ l
  | [], l, _, _, _, c => by simp [putsL]
  | d :: r, l, h, hp, hl, c => by
    show c ∈ putsL r (putL d.1 d.2 l) ↔ _
    have hd := hp d (by simp)
    have hm := mem_put (key := d.1) (v := d.2) h
    rw [mem_puts (f := f) (srt_put h) (fun c hc => hp c (by simp [hc])) (fun c hc => by
      rcases (hm c).1 hc with e | ⟨e, _⟩
      · rw [e]; exact hd
      · exact hl c e) c, hm c, List.mem_cons]
    constructor
    · rintro (a | rfl | ⟨a, _⟩)
      · exact .inl (.inr a)
      · exact .inl (.inl rfl)
      · exact .inr a
    · rintro ((rfl | a) | a)
      · exact .inr (.inl rfl)
      · exact .inl a
      · by_cases e : c.1 = d.1
        · refine .inr (.inl ?_)
          have := hl c a
          have : c = (c.1, c.2) := rfl
          rw [this, hl c a, e, ← hd]
        · exact .inr (.inr ⟨a, e⟩)
def delsL : List (List UInt8) → List (List UInt8 × Tv) → List (List UInt8 × Tv)
  | [], l => l
  | k :: r, l => delsL r (delL k l)
theorem srt_dels : ∀ {p : List (List UInt8)} {l : List (List UInt8 × Tv)}, Srt l → Srt (delsL p l)
  | [], _, h => h
  | _c :: r, _, h => srt_dels (p := r) (srt_del h)
theorem mem_dels : ∀ {p : List (List UInt8)} {l : List (List UInt8 × Tv)} (c : List UInt8 × Tv), c ∈ delsL p l ↔ c ∈ l ∧ c.1 ∉ p
  | [], l, c => by simp [delsL]
  | k :: r, l, c => by
    show c ∈ delsL r (delL k l) ↔ _
    rw [mem_dels c, mem_del]
    simp only [List.mem_cons, not_or]
    constructor
    · rintro ⟨⟨a, b⟩, d⟩; exact ⟨a, b, d⟩
    · rintro ⟨a, b, d⟩; exact ⟨⟨a, b⟩, d⟩
theorem puts_length : ∀ {p l : List (List UInt8 × Tv)}, Srt l → (keysOf p).Nodup → (∀ c ∈ p, ∀ d ∈ l, c.1 ≠ d.1) → (putsL p l).length = p.length + l.length
  | [], l, _, _, _ => by simp [putsL]
  | c :: r, l, h, hn, hd => by
    show (putsL r (putL c.1 c.2 l)).length = _
    unfold keysOf at hn
    rw [List.map_cons, List.nodup_cons] at hn
    rw [puts_length (srt_put h) hn.2 (fun x hx y hy e => by
      rcases (mem_put h y).1 hy with rfl | ⟨hy, _⟩
      · exact hn.1 (List.mem_map.2 ⟨x, hx, e⟩)
      · exact hd x (by simp [hx]) y hy e)]
    rw [put_length h]
    have : lookT l c.1 = none := by
      unfold lookT
      rw [Option.map_eq_none_iff, List.find?_eq_none]
      intro d hdl
      have := hd c (by simp) d hdl
      simp
      exact fun e => this e.symm
    rw [this]
    simp; omega
end Go.Proofs.Ytemfnjlfcemehaa

/- The laws of trees: a tree's entries, by the document's node. -/
namespace Go.Proofs.Ytemfnjlfcemehaa
open Go.RowKit

/-- A row of entries. -/
def EntIn (w : World) (a : Option Addr) (m c : Nat) (E : List (List UInt8 × Tv)) : Prop := Raw 4 w a m c (E.map entC)
theorem EntIn.below {w w' : World} {a : Option Addr} {m c : Nat} {E : List (List UInt8 × Tv)} (h : EntIn w a m c E) (hb : Below w.heap.size w w') : EntIn w' a m c E := TabR.below (Nat.le_refl _) hb h
theorem EntIn.at {w : World} {a : Option Addr} {m c : Nat} {E : List (List UInt8 × Tv)} (h : EntIn w a m c E) {k : Nat} (hk : k < m) :
    ∃ b off y, a = some ⟨b, off, none⟩ ∧ b < w.heap.size ∧ E[k]? = some y ∧ w.cell? ⟨b, off + k * 4, none⟩ = some (.string (strOf y.1)) ∧ w.cell? ⟨b, off + k * 4 + 1, none⟩ = some (.string (strOf y.2.data)) := by
  obtain ⟨b, off, y, cs, e1, e2, e3, _, e5, e6⟩ := TabR.at h hk
  rw [List.getElem?_map] at e3
  obtain ⟨x, hx, rfl⟩ := Option.map_eq_some_iff.1 e3
  subst e5
  exact ⟨b, off, x, e1, e2, hx, e6 0 _ rfl, e6 1 _ rfl⟩
theorem EntIn.len {w : World} {a : Option Addr} {m c : Nat} {E : List (List UInt8 × Tv)} (h : EntIn w a m c E) : E.length = m ∧ m ≤ c ∧ c ≤ 9223372036854775807 := by
  have := TabR.lens h
  simpa using this
/-- What 'Entries' answers. -/
def EntsTo (W : World) (E : List (List UInt8 × Tv)) (e : Ending) (w' : World) : Prop :=
  ∃ a m c, e = .returned (.slice a m c) ∧ EntIn w' a m c E ∧ Below W.heap.size W w'
/-- What 'plain' answers: a node whose entries are these. -/
def PlainTo (E : List (List UInt8 × Tv)) (W : World) (e : Ending) (w' : World) : Prop :=
  ∃ p lf a m c, e = .returned (.agg #[.int .i64 p, .bool lf, .slice a m c]) ∧ Below W.heap.size W w' ∧ ∀ W', Below w'.heap.size w' W' → Calls Try.prog 27 #[.agg #[.int .i64 p, .bool lf, .slice a m c]] W' (EntsTo W' E)
theorem plainTo {F : Nat → Prop} {n : Nat} {w : World} {t : Tr} (hb : Bnd n t) (he : (entsT n t).length ≤ 100000) {e : Ending} {w' : World} (h : RNodeTo F n w t e w') : PlainTo (entsT n t) w e w' := by
  obtain ⟨cs, rfl, h1, h2⟩ := h
  cases n with
  | zero => exact h1.elim
  | succ n =>
    obtain ⟨a, c, ecs, _, _⟩ := h1.at
    subst ecs
    refine ⟨_, _, a, _, c, rfl, h2, fun W' hW => ?_⟩
    refine (entries_any (h1.below hW) hb he).mono fun e w'' h => ?_
    obtain ⟨a, c, rfl, _, _, ho, hb⟩ := h.sl
    exact ⟨a, _, c, rfl, Raw.of_sl ho rfl, hb⟩
theorem plain15_ents {F : Nat → Prop} {n : Nat} {w : World} {cs : List Value} {t : Tr} (h : NodeOn F n w cs t) (hw : Whole n t) (he : (entsT n t).length ≤ 100000) : Calls Try.prog 37 #[.agg cs.toArray] w (PlainTo (entsT n t) w) :=
  (plain15_any (fun _b hb => hb.2) h.lt hw.bnd).mono fun _e _w' h => plainTo hw.bnd he h
theorem plain16_ents {F : Nat → Prop} {n : Nat} {w : World} {cs : List Value} {t : Tr} (h : NodeOn F n w cs t) (hw : Whole n t) (he : (entsT n t).length ≤ 100000) : Calls Try.prog 53 #[.agg cs.toArray] w (PlainTo (entsT n t) w) :=
  (plain16_any (fun _b hb => hb.2) h.lt hw.bnd).mono fun _e _w' h => plainTo hw.bnd he h
end Go.Proofs.Ytemfnjlfcemehaa

/- Entries ahead of a put, and behind it, one by one: plain. -/
namespace Go.Proofs.Ytemfnjlfcemehaa

/-- How many of the entries ahead of a put have been seen. -/
def kAt (A : List (List UInt8 × Tv)) (key : List UInt8) (j : Nat) : Nat := if j ≤ posK key (keysOf A) then j else j - 1 + (if hasK key (keysOf A) then 1 else 0)
theorem pos_has {key : List UInt8} {A : List (List UInt8 × Tv)} (h : hasK key (keysOf A) = true) : ∃ x, A[posK key (keysOf A)]? = some x ∧ x.1 = key := by
  unfold hasK at h
  have h : (keysOf A)[posK key (keysOf A)]? = some key := by simpa using h
  rw [keysOf, List.getElem?_map] at h
  exact Option.map_eq_some_iff.1 h
theorem pos_not {key : List UInt8} {A : List (List UInt8 × Tv)} (h : hasK key (keysOf A) = false) {x : List UInt8 × Tv} (hx : A[posK key (keysOf A)]? = some x) : x.1 ≠ key := by
  intro e
  unfold hasK at h
  have h2 : (keysOf A)[posK key (keysOf A)]? = some x.1 := by rw [keysOf, List.getElem?_map] at *; rw [hx]; rfl
  rw [h2, e] at h
  simp at h
theorem put_len (A : List (List UInt8 × Tv)) (key : List UInt8) (v : Tv) : (putL key v A).length + (if hasK key (keysOf A) then 1 else 0) = A.length + 1 ∧ posK key (keysOf A) + (if hasK key (keysOf A) then 1 else 0) ≤ A.length := by
  have hle : posK key (keysOf A) ≤ A.length := by have := posK_le key (keysOf A); simpa [keysOf] using this
  have h1 : posK key (keysOf A) + (if hasK key (keysOf A) then 1 else 0) ≤ A.length := by
    cases h : hasK key (keysOf A) with
    | false => simpa using hle
    | true =>
      obtain ⟨x, hx, _⟩ := pos_has h
      have := (List.getElem?_eq_some_iff.1 hx).1
      simp; omega
  refine ⟨?_, h1⟩
  rw [putL_pos]
  simp
  omega
theorem stays_step {A : List (List UInt8 × Tv)} {key : List UInt8} {v : Tv} {j : Nat} {y : List UInt8 × Tv} (hA : Srt A) (hy : (putL key v A)[j]? = some y) :
    ∃ own same : Bool, decide (y.1 = key) = own ∧ (own = false → ∃ x, A[kAt A key j]? = some x ∧ x.1 = y.1 ∧ x.2.data = y.2.data) ∧ (∀ x, A[kAt A key j]? = some x → decide (x.1 = y.1) = same) ∧ (A.length ≤ kAt A key j → same = false) ∧ kAt A key (j + 1) = (if same then kAt A key j + 1 else kAt A key j) := by
  have hs := srt_put (key := key) (v := v) hA
  obtain ⟨hl, hp⟩ := put_len A key v
  have hjl := (List.getElem?_eq_some_iff.1 hy).1
  rw [putL_pos] at hy
  obtain ⟨p, hpp⟩ : ∃ p, posK key (keysOf A) = p := ⟨_, rfl⟩
  obtain ⟨o, ho⟩ : ∃ o, hasK key (keysOf A) = o := ⟨_, rfl⟩
  have hk : ∀ j, kAt A key j = if j ≤ p then j else j - 1 + (if o then 1 else 0) := fun j => by unfold kAt; rw [hpp, ho]
  have hpl : p ≤ A.length := by omega
  have htl : (A.take p).length = p := by simp; omega
  have hput : putL key v A = A.take p ++ (key, v) :: A.drop (p + (if o then 1 else 0)) := by rw [putL_pos, hpp, ho]
  rw [hpp, ho] at hy
  by_cases hjp : j = p
  · subst hjp
    have hy' : y = (key, v) := by
      rw [List.getElem?_append_right (by omega)] at hy
      simpa [htl] using hy.symm
    subst hy'
    refine ⟨true, o, by simp, (fun h => by cases h), ?_, ?_, ?_⟩
    · intro x hx
      rw [hk, if_pos (Nat.le_refl _)] at hx
      cases o with
      | true =>
        obtain ⟨z, hz1, hz2⟩ := pos_has ho
        rw [hpp, hx] at hz1
        cases hz1
        exact decide_eq_true hz2
      | false => exact decide_eq_false (pos_not ho (by rw [hpp]; exact hx))
    · intro h
      rw [hk, if_pos (Nat.le_refl _)] at h
      cases o with
      | false => rfl
      | true => rw [hpp, ho] at hp; simp at hp; omega
    · rw [hk (j + 1), hk j, if_neg (show ¬ j + 1 ≤ j by omega), if_pos (Nat.le_refl _)]
      cases o <;> simp
  · have hmem : y ∈ putL key v A := by rw [hput]; exact List.mem_of_getElem? hy
    have hx : A[kAt A key j]? = some y := by
      rw [hk]
      by_cases h : j < p
      · rw [if_pos (by omega)]
        rw [List.getElem?_append_left (by omega), List.getElem?_take_of_lt h] at hy
        exact hy
      · rw [if_neg (by omega)]
        rw [List.getElem?_append_right (by omega), htl] at hy
        obtain ⟨q, hq⟩ : ∃ q, j - p = q + 1 := ⟨j - p - 1, by omega⟩
        rw [hq, List.getElem?_cons_succ, List.getElem?_drop] at hy
        rw [← hy]
        congr 1
        omega
    have hne : y.1 ≠ key := by
      intro e
      have hmk : (key, v) ∈ putL key v A := by rw [hput]; simp
      have := srt_key hs hmem hmk (by exact e)
      subst this
      have hnd : (keysOf (putL key v A)).Pairwise (fun a b => a < b) := hs
      have hkj : (keysOf (putL key v A))[j]? = some key := by
        rw [keysOf, List.getElem?_map, hput, hy]; rfl
      have hkp : (keysOf (putL key v A))[p]? = some key := by
        rw [keysOf, List.getElem?_map, hput, List.getElem?_append_right (by omega)]; simp [htl]
      have hjl' := (List.getElem?_eq_some_iff.1 hkj).1
      have hpl' := (List.getElem?_eq_some_iff.1 hkp).1
      rcases Nat.lt_or_ge j p with h | h
      · have := pair_get hnd h hpl'
        rw [hkj, hkp] at this
        exact klt_irrefl _ this
      · have := pair_get hnd (show p < j by omega) hjl'
        rw [hkj, hkp] at this
        exact klt_irrefl _ this
    refine ⟨false, true, decide_eq_false hne, fun _ => ⟨y, hx, rfl, rfl⟩, ?_, ?_, ?_⟩
    · intro x hx'
      rw [hx] at hx'
      cases hx'
      exact decide_eq_true rfl
    · intro h
      have := (List.getElem?_eq_some_iff.1 hx).1
      omega
    · rw [hk (j + 1), hk j]
      simp only [if_true]
      by_cases h : j < p
      · rw [if_pos (show j + 1 ≤ p by omega), if_pos (show j ≤ p by omega)]
      · rw [if_neg (show ¬ j + 1 ≤ p by omega), if_neg (show ¬ j ≤ p by omega)]; omega
theorem stays_zero (A : List (List UInt8 × Tv)) (key : List UInt8) : kAt A key 0 = 0 := by unfold kAt; rw [if_pos (Nat.zero_le _)]
theorem stays_end (A : List (List UInt8 × Tv)) (key : List UInt8) (v : Tv) : kAt A key (putL key v A).length = A.length := by
  obtain ⟨hl, hp⟩ := put_len A key v
  unfold kAt
  cases h : hasK key (keysOf A) <;> rw [h] at hl hp <;> simp at hl hp ⊢
  · rw [if_neg (by omega)]; omega
  · rw [if_neg (by omega)]; omega
theorem stays_rise {A : List (List UInt8 × Tv)} (h : Srt A) {j : Nat} {x y : List UInt8 × Tv} (hx : A[j]? = some x) (hy : A[j + 1]? = some y) : x.1 < y.1 := by
  have hl := (List.getElem?_eq_some_iff.1 hy).1
  have := pair_get (l := keysOf A) h (i := j) (j := j + 1) (by omega) (by simpa [keysOf] using hl)
  simpa [keysOf, hx, hy] using this
end Go.Proofs.Ytemfnjlfcemehaa

/- A tree in its box, put into a new box: what the laws' rounds share. -/
namespace Go.Proofs.Ytemfnjlfcemehaa
open Go.RowKit

/-- A tree whose node lies in a box. -/
def TrBox (B b : Nat) (wr : World) (N : Nat) (t : Tr) : Prop :=
  ∃ p lf a1 n1 c1 a2 n2 c2 a3 n3 c3, Boxes wr [(b, [.int .i64 p, .bool lf, .slice a1 n1 c1, .slice a2 n2 c2, .slice a3 n3 c3])] ∧ NodeOn (fun x => B ≤ x) N wr [.int .i64 p, .bool lf, .slice a1 n1 c1, .slice a2 n2 c2, .slice a3 n3 c3] t ∧ Whole N t
theorem TrBox.below {B b : Nat} {w w' : World} {N : Nat} {t : Tr} (h : TrBox B b w N t) (hb : Below w.heap.size w w') : TrBox B b w' N t := by
  obtain ⟨p, lf, a1, n1, c1, a2, n2, c2, a3, n3, c3, h1, h2, h3⟩ := h
  exact ⟨p, lf, a1, n1, c1, a2, n2, c2, a3, n3, c3, h1.step hb, h2.below hb, h3⟩
theorem TrBox.new {B : Nat} {w : World} {N : Nat} {t : Tr} {p : Int} {lf : Bool} {a1 : Option Addr} {n1 c1 : Nat} {a2 : Option Addr} {n2 c2 : Nat} {a3 : Option Addr} {n3 c3 : Nat} {G : Nat → Prop} (h : NodeOn G N w [.int .i64 p, .bool lf, .slice a1 n1 c1, .slice a2 n2 c2, .slice a3 n3 c3] t) (hG : ∀ b, G b → B ≤ b) (hw : Whole N t) (ty : TypeId) :
    TrBox B w.heap.size (w.alloc (.cells #[.int .i64 p, .bool lf, .slice a1 n1 c1, .slice a2 n2 c2, .slice a3 n3 c3] ty)) N t :=
  ⟨p, lf, a1, n1, c1, a2, n2, c2, a3, n3, c3, (Boxes.nil w).alloc #[.int .i64 p, .bool lf, .slice a1 n1 c1, .slice a2 n2 c2, .slice a3 n3 c3] ty rfl, (h.below (Below.al (Below.refl _ _))).mono hG, hw⟩
theorem TrBox.set5 {B b : Nat} {w : World} {N : Nat} {t : Tr} {G : Nat → Prop} {x0 x1 x2 x3 x4 : Value} {p : Int} {lf : Bool} {a1 : Option Addr} {n1 c1 : Nat} {a2 : Option Addr} {n2 c2 : Nat} {a3 : Option Addr} {n3 c3 : Nat} (hx : Boxes w [(b, [x0, x1, x2, x3, x4])]) (h : NodeOn G N w [.int .i64 p, .bool lf, .slice a1 n1 c1, .slice a2 n2 c2, .slice a3 n3 c3] t) (hG : ∀ b, G b → B ≤ b) (hb : ¬ G b) (hw : Whole N t) :
    TrBox B b (set5 w b (.int .i64 p) (.bool lf) (.slice a1 n1 c1) (.slice a2 n2 c2) (.slice a3 n3 c3)) N t :=
  ⟨p, lf, a1, n1, c1, a2, n2, c2, a3, n3, c3, set5_box hx (by simp) _ _ _ _ _, (h.agree (agree_set5 hb _ _ _ _ _)).mono hG, hw⟩
/-- The empty tree stands on no block. -/
theorem empty_on {F G : Nat → Prop} {w : World} {cs : List Value} (h : NodeOn G 1 w cs (.leaf 0 [])) : ∃ a1 c1 a2 c2 a3 c3, cs = [.int .i64 0, .bool true, .slice a1 0 c1, .slice a2 0 c2, .slice a3 0 c3] ∧ NodeOn F 1 w cs (.leaf 0 []) := by
  obtain ⟨ka, kn, kc, va, vn, vc, ca, cc, e, h1, _, h2, _, h3⟩ := h
  obtain rfl : kn = 0 := h1.1.symm
  obtain rfl : vn = 0 := h2.1.symm
  exact ⟨ka, kc, va, vc, ca, cc, e, ka, 0, kc, va, 0, vc, ca, cc, e, h1, Fa.zero _ _, unit_any (α := Tv) h2, Fa.zero _ _, h3⟩
/-- What a drawn 'm := tree.Put(..)' leaves. -/
def PutMid (B : Nat) (w2 : World) (N : Nat) (T : Tr) (EP : List (List UInt8 × Tv)) (s8 : Value) (wx : World) : Prop :=
  ∃ b8 M, s8 = .pointer (some ⟨b8, 0, none⟩) ∧ TrBox B b8 wx M T ∧ Below w2.heap.size w2 wx ∧ w2.heap.size ≤ b8 ∧ M ≤ N + 1 ∧ entsT M T = EP
/-- The same, before its words are told. -/
theorem PutMid.a {B : Nat} {w2 w9 : World} {N M : Nat} {T : Tr} {G : Nat → Prop} {p : Int} {lf : Bool} {a1 : Option Addr} {n1 c1 : Nat} {a2 : Option Addr} {n2 c2 : Nat} {a3 : Option Addr} {n3 c3 : Nat} (ty : TypeId) (hB : Below w2.heap.size w2 w9) (h : NodeOn G M w9 [.int .i64 p, .bool lf, .slice a1 n1 c1, .slice a2 n2 c2, .slice a3 n3 c3] T) (hG : ∀ b, G b → B ≤ b) (hw : Whole M T) (hM : M ≤ N + 1) {EP : List (List UInt8 × Tv)} (hE : entsT M T = EP) :
    PutMid B w2 N T EP (.pointer (some ⟨w9.heap.size, 0, none⟩)) (w9.alloc (.cells #[.int .i64 p, .bool lf, .slice a1 n1 c1, .slice a2 n2 c2, .slice a3 n3 c3] ty)) :=
  ⟨_, M, rfl, TrBox.new h hG hw ty, Below.al hB, hB.size, hM, hE⟩
theorem PutMid.b {B b : Nat} {w2 w9 : World} {N M : Nat} {T : Tr} {G : Nat → Prop} {p : Int} {lf : Bool} {a1 : Option Addr} {n1 c1 : Nat} {a2 : Option Addr} {n2 c2 : Nat} {a3 : Option Addr} {n3 c3 : Nat} (hB : Below w2.heap.size w2 w9) (hz : BoxAt w9 b #[.int .i64 0, .bool false, .slice none 0 0, .slice none 0 0, .slice none 0 0]) (hb2 : w2.heap.size ≤ b) (h : NodeOn G M w9 [.int .i64 p, .bool lf, .slice a1 n1 c1, .slice a2 n2 c2, .slice a3 n3 c3] T) (hG : ∀ b, G b → B ≤ b) (hb : ¬ G b) (hw : Whole M T) (hM : M ≤ N + 1) {EP : List (List UInt8 × Tv)} (hE : entsT M T = EP) :
    PutMid B w2 N T EP (.pointer (some ⟨b, 0, none⟩)) (set5 w9 b (.int .i64 p) (.bool lf) (.slice a1 n1 c1) (.slice a2 n2 c2) (.slice a3 n3 c3)) :=
  ⟨_, M, rfl, TrBox.set5 hz.boxes h hG hb hw, set5_below hB hb2 _ _ _ _ _, hb2, hM, hE⟩
theorem fr_le {F : Nat → Prop} {W w5 : World} {B b : Nat} (hF : ∀ b, F b → B ≤ b) (hB : B ≤ w5.heap.size) (hW : w5.heap.size ≤ W.heap.size) (h : Fr F W b) : B ≤ b := by
  rcases h with h | h
  · exact hF b h
  · omega
theorem fr_not {F : Nat → Prop} {W : World} {b : Nat} (hF : ¬ F b) (hW : b < W.heap.size) : ¬ Fr F W b := fun h => by
  rcases h with h | h
  · exact hF h
  · omega
theorem lt_alloc (w : World) (o : Obj) : w.heap.size < (w.alloc o).heap.size := by rw [World.size_alloc]; omega
theorem le_alloc {B : Nat} {w : World} (h : B ≤ w.heap.size) (o : Obj) : B ≤ (w.alloc o).heap.size := by rw [World.size_alloc]; omega
theorem okP_facts {l : List Pt} (h : smallP l = true) : l.length ≤ 80 ∧ ∀ y ∈ l, keyOk y.key ∧ ∃ n : Nat, y.size = n ∧ n ≤ 400 := by
  unfold smallP at h
  rw [Bool.and_eq_true] at h
  refine ⟨by simpa using h.2, fun y hy => ?_⟩
  have := List.all_eq_true.1 h.1 y hy
  unfold okP at this
  simp at this
  exact ⟨⟨this.1, this.2.1⟩, y.size.toNat, by omega, by omega⟩
theorem okS_facts {l : List St} (h : smallS l = true) : l.length ≤ 120 ∧ ∀ y ∈ l, keyOk y.key ∧ y.size ≤ 400 := by
  unfold smallS at h
  rw [Bool.and_eq_true] at h
  refine ⟨by simpa using h.2, fun y hy => ?_⟩
  have := List.all_eq_true.1 h.1 y hy
  unfold okS at this
  simp at this
  exact ⟨⟨this.1, this.2.1⟩, this.2.2⟩
theorem fillT_len (f : UInt8) (n : Nat) : (fillT f n).length = n := by simp [fillT]
theorem put_some {N M : Nat} {t T : Tr} {key : List UInt8} {v : Tv} (h : entsT M T = putL key v (entsT N t)) {k : Nat} (hk : (entsT N t).length ≤ k) (hs : Srt (entsT N t)) : (entsT M T).length ≤ k + 1 := by
  rw [h, put_length hs]; split <;> omega
/-- Whole trees' entries stand in order. -/
theorem Whole.srt {n : Nat} {t : Tr} (h : Whole n t) : Srt (entsT n t) := (whole_ents h).1
end Go.Proofs.Ytemfnjlfcemehaa

/- What came in, opened: puts, steps. -/
namespace Go.Proofs.Ytemfnjlfcemehaa
open Go.RowKit Go.Deep Go.WideShapes Go.ChangeShapes

section
variable {H : Type} {enc : TypeId × Value → H} {P : Program} {w : World} {base : Nat}
theorem rd_pt {t : TypeId} {f0 f1 f2 : Field} (ht : P.underlying t = some (.struct #[f0, f1, f2])) (o0 : f0.offset = 0) (o1 : f1.offset = 1) (o2 : f2.offset = 2)
    (c0 : P.cellsOf f0.type = 1) (c1 : P.cellsOf f1.type = 1) (c2 : P.cellsOf f2.type = 1) (u0 : P.underlying f0.type = some .string) (u1 : P.underlying f1.type = some (.int .u8)) (u2 : P.underlying f2.type = some (.int .i64)) :
    ∀ n cs x, cs.length = 3 → DataW.trod enc P w 0 (fun _ => true) true n t cs = some x → ∃ y : Pt, IsPt cs y := by
  intro n cs x hlen h
  obtain ⟨xs, k, _, _, _, hxl, hf⟩ := DataW.trod_struct ht h
  match xs, hxl, cs, hlen with
  | [y0, y1, y2], _, [v0, v1, v2], _ =>
    have g0 := hf 0 f0 rfl
    have g1 := hf 1 f1 rfl
    have g2 := hf 2 f2 rfl
    simp [o0, o1, o2, c0, c1, c2] at g0 g1 g2
    obtain ⟨s, e0, _, _⟩ := DataW.trod_string u0 g0
    obtain ⟨n1, e1, _, w1⟩ := DataW.trod_int u1 g1
    obtain ⟨n2, e2, _, _⟩ := DataW.trod_int u2 g2
    simp at e0 e1 e2
    simp [Lit.wf, IntKind.min, IntKind.max, IntKind.signed, IntKind.bits] at w1
    refine ⟨⟨s.data.toList, UInt8.ofNat n1.toNat, n2⟩, ?_⟩
    have : ((UInt8.ofNat n1.toNat).toNat : Int) = n1 := by
      simp [UInt8.toNat_ofNat']; omega
    show _ = ptC _
    rw [e0, e1, e2]
    simp only [ptC, this]
    rfl
theorem rd_st {t : TypeId} {f0 f1 : Field} (ht : P.underlying t = some (.struct #[f0, f1])) (o0 : f0.offset = 0) (o1 : f1.offset = 1)
    (c0 : P.cellsOf f0.type = 1) (c1 : P.cellsOf f1.type = 1) (u0 : P.underlying f0.type = some .string) (u1 : P.underlying f1.type = some (.int .i64)) :
    ∀ n cs x, cs.length = 2 → DataW.trod enc P w 0 (fun _ => true) true n t cs = some x → ∃ y : St, IsSt cs y := by
  intro n cs x hlen h
  obtain ⟨xs, k, _, _, _, hxl, hf⟩ := DataW.trod_struct ht h
  match xs, hxl, cs, hlen with
  | [y0, y1], _, [v0, v1], _ =>
    have g0 := hf 0 f0 rfl
    have g1 := hf 1 f1 rfl
    simp [o0, o1, c0, c1] at g0 g1
    obtain ⟨s, e0, _, _⟩ := DataW.trod_string u0 g0
    obtain ⟨n1, e1, _, _⟩ := DataW.trod_int u1 g1
    simp at e0 e1
    refine ⟨⟨s.data.toList, n1⟩, ?_⟩
    show _ = stC _
    rw [e0, e1]
    rfl
end
set_option maxRecDepth 100000 in
theorem open_pts {H : Type} {enc : TypeId × Value → H} {w : World} {base : Nat} {v : Value} {d : DataW H} {p : List MemPlace} (hv : Value.okWide Try.prog w .any base 58 v) (h : DataW.Trod enc Try.prog w 0 (fun _ => true) true 58 v d p) :
    ∃ a len cap l, v = .slice a len cap ∧ Pts w a len cap l :=
  open_tab Try.underlying58 (show Try.prog.cellsOf 64 = 3 by kernel_rfl) (by decide) IsPt (rd_pt Try.underlying64 rfl rfl rfl (by kernel_rfl) (by kernel_rfl) (by kernel_rfl) Try.underlying9 Try.underlying5 Try.underlying3) hv h
set_option maxRecDepth 100000 in
theorem open_sts16 {H : Type} {enc : TypeId × Value → H} {w : World} {base : Nat} {v : Value} {d : DataW H} {p : List MemPlace} (hv : Value.okWide Try.prog w .any base 86 v) (h : DataW.Trod enc Try.prog w 0 (fun _ => true) true 86 v d p) :
    ∃ a len cap l, v = .slice a len cap ∧ Sts w a len cap l :=
  open_tab Try.underlying86 (show Try.prog.cellsOf 89 = 2 by kernel_rfl) (by decide) IsSt (rd_st Try.underlying89 rfl rfl (by kernel_rfl) (by kernel_rfl) Try.underlying9 Try.underlying3) hv h
set_option maxRecDepth 100000 in
theorem open_sts17 {H : Type} {enc : TypeId × Value → H} {w : World} {base : Nat} {v : Value} {d : DataW H} {p : List MemPlace} (hv : Value.okWide Try.prog w .any base 22 v) (h : DataW.Trod enc Try.prog w 0 (fun _ => true) true 22 v d p) :
    ∃ a len cap l, v = .slice a len cap ∧ Sts w a len cap l :=
  open_tab Try.underlying22 (show Try.prog.cellsOf 99 = 2 by kernel_rfl) (by decide) IsSt (rd_st Try.underlying99 rfl rfl (by kernel_rfl) (by kernel_rfl) Try.underlying9 Try.underlying3) hv h
end Go.Proofs.Ytemfnjlfcemehaa

/- Rows of the document's cells: a row appended; 'with'. -/
namespace Go.Proofs.Ytemfnjlfcemehaa
open Go.RowKit

/-- A row of cells appended to one of the call's own. -/
theorem CellsOwn.row {P : Program} {E t : TypeId} (ht : P.underlying t = some (.slice E)) (hi : RowInfo P E 4 80) {F : Nat → Prop} {n B : Nat} {w : World} {v : Value} {l : List Rc} (h : CellsOwn E F n B w v l) (hB : B ≤ w.heap.size) (hl : l.length ≤ 100000) {a : Option Addr} {m c : Nat} {l2 : List Rc} (hr : TabR 4 (RcOn (Gp F B v) n w) w a m c l2) (hm : m ≤ 100000) :
    ∃ v' w', (Builtin.append_ #[t, t] t #[v, .slice a m c]).run P w = .ok v' w' ∧ CellsOwn E F n B w' v' (l ++ l2) ∧ w.grownBy w' v.ownBlock := by
  obtain ⟨L, h1, h2⟩ := h
  obtain ⟨L2, r1, r2⟩ := TabR.raw hr (fun _ _ h => h.one)
  obtain ⟨i, z, i1, i2, i3, i4, i5⟩ := hi
  have hlm : l2.length = m := by rw [← r2.1]; exact r1.1
  obtain ⟨v', w', hr, ho, hg, hv⟩ := run_append_raw (P := P) B t E i z 4 80 ht i1 i2 i3 i4 i5 (by decide) h1 r1 (by unfold maxLen; omega) (by omega) hB
  refine ⟨v', w', hr, ⟨L ++ L2, ?_, ?_⟩, hg⟩
  · rw [List.length_append, hlm]; exact ho
  · have hag : AgreeF (fun b => v.ownBlock ≠ some b) w w' := ⟨hg.size, fun b hb hlt => hg.block b hlt (fun e => hb e.symm)⟩
    have step : ∀ {cs : List Value} {y : Rc}, RcOn (Gp F B v) n w cs y → RcOn (Gp F B v') n w' cs y := fun h =>
      (h.lt.agree (hag.sub (fun b hb => hb.1.2))).mono (fun b hb => ⟨hb.1.1, fun e => by
        rcases hv with hv | hv
        · rw [hv] at e; exact hb.1.2 e
        · rw [hv] at e; have := Option.some.inj e; have := hb.2; omega⟩)
    exact (h2.mono (fun _ _ _ h => step h)).append (r2.mono (fun _ _ _ h => step h))
/-- Cells on blocks that were there ahead may be put into the row. -/
theorem RcOn.gp {E : TypeId} {F : Nat → Prop} {n B : Nat} {w : World} {v : Value} {l : List Rc} (h : CellsOwn E F n B w v l) (hF : ∀ b, F b → b < B) {cs : List Value} {y : Rc} {W : World} (hy : RcOn F n W cs y) : RcOn (Gp F B v) n W cs y :=
  hy.mono (fun b hb => ⟨.inl hb, fun e => by have := (h.block e).1; have := hF b hb; omega⟩)
/-- What answers a row of cells. -/
def CellsTo (F : Nat → Prop) (n : Nat) (w : World) (l : List Rc) (e : Ending) (w' : World) : Prop := ∃ v, e = .returned v ∧ CellsOwn 48 F n w.heap.size w' v l ∧ Below w.heap.size w w'
theorem info_Cw : RowInfo Try.prog 48 4 80 := row_info (by kernel_rfl)
theorem elem_Cw : Try.prog.underlying 24 = some (.slice (Try.prog.elem 24)) := by kernel_rfl
theorem size_Cw (w : World) : (sizeOf (Try.prog.elem 24)).run Try.prog w = .ok 4 w := by kernel_rfl
set_option maxRecDepth 100000 in
set_option maxHeartbeats 1000000 in
theorem with_any {F : Nat → Prop} {n : Nat} {w : World} {a : Option Addr} {m c : Nat} {l : List Rc} {a2 : Option Addr} {m2 c2 : Nat} {l2 : List Rc} (hF : ∀ b, F b → b < w.heap.size) (h : TabR 4 (RcOn F n w) w a m c l) (g : TabR 4 (RcOn F n w) w a2 m2 c2 l2) {k : Nat} (hk : k < m) (hm : m ≤ 2000) (hm2 : m2 ≤ 2000) :
    Calls Try.prog 75 #[.slice a m c, .int .i64 (k : Int), .slice a2 m2 c2] w (CellsTo F n w (l.take k ++ l2 ++ l.drop (k + 1))) := by
  obtain ⟨e1, e2, e3⟩ := h.lens
  obtain ⟨g1, g2, g3⟩ := g.lens
  have c0 : CellsOwn 48 F n w.heap.size w (.slice none 0 0) [] := CellsOwn.nil _ _ _ _ _
  obtain ⟨v1, w1, hr1, c1, hg1⟩ := c0.row Try.underlying24 info_Cw (Nat.le_refl _) (by simp) (TabR.mono (TabR.tk h (show k ≤ m by omega)) (fun _ _ h => RcOn.gp c0 hF h)) (by omega)
  have hb1 : Below w.heap.size w w1 := (Below.refl _ _).grown hg1 (Nat.le_refl _) (fun g hg => by cases hg)
  have r2 : TabR 4 (RcOn (Gp F w.heap.size v1) n w1) w1 a2 m2 c2 l2 := TabR.mono (TabR.below (Nat.le_refl _) hb1 g) (fun cs y hy => RcOn.gp c1 hF (RcOn.below hy hb1))
  have l1 : ([] ++ l.take k).length ≤ 100000 := by simp; omega
  obtain ⟨v2, w2, hr2, c2', hg2⟩ := c1.row Try.underlying24 info_Cw hb1.size l1 r2 (by omega)
  have hb2 : Below w.heap.size w w2 := hb1.grown hg2 hb1.size (fun g hg => (c1.block hg).1)
  obtain ⟨a3, ha3, hsl⟩ := slice_from elem_Cw size_Cw a m c (k + 1) (by omega)
  have hrow : TabR 4 (RcOn F n w) w a3 (m - (k + 1)) (c - (k + 1)) (l.drop (k + 1)) := by rw [ha3]; exact TabR.dp h (show k + 1 ≤ m by omega)
  have r3 : TabR 4 (RcOn (Gp F w.heap.size v2) n w2) w2 a3 (m - (k + 1)) (c - (k + 1)) (l.drop (k + 1)) := TabR.mono (TabR.below (Nat.le_refl _) hb2 hrow) (fun cs y hy => RcOn.gp c2' hF (RcOn.below hy hb2))
  have l3 : ([] ++ l.take k ++ l2).length ≤ 100000 := by simp; omega
  obtain ⟨v3, w3, hr3, c3, hg3⟩ := c2'.row Try.underlying24 info_Cw hb2.size l3 r3 (by omega)
  have hb3 : Below w.heap.size w w3 := hb2.grown hg3 hb2.size (fun g hg => (c2'.block hg).1)
  have HE : Hid (CellsTo F n w (l.take k ++ l2 ++ l.drop (k + 1)) (.returned v3) w3) := Lib.hid ⟨v3, rfl, by simpa using c3, hb3⟩
  have hkc : k ≤ c := by omega
  rw [show ((k + 1 : Nat) : Int) = (k : Int) + 1 by omega] at hsl
  clear c0 c1 c2' c3 r2 r3 l1 l3 hb1 hb2 hb3 hg1 hg2 hg3 ha3 hrow h g hF e1 g1
  go_enter Try.func75, Try.ntmps75
  go_upto_region 3 with (at_builtin; refine wpList_append_run rfl _ _ _ _ rfl rfl rfl hr1 ?_)
  go_upto_region 4 with (at_builtin; refine wpList_append_run rfl _ _ _ _ rfl rfl rfl hr2 ?_)
  go_wp2_with (at_builtin; refine wpList_append_run rfl _ _ _ _ rfl rfl rfl hr3 ?_)
  go_ret
  exact HE.out
end Go.Proofs.Ytemfnjlfcemehaa
