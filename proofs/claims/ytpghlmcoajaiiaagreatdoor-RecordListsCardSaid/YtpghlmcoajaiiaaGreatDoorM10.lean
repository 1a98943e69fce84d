/- Texts that other texts of this claim lean on, one behind the other. -/
import Derived.Test.YtpghlmcoajaiiaaGreatDoorM9
import Derived.Test.YtpghlmcoajaiiaaGreatDoorM8
import Derived.Test.YtpghlmcoajaiiaaGreatDoorM4
import Derived.Test.YtpghlmcoajaiiaaGreatDoorM5
/- The document's Mend (printed by gen_treRm.py). -/
namespace Go.Proofs.YtpghlmcoajaiiaaGreatDoor
open Go.RowKit

theorem PartedTo.split {F : Nat → Prop} {n : Nat} {w w' : World} {p : Int} {l : List (List UInt8 × Tr)} {k : Nat} {e : Ending} (h : PartedTo F (n + 1) w p l k e w') :
    ∃ a1 c1, e = .returned (.tuple #[.agg #[.int .i64 (splitR p l k).page, .bool (splitR p l k).isLeaf, .slice a1 (cntT (splitR p l k)) c1], .bool (splitT l k).isSome]) ∧ RNodeOn (Fr F w) (n + 1) w' [.int .i64 (splitR p l k).page, .bool (splitR p l k).isLeaf, .slice a1 (cntT (splitR p l k)) c1] (splitR p l k) ∧ Below w.heap.size w w' := by
  obtain ⟨cs, rfl, h1, h2⟩ := h
  have e : (match splitT l k with | none => Tr.node p l | some m => Tr.node 0 m) = splitR p l k := by
    unfold splitR
    cases splitT l k <;> rfl
  have h1 : RNodeOn (Fr F w) (n + 1) w' cs (splitR p l k) := e ▸ h1
  obtain ⟨a, c, rfl, _⟩ := h1.at
  exact ⟨a, c, rfl, h1, h2⟩
set_option maxRecDepth 100000 in
set_option maxHeartbeats 3000000 in
theorem rmend_any {F : Nat → Prop} {n : Nat} {w : World} {cs : List Value} {p : Int} {l : List (List UInt8 × Tr)} (hF : ∀ b, F b → b < w.heap.size) (h : RNodeOn F (n + 2) w cs (.node p l)) (ho : MendOk n l) {k : Nat} (hk : k < l.length) :
    Calls Tryz.prog 127 #[.agg cs.toArray, .int .i64 (k : Int)] w (RNodeTo F (n + 2) w (mendT p l k)) := by
  have H := Lib.hid h
  obtain ⟨a, c, rfl, h1, hfa⟩ := h.at
  obtain ⟨e1, e2, e3⟩ := h1.lens
  obtain ⟨m, hml⟩ : ∃ m, cntT (.node p l) = m := ⟨_, rfl⟩
  have hlm : l.length = m := hml
  rw [hml] at h1 hfa e1 e2 ⊢
  obtain ⟨b, off, bk, ok, kcs, pa, pn, pc, kc, rfl, hbb, hbk, hon, d0, d1, d2, d3, hck, hkc1, hkc2⟩ := RNodeOn.kid h1 (show k < m by omega)
  have hm9 : m ≤ 1000 := by rw [← hlm]; exact ho.len
  obtain ⟨kid, hkd⟩ : ∃ x, kidAt l k = x := ⟨_, rfl⟩
  obtain ⟨kidm, hkm, hkx⟩ := kid_mem (l := l) (k := k) (by omega)
  have hkb : Bnd (n + 1) kid := by rw [← hkd, ← hkx]; exact ho.bnd _ hkm
  rw [hkd] at hon
  obtain ⟨ak, ck, rfl, hkr, hfr⟩ := hon.at
  have hsm : Small (sizesT kid) := hkb.small
  obtain ⟨km, hkm⟩ : ∃ x, cntT kid = x := ⟨_, rfl⟩
  obtain ⟨kp, hkp⟩ : ∃ x, kid.page = x := ⟨_, rfl⟩
  obtain ⟨kl, hkl⟩ : ∃ x, kid.isLeaf = x := ⟨_, rfl⟩
  rw [hkm, hkp, hkl] at hon hck
  show Calls _ _ #[.agg #[.int .i64 p, .bool false, .slice (some ⟨b, off, none⟩) m c], .int .i64 (k : Int)] _ _
  obtain ⟨W2, hW2⟩ : ∃ x, (w.alloc (.cells #[.int .i64 p, .bool false, .slice (some ⟨b, off, none⟩) m c] 27)).alloc (.cells #[.int .i64 0, .bool false, .slice none 0 0] 27) = x := ⟨_, rfl⟩
  have hb2 : Below w.heap.size w W2 := by rw [← hW2]; exact Below.al (Below.al (Below.refl _ _))
  have hx2 : Boxes W2 [(w.heap.size + 1, [.int .i64 0, .bool false, .slice none 0 0]), (w.heap.size, [.int .i64 p, .bool false, .slice (some ⟨b, off, none⟩) m c])] := by
    rw [← hW2]
    exact ((Boxes.nil w).alloc #[.int .i64 p, .bool false, .slice (some ⟨b, off, none⟩) m c] 27 (b := w.heap.size) rfl).alloc #[.int .i64 0, .bool false, .slice none 0 0] 27 (b := w.heap.size + 1) (by simp)
  have hsz2 : W2.heap.size = w.heap.size + 2 := by rw [← hW2]; simp
  have g0 := hx2.cell 1 0 rfl rfl
  have g1 := hx2.cell 1 1 rfl rfl
  have g2 := hx2.cell 1 2 rfl rfl
  have hF2 : ∀ b, F b → b < W2.heap.size := fun b hb => by have := hF b hb; omega
  have CP := parted_any hF2 (H.out.below hb2) ho.len (by rw [hkd]; exact hkb) hk
  rw [hml] at CP
  have HX2 := Lib.hid hx2
  have HB2 := Lib.hid hb2
  have HR := Lib.hid h1
  have HO := Lib.hid ho
  have HON := Lib.hid hon
  have HSM := Lib.hid hsm
  have HKB := Lib.hid hkb
  have HKD := Lib.hid hkd
  have HKL := Lib.hid hkl
  have HLM := Lib.hid hlm
  have HD0 := Lib.hid d0
  have HD3 := Lib.hid d3
  have HCK := Lib.hid hck
  have hks : k < m := by omega
  clear hx2 hb2 h1 ho hon hsm hkb hkd hkl hlm d0 d1 d2 d3 hck h hkr hfr hml hkp hkm hkx e1 hfa hk
  go_enter Tryz.func127, Tryz.ntmps127
  go_wp2_with fail
  refine CP.mono ?_
  rintro e w1 hpt
  obtain ⟨a1, c1, rfl, hn1, hb1⟩ := hpt.split
  clear CP g0 g1 g2 hW2 hpt
  obtain ⟨T1, hT1⟩ : ∃ T, splitR p l k = T := ⟨_, rfl⟩
  rw [hT1] at hn1 ⊢
  have HT1 := Lib.hid hT1
  obtain ⟨B1, hB1⟩ : ∃ B, (splitT l k).isSome = B := ⟨_, rfl⟩
  rw [hB1]
  have HB1 := Lib.hid hB1
  obtain ⟨p1, hp1⟩ : ∃ x, T1.page = x := ⟨_, rfl⟩
  obtain ⟨l1, hl1⟩ : ∃ x, T1.isLeaf = x := ⟨_, rfl⟩
  obtain ⟨m1, hm1⟩ : ∃ x, cntT T1 = x := ⟨_, rfl⟩
  rw [hp1, hl1, hm1] at hn1 ⊢
  obtain ⟨W3, hW3⟩ : ∃ x, w1.alloc (.cells #[.int .i64 p1, .bool l1, .slice a1 m1 c1] 27) = x := ⟨_, rfl⟩
  have hb13 : Below w1.heap.size w1 W3 := by rw [← hW3]; exact Below.al (Below.refl _ _)
  have hb3 : Below w.heap.size w W3 := below_via HB2.out (below_via hb1 hb13)
  have hx3 : Boxes W3 [(w1.heap.size, [.int .i64 p1, .bool l1, .slice a1 m1 c1]), (w.heap.size + 1, [.int .i64 0, .bool false, .slice none 0 0]), (w.heap.size, [.int .i64 p, .bool false, .slice (some ⟨b, off, none⟩) m c])] := by
    rw [← hW3]
    exact (HX2.out.step hb1).alloc #[.int .i64 p1, .bool l1, .slice a1 m1 c1] 27 (b := w1.heap.size) rfl
  have hs1 : w.heap.size + 2 ≤ w1.heap.size := by have := hb1.size; omega
  have hn3 := hn1.below hb13
  have hFW : ∀ b, Fr F W2 b → Fr F w b := fun b hb => by
    rcases hb with hb | hb
    · exact .inl hb
    · exact .inr (by omega)
  have q0 := hx3.cell 1 0 rfl rfl
  have q1 := hx3.cell 1 1 rfl rfl
  have q2 := hx3.cell 1 2 rfl rfl
  have q0' := hx3.frozen 1 0 rfl
  have q1' := hx3.frozen 1 1 rfl
  have q2' := hx3.frozen 1 2 rfl
  have hGr : ¬ Fr F W2 (w.heap.size + 1) := fun hg => by
    rcases hg with hg | hg
    · have := hF _ hg; omega
    · omega
  cases B1 with
  | true =>
    have hmt : mendT p l k = T1 := by
      rw [← HT1.out]
      exact mend_split hB1
    have r0 := hx3.cell 0 0 rfl rfl
    have r1 := hx3.cell 0 1 rfl rfl
    have r2 := hx3.cell 0 2 rfl rfl
    have HE : Hid (RNodeTo F (n + 2) w (mendT p l k) (.returned (.agg #[.int .i64 p1, .bool l1, .slice a1 m1 c1])) (((W3.setCell ⟨w.heap.size + 1, 0, none⟩ (.int .i64 p1)).setCell ⟨w.heap.size + 1, 1, none⟩ (.bool l1)).setCell ⟨w.heap.size + 1, 2, none⟩ (.slice a1 m1 c1))) := Lib.hid (by
      rw [hmt]
      exact rnode_end (by omega) hGr hFW hn3 hb3)
    have hxe := (((hx3.sub (m := [(w.heap.size + 1, [.int .i64 0, .bool false, .slice none 0 0])]) (by simp)).put 0 (.int .i64 p1) (by simp)).put 1 (.bool l1) (by simp)).put 2 (.slice a1 m1 c1) (by simp)
    have t0 := hxe.cell 0 0 rfl rfl
    have t1 := hxe.cell 0 1 rfl rfl
    have t2 := hxe.cell 0 2 rfl rfl
    clear hx3 hxe hn1 hn3 hb1 hb13 hb3 hp1 hl1 hm1 hT1 hB1 hmt
    go_wp2_with fail
    refine bodyPost_ret (v := .agg #[.int .i64 p1, .bool l1, .slice a1 m1 c1]) (by simp only [results, Tryz.results127]; simp [go_sem, t0, t1, t2]) rfl HE.out
  | false =>
  have hsn : splitT l k = none := by
    cases hs : splitT l k with
    | none => rfl
    | some q => rw [hs] at hB1; cases hB1
  have hTn : T1 = .node p l := by rw [← HT1.out]; unfold splitR; rw [hsn]
  have v2 := hx3.cell 2 2 rfl rfl
  have v3 := (hb3.cell (p := ⟨b, off + k * 4 + 3, none⟩) hbb).trans HD3.out
  have k0 : W3.cell? ⟨bk, ok, none⟩ = some (.int .i64 kp) := (hb3.cell (p := ⟨bk, ok, none⟩) hbk).trans (by simpa using HCK.out 0 _ rfl)
  have k1 : W3.cell? ⟨bk, ok + 1, none⟩ = some (.bool kl) := (hb3.cell (p := ⟨bk, ok + 1, none⟩) hbk).trans (by simpa using HCK.out 1 _ rfl)
  have k2 : W3.cell? ⟨bk, ok + 2, none⟩ = some (.slice ak km ck) := (hb3.cell (p := ⟨bk, ok + 2, none⟩) hbk).trans (by simpa using HCK.out 2 _ rfl)
  have CS := rsizes_any (HON.out.below hb3) HKB.out
  have HX3 := Lib.hid hx3
  have HB3 := Lib.hid hb3
  have HSN := Lib.hid hsn
  clear hx3 hb3 hb13 hn1 hn3 hb1 hp1 hl1 hm1 hT1 hB1 hTn hsn HT1 q0 q1 q2 q0' q1' q2' hGr hFW
  go_wp2_with fail
  refine CS.mono ?_
  rintro e w4 ⟨v4, rfl, ho4, hb4⟩
  obtain ⟨a4, c4, rfl, hrow⟩ := Row.of_own ho4
  go_wp2_with fail
  refine (refLow_any _ _ _ _ _ hrow HSM.out).mono ?_
  rintro e w5 ⟨rfl, rfl⟩
  obtain ⟨LB, hLB⟩ : ∃ z, decide (sumI (sizesT kid) < 30) = z := ⟨_, rfl⟩
  rw [hLB]
  have hlow : lowT kid = LB := hLB
  have hx4 := HX3.out.step hb4
  have hb4w := below_via HB3.out hb4
  have HE : (LB = false ∨ m < 2) → Hid (RNodeTo F (n + 2) w (mendT p l k) (.returned (.agg #[.int .i64 p, .bool false, .slice (some ⟨b, off, none⟩) m c])) (((w4.setCell ⟨w.heap.size + 1, 0, none⟩ (.int .i64 p)).setCell ⟨w.heap.size + 1, 1, none⟩ (.bool false)).setCell ⟨w.heap.size + 1, 2, none⟩ (.slice (some ⟨b, off, none⟩) m c))) := fun hc => Lib.hid (by
    rw [mend_same (by rw [HSN.out]; rfl) (by rw [HKD.out, hlow, HLM.out]; exact hc)]
    refine rnode_end (by omega) (G := F) (fun hg => by have := hF _ hg; omega) (fun b hb => .inl hb) ?_ hb4w
    have := H.out.below hb4w
    rw [show cntT (.node p l) = m from HLM.out] at this
    exact this)
  have n0 := hx4.cell 2 0 rfl rfl
  have n1 := hx4.cell 2 1 rfl rfl
  have n2 := hx4.cell 2 2 rfl rfl
  have q0 := hx4.cell 1 0 rfl rfl
  have q1 := hx4.cell 1 1 rfl rfl
  have q2 := hx4.cell 1 2 rfl rfl
  have q0' := hx4.frozen 1 0 rfl
  have q1' := hx4.frozen 1 1 rfl
  have q2' := hx4.frozen 1 2 rfl
  have hxe := (((hx4.sub (m := [(w.heap.size + 1, [.int .i64 0, .bool false, .slice none 0 0])]) (by simp)).put 0 (.int .i64 p) (by simp)).put 1 (.bool false) (by simp)).put 2 (.slice (some ⟨b, off, none⟩) m c) (by simp)
  have t0 := hxe.cell 0 0 rfl rfl
  have t1 := hxe.cell 0 1 rfl rfl
  have t2 := hxe.cell 0 2 rfl rfl
  have HX4 := Lib.hid hx4
  have HB4 := Lib.hid hb4w
  clear hrow ho4 CS v2 v3 k0 k1 k2 hx4 hxe hb4 hb4w hW3
  cases LB with
  | false =>
    have HE1 := HE (.inl rfl)
    clear hlow hLB HE
    go_wp2_with fail
    refine bodyPost_ret (v := .agg #[.int .i64 p, .bool false, .slice (some ⟨b, off, none⟩) m c]) (by simp only [results, Tryz.results127]; simp [go_sem, t0, t1, t2]) rfl HE1.out
  | true =>
  by_cases hm2 : m < 2
  · have HE1 := HE (.inr hm2)
    have hm2' : (m : Int) < 2 := by omega
    clear hlow hLB HE
    go_wp2_with fail
    refine bodyPost_ret (v := .agg #[.int .i64 p, .bool false, .slice (some ⟨b, off, none⟩) m c]) (by simp only [results, Tryz.results127]; simp [go_sem, t0, t1, t2]) rfl HE1.out
  have hm2' : ¬ ((m : Int) < 2) := by omega
  have HLOW := Lib.hid hlow
  obtain ⟨j, hj⟩ : ∃ j, joinAt m k = j := ⟨_, rfl⟩
  have hj1 : j + 1 < m := by rw [← hj]; unfold joinAt; split <;> omega
  have hjk : (neighF (m : Int) (k : Int) < k ∧ neighF (m : Int) (k : Int) = (j : Int)) ∨ (¬ neighF (m : Int) (k : Int) < k ∧ j = k) := by
    rw [← hj]
    unfold joinAt neighF
    split
    · right; split <;> omega
    · left; split <;> omega
  have CN := fun W => refNeighbour_any (m : Int) (k : Int) W (by omega) (by omega)
  obtain ⟨z, hz⟩ : ∃ z, neighF (m : Int) (k : Int) = z := ⟨_, rfl⟩
  simp only [hz] at hjk CN
  have HJ := Lib.hid hj
  have HJK := Lib.hid hjk
  clear hlow hLB HE t0 t1 t2 n0 n1 q0 q1 q2 q0' q1' q2' hj hjk hz
  go_wp2_with fail
  refine (CN _).mono ?_
  rintro e w5 ⟨rfl, rfl⟩
  clear CN
  go_upto_if 47 with (fail)
  go_cut [1] (fun s1 wq => s1 = .int .i64 (j : Int) ∧ wq = w4)
  case first =>
    rcases HJK.out with ⟨h1, h2⟩ | ⟨h1, h2⟩
    · go_wp2_with fail
      go_meet
      exact ⟨by rw [h2], rfl⟩
    · go_wp2_with fail
      go_meet
      exact ⟨by rw [h2], rfl⟩
  case rest =>
  obtain ⟨rfl, rfl⟩ := hcut
  obtain ⟨_, _, ba, oa, acs, _, _, _, kca, e', _, hba, hona, ca0, _, _, ca3, hcka, hka1, hka2⟩ := RNodeOn.kid HR.out (show j < m by omega)
  cases e'
  obtain ⟨_, _, bb, ob, bcs, _, _, _, kcb, e', _, hbb', honb, cb0, _, _, cb3, hckb, hkb1, hkb2⟩ := RNodeOn.kid HR.out hj1
  cases e'
  obtain ⟨jm, hjm, hjx⟩ := kid_mem (l := l) (k := j) (by have := HLM.out; omega)
  obtain ⟨jm', hjm', hjx'⟩ := kid_mem (l := l) (k := j + 1) (by have := HLM.out; omega)
  have bna : Bnd (n + 1) (kidAt l j) := by rw [← hjx]; exact HO.out.bnd _ hjm
  have bnb : Bnd (n + 1) (kidAt l (j + 1)) := by rw [← hjx']; exact HO.out.bnd _ hjm'
  have hkind : (kidAt l j).isLeaf = (kidAt l (j + 1)).isLeaf := by rw [← hjx, ← hjx']; exact HO.out.kind _ hjm _ hjm'
  obtain ⟨A, hA⟩ : ∃ x, kidAt l j = x := ⟨_, rfl⟩
  obtain ⟨B, hB⟩ : ∃ x, kidAt l (j + 1) = x := ⟨_, rfl⟩
  obtain ⟨key, hkey⟩ : ∃ x, keyAt l (j + 1) = x := ⟨_, rfl⟩
  rw [hA] at hona bna hkind
  rw [hB] at honb bnb hkind
  rw [hkey] at cb0
  obtain ⟨aa, ca, rfl, hra, _⟩ := hona.at
  obtain ⟨ab, cb, rfl, hrb, _⟩ := honb.at
  have ham9 : cntT A ≤ 1000 := by cases A <;> exact bna.1
  have hbm9 : cntT B ≤ 1000 := by cases B <;> exact bnb.1
  obtain ⟨am, hamE⟩ : ∃ x, cntT A = x := ⟨_, rfl⟩
  obtain ⟨bm, hbmE⟩ : ∃ x, cntT B = x := ⟨_, rfl⟩
  obtain ⟨ap, hap⟩ : ∃ x, A.page = x := ⟨_, rfl⟩
  obtain ⟨bp, hbp⟩ : ∃ x, B.page = x := ⟨_, rfl⟩
  obtain ⟨lf, hlf⟩ : ∃ x, A.isLeaf = x := ⟨_, rfl⟩
  have hlfB : B.isLeaf = lf := by rw [← hkind]; exact hlf
  rw [hamE, hap, hlf] at hcka
  rw [hbmE, hbp, hlfB] at hckb
  rw [hamE] at hra ham9
  rw [hbmE] at hrb hbm9
  have hb4 := HB4.out
  have hx4 := HX4.out
  have hs41 : w1.heap.size < wc.heap.size := hx4.lt 0 rfl
  have hs4 : w.heap.size + 2 < wc.heap.size + 1 := by have := hx4.lt 0 rfl; omega
  have v3 := (hb4.cell (p := ⟨b, off + j * 4 + 3, none⟩) hbb).trans ca3
  have k0 : wc.cell? ⟨ba, oa, none⟩ = some (.int .i64 ap) := (hb4.cell (p := ⟨ba, oa, none⟩) hba).trans (by simpa using hcka 0 _ rfl)
  have k1 : wc.cell? ⟨ba, oa + 1, none⟩ = some (.bool lf) := (hb4.cell (p := ⟨ba, oa + 1, none⟩) hba).trans (by simpa using hcka 1 _ rfl)
  have k2 : wc.cell? ⟨ba, oa + 2, none⟩ = some (.slice aa am ca) := (hb4.cell (p := ⟨ba, oa + 2, none⟩) hba).trans (by simpa using hcka 2 _ rfl)
  obtain ⟨W9, hW9⟩ : ∃ x, wc.alloc (.cells #[.int .i64 ap, .bool lf, .slice aa am ca] 27) = x := ⟨_, rfl⟩
  have hx9 : Boxes W9 [(wc.heap.size, [.int .i64 ap, .bool lf, .slice aa am ca]), (w1.heap.size, [.int .i64 p1, .bool l1, .slice a1 m1 c1]), (w.heap.size + 1, [.int .i64 0, .bool false, .slice none 0 0]), (w.heap.size, [.int .i64 p, .bool false, .slice (some ⟨b, off, none⟩) m c])] := by
    rw [← hW9]
    exact hx4.alloc #[.int .i64 ap, .bool lf, .slice aa am ca] 27 (b := wc.heap.size) rfl
  have hbc9 : Below wc.heap.size wc W9 := by rw [← hW9]; exact Below.al (Below.refl _ _)
  have hb9 := below_via hb4 hbc9
  have hs9 : W9.heap.size = wc.heap.size + 1 := by rw [← hW9]; simp
  have y2 := hx9.cell 3 2 rfl rfl
  have y3 := (hb9.cell (p := ⟨b, off + (j + 1) * 4 + 3, none⟩) hbb).trans cb3
  have z0 : W9.cell? ⟨bb, ob, none⟩ = some (.int .i64 bp) := (hb9.cell (p := ⟨bb, ob, none⟩) hbb').trans (by simpa using hckb 0 _ rfl)
  have z1 : W9.cell? ⟨bb, ob + 1, none⟩ = some (.bool lf) := (hb9.cell (p := ⟨bb, ob + 1, none⟩) hbb').trans (by simpa using hckb 1 _ rfl)
  have z2 : W9.cell? ⟨bb, ob + 2, none⟩ = some (.slice ab bm cb) := (hb9.cell (p := ⟨bb, ob + 2, none⟩) hbb').trans (by simpa using hckb 2 _ rfl)
  obtain ⟨W10, hW10⟩ : ∃ x, W9.alloc (.cells #[.int .i64 bp, .bool lf, .slice ab bm cb] 27) = x := ⟨_, rfl⟩
  have hx10 : Boxes W10 [(wc.heap.size + 1, [.int .i64 bp, .bool lf, .slice ab bm cb]), (wc.heap.size, [.int .i64 ap, .bool lf, .slice aa am ca]), (w1.heap.size, [.int .i64 p1, .bool l1, .slice a1 m1 c1]), (w.heap.size + 1, [.int .i64 0, .bool false, .slice none 0 0]), (w.heap.size, [.int .i64 p, .bool false, .slice (some ⟨b, off, none⟩) m c])] := by
    rw [← hW10]
    exact hx9.alloc #[.int .i64 bp, .bool lf, .slice ab bm cb] 27 (b := wc.heap.size + 1) (by omega)
  have hbc10 : Below W9.heap.size W9 W10 := by rw [← hW10]; exact Below.al (Below.refl _ _)
  have hb10 := below_via hb9 hbc10
  have hs10 : W10.heap.size = wc.heap.size + 2 := by rw [← hW10]; simp; omega
  have x1 := hx10.cell 1 1 rfl rfl
  have hjw : IntKind.i64.wrap ((j : Int) + 1) = (j : Int) + 1 := IntWalk.i64_in _ (by omega)
  have hj1' : ((j : Int) + 1) < (m : Int) := by omega
  have HX10 := Lib.hid hx10
  have HB10 := Lib.hid hb10
  clear hx4 hx9 hx10 hb4 hb9 hbc9 hb10 hbc10
  go_upto_region 12 with (fail)
  have hx10 := HX10.out
  have hb10 := HB10.out
  obtain ⟨W11, hW11⟩ : ∃ x, x = W10.alloc (.cells #[.int .i64 0, .bool lf, .slice none 0 0] 27) := ⟨_, rfl⟩
  rw [← hW11]
  clear hW9 hW10 v3 k0 k1 k2 y2 y3 z0 z1 z2 x1
  have hx11 : Boxes W11 [(wc.heap.size + 2, [.int .i64 0, .bool lf, .slice none 0 0]), (wc.heap.size + 1, [.int .i64 bp, .bool lf, .slice ab bm cb]), (wc.heap.size, [.int .i64 ap, .bool lf, .slice aa am ca]), (w1.heap.size, [.int .i64 p1, .bool l1, .slice a1 m1 c1]), (w.heap.size + 1, [.int .i64 0, .bool false, .slice none 0 0]), (w.heap.size, [.int .i64 p, .bool false, .slice (some ⟨b, off, none⟩) m c])] := by
    rw [hW11]
    exact hx10.alloc #[.int .i64 0, .bool lf, .slice none 0 0] 27 (b := wc.heap.size + 2) (by omega)
  have hbc11 : Below W10.heap.size W10 W11 := by rw [hW11]; exact Below.al (Below.refl _ _)
  have hb11 := below_via hb10 hbc11
  have hs11 : W11.heap.size = wc.heap.size + 3 := by rw [hW11]; simp; omega
  have hF11 : ∀ b, F b → b < W11.heap.size := fun b hb => by have := hF b hb; omega
  have c0 : CellsF 145 F n W11.heap.size W11 (.slice none 0 0) [] := CellsF.nil _ _ _ _ _
  obtain ⟨v12, w12, hr12, c12, hg12⟩ := c0.row Tryz.underlying25 info_Cw (Nat.le_refl _) hF11 (by simp) (TabR.mono (TabR.below (Nat.le_refl _) hb11 hra) (fun _ _ hy => RcOn.below hy hb11)) (by omega)
  rw [List.nil_append] at c12
  obtain ⟨a12, d12, ev12, _, _, _, _⟩ := (c12.own hF11).sl
  rw [cellsR_len, hamE] at ev12
  subst ev12
  have o0 := hx11.cell 0 2 rfl rfl
  have o1 := hx11.cell 2 2 rfl rfl
  have hx12 := hx11.grown hg12 (by intro q hq e; cases e)
  have hbc12 : Below W11.heap.size W11 w12 := (Below.refl _ _).grown hg12 (Nat.le_refl _) (fun g hg => by cases hg)
  have hb12 := below_via hb11 hbc12
  have o2 := hx12.cell 0 2 rfl rfl
  have o2' := hx12.frozen 0 2 rfl
  have hx13 := hx12.put 2 (.slice a12 am d12) (by simp; omega)
  obtain ⟨W13, hW13⟩ : ∃ x, w12.setCell ⟨wc.heap.size + 2, 2, none⟩ (.slice a12 am d12) = x := ⟨_, rfl⟩
  have c13 : CellsF 145 F n W11.heap.size W13 (.slice a12 am d12) (cellsR A) := by
    rw [← hW13]
    exact c12.set _ (fun e => by have : W11.heap.size ≤ wc.heap.size + 2 := (c12.ge e).1; omega) (fun hf => by have : wc.heap.size + 2 < w.heap.size := hF _ hf; omega)
  have hb13 : Below w.heap.size w W13 := by rw [← hW13]; exact hb12.setCell (by simp; omega) _
  rw [hW13] at hx13
  have hx13' := hx13.sub (m := [(wc.heap.size + 2, [.int .i64 0, .bool lf, .slice a12 am d12]), (wc.heap.size + 1, [.int .i64 bp, .bool lf, .slice ab bm cb]), (w1.heap.size, [.int .i64 p1, .bool l1, .slice a1 m1 c1]), (w.heap.size + 1, [.int .i64 0, .bool false, .slice none 0 0]), (w.heap.size, [.int .i64 p, .bool false, .slice (some ⟨b, off, none⟩) m c])]) (by simp)
  have HX := Lib.hid hx13'
  have HBW := Lib.hid hb13
  have HC := Lib.hid c13
  have HRB := Lib.hid hrb
  have HA := Lib.hid hA
  have HBE := Lib.hid hB
  have HKEY := Lib.hid hkey
  have HCB0 := Lib.hid cb0
  have HCA0 := Lib.hid ca0
  have HAM := Lib.hid hamE
  have HBM := Lib.hid hbmE
  have HLF := Lib.hid hlf
  have HLFB := Lib.hid hlfB
  have HKIND := Lib.hid hkind
  have HF11 := Lib.hid hF11
  clear hx10 hx11 hx12 hx13 hx13' hb10 hb11 hbc11 hb12 hbc12 hb13 c0 c12 c13 hg12 hra hrb hona honb hcka hckb ca3 cb3 cb0 ca0 hA hB hkey hamE hbmE hap hbp hlf hlfB hkind hjm hjx hjm' hjx' bna bnb hF11 n2
  clear hW11
  go_upto_region 13 with (at_builtin; refine wpList_append_run rfl _ _ _ _ rfl rfl rfl hr12 ?_)
  clear o0 o1 o2 o2' hr12
  go_wp2_with fail
  go_loopw [11] (fun s11 wr => ∃ (i : Nat) (av : Option Addr) (dv : Nat), i ≤ bm ∧ s11 = .int .i64 i ∧ Boxes wr [(wc.heap.size + 2, [.int .i64 0, .bool lf, .slice av (am + i) dv]), (wc.heap.size + 1, [.int .i64 bp, .bool lf, .slice ab bm cb]), (w1.heap.size, [.int .i64 p1, .bool l1, .slice a1 m1 c1]), (w.heap.size + 1, [.int .i64 0, .bool false, .slice none 0 0]), (w.heap.size, [.int .i64 p, .bool false, .slice (some ⟨b, off, none⟩) m c])] ∧
    CellsF 145 F n W11.heap.size wr (.slice av (am + i) dv) (cellsR A ++ (firstRc key lf (cellsR B)).take i) ∧ Below w.heap.size w wr) (fun s _ => bm - (intOf s).toNat)
  case atStart => exact ⟨0, a12, d12, Nat.zero_le _, rfl, HX.out, by rw [List.take_zero, List.append_nil]; exact HC.out, HBW.out⟩
  case round =>
    clear HX HC HBW hW13
    obtain ⟨i, av, dv, hi, rfl, hx, hc, hb⟩ := hrel
    have hge : ∀ g, (Value.slice av (am + i) dv).ownBlock = some g → W11.heap.size ≤ g ∧ g < wr.heap.size := fun g hg => hc.ge hg
    have hwr := hx.lt 0 rfl
    by_cases hlt : i < bm
    · obtain ⟨eb, eo, y, pa1, pn1, pc1, ka1, kn1, kc1, rfl, hebb, hy, hyc, _, _, _, _, e0, e1, e2, e3'⟩ := RNodeOn.cell HRB.out hlt
      have hsucc := firstRc_succ key lf (cellsR B) i hy
      have l0 := (hb.cell (p := ⟨eb, eo + i * 4, none⟩) hebb).trans e0
      have l1' := (hb.cell (p := ⟨eb, eo + i * 4 + 1, none⟩) hebb).trans e1
      have l2 := (hb.cell (p := ⟨eb, eo + i * 4 + 2, none⟩) hebb).trans e2
      have l3 := (hb.cell (p := ⟨eb, eo + i * 4 + 3, none⟩) hebb).trans e3'
      have f2 := hx.cell 1 2 rfl rfl
      obtain ⟨W16, hW16⟩ : ∃ x, wr.alloc (.cells #[.string (strOf y.key), .string (strOf y.val.data), .slice pa1 pn1 pc1, .slice ka1 kn1 kc1] 145) = x := ⟨_, rfl⟩
      have hbr16 : Below wr.heap.size wr W16 := by rw [← hW16]; exact Below.al (Below.refl _ _)
      have hb16 := below_via hb hbr16
      have hx16 : Boxes W16 [(wr.heap.size, [.string (strOf y.key), .string (strOf y.val.data), .slice pa1 pn1 pc1, .slice ka1 kn1 kc1]), (wc.heap.size + 2, [.int .i64 0, .bool lf, .slice av (am + i) dv]), (wc.heap.size + 1, [.int .i64 bp, .bool lf, .slice (some ⟨eb, eo, none⟩) bm cb]), (w1.heap.size, [.int .i64 p1, .bool l1, .slice a1 m1 c1]), (w.heap.size + 1, [.int .i64 0, .bool false, .slice none 0 0]), (w.heap.size, [.int .i64 p, .bool false, .slice (some ⟨b, off, none⟩) m c])] := by
        rw [← hW16]
        exact hx.alloc #[.string (strOf y.key), .string (strOf y.val.data), .slice pa1 pn1 pc1, .slice ka1 kn1 kc1] 145 (b := wr.heap.size) rfl
      have hs16 : W16.heap.size = wr.heap.size + 1 := by rw [← hW16]; simp
      have c16 := hc.below hbr16
      have f1 := hx16.cell 2 1 rfl rfl
      have hy16 := hyc.below hb16
      have hFwr : ¬ F wr.heap.size := fun hf => by have := hF _ hf; omega
      have hl19 : (cellsR A ++ (firstRc key lf (cellsR B)).take i).length = am + i := by
        rw [List.length_append, List.length_take, firstRc_len, cellsR_len, cellsR_len, HAM.out, HBM.out, Nat.min_eq_left hi]
      clear hx hc hb hbr16 e0 e1 e2 e3' hyc
      by_cases hi0 : i = 0
      · have hi0' : ((i : Int) == 0) = true := by simp; omega
        have HI0 := Lib.hid hi0
        clear hi0
        cases lf with
        | true =>
        have m0 := hx16.cell 0 0 rfl rfl
        have m1' := hx16.cell 0 1 rfl rfl
        have m2' := hx16.cell 0 2 rfl rfl
        have m3' := hx16.cell 0 3 rfl rfl
        have m4 := hx16.cell 1 2 rfl rfl
        obtain ⟨v19, w19, hr19, c19, hg19⟩ := c16.append Tryz.underlying25 info_Cw (by omega) HF11.out (by rw [hl19]; omega) hy16
        have hx19 := hx16.grown hg19 (by intro q hq e; have := hge _ e; simp at hq; rcases hq with rfl | rfl | rfl | rfl | rfl | rfl <;> omega)
        have hb19 := hb16.grown hg19 (by omega) (fun k hk => by have := hge k hk; omega)
        obtain ⟨a19, d19, ev19, _, _, _, _⟩ := (c19.own HF11.out).sl
        rw [List.length_append, hl19, List.length_singleton, Nat.add_assoc] at ev19
        subst ev19
        have o2 := hx19.cell 1 2 rfl rfl
        have o2' := hx19.frozen 1 2 rfl
        have hx20 := (hx19.sub (m := [(wc.heap.size + 2, [.int .i64 0, .bool true, .slice av (am + i) dv]), (wc.heap.size + 1, [.int .i64 bp, .bool true, .slice (some ⟨eb, eo, none⟩) bm cb]), (w1.heap.size, [.int .i64 p1, .bool l1, .slice a1 m1 c1]), (w.heap.size + 1, [.int .i64 0, .bool false, .slice none 0 0]), (w.heap.size, [.int .i64 p, .bool false, .slice (some ⟨b, off, none⟩) m c])]) (by simp)).put 2 (.slice a19 (am + (i + 1)) d19) (by simp; omega)
        have c20 := c19.set (p := ⟨wc.heap.size + 2, 2, none⟩) (.slice a19 (am + (i + 1)) d19) (fun e => by have : W11.heap.size ≤ wc.heap.size + 2 := (c19.ge e).1; omega) (fun hf => by have : wc.heap.size + 2 < w.heap.size := hF _ hf; omega)
        have HX20 := Lib.hid hx20
        have HC20 := Lib.hid c20
        have HB20 := Lib.hid (hb19.setCell (p := ⟨wc.heap.size + 2, 2, none⟩) (by simp; omega) (.slice a19 (am + (i + 1)) d19))
        have HS : Hid ((firstRc key true (cellsR B)).take (i + 1) = (firstRc key true (cellsR B)).take i ++ [y]) := Lib.hid (by rw [hsucc]; simp [HI0.out])
        clear hx16 c16 hb16 hy16 hx19 hx20 c19 c20 hb19 hg19 hsucc hl19 hs16
        go_upto_region 17 with (fail)
        go_upto_region 19 with (fail)
        go_wp2_with (at_builtin; refine wpList_append_run rfl _ _ _ _ rfl rfl rfl hr19 ?_)
        go_roundw
        case rel => exact ⟨i + 1, a19, d19, hlt, by go_num, HX20.out, by rw [HS.out, ← List.append_assoc]; exact HC20.out, HB20.out⟩
        case measure => simp [intOf]; omega
        | false =>
          have n2 := hx16.cell 5 2 rfl rfl
          have y0 := (hb16.cell (p := ⟨b, off + (j + 1) * 4, none⟩) hbb).trans HCB0.out
          have hfz := hx16.frozen 0 0 rfl
          have hz0 := hx16.cell 0 0 rfl rfl
          obtain ⟨W17, hW17⟩ : ∃ x, W16.setCell ⟨wr.heap.size, 0, none⟩ (.string (strOf key)) = x := ⟨_, rfl⟩
          have hx17 := hx16.put 0 (.string (strOf key)) (by simp; omega)
          have c17 := c16.set (p := ⟨wr.heap.size, 0, none⟩) (.string (strOf key)) (fun e => by have := (hge _ e).2; simp at this) hFwr
          have hb17 := hb16.setCell (p := ⟨wr.heap.size, 0, none⟩) (by simp; omega) (.string (strOf key))
          have hy17 : RcOn F n (W16.setCell ⟨wr.heap.size, 0, none⟩ (.string (strOf key))) [.string (strOf key), .string (strOf y.val.data), .slice pa1 pn1 pc1, .slice ka1 kn1 kc1] ⟨key, y.val, y.kid⟩ := by
            have := hy16.agree (AgreeF.set (F := F) (p := ⟨wr.heap.size, 0, none⟩) (u := .string (strOf key)) ⟨Nat.le_refl _, fun _ _ _ => rfl⟩ (.inl hFwr))
            obtain ⟨_, _, _, _, _, _, e, k1, k2, k3, k4⟩ := this
            cases e
            exact ⟨_, _, _, _, _, _, rfl, k1, k2, k3, k4⟩
          rw [hW17] at hx17 c17 hb17 hy17
          have hs17 : W17.heap.size = W16.heap.size := by rw [← hW17]; simp
          clear hx16 c16 hb16 hy16
          have m0 := hx17.cell 0 0 rfl rfl
          have m1' := hx17.cell 0 1 rfl rfl
          have m2' := hx17.cell 0 2 rfl rfl
          have m3' := hx17.cell 0 3 rfl rfl
          have m4 := hx17.cell 1 2 rfl rfl
          obtain ⟨v19, w19, hr19, c19, hg19⟩ := c17.append Tryz.underlying25 info_Cw (by omega) HF11.out (by rw [hl19]; omega) hy17
          have hx19 := hx17.grown hg19 (by intro q hq e; have := hge _ e; simp at hq; rcases hq with rfl | rfl | rfl | rfl | rfl | rfl <;> omega)
          have hb19 := hb17.grown hg19 (by omega) (fun k hk => by have := hge k hk; omega)
          obtain ⟨a19, d19, ev19, _, _, _, _⟩ := (c19.own HF11.out).sl
          rw [List.length_append, hl19, List.length_singleton, Nat.add_assoc] at ev19
          subst ev19
          have o2 := hx19.cell 1 2 rfl rfl
          have o2' := hx19.frozen 1 2 rfl
          have hx20 := (hx19.sub (m := [(wc.heap.size + 2, [.int .i64 0, .bool false, .slice av (am + i) dv]), (wc.heap.size + 1, [.int .i64 bp, .bool false, .slice (some ⟨eb, eo, none⟩) bm cb]), (w1.heap.size, [.int .i64 p1, .bool l1, .slice a1 m1 c1]), (w.heap.size + 1, [.int .i64 0, .bool false, .slice none 0 0]), (w.heap.size, [.int .i64 p, .bool false, .slice (some ⟨b, off, none⟩) m c])]) (by simp)).put 2 (.slice a19 (am + (i + 1)) d19) (by simp; omega)
          have c20 := c19.set (p := ⟨wc.heap.size + 2, 2, none⟩) (.slice a19 (am + (i + 1)) d19) (fun e => by have : W11.heap.size ≤ wc.heap.size + 2 := (c19.ge e).1; omega) (fun hf => by have : wc.heap.size + 2 < w.heap.size := hF _ hf; omega)
          have HX20 := Lib.hid hx20
          have HC20 := Lib.hid c20
          have HB20 := Lib.hid (hb19.setCell (p := ⟨wc.heap.size + 2, 2, none⟩) (by simp; omega) (.slice a19 (am + (i + 1)) d19))
          have HS : Hid ((firstRc key false (cellsR B)).take (i + 1) = (firstRc key false (cellsR B)).take i ++ [⟨key, y.val, y.kid⟩]) := Lib.hid (by rw [hsucc]; simp [HI0.out])
          clear hx17 c17 hb17 hy17 hx19 hx20 c19 c20 hb19 hg19 hsucc hl19 hs16 hs17
          go_upto_region 17 with (fail)
          go_upto_region 19 with (fail)
          go_wp2_with (at_builtin; refine wpList_append_run rfl _ _ _ _ rfl rfl rfl hr19 ?_)
          go_roundw
          case rel => exact ⟨i + 1, a19, d19, hlt, by go_num, HX20.out, by rw [HS.out, ← List.append_assoc]; exact HC20.out, HB20.out⟩
          case measure => simp [intOf]; omega
      · have hi0' : ((i : Int) == 0) = false := by simp; omega
        have HI0 := Lib.hid hi0
        clear hi0
        have m0 := hx16.cell 0 0 rfl rfl
        have m1' := hx16.cell 0 1 rfl rfl
        have m2' := hx16.cell 0 2 rfl rfl
        have m3' := hx16.cell 0 3 rfl rfl
        have m4 := hx16.cell 1 2 rfl rfl
        obtain ⟨v19, w19, hr19, c19, hg19⟩ := c16.append Tryz.underlying25 info_Cw (by omega) HF11.out (by rw [hl19]; omega) hy16
        have hx19 := hx16.grown hg19 (by intro q hq e; have := hge _ e; simp at hq; rcases hq with rfl | rfl | rfl | rfl | rfl | rfl <;> omega)
        have hb19 := hb16.grown hg19 (by omega) (fun k hk => by have := hge k hk; omega)
        obtain ⟨a19, d19, ev19, _, _, _, _⟩ := (c19.own HF11.out).sl
        rw [List.length_append, hl19, List.length_singleton, Nat.add_assoc] at ev19
        subst ev19
        have o2 := hx19.cell 1 2 rfl rfl
        have o2' := hx19.frozen 1 2 rfl
        have hx20 := (hx19.sub (m := [(wc.heap.size + 2, [.int .i64 0, .bool lf, .slice av (am + i) dv]), (wc.heap.size + 1, [.int .i64 bp, .bool lf, .slice (some ⟨eb, eo, none⟩) bm cb]), (w1.heap.size, [.int .i64 p1, .bool l1, .slice a1 m1 c1]), (w.heap.size + 1, [.int .i64 0, .bool false, .slice none 0 0]), (w.heap.size, [.int .i64 p, .bool false, .slice (some ⟨b, off, none⟩) m c])]) (by simp)).put 2 (.slice a19 (am + (i + 1)) d19) (by simp; omega)
        have c20 := c19.set (p := ⟨wc.heap.size + 2, 2, none⟩) (.slice a19 (am + (i + 1)) d19) (fun e => by have : W11.heap.size ≤ wc.heap.size + 2 := (c19.ge e).1; omega) (fun hf => by have : wc.heap.size + 2 < w.heap.size := hF _ hf; omega)
        have HX20 := Lib.hid hx20
        have HC20 := Lib.hid c20
        have HB20 := Lib.hid (hb19.setCell (p := ⟨wc.heap.size + 2, 2, none⟩) (by simp; omega) (.slice a19 (am + (i + 1)) d19))
        have HS : Hid ((firstRc key lf (cellsR B)).take (i + 1) = (firstRc key lf (cellsR B)).take i ++ [y]) := Lib.hid (by rw [hsucc]; simp [HI0.out])
        clear hx16 c16 hb16 hy16 hx19 hx20 c19 c20 hb19 hg19 hsucc hl19 hs16
        go_upto_region 17 with (fail)
        go_upto_region 19 with (fail)
        go_wp2_with (at_builtin; refine wpList_append_run rfl _ _ _ _ rfl rfl rfl hr19 ?_)
        go_roundw
        case rel => exact ⟨i + 1, a19, d19, hlt, by go_num, HX20.out, by rw [HS.out, ← List.append_assoc]; exact HC20.out, HB20.out⟩
        case measure => simp [intOf]; omega
    · obtain rfl : i = bm := by omega
      have hL := HLM.out
      obtain ⟨q1, q2, q3, q4⟩ := join_rows (l := l) (j := j) (by omega) p
      obtain ⟨L1, hL1⟩ : ∃ x, l.take (j + 1) ++ l.drop (j + 2) = x := ⟨_, rfl⟩
      obtain ⟨L2, hL2⟩ : ∃ x, joined l j = x := ⟨_, rfl⟩
      have hkj : kidAt L2 j = joinT key A B := by
        rw [← hL2, ← HA.out, ← HBE.out, ← HKEY.out]
        obtain ⟨x1, x2, x3, x4, hx1, hx2⟩ := list_two (l := l) (j := j) (by omega)
        subst hx1 hx2
        simp only [joined_right, kidAt_at, two_kid, two_at]
      rw [hL1] at q1 q2 q3
      rw [hL2] at q2 q4
      rw [HA.out, HBE.out, HKEY.out] at q2
      obtain ⟨j1, j2, j3⟩ := join_cells (key := key) HKIND.out
      rw [HLFB.out] at j1
      rw [HLF.out] at j3
      have nBo : RNodeOn (Fr F W11) (n + 1) wr [.int .i64 0, .bool lf, .slice av (am + i) dv] (joinT key A B) := by
        rw [List.take_of_length_le (by rw [firstRc_len, cellsR_len, HBM.out]; exact Nat.le_refl _), ← j1] at hc
        have := (hc.own HF11.out).node (w := W11) (Nat.le_refl _)
        rw [j2, j3] at this
        exact this
      have hG : ∀ b, wr.heap.size ≤ b → Fr F W11 b := fun b hb => .inr (by omega)
      have TR : TabR 4 (RcOn (Fr F W11) (n + 1) wr) wr (some ⟨b, off, none⟩) m c (cellsR (.node p l)) := TabR.mono (TabR.below (Nat.le_refl _) hb HR.out) (fun _ _ hy => RcOn.mono (fun b hf => Fr.old b hf) (RcOn.below hy hb))
      obtain ⟨m', hm'⟩ : ∃ x, m - 1 = x := ⟨_, rfl⟩
      have CW1 := with_to (t := .node 0 L1) (q := m') (l2 := []) (a2 := none) (m2 := 0) (c2 := 0) (wc := wr) (W := wr) (k := j + 1) rfl (by show L1.length = m'; omega) q1 (Below.refl _ _) hG TR (TabR.nil wr) hj1 (by omega) (by omega)
      rw [show ((j + 1 : Nat) : Int) = (j : Int) + 1 by omega] at CW1
      have n2 := hx.cell 4 2 rfl rfl
      have f2 := hx.cell 1 2 rfl rfl
      have hr5 : ¬ Fr F W11 w1.heap.size := fun hg => by
        rcases hg with hg | hg
        · have := hF _ hg; omega
        · omega
      have HX := Lib.hid hx
      have HB := Lib.hid hb
      have NBO := Lib.hid nBo
      have Q2 := Lib.hid q2
      have HKJ := Lib.hid hkj
      have HL2 := Lib.hid hL2
      have hq3 : L2.length = m' := by omega
      have hq1 : L1.length = m' := by omega
      have HQ3 := Lib.hid hq3
      have HQ1 := Lib.hid hq1
      have hm'9 : m' ≤ 1000 := by omega
      have hjm' : j < m' := by omega
      clear hx hb hc hge q1 q2 q3 q4 j1 j2 j3 nBo TR hkj hL1 hL2 hL hi hlt hq3 hq1 hm'
      go_upto_region 20 with (fail)
      go_wp2_with fail
      refine CW1.mono ?_
      rintro e w20 ⟨a20, d20, rfl, n20, hb20⟩
      clear CW1 n2 f2
      obtain ⟨kj, hkj⟩ : ∃ x, keyAt l j = x := ⟨_, rfl⟩
      have q2 := Q2.out
      rw [hkj] at q2
      have hcj := HCA0.out
      rw [hkj] at hcj
      clear hkj
      have hx20 := HX.out.step hb20
      have hb20w := below_via HB.out hb20
      have h20 := n20.row (show cntT (.node 0 L1) = m' from HQ1.out)
      have hG20 : ∀ b, w20.heap.size ≤ b → Fr F W11 b := fun b hb => hG b (Nat.le_trans hb20.size hb)
      have nB20 := NBO.out.below hb20
      have CW2 : ∀ (W : World) (ra z : Nat), Below w20.heap.size w20 W → w20.heap.size ≤ ra → BoxAt W ra #[.int .i64 0, .bool lf, .slice av (am + i) dv] → BoxAt W z #[.string (strOf kj), .string ⟨#[]⟩, .slice none 0 0, .slice (some ⟨ra, 0, none⟩) 1 1] →
          Calls Tryz.prog 129 #[.slice a20 m' d20, .int .i64 (j : Int), .slice (some ⟨z, 0, none⟩) 1 1] W (RowTo (Fr F W11) (n + 1) w20 (.node 0 L2) m') := fun W ra z hb r1 hA hz =>
        with_one (t := .node 0 L2) rfl HQ3.out hb hG20 h20 hjm' (by omega) q2 rfl nB20 r1 hA hz
      have hwr4 : w.heap.size ≠ w1.heap.size := by omega
      have hl10 := hx20.lt 0 rfl
      have hlw := hx20.lt 4 rfl
      have hbw : b < w20.heap.size := Nat.lt_of_lt_of_le hbb hb20w.size
      have n2 : ∀ W, AgreeF (fun x => x ≠ w1.heap.size) w20 W → W.cell? ⟨w.heap.size, 2, none⟩ = some (.slice (some ⟨b, off, none⟩) m c) := fun W hW => (hW.cell hwr4 hlw).trans (hx20.cell 4 2 rfl rfl)
      have nk : ∀ W, AgreeF (fun x => x ≠ w1.heap.size) w20 W → W.cell? ⟨b, off + j * 4, none⟩ = some (.string (strOf kj)) := fun W hW => (hW.cell (by show b ≠ w1.heap.size; omega) hbw).trans ((hb20w.cell (p := ⟨b, off + j * 4, none⟩) hbb).trans hcj)
      have b0 : ∀ W, AgreeF (fun x => x ≠ w1.heap.size) w20 W → W.cell? ⟨wc.heap.size + 2, 0, none⟩ = some (.int .i64 0) := fun W hW => (hW.cell (by show wc.heap.size + 2 ≠ w1.heap.size; omega) hl10).trans (hx20.cell 0 0 rfl rfl)
      have b1 : ∀ W, AgreeF (fun x => x ≠ w1.heap.size) w20 W → W.cell? ⟨wc.heap.size + 2, 1, none⟩ = some (.bool lf) := fun W hW => (hW.cell (by show wc.heap.size + 2 ≠ w1.heap.size; omega) hl10).trans (hx20.cell 0 1 rfl rfl)
      have b2 : ∀ W, AgreeF (fun x => x ≠ w1.heap.size) w20 W → W.cell? ⟨wc.heap.size + 2, 2, none⟩ = some (.slice av (am + i) dv) := fun W hW => (hW.cell (by show wc.heap.size + 2 ≠ w1.heap.size; omega) hl10).trans (hx20.cell 0 2 rfl rfl)
      have HX20 := Lib.hid (hx20.sub (m := [(w1.heap.size, [.int .i64 p1, .bool l1, .slice a1 m1 c1]), (w.heap.size + 1, [.int .i64 0, .bool false, .slice none 0 0])]) (by simp))
      have HB20 := Lib.hid hb20w
      have hA00 : AgreeF (fun x => x ≠ w1.heap.size) w20 w20.drew := agr _
      have hjm1 : (j : Int) < (m : Int) := by omega
      clear hx20 hb20 hb20w h20 n20 nB20 q2 hcj
      go_upto_region 21 with (fail)
      refine wp_region_noPanic ?_
      refine wp_region_held_drew (S := (fun W => AgreeF (fun x => x ≠ w1.heap.size) w20 W)) (by kernel_rfl) (by (repeat (with_reducible first | assumption | exact agr _ | apply agal | apply agdr | apply agst))) (fun hHeld => ?_)
      refine wpAnyH_take (i := 0) (oi := { dst := some 113, op := Op.move (Operand.tmp 13), type := 25, pos := "ref.go:120", after := #[], guard := none }) (v := ?_) rfl (by kernel_rfl) (by kernel_rfl) (by kernel_rfl) (fun _ _ _ h => h) (Or.inl ⟨by rfl, ?_⟩) (by assumption) ?_
      rotate_left
      · (intro W hW; (try dsimp only at hW); go_simp <;> (with_reducible rfl))
      try simp only [Act.put, List.setIfInBounds_toArray, List.set_cons_zero, List.set_cons_succ]
      refine wpAnyH_take (i := 1) (oi := { dst := some 114, op := Op.move (Operand.tmp 1), type := 3, pos := "ref.go:120", after := #[], guard := none }) (v := ?_) rfl (by kernel_rfl) (by kernel_rfl) (by kernel_rfl) (fun _ _ _ h => h) (Or.inl ⟨by rfl, ?_⟩) (by assumption) ?_
      rotate_left
      · (intro W hW; (try dsimp only at hW); go_simp <;> (with_reducible rfl))
      try simp only [Act.put, List.setIfInBounds_toArray, List.set_cons_zero, List.set_cons_succ]
      refine wpAnyH_take (i := 2) (oi := { dst := some 115, op := Op.fieldAddr 27 (Operand.tmp 2) 2, type := 0, pos := "ref.go:120", after := #[], guard := none }) (v := ?_) rfl (by kernel_rfl) (by kernel_rfl) (by kernel_rfl) (fun _ _ _ h => h) (Or.inl ⟨by rfl, ?_⟩) (by assumption) ?_
      rotate_left
      · (intro W hW; (try dsimp only at hW); go_simp <;> (with_reducible rfl))
      try simp only [Act.put, List.setIfInBounds_toArray, List.set_cons_zero, List.set_cons_succ]
      refine wpAnyH_take (i := 3) (oi := { dst := some 116, op := Op.load 25 (Operand.tmp 115), type := 25, pos := "ref.go:120", after := #[{ on := 2, ground := Ground.data }], guard := none }) (v := ?_) rfl (by kernel_rfl) (by kernel_rfl) (by kernel_rfl) (fun _ _ _ h => h) (Or.inl ⟨by rfl, ?_⟩) (by assumption) ?_
      rotate_left
      · (intro W hW; (try dsimp only at hW); go_simp <;> (with_reducible rfl))
      try simp only [Act.put, List.setIfInBounds_toArray, List.set_cons_zero, List.set_cons_succ]
      refine wpAnyH_take (i := 4) (oi := { dst := some 117, op := Op.move (Operand.tmp 1), type := 3, pos := "ref.go:120", after := #[], guard := none }) (v := ?_) rfl (by kernel_rfl) (by kernel_rfl) (by kernel_rfl) (fun _ _ _ h => h) (Or.inl ⟨by rfl, ?_⟩) (by assumption) ?_
      rotate_left
      · (intro W hW; (try dsimp only at hW); go_simp <;> (with_reducible rfl))
      try simp only [Act.put, List.setIfInBounds_toArray, List.set_cons_zero, List.set_cons_succ]
      refine wpAnyH_take (i := 5) (oi := { dst := some 118, op := Op.indexAddr 25 (Operand.tmp 116) (Operand.tmp 117), type := 0, pos := "ref.go:120", after := #[{ on := 3, ground := Ground.data }, { on := 4, ground := Ground.data }], guard := none }) (v := ?_) rfl (by kernel_rfl) (by kernel_rfl) (by kernel_rfl) (fun _ _ _ h => h) (Or.inl ⟨by rfl, ?_⟩) (by assumption) ?_
      rotate_left
      · (intro W hW; (try dsimp only at hW); go_simp <;> (with_reducible rfl))
      try simp only [Act.put, List.setIfInBounds_toArray, List.set_cons_zero, List.set_cons_succ]
      refine wpAnyH_take (i := 6) (oi := { dst := some 119, op := Op.fieldAddr 145 (Operand.tmp 118) 0, type := 0, pos := "ref.go:120", after := #[{ on := 5, ground := Ground.data }], guard := none }) (v := ?_) rfl (by kernel_rfl) (by kernel_rfl) (by kernel_rfl) (fun _ _ _ h => h) (Or.inl ⟨by rfl, ?_⟩) (by assumption) ?_
      rotate_left
      · (intro W hW; (try dsimp only at hW); go_simp <;> (with_reducible rfl))
      try simp only [Act.put, List.setIfInBounds_toArray, List.set_cons_zero, List.set_cons_succ]
      refine wpAnyH_take (i := 7) (oi := { dst := some 120, op := Op.load 9 (Operand.tmp 119), type := 9, pos := "ref.go:120", after := #[{ on := 6, ground := Ground.data }], guard := none }) (v := ?_) rfl (by kernel_rfl) (by kernel_rfl) (by kernel_rfl) (fun _ _ _ h => h) (Or.inl ⟨by rfl, ?_⟩) (by assumption) ?_
      rotate_left
      · (intro W hW; (try dsimp only at hW); go_simp <;> (with_reducible rfl))
      try simp only [Act.put, List.setIfInBounds_toArray, List.set_cons_zero, List.set_cons_succ]
      refine wpAnyH_take (i := 8) (oi := { dst := some 121, op := Op.load 27 (Operand.tmp 10), type := 27, pos := "ref.go:120", after := #[], guard := none }) (v := ?_) rfl (by kernel_rfl) (by kernel_rfl) (by kernel_rfl) (fun _ _ _ h => h) (Or.inl ⟨by rfl, ?_⟩) (by assumption) ?_
      rotate_left
      · (intro W hW; (try dsimp only at hW); go_simp <;> (with_reducible rfl))
      try simp only [Act.put, List.setIfInBounds_toArray, List.set_cons_zero, List.set_cons_succ]
      refine wpAnyH_ready (rs := [9]) (by kernel_rfl) (by simp) (AllReadyH.cons (o := { dst := some 122, op := Op.buildSlice 143 1 #[(0, Operand.tmp 121)], type := 143, pos := "ref.go:120", after := #[{ on := 8, ground := Ground.data }], guard := none }) rfl (fun K hK => ?_) AllReadyH.nil)
      (rw [if_pos (by rfl)]; go_wp2_with (fail))
      refine hK.out _ _ (by (repeat (with_reducible first | assumption | exact agr _ | apply agal | apply agdr | apply agst))) (fun hHeld => ?_)
      clear hK K
      try simp only [Act.put, List.setIfInBounds_toArray, List.set_cons_zero, List.set_cons_succ]
      refine wpAnyH_take (i := 10) (oi := { dst := some 123, op := Op.build 145 #[(0, Operand.tmp 120), (2, Operand.tmp 122)], type := 145, pos := "ref.go:120", after := #[{ on := 7, ground := Ground.data }, { on := 9, ground := Ground.data }], guard := none }) (v := ?_) rfl (by kernel_rfl) (by kernel_rfl) (by kernel_rfl) (fun _ _ _ h => h) (Or.inl ⟨by rfl, ?_⟩) (by assumption) ?_
      rotate_left
      · (intro W hW; (try dsimp only at hW); go_simp <;> (with_reducible rfl))
      try simp only [Act.put, List.setIfInBounds_toArray, List.set_cons_zero, List.set_cons_succ]
      refine wpAnyH_ready (rs := [11]) (by kernel_rfl) (by simp) (AllReadyH.cons (o := { dst := some 124, op := Op.buildSlice 25 1 #[(0, Operand.tmp 123)], type := 25, pos := "ref.go:120", after := #[{ on := 10, ground := Ground.data }], guard := none }) rfl (fun K hK => ?_) AllReadyH.nil)
      (rw [if_pos (by rfl)]; go_wp2_with (fail))
      refine hK.out _ _ (by (repeat (with_reducible first | assumption | exact agr _ | apply agal | apply agdr | apply agst))) (fun hHeld => ?_)
      clear hK K
      try simp only [Act.put, List.setIfInBounds_toArray, List.set_cons_zero, List.set_cons_succ]
      refine wpAnyH_ready (rs := [12]) (by kernel_rfl) (by simp) (AllReadyH.cons (o := { dst := some 125, op := Op.call { callee := Callee.value (Operand.func 129), args := #[Operand.tmp 113, Operand.tmp 114, Operand.tmp 124], argTypes := #[25, 3, 25] }, type := 25, pos := "ref.go:120", after := #[{ on := 0, ground := Ground.data }, { on := 1, ground := Ground.data }, { on := 11, ground := Ground.data }], guard := none }) rfl (fun K hK => ?_) AllReadyH.nil)
      (rw [if_pos (by rfl)]; go_simp; (with_reducible refine (CW2 _ ?ra _ ?hb ?r1 ?hA ?hz).mono ?fin); (case hz => ((repeat (with_reducible first | assumption | exact BoxAt.here3 | exact BoxAt.here2 | exact BoxAt.here | apply BoxAt.dr | apply BoxAt.al)); done)); (case hA => ((repeat (with_reducible first | assumption | exact BoxAt.here3 | exact BoxAt.here2 | exact BoxAt.here | apply BoxAt.dr | apply BoxAt.al)); done)); (case hb => (repeat (with_reducible first | assumption | exact Below.refl _ _ | apply Below.al | apply Below.dr))); (case r1 => (with_reducible first | exact Nat.le_refl _ | (simp only [World.heap_alloc_size, World.heap_drew]; omega) | omega)); rintro e w21 ⟨a21, d21, rfl, n21, hb21⟩; have hA21 : AgreeF (fun x => x ≠ w1.heap.size) w20 w21 := AgreeF.of_below hb21; have hx21 := HX20.out.step hb21; have z0 := hx21.cell 0 0 rfl rfl; have z1 := hx21.cell 0 1 rfl rfl; have z2 := hx21.cell 0 2 rfl rfl; have y0 := hx21.frozen 0 0 rfl; have y1 := hx21.frozen 0 1 rfl; have y2 := hx21.frozen 0 2 rfl; go_wp2_with (fail))
      refine hK.out _ _ (by (repeat (with_reducible first | assumption | exact agr _ | apply agal | apply agdr | apply agst))) (fun hHeld => ?_)
      clear hK K
      try simp only [Act.put, List.setIfInBounds_toArray, List.set_cons_zero, List.set_cons_succ]
      refine wpAnyH_take (i := 13) (oi := { dst := some 126, op := Op.build 27 #[(2, Operand.tmp 125)], type := 27, pos := "ref.go:120", after := #[{ on := 12, ground := Ground.data }], guard := none }) (v := ?_) rfl (by kernel_rfl) (by kernel_rfl) (by kernel_rfl) (fun _ _ _ h => h) (Or.inl ⟨by rfl, ?_⟩) (by assumption) ?_
      rotate_left
      · (intro W hW; (try dsimp only at hW); go_simp <;> (with_reducible rfl))
      try simp only [Act.put, List.setIfInBounds_toArray, List.set_cons_zero, List.set_cons_succ]
      refine wpAnyH_ready (rs := [14]) (by kernel_rfl) (by simp) (AllReadyH.cons (o := { dst := none, op := Op.store 27 (Operand.tmp 5) (Operand.tmp 126), type := 0, pos := "ref.go:120", after := #[{ on := 13, ground := Ground.data }, { on := 12, ground := Ground.chain }, { on := 0, ground := Ground.phase }, { on := 1, ground := Ground.phase }, { on := 2, ground := Ground.phase }, { on := 3, ground := Ground.phase }, { on := 4, ground := Ground.phase }, { on := 5, ground := Ground.phase }, { on := 6, ground := Ground.phase }, { on := 7, ground := Ground.phase }, { on := 8, ground := Ground.phase }, { on := 9, ground := Ground.phase }, { on := 10, ground := Ground.phase }, { on := 11, ground := Ground.phase }, { on := 12, ground := Ground.phase }, { on := 13, ground := Ground.phase }], guard := none }) rfl (fun K hK => ?_) AllReadyH.nil)
      (rw [if_pos (by rfl)]; go_wp2_with (fail))
      refine hK.out _ _ (by (repeat (with_reducible first | assumption | exact agr _ | apply agal | apply agdr | apply agst))) (fun hHeld => ?_)
      clear hK K
      try simp only [Act.put, List.setIfInBounds_toArray, List.set_cons_zero, List.set_cons_succ]
      refine wpAnyH_done (by kernel_rfl) ?_ _
      refine NoPanic.normal ?_
      have hx22 := ((hx21.put 0 (.int .i64 0) (by simp; omega)).put 1 (.bool false) (by simp; omega)).put 2 (.slice a21 m' d21) (by simp; omega)
      have n22 := n21.put3 hr5 (.int .i64 0) (.bool false) (.slice a21 m' d21)
      have hb22 := (((below_via HB20.out hb21).setCell (p := ⟨w1.heap.size, 0, none⟩) (show w.heap.size ≤ w1.heap.size by omega) (.int .i64 0)).setCell (p := ⟨w1.heap.size, 1, none⟩) (show w.heap.size ≤ w1.heap.size by omega) (.bool false)).setCell (p := ⟨w1.heap.size, 2, none⟩) (show w.heap.size ≤ w1.heap.size by omega) (.slice a21 m' d21)
      obtain ⟨W22, hW22⟩ : ∃ x, (((w21.setCell ⟨w1.heap.size, 0, none⟩ (.int .i64 0)).setCell ⟨w1.heap.size, 1, none⟩ (.bool false)).setCell ⟨w1.heap.size, 2, none⟩ (.slice a21 m' d21)) = x := ⟨_, rfl⟩
      rw [hW22] at hx22 n22 hb22 ⊢
      have hs22 : w1.heap.size < W22.heap.size := hx22.lt 0 rfl
      have hbj : Bnd (n + 1) (kidAt L2 j) := by
        rw [HKJ.out]
        have := HO.out.both j (by have := HLM.out; omega)
        rwa [HA.out, HBE.out, HKEY.out] at this
      have CP2 := parted_any (F := fun x => Fr F W11 x ∧ x < W22.heap.size) (fun _ h => h.2) n22.lt (by rw [HQ3.out]; exact hm'9) hbj (by rw [HQ3.out]; exact hjm')
      have x0 := hx22.cell 0 0 rfl rfl
      have x1' := hx22.cell 0 1 rfl rfl
      have x2 := hx22.cell 0 2 rfl rfl
      have HX22 := Lib.hid hx22
      have HB22 := Lib.hid hb22
      clear hx22 hb22 n22 n21 hx21 hb21 hA21 z0 z1 z2 y0 y1 y2 n2 nk b0 b1 b2 hHeld hbj hW22
      go_wp2_with fail
      refine CP2.mono ?_
      rintro e w23 hpt
      obtain ⟨a23, c23, rfl, hn23, hb23⟩ := hpt.split
      clear CP2 hpt x0 x1' x2
      obtain ⟨T2, hT2⟩ : ∃ T, splitR 0 L2 j = T := ⟨_, rfl⟩
      rw [hT2] at hn23 ⊢
      obtain ⟨B2, hB2⟩ : ∃ B, (splitT L2 j).isSome = B := ⟨_, rfl⟩
      rw [hB2]
      obtain ⟨p2, hp2⟩ : ∃ x, T2.page = x := ⟨_, rfl⟩
      obtain ⟨l2, hl2⟩ : ∃ x, T2.isLeaf = x := ⟨_, rfl⟩
      obtain ⟨m2, hm2'⟩ : ∃ x, cntT T2 = x := ⟨_, rfl⟩
      rw [hp2, hl2, hm2'] at hn23 ⊢
      have hx23 := HX22.out.step hb23
      have z0 := hx23.cell 0 0 rfl rfl
      have z1 := hx23.cell 0 1 rfl rfl
      have z2 := hx23.cell 0 2 rfl rfl
      have y0 := hx23.frozen 0 0 rfl
      have y1 := hx23.frozen 0 1 rfl
      have y2 := hx23.frozen 0 2 rfl
      have hx24 := ((hx23.put 0 (.int .i64 p2) (by simp; omega)).put 1 (.bool l2) (by simp; omega)).put 2 (.slice a23 m2 c23) (by simp; omega)
      have hrG5 : ¬ Fr (fun x => Fr F W11 x ∧ x < W22.heap.size) W22 w1.heap.size := fun hg => by
        rcases hg with hg | hg
        · exact hr5 hg.1
        · omega
      have hrG4 : ¬ Fr (fun x => Fr F W11 x ∧ x < W22.heap.size) W22 (w.heap.size + 1) := fun hg => by
        rcases hg with hg | hg
        · rcases hg.1 with hg | hg
          · have := hF _ hg; omega
          · omega
        · omega
      have n24 := hn23.put3 hrG5 (.int .i64 p2) (.bool l2) (.slice a23 m2 c23)
      have hb24 := (((below_via HB22.out hb23).setCell (p := ⟨w1.heap.size, 0, none⟩) (show w.heap.size ≤ w1.heap.size by omega) (.int .i64 p2)).setCell (p := ⟨w1.heap.size, 1, none⟩) (show w.heap.size ≤ w1.heap.size by omega) (.bool l2)).setCell (p := ⟨w1.heap.size, 2, none⟩) (show w.heap.size ≤ w1.heap.size by omega) (.slice a23 m2 c23)
      have HE := Lib.hid (rnode_end (T := T2) (r := w.heap.size + 1) (show w.heap.size ≤ w.heap.size + 1 by omega) hrG4 (fun b hb => by
        rcases hb with hb | hb
        · rcases hb.1 with hb | hb
          · exact .inl hb
          · exact .inr (by omega)
        · exact .inr (by omega)) n24 hb24)
      have hmj : mendT p l k = T2 := by
        rw [mend_join (by rw [HSN.out]; rfl) (by rw [HKD.out]; exact HLOW.out) (by have := HLM.out; omega), HLM.out, HJ.out, HL2.out]
        exact hT2
      have u0 := hx24.cell 0 0 rfl rfl
      have u1 := hx24.cell 0 1 rfl rfl
      have u2 := hx24.cell 0 2 rfl rfl
      have v0 := hx24.cell 1 0 rfl rfl
      have v1 := hx24.cell 1 1 rfl rfl
      have v2 := hx24.cell 1 2 rfl rfl
      have v0' := hx24.frozen 1 0 rfl
      have v1' := hx24.frozen 1 1 rfl
      have v2' := hx24.frozen 1 2 rfl
      have hxe := (((hx24.sub (m := [(w.heap.size + 1, [.int .i64 0, .bool false, .slice none 0 0])]) (by simp)).put 0 (.int .i64 p2) (by simp)).put 1 (.bool l2) (by simp)).put 2 (.slice a23 m2 c23) (by simp)
      have t0 := hxe.cell 0 0 rfl rfl
      have t1 := hxe.cell 0 1 rfl rfl
      have t2 := hxe.cell 0 2 rfl rfl
      have HMJ := Lib.hid hmj
      clear hx23 hx24 hxe n24 hb24 hb23 hn23 hrG5 hrG4 hT2 hB2 hp2 hl2 hm2' hmj
      go_wp2_with fail
      refine bodyPost_ret (v := .agg #[.int .i64 p2, .bool l2, .slice a23 m2 c23]) (by simp only [results, Tryz.results127]; simp [go_sem, t0, t1, t2]) rfl ?_
      rw [HMJ.out]
      exact HE.out
end Go.Proofs.YtpghlmcoajaiiaaGreatDoor

/- The document's Top. -/
namespace Go.Proofs.YtpghlmcoajaiiaaGreatDoor
open Go.RowKit

set_option maxRecDepth 100000 in
set_option maxHeartbeats 2000000 in
theorem rtop_any : ∀ {N : Nat} {F : Nat → Prop} {w : World} {cs : List Value} {t : Tr}, (∀ b, F b → b < w.heap.size) → RNodeOn F N w cs t → TopOk N t → Calls Tryz.prog 87 #[.agg cs.toArray] w (RNodeTo F (N + 1) w (topT N t))
  | 0, _, _, _, _, _, h, _ => h.elim
  | N + 1, F, w, cs, t, hF, h, ho => by
    have IH := fun {F : Nat → Prop} {w : World} {cs : List Value} {t : Tr} (hF : ∀ b, F b → b < w.heap.size) (h : RNodeOn F N w cs t) (ho : TopOk N t) => rtop_any hF h ho
    obtain ⟨o1, o2, o3⟩ := ho
    have H := Lib.hid h
    obtain ⟨a, c, rfl, h1, _⟩ := h.at
    obtain ⟨_, e2, e3⟩ := h1.lens
    obtain ⟨lf, hlf⟩ : ∃ x, t.isLeaf = x := ⟨_, rfl⟩
    obtain ⟨p, hp⟩ : ∃ x, t.page = x := ⟨_, rfl⟩
    obtain ⟨m, hm⟩ : ∃ x, cntT t = x := ⟨_, rfl⟩
    have hm9 : m ≤ 1000 := by rw [← hm]; cases t <;> exact o1.1
    rw [hlf, hp, hm] at h H
    rw [hm] at h1 e2
    rw [hlf, hp, hm]
    obtain ⟨W2, hW2⟩ : ∃ x, (w.alloc (.cells #[.int .i64 p, .bool lf, .slice a m c] 27)).alloc (.cells #[.int .i64 0, .bool false, .slice none 0 0] 27) = x := ⟨_, rfl⟩
    have hb2 : Below w.heap.size w W2 := by rw [← hW2]; exact Below.al (Below.al (Below.refl _ _))
    have hx2 : Boxes W2 [(w.heap.size + 1, [.int .i64 0, .bool false, .slice none 0 0]), (w.heap.size, [.int .i64 p, .bool lf, .slice a m c])] := by
      rw [← hW2]
      exact ((Boxes.nil w).alloc #[.int .i64 p, .bool lf, .slice a m c] 27 (b := w.heap.size) rfl).alloc #[.int .i64 0, .bool false, .slice none 0 0] 27 (b := w.heap.size + 1) (by simp)
    have hsz2 : W2.heap.size = w.heap.size + 2 := by rw [← hW2]; simp
    have n0 := hx2.cell 1 0 rfl rfl
    have n1 := hx2.cell 1 1 rfl rfl
    have n2 := hx2.cell 1 2 rfl rfl
    have HX2 := Lib.hid hx2
    have HB2 := Lib.hid hb2
    have HR := Lib.hid h1
    have HLF := Lib.hid hlf
    have HM := Lib.hid hm
    have HO1 := Lib.hid o1
    have HO2 := Lib.hid o2
    have HO3 := Lib.hid o3
    have hF2 : ∀ b, F b → b < W2.heap.size := fun b hb => by have := hF b hb; omega
    clear hx2 hb2 h1 h hlf hp hm o1 o2 o3
    show Calls _ _ #[.agg #[.int .i64 p, .bool lf, .slice a m c]] _ _
    by_cases hkid : lf = false ∧ m = 1
    · obtain ⟨rfl, rfl⟩ := hkid
      cases t with
      | leaf p0 l => have := HLF.out; simp [Tr.isLeaf] at this
      | node p0 l =>
      have hl1 : l.length = 1 := HM.out
      obtain ⟨b, off, bk, ok, kcs, pa, pn, pc, kc, rfl, hbb, hbk, hon, d0, d1, d2, d3, hck, hkc1, hkc2⟩ := RNodeOn.kid HR.out (show 0 < 1 by omega)
      have CT := IH hF2 (hon.below HB2.out) (HO3.out p0 l rfl hl1)
      have HTE : Hid (topT (N + 1) (.node p0 l) = topT N (kidAt l 0)) := Lib.hid (topT_kid hl1)
      cases N with
      | zero => exact hon.elim
      | succ N =>
      obtain ⟨ak, ck, rfl, _, _⟩ := hon.at
      generalize (kidAt l 0).page = kp at *
      generalize (kidAt l 0).isLeaf = kl at *
      generalize cntT (kidAt l 0) = km at *
      have v3 : W2.cell? ⟨b, off + 3, none⟩ = some (.slice (some ⟨bk, ok, none⟩) 1 kc) := (HB2.out.cell (p := ⟨b, off + 3, none⟩) hbb).trans (by simpa using d3)
      have k0 : W2.cell? ⟨bk, ok, none⟩ = some (.int .i64 kp) := (HB2.out.cell (p := ⟨bk, ok, none⟩) hbk).trans (by simpa using hck 0 _ rfl)
      have k1 : W2.cell? ⟨bk, ok + 1, none⟩ = some (.bool kl) := (HB2.out.cell (p := ⟨bk, ok + 1, none⟩) hbk).trans (by simpa using hck 1 _ rfl)
      have k2 : W2.cell? ⟨bk, ok + 2, none⟩ = some (.slice ak km ck) := (HB2.out.cell (p := ⟨bk, ok + 2, none⟩) hbk).trans (by simpa using hck 2 _ rfl)
      clear hon d0 d1 d2 d3 hck IH hl1
      go_enter Tryz.func87, Tryz.ntmps87
      go_wp2_with fail
      refine CT.mono ?_
      rintro e w1 hq
      obtain ⟨p1, l1, a1, m1, d1, rfl, hn1, hb1⟩ := hq.split
      have hx1 := HX2.out.step hb1
      have hbw1 := below_via HB2.out hb1
      have z0 := hx1.cell 0 0 rfl rfl
      have z1 := hx1.cell 0 1 rfl rfl
      have z2 := hx1.cell 0 2 rfl rfl
      have y0 := hx1.frozen 0 0 rfl
      have y1 := hx1.frozen 0 1 rfl
      have y2 := hx1.frozen 0 2 rfl
      obtain ⟨t0, t1, t2, HE⟩ := rend (F := F) (w := w) (hx1.sub (m := [(w.heap.size + 1, [.int .i64 0, .bool false, .slice none 0 0])]) (by simp)) (by omega) (fun hg => by rcases hg with hg | hg; have := hF _ hg; omega; omega) (fun b hb => by rcases hb with hb | hb; exact .inl hb; exact .inr (by omega)) (hn1.more (show N + 1 + 1 ≤ N + 1 + 1 + 1 by omega)) hbw1
      clear hx1 hn1 hb1 hbw1 hq CT
      go_wp2_with fail
      refine bodyPost_ret (v := .agg #[.int .i64 p1, .bool l1, .slice a1 m1 d1]) (by simp only [results, Tryz.results87]; simp [go_sem, t0, t1, t2]) rfl ?_
      rw [HTE.out]
      exact HE.out
    have CS := rsizes_any (H.out.below HB2.out) HO1.out
    have HSM := Lib.hid (HO1.out.small)
    obtain ⟨S, hS⟩ : ∃ x, sizesT t = x := ⟨_, rfl⟩
    rw [hS] at CS HSM
    have HNK : Hid (∀ p l, t = .node p l → l.length ≠ 1) := Lib.hid (fun q l e h1 => hkid (by subst e; exact ⟨HLF.out.symm, by rw [← HM.out]; exact h1⟩))
    have HS := Lib.hid hS
    clear IH hS
    have hlm : lf = true ∨ (lf = false ∧ ((m : Int) == 1) = false) := by
      cases lf with
      | true => exact .inl rfl
      | false => exact .inr ⟨rfl, by simp at hkid; simp; omega⟩
    clear hkid
    rcases hlm with rfl | ⟨rfl, hm1⟩
    · go_enter Tryz.func87, Tryz.ntmps87
      go_wp2_with fail
      refine CS.mono ?_
      rintro e w4 ⟨v4, rfl, ho4, hb4⟩
      obtain ⟨a4, c4, rfl, hrow⟩ := Row.of_own ho4
      go_wp2_with fail
      refine (refAt_any _ _ _ _ _ hrow HSM.out).mono ?_
      rintro e w5 ⟨rfl, rfl⟩
      have hx4 := HX2.out.step hb4
      have hbw4 := below_via HB2.out hb4
      have hs4 : w.heap.size + 2 ≤ w4.heap.size := by have := hb4.size; omega
      obtain ⟨z, hz⟩ : ∃ z, atF S = z := ⟨_, rfl⟩
      rw [hz]
      have q0 := hx4.cell 1 0 rfl rfl
      have q1 := hx4.cell 1 1 rfl rfl
      have q2 := hx4.cell 1 2 rfl rfl
      by_cases hz0 : z = 0
      · subst hz0
        have HTE : Hid (topT (N + 1) t = t) := Lib.hid (topT_same HNK.out (by rw [HS.out]; exact hz))
        have z0 := hx4.cell 0 0 rfl rfl
        have z1 := hx4.cell 0 1 rfl rfl
        have z2 := hx4.cell 0 2 rfl rfl
        have y0 := hx4.frozen 0 0 rfl
        have y1 := hx4.frozen 0 1 rfl
        have y2 := hx4.frozen 0 2 rfl
        obtain ⟨t0, t1, t2, HE⟩ := rend (F := F) (w := w) (hx4.sub (m := [(w.heap.size + 1, [.int .i64 0, .bool false, .slice none 0 0])]) (by simp)) (by omega) (G := F) (fun hg => by have := hF _ hg; omega) (fun b hb => .inl hb) ((H.out.below hbw4).more (show N + 1 ≤ N + 1 + 1 by omega)) hbw4
        clear hx4 hbw4 hb4 ho4 hrow CS n0 n1 n2 hz
        go_wp2_with fail
        refine bodyPost_ret (v := .agg #[.int .i64 p, .bool true, .slice a m c]) (by simp only [results, Tryz.results87]; simp [go_sem, t0, t1, t2]) rfl ?_
        rw [HTE.out]
        exact HE.out
      have HTE : Hid (topT (N + 1) t = mendT 0 [([], t)] 0) := Lib.hid (topT_mend HNK.out (by rw [HS.out, hz]; exact hz0))
      have hz1 : (z == 0) = false := by simpa using hz0
      have HX4 := Lib.hid hx4
      have HBW4 := Lib.hid hbw4
      clear ho4 hrow CS n0 n1 n2 hz hz0 hb4
      obtain ⟨W6, hW6⟩ : ∃ x, (w4.alloc (.cells #[.int .i64 p, .bool true, .slice a m c] 27)) = x := ⟨_, rfl⟩
      obtain ⟨W7, hW7⟩ : ∃ x, (W6.alloc (.cells #[.string ⟨#[]⟩, .string ⟨#[]⟩, .slice none 0 0, .slice (some ⟨w4.heap.size, 0, none⟩) 1 1] 145)) = x := ⟨_, rfl⟩
      have hs6 : W6.heap.size = w4.heap.size + 1 := by rw [← hW6]; simp
      have hs7 : W7.heap.size = w4.heap.size + 2 := by rw [← hW7]; simp; omega
      have hb47 : Below w4.heap.size w4 W7 := by rw [← hW7, ← hW6]; exact Below.al (Below.al (Below.refl _ _))
      have hA : BoxAt W7 w4.heap.size #[.int .i64 p, .bool true, .slice a m c] := by rw [← hW7, ← hW6]; exact BoxAt.al BoxAt.here
      have hC : BoxAt W7 (w4.heap.size + 1) #[.string ⟨#[]⟩, .string ⟨#[]⟩, .slice none 0 0, .slice (some ⟨w4.heap.size, 0, none⟩) 1 1] := by rw [← hW7, ← hs6]; exact BoxAt.here
      have hbw7 := below_via hbw4 hb47
      have nT : RNodeOn (fun x => Fr F w4 x ∧ x < W7.heap.size) (N + 1) W7 [.int .i64 p, .bool true, .slice a m c] t := ((H.out.below hbw7).lt).mono (fun b hb => ⟨.inl hb.1, hb.2⟩)
      have nC := one_cell hC (cell_kid [] hA nT ⟨.inr (Nat.le_refl _), hA.lt⟩)
      have nM : RNodeOn (fun x => Fr F w4 x ∧ x < W7.heap.size) (N + 2) W7 [.int .i64 0, .bool false, .slice (some ⟨w4.heap.size + 1, 0, none⟩) 1 1] (.node 0 [([], t)]) :=
        RNodeOn.mk (t := .node 0 [([], t)]) nC (.inr fun b off e => by cases e; exact ⟨.inr (by omega), hC.lt⟩)
      have hmo : MendOk N [([], t)] := ⟨by simp, fun c hc => by simp at hc; subst hc; exact HO1.out, fun c hc d hd => by simp at hc hd; subst hc hd; rfl, fun c hc => by simp at hc; subst hc; exact HO2.out, fun j hj => by simp at hj⟩
      have CM := rmend_any (fun _ h => h.2) nM hmo (k := 0) (by simp)
      rw [show ((0 : Nat) : Int) = 0 from rfl, ← hs6] at CM
      have HX7 := Lib.hid (hx4.step hb47)
      have HB7 := Lib.hid hbw7
      have HS6 := Lib.hid hs6
      clear hx4 hbw4 hb47 hA hC nT nC nM hmo hbw7 hs6
      go_wp2_with fail
      refine CM.mono ?_
      rintro e w8 hq
      obtain ⟨p1, l1, a1, m1, d1, rfl, hn1, hb1⟩ := hq.split
      have hx1 := HX7.out.step hb1
      have hbw1 := below_via HB7.out hb1
      have z0 := hx1.cell 0 0 rfl rfl
      have z1 := hx1.cell 0 1 rfl rfl
      have z2 := hx1.cell 0 2 rfl rfl
      have y0 := hx1.frozen 0 0 rfl
      have y1 := hx1.frozen 0 1 rfl
      have y2 := hx1.frozen 0 2 rfl
      obtain ⟨t0, t1, t2, HE⟩ := rend (F := F) (w := w) (hx1.sub (m := [(w.heap.size + 1, [.int .i64 0, .bool false, .slice none 0 0])]) (by simp)) (by omega) (fun hg => by
        rcases hg with hg | hg
        · rcases hg.1 with hg | hg
          · have := hF _ hg; omega
          · omega
        · omega) (fun b hb => by
        rcases hb with hb | hb
        · rcases hb.1 with hb | hb
          · exact .inl hb
          · exact .inr (by omega)
        · exact .inr (by omega)) hn1 hbw1
      clear hx1 hn1 hb1 hbw1 hq CM
      go_wp2_with fail
      refine bodyPost_ret (v := .agg #[.int .i64 p1, .bool l1, .slice a1 m1 d1]) (by simp only [results, Tryz.results87]; simp [go_sem, t0, t1, t2]) rfl ?_
      rw [HTE.out]
      exact HE.out
    · go_enter Tryz.func87, Tryz.ntmps87
      go_wp2_with fail
      refine CS.mono ?_
      rintro e w4 ⟨v4, rfl, ho4, hb4⟩
      obtain ⟨a4, c4, rfl, hrow⟩ := Row.of_own ho4
      go_wp2_with fail
      refine (refAt_any _ _ _ _ _ hrow HSM.out).mono ?_
      rintro e w5 ⟨rfl, rfl⟩
      have hx4 := HX2.out.step hb4
      have hbw4 := below_via HB2.out hb4
      have hs4 : w.heap.size + 2 ≤ w4.heap.size := by have := hb4.size; omega
      obtain ⟨z, hz⟩ : ∃ z, atF S = z := ⟨_, rfl⟩
      rw [hz]
      have q0 := hx4.cell 1 0 rfl rfl
      have q1 := hx4.cell 1 1 rfl rfl
      have q2 := hx4.cell 1 2 rfl rfl
      by_cases hz0 : z = 0
      · subst hz0
        have HTE : Hid (topT (N + 1) t = t) := Lib.hid (topT_same HNK.out (by rw [HS.out]; exact hz))
        have z0 := hx4.cell 0 0 rfl rfl
        have z1 := hx4.cell 0 1 rfl rfl
        have z2 := hx4.cell 0 2 rfl rfl
        have y0 := hx4.frozen 0 0 rfl
        have y1 := hx4.frozen 0 1 rfl
        have y2 := hx4.frozen 0 2 rfl
        obtain ⟨t0, t1, t2, HE⟩ := rend (F := F) (w := w) (hx4.sub (m := [(w.heap.size + 1, [.int .i64 0, .bool false, .slice none 0 0])]) (by simp)) (by omega) (G := F) (fun hg => by have := hF _ hg; omega) (fun b hb => .inl hb) ((H.out.below hbw4).more (show N + 1 ≤ N + 1 + 1 by omega)) hbw4
        clear hx4 hbw4 hb4 ho4 hrow CS n0 n1 n2 hz
        go_wp2_with fail
        refine bodyPost_ret (v := .agg #[.int .i64 p, .bool false, .slice a m c]) (by simp only [results, Tryz.results87]; simp [go_sem, t0, t1, t2]) rfl ?_
        rw [HTE.out]
        exact HE.out
      have HTE : Hid (topT (N + 1) t = mendT 0 [([], t)] 0) := Lib.hid (topT_mend HNK.out (by rw [HS.out, hz]; exact hz0))
      have hz1 : (z == 0) = false := by simpa using hz0
      have HX4 := Lib.hid hx4
      have HBW4 := Lib.hid hbw4
      clear ho4 hrow CS n0 n1 n2 hz hz0 hb4
      obtain ⟨W6, hW6⟩ : ∃ x, (w4.alloc (.cells #[.int .i64 p, .bool false, .slice a m c] 27)) = x := ⟨_, rfl⟩
      obtain ⟨W7, hW7⟩ : ∃ x, (W6.alloc (.cells #[.string ⟨#[]⟩, .string ⟨#[]⟩, .slice none 0 0, .slice (some ⟨w4.heap.size, 0, none⟩) 1 1] 145)) = x := ⟨_, rfl⟩
      have hs6 : W6.heap.size = w4.heap.size + 1 := by rw [← hW6]; simp
      have hs7 : W7.heap.size = w4.heap.size + 2 := by rw [← hW7]; simp; omega
      have hb47 : Below w4.heap.size w4 W7 := by rw [← hW7, ← hW6]; exact Below.al (Below.al (Below.refl _ _))
      have hA : BoxAt W7 w4.heap.size #[.int .i64 p, .bool false, .slice a m c] := by rw [← hW7, ← hW6]; exact BoxAt.al BoxAt.here
      have hC : BoxAt W7 (w4.heap.size + 1) #[.string ⟨#[]⟩, .string ⟨#[]⟩, .slice none 0 0, .slice (some ⟨w4.heap.size, 0, none⟩) 1 1] := by rw [← hW7, ← hs6]; exact BoxAt.here
      have hbw7 := below_via hbw4 hb47
      have nT : RNodeOn (fun x => Fr F w4 x ∧ x < W7.heap.size) (N + 1) W7 [.int .i64 p, .bool false, .slice a m c] t := ((H.out.below hbw7).lt).mono (fun b hb => ⟨.inl hb.1, hb.2⟩)
      have nC := one_cell hC (cell_kid [] hA nT ⟨.inr (Nat.le_refl _), hA.lt⟩)
      have nM : RNodeOn (fun x => Fr F w4 x ∧ x < W7.heap.size) (N + 2) W7 [.int .i64 0, .bool false, .slice (some ⟨w4.heap.size + 1, 0, none⟩) 1 1] (.node 0 [([], t)]) :=
        RNodeOn.mk (t := .node 0 [([], t)]) nC (.inr fun b off e => by cases e; exact ⟨.inr (by omega), hC.lt⟩)
      have hmo : MendOk N [([], t)] := ⟨by simp, fun c hc => by simp at hc; subst hc; exact HO1.out, fun c hc d hd => by simp at hc hd; subst hc hd; rfl, fun c hc => by simp at hc; subst hc; exact HO2.out, fun j hj => by simp at hj⟩
      have CM := rmend_any (fun _ h => h.2) nM hmo (k := 0) (by simp)
      rw [show ((0 : Nat) : Int) = 0 from rfl, ← hs6] at CM
      have HX7 := Lib.hid (hx4.step hb47)
      have HB7 := Lib.hid hbw7
      have HS6 := Lib.hid hs6
      clear hx4 hbw4 hb47 hA hC nT nC nM hmo hbw7 hs6
      go_wp2_with fail
      refine CM.mono ?_
      rintro e w8 hq
      obtain ⟨p1, l1, a1, m1, d1, rfl, hn1, hb1⟩ := hq.split
      have hx1 := HX7.out.step hb1
      have hbw1 := below_via HB7.out hb1
      have z0 := hx1.cell 0 0 rfl rfl
      have z1 := hx1.cell 0 1 rfl rfl
      have z2 := hx1.cell 0 2 rfl rfl
      have y0 := hx1.frozen 0 0 rfl
      have y1 := hx1.frozen 0 1 rfl
      have y2 := hx1.frozen 0 2 rfl
      obtain ⟨t0, t1, t2, HE⟩ := rend (F := F) (w := w) (hx1.sub (m := [(w.heap.size + 1, [.int .i64 0, .bool false, .slice none 0 0])]) (by simp)) (by omega) (fun hg => by
        rcases hg with hg | hg
        · rcases hg.1 with hg | hg
          · have := hF _ hg; omega
          · omega
        · omega) (fun b hb => by
        rcases hb with hb | hb
        · rcases hb.1 with hb | hb
          · exact .inl hb
          · exact .inr (by omega)
        · exact .inr (by omega)) hn1 hbw1
      clear hx1 hn1 hb1 hbw1 hq CM
      go_wp2_with fail
      refine bodyPost_ret (v := .agg #[.int .i64 p1, .bool l1, .slice a1 m1 d1]) (by simp only [results, Tryz.results87]; simp [go_sem, t0, t1, t2]) rfl ?_
      rw [HTE.out]
      exact HE.out
end Go.Proofs.YtpghlmcoajaiiaaGreatDoor

/- The document's put, in a branch (printed by gen_trePv.py). -/
namespace Go.Proofs.YtpghlmcoajaiiaaGreatDoor
open Go.RowKit

set_option maxRecDepth 100000 in
set_option maxHeartbeats 3000000 in
theorem rput_node {N : Nat} {key d : List UInt8} (IH : ∀ {F : Nat → Prop} {w : World} {cs : List Value} {t : Tr}, (∀ b, F b → b < w.heap.size) → RNodeOn F N w cs t → PutOk N t key ⟨d, []⟩ → Calls Tryz.prog 88 #[.agg cs.toArray, .string (strOf key), .string (strOf d)] w (RNodeTo F N w (putT N t key ⟨d, []⟩)))
    {F : Nat → Prop} {w : World} {cs : List Value} {p : Int} {l : List (List UInt8 × Tr)} (hF : ∀ b, F b → b < w.heap.size) (h : RNodeOn F (N + 1) w cs (.node p l)) (ho : PutOk (N + 1) (.node p l) key ⟨d, []⟩) :
    Calls Tryz.prog 88 #[.agg cs.toArray, .string (strOf key), .string (strOf d)] w (RNodeTo F (N + 1) w (putT (N + 1) (.node p l) key ⟨d, []⟩)) := by
  obtain ⟨o1, o2, o3, M, rfl, o4⟩ := ho
  have H := Lib.hid h
  obtain ⟨a, c, rfl, h1, hfa⟩ := h.at
  obtain ⟨e1, e2, e3⟩ := h1.lens
  obtain ⟨m, hml⟩ : ∃ m, cntT (.node p l) = m := ⟨_, rfl⟩
  have hlm : l.length = m := hml
  rw [hml] at h1 hfa e1 e2 ⊢
  obtain ⟨k, hk⟩ : ∃ k, wayF (keysOf l) key = k := ⟨_, rfl⟩
  have hkm : k < m := by rw [← hk, ← hlm, ← show (keysOf l).length = l.length by simp [keysOf]]; exact wayF_lt key (by simpa [keysOf] using o1)
  have hput : putT (M + 1 + 1) (.node p l) key ⟨d, []⟩ = mendT 0 (l.set k (keyAt l k, putT (M + 1) (kidAt l k) key ⟨d, []⟩)) k := by rw [← hk]; rfl
  rw [hk] at o3 o4
  rw [hput]
  obtain ⟨b, off, bk, ok, kcs, pa, pn, pc, kc, rfl, hbb, hbk, hon, d0, d1, d2, d3, hck, hkc1, hkc2⟩ := RNodeOn.kid h1 hkm
  have hm9 : m ≤ 1000 := by rw [← hlm]; exact o2
  obtain ⟨kid, hkd⟩ : ∃ x, kidAt l k = x := ⟨_, rfl⟩
  obtain ⟨kj, hkj⟩ : ∃ x, keyAt l k = x := ⟨_, rfl⟩
  rw [hkd] at hon o3 o4 ⊢
  rw [hkj] at d0 o4 ⊢
  obtain ⟨T, hT⟩ : ∃ x, putT (M + 1) kid key ⟨d, []⟩ = x := ⟨_, rfl⟩
  have IH := fun {F : Nat → Prop} {w : World} {cs : List Value} (h1 : ∀ b, F b → b < w.heap.size) (h2 : RNodeOn F (M + 1) w cs kid) => IH h1 h2 o3
  rw [hT] at IH o4 ⊢
  obtain ⟨L2, hL2⟩ : ∃ x, l.set k (kj, T) = x := ⟨_, rfl⟩
  have q2 := set_cells (show k < l.length by omega) p kj T
  have q3 : L2.length = m := by rw [← hL2, List.length_set]; exact hlm
  rw [hL2] at o4 q2 ⊢
  obtain ⟨ak, ck, rfl, _, _⟩ := hon.at
  obtain ⟨km, hkm'⟩ : ∃ x, cntT kid = x := ⟨_, rfl⟩
  obtain ⟨kp, hkp⟩ : ∃ x, kid.page = x := ⟨_, rfl⟩
  obtain ⟨kl, hkl⟩ : ∃ x, kid.isLeaf = x := ⟨_, rfl⟩
  rw [hkm', hkp, hkl] at hon hck
  show Calls _ _ #[.agg #[.int .i64 p, .bool false, .slice (some ⟨b, off, none⟩) m c], .string (strOf key), .string (strOf d)] _ _
  obtain ⟨W2, hW2⟩ : ∃ x, (w.alloc (.cells #[.int .i64 p, .bool false, .slice (some ⟨b, off, none⟩) m c] 27)).alloc (.cells #[.int .i64 0, .bool false, .slice none 0 0] 27) = x := ⟨_, rfl⟩
  have hb2 : Below w.heap.size w W2 := by rw [← hW2]; exact Below.al (Below.al (Below.refl _ _))
  have hx2 : Boxes W2 [(w.heap.size + 1, [.int .i64 0, .bool false, .slice none 0 0]), (w.heap.size, [.int .i64 p, .bool false, .slice (some ⟨b, off, none⟩) m c])] := by
    rw [← hW2]
    exact ((Boxes.nil w).alloc #[.int .i64 p, .bool false, .slice (some ⟨b, off, none⟩) m c] 27 (b := w.heap.size) rfl).alloc #[.int .i64 0, .bool false, .slice none 0 0] 27 (b := w.heap.size + 1) (by simp)
  have hsz2 : W2.heap.size = w.heap.size + 2 := by rw [← hW2]; simp
  have n0 := hx2.cell 1 0 rfl rfl
  have n1 := hx2.cell 1 1 rfl rfl
  have n2 := hx2.cell 1 2 rfl rfl
  have CW := rway_any (H.out.below hb2).toRIn key (by rw [hml]; exact hm9)
  rw [show (Tr.node p l).keys = keysOf l from rfl, hk, hml] at CW
  have HX2 := Lib.hid hx2
  have HB2 := Lib.hid hb2
  have HR := Lib.hid h1
  have HON := Lib.hid hon
  have HD0 := Lib.hid d0
  have HD3 := Lib.hid d3
  have HCK := Lib.hid hck
  have HO4 := Lib.hid o4
  have Q2 := Lib.hid q2
  have HQ3 := Lib.hid q3
  clear hx2 hb2 h1 hon d0 d1 d2 d3 hck h hfa hml hkp hkm' hkl e1 hk hput hkd hkj o3 o4 q2 q3 hL2 hT hlm o1 o2
  go_enter Tryz.func88, Tryz.ntmps88
  go_wp2_with fail
  refine CW.mono ?_
  rintro e w1 ⟨rfl, hb1⟩
  have hx1 := HX2.out.step hb1
  have hbw1 := below_via HB2.out hb1
  have v2 := hx1.cell 1 2 rfl rfl
  have v3 := (hbw1.cell (p := ⟨b, off + k * 4 + 3, none⟩) hbb).trans HD3.out
  have k0 : w1.cell? ⟨bk, ok, none⟩ = some (.int .i64 kp) := (hbw1.cell (p := ⟨bk, ok, none⟩) hbk).trans (by simpa using HCK.out 0 _ rfl)
  have k1 : w1.cell? ⟨bk, ok + 1, none⟩ = some (.bool kl) := (hbw1.cell (p := ⟨bk, ok + 1, none⟩) hbk).trans (by simpa using HCK.out 1 _ rfl)
  have k2 : w1.cell? ⟨bk, ok + 2, none⟩ = some (.slice ak km ck) := (hbw1.cell (p := ⟨bk, ok + 2, none⟩) hbk).trans (by simpa using HCK.out 2 _ rfl)
  have hs1 : w.heap.size + 2 ≤ w1.heap.size := by have := hb1.size; omega
  have CP := IH (fun b hb => by have := hF b hb; omega) (HON.out.below hbw1)
  have HX1 := Lib.hid hx1
  have HBW1 := Lib.hid hbw1
  clear CW hx1 hbw1 hb1 n0 n1 n2 IH hW2
  go_wp2_with fail
  refine CP.mono ?_
  rintro e w3 hq
  obtain ⟨p3, l3, a3, m3, d3, rfl, hn3, hb3⟩ := hq.split
  obtain ⟨W4, hW4⟩ : ∃ x, w3.alloc (.cells #[.int .i64 p3, .bool l3, .slice a3 m3 d3] 27) = x := ⟨_, rfl⟩
  have hb34 : Below w3.heap.size w3 W4 := by rw [← hW4]; exact Below.al (Below.refl _ _)
  have hx4 : Boxes W4 [(w3.heap.size, [.int .i64 p3, .bool l3, .slice a3 m3 d3]), (w.heap.size + 1, [.int .i64 0, .bool false, .slice none 0 0]), (w.heap.size, [.int .i64 p, .bool false, .slice (some ⟨b, off, none⟩) m c])] := by
    rw [← hW4]
    exact (HX1.out.step hb3).alloc #[.int .i64 p3, .bool l3, .slice a3 m3 d3] 27 (b := w3.heap.size) rfl
  have hs3 : w.heap.size + 2 ≤ w3.heap.size := Nat.le_trans hs1 hb3.size
  have hs4 : W4.heap.size = w3.heap.size + 1 := by rw [← hW4]; simp
  have hb4w := below_via HBW1.out (below_via hb3 hb34)
  have nT : RNodeOn (Fr F W2) (M + 1) W4 [.int .i64 p3, .bool l3, .slice a3 m3 d3] T := (hn3.below hb34).mono (fun b hb => by
    rcases hb with hb | hb
    · exact .inl hb
    · exact .inr (by omega))
  have hG : ∀ b, W4.heap.size ≤ b → Fr F W2 b := fun b hb => .inr (by omega)
  have TR : TabR 4 (RcOn (Fr F W2) (M + 1) W4) W4 (some ⟨b, off, none⟩) m c (cellsR (.node p l)) := TabR.mono (TabR.below (Nat.le_refl _) hb4w HR.out) (fun _ _ hy => RcOn.mono (fun b hf => Fr.old b hf) (RcOn.below hy hb4w))
  have CW2 : ∀ (W : World) (ra z : Nat), Below W4.heap.size W4 W → W4.heap.size ≤ ra → BoxAt W ra #[.int .i64 p3, .bool l3, .slice a3 m3 d3] → BoxAt W z #[.string (strOf kj), .string ⟨#[]⟩, .slice none 0 0, .slice (some ⟨ra, 0, none⟩) 1 1] →
      Calls Tryz.prog 129 #[.slice (some ⟨b, off, none⟩) m c, .int .i64 (k : Int), .slice (some ⟨z, 0, none⟩) 1 1] W (RowTo (Fr F W2) (M + 1) W4 (.node 0 L2) m) := fun W ra z hb r1 hA hz =>
    with_one (t := .node 0 L2) rfl HQ3.out hb hG TR hkm (by omega) Q2.out rfl nT r1 hA hz
  have CM : ∀ (W : World) (a5 : Option Addr) (d5 : Nat), RNodeOn (Fr F W2) (M + 2) W [.int .i64 0, .bool (Tr.node 0 L2).isLeaf, .slice a5 m d5] (.node 0 L2) → Calls Tryz.prog 127 #[.agg #[.int .i64 0, .bool false, .slice a5 m d5], .int .i64 (k : Int)] W (RNodeTo (fun x => Fr F W2 x ∧ x < W.heap.size) (M + 2) W (mendT 0 L2 k)) := fun W a5 d5 hn =>
    rmend_any (fun _ h => h.2) hn.lt HO4.out (by rw [HQ3.out]; exact hkm)
  have hlw := hx4.lt 2 rfl
  have hl3 := hx4.lt 0 rfl
  have hbw : b < W4.heap.size := Nat.lt_of_lt_of_le hbb hb4w.size
  have n2 : ∀ W, AgreeF (fun x => x ≠ w.heap.size + 1) W4 W → W.cell? ⟨w.heap.size, 2, none⟩ = some (.slice (some ⟨b, off, none⟩) m c) := fun W hW => (hW.cell (by show w.heap.size ≠ w.heap.size + 1; omega) hlw).trans (hx4.cell 2 2 rfl rfl)
  have nk : ∀ W, AgreeF (fun x => x ≠ w.heap.size + 1) W4 W → W.cell? ⟨b, off + k * 4, none⟩ = some (.string (strOf kj)) := fun W hW => (hW.cell (by show b ≠ w.heap.size + 1; omega) hbw).trans ((hb4w.cell (p := ⟨b, off + k * 4, none⟩) hbb).trans HD0.out)
  have b0 : ∀ W, AgreeF (fun x => x ≠ w.heap.size + 1) W4 W → W.cell? ⟨w3.heap.size, 0, none⟩ = some (.int .i64 p3) := fun W hW => (hW.cell (by show w3.heap.size ≠ w.heap.size + 1; omega) hl3).trans (hx4.cell 0 0 rfl rfl)
  have b1 : ∀ W, AgreeF (fun x => x ≠ w.heap.size + 1) W4 W → W.cell? ⟨w3.heap.size, 1, none⟩ = some (.bool l3) := fun W hW => (hW.cell (by show w3.heap.size ≠ w.heap.size + 1; omega) hl3).trans (hx4.cell 0 1 rfl rfl)
  have b2 : ∀ W, AgreeF (fun x => x ≠ w.heap.size + 1) W4 W → W.cell? ⟨w3.heap.size, 2, none⟩ = some (.slice a3 m3 d3) := fun W hW => (hW.cell (by show w3.heap.size ≠ w.heap.size + 1; omega) hl3).trans (hx4.cell 0 2 rfl rfl)
  have HX4 := Lib.hid (hx4.sub (m := [(w.heap.size + 1, [.int .i64 0, .bool false, .slice none 0 0])]) (by simp))
  have HB4 := Lib.hid hb4w
  have hA00 : AgreeF (fun x => x ≠ w.heap.size + 1) W4 W4.drew := agr _
  have HS4 := Lib.hid hs4
  clear hx4 hb34 hb4w nT TR hn3 hb3 hq CP v2 v3 k0 k1 k2 hs4 hG
  go_upto_region 4 with (fail)
  clear hW4
  refine wp_region_noPanic ?_
  refine wp_region_held_drew (S := (fun W => AgreeF (fun x => x ≠ w.heap.size + 1) W4 W)) (by kernel_rfl) (by (repeat (with_reducible first | assumption | exact agr _ | apply agal | apply agdr | apply agst))) (fun hHeld => ?_)
  refine wpAnyH_take (i := 0) (oi := { dst := some 29, op := Op.fieldAddr 27 (Operand.tmp 3) 2, type := 0, pos := "ref.go:141", after := #[], guard := none }) (v := ?_) rfl (by kernel_rfl) (by kernel_rfl) (by kernel_rfl) (fun _ _ _ h => h) (Or.inl ⟨by rfl, ?_⟩) (by assumption) ?_
  rotate_left
  · (intro W hW; (try dsimp only at hW); go_simp <;> (with_reducible rfl))
  try simp only [Act.put, List.setIfInBounds_toArray, List.set_cons_zero, List.set_cons_succ]
  refine wpAnyH_take (i := 1) (oi := { dst := some 30, op := Op.load 25 (Operand.tmp 29), type := 25, pos := "ref.go:141", after := #[{ on := 0, ground := Ground.data }], guard := none }) (v := ?_) rfl (by kernel_rfl) (by kernel_rfl) (by kernel_rfl) (fun _ _ _ h => h) (Or.inl ⟨by rfl, ?_⟩) (by assumption) ?_
  rotate_left
  · (intro W hW; (try dsimp only at hW); go_simp <;> (with_reducible rfl))
  try simp only [Act.put, List.setIfInBounds_toArray, List.set_cons_zero, List.set_cons_succ]
  refine wpAnyH_take (i := 2) (oi := { dst := some 31, op := Op.move (Operand.tmp 7), type := 3, pos := "ref.go:141", after := #[], guard := none }) (v := ?_) rfl (by kernel_rfl) (by kernel_rfl) (by kernel_rfl) (fun _ _ _ h => h) (Or.inl ⟨by rfl, ?_⟩) (by assumption) ?_
  rotate_left
  · (intro W hW; (try dsimp only at hW); go_simp <;> (with_reducible rfl))
  try simp only [Act.put, List.setIfInBounds_toArray, List.set_cons_zero, List.set_cons_succ]
  refine wpAnyH_take (i := 3) (oi := { dst := some 32, op := Op.fieldAddr 27 (Operand.tmp 3) 2, type := 0, pos := "ref.go:141", after := #[], guard := none }) (v := ?_) rfl (by kernel_rfl) (by kernel_rfl) (by kernel_rfl) (fun _ _ _ h => h) (Or.inl ⟨by rfl, ?_⟩) (by assumption) ?_
  rotate_left
  · (intro W hW; (try dsimp only at hW); go_simp <;> (with_reducible rfl))
  try simp only [Act.put, List.setIfInBounds_toArray, List.set_cons_zero, List.set_cons_succ]
  refine wpAnyH_take (i := 4) (oi := { dst := some 33, op := Op.load 25 (Operand.tmp 32), type := 25, pos := "ref.go:141", after := #[{ on := 3, ground := Ground.data }], guard := none }) (v := ?_) rfl (by kernel_rfl) (by kernel_rfl) (by kernel_rfl) (fun _ _ _ h => h) (Or.inl ⟨by rfl, ?_⟩) (by assumption) ?_
  rotate_left
  · (intro W hW; (try dsimp only at hW); go_simp <;> (with_reducible rfl))
  try simp only [Act.put, List.setIfInBounds_toArray, List.set_cons_zero, List.set_cons_succ]
  refine wpAnyH_take (i := 5) (oi := { dst := some 34, op := Op.move (Operand.tmp 7), type := 3, pos := "ref.go:141", after := #[], guard := none }) (v := ?_) rfl (by kernel_rfl) (by kernel_rfl) (by kernel_rfl) (fun _ _ _ h => h) (Or.inl ⟨by rfl, ?_⟩) (by assumption) ?_
  rotate_left
  · (intro W hW; (try dsimp only at hW); go_simp <;> (with_reducible rfl))
  try simp only [Act.put, List.setIfInBounds_toArray, List.set_cons_zero, List.set_cons_succ]
  refine wpAnyH_take (i := 6) (oi := { dst := some 35, op := Op.indexAddr 25 (Operand.tmp 33) (Operand.tmp 34), type := 0, pos := "ref.go:141", after := #[{ on := 4, ground := Ground.data }, { on := 5, ground := Ground.data }], guard := none }) (v := ?_) rfl (by kernel_rfl) (by kernel_rfl) (by kernel_rfl) (fun _ _ _ h => h) (Or.inl ⟨by rfl, ?_⟩) (by assumption) ?_
  rotate_left
  · (intro W hW; (try dsimp only at hW); go_simp <;> (with_reducible rfl))
  try simp only [Act.put, List.setIfInBounds_toArray, List.set_cons_zero, List.set_cons_succ]
  refine wpAnyH_take (i := 7) (oi := { dst := some 36, op := Op.fieldAddr 145 (Operand.tmp 35) 0, type := 0, pos := "ref.go:141", after := #[{ on := 6, ground := Ground.data }], guard := none }) (v := ?_) rfl (by kernel_rfl) (by kernel_rfl) (by kernel_rfl) (fun _ _ _ h => h) (Or.inl ⟨by rfl, ?_⟩) (by assumption) ?_
  rotate_left
  · (intro W hW; (try dsimp only at hW); go_simp <;> (with_reducible rfl))
  try simp only [Act.put, List.setIfInBounds_toArray, List.set_cons_zero, List.set_cons_succ]
  refine wpAnyH_take (i := 8) (oi := { dst := some 37, op := Op.load 9 (Operand.tmp 36), type := 9, pos := "ref.go:141", after := #[{ on := 7, ground := Ground.data }], guard := none }) (v := ?_) rfl (by kernel_rfl) (by kernel_rfl) (by kernel_rfl) (fun _ _ _ h => h) (Or.inl ⟨by rfl, ?_⟩) (by assumption) ?_
  rotate_left
  · (intro W hW; (try dsimp only at hW); go_simp <;> (with_reducible rfl))
  try simp only [Act.put, List.setIfInBounds_toArray, List.set_cons_zero, List.set_cons_succ]
  refine wpAnyH_take (i := 9) (oi := { dst := some 38, op := Op.load 27 (Operand.tmp 8), type := 27, pos := "ref.go:141", after := #[], guard := none }) (v := ?_) rfl (by kernel_rfl) (by kernel_rfl) (by kernel_rfl) (fun _ _ _ h => h) (Or.inl ⟨by rfl, ?_⟩) (by assumption) ?_
  rotate_left
  · (intro W hW; (try dsimp only at hW); go_simp <;> (with_reducible rfl))
  try simp only [Act.put, List.setIfInBounds_toArray, List.set_cons_zero, List.set_cons_succ]
  refine wpAnyH_take (i := 15) (oi := { dst := some 44, op := Op.move (Operand.tmp 7), type := 3, pos := "ref.go:141", after := #[], guard := none }) (v := ?_) rfl (by kernel_rfl) (by kernel_rfl) (by kernel_rfl) (fun _ _ _ h => h) (Or.inl ⟨by rfl, ?_⟩) (by assumption) ?_
  rotate_left
  · (intro W hW; (try dsimp only at hW); go_simp <;> (with_reducible rfl))
  try simp only [Act.put, List.setIfInBounds_toArray, List.set_cons_zero, List.set_cons_succ]
  refine wpAnyH_ready (rs := [10]) (by kernel_rfl) (by simp) (AllReadyH.cons (o := { dst := some 39, op := Op.buildSlice 143 1 #[(0, Operand.tmp 38)], type := 143, pos := "ref.go:141", after := #[{ on := 9, ground := Ground.data }], guard := none }) rfl (fun K hK => ?_) AllReadyH.nil)
  (rw [if_pos (by rfl)]; go_wp2_with (fail))
  refine hK.out _ _ (by (repeat (with_reducible first | assumption | exact agr _ | apply agal | apply agdr | apply agst))) (fun hHeld => ?_)
  clear hK K
  try simp only [Act.put, List.setIfInBounds_toArray, List.set_cons_zero, List.set_cons_succ]
  refine wpAnyH_take (i := 11) (oi := { dst := some 40, op := Op.build 145 #[(0, Operand.tmp 37), (2, Operand.tmp 39)], type := 145, pos := "ref.go:141", after := #[{ on := 8, ground := Ground.data }, { on := 10, ground := Ground.data }], guard := none }) (v := ?_) rfl (by kernel_rfl) (by kernel_rfl) (by kernel_rfl) (fun _ _ _ h => h) (Or.inl ⟨by rfl, ?_⟩) (by assumption) ?_
  rotate_left
  · (intro W hW; (try dsimp only at hW); go_simp <;> (with_reducible rfl))
  try simp only [Act.put, List.setIfInBounds_toArray, List.set_cons_zero, List.set_cons_succ]
  refine wpAnyH_ready (rs := [12]) (by kernel_rfl) (by simp) (AllReadyH.cons (o := { dst := some 41, op := Op.buildSlice 25 1 #[(0, Operand.tmp 40)], type := 25, pos := "ref.go:141", after := #[{ on := 11, ground := Ground.data }], guard := none }) rfl (fun K hK => ?_) AllReadyH.nil)
  (rw [if_pos (by rfl)]; go_wp2_with (fail))
  refine hK.out _ _ (by (repeat (with_reducible first | assumption | exact agr _ | apply agal | apply agdr | apply agst))) (fun hHeld => ?_)
  clear hK K
  try simp only [Act.put, List.setIfInBounds_toArray, List.set_cons_zero, List.set_cons_succ]
  refine wpAnyH_ready (rs := [13]) (by kernel_rfl) (by simp) (AllReadyH.cons (o := { dst := some 42, op := Op.call { callee := Callee.value (Operand.func 129), args := #[Operand.tmp 30, Operand.tmp 31, Operand.tmp 41], argTypes := #[25, 3, 25] }, type := 25, pos := "ref.go:141", after := #[{ on := 1, ground := Ground.data }, { on := 2, ground := Ground.data }, { on := 12, ground := Ground.data }], guard := none }) rfl (fun K hK => ?_) AllReadyH.nil)
  (rw [if_pos (by rfl)]; go_simp; (with_reducible refine (CW2 _ ?ra _ ?hb ?r1 ?hA ?hz).mono ?fin); (case hz => ((repeat (with_reducible first | assumption | exact BoxAt.here3 | exact BoxAt.here2 | exact BoxAt.here | apply BoxAt.dr | apply BoxAt.al)); done)); (case hA => ((repeat (with_reducible first | assumption | exact BoxAt.here3 | exact BoxAt.here2 | exact BoxAt.here | apply BoxAt.dr | apply BoxAt.al)); done)); (case hb => (repeat (with_reducible first | assumption | exact Below.refl _ _ | apply Below.al | apply Below.dr))); (case r1 => (with_reducible first | exact Nat.le_refl _ | (simp only [World.heap_alloc_size, World.heap_drew]; omega) | omega)); rintro e w5 ⟨a5, d5, rfl, n5, hb5⟩; have hA5 : AgreeF (fun x => x ≠ w.heap.size + 1) W4 w5 := AgreeF.of_below hb5; have CM := CM w5 a5 d5 n5; go_wp2_with (fail))
  refine hK.out _ _ (by (repeat (with_reducible first | assumption | exact agr _ | apply agal | apply agdr | apply agst))) (fun hHeld => ?_)
  clear hK K
  try simp only [Act.put, List.setIfInBounds_toArray, List.set_cons_zero, List.set_cons_succ]
  refine wpAnyH_take (i := 14) (oi := { dst := some 43, op := Op.build 27 #[(2, Operand.tmp 42)], type := 27, pos := "ref.go:141", after := #[{ on := 13, ground := Ground.data }], guard := none }) (v := ?_) rfl (by kernel_rfl) (by kernel_rfl) (by kernel_rfl) (fun _ _ _ h => h) (Or.inl ⟨by rfl, ?_⟩) (by assumption) ?_
  rotate_left
  · (intro W hW; (try dsimp only at hW); go_simp <;> (with_reducible rfl))
  try simp only [Act.put, List.setIfInBounds_toArray, List.set_cons_zero, List.set_cons_succ]
  refine wpAnyH_ready (rs := [16]) (by kernel_rfl) (by simp) (AllReadyH.cons (o := { dst := some 45, op := Op.call { callee := Callee.value (Operand.func 127), args := #[Operand.tmp 43, Operand.tmp 44], argTypes := #[27, 3] }, type := 27, pos := "ref.go:141", after := #[{ on := 14, ground := Ground.data }, { on := 15, ground := Ground.data }, { on := 13, ground := Ground.chain }], guard := none }) rfl (fun K hK => ?_) AllReadyH.nil)
  (rw [if_pos (by rfl)]; go_simp; (with_reducible refine CM.mono ?_); rintro e w6 hq; obtain ⟨p6, l6, a6, m6, d6, rfl, n6, hb6⟩ := hq.split; have hb46 := below_via hb5 hb6; have hA6 : AgreeF (fun x => x ≠ w.heap.size + 1) W4 w6 := AgreeF.of_below hb46; have hx6 := HX4.out.step hb46; have z0 := hx6.cell 0 0 rfl rfl; have z1 := hx6.cell 0 1 rfl rfl; have z2 := hx6.cell 0 2 rfl rfl; have y0 := hx6.frozen 0 0 rfl; have y1 := hx6.frozen 0 1 rfl; have y2 := hx6.frozen 0 2 rfl; go_wp2_with (fail))
  refine hK.out _ _ (by (repeat (with_reducible first | assumption | exact agr _ | apply agal | apply agdr | apply agst))) (fun hHeld => ?_)
  clear hK K
  try simp only [Act.put, List.setIfInBounds_toArray, List.set_cons_zero, List.set_cons_succ]
  refine wpAnyH_ready (rs := [17]) (by kernel_rfl) (by simp) (AllReadyH.cons (o := { dst := none, op := Op.store 27 (Operand.tmp 6) (Operand.tmp 45), type := 0, pos := "ref.go:141", after := #[{ on := 16, ground := Ground.data }, { on := 16, ground := Ground.chain }, { on := 0, ground := Ground.phase }, { on := 1, ground := Ground.phase }, { on := 2, ground := Ground.phase }, { on := 3, ground := Ground.phase }, { on := 4, ground := Ground.phase }, { on := 5, ground := Ground.phase }, { on := 6, ground := Ground.phase }, { on := 7, ground := Ground.phase }, { on := 8, ground := Ground.phase }, { on := 9, ground := Ground.phase }, { on := 10, ground := Ground.phase }, { on := 11, ground := Ground.phase }, { on := 12, ground := Ground.phase }, { on := 13, ground := Ground.phase }, { on := 14, ground := Ground.phase }, { on := 15, ground := Ground.phase }, { on := 16, ground := Ground.phase }], guard := none }) rfl (fun K hK => ?_) AllReadyH.nil)
  (rw [if_pos (by rfl)]; go_wp2_with (fail))
  refine hK.out _ _ (by (repeat (with_reducible first | assumption | exact agr _ | apply agal | apply agdr | apply agst))) (fun hHeld => ?_)
  clear hK K
  try simp only [Act.put, List.setIfInBounds_toArray, List.set_cons_zero, List.set_cons_succ]
  refine wpAnyH_done (by kernel_rfl) ?_ _
  refine NoPanic.normal ?_
  obtain ⟨t0, t1, t2, HE⟩ := rend (F := F) (w := w) hx6 (by omega) (fun hg => by
    have := HS4.out
    have := hb5.size
    rcases hg with hg | hg
    · rcases hg.1 with hg | hg
      · have := hF _ hg; omega
      · omega
    · omega) (fun b hb => by
    have := HS4.out
    have := hb5.size
    rcases hb with hb | hb
    · rcases hb.1 with hb | hb
      · exact .inl hb
      · exact .inr (by omega)
    · exact .inr (by omega)) n6 (below_via HB4.out hb46)
  clear hx6 n6 hb46 hA6 hA5 n5 hb5 hq z0 z1 z2 y0 y1 y2
  go_wp2_with fail
  refine bodyPost_ret (v := .agg #[.int .i64 p6, .bool l6, .slice a6 m6 d6]) (by simp only [results, Tryz.results88]; simp [go_sem, t0, t1, t2]) rfl HE.out
end Go.Proofs.YtpghlmcoajaiiaaGreatDoor
