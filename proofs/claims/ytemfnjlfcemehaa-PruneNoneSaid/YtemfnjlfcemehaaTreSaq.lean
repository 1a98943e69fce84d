/- The document's 'Same': a tree beside itself (printed by gen_treSa.py). -/
import Derived.Test.YtemfnjlfcemehaaM8
import Derived.Test.YtemfnjlfcemehaaM2
import Derived.Test.YtemfnjlfcemehaaM4
import Derived.Deep.RegionHeld3
import Derived.Deep.DeepCutAuto
import Derived.Deep.CutBlock
import Derived.Deep.QuietTactic
import Derived.BigQuiet
namespace Go.Proofs.Ytemfnjlfcemehaa
open Go.RowKit

/-- What 'Same' answers of a tree and itself. -/
def SameTo (w : World) (e : Ending) (w' : World) : Prop := e = .returned (.bool true) ∧ Below w.heap.size w w'
theorem Row.cellS {w : World} {a : Option Addr} {len cap : Nat} {l : List Int} (h : Row .i64 w a len cap l) {k : Nat} (hk : k < len) :
    ∃ b off, a = some ⟨b, off, none⟩ ∧ b < w.heap.size ∧ w.cell? ⟨b, off + k, none⟩ = some (.int .i64 (l[k]?.getD 0)) := by
  rcases h.2.2.2.2 with h0 | ⟨b, off, h1, h2, h3⟩
  · omega
  · exact ⟨b, off, h1, h2, h3 k hk⟩
theorem Row.lensS {k : IntKind} {w : World} {a : Option Addr} {len cap : Nat} {l : List Int} (h : Row k w a len cap l) : l.length = len ∧ len ≤ cap ∧ cap ≤ 9223372036854775807 := ⟨h.1, h.2.1, by have := h.2.2.1; unfold maxLen at this; omega⟩
set_option maxRecDepth 100000 in
set_option maxHeartbeats 4000000 in
theorem same_step {n : Nat} (IH : ∀ {F G : Nat → Prop} {w : World} {cs ds : List Value} {t : Tr}, RNodeOn F n w cs t → RNodeOn G n w ds t → Calls Try.prog 36 #[.agg cs.toArray, .agg ds.toArray] w (SameTo w))
    {F G : Nat → Prop} {w : World} {cs ds : List Value} {t : Tr} (hf : RNodeOn F (n + 1) w cs t) (hg : RNodeOn G (n + 1) w ds t) :
    Calls Try.prog 36 #[.agg cs.toArray, .agg ds.toArray] w (SameTo w) := by
  obtain ⟨a, c, rfl, h1, _⟩ := hf.at
  obtain ⟨d, g, rfl, g1, _⟩ := hg.at
  obtain ⟨e1, e2, e3⟩ := h1.lens
  obtain ⟨e4, e5, e6⟩ := g1.lens
  generalize cntT t = m at *
  generalize cellsR t = L at *
  generalize t.page = p at *
  generalize t.isLeaf = lf at *
  have H1 := Lib.hid h1
  have G1 := Lib.hid g1
  have hB0 : Below w.heap.size w ((w.alloc (.cells #[.int .i64 p, .bool lf, .slice a m c] 26)).alloc (.cells #[.int .i64 p, .bool lf, .slice d m g] 26)) := Below.al (Below.al (Below.refl _ _))
  have HX0 := Lib.hid (((Boxes.nil w).alloc #[.int .i64 p, .bool lf, .slice a m c] 26 (b := w.heap.size) rfl).alloc #[.int .i64 p, .bool lf, .slice d m g] 26 (b := w.heap.size + 1) (by simp))
  have HB0 := Lib.hid hB0
  have hpp : (p != p) = false := by simp
  have hll : (lf != lf) = false := by simp
  have hmm : ((m : Int) != (m : Int)) = false := by simp
  clear h1 g1 hB0 hf hg e1 e4
  go_enter Try.func36, Try.ntmps36
  go_wp2_with fail
  go_loopw [5] (fun s5 wr => ∃ (i : Nat), i ≤ m ∧ s5 = .int .i64 i ∧ Boxes wr [(w.heap.size + 1, [.int .i64 p, .bool lf, .slice d m g]), (w.heap.size, [.int .i64 p, .bool lf, .slice a m c])] ∧ Below w.heap.size w wr) (fun s _ => m - (intOf s).toNat)
  case atStart => exact ⟨0, Nat.zero_le _, rfl, HX0.out, HB0.out⟩
  case round =>
    obtain ⟨i, hi, rfl, hx, hb⟩ := hrel
    clear HX0 HB0 hpp hll hmm
    have n2 := hx.cell 1 2 rfl rfl
    have o2 := hx.cell 0 2 rfl rfl
    by_cases hlt : i < m
    rotate_left
    · obtain rfl : i = m := by omega
      have HE := Lib.hid hb
      clear hx hb
      go_wp2_with fail
      go_ret
      exact ⟨rfl, HE.out⟩
    obtain ⟨b, off, y, pa, pn, pc, ka, kn, kc, rfl, hbb, hy, _, hrow, _, hkid, _, c0, c1, c2, c3⟩ := RNodeOn.cell H1.out hlt
    obtain ⟨b', off', y', qa, qn, qc, la, ln, lc, rfl, hbb', hy', _, hrow', _, hkid', _, c0', c1', c2', c3'⟩ := RNodeOn.cell G1.out hlt
    rw [hy] at hy'
    cases hy'
    obtain ⟨r1, r2, r3⟩ := hrow.lensS
    obtain ⟨r4, r5, r6⟩ := hrow'.lensS
    obtain ⟨s1, s2, s3⟩ := hkid.lens
    obtain ⟨s4, s5, s6⟩ := hkid'.lens
    obtain rfl : pn = qn := by omega
    obtain rfl : kn = ln := by omega
    obtain ⟨yk, yv, yo⟩ := y
    obtain ⟨yd, yp⟩ := yv
    dsimp only at *
    have v0 := (hb.cell (p := ⟨b, off + i * 4, none⟩) hbb).trans c0
    have v1 := (hb.cell (p := ⟨b, off + i * 4 + 1, none⟩) hbb).trans c1
    have v2 := (hb.cell (p := ⟨b, off + i * 4 + 2, none⟩) hbb).trans c2
    have v3 := (hb.cell (p := ⟨b, off + i * 4 + 3, none⟩) hbb).trans c3
    have hba : Below wr.heap.size wr (wr.alloc (.cells #[.string (strOf yk), .string (strOf yd), .slice pa pn pc, .slice ka kn kc] 48)) := Below.al (Below.refl _ _)
    have hba2 : Below wr.heap.size wr ((wr.alloc (.cells #[.string (strOf yk), .string (strOf yd), .slice pa pn pc, .slice ka kn kc] 48)).alloc (.cells #[.string (strOf yk), .string (strOf yd), .slice qa pn qc, .slice la kn lc] 48)) := Below.al hba
    have x2 := (hx.step hba).cell 0 2 rfl rfl
    have w0 := ((below_via hb hba).cell (p := ⟨b', off' + i * 4, none⟩) hbb').trans c0'
    have w1 := ((below_via hb hba).cell (p := ⟨b', off' + i * 4 + 1, none⟩) hbb').trans c1'
    have w2 := ((below_via hb hba).cell (p := ⟨b', off' + i * 4 + 2, none⟩) hbb').trans c2'
    have w3 := ((below_via hb hba).cell (p := ⟨b', off' + i * 4 + 3, none⟩) hbb').trans c3'
    have hz : Boxes ((wr.alloc (.cells #[.string (strOf yk), .string (strOf yd), .slice pa pn pc, .slice ka kn kc] 48)).alloc (.cells #[.string (strOf yk), .string (strOf yd), .slice qa pn qc, .slice la kn lc] 48)) [(wr.heap.size + 1, [.string (strOf yk), .string (strOf yd), .slice qa pn qc, .slice la kn lc]), (wr.heap.size, [.string (strOf yk), .string (strOf yd), .slice pa pn pc, .slice ka kn kc])] := ((Boxes.nil wr).alloc #[.string (strOf yk), .string (strOf yd), .slice pa pn pc, .slice ka kn kc] 48 (b := wr.heap.size) rfl).alloc #[.string (strOf yk), .string (strOf yd), .slice qa pn qc, .slice la kn lc] 48 (b := wr.heap.size + 1) (by simp)
    have q1 : ((strOf yk).toList == (strOf yk).toList) = true := by simp
    have q2 : ((strOf yd).toList == (strOf yd).toList) = true := by simp
    have q3 : ((pn : Int) != (pn : Int)) = false := by simp
    have q4 : ((kn : Int) != (kn : Int)) = false := by simp
    have t0 := hz.cell 0 0 rfl rfl
    have t1 := hz.cell 0 1 rfl rfl
    have t2 := hz.cell 0 2 rfl rfl
    have t3 := hz.cell 0 3 rfl rfl
    have u0 := hz.cell 1 0 rfl rfl
    have u1 := hz.cell 1 1 rfl rfl
    have u2 := hz.cell 1 2 rfl rfl
    have u3 := hz.cell 1 3 rfl rfl
    have HZ := Lib.hid hz
    have HX := Lib.hid (hx.step hba2)
    have HB := Lib.hid (below_via hb hba2)
    have HR := Lib.hid hrow
    have HR' := Lib.hid hrow'
    have HK := Lib.hid hkid
    have HK' := Lib.hid hkid'
    have HS1 := Lib.hid s1
    have hsz2 : wr.heap.size + 2 = ((wr.alloc (.cells #[.string (strOf yk), .string (strOf yd), .slice pa pn pc, .slice ka kn kc] 48)).alloc (.cells #[.string (strOf yk), .string (strOf yd), .slice qa pn qc, .slice la kn lc] 48)).heap.size := by simp
    clear hx hb c0 c1 c2 c3 c0' c1' c2' c3' hrow hrow' hkid hkid' hy r1 r4 s1 s4 hz hba hba2 hbb hbb' hsz2
    go_upto_region 10 with (fail)
    clear v0 v1 v2 v3 w0 w1 w2 w3 x2
    obtain ⟨WA, hWA⟩ : ∃ x, x = ((wr.alloc (.cells #[.string (strOf yk), .string (strOf yd), .slice pa pn pc, .slice ka kn kc] 48)).alloc (.cells #[.string (strOf yk), .string (strOf yd), .slice qa pn qc, .slice la kn lc] 48)) := ⟨_, rfl⟩
    rw [← hWA] at HZ HX HB ⊢
    clear t0 t1 t2 t3 u0 u1 u2 u3 n2 o2
    have HBA := Lib.hid (Below.refl WA.heap.size WA)
    clear hWA q1 q2 q3 q4
    go_wp2_with fail
    go_loopw [8] (fun s8 wy => ∃ (k : Nat), k ≤ pn ∧ s8 = .int .i64 k ∧ Below WA.heap.size WA wy) (fun s _ => pn - (intOf s).toNat)
    case atStart => exact ⟨0, Nat.zero_le _, rfl, HBA.out⟩
    case round =>
      obtain ⟨k, hk, rfl, hby⟩ := hrel
      clear HBA
      obtain ⟨wy, rfl⟩ : ∃ x : World, x = wr := ⟨_, rfl⟩
      have hzy := HZ.out.step hby
      have z2 := hzy.cell 1 2 rfl rfl
      have y2 := hzy.cell 0 2 rfl rfl
      by_cases hkl : k < pn
      · obtain ⟨bp, op, rfl, hbp, hcp⟩ := HR.out.cellS hkl
        obtain ⟨bq, oq, rfl, hbq, hcq⟩ := HR'.out.cellS hkl
        have z5 := ((below_via HB.out hby).cell (p := ⟨bp, op + k, none⟩) hbp).trans hcp
        have y5 := ((below_via HB.out hby).cell (p := ⟨bq, oq + k, none⟩) hbq).trans hcq
        generalize yp[k]?.getD 0 = vk at z5 y5
        have hvk : (vk != vk) = false := by simp
        clear hcp hcq hzy hbp hbq
        go_upto_region 13 with (fail)
        go_quiet (fail)
        go_wp2
        go_roundw
        case rel => exact ⟨k + 1, hkl, by go_num, below_drewN hby _⟩
        case measure => simp [intOf]; omega
      · obtain rfl : k = pn := by omega
        cases yo with
        | none =>
          obtain rfl : kn = 0 := HS1.out.symm
          have z3 := hzy.cell 1 3 rfl rfl
          have HX5 := Lib.hid (HX.out.step hby)
          have HB5 := Lib.hid (below_via HB.out hby)
          clear hzy hby
          go_upto_region 15 with (fail)
          go_quiet (fail)
          go_wp2
          go_roundw
          case rel => exact ⟨i + 1, hlt, by go_num, HX5.out.step (below_drewN (Below.refl _ _) _), below_drewN HB5.out _⟩
          case measure => simp [intOf]; omega
        | some kid =>
          obtain rfl : kn = 1 := HS1.out.symm
          obtain ⟨bk, ok, kd, ks, rfl, hbk, hyk, _, hon, hck⟩ := TabR.at HK.out (show 0 < 1 by omega)
          obtain ⟨bj, oj, kd', js, rfl, hbj, hyj, _, hon', hcj⟩ := TabR.at HK'.out (show 0 < 1 by omega)
          cases hyk
          cases hyj
          have hbw := below_via HB.out hby
          cases n with
          | zero => exact hon.elim
          | succ n =>
          have CS : ∀ W, Below wy.heap.size wy W → Calls Try.prog 36 #[.agg ks.toArray, .agg js.toArray] W (SameTo W) := fun W hW => IH (hon.below (below_via hbw hW)) (hon'.below (below_via hbw hW))
          obtain ⟨ak, ck, rfl, _, _⟩ := hon.at
          obtain ⟨aj, cj, rfl, _, _⟩ := hon'.at
          generalize cntT kid = mk at *
          generalize kid.page = pk at *
          generalize kid.isLeaf = lk at *
          have c0 : ∀ W, Below wy.heap.size wy W → W.cell? ⟨bk, ok, none⟩ = some (.int .i64 pk) := fun W hW => ((below_via hbw hW).cell (p := ⟨bk, ok, none⟩) hbk).trans (by simpa using hck 0 _ rfl)
          have c1 : ∀ W, Below wy.heap.size wy W → W.cell? ⟨bk, ok + 1, none⟩ = some (.bool lk) := fun W hW => ((below_via hbw hW).cell (p := ⟨bk, ok + 1, none⟩) hbk).trans (by simpa using hck 1 _ rfl)
          have c2 : ∀ W, Below wy.heap.size wy W → W.cell? ⟨bk, ok + 2, none⟩ = some (.slice ak mk ck) := fun W hW => ((below_via hbw hW).cell (p := ⟨bk, ok + 2, none⟩) hbk).trans (by simpa using hck 2 _ rfl)
          have j0 : ∀ W, Below wy.heap.size wy W → W.cell? ⟨bj, oj, none⟩ = some (.int .i64 pk) := fun W hW => ((below_via hbw hW).cell (p := ⟨bj, oj, none⟩) hbj).trans (by simpa using hcj 0 _ rfl)
          have j1 : ∀ W, Below wy.heap.size wy W → W.cell? ⟨bj, oj + 1, none⟩ = some (.bool lk) := fun W hW => ((below_via hbw hW).cell (p := ⟨bj, oj + 1, none⟩) hbj).trans (by simpa using hcj 1 _ rfl)
          have j2 : ∀ W, Below wy.heap.size wy W → W.cell? ⟨bj, oj + 2, none⟩ = some (.slice aj mk cj) := fun W hW => ((below_via hbw hW).cell (p := ⟨bj, oj + 2, none⟩) hbj).trans (by simpa using hcj 2 _ rfl)
          have z3 : ∀ W, Below wy.heap.size wy W → W.cell? ⟨wr.heap.size, 3, none⟩ = some (.slice (some ⟨bk, ok, none⟩) 1 kc) := fun W hW => (hzy.step hW).cell 1 3 rfl rfl
          have y3 : ∀ W, Below wy.heap.size wy W → W.cell? ⟨wr.heap.size + 1, 3, none⟩ = some (.slice (some ⟨bj, oj, none⟩) 1 lc) := fun W hW => (hzy.step hW).cell 0 3 rfl rfl
          have hC0 : Below wy.heap.size wy wy.drew := (Below.refl _ _).drew
          have HX5 := Lib.hid (HX.out.step hby)
          have HB5 := Lib.hid hbw
          clear hzy hby hbw hck hcj hon hon'
          go_upto_region 15 with (fail)
          go_region_held3 (fun W => Below wy.heap.size wy W) (first | with_reducible assumption | (repeat (with_reducible first | assumption | exact Below.refl _ _ | apply Below.al | apply Below.dr))) (first | (go_at_call 36; (with_reducible refine (CS _ ?_).mono ?_); (focus (repeat (with_reducible first | assumption | exact Below.refl _ _ | apply Below.al | apply Below.dr))); rintro e w12 ⟨rfl, hb12⟩; have hB12 : Below wy.heap.size wy w12 := below_via (by (repeat (with_reducible first | assumption | exact Below.refl _ _ | apply Below.al | apply Below.dr))) hb12))
          go_wp2_with fail
          go_roundw
          case rel => exact ⟨i + 1, hlt, by go_num, HX5.out.step hB12, below_via HB5.out hB12⟩
          case measure => simp [intOf]; omega
theorem same_any : ∀ {n : Nat} {F G : Nat → Prop} {w : World} {cs ds : List Value} {t : Tr}, RNodeOn F n w cs t → RNodeOn G n w ds t → Calls Try.prog 36 #[.agg cs.toArray, .agg ds.toArray] w (SameTo w)
  | 0, _, _, _, _, _, _, h, _ => h.elim
  | _n + 1, _, _, _, _, _, _, h, g => same_step (fun h g => same_any h g) h g
end Go.Proofs.Ytemfnjlfcemehaa
