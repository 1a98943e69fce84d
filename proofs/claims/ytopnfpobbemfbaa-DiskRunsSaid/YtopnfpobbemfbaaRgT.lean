/- The reference's regions: Sync. -/
import Derived.Test.YtopnfpobbemfbaaRgL
import Derived.Deep.DeepCutAuto
namespace Go.Proofs.Ytopnfpobbemfbaa
open Go.RowKit

set_option maxRecDepth 100000 in
set_option maxHeartbeats 4000000 in
theorem rsync_any {K : Nat → Prop} {w : World} {a : Option Addr} {len cap : Nat} {d : List Rg} (h : GsK K w a len cap d) (hlen : len ≤ 1000) (hL : ∀ x ∈ d, x.loose.length ≤ 100000) (r : Int) :
    Calls Try.prog 21 #[.slice a len cap, .int .i64 r] w (RPost K w (syncD d r) (syncE d r)) := by
  have U := rup_any h.gs (by omega) r 0 false
  have hre : refE d r 0 false = upE d r := rfl
  rw [hre] at U
  by_cases hu : upE d r = 0
  · have hr : 0 ≤ r ∧ r < d.length := by
      unfold upE at hu; split at hu
      · assumption
      · simp at hu
    rw [hu] at U
    obtain ⟨i, rfl⟩ := Int.eq_ofNat_of_zero_le hr.1
    have hi : i < len := by have := h.1; omega
    obtain ⟨x, hx⟩ : ∃ x, d[i]? = some x := ⟨_, List.getElem?_eq_getElem (by omega)⟩
    have hLx := hL x (List.mem_of_getElem? hx)
    obtain ⟨b, off, pa, pc, la, lc, rfl, hb, c0, c1, c2, c3, g2, g3, g4, g5, g6, g7⟩ := h.at hx
    have hE : syncE d (i : Int) = cntE x := by rw [syncE, if_pos hu, atR_of hx]
    have hD : syncD d (i : Int) = d.set i (syncR x) := by rw [syncD, if_pos hu, atR_of hx, Int.toNat_natCast]
    have q1 : decide ((i : Int) < len) = true := by simp; omega
    have C := counts_rg (w := w) pa pc la lc x g6 g7
    have hcl := cntR_left x g6 g7
    have e1 : (cntR x).size = x.size := wrote_size x
    have e2 : (cntR x).loose = x.loose := cntR_loose x
    have e3 : (cntR x).pages = x.pages := by unfold cntR; split <;> (try split) <;> rfl
    rw [hE, hD]
    rcases cntE_or x with hc | hc
    · have hwr : syncR x = settled (cntR x) (fun _ => true) := by rw [syncR, if_pos hc]
      rw [hc, hwr]
      have C : Calls Try.prog 38 #[.agg #[.slice pa x.size pc, .slice la x.loose.length lc, .int .i64 x.left, .bool x.down]] w fun e w' => e = .returned (.tuple #[.agg #[.slice pa x.size pc, .slice la x.loose.length lc, .int .i64 (cntR x).left, .bool (cntR x).down], .int .i64 0]) ∧ Below w.heap.size w w' := C.mono fun e w' ⟨h1, h2⟩ => ⟨by rw [h1, hc], h2⟩
      have KP : ∀ w1, Below w.heap.size w w1 → Calls Try.prog 40 #[.slice pa x.size pc, .slice la x.loose.length lc] w1 (KPost w1 (keptL (pagesL x) x.loose)) := fun w1 hb1 =>
        kept_any (g2 w1 (agree_below hb1)) g4 (g3 w1 (agree_below hb1)) hLx g5
      have KEY : ∀ w1 w2 v, Below w.heap.size w w1 → Below (w1.alloc (.cells #[.slice pa x.size pc, .slice la x.loose.length lc, .int .i64 (cntR x).left, .bool (cntR x).down] 58)).heap.size (w1.alloc (.cells #[.slice pa x.size pc, .slice la x.loose.length lc, .int .i64 (cntR x).left, .bool (cntR x).down] 58)) w2 →
          w2.ownsRow (w1.alloc (.cells #[.slice pa x.size pc, .slice la x.loose.length lc, .int .i64 (cntR x).left, .bool (cntR x).down] 58)).heap.size 9 1 v (keptL (pagesL x) x.loose).length ((keptL (pagesL x) x.loose).map strV) →
          ∃ a2 c2', v = .slice a2 x.size c2' ∧ w2.cell? ⟨w1.heap.size, 0, none⟩ = some (.slice pa x.size pc) ∧ w2.cell? ⟨w1.heap.size, 1, none⟩ = some (.slice la x.loose.length lc) ∧ w2.cell? ⟨w1.heap.size, 2, none⟩ = some (.int .i64 (cntR x).left) ∧ w2.cell? ⟨w1.heap.size, 3, none⟩ = some (.bool (cntR x).down) ∧ w2.frozen? ⟨w1.heap.size, 0, none⟩ = false ∧ w2.frozen? ⟨w1.heap.size, 1, none⟩ = false ∧
            Below w.heap.size w ((w2.setCell ⟨w1.heap.size, 0, none⟩ (.slice a2 x.size c2')).setCell ⟨w1.heap.size, 1, none⟩ (.slice none 0 0)) ∧
            Calls Try.prog 39 #[.slice (some ⟨b, off, none⟩) len cap, .int .i64 (i : Int), .agg #[.slice a2 x.size c2', .slice none 0 0, .int .i64 (cntR x).left, .bool (cntR x).down]] ((w2.setCell ⟨w1.heap.size, 0, none⟩ (.slice a2 x.size c2')).setCell ⟨w1.heap.size, 1, none⟩ (.slice none 0 0)) (GsPost (From K w.heap.size) ((w2.setCell ⟨w1.heap.size, 0, none⟩ (.slice a2 x.size c2')).setCell ⟨w1.heap.size, 1, none⟩ (.slice none 0 0)) (d.set i (settled (cntR x) (fun _ => true)))) := by
        intro w1 w2 v hb1 hb2 ho
        have HX : Boxes (w1.alloc (.cells #[.slice pa x.size pc, .slice la x.loose.length lc, .int .i64 (cntR x).left, .bool (cntR x).down] 58)) [(w1.heap.size, [.slice pa x.size pc, .slice la x.loose.length lc, .int .i64 (cntR x).left, .bool (cntR x).down])] := (Boxes.nil w1).alloc _ _ rfl
        have hbx : Below w.heap.size w (w1.alloc (.cells #[.slice pa x.size pc, .slice la x.loose.length lc, .int .i64 (cntR x).left, .bool (cntR x).down] 58)) := hb1.alloc hb1.size _
        have hsz : (w1.alloc (.cells #[.slice pa x.size pc, .slice la x.loose.length lc, .int .i64 (cntR x).left, .bool (cntR x).down] 58)).heap.size = w1.heap.size + 1 := by simp
        have HX2 := HX.step hb2
        have hbs := hb1.size
        have hb3 := below_then hbx hb2
        have hkl : (keptL (pagesL x) x.loose).length = x.size := by rw [keptL_length, pagesL_length]
        have hge := own_ge ho
        rw [hsz] at hge
        have ho2 := ho
        rw [hkl] at ho2
        obtain ⟨a2, c2', rfl, _⟩ := own_slice ho2
        have hb4 : Below w.heap.size w ((w2.setCell ⟨w1.heap.size, 0, none⟩ (.slice a2 x.size c2')).setCell ⟨w1.heap.size, 1, none⟩ (.slice none 0 0)) := (hb3.setCell hbs _).setCell hbs _
        refine ⟨a2, c2', rfl, HX2.cell 0 0 rfl rfl, HX2.cell 0 1 rfl rfl, HX2.cell 0 2 rfl rfl, HX2.cell 0 3 rfl rfl, HX2.frozen 0 0 rfl, HX2.frozen 0 1 rfl, hb4, ?_⟩
        have hne : Value.ownBlock (.slice a2 x.size c2') ≠ some w1.heap.size := fun e => by have := hge _ e; omega
        have ho3 := own_set (own_set ho ⟨w1.heap.size, 0, none⟩ (.slice a2 x.size c2') hne) ⟨w1.heap.size, 1, none⟩ (.slice none 0 0) hne
        obtain ⟨a5, c5, e5, ht5⟩ := txs_own2 ho3
        rw [hkl] at e5 ht5
        simp only [Value.slice.injEq] at e5
        obtain ⟨rfl, _, rfl⟩ := e5
        have hpl : pagesL (settled (cntR x) (fun _ => true)) = keptL (pagesL x) x.loose := by
          rw [pagesL_sync, e2]; unfold pagesL; rw [e1, e3]
        exact with_rg2 ((h.below hb4).mono fun _ hk => .inl hk) hlen i hi (settled (cntR x) (fun _ => true)) e1 rfl rfl rfl (fun W hW => by rw [hpl]; exact TabR.agree ht5 (fun b off e => .inr (by have := hge b (by rw [e]; rfl); omega)) W hW) (fun W _ => ⟨rfl, Nat.le_refl _, by unfold maxLen; omega, fun _ => rfl, .inl rfl⟩) g4 (fun q hq => by simp [settled] at hq) hcl.1 hcl.2
      have HK := Lib.hid KEY
      have HP := Lib.hid KP
      clear h hx hu g2 g3 g5 hre hE hD hwr hc hcl KEY KP e1 e2 e3 hr hL
      generalize hcl : (cntR x).left = cl at *
      generalize hcd : (cntR x).down = cd at *
      clear hcl hcd
      go_enter Try.func21, Try.ntmps21
      go_wp2_with fail
      refine U.mono ?_
      rintro e w9 ⟨rfl, rfl⟩
      clear U
      go_wp2_with fail
      refine C.mono ?_
      rintro e w1 ⟨rfl, hb1⟩
      have hbx : Below w.heap.size w (w1.alloc (.cells #[.slice pa x.size pc, .slice la x.loose.length lc, .int .i64 cl, .bool cd] 58)) := hb1.alloc hb1.size _
      have K2 := HP.out _ hbx
      have HB1 := Lib.hid hb1
      clear C hb1 hbx
      go_wp2_with fail
      refine K2.mono ?_
      rintro e w2 ⟨v2, rfl, ho2, hb2⟩
      obtain ⟨a2, c2', rfl, k0, k1, k2, k3, f0, f1, hb4, W4⟩ := HK.out w1 w2 v2 HB1.out hb2 ho2
      have HB4 := Lib.hid hb4
      clear K2 ho2 hb2 hb4
      go_wp2_with fail
      refine W4.mono ?_
      rintro e w5 ⟨a3, n3, c3', rfl, hg3, hb3⟩
      have END := Lib.hid (show RPost K w (d.set i (settled (cntR x) (fun _ => true))) 0 (.returned (.tuple #[.slice a3 n3 c3', .int .i64 0])) w5 from ⟨a3, n3, c3', rfl, hg3.mono (from_up2 HB4.out), below_then HB4.out hb3⟩)
      clear W4 hg3 hb3
      go_wp2_with fail
      go_ret2
      exact END.out
    · have hwr : syncR x = cntR x := by rw [syncR, if_neg (by omega)]
      rw [hc, hwr]
      have C : Calls Try.prog 38 #[.agg #[.slice pa x.size pc, .slice la x.loose.length lc, .int .i64 x.left, .bool x.down]] w fun e w' => e = .returned (.tuple #[.agg #[.slice pa x.size pc, .slice la x.loose.length lc, .int .i64 (cntR x).left, .bool (cntR x).down], .int .i64 3]) ∧ Below w.heap.size w w' := C.mono fun e w' ⟨h1, h2⟩ => ⟨by rw [h1, hc], h2⟩
      have W : ∀ w1, Below w.heap.size w w1 → Calls Try.prog 39 #[.slice (some ⟨b, off, none⟩) len cap, .int .i64 (i : Int), .agg #[.slice pa x.size pc, .slice la x.loose.length lc, .int .i64 (cntR x).left, .bool (cntR x).down]] w1 (GsPost K w1 (d.set i (cntR x))) := by
        intro w1 hb1
        have e4 : pagesL (cntR x) = pagesL x := by unfold pagesL; rw [e1, e3]
        exact with_rg2 (h.below hb1) hlen i hi (cntR x) e1 (by rw [e2]) rfl rfl (fun W hW => by rw [e4]; exact g2 W ((agree_below hb1).trans hW)) (fun W hW => by rw [e2]; exact g3 W ((agree_below hb1).trans hW)) g4 (by rw [e2]; exact g5) hcl.1 hcl.2
      have HW := Lib.hid W
      clear h hx hu g2 g3 g5 hre hE hD hwr hc hcl W e1 e2 e3 hr hL
      generalize (cntR x).left = cl at *
      generalize (cntR x).down = cd at *
      go_enter Try.func21, Try.ntmps21
      go_wp2_with fail
      refine U.mono ?_
      rintro e w9 ⟨rfl, rfl⟩
      clear U
      go_wp2_with fail
      refine C.mono ?_
      rintro e w1 ⟨rfl, hb1⟩
      have hb2 : Below w.heap.size w (w1.alloc (.cells #[.slice pa x.size pc, .slice la x.loose.length lc, .int .i64 cl, .bool cd] 58)) := hb1.alloc hb1.size _
      have W2 := HW.out _ hb2
      have HB2 := Lib.hid hb2
      clear C hb1 hb2
      go_wp2_with fail
      refine W2.mono ?_
      rintro e w3 ⟨a3, n3, c3', rfl, hg3, hb3⟩
      have END := Lib.hid (show RPost K w (d.set i (cntR x)) 3 (.returned (.tuple #[.slice a3 n3 c3', .int .i64 3])) w3 from ⟨a3, n3, c3', rfl, hg3.mono (from_up HB2.out), below_then HB2.out hb3⟩)
      clear W2 hg3 hb3
      go_wp2_with fail
      go_ret2
      exact END.out
  · have hE : syncE d r = upE d r := by rw [syncE, if_neg hu]
    have hD : syncD d r = d := by rw [syncD, if_neg hu]
    rw [hE, hD]
    have q0 : (upE d r == 0) = false := by simpa using hu
    generalize upE d r = er at *
    have END := Lib.hid (show RPost K w d er (.returned (.tuple #[.slice a len cap, .int .i64 er])) w from ⟨a, len, cap, rfl, h.mono (fun _ hk => .inl hk), Below.refl _ _⟩)
    clear hu h hre hE hD hL
    go_enter Try.func21, Try.ntmps21
    go_wp2_with fail
    refine U.mono ?_
    rintro e w0 ⟨rfl, rfl⟩
    go_wp2_with fail
    go_ret2
    exact END.out
end Go.Proofs.Ytopnfpobbemfbaa
