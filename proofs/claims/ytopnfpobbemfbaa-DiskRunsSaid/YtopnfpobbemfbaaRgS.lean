/- The reference's regions: Write. -/
import Derived.Test.YtopnfpobbemfbaaRgR
import Derived.Deep.DeepCutAuto
namespace Go.Proofs.Ytopnfpobbemfbaa
open Go.RowKit

theorem info_L : (Try.prog.info? 86).map (fun i => (i.zero, i.size, i.bytes)) = some (some (.agg #[.int .i64 0, .string ByteArray.empty]), 2, 24) := by kernel_rfl
theorem lcells_one (y : Nat × P128) : ∀ u ∈ lcells y, u.oneCell' = true := by
  intro u hu
  simp only [lcells, List.mem_cons, List.not_mem_nil, or_false] at hu
  rcases hu with rfl | rfl <;> rfl
def RPost (K : Nat → Prop) (w : World) (d : List Rg) (er : Int) (e : Ending) (w' : World) : Prop := ∃ a n cap, e = .returned (.tuple #[.slice a n cap, .int .i64 er]) ∧ GsK (From K w.heap.size) w' a n cap d ∧ Below w.heap.size w w'
theorem cntR_left (x : Rg) (h1 : -1 ≤ x.left) (h2 : x.left ≤ 9223372036854775807) : -1 ≤ (cntR x).left ∧ (cntR x).left ≤ 9223372036854775807 := by
  unfold cntR; split
  · exact ⟨h1, h2⟩
  · split
    · simp only; omega
    · exact ⟨h1, h2⟩
theorem with_rg2 {K : Nat → Prop} {w : World} {a : Option Addr} {len cap : Nat} {d : List Rg} (h : GsK K w a len cap d) (hlen : len ≤ 1000) (i : Nat) (hi : i < len) (x : Rg) {pa : Option Addr} {pc : Nat} {la : Option Addr} {lc : Nat} {n m : Nat} {cl : Int} {cd : Bool} (hn : x.size = n) (hm : x.loose.length = m) (hcl : x.left = cl) (hcd : x.down = cd) (hp : ∀ W, Agree K w W → Txs W pa n pc (pagesL x)) (hl : ∀ W, Agree K w W → Ls W la m lc x.loose) (hs : n ≤ 1000) (hs2 : ∀ p ∈ x.loose, p.1 < n) (h1 : -1 ≤ cl) (h2 : cl ≤ 9223372036854775807) :
    Calls Try.prog 39 #[.slice a len cap, .int .i64 (i : Int), .agg #[.slice pa n pc, .slice la m lc, .int .i64 cl, .bool cd]] w (GsPost K w (d.set i x)) := by
  subst hn hm hcl hcd
  exact with_rg h hlen i hi x hp hl hs hs2 h1 h2
set_option maxRecDepth 100000 in
set_option maxHeartbeats 4000000 in
theorem rwrite_any {K : Nat → Prop} {w : World} {a : Option Addr} {len cap : Nat} {d : List Rg} (h : GsK K w a len cap d) (hlen : len ≤ 1000) (hL : ∀ x ∈ d, x.loose.length ≤ 100000) (r p : Int) (l : List UInt8) :
    Calls Try.prog 20 #[.slice a len cap, .int .i64 r, .int .i64 p, .string (strOf l)] w (RPost K w (writeD d r p l) (writeE d r p l)) := by
  have U := rup_any h.gs (by omega) r p true
  have hre : refE d r p true = pagedE d r p := rfl
  rw [hre] at U
  have z1 := strOf_size l
  have hst := strOf_toList l
  by_cases hu : pagedE d r p = 0
  · rw [hu] at U
    by_cases hl : l.length = 128
    · obtain ⟨i, pn, x, rfl, rfl, hx, hdn, hpn⟩ := pagedE_zero hu
      have hi : i < len := by have := (List.getElem?_eq_some_iff.1 hx).1; have := h.1; omega
      have hLx := hL x (List.mem_of_getElem? hx)
      obtain ⟨b, off, pa, pc, la, lc, rfl, hb, c0, c1, c2, c3, g2, g3, g4, g5, g6, g7⟩ := h.at hx
      have hE : writeE d i pn l = cntE x := by rw [writeE, if_pos hu, if_pos hl, atR_of hx]
      have hD : writeD d i pn l = d.set i (wroteR x pn (toP l)) := by rw [writeD, if_pos ⟨hu, hl⟩, atR_of hx, Int.toNat_natCast, Int.toNat_natCast]
      have q1 : decide ((i : Int) < len) = true := by simp; omega
      have q2 : ((l.length : Int) == 128) = true := by simp; omega
      have q3 : (l.length == 128) = true := by simp; omega
      have C := counts_rg (w := w) pa pc la lc x g6 g7
      rw [hE, hD]
      have HL := Lib.hid hl
      rcases cntE_or x with hc | hc
      · have hwr : wroteR x pn (toP l) = { cntR x with loose := x.loose ++ [(pn, toP l)] } := by unfold wroteR; rw [if_pos hc]
        rw [hc, hwr]
        have hcl := cntR_left x g6 g7
        have C : Calls Try.prog 38 #[.agg #[.slice pa x.size pc, .slice la x.loose.length lc, .int .i64 x.left, .bool x.down]] w fun e w' => e = .returned (.tuple #[.agg #[.slice pa x.size pc, .slice la x.loose.length lc, .int .i64 (cntR x).left, .bool (cntR x).down], .int .i64 0]) ∧ Below w.heap.size w w' := C.mono fun e w' ⟨h1, h2⟩ => ⟨by rw [h1, hc], h2⟩
        have hnew : lcells (pn, toP l) = [.int .i64 (pn : Int), .string (strOf l)] := by simp only [lcells, toP_val hl]
        have KEY : ∀ w1, Below w.heap.size w w1 → ∃ a1 c1 w2 a2 c2 w3, (Builtin.append_ #[56, 56] 56 #[.slice none 0 0, .slice la x.loose.length lc]).run Try.prog (w1.alloc (.cells #[.slice pa x.size pc, .slice la x.loose.length lc, .int .i64 (cntR x).left, .bool (cntR x).down] 58)) = .ok (.slice a1 x.loose.length c1) w2 ∧
            (Builtin.append_ #[56, 56] 56 #[.slice a1 x.loose.length c1, .slice (some ⟨w2.heap.size, 0, none⟩) 1 1]).run Try.prog (w2.alloc (.cells #[.int .i64 (pn : Int), .string (strOf l)] 86)) = .ok (.slice a2 (x.loose.length + 1) c2) w3 ∧
            w3.cell? ⟨w1.heap.size, 0, none⟩ = some (.slice pa x.size pc) ∧ w3.cell? ⟨w1.heap.size, 1, none⟩ = some (.slice la x.loose.length lc) ∧ w3.cell? ⟨w1.heap.size, 2, none⟩ = some (.int .i64 (cntR x).left) ∧ w3.cell? ⟨w1.heap.size, 3, none⟩ = some (.bool (cntR x).down) ∧ w2.cell? ⟨w1.heap.size, 1, none⟩ = some (.slice la x.loose.length lc) ∧ w3.frozen? ⟨w1.heap.size, 1, none⟩ = false ∧
            Below w.heap.size w (w3.setCell ⟨w1.heap.size, 1, none⟩ (.slice a2 (x.loose.length + 1) c2)) ∧
            Calls Try.prog 39 #[.slice (some ⟨b, off, none⟩) len cap, .int .i64 (i : Int), .agg #[.slice pa x.size pc, .slice a2 (x.loose.length + 1) c2, .int .i64 (cntR x).left, .bool (cntR x).down]] (w3.setCell ⟨w1.heap.size, 1, none⟩ (.slice a2 (x.loose.length + 1) c2)) (GsPost (From K w.heap.size) (w3.setCell ⟨w1.heap.size, 1, none⟩ (.slice a2 (x.loose.length + 1) c2)) (d.set i { cntR x with loose := x.loose ++ [(pn, toP l)] })) := by
          intro w1 hb1
          have hbx : Below w.heap.size w (w1.alloc (.cells #[.slice pa x.size pc, .slice la x.loose.length lc, .int .i64 (cntR x).left, .bool (cntR x).down] 58)) := hb1.alloc hb1.size _
          have HX : Boxes (w1.alloc (.cells #[.slice pa x.size pc, .slice la x.loose.length lc, .int .i64 (cntR x).left, .bool (cntR x).down] 58)) [(w1.heap.size, [.slice pa x.size pc, .slice la x.loose.length lc, .int .i64 (cntR x).left, .bool (cntR x).down])] := (Boxes.nil w1).alloc _ _ rfl
          generalize hwb : w1.alloc (.cells #[.slice pa x.size pc, .slice la x.loose.length lc, .int .i64 (cntR x).left, .bool (cntR x).down] 58) = wb at *
          have hszb : wb.heap.size = w1.heap.size + 1 := by rw [← hwb]; simp
          obtain ⟨i0, hi0, hz0, hz1, hz2⟩ := info_parts info_L
          obtain ⟨v1, w2, hr1, ho1, hg1, _⟩ := run_append_tab (P := Try.prog) (w := wb) wb.heap.size 56 86 i0 _ 2 24 Try.underlying56 hi0 hz0 hz1 hz2 rfl (by decide) (World.ownsRow_nil _ _ _ _) (fun cs y => cs = lcells y) lcells (fun _ _ h => h) lcells_length lcells_one (TabR.below (Nat.le_refl _) hbx (g3 w (Agree.refl _ _))) (by unfold maxLen; omega) (by omega) (Nat.le_refl _)
          simp only [Nat.zero_add, List.nil_append] at ho1
          obtain ⟨a1, c1, rfl, _⟩ := own_slice ho1
          have hg1s := hg1.size
          obtain ⟨v2, w3, hr2, ho2, hg2, _⟩ := run_append_new (P := Try.prog) (w := w2) wb.heap.size 56 86 i0 _ 2 24 Try.underlying56 hi0 hz0 hz1 hz2 rfl (by decide) ho1 #[.int .i64 (pn : Int), .string (strOf l)] rfl (by intro u hu; simp at hu; rcases hu with rfl | rfl <;> rfl) (by unfold maxLen; omega) (by omega) hg1s
          obtain ⟨a2, c2, rfl, _⟩ := own_slice ho2
          have hge1 := own_ge ho1
          have hge2 := own_ge ho2
          have hge3 : ∀ b off, a2 = some ⟨b, off, none⟩ → w1.heap.size + 1 ≤ b := fun b off e => by have := hge2 b (by rw [e]; rfl); omega
          have HX2 := HX.grown hg1 (fun p hp e => by cases e)
          have HX3 := HX2.grown hg2 (fun p hp e => by simp at hp; subst hp; have := hge1 _ e; simp only at this; omega)
          have hbs := hb1.size
          have hb3 : Below w.heap.size w w3 := (hbx.grown hg1 hbx.size (fun k hk => by cases hk)).grown hg2 (by omega) (fun k hk => by have := hge1 k hk; omega)
          have hb4 : Below w.heap.size w (w3.setCell ⟨w1.heap.size, 1, none⟩ (.slice a2 (x.loose.length + 1) c2)) := hb3.setCell hbs _
          refine ⟨a1, c1, w2, a2, c2, w3, hr1, hr2, HX3.cell 0 0 rfl rfl, HX3.cell 0 1 rfl rfl, HX3.cell 0 2 rfl rfl, HX3.cell 0 3 rfl rfl, HX2.cell 0 1 rfl rfl, HX3.frozen 0 1 rfl, hb4, ?_⟩
          have ho3 := own_set ho2 ⟨w1.heap.size, 1, none⟩ (.slice a2 (x.loose.length + 1) c2) (fun e => by have := hge2 _ e; simp only at this; omega)
          have hxs : x.loose.flatMap lcells ++ #[Value.int .i64 (pn : Int), .string (strOf l)].toList = (x.loose ++ [(pn, toP l)]).flatMap lcells := by
            rw [List.flatMap_append]; simp [hnew]
          rw [hxs] at ho3
          have hln : (x.loose ++ [(pn, toP l)]).length = x.loose.length + 1 := by simp
          obtain ⟨a5, c5, e5, htl⟩ := TabR.of_own lcells lcells_length (R := fun cs y => cs = lcells y) (fun _ => rfl) (l := x.loose ++ [(pn, toP l)]) (by rw [hln]; exact ho3)
          rw [hln] at e5
          simp only [Value.slice.injEq] at e5
          obtain ⟨rfl, _, rfl⟩ := e5
          have e1 : (cntR x).size = x.size := wrote_size x
          have e3 : pagesL { cntR x with loose := x.loose ++ [(pn, toP l)] } = pagesL x := by
            have : (cntR x).pages = x.pages := by unfold cntR; split <;> (try split) <;> rfl
            unfold pagesL; simp only [e1, this]
          refine with_rg2 ((h.below hb4).mono fun _ hk => .inl hk) hlen i hi { cntR x with loose := x.loose ++ [(pn, toP l)] } e1 hln rfl rfl (fun W hW => by rw [e3]; exact g2 W (Agree.step hb4 hW)) (fun W hW => by have ht9 := htl; rw [hln] at ht9; exact TabR.agree ht9 (fun b off e => .inr (by have := hge3 b off e; omega)) W hW) g4 (fun q hq => ?_) hcl.1 hcl.2
          rcases List.mem_append.1 hq with hq | hq
          · exact g5 q hq
          · simp at hq; subst hq; exact hpn
        have HK := Lib.hid KEY
        clear h hx hu hdn g2 g3 g5 hre hE hD hwr hc hcl KEY hL hl hpn hnew
        generalize hcl : (cntR x).left = cl at *
        generalize hcd : (cntR x).down = cd at *
        clear hcl hcd
        go_enter Try.func20, Try.ntmps20
        go_wp2_with fail
        refine U.mono ?_
        rintro e w9 ⟨rfl, rfl⟩
        clear U
        go_wp2_with fail
        refine C.mono ?_
        rintro e w1 ⟨rfl, hb1⟩
        obtain ⟨a1, c1', w2, a2, c2', w3, hr1, hr2, k0, k1, k2, k3, k4, kf, hb4, W4⟩ := HK.out w1 hb1
        have HB4 := Lib.hid hb4
        clear C hb1 hb4
        go_upto_region 10 with (at_builtin; refine wpList_append_run rfl _ _ _ _ rfl rfl rfl hr1 ?_)
        go_upto_region 11 with (at_builtin; refine wpList_append_run rfl _ _ _ _ rfl rfl rfl hr2 ?_)
        go_wp2_with fail
        refine W4.mono ?_
        rintro e w5 ⟨a3, n3, c3', rfl, hg3, hb3⟩
        have END := Lib.hid (show RPost K w (d.set i { cntR x with loose := x.loose ++ [(pn, toP l)] }) 0 (.returned (.tuple #[.slice a3 n3 c3', .int .i64 0])) w5 from ⟨a3, n3, c3', rfl, hg3.mono (from_up2 HB4.out), below_then HB4.out hb3⟩)
        clear W4 hg3 hb3
        go_wp2_with fail
        go_ret2
        exact END.out
      · have hwr : wroteR x pn (toP l) = cntR x := by unfold wroteR; rw [if_neg (by omega)]
        rw [hc, hwr]
        have hcl := cntR_left x g6 g7
        have C : Calls Try.prog 38 #[.agg #[.slice pa x.size pc, .slice la x.loose.length lc, .int .i64 x.left, .bool x.down]] w fun e w' => e = .returned (.tuple #[.agg #[.slice pa x.size pc, .slice la x.loose.length lc, .int .i64 (cntR x).left, .bool (cntR x).down], .int .i64 3]) ∧ Below w.heap.size w w' := C.mono fun e w' ⟨h1, h2⟩ => ⟨by rw [h1, hc], h2⟩
        have W : ∀ w1, Below w.heap.size w w1 → Calls Try.prog 39 #[.slice (some ⟨b, off, none⟩) len cap, .int .i64 (i : Int), .agg #[.slice pa x.size pc, .slice la x.loose.length lc, .int .i64 (cntR x).left, .bool (cntR x).down]] w1 (GsPost K w1 (d.set i (cntR x))) := by
          intro w1 hb1
          have e1 : (cntR x).size = x.size := wrote_size x
          have e2 : (cntR x).loose = x.loose := cntR_loose x
          have e3 : pagesL (cntR x) = pagesL x := by
            have : (cntR x).pages = x.pages := by unfold cntR; split <;> (try split) <;> rfl
            unfold pagesL; rw [e1, this]
          have := with_rg (h.below hb1) hlen i hi (cntR x) (pa := pa) (pc := pc) (la := la) (lc := lc) (fun W hW => by rw [e1, e3]; exact g2 W ((agree_below hb1).trans hW)) (fun W hW => by rw [e2]; exact g3 W ((agree_below hb1).trans hW)) (by rw [e1]; exact g4) (by rw [e1, e2]; exact g5) hcl.1 hcl.2
          rwa [e1, e2] at this
        have HW := Lib.hid W
        clear h hx hu hdn g2 g3 g5 hre hE hD hwr hc hcl W hL hl hpn
        generalize (cntR x).left = cl at *
        generalize (cntR x).down = cd at *
        go_enter Try.func20, Try.ntmps20
        go_wp2_with fail
        refine U.mono ?_
        rintro e w9 ⟨rfl, rfl⟩
        clear U
        go_wp2_with fail
        refine C.mono ?_
        rintro e w1 ⟨rfl, hb1⟩
        have hb2 : Below w.heap.size w (w1.alloc (.cells #[.slice pa x.size pc, .slice la x.loose.length lc, .int .i64 cl, .bool cd] 58)) := hb1.alloc hb1.size _
        have W2 := HW.out _ hb2
        have HB2 := Lib.hid hb2
        clear C hb1 hb2
        go_wp2_with fail
        refine W2.mono ?_
        rintro e w3 ⟨a3, n3, c3', rfl, hg3, hb3⟩
        have END := Lib.hid (show RPost K w (d.set i (cntR x)) 3 (.returned (.tuple #[.slice a3 n3 c3', .int .i64 3])) w3 from ⟨a3, n3, c3', rfl, hg3.mono (from_up HB2.out), below_then HB2.out hb3⟩)
        clear W2 hg3 hb3
        go_wp2_with fail
        go_ret2
        exact END.out
    · have hE : writeE d r p l = 1 := by rw [writeE, if_pos hu, if_neg hl]
      have hD : writeD d r p l = d := by rw [writeD, if_neg (fun h => hl h.2)]
      rw [hE, hD]
      have q2 : ((l.length : Int) == 128) = false := by simp; omega
      have q3 : (l.length == 128) = false := by simp; omega
      have END := Lib.hid (show RPost K w d 1 (.returned (.tuple #[.slice a len cap, .int .i64 1])) w from ⟨a, len, cap, rfl, h.mono (fun _ hk => .inl hk), Below.refl _ _⟩)
      clear h hu hE hD hre hl hL
      go_enter Try.func20, Try.ntmps20
      go_wp2_with fail
      refine U.mono ?_
      rintro e w0 ⟨rfl, rfl⟩
      go_wp2_with fail
      go_ret2
      exact END.out
  · have hE : writeE d r p l = pagedE d r p := by rw [writeE, if_neg hu]
    have hD : writeD d r p l = d := by rw [writeD, if_neg (fun h => hu h.1)]
    rw [hE, hD]
    have q0 : (pagedE d r p == 0) = false := by simpa using hu
    generalize pagedE d r p = er at *
    have END := Lib.hid (show RPost K w d er (.returned (.tuple #[.slice a len cap, .int .i64 er])) w from ⟨a, len, cap, rfl, h.mono (fun _ hk => .inl hk), Below.refl _ _⟩)
    clear hu h hre hE hD hL
    go_enter Try.func20, Try.ntmps20
    go_wp2_with fail
    refine U.mono ?_
    rintro e w0 ⟨rfl, rfl⟩
    go_wp2_with fail
    go_ret2
    exact END.out
end Go.Proofs.Ytopnfpobbemfbaa
