/- Texts that other texts of this claim lean on, one behind the other. -/
import Derived.Test.YtfidfbgplfjakaaDoorM10
import Derived.Deep.DeepCutAuto
import Derived.Test.YtfidfbgplfjakaaDoorM7
import Derived.Deep.RegionHeld3
import Derived.Test.YtfidfbgplfjakaaDoorM4
import Derived.Test.YtfidfbgplfjakaaDoorM1
/- The reference's regions: Write. -/
namespace Go.Proofs.YtfidfbgplfjakaaDoor
open Go.RowKit

theorem info_L : (Tryd.prog.info? 99).map (fun i => (i.zero, i.size, i.bytes)) = some (some (.agg #[.int .i64 0, .string ByteArray.empty]), 2, 24) := by kernel_rfl
theorem lcells_one (y : Nat × P128) : ∀ u ∈ lcells y, u.oneCell' = true := by
  intro u hu
  simp only [lcells, List.mem_cons, List.not_mem_nil, or_false] at hu
  rcases hu with rfl | rfl <;> rfl
def RPost (K : Nat → Prop) (w : World) (d : List Rg) (er : Int) (e : Ending) (w' : World) : Prop := ∃ a n cap, e = .returned (.tuple #[.slice a n cap, .int .i64 er]) ∧ GsK (From K w.heap.size) w' a n cap d ∧ Below w.heap.size w w'
theorem cntR_left (x : Rg) (h1 : -1 ≤ x.left) (h2 : x.left ≤ 9223372036854775807) : -1 ≤ (cntR x).left ∧ (cntR x).left ≤ 9223372036854775807 := by
  unfold cntR; split
  · exact ⟨h1, h2⟩
  · split
    · simp only; omega
    · exact ⟨h1, h2⟩
theorem with_rg2 {K : Nat → Prop} {w : World} {a : Option Addr} {len cap : Nat} {d : List Rg} (h : GsK K w a len cap d) (hlen : len ≤ 1000) (i : Nat) (hi : i < len) (x : Rg) {pa : Option Addr} {pc : Nat} {la : Option Addr} {lc : Nat} {n m : Nat} {cl : Int} {cd : Bool} (hn : x.size = n) (hm : x.loose.length = m) (hcl : x.left = cl) (hcd : x.down = cd) (hp : ∀ W, Agree K w W → Txs W pa n pc (pagesL x)) (hl : ∀ W, Agree K w W → Ls W la m lc x.loose) (hs : n ≤ 1000) (hs2 : ∀ p ∈ x.loose, p.1 < n) (h1 : -1 ≤ cl) (h2 : cl ≤ 9223372036854775807) :
    Calls Tryd.prog 39 #[.slice a len cap, .int .i64 (i : Int), .agg #[.slice pa n pc, .slice la m lc, .int .i64 cl, .bool cd]] w (GsPost K w (d.set i x)) := by
  subst hn hm hcl hcd
  exact with_rg h hlen i hi x hp hl hs hs2 h1 h2
set_option maxRecDepth 100000 in
set_option maxHeartbeats 4000000 in
theorem rwrite_any {K : Nat → Prop} {w : World} {a : Option Addr} {len cap : Nat} {d : List Rg} (h : GsK K w a len cap d) (hlen : len ≤ 1000) (hL : ∀ x ∈ d, x.loose.length ≤ 100000) (r p : Int) (l : List UInt8) :
    Calls Tryd.prog 17 #[.slice a len cap, .int .i64 r, .int .i64 p, .string (strOf l)] w (RPost K w (writeD d r p l) (writeE d r p l)) := by
  have U := rup_any h.gs (by omega) r p true
  have hre : refE d r p true = pagedE d r p := rfl
  rw [hre] at U
  have z1 := strOf_size l
  have hst := strOf_toList l
  by_cases hu : pagedE d r p = 0
  · rw [hu] at U
    by_cases hl : l.length = 128
    · obtain ⟨i, pn, x, rfl, rfl, hx, hdn, hpn⟩ := pagedE_zero hu
      have hi : i < len := by have := (List.getElem?_eq_some_iff.1 hx).1; have := h.1; omega
      have hLx := hL x (List.mem_of_getElem? hx)
      obtain ⟨b, off, pa, pc, la, lc, rfl, hb, c0, c1, c2, c3, g2, g3, g4, g5, g6, g7⟩ := h.at hx
      have hE : writeE d i pn l = cntE x := by rw [writeE, if_pos hu, if_pos hl, atR_of hx]
      have hD : writeD d i pn l = d.set i (wroteR x pn (toP l)) := by rw [writeD, if_pos ⟨hu, hl⟩, atR_of hx, Int.toNat_natCast, Int.toNat_natCast]
      have q1 : decide ((i : Int) < len) = true := by simp; omega
      have q2 : ((l.length : Int) == 128) = true := by simp; omega
      have q3 : (l.length == 128) = true := by simp; omega
      have C := counts_rg (w := w) pa pc la lc x g6 g7
      rw [hE, hD]
      have HL := Lib.hid hl
      rcases cntE_or x with hc | hc
      · have hwr : wroteR x pn (toP l) = { cntR x with loose := x.loose ++ [(pn, toP l)] } := by unfold wroteR; rw [if_pos hc]
        rw [hc, hwr]
        have hcl := cntR_left x g6 g7
        have C : Calls Tryd.prog 38 #[.agg #[.slice pa x.size pc, .slice la x.loose.length lc, .int .i64 x.left, .bool x.down]] w fun e w' => e = .returned (.tuple #[.agg #[.slice pa x.size pc, .slice la x.loose.length lc, .int .i64 (cntR x).left, .bool (cntR x).down], .int .i64 0]) ∧ Below w.heap.size w w' := C.mono fun e w' ⟨h1, h2⟩ => ⟨by rw [h1, hc], h2⟩
        have hnew : lcells (pn, toP l) = [.int .i64 (pn : Int), .string (strOf l)] := by simp only [lcells, toP_val hl]
        have KEY : ∀ w1, Below w.heap.size w w1 → ∃ a1 c1 w2 a2 c2 w3, (Builtin.append_ #[85, 85] 85 #[.slice none 0 0, .slice la x.loose.length lc]).run Tryd.prog (w1.alloc (.cells #[.slice pa x.size pc, .slice la x.loose.length lc, .int .i64 (cntR x).left, .bool (cntR x).down] 87)) = .ok (.slice a1 x.loose.length c1) w2 ∧
            (Builtin.append_ #[85, 85] 85 #[.slice a1 x.loose.length c1, .slice (some ⟨w2.heap.size, 0, none⟩) 1 1]).run Tryd.prog (w2.alloc (.cells #[.int .i64 (pn : Int), .string (strOf l)] 99)) = .ok (.slice a2 (x.loose.length + 1) c2) w3 ∧
            w3.cell? ⟨w1.heap.size, 0, none⟩ = some (.slice pa x.size pc) ∧ w3.cell? ⟨w1.heap.size, 1, none⟩ = some (.slice la x.loose.length lc) ∧ w3.cell? ⟨w1.heap.size, 2, none⟩ = some (.int .i64 (cntR x).left) ∧ w3.cell? ⟨w1.heap.size, 3, none⟩ = some (.bool (cntR x).down) ∧ w2.cell? ⟨w1.heap.size, 1, none⟩ = some (.slice la x.loose.length lc) ∧ w3.frozen? ⟨w1.heap.size, 1, none⟩ = false ∧
            Below w.heap.size w (w3.setCell ⟨w1.heap.size, 1, none⟩ (.slice a2 (x.loose.length + 1) c2)) ∧
            Calls Tryd.prog 39 #[.slice (some ⟨b, off, none⟩) len cap, .int .i64 (i : Int), .agg #[.slice pa x.size pc, .slice a2 (x.loose.length + 1) c2, .int .i64 (cntR x).left, .bool (cntR x).down]] (w3.setCell ⟨w1.heap.size, 1, none⟩ (.slice a2 (x.loose.length + 1) c2)) (GsPost (From K w.heap.size) (w3.setCell ⟨w1.heap.size, 1, none⟩ (.slice a2 (x.loose.length + 1) c2)) (d.set i { cntR x with loose := x.loose ++ [(pn, toP l)] })) := by
          intro w1 hb1
          have hbx : Below w.heap.size w (w1.alloc (.cells #[.slice pa x.size pc, .slice la x.loose.length lc, .int .i64 (cntR x).left, .bool (cntR x).down] 87)) := hb1.alloc hb1.size _
          have HX : Boxes (w1.alloc (.cells #[.slice pa x.size pc, .slice la x.loose.length lc, .int .i64 (cntR x).left, .bool (cntR x).down] 87)) [(w1.heap.size, [.slice pa x.size pc, .slice la x.loose.length lc, .int .i64 (cntR x).left, .bool (cntR x).down])] := (Boxes.nil w1).alloc _ _ rfl
          generalize hwb : w1.alloc (.cells #[.slice pa x.size pc, .slice la x.loose.length lc, .int .i64 (cntR x).left, .bool (cntR x).down] 87) = wb at *
          have hszb : wb.heap.size = w1.heap.size + 1 := by rw [← hwb]; simp
          obtain ⟨i0, hi0, hz0, hz1, hz2⟩ := info_parts info_L
          obtain ⟨v1, w2, hr1, ho1, hg1, _⟩ := run_append_tab (P := Tryd.prog) (w := wb) wb.heap.size 85 99 i0 _ 2 24 Tryd.underlying85 hi0 hz0 hz1 hz2 rfl (by decide) (World.ownsRow_nil _ _ _ _) (fun cs y => cs = lcells y) lcells (fun _ _ h => h) lcells_length lcells_one (TabR.below (Nat.le_refl _) hbx (g3 w (Agree.refl _ _))) (by unfold maxLen; omega) (by omega) (Nat.le_refl _)
          simp only [Nat.zero_add, List.nil_append] at ho1
          obtain ⟨a1, c1, rfl, _⟩ := own_slice ho1
          have hg1s := hg1.size
          obtain ⟨v2, w3, hr2, ho2, hg2, _⟩ := run_append_new (P := Tryd.prog) (w := w2) wb.heap.size 85 99 i0 _ 2 24 Tryd.underlying85 hi0 hz0 hz1 hz2 rfl (by decide) ho1 #[.int .i64 (pn : Int), .string (strOf l)] rfl (by intro u hu; simp at hu; rcases hu with rfl | rfl <;> rfl) (by unfold maxLen; omega) (by omega) hg1s
          obtain ⟨a2, c2, rfl, _⟩ := own_slice ho2
          have hge1 := own_ge ho1
          have hge2 := own_ge ho2
          have hge3 : ∀ b off, a2 = some ⟨b, off, none⟩ → w1.heap.size + 1 ≤ b := fun b off e => by have := hge2 b (by rw [e]; rfl); omega
          have HX2 := HX.grown hg1 (fun p hp e => by cases e)
          have HX3 := HX2.grown hg2 (fun p hp e => by simp at hp; subst hp; have := hge1 _ e; simp only at this; omega)
          have hbs := hb1.size
          have hb3 : Below w.heap.size w w3 := (hbx.grown hg1 hbx.size (fun k hk => by cases hk)).grown hg2 (by omega) (fun k hk => by have := hge1 k hk; omega)
          have hb4 : Below w.heap.size w (w3.setCell ⟨w1.heap.size, 1, none⟩ (.slice a2 (x.loose.length + 1) c2)) := hb3.setCell hbs _
          refine ⟨a1, c1, w2, a2, c2, w3, hr1, hr2, HX3.cell 0 0 rfl rfl, HX3.cell 0 1 rfl rfl, HX3.cell 0 2 rfl rfl, HX3.cell 0 3 rfl rfl, HX2.cell 0 1 rfl rfl, HX3.frozen 0 1 rfl, hb4, ?_⟩
          have ho3 := own_set ho2 ⟨w1.heap.size, 1, none⟩ (.slice a2 (x.loose.length + 1) c2) (fun e => by have := hge2 _ e; simp only at this; omega)
          have hxs : x.loose.flatMap lcells ++ #[Value.int .i64 (pn : Int), .string (strOf l)].toList = (x.loose ++ [(pn, toP l)]).flatMap lcells := by
            rw [List.flatMap_append]; simp [hnew]
          rw [hxs] at ho3
          have hln : (x.loose ++ [(pn, toP l)]).length = x.loose.length + 1 := by simp
          obtain ⟨a5, c5, e5, htl⟩ := TabR.of_own lcells lcells_length (R := fun cs y => cs = lcells y) (fun _ => rfl) (l := x.loose ++ [(pn, toP l)]) (by rw [hln]; exact ho3)
          rw [hln] at e5
          simp only [Value.slice.injEq] at e5
          obtain ⟨rfl, _, rfl⟩ := e5
          have e1 : (cntR x).size = x.size := wrote_size x
          have e3 : pagesL { cntR x with loose := x.loose ++ [(pn, toP l)] } = pagesL x := by
            have : (cntR x).pages = x.pages := by unfold cntR; split <;> (try split) <;> rfl
            unfold pagesL; simp only [e1, this]
          refine with_rg2 ((h.below hb4).mono fun _ hk => .inl hk) hlen i hi { cntR x with loose := x.loose ++ [(pn, toP l)] } e1 hln rfl rfl (fun W hW => by rw [e3]; exact g2 W (Agree.step hb4 hW)) (fun W hW => by have ht9 := htl; rw [hln] at ht9; exact TabR.agree ht9 (fun b off e => .inr (by have := hge3 b off e; omega)) W hW) g4 (fun q hq => ?_) hcl.1 hcl.2
          rcases List.mem_append.1 hq with hq | hq
          · exact g5 q hq
          · simp at hq; subst hq; exact hpn
        have HK := Lib.hid KEY
        clear h hx hu hdn g2 g3 g5 hre hE hD hwr hc hcl KEY hL hl hpn hnew
        generalize hcl : (cntR x).left = cl at *
        generalize hcd : (cntR x).down = cd at *
        clear hcl hcd
        go_enter Tryd.func17, Tryd.ntmps17
        go_wp2_with fail
        refine U.mono ?_
        rintro e w9 ⟨rfl, rfl⟩
        clear U
        go_wp2_with fail
        refine C.mono ?_
        rintro e w1 ⟨rfl, hb1⟩
        obtain ⟨a1, c1', w2, a2, c2', w3, hr1, hr2, k0, k1, k2, k3, k4, kf, hb4, W4⟩ := HK.out w1 hb1
        have HB4 := Lib.hid hb4
        clear C hb1 hb4
        go_upto_region 10 with (at_builtin; refine wpList_append_run rfl _ _ _ _ rfl rfl rfl hr1 ?_)
        go_upto_region 11 with (at_builtin; refine wpList_append_run rfl _ _ _ _ rfl rfl rfl hr2 ?_)
        go_wp2_with fail
        refine W4.mono ?_
        rintro e w5 ⟨a3, n3, c3', rfl, hg3, hb3⟩
        have END := Lib.hid (show RPost K w (d.set i { cntR x with loose := x.loose ++ [(pn, toP l)] }) 0 (.returned (.tuple #[.slice a3 n3 c3', .int .i64 0])) w5 from ⟨a3, n3, c3', rfl, hg3.mono (from_up2 HB4.out), below_then HB4.out hb3⟩)
        clear W4 hg3 hb3
        go_wp2_with fail
        go_ret2
        exact END.out
      · have hwr : wroteR x pn (toP l) = cntR x := by unfold wroteR; rw [if_neg (by omega)]
        rw [hc, hwr]
        have hcl := cntR_left x g6 g7
        have C : Calls Tryd.prog 38 #[.agg #[.slice pa x.size pc, .slice la x.loose.length lc, .int .i64 x.left, .bool x.down]] w fun e w' => e = .returned (.tuple #[.agg #[.slice pa x.size pc, .slice la x.loose.length lc, .int .i64 (cntR x).left, .bool (cntR x).down], .int .i64 3]) ∧ Below w.heap.size w w' := C.mono fun e w' ⟨h1, h2⟩ => ⟨by rw [h1, hc], h2⟩
        have W : ∀ w1, Below w.heap.size w w1 → Calls Tryd.prog 39 #[.slice (some ⟨b, off, none⟩) len cap, .int .i64 (i : Int), .agg #[.slice pa x.size pc, .slice la x.loose.length lc, .int .i64 (cntR x).left, .bool (cntR x).down]] w1 (GsPost K w1 (d.set i (cntR x))) := by
          intro w1 hb1
          have e1 : (cntR x).size = x.size := wrote_size x
          have e2 : (cntR x).loose = x.loose := cntR_loose x
          have e3 : pagesL (cntR x) = pagesL x := by
            have : (cntR x).pages = x.pages := by unfold cntR; split <;> (try split) <;> rfl
            unfold pagesL; rw [e1, this]
          have := with_rg (h.below hb1) hlen i hi (cntR x) (pa := pa) (pc := pc) (la := la) (lc := lc) (fun W hW => by rw [e1, e3]; exact g2 W ((agree_below hb1).trans hW)) (fun W hW => by rw [e2]; exact g3 W ((agree_below hb1).trans hW)) (by rw [e1]; exact g4) (by rw [e1, e2]; exact g5) hcl.1 hcl.2
          rwa [e1, e2] at this
        have HW := Lib.hid W
        clear h hx hu hdn g2 g3 g5 hre hE hD hwr hc hcl W hL hl hpn
        generalize (cntR x).left = cl at *
        generalize (cntR x).down = cd at *
        go_enter Tryd.func17, Tryd.ntmps17
        go_wp2_with fail
        refine U.mono ?_
        rintro e w9 ⟨rfl, rfl⟩
        clear U
        go_wp2_with fail
        refine C.mono ?_
        rintro e w1 ⟨rfl, hb1⟩
        have hb2 : Below w.heap.size w (w1.alloc (.cells #[.slice pa x.size pc, .slice la x.loose.length lc, .int .i64 cl, .bool cd] 87)) := hb1.alloc hb1.size _
        have W2 := HW.out _ hb2
        have HB2 := Lib.hid hb2
        clear C hb1 hb2
        go_wp2_with fail
        refine W2.mono ?_
        rintro e w3 ⟨a3, n3, c3', rfl, hg3, hb3⟩
        have END := Lib.hid (show RPost K w (d.set i (cntR x)) 3 (.returned (.tuple #[.slice a3 n3 c3', .int .i64 3])) w3 from ⟨a3, n3, c3', rfl, hg3.mono (from_up HB2.out), below_then HB2.out hb3⟩)
        clear W2 hg3 hb3
        go_wp2_with fail
        go_ret2
        exact END.out
    · have hE : writeE d r p l = 1 := by rw [writeE, if_pos hu, if_neg hl]
      have hD : writeD d r p l = d := by rw [writeD, if_neg (fun h => hl h.2)]
      rw [hE, hD]
      have q2 : ((l.length : Int) == 128) = false := by simp; omega
      have q3 : (l.length == 128) = false := by simp; omega
      have END := Lib.hid (show RPost K w d 1 (.returned (.tuple #[.slice a len cap, .int .i64 1])) w from ⟨a, len, cap, rfl, h.mono (fun _ hk => .inl hk), Below.refl _ _⟩)
      clear h hu hE hD hre hl hL
      go_enter Tryd.func17, Tryd.ntmps17
      go_wp2_with fail
      refine U.mono ?_
      rintro e w0 ⟨rfl, rfl⟩
      go_wp2_with fail
      go_ret2
      exact END.out
  · have hE : writeE d r p l = pagedE d r p := by rw [writeE, if_neg hu]
    have hD : writeD d r p l = d := by rw [writeD, if_neg (fun h => hu h.1)]
    rw [hE, hD]
    have q0 : (pagedE d r p == 0) = false := by simpa using hu
    generalize pagedE d r p = er at *
    have END := Lib.hid (show RPost K w d er (.returned (.tuple #[.slice a len cap, .int .i64 er])) w from ⟨a, len, cap, rfl, h.mono (fun _ hk => .inl hk), Below.refl _ _⟩)
    clear hu h hre hE hD hL
    go_enter Tryd.func17, Tryd.ntmps17
    go_wp2_with fail
    refine U.mono ?_
    rintro e w0 ⟨rfl, rfl⟩
    go_wp2_with fail
    go_ret2
    exact END.out
end Go.Proofs.YtfidfbgplfjakaaDoor

/- The reference's regions: rows of fresh regions (New, Crash). -/
namespace Go.Proofs.YtfidfbgplfjakaaDoor
open Go.RowKit

/-- A fresh region's record: its pages are a row of the call's own, nothing is loose. -/
def IsGo (B : Nat) (w : World) (g : List Value) (x : Rg) : Prop := ∃ pa pc, g = [.slice pa x.size pc, .slice none 0 0, .int .i64 x.left, .bool x.down] ∧ w.ownsRow B 9 1 (.slice pa x.size pc) x.size ((pagesL x).map strV) ∧ x.loose = [] ∧ x.size ≤ 1000 ∧ -1 ≤ x.left ∧ x.left ≤ 9223372036854775807
theorem IsGo.isG {B : Nat} {w : World} {g : List Value} {x : Rg} (h : IsGo B w g x) : IsG w g x := by
  obtain ⟨pa, pc, h1, h2, h3, h4, h5⟩ := h
  obtain ⟨a, cap, e, ht⟩ := txs_own2 (ks := pagesL x) (by rw [pagesL_length]; exact h2)
  rw [pagesL_length] at e ht
  cases e
  refine ⟨pa, pc, none, 0, by rw [h1, h3]; rfl, ht, ?_, h4, by rw [h3]; simp, h5⟩
  rw [h3]
  exact ⟨rfl, Nat.le_refl _, by unfold maxLen; simp, fun _ => rfl, .inl rfl⟩
/-- Rows of two element types lie apart. -/
theorem own_apart_types {w : World} {b1 b2 : Nat} {e1 e2 : TypeId} {s1 s2 : Nat} {v1 v2 : Value} {n1 n2 : Nat} {xs ys : List Value} (h1 : w.ownsRow b1 e1 s1 v1 n1 xs) (h2 : w.ownsRow b2 e2 s2 v2 n2 ys) (hne : e1 ≠ e2) : ∀ k, v1.ownBlock = some k → v2.ownBlock ≠ some k := by
  intro k hk hk2
  rcases h1.2 with ⟨e, _⟩ | ⟨g, cap, cur, e, _, hg, _⟩
  · rw [e] at hk; cases hk
  · rcases h2.2 with ⟨e', _⟩ | ⟨g', cap', cur', e', _, hg', _⟩
    · rw [e'] at hk2; cases hk2
    · rw [e] at hk; rw [e'] at hk2
      cases hk; cases hk2
      rw [hg] at hg'
      simp only [Option.some.injEq, Obj.cells.injEq] at hg'
      exact hne hg'.2.1
theorem own_grown {w w' : World} {base : Nat} {e : TypeId} {size : Nat} {v : Value} {n : Nat} {xs : List Value} {row : Option Nat} (h : w.ownsRow base e size v n xs) (hg : w.grownBy w' row) (hne : ∀ k, v.ownBlock = some k → row ≠ some k) : w'.ownsRow base e size v n xs := by
  refine ⟨h.1, h.2.imp id fun ⟨g, cap, cur, e1, hg1, hh, r⟩ => ⟨g, cap, cur, e1, hg1, ?_, r⟩⟩
  subst e1
  rw [hg.block g (Array.getElem?_eq_some_iff.1 hh).1 (fun e => hne g rfl e.symm)]; exact hh
/-- A row of fresh regions of the call's own. -/
def GOwn (B : Nat) (wr : World) (v : Value) (dd : List Rg) : Prop := ∃ gs : List C4, gs.length = dd.length ∧ wr.ownsRow B 87 4 v dd.length (gs.flatMap (·.1)) ∧ ∀ (i : Nat) (g : C4) (x : Rg), gs[i]? = some g → dd[i]? = some x → IsGo B wr g.1 x
theorem GOwn.nil (B : Nat) (w : World) : GOwn B w (.slice none 0 0) [] := ⟨[], rfl, World.ownsRow_nil _ _ _ _, fun i g x h => by simp at h⟩
theorem GOwn.below {B : Nat} {w w' : World} {v : Value} {dd : List Rg} (h : GOwn B w v dd) (hb : Below w.heap.size w w') : GOwn B w' v dd := by
  obtain ⟨gs, h1, h2, h3⟩ := h
  refine ⟨gs, h1, own_step h2 hb, fun i g x hg hx => ?_⟩
  obtain ⟨pa, pc, e1, e2, e3⟩ := h3 i g x hg hx
  exact ⟨pa, pc, e1, own_step e2 hb, e3⟩
theorem GOwn.gs {B : Nat} {w : World} {v : Value} {dd : List Rg} (h : GOwn B w v dd) : ∃ a cap, v = .slice a dd.length cap ∧ Gs w a dd.length cap dd := by
  obtain ⟨gs, h1, h2, h3⟩ := h
  obtain ⟨a, cap, e, ht⟩ := TabR.of_own (fun z : C4 => z.1) (fun z => z.2.1) (R := fun cs (z : C4) => cs = z.1) (fun _ => rfl) (l := gs) (by rw [h1]; exact h2)
  rw [h1] at e ht
  exact ⟨a, cap, e, rfl, gs, ht, fun i g x hg hx => (h3 i g x hg hx).isG⟩
theorem own_agree {w W : World} {B : Nat} {e : TypeId} {size : Nat} {v : Value} {n : Nat} {xs : List Value} (h : w.ownsRow B e size v n xs) (hA : Agree (From (fun _ => False) B) w W) : W.ownsRow B e size v n xs :=
  ⟨h.1, h.2.imp id fun ⟨g, cap, cur, e1, hg1, hh, r⟩ => ⟨g, cap, cur, e1, hg1, hA.2 g _ (.inr hg1) hh, r⟩⟩
/-- It stands on the call's own blocks. -/
theorem GOwn.gsK {B : Nat} {w : World} {v : Value} {dd : List Rg} (h : GOwn B w v dd) : ∃ a cap, v = .slice a dd.length cap ∧ GsK (From (fun _ => False) B) w a dd.length cap dd := by
  obtain ⟨gs, h1, h2, h3⟩ := h
  obtain ⟨a, cap, e, _⟩ := TabR.of_own (fun z : C4 => z.1) (fun z => z.2.1) (R := fun cs (z : C4) => cs = z.1) (fun _ => rfl) (l := gs) (by rw [h1]; exact h2)
  rw [h1] at e
  refine ⟨a, cap, e, rfl, gs, fun W hW => ?_, fun i g x hg hx W hW => ?_⟩
  · obtain ⟨a', cap', e', ht⟩ := TabR.of_own (fun z : C4 => z.1) (fun z => z.2.1) (R := fun cs (z : C4) => cs = z.1) (fun _ => rfl) (l := gs) (by rw [h1]; exact own_agree h2 hW)
    rw [h1] at e' ht
    rw [e] at e'
    cases e'
    exact ht
  · obtain ⟨pa, pc, k1, k2, k3⟩ := h3 i g x hg hx
    exact IsGo.isG (B := B) ⟨pa, pc, k1, own_agree k2 hW, k3⟩
/-- One region more. -/
theorem GOwn.push {w : World} {B : Nat} {v : Value} {dd : List Rg} (h : GOwn B w v dd) (hdd : dd.length ≤ 1000) (hB : B ≤ w.heap.size) (g : C4) (x : Rg) (hg : IsGo B w g.1 x) :
    ∃ v' w', (Builtin.append_ #[39, 39] 39 #[v, .slice (some ⟨w.heap.size, 0, none⟩) 1 1]).run Tryd.prog (w.alloc (.cells g.1.toArray 87)) = .ok v' w' ∧ GOwn B w' v' (dd ++ [x]) ∧ w.grownBy w' v.ownBlock ∧ ∀ k, v.ownBlock = some k → B ≤ k := by
  obtain ⟨gs, h1, h2, h3⟩ := h
  obtain ⟨i0, hi0, hz0, hz1, hz2⟩ := info_parts info_G
  obtain ⟨v', w', hr, ho, hgr, _⟩ := run_append_new (P := Tryd.prog) (w := w) B 39 87 i0 _ 4 64 Tryd.underlying39 hi0 hz0 hz1 hz2 rfl (by decide) h2 g.1.toArray (by simp [g.2.1]) (fun u hu => g.2.2 u (by simpa using hu)) (by unfold maxLen; omega) (by omega) hB
  have hge := own_ge h2
  have keep : ∀ (g : List Value) (x : Rg), IsGo B w g x → IsGo B w' g x := by
    rintro g x ⟨pa, pc, e1, e2, e3⟩
    exact ⟨pa, pc, e1, own_grown e2 hgr (own_apart_types e2 h2 (by decide)), e3⟩
  refine ⟨v', w', hr, ⟨gs ++ [g], by simp [h1], ?_, fun i g' x' hg' hx' => ?_⟩, hgr, hge⟩
  · rw [List.flatMap_append, List.length_append]
    simpa using ho
  · by_cases hi : i < gs.length
    · rw [List.getElem?_append_left hi] at hg'
      rw [List.getElem?_append_left (by omega)] at hx'
      exact keep _ _ (h3 i g' x' hg' hx')
    · have hil : i = gs.length := by
        have := (List.getElem?_eq_some_iff.1 hg').1; simp at this; omega
      subst hil
      rw [List.getElem?_append_right (Nat.le_refl _), Nat.sub_self] at hg'
      rw [h1, List.getElem?_append_right (Nat.le_refl _), Nat.sub_self] at hx'
      simp at hg' hx'
      subst hg' hx'
      exact keep _ _ hg
end Go.Proofs.YtfidfbgplfjakaaDoor

/- The reference's regions: New. -/
namespace Go.Proofs.YtfidfbgplfjakaaDoor
open Go.RowKit

def RNewPost (w : World) (l : List Int) (e : Ending) (w' : World) : Prop :=
  Below w.heap.size w w' ∧ (if newOk l then ∃ a cap, e = .returned (.tuple #[.slice a l.length cap, .int .i64 0]) ∧ GsK (From (fun _ => False) w.heap.size) w' a l.length cap (newD l) else e = .returned (.tuple #[.slice none 0 0, .int .i64 1]))
theorem rnewPost_bad {w w' : World} {l : List Int} (h : newOk l = false) (hb : Below w.heap.size w w') : RNewPost w l (.returned (.tuple #[.slice none 0 0, .int .i64 1])) w' := ⟨hb, by rw [h]; rfl⟩
/-- A page of noughts as a text. -/
def zstr : Value := strV (List.replicate 128 0)
/-- A region while its pages are laid. -/
def NewIn (gb : Nat) (w0 : World) (k : Nat) (wx : World) : Prop := ∃ v, wx.heap[gb]? = some (.cells #[v, .slice none 0 0, .int .i64 (-1), .bool false] 87 (0, 0)) ∧ wx.ownsRow (gb + 1) 9 1 v k (List.replicate k zstr) ∧ Below gb w0 wx ∧ gb < wx.heap.size
theorem pagesL_new (n : Nat) : (pagesL (Rg.new n)).map strV = List.replicate n zstr := by
  unfold pagesL Rg.new
  rw [List.map_map]
  apply List.ext_getElem
  · simp
  · intro i h1 h2
    simp [zstr, zpage]
theorem info_u8N : (Tryd.prog.info? 5).map (fun i => (i.zero, i.size, i.bytes)) = some (some (.int .u8 0), 1, 1) := by kernel_rfl
/-- One page more: every world on the way. -/
theorem new_page {gb k : Nat} {w0 wx : World} (hk : k ≤ 1000) (h : NewIn gb w0 k wx) : ∃ a c w1 a9 c9 w9, wx.cell? ⟨gb, 0, none⟩ = some (.slice a k c) ∧ w1.cell? ⟨gb, 0, none⟩ = some (.slice a k c) ∧ (w1.alloc (.cells #[zstr] 9)).cell? ⟨gb, 0, none⟩ = some (.slice a k c) ∧
    (Instr.makeSlice 31 (.int .i64 128) (.int .i64 128)).run Tryd.prog wx.drew = .ok (.slice (some ⟨wx.heap.size, 0, none⟩) 128 128) w1 ∧
    (convert 31 9 (.slice (some ⟨wx.heap.size, 0, none⟩) 128 128)).run Tryd.prog w1 = .ok zstr w1 ∧
    (Builtin.append_ #[28, 28] 28 #[.slice a k c, .slice (some ⟨w1.heap.size, 0, none⟩) 1 1]).run Tryd.prog (w1.alloc (.cells #[zstr] 9)) = .ok (.slice a9 (k + 1) c9) w9 ∧
    w9.cell? ⟨gb, 0, none⟩ = some (.slice a k c) ∧ w9.frozen? ⟨gb, 0, none⟩ = false ∧ NewIn gb w0 (k + 1) (w9.setCell ⟨gb, 0, none⟩ (.slice a9 (k + 1) c9)) := by
  obtain ⟨v, h1, h2, h3, h4⟩ := h
  obtain ⟨i0, hi, hz0, hz1, hz2⟩ := info_parts info_u8N
  obtain ⟨k0, hk0, hx0, hx1, hx2⟩ := info_parts info_str2
  have hd : wx.drew.heap = wx.heap := rfl
  obtain ⟨w1, hm, ho1, hg1⟩ := run_makeSlice_full (P := Tryd.prog) (w := wx.drew) wx.heap.size 31 5 i0 _ 1 Tryd.underlying31 hi hz0 hz1 .i64 .i64 128 (by omega) (by rw [hz2]; omega) (by unfold maxLen; omega) (Nat.le_refl _)
  have hb1 : Below wx.heap.size wx w1 := ((Below.refl wx.heap.size wx).drew).grown hg1 (Nat.le_refl _) (fun j e => by cases e)
  have hbs : Bs w1 (some ⟨wx.heap.size, 0, none⟩) 128 128 (List.replicate 128 0) := by
    have ho : w1.ownsRow wx.heap.size 5 1 (.slice (some ⟨wx.heap.size, 0, none⟩) 128 128) 128 ((toI (List.replicate 128 0)).map (Value.int .u8)) := by
      have hmade : (madeCells (Value.int .u8 0).cells (128 * 1)).toList = List.replicate 128 (.int .u8 0) := made_list (.int .u8 0) 128
      rw [hmade] at ho1
      have e : ((toI (List.replicate 128 0)).map (Value.int .u8)) = List.replicate 128 (.int .u8 0) := by simp [toI]
      rw [e]
      exact ho1
    obtain ⟨a', c', e, hb⟩ := Bs.of_own ho
    cases e
    exact hb
  have hcv := conv_string Tryd.underlying31 Tryd.underlying5 Tryd.underlying9 hbs
  have h2' := own_step h2 hb1
  have hs1 := hb1.size
  obtain ⟨v9, w9, hr9, ho9, hg9, _⟩ := run_append_new (P := Tryd.prog) (w := w1) (gb + 1) 28 9 k0 _ 1 16 Tryd.underlying28 hk0 hx0 hx1 hx2 rfl (by decide) h2' #[zstr] rfl (by intro u hu; simp at hu; subst hu; rfl) (by unfold maxLen; omega) (by omega) (by omega)
  obtain ⟨a, c, rfl, _⟩ := own_slice h2
  obtain ⟨a9, c9, rfl, _⟩ := own_slice ho9
  have hge := own_ge h2'
  have e1 : w1.heap[gb]? = some (.cells #[.slice a k c, .slice none 0 0, .int .i64 (-1), .bool false] 87 (0, 0)) := (hb1.block gb h4).trans h1
  have e9 : w9.heap[gb]? = some (.cells #[.slice a k c, .slice none 0 0, .int .i64 (-1), .bool false] 87 (0, 0)) := (hg9.block gb (by omega) (fun e => by have := hge gb e.symm; omega)).trans e1
  have c1 : w1.cell? ⟨gb, 0, none⟩ = some (.slice a k c) := by simp [World.cell?, e1]
  have hb9 : Below gb wx w9 := (hb1.mono (Nat.le_of_lt h4)).grown hg9 (by omega) (fun j e => by have := hge j e; omega)
  refine ⟨a, c, w1, a9, c9, w9, by simp [World.cell?, h1], c1, (World.cell?_alloc_some w1 ⟨gb, 0, none⟩ _ (by rw [c1]; rfl)).trans c1, hm, hcv, hr9, by simp [World.cell?, e9], by simp [World.frozen?, e9], .slice a9 (k + 1) c9, ?_, ?_, (h3.trans hb9).setCell (Nat.le_refl _) _, ?_⟩
  · rw [heap_setCell_at 0 _ e9]; rfl
  · have h5 := own_set ho9 ⟨gb, 0, none⟩ (.slice a9 (k + 1) c9) (fun e => by have := own_ge ho9 _ e; simp at this; omega)
    rw [List.replicate_succ']
    exact h5
  · have := hg9.size
    simp [World.setCell]; omega

set_option maxRecDepth 100000 in
set_option maxHeartbeats 8000000 in
theorem rnew_any {w : World} {a : Option Addr} {len cap : Nat} {l : List Int} (h : Row .i64 w a len cap l) (hlen : len ≤ 1000) :
    Calls Tryd.prog 15 #[.slice a len cap] w (RNewPost w l) := by
  have hl := h.1
  have HROW := Lib.hid h
  have HL := Lib.hid hl
  obtain ⟨_, _, _, _, hcells⟩ := h
  have HC := Lib.hid hcells
  clear hl hcells
  go_enter Tryd.func15, Tryd.ntmps15
  go_wp2_with fail
  go_loopw [4, 5] (fun s4 s wr => ∃ (i : Nat), i ≤ len ∧ s = .int .i64 i ∧ GOwn w.heap.size wr s4 (newD (l.take i)) ∧ Below w.heap.size w wr ∧ (l.take i).all (fun n => decide (1 ≤ n) && decide (n ≤ 1000)) = true) (fun _ s _ => len - (intOf s).toNat)
  case atStart => exact ⟨0, Nat.zero_le _, rfl, GOwn.nil _ _, Below.refl _ _, rfl⟩
  case round =>
    obtain ⟨i, hi, rfl, hown, hb, hall⟩ := hrel
    obtain ⟨wB, rfl⟩ : ∃ wB, wB = wr := ⟨_, rfl⟩
    by_cases hlt : i < len
    · obtain ⟨b, off, rfl, hbl, hc⟩ := HC.out.resolve_left (by omega)
      have hkl : i < l.length := by have := HL.out; omega
      obtain ⟨n, hn⟩ : ∃ n, l[i]? = some n := ⟨_, List.getElem?_eq_getElem hkl⟩
      have hts : l.take (i + 1) = l.take i ++ [n] := by rw [List.take_succ_eq_append_getElem hkl, (List.getElem?_eq_some_iff.1 hn).2]
      have c1 : wB.cell? ⟨b, off + i, none⟩ = some (.int .i64 n) := by
        rw [hb.cell (p := ⟨b, off + i, none⟩) hbl, hc i hlt, hn]; rfl
      have cN : ∀ W, Below w.heap.size w W → W.cell? ⟨b, off + i, none⟩ = some (.int .i64 n) := fun W hW => by
        rw [hW.cell (p := ⟨b, off + i, none⟩) hbl, hc i hlt, hn]; rfl
      by_cases hgood : 1 ≤ n ∧ n ≤ 1000
      · obtain ⟨m, rfl⟩ := Int.eq_ofNat_of_zero_le (show 0 ≤ n by omega)
        have e0 : decide ((m : Int) < 1) = false := by simp; omega
        have e1 : decide ((1000 : Int) < m) = false := by simp; omega
        have e2 : decide (m < 1) = false := by simp; omega
        have e3 : decide (1000 < m) = false := by simp; omega
        have hm1 : m ≤ 1000 := by omega
        have HALL : Hid ((l.take (i + 1)).all (fun n => decide (1 ≤ n) && decide (n ≤ 1000)) = true) := Lib.hid (by rw [hts, List.all_append, hall]; simp; omega)
        have HND : Hid (newD (l.take (i + 1)) = newD (l.take i) ++ [Rg.new m]) := Lib.hid (by rw [hts]; simp [newD])
        have HNL : Hid ((newD (l.take i)).length ≤ 1000) := Lib.hid (by have := HL.out; simp [newD]; omega)
        have hs0 := hb.size
        have hbA : Below w.heap.size w (wB.alloc (.cells #[.slice none 0 0, .slice none 0 0, .int .i64 (-1), .bool false] 87)) := hb.alloc hs0 _
        have hin : NewIn wB.heap.size wB 0 (wB.alloc (.cells #[.slice none 0 0, .slice none 0 0, .int .i64 (-1), .bool false] 87)) := ⟨_, World.alloc_heap_new wB _, World.ownsRow_nil _ _ _ _, (Below.refl _ _).alloc (Nat.le_refl _) _, by simp⟩
        have HIN := Lib.hid hin
        have HB := Lib.hid hb
        have HO := Lib.hid hown
        clear hin hbA hall hts hn hgood hkl hc hown hb
        go_wp2_with fail
        go_loopw [7] (fun s7 wx => ∃ (k : Nat), k ≤ m ∧ s7 = .int .i64 k ∧ NewIn wB.heap.size wB k wx) (fun s _ => m - (intOf s).toNat)
        case atStart => exact ⟨0, Nat.zero_le _, rfl, HIN.out⟩
        case round =>
          clear HIN
          obtain ⟨k, hk, rfl, hin⟩ := hrel
          have hbB : Below wB.heap.size wB wr := by obtain ⟨_, _, _, h3, _⟩ := hin; exact h3
          have hbx : Below w.heap.size w wr := below_then HB.out hbB
          by_cases hltk : k < m
          · have d4 : decide ((k : Int) < m) = true := by simp; omega
            obtain ⟨a4, c4, w1, a9, c9, w9, f0, f1, f2, hmk, hcv, hr9, f3, f4, hin2⟩ := new_page (by omega) hin
            have cx := cN _ hbx
            have f0d : wr.drew.cell? ⟨wB.heap.size, 0, none⟩ = some (.slice a4 k c4) := f0
            have ld0 : (Instr.loadAt 28 (.pointer (some ⟨wB.heap.size, 0, none⟩))).run Tryd.prog wr.drew = .ok (.slice a4 k c4) wr.drew := by go_simp
            have ld1 : (Instr.loadAt 28 (.pointer (some ⟨wB.heap.size, 0, none⟩))).run Tryd.prog w1 = .ok (.slice a4 k c4) w1 := by go_simp
            have ld2 : (Instr.loadAt 28 (.pointer (some ⟨wB.heap.size, 0, none⟩))).run Tryd.prog (w1.alloc (.cells #[zstr] 9)) = .ok (.slice a4 k c4) (w1.alloc (.cells #[zstr] 9)) := by go_simp
            have bs1 : (Instr.buildSlice 28 1 #[(0, zstr)]).run Tryd.prog w1 = .ok (.slice (some ⟨w1.heap.size, 0, none⟩) 1 1) (w1.alloc (.cells #[zstr] 9)) := by unfold zstr strV; go_simp
            have st1 : (Instr.storeAt 28 (.pointer (some ⟨wB.heap.size, 0, none⟩)) (.slice a9 (k + 1) c9)).run Tryd.prog w9 = .ok () (w9.setCell ⟨wB.heap.size, 0, none⟩ (.slice a9 (k + 1) c9)) := by go_simp
            have HIN2 := Lib.hid hin2
            clear hin hin2 hbx hbB
            go_wp2_with fail
            refine wp_region_noPanic ?_
            refine wp_region_held_drew (S := (fun _ => True)) (by kernel_rfl) (by trivial) (fun hHeld => ?_)
            refine wpAnyH_take (i := 0) (oi := { dst := some 35, op := Op.fieldAddr 87 (Operand.tmp 6) 0, type := 0, pos := "ref.go:29", after := #[], guard := none }) (v := ?_) rfl (by kernel_rfl) (by kernel_rfl) (by kernel_rfl) (fun _ _ _ h => h) (Or.inl ⟨by rfl, ?_⟩) (by assumption) ?_
            rotate_left
            · (intro W hW; (try dsimp only at hW); go_simp <;> (with_reducible rfl))
            try simp only [Act.put, List.setIfInBounds_toArray, List.set_cons_zero, List.set_cons_succ]
            refine wpAnyH_ready (rs := [1, 2]) (by kernel_rfl) (by simp) (AllReadyH.cons (o := { dst := some 36, op := Op.load 28 (Operand.tmp 35), type := 28, pos := "ref.go:29", after := #[{ on := 0, ground := Ground.data }], guard := none }) rfl (fun K hK => ?_) (AllReadyH.cons (o := { dst := some 37, op := Op.makeSlice 31 (Operand.const (Value.int IntKind.i64 128)) (Operand.const (Value.int IntKind.i64 128)), type := 31, pos := "ref.go:29", after := #[], guard := none }) rfl (fun K hK => ?_) AllReadyH.nil))
            · refine step_load_run rfl _ _ rfl rfl (by first | exact ld0 | exact ld1 | exact ld2) ?_
              refine hK.out _ _ (by trivial) (fun hHeld => ?_)
              clear hK K
              try simp only [Act.put, List.setIfInBounds_toArray, List.set_cons_zero, List.set_cons_succ]
              refine wpAnyH_ready (rs := [2]) (by kernel_rfl) (by simp) (AllReadyH.cons (o := { dst := some 37, op := Op.makeSlice 31 (Operand.const (Value.int IntKind.i64 128)) (Operand.const (Value.int IntKind.i64 128)), type := 31, pos := "ref.go:29", after := #[], guard := none }) rfl (fun K hK => ?_) AllReadyH.nil)
              refine step_make_run rfl _ _ _ rfl rfl rfl hmk ?_
              refine hK.out _ _ (by trivial) (fun hHeld => ?_)
              clear hK K
              try simp only [Act.put, List.setIfInBounds_toArray, List.set_cons_zero, List.set_cons_succ]
              refine wpAnyH_ready (rs := [3]) (by kernel_rfl) (by simp) (AllReadyH.cons (o := { dst := some 38, op := Op.convert 31 9 (Operand.tmp 37), type := 9, pos := "ref.go:29", after := #[{ on := 2, ground := Ground.data }], guard := none }) rfl (fun K hK => ?_) AllReadyH.nil)
              refine step_convert_run rfl _ _ _ rfl rfl hcv ?_
              refine hK.out _ _ (by trivial) (fun hHeld => ?_)
              clear hK K
              try simp only [Act.put, List.setIfInBounds_toArray, List.set_cons_zero, List.set_cons_succ]
              refine wpAnyH_ready (rs := [4]) (by kernel_rfl) (by simp) (AllReadyH.cons (o := { dst := some 39, op := Op.buildSlice 28 1 #[(0, Operand.tmp 38)], type := 28, pos := "ref.go:29", after := #[{ on := 3, ground := Ground.data }], guard := none }) rfl (fun K hK => ?_) AllReadyH.nil)
              refine step_buildSlice_one rfl _ _ rfl rfl bs1 ?_
              refine hK.out _ _ (by trivial) (fun hHeld => ?_)
              clear hK K
              try simp only [Act.put, List.setIfInBounds_toArray, List.set_cons_zero, List.set_cons_succ]
              refine wpAnyH_ready (rs := [5]) (by kernel_rfl) (by simp) (AllReadyH.cons (o := { dst := some 40, op := Op.call { callee := Callee.builtin Builtin.append, args := #[Operand.tmp 36, Operand.tmp 39], argTypes := #[28, 28] }, type := 28, pos := "ref.go:29", after := #[{ on := 1, ground := Ground.data }, { on := 4, ground := Ground.data }], guard := none }) rfl (fun K hK => ?_) AllReadyH.nil)
              refine step_append_run rfl _ _ _ _ rfl rfl rfl hr9 ?_
              refine hK.out _ _ (by trivial) (fun hHeld => ?_)
              clear hK K
              try simp only [Act.put, List.setIfInBounds_toArray, List.set_cons_zero, List.set_cons_succ]
              refine wpAnyH_take (i := 6) (oi := { dst := some 41, op := Op.fieldAddr 87 (Operand.tmp 6) 0, type := 0, pos := "ref.go:29", after := #[{ on := 0, ground := Ground.phase }, { on := 1, ground := Ground.phase }, { on := 2, ground := Ground.phase }, { on := 3, ground := Ground.phase }, { on := 4, ground := Ground.phase }, { on := 5, ground := Ground.phase }], guard := none }) (v := ?_) rfl (by kernel_rfl) (by kernel_rfl) (by kernel_rfl) (fun _ _ _ h => h) (Or.inl ⟨by rfl, ?_⟩) (by assumption) ?_
              rotate_left
              · (intro W hW; (try dsimp only at hW); go_simp <;> (with_reducible rfl))
              try simp only [Act.put, List.setIfInBounds_toArray, List.set_cons_zero, List.set_cons_succ]
              refine wpAnyH_ready (rs := [7]) (by kernel_rfl) (by simp) (AllReadyH.cons (o := { dst := none, op := Op.store 28 (Operand.tmp 41) (Operand.tmp 40), type := 0, pos := "ref.go:29", after := #[{ on := 6, ground := Ground.data }, { on := 5, ground := Ground.data }, { on := 5, ground := Ground.chain }, { on := 0, ground := Ground.phase }, { on := 1, ground := Ground.phase }, { on := 2, ground := Ground.phase }, { on := 3, ground := Ground.phase }, { on := 4, ground := Ground.phase }, { on := 5, ground := Ground.phase }], guard := none }) rfl (fun K hK => ?_) AllReadyH.nil)
              refine step_store_run rfl _ _ _ rfl rfl rfl st1 ?_
              refine hK.out _ _ (by trivial) (fun hHeld => ?_)
              clear hK K
              try simp only [Act.put, List.setIfInBounds_toArray, List.set_cons_zero, List.set_cons_succ]
              refine wpAnyH_done (by kernel_rfl) ?_ _
              refine NoPanic.normal ?_
              clear hHeld
              go_wp2_with fail
              go_roundw
              case rel => exact ⟨k + 1, hltk, by go_num, HIN2.out⟩
              case measure => simp [intOf]; omega
            · refine step_make_run rfl _ _ _ rfl rfl rfl hmk ?_
              refine hK.out _ _ (by trivial) (fun hHeld => ?_)
              clear hK K
              try simp only [Act.put, List.setIfInBounds_toArray, List.set_cons_zero, List.set_cons_succ]
              refine wpAnyH_ready (rs := [1, 3]) (by kernel_rfl) (by simp) (AllReadyH.cons (o := { dst := some 36, op := Op.load 28 (Operand.tmp 35), type := 28, pos := "ref.go:29", after := #[{ on := 0, ground := Ground.data }], guard := none }) rfl (fun K hK => ?_) (AllReadyH.cons (o := { dst := some 38, op := Op.convert 31 9 (Operand.tmp 37), type := 9, pos := "ref.go:29", after := #[{ on := 2, ground := Ground.data }], guard := none }) rfl (fun K hK => ?_) AllReadyH.nil))
              · refine step_load_run rfl _ _ rfl rfl (by first | exact ld0 | exact ld1 | exact ld2) ?_
                refine hK.out _ _ (by trivial) (fun hHeld => ?_)
                clear hK K
                try simp only [Act.put, List.setIfInBounds_toArray, List.set_cons_zero, List.set_cons_succ]
                refine wpAnyH_ready (rs := [3]) (by kernel_rfl) (by simp) (AllReadyH.cons (o := { dst := some 38, op := Op.convert 31 9 (Operand.tmp 37), type := 9, pos := "ref.go:29", after := #[{ on := 2, ground := Ground.data }], guard := none }) rfl (fun K hK => ?_) AllReadyH.nil)
                refine step_convert_run rfl _ _ _ rfl rfl hcv ?_
                refine hK.out _ _ (by trivial) (fun hHeld => ?_)
                clear hK K
                try simp only [Act.put, List.setIfInBounds_toArray, List.set_cons_zero, List.set_cons_succ]
                refine wpAnyH_ready (rs := [4]) (by kernel_rfl) (by simp) (AllReadyH.cons (o := { dst := some 39, op := Op.buildSlice 28 1 #[(0, Operand.tmp 38)], type := 28, pos := "ref.go:29", after := #[{ on := 3, ground := Ground.data }], guard := none }) rfl (fun K hK => ?_) AllReadyH.nil)
                refine step_buildSlice_one rfl _ _ rfl rfl bs1 ?_
                refine hK.out _ _ (by trivial) (fun hHeld => ?_)
                clear hK K
                try simp only [Act.put, List.setIfInBounds_toArray, List.set_cons_zero, List.set_cons_succ]
                refine wpAnyH_ready (rs := [5]) (by kernel_rfl) (by simp) (AllReadyH.cons (o := { dst := some 40, op := Op.call { callee := Callee.builtin Builtin.append, args := #[Operand.tmp 36, Operand.tmp 39], argTypes := #[28, 28] }, type := 28, pos := "ref.go:29", after := #[{ on := 1, ground := Ground.data }, { on := 4, ground := Ground.data }], guard := none }) rfl (fun K hK => ?_) AllReadyH.nil)
                refine step_append_run rfl _ _ _ _ rfl rfl rfl hr9 ?_
                refine hK.out _ _ (by trivial) (fun hHeld => ?_)
                clear hK K
                try simp only [Act.put, List.setIfInBounds_toArray, List.set_cons_zero, List.set_cons_succ]
                refine wpAnyH_take (i := 6) (oi := { dst := some 41, op := Op.fieldAddr 87 (Operand.tmp 6) 0, type := 0, pos := "ref.go:29", after := #[{ on := 0, ground := Ground.phase }, { on := 1, ground := Ground.phase }, { on := 2, ground := Ground.phase }, { on := 3, ground := Ground.phase }, { on := 4, ground := Ground.phase }, { on := 5, ground := Ground.phase }], guard := none }) (v := ?_) rfl (by kernel_rfl) (by kernel_rfl) (by kernel_rfl) (fun _ _ _ h => h) (Or.inl ⟨by rfl, ?_⟩) (by assumption) ?_
                rotate_left
                · (intro W hW; (try dsimp only at hW); go_simp <;> (with_reducible rfl))
                try simp only [Act.put, List.setIfInBounds_toArray, List.set_cons_zero, List.set_cons_succ]
                refine wpAnyH_ready (rs := [7]) (by kernel_rfl) (by simp) (AllReadyH.cons (o := { dst := none, op := Op.store 28 (Operand.tmp 41) (Operand.tmp 40), type := 0, pos := "ref.go:29", after := #[{ on := 6, ground := Ground.data }, { on := 5, ground := Ground.data }, { on := 5, ground := Ground.chain }, { on := 0, ground := Ground.phase }, { on := 1, ground := Ground.phase }, { on := 2, ground := Ground.phase }, { on := 3, ground := Ground.phase }, { on := 4, ground := Ground.phase }, { on := 5, ground := Ground.phase }], guard := none }) rfl (fun K hK => ?_) AllReadyH.nil)
                refine step_store_run rfl _ _ _ rfl rfl rfl st1 ?_
                refine hK.out _ _ (by trivial) (fun hHeld => ?_)
                clear hK K
                try simp only [Act.put, List.setIfInBounds_toArray, List.set_cons_zero, List.set_cons_succ]
                refine wpAnyH_done (by kernel_rfl) ?_ _
                refine NoPanic.normal ?_
                clear hHeld
                go_wp2_with fail
                go_roundw
                case rel => exact ⟨k + 1, hltk, by go_num, HIN2.out⟩
                case measure => simp [intOf]; omega
              · refine step_convert_run rfl _ _ _ rfl rfl hcv ?_
                refine hK.out _ _ (by trivial) (fun hHeld => ?_)
                clear hK K
                try simp only [Act.put, List.setIfInBounds_toArray, List.set_cons_zero, List.set_cons_succ]
                refine wpAnyH_ready (rs := [1, 4]) (by kernel_rfl) (by simp) (AllReadyH.cons (o := { dst := some 36, op := Op.load 28 (Operand.tmp 35), type := 28, pos := "ref.go:29", after := #[{ on := 0, ground := Ground.data }], guard := none }) rfl (fun K hK => ?_) (AllReadyH.cons (o := { dst := some 39, op := Op.buildSlice 28 1 #[(0, Operand.tmp 38)], type := 28, pos := "ref.go:29", after := #[{ on := 3, ground := Ground.data }], guard := none }) rfl (fun K hK => ?_) AllReadyH.nil))
                · refine step_load_run rfl _ _ rfl rfl (by first | exact ld0 | exact ld1 | exact ld2) ?_
                  refine hK.out _ _ (by trivial) (fun hHeld => ?_)
                  clear hK K
                  try simp only [Act.put, List.setIfInBounds_toArray, List.set_cons_zero, List.set_cons_succ]
                  refine wpAnyH_ready (rs := [4]) (by kernel_rfl) (by simp) (AllReadyH.cons (o := { dst := some 39, op := Op.buildSlice 28 1 #[(0, Operand.tmp 38)], type := 28, pos := "ref.go:29", after := #[{ on := 3, ground := Ground.data }], guard := none }) rfl (fun K hK => ?_) AllReadyH.nil)
                  refine step_buildSlice_one rfl _ _ rfl rfl bs1 ?_
                  refine hK.out _ _ (by trivial) (fun hHeld => ?_)
                  clear hK K
                  try simp only [Act.put, List.setIfInBounds_toArray, List.set_cons_zero, List.set_cons_succ]
                  refine wpAnyH_ready (rs := [5]) (by kernel_rfl) (by simp) (AllReadyH.cons (o := { dst := some 40, op := Op.call { callee := Callee.builtin Builtin.append, args := #[Operand.tmp 36, Operand.tmp 39], argTypes := #[28, 28] }, type := 28, pos := "ref.go:29", after := #[{ on := 1, ground := Ground.data }, { on := 4, ground := Ground.data }], guard := none }) rfl (fun K hK => ?_) AllReadyH.nil)
                  refine step_append_run rfl _ _ _ _ rfl rfl rfl hr9 ?_
                  refine hK.out _ _ (by trivial) (fun hHeld => ?_)
                  clear hK K
                  try simp only [Act.put, List.setIfInBounds_toArray, List.set_cons_zero, List.set_cons_succ]
                  refine wpAnyH_take (i := 6) (oi := { dst := some 41, op := Op.fieldAddr 87 (Operand.tmp 6) 0, type := 0, pos := "ref.go:29", after := #[{ on := 0, ground := Ground.phase }, { on := 1, ground := Ground.phase }, { on := 2, ground := Ground.phase }, { on := 3, ground := Ground.phase }, { on := 4, ground := Ground.phase }, { on := 5, ground := Ground.phase }], guard := none }) (v := ?_) rfl (by kernel_rfl) (by kernel_rfl) (by kernel_rfl) (fun _ _ _ h => h) (Or.inl ⟨by rfl, ?_⟩) (by assumption) ?_
                  rotate_left
                  · (intro W hW; (try dsimp only at hW); go_simp <;> (with_reducible rfl))
                  try simp only [Act.put, List.setIfInBounds_toArray, List.set_cons_zero, List.set_cons_succ]
                  refine wpAnyH_ready (rs := [7]) (by kernel_rfl) (by simp) (AllReadyH.cons (o := { dst := none, op := Op.store 28 (Operand.tmp 41) (Operand.tmp 40), type := 0, pos := "ref.go:29", after := #[{ on := 6, ground := Ground.data }, { on := 5, ground := Ground.data }, { on := 5, ground := Ground.chain }, { on := 0, ground := Ground.phase }, { on := 1, ground := Ground.phase }, { on := 2, ground := Ground.phase }, { on := 3, ground := Ground.phase }, { on := 4, ground := Ground.phase }, { on := 5, ground := Ground.phase }], guard := none }) rfl (fun K hK => ?_) AllReadyH.nil)
                  refine step_store_run rfl _ _ _ rfl rfl rfl st1 ?_
                  refine hK.out _ _ (by trivial) (fun hHeld => ?_)
                  clear hK K
                  try simp only [Act.put, List.setIfInBounds_toArray, List.set_cons_zero, List.set_cons_succ]
                  refine wpAnyH_done (by kernel_rfl) ?_ _
                  refine NoPanic.normal ?_
                  clear hHeld
                  go_wp2_with fail
                  go_roundw
                  case rel => exact ⟨k + 1, hltk, by go_num, HIN2.out⟩
                  case measure => simp [intOf]; omega
                · refine step_buildSlice_one rfl _ _ rfl rfl bs1 ?_
                  refine hK.out _ _ (by trivial) (fun hHeld => ?_)
                  clear hK K
                  try simp only [Act.put, List.setIfInBounds_toArray, List.set_cons_zero, List.set_cons_succ]
                  refine wpAnyH_ready (rs := [1]) (by kernel_rfl) (by simp) (AllReadyH.cons (o := { dst := some 36, op := Op.load 28 (Operand.tmp 35), type := 28, pos := "ref.go:29", after := #[{ on := 0, ground := Ground.data }], guard := none }) rfl (fun K hK => ?_) AllReadyH.nil)
                  refine step_load_run rfl _ _ rfl rfl (by first | exact ld0 | exact ld1 | exact ld2) ?_
                  refine hK.out _ _ (by trivial) (fun hHeld => ?_)
                  clear hK K
                  try simp only [Act.put, List.setIfInBounds_toArray, List.set_cons_zero, List.set_cons_succ]
                  refine wpAnyH_ready (rs := [5]) (by kernel_rfl) (by simp) (AllReadyH.cons (o := { dst := some 40, op := Op.call { callee := Callee.builtin Builtin.append, args := #[Operand.tmp 36, Operand.tmp 39], argTypes := #[28, 28] }, type := 28, pos := "ref.go:29", after := #[{ on := 1, ground := Ground.data }, { on := 4, ground := Ground.data }], guard := none }) rfl (fun K hK => ?_) AllReadyH.nil)
                  refine step_append_run rfl _ _ _ _ rfl rfl rfl hr9 ?_
                  refine hK.out _ _ (by trivial) (fun hHeld => ?_)
                  clear hK K
                  try simp only [Act.put, List.setIfInBounds_toArray, List.set_cons_zero, List.set_cons_succ]
                  refine wpAnyH_take (i := 6) (oi := { dst := some 41, op := Op.fieldAddr 87 (Operand.tmp 6) 0, type := 0, pos := "ref.go:29", after := #[{ on := 0, ground := Ground.phase }, { on := 1, ground := Ground.phase }, { on := 2, ground := Ground.phase }, { on := 3, ground := Ground.phase }, { on := 4, ground := Ground.phase }, { on := 5, ground := Ground.phase }], guard := none }) (v := ?_) rfl (by kernel_rfl) (by kernel_rfl) (by kernel_rfl) (fun _ _ _ h => h) (Or.inl ⟨by rfl, ?_⟩) (by assumption) ?_
                  rotate_left
                  · (intro W hW; (try dsimp only at hW); go_simp <;> (with_reducible rfl))
                  try simp only [Act.put, List.setIfInBounds_toArray, List.set_cons_zero, List.set_cons_succ]
                  refine wpAnyH_ready (rs := [7]) (by kernel_rfl) (by simp) (AllReadyH.cons (o := { dst := none, op := Op.store 28 (Operand.tmp 41) (Operand.tmp 40), type := 0, pos := "ref.go:29", after := #[{ on := 6, ground := Ground.data }, { on := 5, ground := Ground.data }, { on := 5, ground := Ground.chain }, { on := 0, ground := Ground.phase }, { on := 1, ground := Ground.phase }, { on := 2, ground := Ground.phase }, { on := 3, ground := Ground.phase }, { on := 4, ground := Ground.phase }, { on := 5, ground := Ground.phase }], guard := none }) rfl (fun K hK => ?_) AllReadyH.nil)
                  refine step_store_run rfl _ _ _ rfl rfl rfl st1 ?_
                  refine hK.out _ _ (by trivial) (fun hHeld => ?_)
                  clear hK K
                  try simp only [Act.put, List.setIfInBounds_toArray, List.set_cons_zero, List.set_cons_succ]
                  refine wpAnyH_done (by kernel_rfl) ?_ _
                  refine NoPanic.normal ?_
                  clear hHeld
                  go_wp2_with fail
                  go_roundw
                  case rel => exact ⟨k + 1, hltk, by go_num, HIN2.out⟩
                  case measure => simp [intOf]; omega
          · obtain rfl : k = m := by omega
            have d4 : decide ((k : Int) < k) = false := by simp
            obtain ⟨v, h1, h2, h3, h4⟩ := hin
            obtain ⟨a4, c4, rfl, _⟩ := own_slice h2
            have cx := cN _ hbx
            have k0 : wr.cell? ⟨wB.heap.size, 0, none⟩ = some (.slice a4 k c4) := by simp [World.cell?, h1]
            have k1 : wr.cell? ⟨wB.heap.size, 1, none⟩ = some (.slice none 0 0) := by simp [World.cell?, h1]
            have k2 : wr.cell? ⟨wB.heap.size, 2, none⟩ = some (.int .i64 (-1)) := by simp [World.cell?, h1]
            have k3 : wr.cell? ⟨wB.heap.size, 3, none⟩ = some (.bool false) := by simp [World.cell?, h1]
            have hgo : IsGo w.heap.size wr [.slice a4 k c4, .slice none 0 0, .int .i64 (-1), .bool false] (Rg.new k) := by
              refine ⟨a4, c4, rfl, ?_, rfl, hm1, by show (-1 : Int) ≤ -1; omega, by show (-1 : Int) ≤ _; omega⟩
              rw [pagesL_new]
              exact ⟨h2.1, h2.2.imp id fun ⟨g, cap, cur, e, hg, r⟩ => ⟨g, cap, cur, e, by omega, r⟩⟩
            have hG := HO.out.below hbB
            obtain ⟨v9, w9, hr9, hG9, hg9, hge9⟩ := hG.push HNL.out hbx.size (⟨[.slice a4 k c4, .slice none 0 0, .int .i64 (-1), .bool false], rfl, by
              intro u hu
              simp only [List.mem_cons, List.not_mem_nil, or_false] at hu
              rcases hu with rfl | rfl | rfl | rfl <;> rfl⟩ : C4) (Rg.new k) hgo
            rw [← HND.out] at hG9
            obtain ⟨a8, c8, e8, _⟩ := hG.gs
            have hr9 : (Builtin.append_ #[39, 39] 39 #[u4, .slice (some ⟨wr.heap.size, 0, none⟩) 1 1]).run Tryd.prog (wr.alloc (.cells #[.slice a4 k c4, .slice none 0 0, .int .i64 (-1), .bool false] 87)) = .ok v9 w9 := hr9
            have HG9 := Lib.hid hG9
            have HB9 := Lib.hid (hbx.grown hg9 hbx.size hge9)
            clear h1 h2 h3 h4 hgo hG hg9 hge9 hG9 hbx hbB e8
            go_wp2_with (at_builtin; refine wpList_append_run rfl _ _ _ _ rfl rfl rfl hr9 ?_)
            go_roundw
            case rel => exact ⟨i + 1, hlt, by go_num, HG9.out, HB9.out, HALL.out⟩
            case measure => simp [intOf]; omega
      · have hbad : newOk l = false := by
          unfold newOk
          rw [show l.all (fun n => decide (1 ≤ n) && decide (n ≤ 1000)) = false from by
            rw [List.all_eq_false]
            exact ⟨n, List.mem_of_getElem? hn, by simp; omega⟩]
          simp
        have HBD := Lib.hid (rnewPost_bad hbad hb)
        by_cases g1 : n < 1
        · have e0 : decide (n < 1) = true := by simpa using g1
          clear hown hb hall hts hn hgood hkl hc hbad
          go_wp2_with fail
          go_ret2
          exact HBD.out
        · have e0 : decide (n < 1) = false := by simpa using g1
          have e1 : decide (1000 < n) = true := by simp; omega
          clear hown hb hall hts hn hgood hkl hc hbad
          go_wp2_with fail
          go_ret2
          exact HBD.out
    · obtain rfl : i = len := by omega
      have htl : l.take i = l := List.take_of_length_le (by rw [HL.out]; exact Nat.le_refl _)
      rw [htl] at hown hall
      by_cases h1 : i < 1
      · have d0 : decide (i < 1) = true := by simpa using h1
        have d0' : decide ((i : Int) < 1) = true := by simp; omega
        have HBD := Lib.hid (rnewPost_bad (w := w) (w' := wB) (l := l) (by unfold newOk; have := HL.out; rw [show decide (1 ≤ l.length) = false from decide_eq_false (by omega)]; rfl) hb)
        clear hown hb hall htl
        go_wp2_with fail
        go_ret2
        exact HBD.out
      · have d0 : decide (i < 1) = false := by simpa using h1
        have d0' : decide ((i : Int) < 1) = false := by simp; omega
        by_cases h64 : 64 < i
        · have d1 : decide (64 < i) = true := by simpa using h64
          have d1' : decide ((64 : Int) < i) = true := by simp; omega
          have HBD := Lib.hid (rnewPost_bad (w := w) (w' := wB) (l := l) (by unfold newOk; have := HL.out; rw [show decide (l.length ≤ 64) = false from decide_eq_false (by omega)]; simp) hb)
          clear hown hb hall htl
          go_wp2_with fail
          go_ret2
          exact HBD.out
        · have d1 : decide (64 < i) = false := by simpa using h64
          have d1' : decide ((64 : Int) < i) = false := by simp; omega
          obtain ⟨ax, cx, ex, hgs⟩ := hown.gsK
          have hnl : (newD l).length = i := by rw [← HL.out]; simp [newD]
          rw [hnl] at ex hgs
          subst ex
          have END : RNewPost w l (.returned (.tuple #[.slice ax i cx, .int .i64 0])) wB := by
            refine ⟨hb, ?_⟩
            rw [if_pos (by unfold newOk; have := HL.out; rw [hall]; simp; omega)]
            exact ⟨ax, cx, by rw [HL.out], by rw [HL.out]; exact hgs⟩
          have END := Lib.hid END
          clear hown hb hall htl hgs hnl
          go_wp2_with fail
          go_ret2
          exact END.out
end Go.Proofs.YtfidfbgplfjakaaDoor

/- A disk and the reference's regions, side by side. -/
namespace Go.Proofs.YtfidfbgplfjakaaDoor
open Go.RowKit

theorem GsK.lt {K : Nat → Prop} {w : World} {a : Option Addr} {len cap : Nat} {d : List Rg} (h : GsK K w a len cap d) : GsK (fun k => K k ∧ k < w.heap.size) w a len cap d := by
  have up : ∀ W, Agree (fun k => K k ∧ k < w.heap.size) w W → Agree K w W := fun W hW => ⟨hW.1, fun k o hk ho => hW.2 k o ⟨hk, (Array.getElem?_eq_some_iff.1 ho).1⟩ ho⟩
  obtain ⟨h1, gs, h2, h3⟩ := h
  exact ⟨h1, gs, fun W hW => h2 W (up W hW), fun i g x hg hx W hW => h3 i g x hg hx W (up W hW)⟩
/-- A disk of the call's own; regions of the reference that stand on none of its blocks. -/
def Both (B : Nat) (w : World) (da M : Nat) (d : List Rg) (a : Option Addr) (n cap : Nat) (e : List Rg) : Prop :=
  ∃ F bs, DskIn w F da M bs d ∧ (∀ k ∈ F, B ≤ k) ∧ B ≤ w.heap.size ∧ GsK (fun k => k ∉ F) w a n cap e
theorem Both.one {B : Nat} {w : World} {da M : Nat} {d e : List Rg} {a : Option Addr} {n cap : Nat} (h : Both B w da M d a n cap e) : One B w da M d := by
  obtain ⟨F, bs, h1, h2, h3, h4⟩ := h
  exact ⟨F, bs, h1, h2, h3⟩
theorem Both.gs {B : Nat} {w : World} {da M : Nat} {d e : List Rg} {a : Option Addr} {n cap : Nat} (h : Both B w da M d a n cap e) : Gs w a n cap e := by
  obtain ⟨F, bs, h1, h2, h3, h4⟩ := h
  exact h4.gs
theorem Both.below {B : Nat} {w w' : World} {da M : Nat} {d e : List Rg} {a : Option Addr} {n cap : Nat} (h : Both B w da M d a n cap e) (hb : Below w.heap.size w w') : Both B w' da M d a n cap e := by
  obtain ⟨F, bs, h1, h2, h3, h4⟩ := h
  exact ⟨F, bs, h1.below hb, h2, by have := hb.size; omega, h4.below hb⟩
theorem Both.mk {B N : Nat} {w w' : World} {da M : Nat} {d e : List Rg} {a : Option Addr} {n cap : Nat} (h : One B w da M d) (hb : Below w.heap.size w w') (hN : w.heap.size ≤ N) (hg : GsK (From (fun _ => False) N) w' a n cap e) : Both B w' da M d a n cap e := by
  obtain ⟨F, bs, h1, h2, h3⟩ := h
  refine ⟨F, bs, h1.below hb, h2, by have := hb.size; omega, hg.mono fun k hk hF => ?_⟩
  rcases hk with hk | hk
  · exact hk
  · have := h1.lt k hF; omega
/-- What is done to the disk leaves the regions. -/
theorem Both.opens {B : Nat} {w : World} {da M : Nat} {d e : List Rg} {a : Option Addr} {n cap : Nat} (h : Both B w da M d a n cap e) : Opens B w.heap.size w da M d (fun w' M' d' => Both B w' da M' d' a n cap e ∧ Below B w w') := by
  obtain ⟨F, bs, h1, h2, h3, h4⟩ := h
  refine ⟨F, bs, h1, fun k hk => ⟨h2 k hk, h1.lt k hk⟩, Nat.le_refl _, h3, fun w' F' bs' d' M' _ ho hd hF => ⟨⟨F', bs', hd, fun k hk => (hF k hk).elim (h2 k) (fun h => by omega), by have := ho.size; omega, ?_⟩, ho.below h3 h2⟩⟩
  have hA : Agree (fun k => k ∉ F ∧ k < w.heap.size) w w' := ⟨ho.size, fun k o hk h5 => by rw [ho.block hk.2 hk.1]; exact h5⟩
  refine (h4.lt.agree hA).mono fun k hk hk2 => ?_
  rcases hF k hk2 with h5 | h5
  · exact hk.1 h5
  · have := hk.2; omega
/-- What is done to the regions leaves the disk. -/
theorem Both.turn {B : Nat} {w w' : World} {da M : Nat} {d e e2 : List Rg} {a a2 : Option Addr} {n cap n2 cap2 : Nat} (h : Both B w da M d a n cap e) (hb : Below w.heap.size w w') (hg : ∀ F : List Nat, (∀ k ∈ F, k < w.heap.size) → GsK (fun k => k ∉ F) w a n cap e → GsK (From (fun k => k ∉ F) w.heap.size) w' a2 n2 cap2 e2) : Both B w' da M d a2 n2 cap2 e2 := by
  obtain ⟨F, bs, h1, h2, h3, h4⟩ := h
  refine ⟨F, bs, h1.below hb, h2, by have := hb.size; omega, (hg F h1.lt h4).mono fun k hk hF => ?_⟩
  rcases hk with hk | hk
  · exact hk hF
  · have := h1.lt k hF; omega
theorem both_write {B : Nat} {w : World} {da M : Nat} {d e : List Rg} {a : Option Addr} {n cap : Nat} (h : Both B w da M d a n cap e) (hlen : n ≤ 1000) (hL : ∀ x ∈ e, x.loose.length ≤ 100000) (r p : Int) (l : List UInt8) :
    Calls Tryd.prog 17 #[.slice a n cap, .int .i64 r, .int .i64 p, .string (strOf l)] w fun e1 w' => ∃ a2 n2 cap2, e1 = .returned (.tuple #[.slice a2 n2 cap2, .int .i64 (writeE e r p l)]) ∧ Both B w' da M d a2 n2 cap2 (writeD e r p l) ∧ Below w.heap.size w w' := by
  obtain ⟨F, bs, h1, h2, h3, h4⟩ := h
  refine (rwrite_any h4 hlen hL r p l).mono ?_
  rintro e1 w' ⟨a2, n2, cap2, rfl, hg, hb⟩
  refine ⟨a2, n2, cap2, rfl, ⟨F, bs, h1.below hb, h2, by have := hb.size; omega, hg.mono fun k hk hF => ?_⟩, hb⟩
  rcases hk with hk | hk
  · exact hk hF
  · have := h1.lt k hF; omega
theorem atR_len {d : List Rg} {M : Nat} (h : ∀ x ∈ d, x.loose.length ≤ M) {r p : Int} (hu : pagedE d r p = 0) : (atR d r).loose.length ≤ M := by
  obtain ⟨i, pn, x, rfl, rfl, hx, _⟩ := pagedE_zero hu
  rw [atR_of hx]
  exact h x (List.mem_of_getElem? hx)
theorem write_loose {d : List Rg} {M : Nat} (h : ∀ x ∈ d, x.loose.length ≤ M) (r p : Int) (b : List UInt8) : ∀ x ∈ writeD d r p b, x.loose.length ≤ M + 1 := by
  intro x hx
  unfold writeD at hx
  split at hx
  · rename_i hu
    rcases List.mem_or_eq_of_mem_set hx with hx | rfl
    · have := h x hx; omega
    · have := atR_len h hu.1
      unfold wroteR
      split
      · simp; omega
      · rw [cntR_loose]; omega
  · have := h x hx; omega
theorem write_length (d : List Rg) (r p : Int) (b : List UInt8) : (writeD d r p b).length = d.length := by
  unfold writeD; split <;> simp
theorem new_loose (l : List Int) : ∀ x ∈ newD l, x.loose.length ≤ 0 := by
  intro x hx
  simp only [newD, List.mem_map] at hx
  obtain ⟨n, _, rfl⟩ := hx
  exact Nat.le_refl _
end Go.Proofs.YtfidfbgplfjakaaDoor

/- What came in, opened: slices of bytes, slices of slices of bytes. -/
namespace Go.Proofs.YtfidfbgplfjakaaDoor
open Go.RowKit Go.Deep Go.WideShapes Go.ChangeShapes

theorem bs_of_frame {w : World} {a : Option Addr} {len cap : Nat} {z : List Int}
    (h : (a = none ∧ len = 0 ∧ cap = 0 ∧ z = []) ∨ ∃ x, a = some x ∧ len ≤ cap ∧ cap ≤ maxLen ∧ z.length = cap ∧ (∀ i, i < z.length → w.cell? (x.add i) = some (.int .u8 (z.getD i 0))) ∧ ∀ n ∈ z, (Lit.int .u8 n).wf = true) :
    ∃ l, Bs w a len cap l := by
  have h := Row.of_frame h
  refine ⟨ofI (z.take len), ?_⟩
  show Row .u8 w a len cap (toI (ofI (z.take len)))
  rw [toI_ofI _ h.2]
  exact h.1

section
variable {H : Type} {enc : TypeId × Value → H} {P : Program} {w : World} {base : Nat}
theorem read_bs {t e : TypeId} (ht : P.underlying t = some (.slice e)) (he : P.underlying e = some (.int .u8)) (hc : P.cellsOf e = 1) :
    ∀ n cs x, cs.length = 1 → DataW.trod enc P w 0 (fun _ => true) true n t cs = some x → ∃ y, IsBs w cs y := by
  intro n cs x hlen h
  rcases open_ints ht he hc h with ⟨rfl, _⟩ | ⟨x, l, c, zs, rfl, _, hl, hm, hz, _, hcell, hwz⟩
  · obtain ⟨y, hy⟩ := bs_of_frame (w := w) (a := none) (len := 0) (cap := 0) (z := []) (.inl ⟨rfl, rfl, rfl, rfl⟩)
    exact ⟨y, _, _, _, rfl, hy⟩
  · obtain ⟨y, hy⟩ := bs_of_frame (w := w) (a := some x) (len := l) (cap := c) (z := zs) (.inr ⟨_, rfl, hl, hm, by simpa using hz, hcell, hwz⟩)
    exact ⟨y, _, _, _, rfl, hy⟩

theorem open_bs {t e : TypeId} (ht : P.underlying t = some (.slice e)) (he : P.underlying e = some (.int .u8)) (hc : P.cellsOf e = 1)
    {v : Value} {d : DataW H} {p : List MemPlace} (hv : Value.okWide P w .any base t v) (h : DataW.Trod enc P w 0 (fun _ => true) true t v d p) :
    ∃ a len cap l, v = .slice a len cap ∧ Bs w a len cap l := by
  obtain ⟨a, len, cap, rfl⟩ := okWide_slice ht hv
  obtain ⟨fuel, hf⟩ := h
  obtain ⟨y, a', n', c', e1, e2⟩ := read_bs ht he hc fuel _ _ (by simp [Value.cells]) hf
  simp [Value.cells] at e1
  obtain ⟨rfl, rfl, rfl⟩ := e1
  exact ⟨_, _, _, y, rfl, e2⟩

theorem open_bss {t e e2 : TypeId} (ht : P.underlying t = some (.slice e)) (he : P.underlying e = some (.slice e2)) (he2 : P.underlying e2 = some (.int .u8)) (hc : P.cellsOf e = 1) (hc2 : P.cellsOf e2 = 1)
    {v : Value} {d : DataW H} {p : List MemPlace} (hv : Value.okWide P w .any base t v) (h : DataW.Trod enc P w 0 (fun _ => true) true t v d p) :
    ∃ a len cap l, v = .slice a len cap ∧ Bss w a len cap l :=
  open_tab ht hc (by decide) (IsBs w) (read_bs he he2 hc2) hv h
end
end Go.Proofs.YtfidfbgplfjakaaDoor

/- What came in, opened: pages to be written. -/
namespace Go.Proofs.YtfidfbgplfjakaaDoor
open Go.RowKit Go.Deep Go.WideShapes Go.ChangeShapes

/-- A page to be written. -/
structure Wrt where
  page : Int
  a : Option Addr
  n : Nat
  cap : Nat
  b : List UInt8
def IsWrt (w : World) (cs : List Value) (y : Wrt) : Prop := cs = [.int .i64 y.page, .slice y.a y.n y.cap] ∧ Bs w y.a y.n y.cap y.b
def Wrts (w : World) (a : Option Addr) (len cap : Nat) (l : List Wrt) : Prop := TabR 2 (IsWrt w) w a len cap l
section
variable {H : Type} {enc : TypeId × Value → H} {P : Program} {w : World} {base : Nat}
theorem rd_wrt {t e : TypeId} {f0 f1 : Field} (ht : P.underlying t = some (.struct #[f0, f1])) (o0 : f0.offset = 0) (o1 : f1.offset = 1) (c0 : P.cellsOf f0.type = 1) (c1 : P.cellsOf f1.type = 1)
    (u0 : P.underlying f0.type = some (.int .i64)) (u1 : P.underlying f1.type = some (.slice e)) (ue : P.underlying e = some (.int .u8)) (ce : P.cellsOf e = 1) :
    ∀ n cs x, cs.length = 2 → DataW.trod enc P w 0 (fun _ => true) true n t cs = some x → ∃ y : Wrt, IsWrt w cs y := by
  intro n cs x hlen h
  obtain ⟨xs, k, _, _, _, hxl, hf⟩ := DataW.trod_struct ht h
  match xs, hxl, cs, hlen with
  | [y0, y1], _, [v0, v1], _ =>
    have g0 := hf 0 f0 rfl
    have g1 := hf 1 f1 rfl
    simp [o0, o1, c0, c1] at g0 g1
    obtain ⟨n0, e0, _, _⟩ := DataW.trod_int u0 g0
    obtain ⟨y, a, len, cap, e1, hb⟩ := read_bs u1 ue ce _ _ _ (by simp) g1
    simp at e0 e1
    exact ⟨⟨n0, a, len, cap, y⟩, by rw [e0, e1], hb⟩
theorem open_wrts_of {t e s : TypeId} {f0 f1 : Field} (ht : P.underlying t = some (.slice e)) (he : P.underlying e = some (.struct #[f0, f1])) (hc : P.cellsOf e = 2) (o0 : f0.offset = 0) (o1 : f1.offset = 1)
    (c0 : P.cellsOf f0.type = 1) (c1 : P.cellsOf f1.type = 1) (u0 : P.underlying f0.type = some (.int .i64)) (u1 : P.underlying f1.type = some (.slice s)) (us : P.underlying s = some (.int .u8)) (cs : P.cellsOf s = 1)
    {v : Value} {d : DataW H} {p : List MemPlace} (hv : Value.okWide P w .any base t v) (h : DataW.Trod enc P w 0 (fun _ => true) true t v d p) :
    ∃ a len cap l, v = .slice a len cap ∧ Wrts w a len cap l :=
  open_tab ht hc (by decide) (IsWrt w) (rd_wrt he o0 o1 c0 c1 u0 u1 us cs) hv h
end
set_option maxRecDepth 100000 in
theorem open_wrts {H : Type} {enc : TypeId × Value → H} {w : World} {base : Nat} {v : Value} {d : DataW H} {p : List MemPlace} (hv : Value.okWide Tryd.prog w .any base 35 v) (h : DataW.Trod enc Tryd.prog w 0 (fun _ => true) true 35 v d p) :
    ∃ a len cap l, v = .slice a len cap ∧ Wrts w a len cap l :=
  open_wrts_of Tryd.underlying35 Tryd.underlying44 (by kernel_rfl) (by rfl) (by rfl) (by kernel_rfl) (by kernel_rfl) Tryd.underlying3 Tryd.underlying31 Tryd.underlying5 (by kernel_rfl) hv h
theorem Wrts.below {w w' : World} {a : Option Addr} {len cap : Nat} {l : List Wrt} {B : Nat} (h : Wrts w a len cap l) (hB : w.heap.size ≤ B) (hb : Below B w w') : Wrts w' a len cap l :=
  (TabR.below hB hb h).mono fun _ _ hy => ⟨hy.1, hy.2.below hB hb⟩
theorem Wrts.at {w : World} {a : Option Addr} {len cap : Nat} {l : List Wrt} (h : Wrts w a len cap l) {k : Nat} (hk : k < len) :
    ∃ b off y, a = some ⟨b, off, none⟩ ∧ b < w.heap.size ∧ l[k]? = some y ∧ w.cell? ⟨b, off + k * 2, none⟩ = some (.int .i64 y.page) ∧ w.cell? ⟨b, off + k * 2 + 1, none⟩ = some (.slice y.a y.n y.cap) ∧ Bs w y.a y.n y.cap y.b := by
  obtain ⟨b, off, y, cs, e1, e2, e3, _, e5, e6⟩ := TabR.at h hk
  obtain ⟨rfl, h9⟩ := e5
  exact ⟨b, off, y, e1, e2, e3, by simpa using e6 0 _ rfl, e6 1 _ rfl, h9⟩
end Go.Proofs.YtfidfbgplfjakaaDoor
