/- Texts that other texts of this claim lean on, one behind the other. -/
import Derived.Test.YtfidfbgplfjakaaDoorM6
import Derived.Deep.RegionHeld3
import Derived.RangeFuncNested
import Derived.RangeFuncBound
import Derived.RangeFuncCalls
import Derived.RangeFuncLeaves
import Derived.RangeFuncBox
import Derived.Shelf.Abstract
import Derived.Shelf.RegionOpen
import Derived.WalkKit
import Derived.OwnWalkIn
import Derived.TacticsInMore
import Derived.LoopNIn
import Derived.LoopIn
import Derived.Test.YtfidfbgplfjakaaDoorM1
import Derived.Outline
import Derived.Test.YtfidfbgplfjakaaDoorM5
import Derived.RegionTactic
import Derived.Lib.ConvBytes
/- The walks of the chapter on long values: a value is got. -/
namespace Go.Proofs.YtfidfbgplfjakaaDoor
open Go.RowKit Go.Maps

def GetPostC (w : World) (R : List UInt8 × List Int × Int) (e : Ending) (w' : World) : Prop :=
  ∃ v, e = .returned (.tuple #[.string (strOf R.1), v, .int .i64 R.2.2]) ∧ w'.ownsRow w.heap.size 3 1 v R.2.1.length (R.2.1.map (Value.int .i64)) ∧ Below w.heap.size w w'
theorem getPostC_bad {w w' : World} {E : Int} (h : Below w.heap.size w w') : GetPostC w ([], [], E) (.returned (.tuple #[.string ⟨#[]⟩, .slice none 0 0, .int .i64 E])) w' :=
  ⟨_, rfl, World.ownsRow_nil _ _ _ _, h⟩
/-- What the rounds so far have got. -/
structure GRelC (w : World) (d : List Rg) (r : Int) (pb : Nat) (R : List UInt8 × List Int × Int) (s : List UInt8) (L : List Int) (left : Nat) (v : Value) (wr : World) : Prop where
  fin : getFC (rdC d r) (5 - L.length) s L left = R
  l1 : 1 ≤ L.length
  l4 : L.length ≤ 4
  lf : 0 < left
  lb : left + 119 * (L.length - 1) ≤ 400
  sl : s.length ≤ 119 * (L.length - 1)
  plc : Plc w.heap.size wr pb L
  own : wr.ownsRow w.heap.size 5 1 v s.length ((toI s).map (Value.int .u8))
  bl : Below w.heap.size w wr
theorem Plc.list {B : Nat} {w : World} {pb : Nat} {L : List Int} (h : Plc B w pb L) (h1 : L ≠ []) : ∃ g c, pb < w.heap.size ∧ g < w.heap.size ∧ L.length ≤ c ∧ c ≤ 9223372036854775807 ∧ w.cell? ⟨pb, 0, none⟩ = some (.slice (some ⟨g, 0, none⟩) L.length c) ∧ (∀ i, i < L.length → w.cell? ⟨g, i, none⟩ = some (.int .i64 (atC L i))) ∧ w.ownsRow B 3 1 (.slice (some ⟨g, 0, none⟩) L.length c) L.length (L.map (Value.int .i64)) := by
  obtain ⟨v, mb, n, e1, e2, _⟩ := h
  obtain ⟨a, c, rfl, k1, k2, k3⟩ := own_slice e2
  obtain ⟨g, rfl⟩ := k3 (by have := List.length_pos_iff.2 h1; omega)
  refine ⟨g, c, (Array.getElem?_eq_some_iff.1 e1).1, own_lt e2 g rfl, k1, by unfold maxLen at k2; omega, by simp [World.cell?, e1], fun i hi => ?_, e2⟩
  have := e2.cellAt i (by simpa using hi)
  rw [this]
  simp [atC, hi]
/-- Bytes put behind a row of bytes leave the places. -/
theorem Plc.grownU {B : Nat} {w w' : World} {pb : Nat} {L : List Int} (h : Plc B w pb L) {base size n : Nat} {v : Value} {xs : List Value} (ho : w.ownsRow base 5 size v n xs) (hg : w.grownBy w' v.ownBlock) : Plc B w' pb L := by
  have hk : ∀ (k : Nat) (o : Obj), w.heap[k]? = some o → (∀ c : Array Value, o ≠ Obj.cells c 5 (0, 0)) → w'.heap[k]? = some o := by
    intro k o hk hne
    rw [hg.block k (Array.getElem?_eq_some_iff.1 hk).1 (fun e => ?_)]
    · exact hk
    · rcases ho.2 with ⟨rfl, _⟩ | ⟨g, cap, cur, rfl, _, hh, _⟩
      · cases e
      · cases e
        rw [hh] at hk
        exact hne cur (Option.some.inj hk).symm
  obtain ⟨v0, mb, n0, h1, h2, ⟨D, ⟨es, c, h3, h3'⟩, h3''⟩, h4⟩ := h
  refine ⟨v0, mb, n0, hk pb _ h1 (fun c e => by cases e), ⟨h2.1, h2.2.imp id fun ⟨g, cap, cur, e1, hg1, hh, r⟩ => ⟨g, cap, cur, e1, hg1, hk g _ hh (fun c e => by cases e), r⟩⟩, ⟨D, ⟨es, c, hk mb _ h3 (fun c e => by cases e), h3'⟩, h3''⟩, h4⟩
theorem oneFNC_lt (d : List Rg) (r p : Int) : 0 ≤ oneFNC d r p ∧ oneFNC d r p < 65536 := by
  unfold oneFNC oneNC
  split
  · omega
  · split
    · have h1 := beVal_lt (((unpL (readB d r p))[0]?.getD []).take 2)
      have h2 : (((unpL (readB d r p))[0]?.getD []).take 2).length ≤ 2 := by rw [List.length_take]; omega
      have h3 : (256 : Nat) ^ (((unpL (readB d r p))[0]?.getD []).take 2).length ≤ 256 ^ 2 := Nat.pow_le_pow_right (by omega) h2
      omega
    · omega
set_option maxRecDepth 100000 in
set_option maxHeartbeats 6000000 in
theorem cget_any {w : World} {B da M : Nat} {d : List Rg} (h : One B w da M d) (hh : Half w) (r first size : Int) (hf : I64 first) :
    Calls Tryd.prog 18 #[.pointer (some ⟨da, 0, none⟩), .int .i64 r, .int .i64 first, .int .i64 size] w (GetPostC w (getDC d r first size)) := by
  by_cases h0 : needC size = 0
  · have HR : Hid (getDC d r first size = ([], [], 1)) := Lib.hid (by unfold getDC getC; rw [if_pos h0])
    have C := cneed_any size w
    rw [h0] at C
    clear h0
    go_enter Tryd.func18, Tryd.ntmps18
    go_wp2_with fail
    refine C.mono ?_
    rintro e w1 ⟨rfl, rfl⟩
    go_wp2_with fail
    go_ret3
    rw [HR.out]
    exact getPostC_bad (Below.refl _ _)
  · have hsz := needC_pos h0
    obtain ⟨sz, rfl⟩ := Int.eq_ofNat_of_zero_le (show 0 ≤ size by omega)
    obtain ⟨w2, hu, hplc, hbl⟩ := plc_new w first hf
    obtain ⟨R, hR⟩ : ∃ R, getDC d r first (sz : Int) = R := ⟨_, rfl⟩
    have hR0 := hR
    unfold getDC getC at hR0
    rw [if_neg h0] at hR0
    have HS := Lib.hid (show GRelC w d r (w2.heap.size + 1) R [] [first] sz (.slice none 0 0) ((w2.alloc (.cells #[.int .i64 first] 3)).alloc (.cells #[.slice (some ⟨w2.heap.size, 0, none⟩) 1 1, .map (some w.heap.size)] 60)) from ⟨hR0, by simp, by simp, by omega, by simp; omega, by simp, hplc, World.ownsRow_nil _ _ _ _, hbl⟩)
    have C := cneed_any (sz : Int) w
    have q0 : ((needC (sz : Int) : Int) == 0) = false := by rw [beq_eq_false_iff_ne]; omega
    have q0' : (needC (sz : Int) == 0) = false := by simpa using h0
    rw [hR]
    generalize needC (sz : Int) = ns at *
    have hmm := @run_makeMap Tryd.prog
    clear hR hR0 hplc hbl h0
    go_enter Tryd.func18, Tryd.ntmps18
    go_wp2_with fail
    refine C.mono ?_
    rintro e w1 ⟨rfl, rfl⟩
    go_wp2_with fail
    clear hmm
    generalize (w2.alloc (.cells #[.int .i64 first] 3)).alloc (.cells #[.slice (some ⟨w2.heap.size, 0, none⟩) 1 1, .map (some w.heap.size)] 60) = w3 at *
    generalize w2.heap.size + 1 = pb at *
    go_loopw [12, 13] (fun s12 s13 wr => ∃ (s : List UInt8) (L : List Int) (left : Nat), s13 = .int .i64 left ∧ GRelC w d r pb R s L left s12 wr) (fun _ s13 _ => (intOf s13).toNat)
    case atStart => exact ⟨[], [first], sz, rfl, HS.out⟩
    case round =>
      clear HS
      obtain ⟨s, L, left, rfl, hrel⟩ := hrel
      obtain ⟨m, hn⟩ : ∃ m, L.length = m := ⟨_, rfl⟩
      have hm1 : 1 ≤ m := by have := hrel.l1; omega
      have hLne : L ≠ [] := by intro e; rw [e] at hn; simp at hn; omega
      obtain ⟨g, c, p1, p2, p3, p4, p5, p6, _⟩ := hrel.plc.list hLne
      have hlast : L.getLastD 0 = atC L (m - 1) := by
        rw [List.getLastD_eq_getLast?, List.getLast?_eq_getElem?, hn]; rfl
      have hbw := hrel.bl
      have cA : ∀ W, Below wr.heap.size wr W → W.cell? ⟨pb, 0, none⟩ = some (.slice (some ⟨g, 0, none⟩) m c) := fun W hW => by rw [hW.cell (p := ⟨pb, 0, none⟩) p1, p5, hn]
      have cB : ∀ W, Below wr.heap.size wr W → W.cell? ⟨g, m - 1, none⟩ = some (.int .i64 (atC L (m - 1))) := fun W hW => by rw [hW.cell (p := ⟨g, m - 1, none⟩) p2, p6 (m - 1) (by omega)]
      have hb0 : Below wr.heap.size wr wr.drew := below_drewN (Below.refl _ _) 1
      have hb0w : Below w.heap.size w wr.drew := below_drewN hbw 1
      have C := cone_any (h.below hb0w) (hh.below (Nat.le_refl _) hb0w) r (atC L (m - 1))
      have hfin := hrel.fin
      obtain ⟨fu, hfu⟩ : ∃ fu, 5 - L.length = fu + 1 := ⟨4 - L.length, by have := hrel.l4; omega⟩
      rw [hfu, getFC, hlast] at hfin
      try simp only at hfin
      rw [hn] at p3
      have HREL := Lib.hid hrel
      have HN := Lib.hid hn
      have HFU := Lib.hid hfu
      have HFIN := Lib.hid hfin
      have hlf := hrel.lf
      have hlb := hrel.lb
      have hm4 := hrel.l4
      obtain ⟨av, cv, hev, hcv, hcvm, _⟩ := own_slice hrel.own
      subst hev
      unfold maxLen at hcvm
      clear hrel hfin p5 p6 hLne hlast hbw hb0w hfu
      rw [hn] at hlb hm4
      clear hn
      generalize hlst : atC L (m - 1) = last at *
      have HLST := Lib.hid hlst
      clear hlst
      have iw : IntKind.i64.wrap ((m : Int) - 1) = (m : Int) - 1 := by simp [IntKind.wrap, IntKind.signed, IntKind.bits]; omega
      have j1 : 1 ≤ m := hm1
      have j2 : (1 : Int) ≤ (m : Int) := by omega
      have j3 : decide ((0 : Int) ≤ (m : Int) - 1) = true := by simp; omega
      have j4 : decide ((m : Int) - 1 < (m : Int)) = true := decide_eq_true (by omega)
      have i1 : (0 : Int) ≤ (m : Int) - 1 := by omega
      have i2 : (m : Int) - 1 < (m : Int) := by omega
      have i3 : ((m : Int) - 1).toNat = m - 1 := by omega
      go_wp2_with fail
      go_region_held3 (fun W => Below wr.heap.size wr W) (with_reducible assumption) (first | (go_at_call 40; refine C.mono ?_; rintro e wx ⟨vx, rfl, hox, hbx⟩; have hBx : Below wr.heap.size wr wx := below_then hb0 hbx))
      have HBX := Lib.hid (below_then HREL.out.bl hBx)
      have HPX := Lib.hid (HREL.out.plc.below hBx)
      have HOX := Lib.hid (own_below HREL.out.own (Nat.le_refl _) hBx)
      have HF2 := HFIN.out
      rw [show (rdC d r last).1 = oneFEC d r last from rfl, show (rdC d r last).2.1 = oneFNC d r last from rfl, show (rdC d r last).2.2 = oneFPC d r last from rfl] at HF2
      generalize oneFEC d r last = E at *
      have hNlt := oneFNC_lt d r last
      generalize oneFNC d r last = N at *
      generalize oneFPC d r last = P at *
      by_cases hE : E = 0
      · subst hE
        obtain ⟨ax, cx, rfl, hcx, hcxm, _⟩ := own_slice hox
        unfold maxLen at hcxm
        obtain ⟨f, hfm⟩ : ∃ f, min left 119 = f := ⟨_, rfl⟩
        have hmin : (if (119 : Int) < (left : Int) then (119 : Int) else (left : Int)) = (f : Int) := by rw [← hfm]; split <;> omega
        have hmin2 : (if 119 < left then (119 : Int) else (left : Int)) = (f : Int) := by rw [← hfm]; split <;> omega
        have hfi : min (left : Int) 119 = (f : Int) := by omega
        rw [hfi] at HF2
        by_cases hk : P.length = f
        · rw [if_neg (by rintro (h | ⟨_, h⟩); exact absurd h (by decide); exact h (by omega)), if_neg (by simp)] at HF2
          have z2 : ((P.length : Int) != (f : Int)) = false := by rw [bne_eq_false_iff_eq]; omega
          have z3 : ((P.length : Int) == (f : Int)) = true := by rw [beq_iff_eq]; omega
          obtain ⟨q, hq⟩ : ∃ q, left - P.length = q := ⟨_, rfl⟩
          have hLI : (left : Int) - (P.length : Int) = (q : Int) := by omega
          rw [hLI] at HF2
          have hPl : P.length ≤ 119 := by omega
          obtain ⟨i0, hi, hz0, hz1, hz2⟩ := info_parts info_u8
          obtain ⟨aP, cP, eP, hbsP⟩ := Bs.of_own hox
          cases eP
          have hsl := HREL.out.sl
          have hm5 := HN.out
          obtain ⟨v2, wy, hr2, ho2, hg2, _⟩ := run_append_row (P := Tryd.prog) (w := wx) w.heap.size 31 5 i0 _ 1 Tryd.underlying31 hi hz0 hz1 hz2 rfl HOX.out hbsP (by unfold maxLen; omega) (by omega) HBX.out.size
          have HP2 := Lib.hid (HPX.out.grownU HOX.out hg2)
          have HB2 := Lib.hid (HBX.out.grown hg2 HBX.out.size (own_ge HOX.out))
          have ho2' : wy.ownsRow w.heap.size 5 1 v2 (s ++ P).length ((toI (s ++ P)).map (Value.int .u8)) := by
            rw [List.length_append]; simpa [toI] using ho2
          have HO2 := Lib.hid ho2'
          obtain ⟨a2, c2, rfl, hbs2⟩ := Bs.of_own ho2'
          have hsl2 : s.length + P.length = (s ++ P).length := by simp
          have hLne : L ≠ [] := by intro e; rw [e] at hm5; simp at hm5; omega
          obtain ⟨g2, cc2, t1, t2, t3, t4, t5, t6, t7⟩ := HP2.out.list hLne
          have hlen9 : (s ++ P).length = s.length + f := by rw [List.length_append, hk]
          rw [hlen9] at hbs2
          have hcv2 : ∀ W, Below wy.heap.size wy W → (convert 31 9 (.slice a2 (s.length + f) c2)).run Tryd.prog W = .ok (.string (strOf (s ++ P))) W := fun W hW => conv_string (P := Tryd.prog) Tryd.underlying31 Tryd.underlying5 Tryd.underlying9 (hbs2.below (Nat.le_refl _) hW)
          have cP2 : ∀ W, Below wy.heap.size wy W → W.cell? ⟨pb, 0, none⟩ = some (.slice (some ⟨g2, 0, none⟩) L.length cc2) := fun W hW => (hW.cell (p := ⟨pb, 0, none⟩) t1).trans t5
          have hby0 : Below wy.heap.size wy wy.drew := below_drewN (Below.refl _ _) 1
          clear hox hbx hBx cA cB C HFIN ho2 ho2' hg2 hbsP hi hz0 hz1 hz2 hbs2 t6 hLne
          by_cases h0 : q = 0
          · subst h0
            by_cases hN : N = 0
            · subst hN
              rw [if_pos ⟨rfl, rfl⟩] at HF2
              have HE : Hid (GetPostC w R (.returned (.tuple #[.string (strOf (s ++ P)), .slice (some ⟨g2, 0, none⟩) m cc2, .int .i64 0])) wy) := Lib.hid (by
                rw [← HF2]
                refine ⟨_, rfl, ?_, HB2.out⟩
                show wy.ownsRow _ _ 1 _ L.length (L.map _)
                have t8 := t7
                rw [hm5] at t8 ⊢
                exact t8)
              clear HF2 t7 hfm hfi
              have hw : IntKind.i64.wrap ((left : Int) - (P.length : Int)) = (0 : Int) := by rw [hLI]; rfl
              go_wp2_with (at_builtin; refine wpList_append_run rfl _ _ _ _ rfl rfl rfl hr2 ?_)
              go_region_held3 (fun W => Below wy.heap.size wy W) (with_reducible assumption) (fail)
              all_goals
                go_wp2_with fail
                go_ret3
                obtain ⟨vv, k1, k2, k3⟩ := HE.out
                exact ⟨vv, k1, k2, below_drewN k3 1⟩
            · rw [if_neg (fun h => hN h.2), if_pos (.inl rfl)] at HF2
              have HE : Hid (GetPostC w R (.returned (.tuple #[.string ⟨#[]⟩, .slice none 0 0, .int .i64 11])) wy) := Lib.hid (by rw [← HF2]; exact getPostC_bad HB2.out)
              have hw : IntKind.i64.wrap ((left : Int) - (P.length : Int)) = (0 : Int) := by rw [hLI]; rfl
              have z5 : (N == 0) = false := by simpa using hN
              clear HF2 t7 hfm hfi
              go_wp2_with (at_builtin; refine wpList_append_run rfl _ _ _ _ rfl rfl rfl hr2 ?_)
              go_ret3
              exact HE.out
          · rw [if_neg (fun h => h0 (by have := h.1; omega))] at HF2
            have hw : IntKind.i64.wrap ((left : Int) - (P.length : Int)) = (q : Int) := by rw [hLI]; simp [IntKind.wrap, IntKind.signed, IntKind.bits]; omega
            have z5 : ((q : Int) == 0) = false := by rw [beq_eq_false_iff_ne]; omega
            have z6 : (q == 0) = false := by simpa using h0
            have A := add_any HP2.out (by omega) N (by unfold I64; omega)
            have hm3 : m ≤ 3 := by omega
            have HQ : Hid (left = q + f ∧ f = 119 ∧ m ≤ 3) := Lib.hid ⟨by omega, by omega, hm3⟩
            have HF3 := Lib.hid HF2
            have HL9 := Lib.hid hlen9
            have HH0 := Lib.hid h0
            clear HF2 t7 hfm hfi
            go_wp2_with (at_builtin; refine wpList_append_run rfl _ _ _ _ rfl rfl rfl hr2 ?_)
            refine A.mono ?_
            rintro e wz ⟨hbz, hku, hpz⟩
            by_cases hg : pgC N = true ∧ N ∉ L
            · rw [if_pos hg] at hpz
              obtain ⟨rfl, hpl⟩ := hpz
              have HF4 := HF3.out
              rw [if_neg (by rintro (h | h | h); exact HH0.out (by omega); rw [hg.1] at h; cases h; exact hg.2 h)] at HF4
              have HG := Lib.hid (show GRelC w d r pb R (s ++ P) (L ++ [N]) q (.slice a2 (s.length + f) c2) wz from ⟨by rw [← HF4]; congr 1; rw [List.length_append]; have := HFU.out; simp; omega, by simp, by have := HQ.out; have := HN.out; simp; omega, by omega, by have := HQ.out; have := HN.out; simp; omega, by have := HQ.out; have := HN.out; have := HREL.out.sl; have := HL9.out; simp; omega, hpl, by have := hku.own HO2.out; rw [HL9.out] at this ⊢; exact this, HB2.out.trans hbz⟩)
              clear A hpl hku hbz HF4
              go_wp2_with fail
              go_roundw
              case rel => exact ⟨s ++ P, L ++ [N], q, by congr 1; have := HQ.out; omega, HG.out⟩
              case measure => have := HQ.out; simp [intOf]; omega
            · rw [if_neg hg] at hpz
              obtain ⟨rfl, rfl⟩ := hpz
              have HF4 := HF3.out
              rw [if_pos (by
                by_cases h1 : pgC N = true
                · exact .inr (.inr (by by_cases h2 : N ∈ L; exact h2; exact absurd ⟨h1, h2⟩ hg))
                · exact .inr (.inl (by simpa using h1)))] at HF4
              have HE : Hid (GetPostC w R (.returned (.tuple #[.string ⟨#[]⟩, .slice none 0 0, .int .i64 11])) wy) := Lib.hid (by rw [← HF4]; exact getPostC_bad HB2.out)
              clear A HF4 hku hbz hg
              go_wp2_with fail
              go_ret3
              exact HE.out
        · rw [if_pos (.inr ⟨rfl, by omega⟩)] at HF2
          have HE : Hid (GetPostC w R (.returned (.tuple #[.string ⟨#[]⟩, .slice none 0 0, .int .i64 11])) wx) := Lib.hid (by rw [← HF2]; exact getPostC_bad HBX.out)
          have z1 : ((P.length : Int) != (f : Int)) = true := by rw [bne_iff_ne]; omega
          have z2 : ((P.length : Int) == (f : Int)) = false := by rw [beq_eq_false_iff_ne]; omega
          clear HF2 hox hbx hBx cA cB C HFIN hfi hfm hk
          go_wp2_with fail
          go_ret3
          exact HE.out
      · by_cases hE2 : E = 10
        · subst hE2
          rw [if_pos (.inl rfl)] at HF2
          have HE : Hid (GetPostC w R (.returned (.tuple #[.string ⟨#[]⟩, .slice none 0 0, .int .i64 11])) wx) := Lib.hid (by rw [← HF2]; exact getPostC_bad HBX.out)
          clear HF2 hox hbx hBx cA cB C HFIN
          go_wp2_with fail
          go_ret3
          exact HE.out
        · rw [if_neg (by rintro (h | h); exact hE2 h; exact hE h.1), if_pos hE] at HF2
          have HE : Hid (GetPostC w R (.returned (.tuple #[.string ⟨#[]⟩, .slice none 0 0, .int .i64 E])) wx) := Lib.hid (by rw [← HF2]; exact getPostC_bad HBX.out)
          have z1 : (E == 10) = false := by simpa using hE2
          have z2 : (E == 0) = false := by simpa using hE
          have z3 : (E != 0) = true := by simpa using hE
          clear HF2 hox hbx hBx cA cB C HFIN hE hE2
          go_wp2_with fail
          go_ret3
          exact HE.out
end Go.Proofs.YtfidfbgplfjakaaDoor

/- A round of a range over a function: what a region does outside of a round it does within one. -/
namespace Go.Proofs.YtfidfbgplfjakaaDoor
open Go.RowKit

/-- Q, but 'False' where the code is left in another way. -/
def Calm (Q : Exit → Act → World → Prop) : Exit → Act → World → Prop
  | .normal, a, w => Q .normal a w
  | _, _, _ => False
theorem Calm.out {Q : Exit → Act → World → Prop} : ∀ (e : Exit) (a : Act) (w : World), Calm Q e a w → Q e a w := fun e a w h => by
  cases e <;> first | exact h | exact (h : False).elim
theorem calm_letsOut {Q : Exit → Act → World → Prop} (h : LetsOut (Calm Q)) : False := by obtain ⟨a, w, h⟩ := h; exact h
section
variable {P : Program} {l n : Nat} {Q : Exit → Act → World → Prop}
theorem calls_round {f : FuncId} {args : Array Value} {w : World} {R : Ending → World → Prop} (h : Calls P f args w R) : CallsIn (Fence.wide.inRound l) n P f args w R := callsIn_wide.2 h
theorem upon_round {o : Oper} {a : Act} {next : Act → World → Prop} (r : Result Next) (h : o.upon P a next Q r) : o.uponIn (Fence.wide.inRound l) n P a next Q r := by
  cases r with
  | ok x w =>
    cases x with
    | value v => exact h
    | skip => exact h
    | defer d => exact h
    | enter f args => exact ⟨fun e => (by cases e), calls_round h⟩
    | row row args => exact ⟨fun e => (by cases e), fun c cs _ => let ⟨v, w', r, s⟩ := h c cs; ⟨v, w', r, stepsIn_wide.2 s⟩⟩
    | round => exact h.elim
    | _ => exact h
  | halt x w => cases x <;> exact h
theorem wpOps_round {ops : Array Oper} (hd : ∀ o ∈ ops, ∀ c, o.op ≠ .defer c) (hQ : LetsOut Q → False) : ∀ (L : List Nat) (a : Act) (w : World), wpOps P ops Q L a w → wpOpsIn (Fence.wide.inRound l) n P ops Q L a w := by
  intro L
  induction L with
  | nil => intro a w h; exact h
  | cons i L ih =>
    intro a w h
    simp only [wpOps] at h
    simp only [wpOpsIn]
    cases ho : ops[i]? with
    | none =>
      rw [ho] at h
      exact ih a w h
    | some o =>
      rw [ho] at h
      have hm : o ∈ ops := Array.mem_of_getElem? ho
      by_cases hw : Region.wanted o (yielded ops a.tmps) = true
      · simp only [hw, if_true] at h ⊢
        rcases h with h | ⟨_, h⟩
        · refine ⟨fun _ _ => trivial, ?_⟩
          rw [Oper.semAt_eq _ _ _ (hd o hm)]
          refine upon_round _ ?_
          exact Oper.wp_mono (P := P) (fun a w => ih a w) h
        · exact (hQ h).elim
      · simp only [hw] at h ⊢
        exact ⟨fun _ _ => trivial, ih _ _ h⟩
/-- No operation lays a call aside. -/
def noDefer (ops : Array Oper) : Bool := ops.all fun o => match o.op with | .defer _ => false | _ => true
theorem noDefer_out {ops : Array Oper} (h : noDefer ops = true) : ∀ o ∈ ops, ∀ c, o.op ≠ .defer c := by
  intro o ho c hc
  have := (Array.all_eq_true'.1 h) o ho
  rw [hc] at this
  cases this
theorem Calm.normal {Q : Exit → Act → World → Prop} {a : Act} {w : World} (h : Q .normal a w) : Calm Q .normal a w := h
theorem region_round_held {id : Nat} {ops : Array Oper} {S : World → Prop} {a : Act} {w : World} (hd : noDefer ops = true) (hm : P.follows .mixedOrders = true) (hS : S w.drew)
    (h : S w.drew → wpAnyH P .any ops (Calm Q) S ops.size (Array.replicate ops.size false) a w.drew) : (Code.region id ops true).wpIn (Fence.wide.inRound l) n P Q a w := by
  refine wpIn_mono ?_ Calm.out
  refine wpIn_region_draw fun t => ?_
  refine wpOps_round (noDefer_out hd) calm_letsOut _ _ _ ?_
  simp only [Region.schedule, hm, Bool.true_or, if_true]
  exact wpAny_sound ops.size t _ a _ (wpAny_of_held _ _ _ _ (h hS))
end

theorem wpListIn_append_run {F : Fence} {n : Nat} {P : Program} {w : World} {ops : Array Oper} {rest : List Oper} {o : Oper} {a : Act} {Q : Exit → Act → World → Prop} (hgd : o.guard = none) (s x : Operand) (t u : TypeId)
    (ho : o.op = .call { callee := .builtin .append, args := #[s, x], argTypes := #[t, u] }) {v y v' : Value} {w' : World} (hs : a.eval s = v) (hx : a.eval x = y)
    (hrun : (Builtin.append_ #[t, u] o.type #[v, y]).run P w = .ok v' w') (h : wpListIn F n P ops Q rest (a.put o.dst v') w') : wpListIn F n P ops Q (o :: rest) a w := by
  refine wpListIn_plain hgd fun K hK' => ?_
  unfold Oper.wpIn
  refine ⟨?_, ?_⟩
  · simp [Oper.about, ho, resolve, Target.leads, Sem.run_pure]
  · rw [Oper.semAt_plain F _ _ (by rw [ho]; intro c hc'; cases hc')]
    simp [execOp, ho, resolve, invoke, builtin, hs, hx, hrun, Result.andThen]
    exact hK' _ _ h

/-- A range over a function: the assignment and the body in one. -/
theorem wpIn_range_one {F : Fence} {n : Nat} {P : Program} {α : Type} {g : Operand} {ps : Array Tmp} {assign body : Code} {Q : Exit → Act → World → Prop} {a : Act} {w : World}
    (hro : F.round = none) (h1 : 1 ≤ n) {gf : Nat} {lb : Array Value} (hg : a.eval g = .func (.func gf) #[] lb) (hFg : F.fn gf) (eg : ∀ args w, (callFunc gf args).run P w = .ok (.enter gf args) w)
    {encs : α → Array Value} {Kp : World → World → Prop} {S Sp : List α → Prop} {N : Nat} {w0 : World} (hseq : SeqStopsK F (n - 1) P gf lb encs Kp S Sp N w0)
    (hKt : ∀ {A B C : World}, Kp A B → Kp B C → Kp A C) (hKb : ∀ (W : World) (l : Nat) (o o' : Obj), w.heap.size ≤ l → W.heap[l]? = some o → o.isCells = false → o.isWalk = false → Kp W (W.putObj l o')) (hKr : ∀ W, Kp W W) (hb0 : Below w0.heap.size w0 w) (hps : ∀ x, (encs x).size = ps.size)
    (I : List α → World → Prop) (Ix : Code → List α → World → Prop) (hI : OwnFrom w.heap.size I) (hIx : ∀ c, OwnFrom w.heap.size (Ix c)) (h0 : I [] w)
    (hround : ∀ (l : Nat) (x : α) (W : World) (K : Act → World → Prop), (∀ a', (∀ (l' : Nat) (pre : List α) (W' : World), I pre W' → pre.length < N → body.wpIn (F.inRound l') (n - 1 - 1) P (ownPostG w.heap.size Kp I Ix (pre ++ [x]) W') a' W') → K a' W) →
      assign.wpIn (F.inRound l) (n - 1 - 1) P (Exit.then K (fun _ _ _ => False)) { tmps := (ps.zip (encs x)).foldl (fun t (p, v) => t.setIfInBounds p v) a.tmps, defers := [] } W)
    (hdone : ∀ (D : Nat) (xs : List α) (W : World), w.heap.size ≤ D → S xs → I xs W → W.heap[D]? = some (.deferred (some [])) → Q .normal { a with defers := { target := .collected D, args := #[] } :: a.defers } W)
    (hstop : ∀ (D : Nat) (c : Code) (pre : List α) (W : World), w.heap.size ≤ D → Sp pre → Ix c pre W → W.heap[D]? = some (.deferred (some [])) → c.wpIn F n P Q { a with defers := { target := .collected D, args := #[] } :: a.defers } W) :
    (Code.rangeFunc g ps assign body).wpIn F n P Q a w :=
  wpIn_rangeFunc_ownH hro h1 hg hFg eg hseq (fun h k => hKt h k) hKb hb0 hps I Ix hI hIx h0
    (fun x a' _ => ∀ (l' : Nat) (pre : List α) (W' : World), I pre W' → pre.length < N → body.wpIn (F.inRound l') (n - 1 - 1) P (ownPostG w.heap.size Kp I Ix (pre ++ [x]) W') a' W')
    (fun _ _ _ _ _ _ hs _ _ => hs)
    (fun l _ x W K hi hK => hround l x W K (fun a' h => hK a' W (KeepsFrom.refl _ _) (hKr W) hi h))
    (fun l pre _ _ W _ _ hi hax hlt => hax l pre W hi hlt) hdone hstop
end Go.Proofs.YtfidfbgplfjakaaDoor

/- The iterator over the chunks of a row of bytes. -/
namespace Go.Proofs.YtfidfbgplfjakaaDoor
open Go.RowKit Go.Shelf
attribute [local go_sem] Oper.semAt_some

/-- The k-th chunk of a row of so many bytes. -/
def chunkV (b off L z : Nat) (k : Nat) : Value := .slice (some ⟨b, off + z * k, none⟩) (min z (L - z * k)) (min z (L - z * k))
def chunkN (L z : Nat) : Nat := (L + z - 1) / z
theorem chunkN_lt {L z k : Nat} (hz : 1 ≤ z) (h : k < chunkN L z) : z * k < L := by
  unfold chunkN at h
  have h1 := (Nat.le_div_iff_mul_le hz).1 (Nat.succ_le_of_lt h)
  rw [Nat.succ_mul, Nat.mul_comm k z] at h1
  omega
theorem chunkN_ge {L z k : Nat} (hz : 1 ≤ z) (h : z * k < L) : k < chunkN L z := by
  unfold chunkN
  refine (Nat.le_div_iff_mul_le hz).2 ?_
  rw [Nat.succ_mul, Nat.mul_comm k z]
  omega
/-- Boxes that a body leaves alone. -/
def KeepC (n₀ : Nat) (bs : List Nat) (A B : World) : Prop := Below n₀ A B ∧ ∀ k ∈ bs, ∀ o, A.heap[k]? = some o → o.isCells = true → B.heap[k]? = some o
theorem KeepC.refl (n₀ : Nat) (bs : List Nat) (A : World) : KeepC n₀ bs A A := ⟨Below.refl _ _, fun _ _ _ h _ => h⟩
theorem keepC_t {n₀ : Nat} {bs : List Nat} {A B C : World} (h : KeepC n₀ bs A B) (k : KeepC n₀ bs B C) : KeepC n₀ bs A C := ⟨h.1.trans k.1, fun i hi o ho hc => k.2 i hi o (h.2 i hi o ho hc) hc⟩
theorem KeepC.drewN {n₀ : Nat} {bs : List Nat} {A B : World} (h : KeepC n₀ bs A B) (m : Nat) : KeepC n₀ bs A (B.drewN m) := ⟨below_drewN h.1 m, h.2⟩
theorem keepC_b {n₀ : Nat} {bs : List Nat} {w : World} (hn : n₀ ≤ w.heap.size) (W : World) (l : Nat) (o o' : Obj) (hl : w.heap.size ≤ l) (h : W.heap[l]? = some o) (hc : o.isCells = false) (hw : o.isWalk = false) : KeepC n₀ bs W (W.putObj l o') := by
  refine ⟨belowK_b hn W l o o' hl h hc hw, fun k _ o2 ho hc2 => ?_⟩
  have hne : k ≠ l := by
    intro e; subst e
    rw [h] at ho; cases ho
    rw [hc] at hc2; cases hc2
  rw [World.putObj_heap_other (by omega)]; exact ho

theorem chunk_any (a : Option Addr) (L cap z : Nat) (w : World) (hz : 1 ≤ z) :
    Calls Tryd.prog 27 #[.slice a L cap, .int .i64 z] w fun e w' => e = .returned (.func (.func 45) #[] #[.pointer (some ⟨w.heap.size, 0, none⟩), .pointer (some ⟨w.heap.size + 1, 0, none⟩)]) ∧
      (w.alloc (.cells #[.slice a L cap] 31)).alloc (.cells #[.int .i64 z] 3) = w' := by
  have d0 : decide ((z : Int) < 1) = false := by simp; omega
  go_enter Tryd.func27, Tryd.ntmps27
  go_wp2
  go_ret
  exact ⟨rfl, rfl⟩

set_option maxRecDepth 100000 in
set_option maxHeartbeats 4000000 in
theorem chunk1_in (n : Nat) (hn : 1 ≤ n) (l' Bs Bz n₀ : Nat) (a : Option Addr) (b off L cap z : Nat) (ha : 0 < L → a = some ⟨b, off, none⟩) (hz : 1 ≤ z) (hz2 : z ≤ 100000) (hL : L ≤ cap) (hcap : L ≤ 1000000000) (J Jx : List (Fin (chunkN L z)) → World → Prop)
    (hY : ∀ pre x W, J pre W → pre.length < chunkN L z → YieldAt Fence.wide (n - 1) Tryd.prog l' #[chunkV b off L z x.1] W fun e W' =>
      (e = .returned (.bool true) ∧ J (pre ++ [x]) W' ∧ KeepC n₀ [Bs, Bz] W W') ∨ (e = .returned (.bool false) ∧ Jx (pre ++ [x]) W'))
    (W : World) (hBs : W.heap[Bs]? = some (.cells #[.slice a L cap] 31 (0, 0))) (hBz : W.heap[Bz]? = some (.cells #[.int .i64 z] 3 (0, 0))) (h0 : J [] W) (hJd : ∀ pre W m, J pre W → J pre (W.drewN m)) :
    CallsIn Fence.wide n Tryd.prog 45 #[.func (.yield l') #[] #[], .pointer (some ⟨Bs, 0, none⟩), .pointer (some ⟨Bz, 0, none⟩)] W fun e W' => (∃ v, e = .returned v) ∧
      ((∃ ys, ys.map Fin.val = List.range (chunkN L z) ∧ J ys W') ∨ (∃ pre, True ∧ Jx pre W')) := by
  refine callsIn_of_wp Tryd.func45 rfl trivial ?_ rfl
  simp only [Tryd.ntmps45, List.size_toArray, List.length_cons, List.length_nil, Nat.reduceAdd, Nat.reduceSub, Array.replicate_succ, Array.replicate_zero, List.push_toArray, List.append_toArray, List.nil_append, List.cons_append]
  have HBs := Lib.hid hBs
  have HBz := Lib.hid hBz
  clear hBs hBz
  gi_wp2
  gi_loopw [4, 5] (fun s4 s5 wr => ∃ (k : Nat) (pre : List (Fin (chunkN L z))), pre.map Fin.val = List.range k ∧ s4 = .int .i64 ((z * k : Nat) : Int) ∧ k ≤ chunkN L z ∧ J pre wr ∧ KeepC n₀ [Bs, Bz] W wr)
    (fun s4 _ _ => L + z - (intOf s4).toNat)
  case atStart => exact ⟨0, [], rfl, rfl, Nat.zero_le _, h0, KeepC.refl _ _ _⟩
  case round =>
    obtain ⟨k, pre, hpre, rfl, hk, hJ, hkc⟩ := hrel
    have hb1 := hkc.2 Bs (by simp) _ HBs.out rfl
    have hb2 := hkc.2 Bz (by simp) _ HBz.out rfl
    have c1 : wr.cell? ⟨Bs, 0, none⟩ = some (.slice a L cap) := by simp [World.cell?, hb1]
    have c2 : wr.cell? ⟨Bz, 0, none⟩ = some (.int .i64 z) := by simp [World.cell?, hb2]
    obtain ⟨p, hp⟩ : ∃ p, z * k = p := ⟨_, rfl⟩
    by_cases hlt : p < L
    · obtain rfl := ha (by omega)
      clear ha
      have hkN : k < chunkN L z := chunkN_ge hz (by omega)
      obtain ⟨e, he⟩ : ∃ e, min z (L - p) = e := ⟨_, rfl⟩
      have hif1 : (if L - p < z then ((L - p : Nat) : Int) else (z : Int)) = (e : Int) := by split <;> omega
      obtain ⟨sa, hsa, hsub⟩ := sub_run elem_bytes size_bytes (some ⟨b, off, none⟩) L cap p (p + e) (p + e) (by omega) (by omega) (by omega)
      have hsub2 : ∀ W, (Instr.slice 31 (.slice (some ⟨b, off, none⟩) L cap) (some (.int .i64 (p : Int))) (some (.int .i64 ((p : Int) + (e : Int)))) (some (.int .i64 ((p : Int) + (e : Int))))).run Tryd.prog W = .ok (.slice (some ⟨b, off + p, none⟩) e e) W := fun W => by
        have h1 := hsub .i64 .i64 .i64 W
        rw [show p + e - p = e by omega, hsa, if_neg (by omega)] at h1
        simpa [add_none] using h1
      have hcv : chunkV b off L z k = .slice (some ⟨b, off + p, none⟩) e e := by rw [chunkV, hp, he]
      have hpz : z * (k + 1) = p + z := by rw [Nat.mul_succ, hp]
      have HPZ := Lib.hid hpz
      have HPR : Hid ((pre ++ [(⟨k, hkN⟩ : Fin (chunkN L z))]).map Fin.val = List.range (k + 1)) := Lib.hid (by rw [List.map_append, hpre, List.range_succ]; rfl)
      have HPL : Hid (pre.length < chunkN L z) := Lib.hid (by
        have := congrArg List.length hpre
        simp at this; omega)
      have HCV := Lib.hid hcv
      have hpe : p + e ≤ 1000000000 := by omega
      have hpz1 : p + z ≤ 1000200000 := by omega
      clear hpz hsa hcv he hpre hb1 hb2 hsub
      rw [hp]
      clear hp
      gi_wp2
      refine wpIn_wide.2 ?_
      go_quiet (fail)
      obtain ⟨fn, tmps, assign, body, hy, hR⟩ := hY pre ⟨k, hkN⟩ (wr.drewN nq) (hJd _ _ _ hJ) HPL.out
      rw [HCV.out] at hy
      clear hif1
      gi_wp2
      refine hR.mono ?_
      rintro e W3 (⟨rfl, hJ3, hk3⟩ | ⟨rfl, hJx3⟩)
      · have hk4 := keepC_t (hkc.drewN nq) hk3
        have hb3 := hk4.2 Bz (by simp) _ HBz.out rfl
        have c3 : W3.cell? ⟨Bz, 0, none⟩ = some (.int .i64 z) := by simp [World.cell?, hb3]
        clear hb3
        gi_wp2
        go_roundw
        case rel => exact ⟨k + 1, _, HPR.out, by rw [HPZ.out]; go_num, hkN, hJ3, hk4⟩
        case measure => simp [intOf]; omega
      · gi_wp2
        refine bodyPost_ret (results_none rfl _ _ _) rfl ?_
        exact ⟨⟨_, rfl⟩, .inr ⟨_, trivial, hJx3⟩⟩
    · have hkN : k = chunkN L z := by
        by_cases h : k < chunkN L z
        · have := chunkN_lt hz h; omega
        · omega
      subst hkN
      rw [hp]
      clear hp hkc
      have HPR := Lib.hid hpre
      clear hpre
      gi_wp2
      go_end0
      exact ⟨⟨_, rfl⟩, .inl ⟨_, HPR.out, hJ⟩⟩

theorem chunk_stops (n : Nat) (hn : 1 ≤ n) (Bs Bz n₀ : Nat) (a : Option Addr) (b off L cap z : Nat) (ha : 0 < L → a = some ⟨b, off, none⟩) (hz : 1 ≤ z) (hz2 : z ≤ 100000) (hL : L ≤ cap) (hcap : L ≤ 1000000000) (w : World)
    (hBs : w.heap[Bs]? = some (.cells #[.slice a L cap] 31 (0, 0))) (hBz : w.heap[Bz]? = some (.cells #[.int .i64 z] 3 (0, 0))) :
    SeqStopsK Fence.wide n Tryd.prog 45 #[.pointer (some ⟨Bs, 0, none⟩), .pointer (some ⟨Bz, 0, none⟩)] (fun x : Fin (chunkN L z) => #[chunkV b off L z x.1]) (KeepC n₀ [Bs, Bz])
      (fun ys => ys.map Fin.val = List.range (chunkN L z)) (fun _ => True) (chunkN L z) w := fun l' J Jx W hW hA _ hY h0 => by
  have h1 := (hW.block Bs (Array.getElem?_eq_some_iff.1 hBs).1).trans hBs
  have h2 := (hW.block Bz (Array.getElem?_eq_some_iff.1 hBz).1).trans hBz
  exact chunk1_in n hn l' Bs Bz n₀ a b off L cap z ha hz hz2 hL hcap J Jx (fun pre x W1 g1 g2 => hY pre x W1 g1 g2) W h1 h2 h0 (fun pre X m hX => hA pre X (X.drewN m) none hX ⟨rfl, rfl, rfl, Nat.le_refl _, fun _ _ _ => rfl⟩ (fun r e => by cases e))
end Go.Proofs.YtfidfbgplfjakaaDoor

/- Operations whose run is known, inside a region that draws. -/
namespace Go.Proofs.YtfidfbgplfjakaaDoor
open Go.RowKit

section
variable {P : Program}
theorem step_make_run {ops : Array Oper} {o : Oper} {a : Act} {w : World} {K : Act → World → Prop} {Q : Exit → Act → World → Prop} {E : Prop} (hgd : o.guard = none) (t : TypeId) (x y : Operand) (ho : o.op = .makeSlice t x y) {v u r : Value} {w' : World} (hx : a.eval x = v) (hy : a.eval y = u)
    (hr : (Instr.makeSlice t v u).run P w = .ok r w') (h : K (a.put o.dst r) w') : if Region.wanted o (yielded ops a.tmps) = true then Oper.wp P o a w K Q else E := by
  have hw : Region.wanted o (yielded ops a.tmps) = true := by simp [Region.wanted, hgd]
  rw [if_pos hw]
  unfold Oper.wp execOp
  simp only [ho, Sem.run_bind, Sem.run_pure, Result.andThen_ok, hx, hy, hr]
  exact h
theorem step_convert_run {ops : Array Oper} {o : Oper} {a : Act} {w : World} {K : Act → World → Prop} {Q : Exit → Act → World → Prop} {E : Prop} (hgd : o.guard = none) (s t : TypeId) (x : Operand) (ho : o.op = .convert s t x) {v r : Value} {w' : World} (hx : a.eval x = v)
    (hr : (convert s t v).run P w = .ok r w') (h : K (a.put o.dst r) w') : if Region.wanted o (yielded ops a.tmps) = true then Oper.wp P o a w K Q else E := by
  have hw : Region.wanted o (yielded ops a.tmps) = true := by simp [Region.wanted, hgd]
  rw [if_pos hw]
  unfold Oper.wp execOp
  simp only [ho, Sem.run_bind, Sem.run_pure, Result.andThen_ok, hx, hr]
  exact h
end
end Go.Proofs.YtfidfbgplfjakaaDoor

/- Plain laws of pages, and conversions, shared by the chapters above. -/
namespace Go.Proofs.YtfidfbgplfjakaaDoor
open Go.RowKit

/-- '[]byte(s)': a row of its own. -/
theorem str_bytes {P : Program} (w : World) {src dst e : TypeId} (hs : P.underlying src = some .string) (hd : P.underlying dst = some (.slice e)) (he : P.underlying e = some (.int .u8)) (l : List UInt8) (hl : l.length ≤ 140737488351232) :
    ∃ c w', (convert src dst (.string (strOf l))).run P w = .ok (.slice (some ⟨w.heap.size, 0, none⟩) l.length c) w' ∧ Bs w' (some ⟨w.heap.size, 0, none⟩) l.length c l ∧ Below w.heap.size w w' := by
  have h := Lib.run_convert_string_bytes (P := P) w src dst e (strOf l) hs hd he
  rw [strOf_size] at h
  refine ⟨_, _, h, ⟨by rw [toI_length], grownCap_ge w _ 0 e, grownCap_le_maxLen w _ 0 e (by unfold maxLen; omega), (fun h => by cases h), .inr ⟨_, 0, rfl, by rw [Lib.bytesWorld_size]; omega, fun i hi => ?_⟩⟩, ?_⟩
  · have := Lib.bytesWorld_cell w e (strOf l) i (by rw [strOf_size]; exact hi)
    rw [Nat.zero_add, this, strOf_list, toI_get, List.getD_eq_getElem?_getD]
  · have e1 : (Lib.bytesWorld w e (strOf l)).os = w.os ∧ (Lib.bytesWorld w e (strOf l)).tape = w.tape ∧ (Lib.bytesWorld w e (strOf l)).output = w.output := by
      unfold Lib.bytesWorld World.freeze
      split <;> exact ⟨rfl, rfl, rfl⟩
    exact ⟨e1.1, e1.2.1, e1.2.2, by rw [Lib.bytesWorld_size]; omega, fun k hk => Lib.bytesWorld_at_old w e _ k hk⟩
theorem unpL_length (l : List UInt8) : (unpL l).length ≤ 122 := by
  unfold unpL; split
  · rw [cutS_length]; exact Nat.min_le_right _ _
  · simp
theorem packE_kind (a b : UInt8) (l : List (List UInt8)) (ha : a ≠ 0) (hb : b ≠ 0) : packE a l = packE b l := by
  simp [packE, fits, ha, hb]
theorem fits_of (kind : UInt8) (l : List (List UInt8)) (h : packE kind l = 0) : fits kind l = true := by
  unfold packE at h; split at h
  · assumption
  · simp at h
theorem page_kinds (a b : UInt8) (l : List (List UInt8)) (ha : fits a l = true) (hb : fits b l = true) : (pageOf a l == pageOf b l) = (a == b) := by
  by_cases h : a = b
  · subst h; simp
  · have : pageOf a l ≠ pageOf b l := fun e => h (by rw [← (page_back a l ha).2.1, e, (page_back b l hb).2.1])
    rw [beq_eq_false_iff_ne.2 this, beq_eq_false_iff_ne.2 h]
theorem u8_ne {a : UInt8} (h : a ≠ 0) : ((a.toNat : Int) == 0) = false := by
  have : a.toNat ≠ 0 := fun e => h (UInt8.toNat_inj.1 e)
  simpa using this
theorem u8_eq (a b : UInt8) : ((a.toNat : Int) == (b.toNat : Int)) = (a == b) := by
  by_cases h : a = b
  · subst h; simp
  · have : a.toNat ≠ b.toNat := fun e => h (UInt8.toNat_inj.1 e)
    rw [beq_eq_false_iff_ne.2 h, beq_eq_false_iff_ne.2 (show (a.toNat : Int) ≠ (b.toNat : Int) by omega)]
theorem xor1_ne (x : UInt8) : UInt8.ofNat (x.toNat ^^^ 1) ≠ x := by
  have : ∀ k : Fin 256, (k.val ^^^ 1) % 256 ≠ k.val := by decide +kernel
  intro e
  have h := congrArg UInt8.toNat e
  rw [UInt8.toNat_ofNat'] at h
  exact this ⟨x.toNat, x.toNat_lt⟩ h
theorem xor1_val (x : UInt8) : (UInt8.ofNat (x.toNat ^^^ 1)).toNat = x.toNat ^^^ 1 := by
  have e : (x.toNat ^^^ 1) < 256 := Nat.xor_lt_two_pow (n := 8) x.toNat_lt (by decide)
  rw [UInt8.toNat_ofNat', Nat.mod_eq_of_lt e]
/-- A page of which a byte was turned has a wrong sum. -/
theorem page_turned (kind : UInt8) (l : List (List UInt8)) (h : fits kind l = true) (at_ : Nat) (hat : at_ < 128) (c : UInt8) (hc : (pageOf kind l)[at_]? ≠ some c) : unpE ((pageOf kind l).set at_ c) = 12 := by
  have hfit : l.length + lens l ≤ 122 := by
    simp only [fits, Bool.and_eq_true, decide_eq_true_eq] at h; exact h.2
  have hlen := pageOf_length kind l hfit
  obtain ⟨hd, bd, hp, h4, hs⟩ : ∃ hd bd : List UInt8, pageOf kind l = hd ++ bd ∧ hd.length = 4 ∧ beVal hd = crcOf bd := by
    refine ⟨_, _, rfl, beBytes_length _ _, ?_⟩
    have hx := crcOn_lt 0 (bodyOf kind l.length l)
    rw [beVal_beBytes, Nat.mod_eq_of_lt (by exact hx)]
  rw [hp] at hc hlen ⊢
  have hne : beVal (((hd ++ bd).set at_ c).take 4) ≠ crcOf (((hd ++ bd).set at_ c).drop 4) := by
    by_cases h1 : at_ < 4
    · rw [List.set_append_left _ _ (by omega)]
      have e1 : (hd.set at_ c ++ bd).take 4 = hd.set at_ c := by
        have := List.take_left (l₁ := hd.set at_ c) (l₂ := bd); rwa [List.length_set, h4] at this
      have e2 : (hd.set at_ c ++ bd).drop 4 = bd := by
        have := List.drop_left (l₁ := hd.set at_ c) (l₂ := bd); rwa [List.length_set, h4] at this
      rw [e1, e2, ← hs]
      intro e
      have b1 := beBytes_beVal hd
      have b2 := beBytes_beVal (hd.set at_ c)
      rw [List.length_set, e, b1] at b2
      apply hc
      rw [List.getElem?_append_left (by omega), b2]
      simp [h4, h1]
    · rw [List.set_append_right _ _ (by omega), h4]
      have e1 : (hd ++ bd.set (at_ - 4) c).take 4 = hd := by
        have := List.take_left (l₁ := hd) (l₂ := bd.set (at_ - 4) c); rwa [h4] at this
      have e2 : (hd ++ bd.set (at_ - 4) c).drop 4 = bd.set (at_ - 4) c := by
        have := List.drop_left (l₁ := hd) (l₂ := bd.set (at_ - 4) c); rwa [h4] at this
      rw [e1, e2, hs]
      intro e
      have hbl : at_ - 4 < bd.length := by simp at hlen; omega
      have hbd : bd = bd.take (at_ - 4) ++ bd[at_ - 4] :: bd.drop (at_ - 4 + 1) := by simp
      rw [List.set_eq_take_append_cons_drop, if_pos hbl] at e
      conv at e => lhs; rw [hbd]
      have := crcOf_turned _ _ e
      apply hc
      rw [List.getElem?_append_right (by omega), h4, List.getElem?_eq_getElem hbl, this]
  rw [unpE, if_neg (by rw [List.length_set]; omega), if_pos hne]
theorem page_eq (kind : UInt8) (l m : List (List UInt8)) (hl : fits kind l = true) (hm : fits kind m = true) : (pageOf kind l == pageOf kind m) = (l == m) := by
  by_cases h : l = m
  · subst h; simp
  · have : pageOf kind l ≠ pageOf kind m := fun e => h (by rw [← (page_back kind l hl).2.2, e, (page_back kind m hm).2.2])
    rw [beq_eq_false_iff_ne.2 this, beq_eq_false_iff_ne.2 h]
theorem u8_of {a : Int} (h : (Lit.int .u8 a).wf = true) : ∃ k : UInt8, a = (k.toNat : Int) := ⟨UInt8.ofNat a.toNat, by
  simp [Lit.wf, IntKind.min, IntKind.max, IntKind.signed, IntKind.bits] at h
  rw [UInt8.toNat_ofNat']; omega⟩
/-- '+' on texts. -/
theorem str_add {P : Program} (a b : List UInt8) (h : a.length + b.length ≤ 9223372036854775807) (W : World) : (Op.stringOp .add (strOf a) (strOf b)).run P W = .ok (.string (strOf (a ++ b))) W := by
  rw [run_string_add_sum W _ _ (by rw [strOf_size, strOf_size]; exact h), strOf_append]
end Go.Proofs.YtfidfbgplfjakaaDoor
