/- The walks of the chapter on nodes: what is behind a key, taken. -/
import Derived.Test.YtjdepdgoaopfoaaDoorNodC
import Derived.Test.YtjdepdgoaopfoaaDoorOctM
namespace Go.Proofs.YtjdepdgoaopfoaaDoor
open Go.RowKit

/-- A value, or an errno. -/
def TakeVal (o : Option Vv) (u : Value) : Prop :=
  match o with
  | some v => u = .iface 74 (vv v)
  | none => ∃ x : Int, u = .iface 27 (.int .i64 x)
def TakePost (w : World) (t : Nat) (o : Option Vv) (e : Ending) (w' : World) : Prop := ∃ u s', e = .returned u ∧ TakeVal o u ∧ w.grownBy w' (some t) ∧ Tk w' t s'
theorem grown_step {a b c : World} {t : Nat} (h : a.grownBy b (some t)) (hb : Below b.heap.size b c) : a.grownBy c (some t) := grown_trans h (grown_below hb (some t))

set_option maxRecDepth 100000 in
set_option maxHeartbeats 4000000 in
theorem takeB_any (t : Nat) (s : TSt) (w : World) (h : Tk w t s) (hreach : s.l.length ≤ 140737488351232) :
    Calls Tryd.prog 115 #[.agg #[], .pointer (some ⟨t, 0, none⟩)] w (TakePost w t (decV false s)) := by
  have hB := below_one w (.cells #[] 142)
  have h1 := h.below (Nat.le_refl _) hB
  have hC := tNum_any t s 2 _ h1 hreach
  have hdec : decV false s = if tDone (tNum s 2).2 = 0 then some ⟨[], false, 0, ((tNum s 2).1 : Int)⟩ else none := rfl
  rw [hdec]
  have hlt : (tNum s 2).1 < 65536 := tNum_lt s 2
  obtain ⟨n, s1, hs⟩ : ∃ n s1, tNum s 2 = (n, s1) := ⟨_, _, rfl⟩
  rw [hs] at hC hlt ⊢
  clear hs hdec
  have hn : n < 65536 := hlt
  clear hlt
  dsimp only at hC ⊢
  have D := fun W (h : Tk W t s1) => tDone_any t s1 W h
  generalize tDone s1 = d at *
  have hn8 : ((n : Nat) : Int) < 65536 := by omega
  obtain ⟨o, ho⟩ : ∃ o, o = (if d = 0 then some (⟨[], false, 0, (n : Int)⟩ : Vv) else none) := ⟨_, rfl⟩
  rw [← ho]
  have HO := Lib.hid ho
  clear ho
  go_enter Tryd.func115, Tryd.ntmps115
  go_wp2_with fail
  refine hC.mono ?_
  rintro e w2 ⟨v2, rfl, rfl, hg2, htk2⟩
  have hg := grown_trans (grown_below hB (some t)) hg2
  go_wp2_with fail
  have hB3 := below_one w2 (.cells #[.string ⟨#[]⟩, .bool false, .int .i64 0, .int .i64 (n : Int)] 74)
  have BX := (Boxes.nil w2).alloc #[.string ⟨#[]⟩, .bool false, .int .i64 0, .int .i64 (n : Int)] 74 rfl
  have htk3 := htk2.below (Nat.le_refl _) hB3
  have hg3 := grown_step hg hB3
  refine (D _ htk3).mono ?_
  rintro e w4 ⟨rfl, rfl⟩
  by_cases hd : d = 0
  · subst hd
    have hov : o = some ⟨[], false, 0, (n : Int)⟩ := HO.out
    go_wp2_with fail
    go_ret
    exact ⟨_, s1, rfl, by rw [hov]; rfl, hg3, htk3⟩
  · have hd2 : (d != 0) = true := by simpa using hd
    have hov : o = none := by rw [HO.out, if_neg hd]
    have HV := Lib.hid hov
    clear hov
    go_wp2_with fail
    go_ret
    exact ⟨_, s1, rfl, by rw [HV.out]; exact ⟨d, rfl⟩, hg3, htk3⟩

/-- A taker stays when a box without bytes is written. -/
theorem Tk.boxed {w w' : World} {t b : Nat} {s : TSt} {vs : List Value} {l : List (Nat × List Value)} (h : Tk w t s) (hx : Boxes w l) (n : Nat) (hn : l[n]? = some (b, vs)) (hv : ∀ (i : Nat) (x : Int), vs[i]? ≠ some (.int .u8 x)) (hne : t ≠ b) (hg : w.grownBy w' (some b)) : Tk w' t s := by
  refine h.grown hg (fun e => by cases e; exact hne rfl) (fun a k m b' off hc hl ha hb => ?_)
  cases hb
  obtain ⟨a2, cap2, q1, q2⟩ := h
  rw [hc] at q1
  cases q1
  obtain ⟨b3, off3, e1, _, hcell⟩ := q2.cell (k := 0) (by omega)
  rw [ha] at e1
  cases e1
  have h0 := hcell 0 (by omega)
  obtain ⟨ty, hty⟩ := hx (b, vs) (List.mem_of_getElem? hn)
  simp only [World.cell?, hty, Nat.add_zero] at h0
  exact hv off _ (by simpa using h0)
theorem grown_new {a b : World} {t : Nat} (h : a.grownBy b (some t)) (p : Addr) (hp : a.heap.size ≤ p.block) (u : Value) : a.grownBy (b.setCell p u) (some t) :=
  ⟨h.os, h.tape, h.output, by simpa [World.setCell] using h.size, fun i hi hne => (Below.heap_setCell b p u i (by intro e; omega)).trans (h.block i hi hne)⟩
theorem decV_leaf (s : TSt) : decV true s = if (tNum s 1).1 = 0 then (if tDone (tRest (tNum s 1).2).2 = 0 then some ⟨(tRest (tNum s 1).2).1, false, 0, 0⟩ else none)
    else if (tNum s 1).1 = 1 then (if tDone (tNum (tNum (tNum s 1).2 2).2 2).2 = 0 then some ⟨[], true, ((tNum (tNum s 1).2 2).1 : Int), ((tNum (tNum (tNum s 1).2 2).2 2).1 : Int)⟩ else none)
    else none := rfl
set_option maxRecDepth 100000 in
set_option maxHeartbeats 4000000 in
theorem takeL_near (t : Nat) (s : TSt) (w : World) (h : Tk w t s) (hreach : s.l.length ≤ 140737488351232) (h0 : (tNum s 1).1 = 0) :
    Calls Tryd.prog 106 #[.agg #[], .pointer (some ⟨t, 0, none⟩)] w (TakePost w t (decV true s)) := by
  have htl := h.lt
  have hB := below_one w (.cells #[] 125)
  have hB2 := below_two' w (.cells #[] 125) (.cells #[.string ⟨#[]⟩, .bool false, .int .i64 0, .int .i64 0] 74)
  have h1 := h.below (Nat.le_refl _) hB2
  have hC := tNum_any t s 1 _ h1 hreach
  have hl1 := tNum_len s 1
  rw [decV_leaf, if_pos h0]
  rw [h0] at hC
  generalize (tNum s 1).2 = s1 at *
  have R := fun W (h : Tk W t s1) => tRest_any t s1 W h (by omega)
  generalize (tRest s1).1 = r at *
  generalize (tRest s1).2 = s2 at *
  have D := fun W (h : Tk W t s2) => tDone_any t s2 W h
  generalize tDone s2 = d at *
  obtain ⟨o, ho⟩ : ∃ o, o = (if d = 0 then some (⟨r, false, 0, 0⟩ : Vv) else none) := ⟨_, rfl⟩
  rw [← ho]
  have HO := Lib.hid ho
  have BX := ((Boxes.nil w).alloc #[] 125 rfl).alloc #[.string ⟨#[]⟩, .bool false, .int .i64 0, .int .i64 0] 74 (by simp : _ = w.heap.size + 1)
  clear ho h0 hl1
  go_enter Tryd.func106, Tryd.ntmps106
  go_wp2_with fail
  refine hC.mono ?_
  rintro e w2 ⟨v2, rfl, rfl, hg2, htk2⟩
  have hne : ∀ p ∈ [(w.heap.size + 1, ([.string ⟨#[]⟩, .bool false, .int .i64 0, .int .i64 0] : List Value)), (w.heap.size, [])], (some t : Option Nat) ≠ some p.1 := by intro p hp; simp at hp; rcases hp with rfl | rfl <;> simp <;> omega
  have BX := BX.grown hg2 hne
  have hga := grown_trans (grown_below hB2 (some t)) hg2
  go_wp2_with fail
  refine (R _ htk2).mono ?_
  rintro e w3 ⟨v3, rfl, ho3, hg3, htk3⟩
  obtain ⟨a3, k3, rfl, hs3⟩ := Bs.of_own ho3
  have BX := BX.grown hg3 hne
  have hgb := grown_trans hga hg3
  have hcv := conv_string Tryd.underlying26 Tryd.underlying5 Tryd.underlying9 hs3
  have z0 := BX.cell 0 0 rfl rfl
  have y0 := BX.frozen 0 0 rfl
  have htk4 := htk3.boxed BX 0 rfl (by intro i x; match i with | 0 => simp | 1 => simp | 2 => simp | 3 => simp | i + 4 => simp) (by omega) (grown_setCell w3 ⟨w.heap.size + 1, 0, none⟩ (.string (strOf r)))
  have BY := BX.put 0 (.string (strOf r)) (by intro p hp; simp at hp; subst hp; simp)
  go_wp2_with fail
  have hgc := grown_new hgb ⟨w.heap.size + 1, 0, none⟩ (by simp) (.string (strOf r))
  refine (D _ htk4).mono ?_
  rintro e w4 ⟨rfl, rfl⟩
  have g0 := BY.cell 0 0 rfl rfl
  have g1 := BY.cell 0 1 rfl rfl
  have g2 := BY.cell 0 2 rfl rfl
  have g3 := BY.cell 0 3 rfl rfl
  clear z0 y0 hcv hs3 ho3
  by_cases hd : d = 0
  · subst hd
    have HV : Hid (o = some ⟨r, false, 0, 0⟩) := Lib.hid HO.out
    go_wp2_with fail
    go_ret
    exact ⟨_, s2, rfl, by rw [HV.out]; rfl, hgc, htk4⟩
  · have hd2 : (d != 0) = true := by simpa using hd
    have HV : Hid (o = none) := Lib.hid (by rw [HO.out, if_neg hd])
    go_wp2_with fail
    go_ret
    exact ⟨_, s2, rfl, by rw [HV.out]; exact ⟨d, rfl⟩, hgc, htk4⟩

set_option maxRecDepth 100000 in
set_option maxHeartbeats 4000000 in
theorem takeL_bad (t : Nat) (s : TSt) (w : World) (h : Tk w t s) (hreach : s.l.length ≤ 140737488351232) (h0 : (tNum s 1).1 ≠ 0) (h1' : (tNum s 1).1 ≠ 1) :
    Calls Tryd.prog 106 #[.agg #[], .pointer (some ⟨t, 0, none⟩)] w (TakePost w t (decV true s)) := by
  have hB2 := below_two' w (.cells #[] 125) (.cells #[.string ⟨#[]⟩, .bool false, .int .i64 0, .int .i64 0] 74)
  have h1 := h.below (Nat.le_refl _) hB2
  have hC := tNum_any t s 1 _ h1 hreach
  rw [decV_leaf, if_neg h0, if_neg h1']
  generalize (tNum s 1).1 = n at *
  generalize (tNum s 1).2 = s1 at *
  have q0 : ((n : Int) == 0) = false := by simp; omega
  have q1 : ((n : Int) == 1) = false := by simp; omega
  have HB := Lib.hid hB2
  clear h0 h1' hB2
  go_enter Tryd.func106, Tryd.ntmps106
  go_wp2_with fail
  refine hC.mono ?_
  rintro e w2 ⟨v2, rfl, rfl, hg2, htk2⟩
  have hga := grown_trans (grown_below HB.out (some t)) hg2
  go_wp2_with fail
  go_ret
  exact ⟨_, s1, rfl, ⟨11, rfl⟩, hga, htk2⟩
set_option maxRecDepth 100000 in
set_option maxHeartbeats 4000000 in
theorem takeL_far (t : Nat) (s : TSt) (w : World) (h : Tk w t s) (hreach : s.l.length ≤ 140737488351232) (h1' : (tNum s 1).1 = 1) :
    Calls Tryd.prog 106 #[.agg #[], .pointer (some ⟨t, 0, none⟩)] w (TakePost w t (decV true s)) := by
  have htl := h.lt
  have hB2 := below_two' w (.cells #[] 125) (.cells #[.string ⟨#[]⟩, .bool false, .int .i64 0, .int .i64 0] 74)
  have h1 := h.below (Nat.le_refl _) hB2
  have hC := tNum_any t s 1 _ h1 hreach
  have hl1 := tNum_len s 1
  rw [decV_leaf, if_neg (by rw [h1']; decide), if_pos h1']
  rw [h1'] at hC
  generalize (tNum s 1).2 = s1 at *
  have R := fun W (h : Tk W t s1) => tNum_any t s1 2 W h (by omega)
  have hl2 := tNum_len s1 2
  have hn2 : (tNum s1 2).1 < 65536 := tNum_lt s1 2
  generalize (tNum s1 2).1 = n2 at *
  generalize (tNum s1 2).2 = s2 at *
  have R2 := fun W (h : Tk W t s2) => tNum_any t s2 2 W h (by omega)
  have hn3 : (tNum s2 2).1 < 65536 := tNum_lt s2 2
  generalize (tNum s2 2).1 = n3 at *
  generalize (tNum s2 2).2 = s3 at *
  have D := fun W (h : Tk W t s3) => tDone_any t s3 W h
  generalize tDone s3 = d at *
  obtain ⟨o, ho⟩ : ∃ o, o = (if d = 0 then some (⟨[], true, (n2 : Int), (n3 : Int)⟩ : Vv) else none) := ⟨_, rfl⟩
  rw [← ho]
  have HO := Lib.hid ho
  have BX := ((Boxes.nil w).alloc #[] 125 rfl).alloc #[.string ⟨#[]⟩, .bool false, .int .i64 0, .int .i64 0] 74 (by simp : _ = w.heap.size + 1)
  have hc2 : ((n2 : Nat) : Int) < 65536 := by omega
  have hc3 : ((n3 : Nat) : Int) < 65536 := by omega
  have hq : ∀ p ∈ [(w.heap.size, ([] : List Value))], p.1 ≠ w.heap.size + 1 := by intro p hp; simp at hp; subst hp; simp
  have key : ∀ (W : World) (S : TSt) (vs : List Value) (i : Nat) (u : Value), Boxes W [(w.heap.size + 1, vs), (w.heap.size, [])] → Tk W t S → (∀ (i : Nat) (x : Int), vs[i]? ≠ some (.int .u8 x)) → w.grownBy W (some t) → Tk (W.setCell ⟨w.heap.size + 1, i, none⟩ u) t S ∧ Boxes (W.setCell ⟨w.heap.size + 1, i, none⟩ u) [(w.heap.size + 1, vs.set i u), (w.heap.size, [])] ∧ w.grownBy (W.setCell ⟨w.heap.size + 1, i, none⟩ u) (some t) := fun W S vs i u hb ht hv hg =>
    ⟨ht.boxed hb 0 rfl hv (by omega) (grown_setCell W ⟨w.heap.size + 1, i, none⟩ u), hb.put i u hq, grown_new hg ⟨w.heap.size + 1, i, none⟩ (by simp) u⟩
  have KEY := Lib.hid key
  clear ho h1' hl1 hl2 hn2 hn3 hq key
  go_enter Tryd.func106, Tryd.ntmps106
  go_wp2_with fail
  refine hC.mono ?_
  rintro e w2 ⟨v2, rfl, rfl, hg2, htk2⟩
  have hne : ∀ (vs : List Value), ∀ p ∈ [(w.heap.size + 1, vs), (w.heap.size, [])], (some t : Option Nat) ≠ some p.1 := by intro vs p hp; simp at hp; rcases hp with rfl | rfl <;> simp <;> omega
  have BX := BX.grown hg2 (hne _)
  have hga := grown_trans (grown_below hB2 (some t)) hg2
  have HNE := Lib.hid hne
  clear hne
  go_wp2_with fail
  refine (R _ htk2).mono ?_
  rintro e w3 ⟨v3, rfl, rfl, hg3, htk3⟩
  have BX := BX.grown hg3 (HNE.out _)
  have hgb := grown_trans hga hg3
  have z1 := BX.cell 0 1 rfl rfl
  have y1 := BX.frozen 0 1 rfl
  have z2 := BX.cell 0 2 rfl rfl
  have y2 := BX.frozen 0 2 rfl
  obtain ⟨k1, k2, k3⟩ := KEY.out _ _ _ 1 (.bool true) BX htk3 (by intro i x; match i with | 0 => simp | 1 => simp | 2 => simp | 3 => simp | i + 4 => simp) hgb
  obtain ⟨m1, m2, m3⟩ := KEY.out _ _ _ 2 (.int .i64 (n2 : Int)) k2 k1 (by intro i x; match i with | 0 => simp | 1 => simp | 2 => simp | 3 => simp | i + 4 => simp) k3
  go_wp2_with fail
  clear z1 y1 z2 y2 k1 k2 k3
  refine (R2 _ m1).mono ?_
  rintro e w4 ⟨v4, rfl, rfl, hg4, htk4⟩
  have BX := m2.grown hg4 (HNE.out _)
  have hgc := grown_trans m3 hg4
  have z3 := BX.cell 0 3 rfl rfl
  have y3 := BX.frozen 0 3 rfl
  obtain ⟨p1, p2, p3⟩ := KEY.out _ _ _ 3 (.int .i64 (n3 : Int)) BX htk4 (by intro i x; match i with | 0 => simp | 1 => simp | 2 => simp | 3 => simp | i + 4 => simp) hgc
  clear m1 m2 m3
  go_wp2_with fail
  refine (D _ p1).mono ?_
  rintro e w5 ⟨rfl, rfl⟩
  have g0 := p2.cell 0 0 rfl rfl
  have g1 := p2.cell 0 1 rfl rfl
  have g2 := p2.cell 0 2 rfl rfl
  have g3 := p2.cell 0 3 rfl rfl
  clear z3 y3
  by_cases hd : d = 0
  · subst hd
    have HV : Hid (o = some ⟨[], true, (n2 : Int), (n3 : Int)⟩) := Lib.hid HO.out
    go_wp2_with fail
    go_ret
    exact ⟨_, s3, rfl, by rw [HV.out]; rfl, p3, p1⟩
  · have hd2 : (d != 0) = true := by simpa using hd
    have HV : Hid (o = none) := Lib.hid (by rw [HO.out, if_neg hd])
    go_wp2_with fail
    go_ret
    exact ⟨_, s3, rfl, by rw [HV.out]; exact ⟨d, rfl⟩, p3, p1⟩
theorem takeL_any (t : Nat) (s : TSt) (w : World) (h : Tk w t s) (hreach : s.l.length ≤ 140737488351232) :
    Calls Tryd.prog 106 #[.agg #[], .pointer (some ⟨t, 0, none⟩)] w (TakePost w t (decV true s)) := by
  by_cases h0 : (tNum s 1).1 = 0
  · exact takeL_near t s w h hreach h0
  · by_cases h1 : (tNum s 1).1 = 1
    · exact takeL_far t s w h hreach h1
    · exact takeL_bad t s w h hreach h0 h1
end Go.Proofs.YtjdepdgoaopfoaaDoor
