/- prune.Without: the walk. -/
import Derived.Test.YtemfnjlfcemehaaTreDdq
import Derived.Test.YtemfnjlfcemehaaM9
namespace Go.Proofs.Ytemfnjlfcemehaa
open Go.RowKit

/-- How many of some keys are there, one by one. -/
def hitsL : List (List UInt8) → List (List UInt8 × Tv) → Nat
  | [], _ => 0
  | k :: r, l => (if (lookT l k).isSome then 1 else 0) + hitsL r (delL k l)
theorem hits_next : ∀ {p : List (List UInt8)} {i : Nat} {k : List UInt8} {l : List (List UInt8 × Tv)}, p[i]? = some k → hitsL (p.take (i + 1)) l = hitsL (p.take i) l + (if (lookT (delsL (p.take i) l) k).isSome then 1 else 0)
  | [], i, k, l, h => by simp at h
  | x :: r, 0, k, l, h => by
    cases h
    simp [hitsL, delsL]
  | x :: r, i + 1, k, l, h => by
    have h : r[i]? = some k := by simpa using h
    have := hits_next (l := delL x l) h
    simp only [List.take_succ_cons, hitsL, delsL, this]
    omega
theorem dels_next : ∀ {p : List (List UInt8)} {i : Nat} {k : List UInt8} {l : List (List UInt8 × Tv)}, p[i]? = some k → delsL (p.take (i + 1)) l = delL k (delsL (p.take i) l)
  | [], i, k, l, h => by simp at h
  | x :: r, 0, k, l, h => by
    cases h
    simp [delsL]
  | x :: r, i + 1, k, l, h => by
    have h : r[i]? = some k := by simpa using h
    have := dels_next (l := delL x l) h
    simp only [List.take_succ_cons, delsL, this]
/-- A tree that is left without some keys. -/
def WithoutTo (F : Nat → Prop) (n : Nat) (w : World) (t : Tr) (ks : List (List UInt8)) (e : Ending) (w' : World) : Prop :=
  ∃ m T p lf a1 n1 c1 a2 n2 c2 a3 n3 c3, m ≤ n + ks.length ∧ e = .returned (.tuple #[.agg #[.int .i64 p, .bool lf, .slice a1 n1 c1, .slice a2 n2 c2, .slice a3 n3 c3], .int .i64 (hitsL ks (entsT n t) : Int)]) ∧
    NodeOn (Fr F w) m w' [.int .i64 p, .bool lf, .slice a1 n1 c1, .slice a2 n2 c2, .slice a3 n3 c3] T ∧ Whole m T ∧ entsT m T = delsL ks (entsT n t) ∧ ((∀ k ∈ ks, lookT (entsT n t) k = none) → m = n ∧ T = t) ∧ Below w.heap.size w w'
theorem delW_same {n : Nat} {t : Tr} {key : List UInt8} (hw : Whole n t) (h : lookT (entsT n t) key = none) : delW n t key = t := by
  unfold delW
  rw [if_pos (by rw [whole_find hw]; exact h)]
theorem whole_level {m n : Nat} {t : Tr} (h : Whole m t) (g : Whole n t) : m = n := by
  have : ∀ {m n : Nat} {lo hi lo' hi' : List UInt8} {t : Tr}, Shape m lo hi t → Shape n lo' hi' t → m = n := by
    intro m
    induction m with
    | zero => intro n lo hi lo' hi' t h; exact h.elim
    | succ m ih =>
      intro n lo hi lo' hi' t h g
      cases n with
      | zero => exact g.elim
      | succ n =>
        cases t with
        | leaf p l => have h1 : m = 0 := h.1; have h2 : n = 0 := g.1; omega
        | node p l =>
          have hl := kids_ne (shape_kids h).1
          cases l with
          | nil => exact absurd rfl hl
          | cons c r =>
            obtain ⟨_, _, h1⟩ := kids_each (shape_kids h).1 c (by simp)
            obtain ⟨_, _, g1⟩ := kids_each (shape_kids g).1 c (by simp)
            have := ih h1.1 g1.1
            omega
  exact this h.1.1 g.1.1
set_option maxRecDepth 100000 in
set_option maxHeartbeats 2000000 in
theorem without_any {N : Nat} {F : Nat → Prop} {w : World} {cs : List Value} {t : Tr} {ka : Option Addr} {kn kc : Nat} {ks : List (List UInt8)} (h : NodeOn F N w cs t) (hw : Whole N t) (hk : KeysIn w ka kn kc ks) (h9 : ks.length ≤ 10000) :
    Calls Try.prog 54 #[.agg cs.toArray, .slice ka kn kc] w (WithoutTo F N w t ks) := by
  obtain ⟨e1, e2, e3⟩ := hk.lens
  have hlt := h.lt
  obtain ⟨a1, c1, a2, n2, c2, a3, n3, c3, ecs, _, _⟩ := h.words
  subst ecs
  obtain ⟨E, hE⟩ : ∃ E, entsT N t = E := ⟨_, rfl⟩
  obtain ⟨p, hp⟩ : ∃ x, t.page = x := ⟨_, rfl⟩
  obtain ⟨lf, hlf⟩ : ∃ x, t.isLeaf = x := ⟨_, rfl⟩
  obtain ⟨n1, hn1⟩ : ∃ x, cntT t = x := ⟨_, rfl⟩
  rw [hp, hlf, hn1] at h hlt ⊢
  clear hp hlf hn1
  have hB0 : Below w.heap.size w ((w.alloc (.cells #[.int .i64 p, .bool lf, .slice a1 n1 c1, .slice a2 n2 c2, .slice a3 n3 c3] 33)).alloc (.cells #[.int .i64 0, .bool false, .slice none 0 0, .slice none 0 0, .slice none 0 0] 33)) := Below.al (Below.al (Below.refl _ _))
  have hX0 : Boxes _ [(w.heap.size + 1, [.int .i64 0, .bool false, .slice none 0 0, .slice none 0 0, .slice none 0 0]), (w.heap.size, [.int .i64 p, .bool lf, .slice a1 n1 c1, .slice a2 n2 c2, .slice a3 n3 c3])] := (((Boxes.nil w).alloc #[.int .i64 p, .bool lf, .slice a1 n1 c1, .slice a2 n2 c2, .slice a3 n3 c3] 33 rfl).alloc #[.int .i64 0, .bool false, .slice none 0 0, .slice none 0 0, .slice none 0 0] 33 (b := w.heap.size + 1) (by simp))
  have hz0 : w.heap.size + 2 ≤ ((w.alloc (.cells #[.int .i64 p, .bool lf, .slice a1 n1 c1, .slice a2 n2 c2, .slice a3 n3 c3] 33)).alloc (.cells #[.int .i64 0, .bool false, .slice none 0 0, .slice none 0 0, .slice none 0 0] 33)).heap.size := by simp
  have HT0 : Hid (TrOn (fun x => (F x ∧ x < w.heap.size) ∨ w.heap.size + 2 ≤ x) w.heap.size _ N t) := Lib.hid ⟨p, lf, a1, n1, c1, a2, n2, c2, a3, n3, c3, hX0.sub (by simp), NodeOn.mono (fun b h => .inl h) (hlt.below hB0), hw⟩
  have HX0 := Lib.hid (hX0.sub (m := [(w.heap.size + 1, [.int .i64 0, .bool false, .slice none 0 0, .slice none 0 0, .slice none 0 0])]) (by simp))
  have HB0 := Lib.hid hB0
  have HK := Lib.hid hk
  have HL := Lib.hid e1
  have HE := Lib.hid hE
  have HW := Lib.hid hw
  have hkn : kn ≤ 10000 := by omega
  clear h hlt hB0 hX0 hk e1 hw h9
  go_enter Try.func54, Try.ntmps54
  go_wp2_with fail
  go_loopw [6, 13] (fun s6 s13 wr => ∃ (i M : Nat) (T : Tr), i ≤ kn ∧ s13 = .int .i64 i ∧ s6 = .int .i64 (hitsL (ks.take i) E : Int) ∧ hitsL (ks.take i) E ≤ i ∧ TrOn (fun x => (F x ∧ x < w.heap.size) ∨ w.heap.size + 2 ≤ x) w.heap.size wr M T ∧ M ≤ N + i ∧ entsT M T = delsL (ks.take i) E ∧ ((∀ k ∈ ks, lookT E k = none) → M = N ∧ T = t) ∧ Boxes wr [(w.heap.size + 1, [.int .i64 0, .bool false, .slice none 0 0, .slice none 0 0, .slice none 0 0])] ∧ w.heap.size + 2 ≤ wr.heap.size ∧ Below w.heap.size w wr) (fun _ s _ => kn - (intOf s).toNat)
  case atStart => exact ⟨0, N, t, Nat.zero_le _, rfl, rfl, Nat.le_refl _, HT0.out, Nat.le_refl _, HE.out, fun _ => ⟨rfl, rfl⟩, HX0.out, hz0, HB0.out⟩
  case round =>
    clear HT0 HX0 HB0 hz0
    obtain ⟨i, M, T, hi, rfl, rfl, hhi, htr, hM, hen, hsame, hx0, hzr, hb⟩ := hrel
    obtain ⟨H, hH⟩ : ∃ H, hitsL (ks.take i) E = H := ⟨_, rfl⟩
    rw [hH] at hhi ⊢
    unfold TrOn at htr
    obtain ⟨p', lf', b1, m1, d1, b2, m2, d2, b3, m3, d3, hx, hn, hwT⟩ := htr
    have q0 := hx.cell 0 0 rfl rfl
    have q1 := hx.cell 0 1 rfl rfl
    have q2 := hx.cell 0 2 rfl rfl
    have q3 := hx.cell 0 3 rfl rfl
    have q4 := hx.cell 0 4 rfl rfl
    by_cases hlt : i < kn
    · obtain ⟨bk, ok, rfl, hbk, hck⟩ := HK.out.at hlt
      have hkin : i < ks.length := by rw [HL.out]; exact hlt
      obtain ⟨k, hk⟩ : ∃ k, ks[i]? = some k := ⟨_, List.getElem?_eq_getElem hkin⟩
      rw [hk] at hck
      have k0 := (hb.cell (p := ⟨bk, ok + i, none⟩) hbk).trans hck
      have CD := pdel_any k hn hwT
      have hhn := hits_next (l := E) hk
      have hdn := dels_next (l := E) hk
      rw [hH, ← hen] at hhn
      rw [← hen] at hdn
      have HKI := Lib.hid hk
      have HHN := Lib.hid hhn
      have HDN := Lib.hid hdn
      have HXR := Lib.hid hx
      have HX0 := Lib.hid hx0
      have HB := Lib.hid hb
      have HNR := Lib.hid hn
      have HWT := Lib.hid hwT
      have HSM := Lib.hid hsame
      have HH := Lib.hid hH
      simp only [Option.getD_some] at k0
      clear hck hk hhn hdn hx hx0 hb hn hwT hsame hen hH
      go_wp2_with fail
      refine CD.mono ?_
      rintro e w2 ⟨m9, p9, lf9, g1, i1, f1, g2, i2, f2, g3, i3, f3, hm9, rfl, hn9, hw9, he9, hb9⟩
      have hX2 := HXR.out.step hb9
      have hal : Below w2.heap.size w2 (w2.alloc (.cells #[.int .i64 p9, .bool lf9, .slice g1 i1 f1, .slice g2 i2 f2, .slice g3 i3 f3] 33)) := Below.al (Below.refl _ _)
      have hx9 := (Boxes.nil w2).alloc #[.int .i64 p9, .bool lf9, .slice g1 i1 f1, .slice g2 i2 f2, .slice g3 i3 f3] 33 (b := w2.heap.size) rfl
      have hr2 : Below wr.heap.size wr (w2.alloc (.cells #[.int .i64 p9, .bool lf9, .slice g1 i1 f1, .slice g2 i2 f2, .slice g3 i3 f3] 33)) := hb9.trans (hal.mono hb9.size)
      have hn9' := hn9.below hal
      obtain ⟨w3, hw3⟩ : ∃ x, w2.alloc (.cells #[.int .i64 p9, .bool lf9, .slice g1 i1 f1, .slice g2 i2 f2, .slice g3 i3 f3] 33) = x := ⟨_, rfl⟩
      rw [hw3] at hx9 hr2 hn9'
      have hXr := HXR.out.step hr2
      have hX0r := HX0.out.step hr2
      have hB3 := HB.out.trans (hr2.mono HB.out.size)
      have hz3 : w.heap.size + 2 ≤ w3.heap.size := Nat.le_trans hzr hr2.size
      have hlook : lookT (entsT M T) k = none → delW M T k = T := fun h => delW_same HWT.out h
      obtain ⟨o, ho⟩ : ∃ o, (lookT (entsT M T) k).isSome = o := ⟨_, rfl⟩
      rw [ho] at HHN ⊢
      clear CD q0 q1 q2 q3 q4 k0 hn9 hal
      have q0 := hx9.cell 0 0 rfl rfl
      have q1 := hx9.cell 0 1 rfl rfl
      have q2 := hx9.cell 0 2 rfl rfl
      have q3 := hx9.cell 0 3 rfl rfl
      have q4 := hx9.cell 0 4 rfl rfl
      cases o with
      | true =>
        have HXE := Lib.hid hX0r
        have hGb : ∀ b, Fr (fun x => (F x ∧ x < w.heap.size) ∨ w.heap.size + 2 ≤ x) wr b → (F b ∧ b < w.heap.size) ∨ w.heap.size + 2 ≤ b := fun b h => by rcases h with h | h; exact h; exact .inr (by omega)
        have hne : ¬ ((F w.heap.size ∧ w.heap.size < w.heap.size) ∨ w.heap.size + 2 ≤ w.heap.size) := by omega
        have HTR : Hid (TrOn (fun x => (F x ∧ x < w.heap.size) ∨ w.heap.size + 2 ≤ x) w.heap.size (set5 w3 w.heap.size (.int .i64 p9) (.bool lf9) (.slice g1 i1 f1) (.slice g2 i2 f2) (.slice g3 i3 f3)) m9 (delW M T k)) := Lib.hid ⟨p9, lf9, g1, i1, f1, g2, i2, f2, g3, i3, f3, set5_box hXr (by simp) _ _ _ _ _, (NodeOn.mono hGb hn9').agree (agree_set5 hne _ _ _ _ _), hw9⟩
        have HXE' : Hid (Boxes (set5 w3 w.heap.size (.int .i64 p9) (.bool lf9) (.slice g1 i1 f1) (.slice g2 i2 f2) (.slice g3 i3 f3)) [(w.heap.size + 1, [.int .i64 0, .bool false, .slice none 0 0, .slice none 0 0, .slice none 0 0])]) := Lib.hid (hX0r.agree (F := fun b => b ≠ w.heap.size) (agree_set5 (by simp) _ _ _ _ _) (by intro p hp; simp at hp; subst hp; simp))
        have HBE : Hid (Below w.heap.size w (set5 w3 w.heap.size (.int .i64 p9) (.bool lf9) (.slice g1 i1 f1) (.slice g2 i2 f2) (.slice g3 i3 f3))) := Lib.hid (set5_below hB3 (Nat.le_refl _) _ _ _ _ _)
        have HZE : Hid (w.heap.size + 2 ≤ (set5 w3 w.heap.size (.int .i64 p9) (.bool lf9) (.slice g1 i1 f1) (.slice g2 i2 f2) (.slice g3 i3 f3)).heap.size) := Lib.hid (by unfold set5; simpa using hz3)
        have HNS : Hid ((∀ k ∈ ks, lookT E k = none) → m9 = N ∧ delW M T k = t) := Lib.hid (fun hall => by
          obtain ⟨_, rfl⟩ := HSM.out hall
          have : (lookT E k).isSome = true := by
            have hEE : entsT M T = E := by
              obtain ⟨h1, _⟩ := HSM.out hall
              rw [h1, HE.out]
            rw [← hEE]; exact ho
          rw [hall k (List.mem_of_getElem? HKI.out)] at this
          cases this)
        unfold set5 at HTR HXE' HBE HZE
        have HHE : Hid (hitsL (ks.take (i + 1)) E = H + 1) := Lib.hid (by rw [HHN.out]; rfl)
        have z0 := hXr.cell 0 0 rfl rfl
        have z1 := hXr.cell 0 1 rfl rfl
        have z2 := hXr.cell 0 2 rfl rfl
        have z3 := hXr.cell 0 3 rfl rfl
        have z4 := hXr.cell 0 4 rfl rfl
        have u0 := hXr.frozen 0 0 rfl
        have u1 := hXr.frozen 0 1 rfl
        have u2 := hXr.frozen 0 2 rfl
        have u3 := hXr.frozen 0 3 rfl
        have u4 := hXr.frozen 0 4 rfl
        clear hX2 hx9 hr2 hn9' hXr hX0r hB3 hz3 hlook ho hb9 hw9 hGb hne
        go_wp2_with fail
        try rw [hw3]
        try go_wp2_with fail
        go_roundw
        case rel => exact ⟨i + 1, m9, _, hlt, by go_num, by rw [HHE.out]; go_num, by rw [HHE.out]; omega, HTR.out, by omega, by rw [he9, HDN.out], HNS.out, HXE'.out, HZE.out, HBE.out⟩
        case measure => simp [intOf]; omega
      | false =>
        have hnone : lookT (entsT M T) k = none := by
          cases hx : lookT (entsT M T) k with
          | none => rfl
          | some r => rw [hx] at ho; cases ho
        have HTR : Hid (TrOn (fun x => (F x ∧ x < w.heap.size) ∨ w.heap.size + 2 ≤ x) w.heap.size w3 M T) := Lib.hid ⟨p', lf', b1, m1, d1, b2, m2, d2, b3, m3, d3, hXr, HNR.out.below hr2, HWT.out⟩
        have HDE : Hid (entsT M T = delsL (ks.take (i + 1)) E) := Lib.hid (by rw [HDN.out, delL_none (fun c hc => look_not hnone c hc)])
        have HXE := Lib.hid hX0r
        have HBE := Lib.hid hB3
        have HHE : Hid (hitsL (ks.take (i + 1)) E = H) := Lib.hid (by rw [HHN.out]; rfl)
        clear hX2 hx9 hr2 hn9' hXr hX0r hB3 hlook ho hb9 hw9 hnone he9
        go_wp2_with fail
        try rw [hw3]
        try go_wp2_with fail
        go_roundw
        case rel => exact ⟨i + 1, M, T, hlt, by go_num, by rw [HHE.out], by rw [HHE.out]; omega, HTR.out, by omega, HDE.out, HSM.out, HXE.out, hz3, HBE.out⟩
        case measure => simp [intOf]; omega
    · obtain rfl : i = kn := by omega
      have htk : ks.take i = ks := List.take_of_length_le (by rw [HL.out]; exact Nat.le_refl _)
      rw [htk] at hen hH
      have hne : ¬ ((F (w.heap.size + 1) ∧ w.heap.size + 1 < w.heap.size) ∨ w.heap.size + 2 ≤ w.heap.size + 1) := by omega
      have hend : WithoutTo F N w t ks (.returned (.tuple #[.agg #[.int .i64 p', .bool lf', .slice b1 m1 d1, .slice b2 m2 d2, .slice b3 m3 d3], .int .i64 (H : Int)])) (set5 wr (w.heap.size + 1) (.int .i64 p') (.bool lf') (.slice b1 m1 d1) (.slice b2 m2 d2) (.slice b3 m3 d3)) :=
        ⟨M, T, p', lf', b1, m1, d1, b2, m2, d2, b3, m3, d3, by rw [HL.out]; exact hM, by rw [HE.out, hH], NodeOn.mono (fun b h => by rcases h with h | h; exact .inl h.1; exact .inr (by omega)) (hn.agree (agree_set5 hne _ _ _ _ _)), hwT, by rw [HE.out]; exact hen, by rw [HE.out]; exact hsame, set5_below hb (by omega) _ _ _ _ _⟩
      have hxe := set5_box hx0 (by simp) (.int .i64 p') (.bool lf') (.slice b1 m1 d1) (.slice b2 m2 d2) (.slice b3 m3 d3)
      have t0 := hxe.cell 0 0 rfl rfl
      have t1 := hxe.cell 0 1 rfl rfl
      have t2 := hxe.cell 0 2 rfl rfl
      have t3 := hxe.cell 0 3 rfl rfl
      have t4 := hxe.cell 0 4 rfl rfl
      have fin := Lib.hid hend
      unfold set5 at t0 t1 t2 t3 t4
      have z0 := hx0.cell 0 0 rfl rfl
      have z1 := hx0.cell 0 1 rfl rfl
      have z2 := hx0.cell 0 2 rfl rfl
      have z3 := hx0.cell 0 3 rfl rfl
      have z4 := hx0.cell 0 4 rfl rfl
      have u0 := hx0.frozen 0 0 rfl
      have u1 := hx0.frozen 0 1 rfl
      have u2 := hx0.frozen 0 2 rfl
      have u3 := hx0.frozen 0 3 rfl
      have u4 := hx0.frozen 0 4 rfl
      clear hend hxe hx hx0 hn hwT hsame hen hH hne htk hb
      go_wp2_with fail
      refine bodyPost_ret (v := .tuple #[.agg #[.int .i64 p', .bool lf', .slice b1 m1 d1, .slice b2 m2 d2, .slice b3 m3 d3], .int .i64 (H : Int)]) (by simp [results, Try.results54, go_sem, t0, t1, t2, t3, t4]) rfl ?_
      exact fin.out
end Go.Proofs.Ytemfnjlfcemehaa
