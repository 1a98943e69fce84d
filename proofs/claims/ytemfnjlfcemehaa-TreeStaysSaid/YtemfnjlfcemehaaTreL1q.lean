/- The law TreeStays (printed by gen_treL1.py). -/
import Derived.Test.YtemfnjlfcemehaaM9
import Derived.Test.YtemfnjlfcemehaaTreCqq
import Derived.Deep.RegionHeld3
import Derived.Deep.QuietTactic
import Derived.BigQuiet
import Derived.Deep.DeepCutAuto
namespace Go.Proofs.Ytemfnjlfcemehaa
open Go.RowKit

set_option maxRecDepth 100000 in
set_option maxHeartbeats 4000000 in
theorem lStays {w : World} {a : Option Addr} {n c : Nat} {l : List Pt} (h : Pts w a n c l) :
    Calls Try.prog 8 #[.slice a n c] w fun e w' => e = .returned (.bool true) ∧ Below w.heap.size w w' := by
  obtain ⟨e1, e2, e3⟩ := TabR.lens h
  have HP := Lib.hid h
  have HL := Lib.hid e1
  have A := awake15_any w
  clear h e1
  go_enter Try.func8, Try.ntmps8
  go_wp2_with fail
  refine A.mono ?_
  rintro e w1 ⟨rfl, hb1⟩
  have hp1 : Pts w1 a n c l := TabR.below (Nat.le_refl _) hb1 HP.out
  clear A
  go_wp2_with fail
  refine (small15_any hp1).mono ?_
  rintro e w2 ⟨rfl, rfl⟩
  obtain ⟨S, hS⟩ : ∃ S, smallP l = S := ⟨_, rfl⟩
  rw [hS]
  cases S with
  | false =>
    have HB := Lib.hid hb1
    clear hp1 hb1 hS
    go_wp2_with fail
    go_ret
    exact ⟨rfl, HB.out⟩
  | true =>
  obtain ⟨hl80, hall⟩ := okP_facts hS
  have hn80 : n ≤ 80 := by rw [← HL.out]; exact hl80
  have HALL := Lib.hid hall
  have E := tempty_any w2 (fun _ => False)
  have HB1 := Lib.hid hb1
  clear hp1 hb1 hS hall hl80
  go_wp2_with fail
  refine E.mono ?_
  rintro e w3 ⟨cs, rfl, hn0, hb3⟩
  obtain ⟨x1, k1, x2, k2, x3, k3, ecs, hn0⟩ := empty_on (F := fun _ => False) hn0
  subst ecs
  have hbox := TrBox.new (B := w3.heap.size + 1) hn0 (fun b h => h.elim) whole_empty 33
  have hbel : Below w.heap.size w (w3.alloc (.cells #[.int .i64 0, .bool true, .slice x1 0 k1, .slice x2 0 k2, .slice x3 0 k3] 33)) := Below.al (HB1.out.trans (hb3.mono HB1.out.size))
  have HBOX := Lib.hid hbox
  have HBEL := Lib.hid hbel
  have hz3 : w.heap.size ≤ w3.heap.size := Nat.le_trans HB1.out.size hb3.size
  clear E hn0 hb3 hbox hbel
  go_wp2_with fail
  go_loopw [6] (fun s6 wr => ∃ (i N : Nat) (t : Tr), i ≤ n ∧ s6 = .int .i64 i ∧ TrBox (w3.heap.size + 1) w3.heap.size wr N t ∧ N ≤ i + 1 ∧ (entsT N t).length ≤ i ∧ Below w.heap.size w wr) (fun s _ => n - (intOf s).toNat)
  case atStart => exact ⟨0, 1, _, Nat.zero_le _, rfl, HBOX.out, Nat.le_refl _, Nat.le_refl _, HBEL.out⟩
  case round =>
    clear HBOX HBEL
    obtain ⟨i, N, t, hi, rfl, hbox, hN, hen, hb⟩ := hrel
    obtain ⟨p, lf, a1, n1, c1, a2, n2, c2, a3, n3, c3, hx, hn, hw⟩ := hbox
    by_cases hlt : i < n
    · obtain ⟨bl, ol, y, rfl, hbl, hy, c0, c1', c2'⟩ := HP.out.at hlt
      obtain ⟨hyk, sz, hsz, hsz4⟩ := HALL.out y (List.mem_of_getElem? hy)
      have hxl := hx.lt 0 rfl
      obtain ⟨E, hE⟩ : ∃ E, entsT N t = E := ⟨_, rfl⟩
      have hP1 := plain15_ents hn hw (by omega)
      rw [hE] at hP1 hen
      have f0 := hx.cell 0 0 rfl rfl
      have f1 := hx.cell 0 1 rfl rfl
      have f2 := hx.cell 0 2 rfl rfl
      have f3 := hx.cell 0 3 rfl rfl
      have f4 := hx.cell 0 4 rfl rfl

      rw [hsz] at c2'
      have HC0 := Lib.hid c0
      have HC1 := Lib.hid c1'
      have HC2 := Lib.hid c2'
      have HSZ := Lib.hid hsz
      have HYK := Lib.hid hyk
      have HX := Lib.hid hx
      have HN := Lib.hid hn
      have HB := Lib.hid hb
      have HE := Lib.hid hE
      have HY := Lib.hid hy
      clear hx hn hb hE hy hsz hyk
      go_wp2_with fail
      refine hP1.mono ?_
      rintro e w4 ⟨p4, lf4, a4, m4, c4, rfl, hb4, hE4⟩
      go_wp2_with fail
      refine (hE4 _ (Below.refl _ _)).mono ?_
      rintro e w5 ⟨aw, mw, cw, rfl, hwas, hb5⟩
      have hr5 : Below wr.heap.size wr w5 := hb4.trans (hb5.mono hb4.size)
      have hb05 : Below w.heap.size w w5 := HB.out.trans (hr5.mono HB.out.size)
      have hx5 := HX.out.step hr5
      have hz35 : w3.heap.size + 1 ≤ w5.heap.size := Nat.le_trans hxl hr5.size
      have hn5 := (HN.out.below hr5).lt
      obtain ⟨T, hT⟩ : ∃ T, putW N t y.key ⟨fillT y.fill sz, []⟩ = T := ⟨_, rfl⟩
      have CP : ∀ W, Below w5.heap.size w5 W → Calls Try.prog 33 #[.agg #[.int .i64 p, .bool lf, .slice a1 n1 c1, .slice a2 n2 c2, .slice a3 n3 c3], .string (strOf y.key), .string (strOf (fillT y.fill sz))] W (fun e w' => ∃ M cs, M ≤ N + 1 ∧ e = .returned (.agg cs.toArray) ∧ NodeOn (Fr (fun x => w3.heap.size + 1 ≤ x ∧ x < w5.heap.size) W) M w' cs T ∧ Whole M T ∧ entsT M T = putL y.key ⟨fillT y.fill sz, []⟩ E ∧ Below W.heap.size W w') := fun W hW => (tPut_whole (hn5.below hW) hw y.key (fillT y.fill sz) HYK.out (by rw [fillT_len]; exact hsz4)).mono fun e w' h => by
        unfold PutTo at h
        rw [hT, HE.out] at h
        exact h
      have HT := Lib.hid hT
      clear hT
      have CV : ∀ W, Calls Try.prog 34 #[.agg #[.string (strOf y.key), .int .u8 (y.fill.toNat : Int), .int .i64 (sz : Int)]] W (fun e w' => e = .returned (.string (strOf (fillT y.fill sz))) ∧ Below W.heap.size W w') := fun W => by
        have := value15_any y sz HSZ.out hsz4 W
        unfold ptC at this
        rwa [HSZ.out] at this
      have t0 : ∀ W, Below w5.heap.size w5 W → W.cell? ⟨w3.heap.size, 0, none⟩ = some (.int .i64 p) := fun W hW => (hx5.step hW).cell 0 0 rfl rfl
      have t1 : ∀ W, Below w5.heap.size w5 W → W.cell? ⟨w3.heap.size, 1, none⟩ = some (.bool lf) := fun W hW => (hx5.step hW).cell 0 1 rfl rfl
      have t2 : ∀ W, Below w5.heap.size w5 W → W.cell? ⟨w3.heap.size, 2, none⟩ = some (.slice a1 n1 c1) := fun W hW => (hx5.step hW).cell 0 2 rfl rfl
      have t3 : ∀ W, Below w5.heap.size w5 W → W.cell? ⟨w3.heap.size, 3, none⟩ = some (.slice a2 n2 c2) := fun W hW => (hx5.step hW).cell 0 3 rfl rfl
      have t4 : ∀ W, Below w5.heap.size w5 W → W.cell? ⟨w3.heap.size, 4, none⟩ = some (.slice a3 n3 c3) := fun W hW => (hx5.step hW).cell 0 4 rfl rfl
      have l0 : ∀ W, Below w5.heap.size w5 W → W.cell? ⟨bl, ol + i * 3, none⟩ = some (.string (strOf y.key)) := fun W hW => ((below_via hb05 hW).cell (p := ⟨bl, ol + i * 3, none⟩) hbl).trans c0
      have l1 : ∀ W, Below w5.heap.size w5 W → W.cell? ⟨bl, ol + i * 3 + 1, none⟩ = some (.int .u8 (y.fill.toNat : Int)) := fun W hW => ((below_via hb05 hW).cell (p := ⟨bl, ol + i * 3 + 1, none⟩) hbl).trans c1'
      have l2 : ∀ W, Below w5.heap.size w5 W → W.cell? ⟨bl, ol + i * 3 + 2, none⟩ = some (.int .i64 (sz : Int)) := fun W hW => ((below_via hb05 hW).cell (p := ⟨bl, ol + i * 3 + 2, none⟩) hbl).trans c2'
      have HX5 := Lib.hid hx5
      have HR5 := Lib.hid hr5
      have HB05 := Lib.hid hb05
      have HWAS := Lib.hid hwas
      have HW := Lib.hid hw
      have g1 : (0 : Int) ≤ (i : Int) := by omega
      have g2 : (i : Int) < (n : Int) := by omega
      have hC0 : Below w5.heap.size w5 w5.drew := (Below.refl _ _).drew
      clear f0 f1 f2 f3 f4 c0 c1' c2' hn5 hx5 hb4 hb5 hr5 hb05 hwas hE4 hP1 hw
      go_upto_region 12 with (fail)
      go_cut [8] (fun s8 wx => PutMid (w3.heap.size + 1) w5 N T (putL y.key ⟨fillT y.fill sz, []⟩ E) s8 wx)
      case first =>
        go_region_held3 (fun W => Below w5.heap.size w5 W) (first | with_reducible assumption | (repeat (with_reducible first | assumption | exact Nat.le_refl _ | exact Below.refl _ _ | apply Below.al | apply Below.dr | apply Below.st))) (first | (go_at_call 34; (with_reducible refine (CV _).mono ?_); rintro e w6 ⟨rfl, hb6⟩; have hB6 : Below w5.heap.size w5 w6 := below_via (by (repeat (with_reducible first | assumption | exact Below.refl _ _ | apply Below.al | apply Below.dr))) hb6; have hle6 : w5.heap.size ≤ w6.heap.size := hB6.size; (try (refine lay (P := BoxAt w6 w5.heap.size #[.int .i64 0, .bool false, .slice none 0 0, .slice none 0 0, .slice none 0 0]) (BoxAt.below ?_ hb6) ?_; (focus ((repeat (with_reducible first | assumption | exact BoxAt.here | apply BoxAt.dr | apply BoxAt.al)); done)); intro hz6))) | (go_at_call 33; (with_reducible refine (CP _ ?_).mono ?_); (focus (repeat (with_reducible first | assumption | exact Below.refl _ _ | apply Below.al | apply Below.dr))); rintro e w9 hq9; obtain ⟨M, cs9, hM9, rfl, hn9, hw9, hE9, hb9⟩ := hq9; obtain ⟨j1, j2, j3, j4, j5, j6, j7, j8, ecs9, _, _⟩ := hn9.words; subst ecs9; have HE9 := Lib.hid hE9; clear hE9; have hB9 : Below w5.heap.size w5 w9 := below_via (by (repeat (with_reducible first | assumption | exact Below.refl _ _ | apply Below.al | apply Below.dr))) hb9; (try (refine lay (P := BoxAt w9 w6.heap.size #[.int .i64 0, .bool false, .slice none 0 0, .slice none 0 0, .slice none 0 0]) (BoxAt.below ?_ hb9) ?_; (focus ((repeat (with_reducible first | assumption | exact BoxAt.here | apply BoxAt.dr | apply BoxAt.al)); done)); intro hz9; have z0 := hz9.cell (i := 0) rfl; have z1 := hz9.cell (i := 1) rfl; have z2 := hz9.cell (i := 2) rfl; have z3 := hz9.cell (i := 3) rfl; have z4 := hz9.cell (i := 4) rfl; have u0 := hz9.frozen 0; have u1 := hz9.frozen 1; have u2 := hz9.frozen 2; have u3 := hz9.frozen 3; have u4 := hz9.frozen 4)); (try (refine lay (P := BoxAt w9 w5.heap.size #[.int .i64 0, .bool false, .slice none 0 0, .slice none 0 0, .slice none 0 0]) (BoxAt.below ?_ hb9) ?_; (focus ((repeat (with_reducible first | assumption | exact BoxAt.here | apply BoxAt.dr | apply BoxAt.al)); done)); intro hz9; have z0 := hz9.cell (i := 0) rfl; have z1 := hz9.cell (i := 1) rfl; have z2 := hz9.cell (i := 2) rfl; have z3 := hz9.cell (i := 3) rfl; have z4 := hz9.cell (i := 4) rfl; have u0 := hz9.frozen 0; have u1 := hz9.frozen 1; have u2 := hz9.frozen 2; have u3 := hz9.frozen 3; have u4 := hz9.frozen 4))))
        all_goals
          go_wp2_with fail
          go_meet
          first
            | (have hA := PutMid.a (B := w3.heap.size + 1) (w2 := w5) (N := N) 33 hB9 hn9 (fun b h => fr_le (fun b h => h.1) hz35 hle6 h) hw9 hM9 HE9.out
               with_reducible exact hA)
            | (have hA := PutMid.b (B := w3.heap.size + 1) (w2 := w5) (N := N) (b := w6.heap.size) hB9 hz9 hle6 hn9 (fun b h => fr_le (fun b h => h.1) hz35 (le_alloc hle6 _) h) (fr_not (fun h => by omega) (lt_alloc _ _)) hw9 hM9 HE9.out
               unfold set5 at hA
               with_reducible exact hA)
            | (have hA := PutMid.b (B := w3.heap.size + 1) (w2 := w5) (N := N) (b := w5.heap.size) hB9 hz9 (Nat.le_refl _) hn9 (fun b h => fr_le (fun b h => h.1) hz35 hle6 h) (fr_not (fun h => by omega) (Nat.lt_of_lt_of_le (lt_alloc _ _) hb6.size)) hw9 hM9 HE9.out
               unfold set5 at hA
               with_reducible exact hA)
      case rest =>
      unfold PutMid TrBox at hcut
      obtain ⟨b8, M, rfl, ⟨p8, lf8, a81, n81, c81, a82, n82, c82, a83, n83, c83, hx8, hn8, hw8⟩, hbc, hb8, hM, hEM⟩ := hcut
      have hle := put_some (by rw [hEM, HE.out]) (show (entsT N t).length ≤ i by rw [HE.out]; exact hen) HW.out.srt
      have hP2 := plain15_ents hn8 hw8 (by omega)
      have hfd : findT M T y.key = some (fillT y.fill sz) := by rw [whole_find hw8, hEM]; exact look_put (by rw [← HE.out]; exact HW.out.srt) _ _
      have hchk : checkT M T = true := whole_check hw8
      obtain ⟨EN, hEN⟩ : ∃ q, putL y.key ⟨fillT y.fill sz, []⟩ E = q := ⟨_, rfl⟩
      rw [hEM, hEN] at hP2
      rw [hEM, hEN] at hle
      have v0 := hx8.cell 0 0 rfl rfl
      have v1 := hx8.cell 0 1 rfl rfl
      have v2 := hx8.cell 0 2 rfl rfl
      have v3 := hx8.cell 0 3 rfl rfl
      have v4 := hx8.cell 0 4 rfl rfl

      have HX8 := Lib.hid hx8
      have HN8 := Lib.hid hn8
      have HW8 := Lib.hid hw8
      have HBC := Lib.hid hbc
      have HEM := Lib.hid hEM
      have HEN := Lib.hid hEN
      have HFD := Lib.hid hfd
      have HCHK := Lib.hid hchk
      clear hx8 hn8 hw8 hbc hEM hEN hfd hchk CP t0 t1 t2 t3 t4 l0 l1 l2 hC0
      go_wp2_with fail
      refine hP2.mono ?_
      rintro e w10 ⟨p10, lf10, a10, m10, c10, rfl, hb10, hE10⟩
      go_wp2_with fail
      refine (hE10 _ (Below.refl _ _)).mono ?_
      rintro e w11 ⟨an, mn, cn, rfl, hnow, hb11⟩
      have hc11 : Below wc.heap.size wc w11 := hb10.trans (hb11.mono hb10.size)
      have h511 : Below w5.heap.size w5 w11 := HBC.out.trans (hc11.mono HBC.out.size)
      have h011 : Below w.heap.size w w11 := HB05.out.trans (h511.mono HB05.out.size)
      have CF : ∀ W, Below w11.heap.size w11 W → Calls Try.prog 28 #[.agg #[.int .i64 p8, .bool lf8, .slice a81 n81 c81, .slice a82 n82 c82, .slice a83 n83 c83], .string (strOf y.key)] W (FoundPost W (some (fillT y.fill sz))) := fun W hW => by
        have := tfind_any (HN8.out.below (below_via hc11 hW)).toIn y.key (HW8.out.find y.key)
        rwa [HFD.out] at this
      have CC : ∀ W, Below w11.heap.size w11 W → Calls Try.prog 39 #[.agg #[.int .i64 p8, .bool lf8, .slice a81 n81 c81, .slice a82 n82 c82, .slice a83 n83 c83]] W (fun e w' => e = .returned (.bool true) ∧ Below W.heap.size W w') := fun W hW => by
        have := tcheck_any (HN8.out.below (below_via hc11 hW)).toIn HW8.out.bnd (by omega)
        rwa [HCHK.out] at this
      have CN : ∀ W, Below w11.heap.size w11 W → Calls Try.prog 37 #[.agg #[.int .i64 p, .bool lf, .slice a1 n1 c1, .slice a2 n2 c2, .slice a3 n3 c3]] W (PlainTo E W) := fun W hW => by
        have := plain15_ents ((HN.out.below (below_via (below_via (below_via (Below.refl _ _) HR5.out) h511) hW))) HW.out (by rw [HE.out]; omega)
        rwa [HE.out] at this
      have s0 : ∀ W, Below w11.heap.size w11 W → W.cell? ⟨b8, 0, none⟩ = some (.int .i64 p8) := fun W hW => (HX8.out.step (below_via hc11 hW)).cell 0 0 rfl rfl
      have s1 : ∀ W, Below w11.heap.size w11 W → W.cell? ⟨b8, 1, none⟩ = some (.bool lf8) := fun W hW => (HX8.out.step (below_via hc11 hW)).cell 0 1 rfl rfl
      have s2 : ∀ W, Below w11.heap.size w11 W → W.cell? ⟨b8, 2, none⟩ = some (.slice a81 n81 c81) := fun W hW => (HX8.out.step (below_via hc11 hW)).cell 0 2 rfl rfl
      have s3 : ∀ W, Below w11.heap.size w11 W → W.cell? ⟨b8, 3, none⟩ = some (.slice a82 n82 c82) := fun W hW => (HX8.out.step (below_via hc11 hW)).cell 0 3 rfl rfl
      have s4 : ∀ W, Below w11.heap.size w11 W → W.cell? ⟨b8, 4, none⟩ = some (.slice a83 n83 c83) := fun W hW => (HX8.out.step (below_via hc11 hW)).cell 0 4 rfl rfl

      have t0 : ∀ W, Below w11.heap.size w11 W → W.cell? ⟨w3.heap.size, 0, none⟩ = some (.int .i64 p) := fun W hW => (HX5.out.step (below_via h511 hW)).cell 0 0 rfl rfl
      have t1 : ∀ W, Below w11.heap.size w11 W → W.cell? ⟨w3.heap.size, 1, none⟩ = some (.bool lf) := fun W hW => (HX5.out.step (below_via h511 hW)).cell 0 1 rfl rfl
      have t2 : ∀ W, Below w11.heap.size w11 W → W.cell? ⟨w3.heap.size, 2, none⟩ = some (.slice a1 n1 c1) := fun W hW => (HX5.out.step (below_via h511 hW)).cell 0 2 rfl rfl
      have t3 : ∀ W, Below w11.heap.size w11 W → W.cell? ⟨w3.heap.size, 3, none⟩ = some (.slice a2 n2 c2) := fun W hW => (HX5.out.step (below_via h511 hW)).cell 0 3 rfl rfl
      have t4 : ∀ W, Below w11.heap.size w11 W → W.cell? ⟨w3.heap.size, 4, none⟩ = some (.slice a3 n3 c3) := fun W hW => (HX5.out.step (below_via h511 hW)).cell 0 4 rfl rfl

      have l0 : ∀ W, Below w11.heap.size w11 W → W.cell? ⟨bl, ol + i * 3, none⟩ = some (.string (strOf y.key)) := fun W hW => ((below_via h011 hW).cell (p := ⟨bl, ol + i * 3, none⟩) hbl).trans HC0.out
      have l1 : ∀ W, Below w11.heap.size w11 W → W.cell? ⟨bl, ol + i * 3 + 1, none⟩ = some (.int .u8 (y.fill.toNat : Int)) := fun W hW => ((below_via h011 hW).cell (p := ⟨bl, ol + i * 3 + 1, none⟩) hbl).trans HC1.out
      have l2 : ∀ W, Below w11.heap.size w11 W → W.cell? ⟨bl, ol + i * 3 + 2, none⟩ = some (.int .i64 (sz : Int)) := fun W hW => ((below_via h011 hW).cell (p := ⟨bl, ol + i * 3 + 2, none⟩) hbl).trans HC2.out
      have hC0 : Below w11.heap.size w11 w11.drew := (Below.refl _ _).drew
      have HNOW := Lib.hid hnow
      have HC11 := Lib.hid hc11
      have H511 := Lib.hid h511
      have H011 := Lib.hid h011
      clear hE10 hb10 hb11 hnow hc11 h511 h011 hP2 v0 v1 v2 v3 v4
      go_upto_region 14 with (fail)
      go_region_held3 (fun W => Below w11.heap.size w11 W) (first | with_reducible assumption | (repeat (with_reducible first | assumption | exact Below.refl _ _ | apply Below.al | apply Below.dr))) (first | (go_at_call 28; (with_reducible refine (CF _ ?_).mono ?_); (focus (repeat (with_reducible first | assumption | exact Below.refl _ _ | apply Below.al | apply Below.dr))); rintro e w12 ⟨rfl, hb12⟩; have hB12 : Below w11.heap.size w11 w12 := below_via (by (repeat (with_reducible first | assumption | exact Below.refl _ _ | apply Below.al | apply Below.dr))) hb12))
      have qs0 := s0 w12 hB12
      have qs1 := s1 w12 hB12
      have qs2 := s2 w12 hB12
      have qs3 := s3 w12 hB12
      have qs4 := s4 w12 hB12
      have hst := strOf_toList
      have hvv : ((strOf (fillT y.fill sz)).toList == (strOf (fillT y.fill sz)).toList) = true := by simp
      go_wp2_with fail
      refine (CC _ hB12).mono ?_
      rintro e w13 ⟨rfl, hb13⟩
      have hB13 : Below w11.heap.size w11 w13 := below_via hB12 hb13
      clear qs0 qs1 qs2 qs3 qs4
      have ql0 := l0 w13 hB13
      have ql1 := l1 w13 hB13
      have ql2 := l2 w13 hB13
      go_wp2_with fail
      refine (CV _).mono ?_
      rintro e w14 ⟨rfl, hb14⟩
      have hB14 : Below w11.heap.size w11 w14 := below_via hB13 hb14
      clear ql0 ql1 ql2
      have qt0 := t0 w14 hB14
      have qt1 := t1 w14 hB14
      have qt2 := t2 w14 hB14
      have qt3 := t3 w14 hB14
      have qt4 := t4 w14 hB14
      go_wp2_with fail
      refine (CN _ hB14).mono ?_
      rintro e w15 ⟨p15, lf15, a15, m15, c15, rfl, hb15, hE15⟩
      go_wp2_with fail
      refine (hE15 _ (Below.refl _ _)).mono ?_
      rintro e w16 ⟨av, mv, cv, rfl, hwas2, hb16⟩
      have hB16 : Below w11.heap.size w11 w16 := below_via (below_via hB14 hb15) hb16
      obtain rfl : mw = mv := by rw [← HWAS.out.len.1, ← hwas2.len.1]
      have HB16 := Lib.hid hB16
      have hmm : ((mw : Int) != (mw : Int)) = false := by simp
      clear qt0 qt1 qt2 qt3 qt4
      clear CC CV CN CF hE15 hb15 hb16 hwas2 hB12 hB13 hB14 hB16 hb12 hb13 hb14 hC0
      go_wp2_with fail
      have hsrt : Srt E := by rw [← HE.out]; exact HW.out.srt
      have HSRT := Lib.hid hsrt
      clear hsrt hmm hvv hst
      go_loopw [12, 13] (fun s12 s13 wy => ∃ j k : Nat, j ≤ mn ∧ s13 = .int .i64 j ∧ s12 = .int .i64 k ∧ kAt E y.key j = k ∧ Below w11.heap.size w11 wy) (fun _ s _ => mn - (intOf s).toNat)
      case atStart => exact ⟨0, 0, Nat.zero_le _, rfl, rfl, stays_zero _ _, HB16.out⟩
      case round =>
        obtain ⟨j, k, hj, rfl, rfl, hk, hby⟩ := hrel
        have hnl := HNOW.out.len
        have hwl := HWAS.out.len
        have hmw : mw ≤ 80 := by omega
        have hmn : mn ≤ 81 := by omega
        by_cases hjn : j < mn
        · obtain ⟨bn, on, yn, rfl, hbn, hyn, d0, d1⟩ := HNOW.out.at hjn
          obtain ⟨own, same, o1, o2, o3, o4, o5⟩ := stays_step HSRT.out (by rw [HEN.out]; exact hyn)
          rw [hk] at o2 o3 o4 o5
          rw [hwl.1] at o4
          have v0 := (hby.cell (p := ⟨bn, on + j * 4, none⟩) hbn).trans d0
          have v1 := (hby.cell (p := ⟨bn, on + j * 4 + 1, none⟩) hbn).trans d1
          have v2 := l0 _ hby
          have q1 := eq_walk o1
          obtain ⟨kn, vn⟩ := yn
          dsimp only at *
          have HYN := Lib.hid hyn
          clear hyn d0 d1
          by_cases hkm : k < mw
          · obtain ⟨bw, ow, yw, rfl, hbw, hyw, e0, e1⟩ := HWAS.out.at hkm
            have x0 := ((below_via H511.out hby).cell (p := ⟨bw, ow + k * 4, none⟩) hbw).trans e0
            have x1 := ((below_via H511.out hby).cell (p := ⟨bw, ow + k * 4 + 1, none⟩) hbw).trans e1
            obtain ⟨kw, vw⟩ := yw
            dsimp only at *
            have hs := o3 _ hyw
            have q2 := eq_walk hs
            have q3 := o2
            clear e0 e1
            cases own with
            | true =>
              clear q3
              cases same with
              | true =>
                clear hs hyw
                have HO5 : Hid (kAt E y.key (j + 1) = k + 1) := Lib.hid (by rw [o5]; rfl)
                clear o1 o2 o3 o4 o5 hk hnl hwl
                have dk : decide ((k : Int) < (mw : Int)) = true := by simp; omega
                have dk' : decide (k < mw) = true := by simp; omega
                cases j with
                | zero =>
                  simp only [Nat.zero_mul, Nat.add_zero] at v0 v1
                  go_upto_region 21 with (fail)
                  go_quiet (fail)
                  go_wp2
                  go_quiet (fail)
                  go_wp2
                  go_quiet (fail)
                  go_wp2
                  go_roundw
                  case rel => exact ⟨0 + 1, k + 1, hjn, by go_num, by go_num, HO5.out, below_drewN hby _⟩
                  case measure => simp [intOf]; omega
                | succ j =>
                  obtain ⟨bp, op, yp, ep, hbp, hyp, pc0, _⟩ := HNOW.out.at (show j < mn by omega)
                  cases ep
                  have vp := (hby.cell (p := ⟨bn, on + j * 4, none⟩) hbp).trans pc0
                  have hrise := stays_rise (by rw [← HEN.out]; exact srt_put HSRT.out) hyp HYN.out
                  obtain ⟨kp, vq⟩ := yp
                  dsimp only at *
                  obtain ⟨r1, r2, r3, r4⟩ := cmp_lt hrise
                  obtain ⟨r5, r6⟩ := cmp_lt2 hrise
                  have dj : decide ((0 : Int) < ((j + 1 : Nat) : Int)) = true := decide_eq_true (by omega)
                  have dj' : decide (0 < j + 1) = true := by simp
                  clear pc0 hyp hrise
                  go_upto_region 21 with (fail)
                  go_quiet (fail)
                  go_wp2
                  go_quiet (fail)
                  go_wp2
                  go_quiet (fail)
                  go_wp2
                  go_roundw
                  case rel => exact ⟨j + 1 + 1, k + 1, hjn, by go_num, by go_num, HO5.out, below_drewN hby _⟩
                  case measure => simp [intOf]; omega
              | false =>
                clear hs hyw
                have HO5 : Hid (kAt E y.key (j + 1) = k) := Lib.hid (by rw [o5]; rfl)
                clear o1 o2 o3 o4 o5 hk hnl hwl
                have dk : decide ((k : Int) < (mw : Int)) = true := by simp; omega
                have dk' : decide (k < mw) = true := by simp; omega
                cases j with
                | zero =>
                  simp only [Nat.zero_mul, Nat.add_zero] at v0 v1
                  go_upto_region 21 with (fail)
                  go_quiet (fail)
                  go_wp2
                  go_quiet (fail)
                  go_wp2
                  go_quiet (fail)
                  go_wp2
                  go_roundw
                  case rel => exact ⟨0 + 1, k, hjn, by go_num, by go_num, HO5.out, below_drewN hby _⟩
                  case measure => simp [intOf]; omega
                | succ j =>
                  obtain ⟨bp, op, yp, ep, hbp, hyp, pc0, _⟩ := HNOW.out.at (show j < mn by omega)
                  cases ep
                  have vp := (hby.cell (p := ⟨bn, on + j * 4, none⟩) hbp).trans pc0
                  have hrise := stays_rise (by rw [← HEN.out]; exact srt_put HSRT.out) hyp HYN.out
                  obtain ⟨kp, vq⟩ := yp
                  dsimp only at *
                  obtain ⟨r1, r2, r3, r4⟩ := cmp_lt hrise
                  obtain ⟨r5, r6⟩ := cmp_lt2 hrise
                  have dj : decide ((0 : Int) < ((j + 1 : Nat) : Int)) = true := decide_eq_true (by omega)
                  have dj' : decide (0 < j + 1) = true := by simp
                  clear pc0 hyp hrise
                  go_upto_region 21 with (fail)
                  go_quiet (fail)
                  go_wp2
                  go_quiet (fail)
                  go_wp2
                  go_quiet (fail)
                  go_wp2
                  go_roundw
                  case rel => exact ⟨j + 1 + 1, k, hjn, by go_num, by go_num, HO5.out, below_drewN hby _⟩
                  case measure => simp [intOf]; omega
            | false =>
              obtain ⟨xx, hx, hx1, hx2⟩ := q3 rfl
              rw [hyw] at hx
              cases hx
              dsimp only at hx1 hx2
              have hsame : same = true := by rw [← hs]; simp [hx1]
              subst hsame
              rw [hx2] at x1
              have q4 := ne_walk (a := vn.data) (b := vn.data) (o := true) (by simp)
              clear hx1 hx2 hs hyw
              have HO5 : Hid (kAt E y.key (j + 1) = k + 1) := Lib.hid (by rw [o5]; rfl)
              clear o1 o2 o3 o4 o5 hk hnl hwl
              have dk : decide ((k : Int) < (mw : Int)) = true := by simp; omega
              have dk' : decide (k < mw) = true := by simp; omega
              cases j with
              | zero =>
                simp only [Nat.zero_mul, Nat.add_zero] at v0 v1
                go_upto_region 21 with (fail)
                go_quiet (fail)
                go_wp2
                go_quiet (fail)
                go_wp2
                go_quiet (fail)
                go_wp2
                go_roundw
                case rel => exact ⟨0 + 1, k + 1, hjn, by go_num, by go_num, HO5.out, below_drewN hby _⟩
                case measure => simp [intOf]; omega
              | succ j =>
                obtain ⟨bp, op, yp, ep, hbp, hyp, pc0, _⟩ := HNOW.out.at (show j < mn by omega)
                cases ep
                have vp := (hby.cell (p := ⟨bn, on + j * 4, none⟩) hbp).trans pc0
                have hrise := stays_rise (by rw [← HEN.out]; exact srt_put HSRT.out) hyp HYN.out
                obtain ⟨kp, vq⟩ := yp
                dsimp only at *
                obtain ⟨r1, r2, r3, r4⟩ := cmp_lt hrise
                obtain ⟨r5, r6⟩ := cmp_lt2 hrise
                have dj : decide ((0 : Int) < ((j + 1 : Nat) : Int)) = true := decide_eq_true (by omega)
                have dj' : decide (0 < j + 1) = true := by simp
                clear pc0 hyp hrise
                go_upto_region 21 with (fail)
                go_quiet (fail)
                go_wp2
                go_quiet (fail)
                go_wp2
                go_quiet (fail)
                go_wp2
                go_roundw
                case rel => exact ⟨j + 1 + 1, k + 1, hjn, by go_num, by go_num, HO5.out, below_drewN hby _⟩
                case measure => simp [intOf]; omega
          · have hsame : same = false := o4 (by omega)
            subst hsame
            have hown : own = true := by
              cases own with
              | true => rfl
              | false => obtain ⟨x, hx, _, _⟩ := o2 rfl; have := (List.getElem?_eq_some_iff.1 hx).1; omega
            subst hown
            have HO5 : Hid (kAt E y.key (j + 1) = k) := Lib.hid (by rw [o5]; rfl)
            clear o1 o2 o3 o4 o5 hk hnl hwl
            have dk : decide ((k : Int) < (mw : Int)) = false := by simp; omega
            have dk' : decide (k < mw) = false := by simp; omega
            cases j with
            | zero =>
              simp only [Nat.zero_mul, Nat.add_zero] at v0 v1
              go_upto_region 21 with (fail)
              go_quiet (fail)
              go_wp2
              go_quiet (fail)
              go_wp2
              go_quiet (fail)
              go_wp2
              go_roundw
              case rel => exact ⟨0 + 1, k, hjn, by go_num, by go_num, HO5.out, below_drewN hby _⟩
              case measure => simp [intOf]; omega
            | succ j =>
              obtain ⟨bp, op, yp, ep, hbp, hyp, pc0, _⟩ := HNOW.out.at (show j < mn by omega)
              cases ep
              have vp := (hby.cell (p := ⟨bn, on + j * 4, none⟩) hbp).trans pc0
              have hrise := stays_rise (by rw [← HEN.out]; exact srt_put HSRT.out) hyp HYN.out
              obtain ⟨kp, vq⟩ := yp
              dsimp only at *
              obtain ⟨r1, r2, r3, r4⟩ := cmp_lt hrise
              obtain ⟨r5, r6⟩ := cmp_lt2 hrise
              have dj : decide ((0 : Int) < ((j + 1 : Nat) : Int)) = true := decide_eq_true (by omega)
              have dj' : decide (0 < j + 1) = true := by simp
              clear pc0 hyp hrise
              go_upto_region 21 with (fail)
              go_quiet (fail)
              go_wp2
              go_quiet (fail)
              go_wp2
              go_quiet (fail)
              go_wp2
              go_roundw
              case rel => exact ⟨j + 1 + 1, k, hjn, by go_num, by go_num, HO5.out, below_drewN hby _⟩
              case measure => simp [intOf]; omega
        · obtain rfl : j = mn := by omega
          have hkw : k = mw := by rw [← hk, ← hwl.1, ← hnl.1, ← HEN.out]; exact stays_end _ _ _
          subst hkw
          have hmm : ((k : Int) != (k : Int)) = false := by simp
          have hx5 := HX5.out.step (below_via H511.out hby)
          have hx8 := HX8.out.step (below_via HC11.out hby)
          have hn8 := HN8.out.below (below_via HC11.out hby)
          have hend := TrBox.set5 hx5 hn8 (fun b h => h) (by simp) HW8.out
          have hbe := set5_below (below_via H011.out hby) hz3 (.int .i64 p8) (.bool lf8) (.slice a81 n81 c81) (.slice a82 n82 c82) (.slice a83 n83 c83)
          unfold set5 at hend hbe
          have HEND := Lib.hid hend
          have HBE := Lib.hid hbe
          have f0 := hx5.cell 0 0 rfl rfl
          have f1 := hx5.cell 0 1 rfl rfl
          have f2 := hx5.cell 0 2 rfl rfl
          have f3 := hx5.cell 0 3 rfl rfl
          have f4 := hx5.cell 0 4 rfl rfl
          have g0 := hx5.frozen 0 0 rfl
          have g1 := hx5.frozen 0 1 rfl
          have g2 := hx5.frozen 0 2 rfl
          have g3 := hx5.frozen 0 3 rfl
          have g4 := hx5.frozen 0 4 rfl
          have q0 := hx8.cell 0 0 rfl rfl
          have q1 := hx8.cell 0 1 rfl rfl
          have q2 := hx8.cell 0 2 rfl rfl
          have q3 := hx8.cell 0 3 rfl rfl
          have q4 := hx8.cell 0 4 rfl rfl

          clear hend hbe hx5 hx8 hn8 hk hnl hwl
          go_wp2_with fail
          go_roundw
          case rel => exact ⟨i + 1, M, T, hlt, by go_num, HEND.out, by omega, by rw [HEM.out, HEN.out]; exact hle, HBE.out⟩
          case measure => simp [intOf]; omega
    · obtain rfl : i = n := by omega
      have HB := Lib.hid hb
      clear hx hn hb
      go_wp2_with fail
      go_ret
      exact ⟨rfl, HB.out⟩
end Go.Proofs.Ytemfnjlfcemehaa
