/- The statement that what is put is taken. -/
import Derived.Test.YtiaojbllbkgocaaOctL
import Derived.Test.YtiaojbllbkgocaaOctB
namespace Go.Proofs.Ytiaojbllbkgocaa
open Go.RowKit

theorem info_u64 : (Try.prog.info? 22).map (fun i => (i.zero, i.size, i.bytes)) = some (some (.int .u64 0), 1, 8) := by kernel_rfl

/-- Own rows of two types of elements stand in two blocks. -/
theorem own_types {w : World} {b1 b2 : Nat} {e1 e2 : TypeId} {s1 s2 : Nat} {v1 v2 : Value} {n1 n2 : Nat} {x1 x2 : List Value} (h1 : w.ownsRow b1 e1 s1 v1 n1 x1) (h2 : w.ownsRow b2 e2 s2 v2 n2 x2) (hne : e1 ≠ e2) : v1.ownBlock = none ∨ v1.ownBlock ≠ v2.ownBlock := by
  rcases h1.2 with ⟨rfl, rfl⟩ | ⟨g, cap, cur, rfl, _, hg, _⟩
  · exact .inl rfl
  · right
    intro e
    rcases h2.2 with ⟨rfl, rfl⟩ | ⟨g', cap', cur', rfl, _, hg', _⟩
    · cases e
    · cases e
      rw [hg] at hg'
      cases hg'
      exact hne rfl

theorem own_below {w w' : World} {base : Nat} {e : TypeId} {size : Nat} {v : Value} {n : Nat} {xs : List Value} (h : w.ownsRow base e size v n xs) (hb : Below w.heap.size w w') : w'.ownsRow base e size v n xs :=
  h.kept (grown_below hb none) (by cases v.ownBlock <;> simp)

def Nn (sz : List UInt8) (i : Nat) : Nat := (sz[i]?.getD 0).toNat % 8 + 1
def Xx (l : List Int) (sz : List UInt8) (i : Nat) : Nat := (l[i]?.getD 0).toNat / 256 ^ (8 - Nn sz i)
def Ww (l : List Int) (sz : List UInt8) (k : Nat) : List Int := (List.range k).map fun i => (Xx l sz i : Int)
theorem Nn_le (sz : List UInt8) (i : Nat) : Nn sz i ≤ 8 := by unfold Nn; omega
theorem Xx_lt (l : List Int) (sz : List UInt8) (i : Nat) (h : (l[i]?.getD 0).toNat < 18446744073709551616) : Xx l sz i < 256 ^ Nn sz i := by
  unfold Xx
  have h1 := Nn_le sz i
  rw [Nat.div_lt_iff_lt_mul (Nat.pow_pos (by decide)), ← Nat.pow_add]
  have : Nn sz i + (8 - Nn sz i) = 8 := by omega
  rw [this]; exact h

theorem dropLast_append_ne {l m : List UInt8} (h : m ≠ []) : (l ++ m).dropLast = l ++ m.dropLast := List.dropLast_append_of_ne_nil h

set_option maxRecDepth 100000 in
set_option maxHeartbeats 4000000 in
theorem back_any (a : Option Addr) (n cap : Nat) (l : List Int) (a1 : Option Addr) (n1 cap1 : Nat) (sz : List UInt8) (s : List UInt8) (w : World) (hl : Row .u64 w a n cap l) (hlb : ∀ i : Nat, (l[i]?.getD (0 : Int)).toNat < 18446744073709551616 ∧ (0 : Int) ≤ l[i]?.getD 0) (hz : Bs w a1 n1 cap1 sz) (hsl : s.length ≤ 9223372036854775807) :
    Calls Try.prog 5 #[.slice a n cap, .slice a1 n1 cap1, .string (strOf s)] w fun e w' => e = .returned (.bool true) ∧ Below w.heap.size w w' := by
  obtain ⟨i0, hi, hz0, hz1, hz2⟩ := info_parts info_u8
  obtain ⟨j0, hj, hy0, hy1, hy2⟩ := info_parts info_u64
  have hst := strOf_toList
  have hm := hz.cap
  have hm2 := hl.2.2.1
  have hm3 := hl.2.1
  unfold maxLen at hm hm2
  have hss := strOf_size s
  by_cases hb1 : 30 < n
  · go_enter Try.func5, Try.ntmps5
    go_wp2_with fail
    refine (awake_any w).mono ?_
    rintro e w1 ⟨rfl, c1⟩
    go_wp2
    go_ret
    exact ⟨rfl, c1⟩
  by_cases hb2 : n1 < n
  · go_enter Try.func5, Try.ntmps5
    go_wp2_with fail
    refine (awake_any w).mono ?_
    rintro e w1 ⟨rfl, c1⟩
    go_wp2
    go_ret
    exact ⟨rfl, c1⟩
  by_cases hb3 : 255 < s.length
  · go_enter Try.func5, Try.ntmps5
    go_wp2_with fail
    refine (awake_any w).mono ?_
    rintro e w1 ⟨rfl, c1⟩
    go_wp2
    go_ret
    exact ⟨rfl, c1⟩
  have dA : decide ((30 : Int) < (n : Int)) = false := by simp; omega
  have dA' : decide (30 < n) = false := by simp; omega
  have dB' : decide (n1 < n) = false := by simp; omega
  have dC : decide ((255 : Int) < (s.length : Int)) = false := by simp; omega
  have dC' : decide (255 < s.length) = false := by simp; omega
  have hT : textF s = UInt8.ofNat s.length :: s := by
    rw [textF_eq, List.take_of_length_le (by omega)]; rfl
  have hTs : tText ⟨textF s, 0⟩ = (s, ⟨[], 0⟩) := by rw [hT]; exact tText_text s (by omega)
  have hTd : (tText ⟨(textF s).dropLast, 0⟩).2.e = 10 := by rw [hT]; exact tText_short s (by omega)
  have hTl : (textF s).length = s.length + 1 := by rw [hT]; simp
  obtain ⟨T, hTx0⟩ : ∃ T, textF s = T := ⟨_, rfl⟩
  rw [hTx0] at hTs hTd hTl
  have hTx := Lib.hid hTx0
  have HTs := Lib.hid hTs
  have HTd := Lib.hid hTd
  have HTL := Lib.hid hTl
  have hTb : 1 ≤ T.length ∧ T.length ≤ 256 := by omega
  clear hT hTx0 hTs hTd hTl
  go_enter Try.func5, Try.ntmps5
  go_wp2_with fail
  refine (awake_any w).mono ?_
  rintro e w1 ⟨rfl, c1⟩
  go_wp2
  go_loopw [8, 9, 10] (fun bv wv i wr => ∃ k : Nat, k ≤ n ∧ i = .int .i64 k ∧ wr.ownsRow w1.heap.size 5 1 bv (encN (Xx l sz) (Nn sz) k 0).length ((toI (encN (Xx l sz) (Nn sz) k 0)).map (Value.int .u8)) ∧ wr.ownsRow w1.heap.size 22 1 wv k ((Ww l sz k).map (Value.int .u64)) ∧ Below w1.heap.size w1 wr) (fun _ _ i _ => n - (intOf i).toNat)
  case atStart => exact ⟨0, Nat.zero_le _, rfl, ⟨rfl, .inl ⟨rfl, rfl⟩⟩, ⟨rfl, .inl ⟨rfl, rfl⟩⟩, Below.refl _ _⟩
  case round =>
    obtain ⟨k, hk, rfl, hob, how, hB⟩ := hrel
    have hBs := hB.size
    have cw := below_then c1 hB
    have hel : (encN (Xx l sz) (Nn sz) k 0).length ≤ 8 * k := encN_length _ _ (Nn_le sz) k 0
    by_cases hlt : k < n
    · have hrl := hl.below (Nat.le_refl _) cw
      have hrz := hz.below (Nat.le_refl _) cw
      rcases hrl.2.2.2.2 with h0 | ⟨b, off, rfl, hbb, hcell⟩
      · omega
      obtain ⟨b2, off2, rfl, hbb2, hcell2⟩ := hrz.cell (k := k) (by omega)
      have hck := hcell k hlt
      have hck2 := hcell2 k (by omega)
      have hx := hlb k
      have hsn := encN_snoc (Xx l sz) (Nn sz) k 0
      rw [Nat.zero_add] at hsn
      have hws : Ww l sz (k + 1) = Ww l sz k ++ [(Xx l sz k : Int)] := by simp [Ww, List.range_succ]
      have hXd : Xx l sz k = (l[k]?.getD 0).toNat / 256 ^ (8 - Nn sz k) := rfl
      have hNd : Nn sz k = (sz[k]?.getD 0).toNat % 8 + 1 := rfl
      have hcb : (sz[k]?.getD 0).toNat < 256 := (sz[k]?.getD 0).toNat_lt
      have hnl := Nn_le sz k
      generalize (sz[k]?.getD 0).toNat = c at *
      obtain ⟨x, hx0⟩ := Int.eq_ofNat_of_zero_le hx.2
      rw [hx0] at hck hx hXd
      rw [Int.toNat_natCast] at hXd hx
      generalize Nn sz k = nn at *
      have hnn : (c : Int) % 8 + 1 = (nn : Int) := by omega
      have HX := Lib.hid hXd
      have HN := Lib.hid hNd
      have HS := Lib.hid hsn
      have HW := Lib.hid hws
      have hn1 : 1 ≤ nn := by omega
      have hx2 := hx.1
      clear hXd hNd hsn hws hx0 hx hcell hcell2 hrl hrz
      go_wp2
      obtain ⟨wo, rfl⟩ : ∃ wo : World, wo = wr := ⟨_, rfl⟩
      go_loop [12, 13] (fun xx kk => ∃ j : Nat, nn ≤ j ∧ j ≤ 8 ∧ kk = .int .i64 j ∧ xx = .int .u64 ((x / 256 ^ (j - nn) : Nat) : Int)) (fun _ kk => 8 - (intOf kk).toNat)
      case atStart => exact ⟨nn, Nat.le_refl _, hnl, rfl, by simp⟩
      case round =>
        obtain ⟨j, hj1, hj2, rfl, rfl⟩ := hrel
        by_cases hj8 : j < 8
        · have hdiv := Lib.hid (show x / 256 ^ (j + 1 - nn) = x / 256 ^ (j - nn) / 256 by
            rw [show j + 1 - nn = j - nn + 1 by omega, Nat.pow_succ, Nat.div_div_eq_div_mul])
          have hle : x / 256 ^ (j - nn) ≤ x := Nat.div_le_self _ _
          generalize x / 256 ^ (j - nn) = y at *
          go_wp2
          go_round
          case rel => exact ⟨j + 1, by omega, by omega, by go_num, by rw [hdiv.out]; go_num⟩
          case measure => simp [intOf]; omega
        · obtain rfl : j = 8 := by omega
          rw [← HX.out]
          have hXle : Xx l sz k < 18446744073709551616 := by
            rw [HX.out]; exact Nat.lt_of_le_of_lt (Nat.div_le_self _ _) hx2
          generalize Xx l sz k = X at *
          have hnum := Lib.hid (show numF (X : Int) (nn : Int) = beBytes X nn by rw [numF, if_neg (by omega)]; simp)
          have hbl := Lib.hid (beBytes_length X nn)
          go_wp2_with fail
          refine (num_any X nn wo (by omega)).mono ?_
          rintro e w3 ⟨v3, rfl, hown3, hb3⟩
          rw [hnum.out] at hown3
          rw [hbl.out] at hown3
          obtain ⟨a3, cap3, rfl, _⟩ := own_slice hown3
          have hr3 : Row .u8 w3 a3 nn cap3 (toI (beBytes X nn)) := by
            have := Row.of_own hown3
            obtain ⟨a', cap', e1, e2⟩ := this
            cases e1; exact e2
          have hob3 := own_below hob hb3
          have how3 := own_below how hb3
          have hB3 := below_then hB hb3
          have hB3s := hB3.size
          clear hob how hb3 hown3
          go_wp2_with (at_builtin; refine wpList_append_row rfl _ _ 24 rfl w1.heap.size 5 i0 _ 1 Try.underlying24 hi hz0 hz1 hz2 rfl _ _ _ rfl hob3 .u8 a3 nn cap3 (toI (beBytes X nn)) rfl hr3 (by unfold maxLen; omega) (by omega) hB3s ?_)
          intro bv4 w4 hob4 hg4
          have hB4 := hB3.grown hg4 hB3s (own_ge hob3)
          have how4 := how3.kept hg4 (own_types how3 hob3 (by decide))
          have hB4s := hB4.size
          clear hob3 how3 hg4
          go_wp2_with (at_builtin; refine wpList_append_row rfl _ _ 44 rfl w1.heap.size 22 j0 _ 8 Try.underlying44 hj hy0 hy1 hy2 rfl _ k _ rfl (how4.alloc _) .u64 (some ⟨w4.heap.size, 0, none⟩) 1 1 [(X : Int)] rfl (Row.made .u64 w4 22 [(X : Int)] rfl (by unfold maxLen; simp)) (by unfold maxLen; omega) (by omega) (by rw [World.size_alloc]; omega) ?_)
          intro wv5 w5 how5 hg5
          have hB5 := (hB4.alloc hB4s (.cells #[.int .u64 (X : Int)] 22)).grown hg5 (by rw [World.size_alloc]; omega) (own_ge how4)
          have hob5 := (hob4.alloc (.cells #[.int .u64 (X : Int)] 22)).kept hg5 (own_types (hob4.alloc (.cells #[.int .u64 (X : Int)] 22)) (how4.alloc (.cells #[.int .u64 (X : Int)] 22)) (by decide))
          have hob6 : w5.ownsRow w1.heap.size 5 1 bv4 (encN (Xx l sz) (Nn sz) (k + 1) 0).length ((toI (encN (Xx l sz) (Nn sz) (k + 1) 0)).map (Value.int .u8)) := by
            rw [HS.out, List.length_append, hbl.out, ← toI_append, List.map_append]
            exact hob5
          have how6 : w5.ownsRow w1.heap.size 22 1 wv5 (k + 1) ((Ww l sz (k + 1)).map (Value.int .u64)) := by
            rw [HW.out, List.map_append]
            exact how5
          clear hob4 how4 hg5 hob5 how5
          go_wp2
          go_roundw
          case rel => exact ⟨k + 1, by omega, by go_num, hob6, how6, hB5⟩
          case measure => simp [intOf]; omega
    · obtain rfl : k = n := by omega
      generalize hE : encN (Xx l sz) (Nn sz) k 0 = E at *
      have HE := Lib.hid hE
      clear hE
      go_wp2_with fail
      refine (text_any s wr hsl).mono ?_
      rintro e w3 ⟨v3, rfl, hown3, hb3⟩
      rw [hTx.out] at hown3
      obtain ⟨a3, cap3, rfl, _⟩ := own_slice hown3
      have hr3 : Row .u8 w3 a3 T.length cap3 (toI T) := Bs.own hown3
      have hob3 := own_below hob hb3
      have how3 := own_below how hb3
      have hB3 := below_then hB hb3
      have hB3s := hB3.size
      clear hob how hb3 hown3 cw
      go_wp2_with (at_builtin; refine wpList_append_row rfl _ _ 24 rfl w1.heap.size 5 i0 _ 1 Try.underlying24 hi hz0 hz1 hz2 rfl _ _ _ rfl hob3 .u8 a3 T.length cap3 (toI T) rfl hr3 (by unfold maxLen; omega) (by omega) hB3s ?_)
      intro bv4 w4 hob4 hg4
      have hB4 := hB3.grown hg4 hB3s (own_ge hob3)
      have how4 := how3.kept hg4 (own_types how3 hob3 (by decide))
      clear hob3 how3 hg4 hr3
      obtain ⟨F, hF⟩ : ∃ F, F = E ++ T := ⟨_, rfl⟩
      have hFl : F.length = E.length + T.length := by rw [hF]; simp
      have hob5 : w4.ownsRow w1.heap.size 5 1 bv4 F.length ((toI F).map (Value.int .u8)) := by
        rw [hFl, hF, ← toI_append, List.map_append]; exact hob4
      have HF := Lib.hid hF
      have HFL := Lib.hid hFl
      have hFlen : 1 ≤ F.length ∧ F.length ≤ 1000 := by omega
      clear hF hFl hob4
      obtain ⟨ab, capb, rfl, hbc1, hbc2, _⟩ := own_slice hob5
      have hbsB : Bs w4 ab F.length capb F := Bs.own hob5
      obtain ⟨aw, capw, rfl, hrw⟩ := Row.of_own how4
      have hwc1 := hrw.2.1
      have hwc2 := hrw.2.2.1
      clear hob5 how4
      unfold maxLen at hbc2 hwc2
      have c4 := below_then c1 hB4
      go_wp2_with fail
      refine (take_any ab F.length capb F w4 hbsB (by omega)).mono ?_
      rintro e w5 ⟨rfl, htk, htn, hb5⟩
      obtain ⟨t, ht⟩ : ∃ t, t = w5.heap.size - 1 := ⟨_, rfl⟩
      rw [← ht] at htk htn ⊢
      clear ht
      have hstart : F = encN (Xx l sz) (Nn sz) (k - 0) 0 ++ T := by rw [HF.out, ← HE.out]; rfl
      rw [hstart] at htk
      have HST := Lib.hid hstart
      clear hstart
      go_wp2
      go_loopw [15] (fun i wr => ∃ j : Nat, j ≤ k ∧ i = .int .i64 j ∧ Tk wr t ⟨encN (Xx l sz) (Nn sz) (k - j) j ++ T, 0⟩ ∧ Below w4.heap.size w4 wr) (fun i _ => k - (intOf i).toNat)
      case atStart => exact ⟨0, Nat.zero_le _, rfl, htk, hb5⟩
      case round =>
        obtain ⟨j, hj', rfl, htk, hB6⟩ := hrel
        have cw := below_then c4 hB6
        by_cases hjl : j < k
        · have hrz := hz.below (Nat.le_refl _) cw
          rcases hrw.2.2.2.2 with h0 | ⟨b, off, rfl, hbb, hcell⟩
          · omega
          obtain ⟨b2, off2, rfl, hbb2, hcell2⟩ := hrz.cell (k := j) (by omega)
          have hck4 := hcell j hjl
          have hck2 := hcell2 j (by omega)
          have hWj : (Ww l sz k)[j]?.getD 0 = (Xx l sz j : Int) := by simp [Ww, hjl]
          rw [hWj] at hck4
          have hck := (hB6.cell (p := ⟨b, off + j, none⟩) hbb).trans hck4
          have henc : encN (Xx l sz) (Nn sz) (k - j) j = beBytes (Xx l sz j) (Nn sz j) ++ encN (Xx l sz) (Nn sz) (k - (j + 1)) (j + 1) := by
            have e : k - j = (k - (j + 1)) + 1 := by omega
            rw [e]; rfl
          have hNd : Nn sz j = (sz[j]?.getD 0).toNat % 8 + 1 := rfl
          have hnl := Nn_le sz j
          have hnum := tNum_be (Xx l sz j) (Nn sz j) (by unfold Nn; omega) hnl (Xx_lt l sz j (hlb j).1) (encN (Xx l sz) (Nn sz) (k - (j + 1)) (j + 1) ++ T)
          rw [← List.append_assoc, ← henc] at hnum
          have hlenj := encN_length (Xx l sz) (Nn sz) (Nn_le sz) (k - j) j
          have hcb : (sz[j]?.getD 0).toNat < 256 := (sz[j]?.getD 0).toNat_lt
          generalize (sz[j]?.getD 0).toNat = c at *
          generalize Nn sz j = nn at *
          generalize Xx l sz j = X at *
          have hnn : (c : Int) % 8 + 1 = (nn : Int) := by omega
          have hcall := fun W h => tNum_any t ⟨encN (Xx l sz) (Nn sz) (k - j) j ++ T, 0⟩ (nn : Int) W h (by simp; omega)
          rw [hnum] at hcall
          dsimp only at hcall
          have e1 : IntKind.i64.wrap ((c : Int).tmod 8) = (c : Int) % 8 := by
            rw [Int.tmod_eq_emod_of_nonneg (by omega)]
            exact IntWalk.i64_in _ (by omega)
          have e2 : IntKind.i64.wrap ((c : Int) % 8 + 1) = (nn : Int) := by
            rw [← hnn]
            exact IntWalk.i64_in _ (by omega)
          clear henc hNd hWj hcell hcell2 hrz hnum hnn
          go_wp2_with fail
          go_region_with (go_at_call 14; refine (hcall _ htk.drew).mono ?_; rintro e w7 ⟨_, rfl, rfl, hg7, htk7⟩; have hck7 := ((below_take hB6.drew htn hg7).cell (p := ⟨b, off + j, none⟩) hbb).trans hck4)
          all_goals
            have hB7 := below_take hB6.drew htn hg7
            clear hck hck2 hck7 hcall e1 e2 hck4
            go_wp2
            go_roundw
            case rel => exact ⟨j + 1, by omega, by go_num, htk7, hB7⟩
            case measure => simp [intOf]; omega
        · obtain rfl : j = k := by omega
          rw [Nat.sub_self] at htk
          have htk : Tk wr t ⟨T, 0⟩ := htk
          go_wp2_with fail
          refine (tText_any t ⟨T, 0⟩ wr htk (by simp; omega)).mono ?_
          rintro e w7 ⟨_, rfl, rfl, hg7, htk7⟩
          rw [HTs.out] at htk7 ⊢
          have hB7 := below_take hB6 htn hg7
          go_wp2_with fail
          refine (tDone_any t _ w7 htk7).mono ?_
          rintro e w8 ⟨rfl, rfl⟩
          rw [show tDone ⟨[], 0⟩ = 0 from by decide]
          have hdl : F.take (F.length - 1) = encN (Xx l sz) (Nn sz) (j - 0) 0 ++ T.dropLast := by
            rw [← List.dropLast_eq_take, HST.out]
            exact dropLast_append_ne (fun e => by rw [e] at hTb; simp at hTb)
          have hbs7 := (hbsB.below (Nat.le_refl _) hB7).take (F.length - 1) (by omega)
          rw [hdl] at hbs7
          have c7 := below_then c4 hB7
          clear hdl htk htk7 hg7 hB6 hB7 hbsB hrw htn
          go_wp2_with fail
          refine (take_any ab (F.length - 1) capb _ w7 hbs7 (by omega)).mono ?_
          rintro e w8 ⟨rfl, htk, htn, hb8⟩
          obtain ⟨u, hu⟩ : ∃ u, u = w8.heap.size - 1 := ⟨_, rfl⟩
          rw [← hu] at htk htn ⊢
          clear hu
          have huw : w.heap.size ≤ u := Nat.le_trans c7.size htn
          have c8 := below_then c7 hb8
          clear hb8 htn hbs7
          go_wp2
          go_loopw [17] (fun i wr => ∃ i' : Nat, i' ≤ j ∧ i = .int .i64 i' ∧ Tk wr u ⟨encN (Xx l sz) (Nn sz) (j - i') i' ++ T.dropLast, 0⟩ ∧ Below w.heap.size w wr) (fun i _ => j - (intOf i).toNat)
          case atStart => exact ⟨0, Nat.zero_le _, rfl, htk, c8⟩
          case round =>
            obtain ⟨i', hi', rfl, htk, cw⟩ := hrel
            by_cases hil : i' < j
            · have hrz := hz.below (Nat.le_refl _) cw
              obtain ⟨b2, off2, rfl, hbb2, hcell2⟩ := hrz.cell (k := i') (by omega)
              have hck2 := hcell2 i' (by omega)
              have henc : encN (Xx l sz) (Nn sz) (j - i') i' = beBytes (Xx l sz i') (Nn sz i') ++ encN (Xx l sz) (Nn sz) (j - (i' + 1)) (i' + 1) := by
                have e : j - i' = (j - (i' + 1)) + 1 := by omega
                rw [e]; rfl
              have hNd : Nn sz i' = (sz[i']?.getD 0).toNat % 8 + 1 := rfl
              have hnl := Nn_le sz i'
              have hnum := tNum_be (Xx l sz i') (Nn sz i') (by unfold Nn; omega) hnl (Xx_lt l sz i' (hlb i').1) (encN (Xx l sz) (Nn sz) (j - (i' + 1)) (i' + 1) ++ T.dropLast)
              rw [← List.append_assoc, ← henc] at hnum
              have hlenj := encN_length (Xx l sz) (Nn sz) (Nn_le sz) (j - i') i'
              have hcb : (sz[i']?.getD 0).toNat < 256 := (sz[i']?.getD 0).toNat_lt
              generalize (sz[i']?.getD 0).toNat = c at *
              generalize Nn sz i' = nn at *
              have hnn : (c : Int) % 8 + 1 = (nn : Int) := by omega
              have hcall := tNum_any u ⟨encN (Xx l sz) (Nn sz) (j - i') i' ++ T.dropLast, 0⟩ (nn : Int) wr htk (by simp; omega)
              rw [hnum] at hcall
              dsimp only at hcall
              clear henc hNd hcell2 hrz hnum
              go_wp2_with fail
              refine hcall.mono ?_
              rintro e w9 ⟨_, rfl, rfl, hg9, htk9⟩
              have cw9 := below_take cw huw hg9
              clear hck2 hcall
              go_wp2
              go_roundw
              case rel => exact ⟨i' + 1, by omega, by go_num, htk9, cw9⟩
              case measure => simp [intOf]; omega
            · obtain rfl : i' = j := by omega
              rw [Nat.sub_self] at htk
              have htk : Tk wr u ⟨T.dropLast, 0⟩ := htk
              go_wp2_with fail
              refine (tText_any u ⟨T.dropLast, 0⟩ wr htk (by simp; omega)).mono ?_
              rintro e w9 ⟨_, rfl, rfl, hg9, htk9⟩
              have cw9 := below_take cw huw hg9
              have hD : tDone (tText ⟨T.dropLast, 0⟩).2 = 10 := by
                have := HTd.out
                simp [tDone, this]
              have HD := Lib.hid hD
              clear hD
              go_wp2_with fail
              refine (tDone_any u _ w9 htk9).mono ?_
              rintro e w10 ⟨rfl, rfl⟩
              rw [HD.out]
              go_wp2
              go_ret
              exact ⟨rfl, cw9⟩
end Go.Proofs.Ytiaojbllbkgocaa
