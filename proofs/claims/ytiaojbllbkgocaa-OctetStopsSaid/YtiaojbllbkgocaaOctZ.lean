/- The statement that once something went wrong nothing more is taken. -/
import Derived.Test.YtiaojbllbkgocaaOctK
namespace Go.Proofs.Ytiaojbllbkgocaa
open Go.RowKit

set_option maxRecDepth 100000 in
set_option maxHeartbeats 4000000 in
theorem stops_any (a : Option Addr) (len cap : Nat) (l : List UInt8) (a1 : Option Addr) (n1 cap1 : Nat) (z : List (Int × Int)) (w : World) (hb : Bs w a len cap l) (hs : Steps w a1 n1 cap1 z) :
    Calls Try.prog 6 #[.slice a len cap, .slice a1 n1 cap1] w fun e w' => e = .returned (.bool true) ∧ Below w.heap.size w w' := by
  have hst := strOf_toList
  have hm := hb.cap
  have hm1 := hs.2.2.1
  have hm2 := hs.2.1
  unfold maxLen at hm hm1
  by_cases hbig : 3000 < len
  · go_enter Try.func6, Try.ntmps6
    go_wp2_with fail
    refine (awake_any w).mono ?_
    rintro e w1 ⟨rfl, c1⟩
    go_wp2
    go_ret
    exact ⟨rfl, c1⟩
  by_cases hbig1 : 60 < n1
  · go_enter Try.func6, Try.ntmps6
    go_wp2_with fail
    refine (awake_any w).mono ?_
    rintro e w1 ⟨rfl, c1⟩
    go_wp2
    go_ret
    exact ⟨rfl, c1⟩
  have hbA : decide ((3000 : Int) < (len : Int)) = false := by simp; omega
  have hbB : decide ((60 : Int) < (n1 : Int)) = false := by simp; omega
  have hbA' : decide (3000 < len) = false := by simp; omega
  have hbB' : decide (60 < n1) = false := by simp; omega
  have hlen := Lib.hid hb.len
  go_enter Try.func6, Try.ntmps6
  go_wp2_with fail
  refine (awake_any w).mono ?_
  rintro e w1 ⟨rfl, c1⟩
  have hb1 := hb.below (Nat.le_refl _) c1
  go_wp2_with fail
  refine (take_any a len cap l w1 hb1 (by omega)).mono ?_
  rintro e w2 ⟨rfl, htk, htn, hb2⟩
  obtain ⟨t, ht⟩ : ∃ t, t = w2.heap.size - 1 := ⟨_, rfl⟩
  rw [← ht] at htk htn ⊢
  clear ht
  have c2 := below_then c1 hb2
  have htw : w.heap.size ≤ t := Nat.le_trans c1.size htn
  clear hb2 htn hb1 c1
  go_wp2_with fail
  refine (tErr_any t _ w2 htk).mono ?_
  rintro e w3 ⟨rfl, rfl⟩
  go_wp2
  go_loopw [7, 8] (fun e i wr => ∃ (k : Nat) (s : TSt), k ≤ n1 ∧ i = .int .i64 k ∧ e = .int .i64 s.e ∧ OkE s.e ∧ Tk wr t s ∧ s.l.length ≤ 3000 ∧ Below w.heap.size w wr) (fun _ i _ => n1 - (intOf i).toNat)
  case atStart => exact ⟨0, ⟨l, 0⟩, Nat.zero_le _, rfl, rfl, .inl rfl, htk, by rw [hlen.out]; omega, c2⟩
  case round =>
    obtain ⟨k, s, hk, rfl, rfl, hok, htk, hsl, hbw⟩ := hrel
    by_cases hlt : k < n1
    · obtain ⟨b, off, y, rfl, hbs, hc0, hc1⟩ := hs.at hlt
      have hd0 := (hbw.cell (p := ⟨b, off + k * 2, none⟩) hbs).trans hc0
      have hd1 := (hbw.cell (p := ⟨b, off + k * 2 + 1, none⟩) hbs).trans hc1
      obtain ⟨y0, y1⟩ := y
      dsimp only at hd0 hd1
      clear hc0 hc1
      go_wp2_with fail
      refine (tDone_any t _ wr htk).mono ?_
      rintro e w3 ⟨rfl, rfl⟩
      by_cases h0 : y0 = 0
      · have h0b : (y0 == 0) = true := by simpa using h0
        clear h0
        have hstep : (tNum s y1).2.l.length ≤ s.l.length := tNum_len _ _
        have ht := tNum_any t s y1 wr htk (by omega)
        have hf : OkE (tNum s y1).2.e ∧ _ := tNum_facts s y1 hok
        obtain ⟨v, s3, he⟩ : ∃ v s3, tNum s y1 = (v, s3) := ⟨_, _, rfl⟩
        rw [he] at ht hf hstep
        dsimp only at ht hf hstep
        clear he
        obtain ⟨hok3, hf⟩ := hf
        rcases hf with ⟨f1, f2⟩ | ⟨f1, f2⟩ | ⟨f1, f2, f3⟩
        · cases f2
          have g1 : (s.e != 0) = true := by simpa using f1
          have g2 : (s.e == 0) = false := by simpa using f1
          clear f1
          go_wp2_with fail
          refine ht.mono ?_
          rintro e w3 ⟨_, rfl, rfl, hg2, htk2⟩
          go_wp2_with fail
          refine (tErr_any t s w3 htk2).mono ?_
          rintro e w4 ⟨rfl, rfl⟩
          go_wp2_with fail
          refine (tDone_any t s w3 htk2).mono ?_
          rintro e w4 ⟨rfl, rfl⟩
          go_wp2_with fail
          refine (tErr_any t s w3 htk2).mono ?_
          rintro e w4 ⟨rfl, rfl⟩
          go_wp2
          go_roundw
          case rel => exact ⟨k + 1, s, by omega, by go_num, rfl, hok3, htk2, by omega, below_take hbw htw hg2⟩
          case measure => simp [intOf]; omega
        · rw [f1]
          have g1 : (s3.e != 0) = false := by simp [f2]
          have F2 := Lib.hid f2
          clear f1 f2
          go_wp2_with fail
          refine ht.mono ?_
          rintro e w3 ⟨_, rfl, rfl, hg2, htk2⟩
          go_wp2_with fail
          refine (tErr_any t s3 w3 htk2).mono ?_
          rintro e w4 ⟨rfl, rfl⟩
          go_wp2
          go_roundw
          case rel => exact ⟨k + 1, s3, by omega, by go_num, rfl, hok3, htk2, by omega, below_take hbw htw hg2⟩
          case measure => simp [intOf]; omega
        · rw [f1]
          subst f3
          have g1 : (s3.e != 0) = true := by simpa using f2
          have g2 : (s3.e == 0) = false := by simpa using f2
          clear f1 f2
          go_wp2_with fail
          refine ht.mono ?_
          rintro e w3 ⟨_, rfl, rfl, hg2, htk2⟩
          go_wp2_with fail
          refine (tErr_any t s3 w3 htk2).mono ?_
          rintro e w4 ⟨rfl, rfl⟩
          go_wp2
          go_roundw
          case rel => exact ⟨k + 1, s3, by omega, by go_num, rfl, hok3, htk2, by omega, below_take hbw htw hg2⟩
          case measure => simp [intOf]; omega
      · have h0b : (y0 == 0) = false := by simpa using h0
        by_cases h1 : y0 = 1
        · have h1b : (y0 == 1) = true := by simpa using h1
          clear h0 h1
          have hstep : (tText s).2.l.length ≤ s.l.length := Nat.le_trans (takeF_len _ _) (tNum_len _ _)
          have ht := tText_any t s wr htk (by omega)
          have hf : OkE (tText s).2.e ∧ _ := tText_facts s hok
          obtain ⟨v, s3, he⟩ : ∃ v s3, tText s = (v, s3) := ⟨_, _, rfl⟩
          rw [he] at ht hf hstep
          dsimp only at ht hf hstep
          clear he
          obtain ⟨hok3, hf⟩ := hf
          rcases hf with ⟨f1, f2⟩ | ⟨f1, f2⟩ | ⟨f1, f2, f3⟩
          · cases f2
            have g1 : (s.e != 0) = true := by simpa using f1
            have g2 : (s.e == 0) = false := by simpa using f1
            clear f1
            go_wp2_with fail
            refine ht.mono ?_
            rintro e w3 ⟨_, rfl, rfl, hg2, htk2⟩
            go_wp2_with fail
            refine (tErr_any t s w3 htk2).mono ?_
            rintro e w4 ⟨rfl, rfl⟩
            go_wp2_with fail
            refine (tDone_any t s w3 htk2).mono ?_
            rintro e w4 ⟨rfl, rfl⟩
            go_wp2_with fail
            refine (tErr_any t s w3 htk2).mono ?_
            rintro e w4 ⟨rfl, rfl⟩
            go_wp2
            go_roundw
            case rel => exact ⟨k + 1, s, by omega, by go_num, rfl, hok3, htk2, by omega, below_take hbw htw hg2⟩
            case measure => simp [intOf]; omega
          · rw [f1]
            have g1 : (s3.e != 0) = false := by simp [f2]
            have F2 := Lib.hid f2
            clear f1 f2
            go_wp2_with fail
            refine ht.mono ?_
            rintro e w3 ⟨_, rfl, rfl, hg2, htk2⟩
            go_wp2_with fail
            refine (tErr_any t s3 w3 htk2).mono ?_
            rintro e w4 ⟨rfl, rfl⟩
            go_wp2
            go_roundw
            case rel => exact ⟨k + 1, s3, by omega, by go_num, rfl, hok3, htk2, by omega, below_take hbw htw hg2⟩
            case measure => simp [intOf]; omega
          · rw [f1]
            subst f3
            have g1 : (s3.e != 0) = true := by simpa using f2
            have g2 : (s3.e == 0) = false := by simpa using f2
            clear f1 f2
            go_wp2_with fail
            refine ht.mono ?_
            rintro e w3 ⟨_, rfl, rfl, hg2, htk2⟩
            go_wp2_with fail
            refine (tErr_any t s3 w3 htk2).mono ?_
            rintro e w4 ⟨rfl, rfl⟩
            go_wp2
            go_roundw
            case rel => exact ⟨k + 1, s3, by omega, by go_num, rfl, hok3, htk2, by omega, below_take hbw htw hg2⟩
            case measure => simp [intOf]; omega
        · have h1b : (y0 == 1) = false := by simpa using h1
          clear h0 h1
          have hstep : (tRest s).2.l.length ≤ s.l.length := takeF_len _ _
          have ht := tRest_any t s wr htk (by omega)
          have hf : OkE (tRest s).2.e ∧ ((s.e ≠ 0 ∧ tRest s = ([], s)) ∨ (s.e = 0 ∧ (tRest s).2.e = 0) ∨ (s.e = 0 ∧ (tRest s).2.e ≠ 0 ∧ (tRest s).1 = [])) := takeF_facts s s.l.length hok
          obtain ⟨v, s3, he⟩ : ∃ v s3, tRest s = (v, s3) := ⟨_, _, rfl⟩
          rw [he] at ht hf hstep
          dsimp only at ht hf hstep
          clear he
          obtain ⟨hok3, hf⟩ := hf
          rcases hf with ⟨f1, f2⟩ | ⟨f1, f2⟩ | ⟨f1, f2, f3⟩
          · cases f2
            have g1 : (s.e != 0) = true := by simpa using f1
            have g2 : (s.e == 0) = false := by simpa using f1
            clear f1
            go_wp2_with fail
            refine ht.mono ?_
            rintro e w3 ⟨_, rfl, hown, hg2, htk2⟩
            obtain ⟨ax, capx, rfl, hbsx⟩ := Bs.of_own hown
            have hcv2 := conv_string Try.underlying24 Try.underlying5 Try.underlying9 hbsx
            clear hown
            dsimp only [List.length_nil] at hcv2
            go_wp2_with fail
            refine (tErr_any t s w3 htk2).mono ?_
            rintro e w4 ⟨rfl, rfl⟩
            go_wp2_with fail
            refine (tDone_any t s w3 htk2).mono ?_
            rintro e w4 ⟨rfl, rfl⟩
            go_wp2_with fail
            refine (tErr_any t s w3 htk2).mono ?_
            rintro e w4 ⟨rfl, rfl⟩
            go_wp2
            go_roundw
            case rel => exact ⟨k + 1, s, by omega, by go_num, rfl, hok3, htk2, by omega, below_take hbw htw hg2⟩
            case measure => simp [intOf]; omega
          · rw [f1]
            have g1 : (s3.e != 0) = false := by simp [f2]
            have F2 := Lib.hid f2
            clear f1 f2
            go_wp2_with fail
            refine ht.mono ?_
            rintro e w3 ⟨_, rfl, hown, hg2, htk2⟩
            obtain ⟨ax, capx, rfl, hbsx⟩ := Bs.of_own hown
            have hcv2 := conv_string Try.underlying24 Try.underlying5 Try.underlying9 hbsx
            clear hown
            go_wp2_with fail
            refine (tErr_any t s3 w3 htk2).mono ?_
            rintro e w4 ⟨rfl, rfl⟩
            go_wp2
            go_roundw
            case rel => exact ⟨k + 1, s3, by omega, by go_num, rfl, hok3, htk2, by omega, below_take hbw htw hg2⟩
            case measure => simp [intOf]; omega
          · rw [f1]
            subst f3
            have g1 : (s3.e != 0) = true := by simpa using f2
            have g2 : (s3.e == 0) = false := by simpa using f2
            clear f1 f2
            go_wp2_with fail
            refine ht.mono ?_
            rintro e w3 ⟨_, rfl, hown, hg2, htk2⟩
            obtain ⟨ax, capx, rfl, hbsx⟩ := Bs.of_own hown
            have hcv2 := conv_string Try.underlying24 Try.underlying5 Try.underlying9 hbsx
            clear hown
            dsimp only [List.length_nil] at hcv2
            go_wp2_with fail
            refine (tErr_any t s3 w3 htk2).mono ?_
            rintro e w4 ⟨rfl, rfl⟩
            go_wp2
            go_roundw
            case rel => exact ⟨k + 1, s3, by omega, by go_num, rfl, hok3, htk2, by omega, below_take hbw htw hg2⟩
            case measure => simp [intOf]; omega
    · obtain rfl : k = n1 := by omega
      rcases hok with h | h | h
      all_goals
        rw [h]
        go_wp2
        go_ret
        exact ⟨rfl, hbw⟩
end Go.Proofs.Ytiaojbllbkgocaa
