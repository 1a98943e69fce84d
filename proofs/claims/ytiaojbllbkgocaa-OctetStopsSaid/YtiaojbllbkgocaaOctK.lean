/- The statement on what is taken, step by step. -/
import Derived.Test.YtiaojbllbkgocaaOctL
import Derived.Test.YtiaojbllbkgocaaRec
namespace Go.Proofs.Ytiaojbllbkgocaa
open Go.RowKit

theorem cells_step : Try.prog.cellsOf 38 = 2 := by kernel_rfl
theorem cells_int : Try.prog.cellsOf 3 = 1 := by kernel_rfl
/-- Steps that came in. -/
def Steps (w : World) (a : Option Addr) (len cap : Nat) (l : List (Int × Int)) : Prop := TabR 2 IsPair w a len cap l
theorem open_steps {H : Type} {enc : TypeId × Value → H} {w : World} {base : Nat} {v : Value} {d : DataW H} {p : List MemPlace} (hv : Value.okWide Try.prog w .any base 30 v) (h : DataW.Trod enc Try.prog w 0 (fun _ => true) true 30 v d p) :
    ∃ a len cap l, v = .slice a len cap ∧ Steps w a len cap l :=
  open_tab Try.underlying30 cells_step (by decide) IsPair (read_pair Try.underlying38 rfl rfl cells_int cells_int Try.underlying3 Try.underlying3) hv h

theorem Steps.at {w : World} {a : Option Addr} {len cap : Nat} {l : List (Int × Int)} (h : Steps w a len cap l) {k : Nat} (hk : k < len) :
    ∃ b off, ∃ y : Int × Int, a = some ⟨b, off, none⟩ ∧ b < w.heap.size ∧ w.cell? ⟨b, off + k * 2, none⟩ = some (.int .i64 y.1) ∧ w.cell? ⟨b, off + k * 2 + 1, none⟩ = some (.int .i64 y.2) := by
  obtain ⟨b, off, y, cs, e1, e2, _, _, e5, e6⟩ := TabR.at h hk
  subst e5
  exact ⟨b, off, y, e1, e2, e6 0 _ rfl, e6 1 _ rfl⟩

def stepT (s : TSt) (y : Int × Int) : TSt := if y.1 = 0 then (tNum s y.2).2 else if y.1 = 1 then (tText s).2 else if y.1 = 2 then (tRest s).2 else s

set_option maxRecDepth 100000 in
set_option maxHeartbeats 4000000 in
theorem takes_any (a : Option Addr) (len cap : Nat) (l : List UInt8) (a1 : Option Addr) (n1 cap1 : Nat) (z : List (Int × Int)) (w : World) (hb : Bs w a len cap l) (hs : Steps w a1 n1 cap1 z) :
    Calls Try.prog 4 #[.slice a len cap, .slice a1 n1 cap1] w fun e w' => e = .returned (.bool true) ∧ Below w.heap.size w w' := by
  have hst := strOf_toList
  have hm := hb.cap
  have hm1 := hs.2.2.1
  have hm2 := hs.2.1
  unfold maxLen at hm hm1
  by_cases hbig : 3000 < len
  · go_enter Try.func4, Try.ntmps4
    go_wp2_with fail
    refine (awake_any w).mono ?_
    rintro e w1 ⟨rfl, c1⟩
    go_wp2
    go_ret
    exact ⟨rfl, c1⟩
  by_cases hbig1 : 60 < n1
  · go_enter Try.func4, Try.ntmps4
    go_wp2_with fail
    refine (awake_any w).mono ?_
    rintro e w1 ⟨rfl, c1⟩
    go_wp2
    go_ret
    exact ⟨rfl, c1⟩
  have hbA : decide ((3000 : Int) < (len : Int)) = false := by simp; omega
  have hbB : decide ((60 : Int) < (n1 : Int)) = false := by simp; omega
  have hbA' : decide (3000 < len) = false := by simp; omega
  have hbB' : decide (60 < n1) = false := by simp; omega
  have hlen := Lib.hid hb.len
  go_enter Try.func4, Try.ntmps4
  go_wp2_with fail
  refine (awake_any w).mono ?_
  rintro e w1 ⟨rfl, c1⟩
  have hb1 := hb.below (Nat.le_refl _) c1
  have hs1 := TabR.below (Nat.le_refl _) c1 hs
  go_wp2_with fail
  refine (take_any a len cap l w1 hb1 (by omega)).mono ?_
  rintro e w2 ⟨rfl, htk, htn, hb2⟩
  obtain ⟨t, ht⟩ : ∃ t, t = w2.heap.size - 1 := ⟨_, rfl⟩
  rw [← ht] at htk htn ⊢
  clear ht
  have c2 := below_then c1 hb2
  have hcv := conv_string Try.underlying24 Try.underlying5 Try.underlying9 (hb1.below (Nat.le_refl _) hb2)
  have hrt : Rt (w2.alloc (.cells #[.string (strOf l), .int .i64 0] 36)) w2.heap.size ⟨l, 0⟩ := World.alloc_heap_new w2 _
  have c3 := c2.alloc c2.size (.cells #[.string (strOf l), .int .i64 0] 36)
  have htk3 := htk.below (Nat.le_refl _) ((Below.refl w2.heap.size w2).alloc (Nat.le_refl _) (.cells #[.string (strOf l), .int .i64 0] 36))
  have htw : w.heap.size ≤ t := Nat.le_trans c1.size htn
  have htr : t < w2.heap.size := htk.lt
  have hrw : w.heap.size ≤ w2.heap.size := c2.size
  obtain ⟨w3, hw3⟩ : ∃ w3, w3 = w2.alloc (.cells #[.string (strOf l), .int .i64 0] 36) := ⟨_, rfl⟩
  obtain ⟨r, hr⟩ : ∃ r, r = w2.heap.size := ⟨_, rfl⟩
  go_wp2
  rw [← hw3] at hrt c3 htk3 ⊢
  rw [← hr] at hrt htr hrw ⊢
  clear hw3 hr hcv hb2 htk c2 htn hb1 c1 hs1
  go_loopw [8] (fun i wr => ∃ (k : Nat) (s : TSt), k ≤ n1 ∧ i = .int .i64 k ∧ Tk wr t s ∧ Rt wr r s ∧ s.l.length ≤ 3000 ∧ Below w.heap.size w wr) (fun i _ => n1 - (intOf i).toNat)
  case atStart => exact ⟨0, ⟨l, 0⟩, Nat.zero_le _, rfl, htk3, hrt, by rw [hlen.out]; omega, c3⟩
  case round =>
    obtain ⟨k, s, hk, rfl, htk, hrt, hsl, hbw⟩ := hrel
    by_cases hlt : k < n1
    · obtain ⟨b, off, y, rfl, hbs, hc0, hc1⟩ := hs.at hlt
      have hd0 := (hbw.cell (p := ⟨b, off + k * 2, none⟩) hbs).trans hc0
      have hd1 := (hbw.cell (p := ⟨b, off + k * 2 + 1, none⟩) hbs).trans hc1
      obtain ⟨y0, y1⟩ := y
      dsimp only at hd0 hd1 hc0 hc1
      by_cases h0 : y0 = 0
      · have h0b : (y0 == 0) = true := by simpa using h0
        have hstep : (tNum s y1).2.l.length ≤ s.l.length := tNum_len _ _
        have ht := fun W h => tNum_any t s y1 W h (by omega)
        have hr := fun W h => rNum_any r s y1 W h (by omega)
        obtain ⟨v, s3, he⟩ : ∃ v s3, tNum s y1 = (v, s3) := ⟨_, _, rfl⟩
        rw [he] at ht hr hstep
        dsimp only at ht hr hstep
        clear he h0
        go_wp2_with fail
        go_region_with (first | (go_at_call 14; refine (ht _ htk.drew).mono ?_; rintro e w2 ⟨_, rfl, rfl, hg2, htk2⟩; have hrt2 := hrt.drew.grown hg2 (fun e => by cases e; omega); have hd2 : w2.cell? ⟨b, off + k * 2 + 1, none⟩ = some (.int .i64 y1) := ((below_take hbw.drew htw hg2).cell (p := ⟨b, off + k * 2 + 1, none⟩) hbs).trans hc1) | (go_at_call 15; refine (hr _ hrt2).mono ?_; rintro e w3 ⟨rfl, hg3, hrt3⟩; have htk3 := htk2.other hrt2 hg3 (by omega)))
        all_goals
          clear hd0 hd1 htk hrt hd2 ht hr
          have herr := hrt3.err
          go_wp2_with fail
          go_quiet (first | (go_at_call 20; exact quiet_same (tErr_any t s3 _ (htk3.drewN _))) | (go_at_call 21; exact quiet_same (tDone_any t s3 _ (htk3.drewN _))) | (go_at_call 22; exact quiet_same (rDone_any r s3 _ (hrt3.drewN _))))
          go_wp2
          go_roundw
          case rel => exact ⟨k + 1, s3, by omega, by go_num, htk3.drewN _, hrt3.drewN _, by omega, below_drewN (below_take (below_take hbw.drew htw hg2) hrw hg3) _⟩
          case measure => simp [intOf]; omega
      · have h0b : (y0 == 0) = false := by simpa using h0
        by_cases h1 : y0 = 1
        · have h1b : (y0 == 1) = true := by simpa using h1
          have hstep : (tText s).2.l.length ≤ s.l.length := Nat.le_trans (takeF_len _ _) (tNum_len _ _)
          have ht := tText_any t s wr htk (by omega)
          have hr := fun W h => rText_any r s W h (by omega)
          obtain ⟨v, s3, he⟩ : ∃ v s3, tText s = (v, s3) := ⟨_, _, rfl⟩
          rw [he] at ht hr hstep
          dsimp only at ht hr hstep
          clear he h0 h1
          go_wp2_with fail
          refine ht.mono ?_
          rintro e w2 ⟨_, rfl, rfl, hg2, htk2⟩
          have hrt2 := hrt.grown hg2 (fun e => by cases e; omega)
          go_wp2_with fail
          refine (hr w2 hrt2).mono ?_
          rintro e w3 ⟨rfl, hg3, hrt3⟩
          have htk3 := htk2.other hrt2 hg3 (by omega)
          clear hr hd0 hd1 htk hrt
          have herr := hrt3.err
          go_wp2_with fail
          go_quiet (first | (go_at_call 20; exact quiet_same (tErr_any t s3 _ (htk3.drewN _))) | (go_at_call 21; exact quiet_same (tDone_any t s3 _ (htk3.drewN _))) | (go_at_call 22; exact quiet_same (rDone_any r s3 _ (hrt3.drewN _))))
          go_wp2
          go_roundw
          case rel => exact ⟨k + 1, s3, by omega, by go_num, htk3.drewN _, hrt3.drewN _, by omega, below_drewN (below_take (below_take hbw htw hg2) hrw hg3) _⟩
          case measure => simp [intOf]; omega
        · have h1b : (y0 == 1) = false := by simpa using h1
          by_cases h2 : y0 = 2
          · have h2b : (y0 == 2) = true := by simpa using h2
            have hstep : (tRest s).2.l.length ≤ s.l.length := takeF_len _ _
            have ht := fun W h => tRest_any t s W h (by omega)
            have hr := fun W h => rRest_any r s W h (by omega)
            obtain ⟨v, s3, he⟩ : ∃ v s3, tRest s = (v, s3) := ⟨_, _, rfl⟩
            rw [he] at ht hr hstep
            dsimp only at ht hr hstep
            clear he h0 h1 h2
            go_wp2_with fail
            go_region_with (first | (go_at_call 18; refine (ht _ htk.drew).mono ?_; rintro e w2 ⟨_, rfl, hown, hg2, htk2⟩; have hrt2 := hrt.drew.grown hg2 (fun e => by cases e; omega); have hxw := own_ge hown; obtain ⟨ax, capx, rfl, hbsx⟩ := Bs.of_own hown; have hcv2 := conv_string Try.underlying24 Try.underlying5 Try.underlying9 hbsx) | (go_at_call 19; refine (hr _ hrt2).mono ?_; rintro e w3 ⟨rfl, hg3, hrt3⟩; have htk3 := htk2.other hrt2 hg3 (by omega); have hcv3 := conv_string Try.underlying24 Try.underlying5 Try.underlying9 (hbsx.grown hg3 (fun b off _ ha e => by cases e; subst ha; have h5 := hxw r rfl; have h6 := hrt.lt; have h7 : wr.drew.heap.size = wr.heap.size := rfl; omega))))
            all_goals
              clear hd0 hd1 htk hrt ht hr hcv2 hcv3 hbsx hown hxw
              have herr := hrt3.err
              go_wp2_with fail
              go_quiet (first | (go_at_call 20; exact quiet_same (tErr_any t s3 _ (htk3.drewN _))) | (go_at_call 21; exact quiet_same (tDone_any t s3 _ (htk3.drewN _))) | (go_at_call 22; exact quiet_same (rDone_any r s3 _ (hrt3.drewN _))))
              go_wp2
              go_roundw
              case rel => exact ⟨k + 1, s3, by omega, by go_num, htk3.drewN _, hrt3.drewN _, by omega, below_drewN (below_take (below_take hbw.drew htw hg2) hrw hg3) _⟩
              case measure => simp [intOf]; omega
          · have h2b : (y0 == 2) = false := by simpa using h2
            clear h0 h1 h2
            have herr := hrt.err
            go_wp2_with fail
            go_quiet (first | (go_at_call 20; exact quiet_same (tErr_any t s _ (htk.drewN _))) | (go_at_call 21; exact quiet_same (tDone_any t s _ (htk.drewN _))) | (go_at_call 22; exact quiet_same (rDone_any r s _ (hrt.drewN _))))
            go_wp2
            go_roundw
            case rel => exact ⟨k + 1, s, by omega, by go_num, htk.drewN _, hrt.drewN _, by omega, below_drewN (hbw) _⟩
            case measure => simp [intOf]; omega
    · obtain rfl : k = n1 := by omega
      go_wp2_with fail
      refine (tNum_nil 1 wr).mono ?_
      rintro e w4 ⟨rfl, rfl⟩
      go_wp2_with fail
      refine (tText_nil wr).mono ?_
      rintro e w4 ⟨rfl, rfl⟩
      go_wp2_with fail
      refine (tRest_nil wr).mono ?_
      rintro e w4 ⟨rfl, rfl⟩
      go_wp2_with fail
      refine (tErr_nil wr).mono ?_
      rintro e w4 ⟨rfl, rfl⟩
      go_wp2_with fail
      refine (tDone_nil wr).mono ?_
      rintro e w4 ⟨rfl, rfl⟩
      go_wp2
      go_ret
      exact ⟨rfl, hbw⟩
end Go.Proofs.Ytiaojbllbkgocaa
