/- Texts that other texts of this claim lean on, one behind the other. -/
import Derived.Test.YtpghlmcoajaiiaaGreatDoorM16
import Derived.Deep.RegionHeld3
import Derived.Test.YtpghlmcoajaiiaaGreatDoorM15
import Derived.ChangeArms
import Derived.OpenShut
import Derived.Test.YtpghlmcoajaiiaaGreatDoorM6
import Derived.Test.YtpghlmcoajaiiaaGreatDoorM1
import Derived.Deep.DeepCutAuto
/- jalousieref25: List. -/
namespace Go.Proofs.YtpghlmcoajaiiaaGreatDoor
open Go.RowKit

theorem errL_zero_head {D : List (List UInt8)} {i : Nat} (h : ∀ j x, j < i → D[j]? = some x → getRE x = 0) (hi : D.length ≤ i) : errL D = 0 := by
  refine errL_all fun d hd => ?_
  obtain ⟨j, hj⟩ := List.mem_iff_getElem?.1 hd
  exact h j d (by have := (List.getElem?_eq_some_iff.1 hj).1; omega) hj
theorem take_map_rc {D : List (List UInt8)} {i : Nat} {d : List UInt8} (h : D[i]? = some d) : ((D.take (i + 1)).map fun x => rCell (getR x)) = ((D.take i).map fun x => rCell (getR x)) ++ [rCell (getR d)] := by
  obtain ⟨h1, h2⟩ := List.getElem?_eq_some_iff.1 h
  rw [List.take_succ_eq_append_getElem h1, List.map_append, h2]
  rfl
set_option maxRecDepth 100000 in
set_option maxHeartbeats 4000000 in
set_option maxRecDepth 100000 in
theorem rlist25 {w : World} {d0 d1 d2 : Value} {a : Option Addr} {n c : Nat} {R : List (List UInt8 × Tv)} {er : Int} (from_ most : Int)
    (hS : ∀ W, Below w.heap.size w W → Calls Tryz.prog 86 #[.agg #[d0, d1, d2, .slice a n c], .string (strOf [97]), .string (strOf (keyB (max from_ 0))), .int .i64 most] W (EntTo W R er)) (hR : R.length ≤ 100000) (hd9 : ∀ x ∈ R, x.2.data.length ≤ 100000) :
    Calls Tryz.prog 39 #[.agg #[d0, d1, d2, .slice a n c], .int .i64 from_, .int .i64 most] w (ListTo 64 w (datas R)) := by
  obtain ⟨W1, hW1⟩ : ∃ x, x = w.alloc (.cells #[d0, d1, d2, .slice a n c] 79) := ⟨_, rfl⟩
  have hx1 : Boxes W1 [(w.heap.size, [d0, d1, d2, .slice a n c])] := by
    rw [hW1]
    exact (Boxes.nil w).alloc #[d0, d1, d2, .slice a n c] 79 (b := w.heap.size) rfl
  have hb1 : Below w.heap.size w W1 := by rw [hW1]; exact Below.al (Below.refl _ _)
  have CK := fun W => rkey_any (max from_ 0) W
  have t0 : ∀ W, Below W1.heap.size W1 W → W.cell? ⟨w.heap.size, 0, none⟩ = some d0 := fun W hW => (hx1.step hW).cell 0 0 rfl rfl
  have t1 : ∀ W, Below W1.heap.size W1 W → W.cell? ⟨w.heap.size, 1, none⟩ = some d1 := fun W hW => (hx1.step hW).cell 0 1 rfl rfl
  have t2 : ∀ W, Below W1.heap.size W1 W → W.cell? ⟨w.heap.size, 2, none⟩ = some d2 := fun W hW => (hx1.step hW).cell 0 2 rfl rfl
  have t3 : ∀ W, Below W1.heap.size W1 W → W.cell? ⟨w.heap.size, 3, none⟩ = some (.slice a n c) := fun W hW => (hx1.step hW).cell 0 3 rfl rfl
  have es97 : strOf [97] = (⟨#[97]⟩ : ByteArray) := rfl
  have CS : ∀ W, Below W1.heap.size W1 W → Calls Tryz.prog 86 #[.agg #[d0, d1, d2, .slice a n c], .string ⟨#[97]⟩, .string (strOf (keyB (max from_ 0))), .int .i64 most] W (EntTo W R er) := fun W hW => by rw [← es97]; exact hS W (below_via hb1 hW)
  obtain ⟨D, hD⟩ : ∃ z, datas R = z := ⟨_, rfl⟩
  have HX1 := Lib.hid hx1
  have HB1 := Lib.hid hb1
  have HR := Lib.hid hR
  have HD9 := Lib.hid hd9
  have HD := Lib.hid hD
  rw [hD]
  clear hx1 hb1 hS hR hd9 hD es97
  go_enter Tryz.func39, Tryz.ntmps39
  by_cases hneg : from_ < 0
  · have hmx : max from_ 0 = 0 := by omega
    have hng : decide (from_ < 0) = true := decide_eq_true hneg
    rw [hmx] at CK CS
    clear hmx hneg
    go_upto_region 3 with (fail)
    rw [← hW1]
    clear hW1
    have hB0 : Below W1.heap.size W1 W1.drew := Below.dr (Below.refl _ _)
    go_region_held3 (fun W => Below W1.heap.size W1 W) (first | with_reducible assumption | (repeat (with_reducible first | assumption | exact Below.refl _ _ | apply Below.al | apply Below.dr))) (first | (go_at_call 25; (with_reducible refine (CK _).mono ?_); rintro e w4 ⟨rfl, hb4⟩; have hB4 : Below W1.heap.size W1 w4 := below_via (by (repeat (with_reducible first | assumption | exact Below.refl _ _ | apply Below.al | apply Below.dr))) hb4) | (go_at_call 86; (with_reducible refine (CS _ ?_).mono ?_); (focus (repeat (with_reducible first | assumption | exact Below.refl _ _ | apply Below.al | apply Below.dr))); rintro e w5 ⟨a5, m5, c5, rfl, hE5, hb5⟩; have hB5 : Below W1.heap.size W1 w5 := below_via (by (repeat (with_reducible first | assumption | exact Below.refl _ _ | apply Below.al | apply Below.dr))) hb5))
    have hl5 := hE5.len
    have hm9 : m5 ≤ 100000 := by rw [← hl5.1]; exact HR.out
    have HM : Hid (D.length = m5) := Lib.hid (by rw [← HD.out, ← hl5.1]; unfold datas; simp)
    have hl53 := hl5.2.1
    have hl54 := hl5.2.2
    have HE5 := Lib.hid hE5
    have HB5 := Lib.hid (below_via HB1.out hB5)
    clear t0 t1 t2 t3 CK CS hE5 hb5 hB5 hB4 hb4 hB0 hl5
    go_wp2_with fail
    go_loopw [10, 11] (fun s0 s1 wr => ∃ (i : Nat) (ao : Option Addr) (co : Nat), i ≤ m5 ∧ s0 = .slice ao i co ∧ s1 = .int .i64 i ∧ Hid (wr.ownsRow w5.heap.size 64 6 (.slice ao i co) i (flatC ((D.take i).map fun x => rCell (getR x)))) ∧ Hid (∀ j x, j < i → D[j]? = some x → getRE x = 0) ∧ Hid (Below w5.heap.size w5 wr)) (fun _ s1 _ => m5 - (intOf s1).toNat)
    case atStart => exact ⟨0, none, 0, Nat.zero_le _, rfl, rfl, Lib.hid (World.ownsRow_nil _ _ _ _), Lib.hid (fun j x hj => by omega), Lib.hid (Below.refl _ _)⟩
    case round =>
      obtain ⟨i, ao, co, hi, rfl, rfl, hown, hpre, hbr⟩ := hrel
      by_cases hlt : i < m5
      · obtain ⟨b, off, y, rfl, hbb, hy, -, e1⟩ := HE5.out.at hlt
        have hyD : D[i]? = some y.2.data := by rw [← HD.out]; unfold datas; rw [List.getElem?_map, hy]; rfl
        have hyl := HD9.out y (List.mem_of_getElem? hy)
        obtain ⟨dd, hdd⟩ : ∃ z, y.2.data = z := ⟨_, rfl⟩
        rw [hdd] at e1 hyD hyl
        have d0' : decide ((i : Int) < (m5 : Int)) = true := by simp; omega
        have d1' : decide ((0 : Int) ≤ (i : Int)) = true := by simp
        have c1 := (hbr.out.cell (p := ⟨b, off + i * 4 + 1, none⟩) hbb).trans e1
        have CG := rrecget_any dd wr hyl
        obtain ⟨r, hr⟩ : ∃ z, getR dd = z := ⟨_, rfl⟩
        obtain ⟨e9, he9⟩ : ∃ z, getRE dd = z := ⟨_, rfl⟩
        have hrv : rcV r = .agg #[.int .i64 r.actor, .int .i64 r.from_, .int .i64 r.to_, .string (strOf r.bucket), .string (strOf r.key), .int .u32 (r.digest : Int)] := rfl
        rw [hr, he9, hrv] at CG
        have HY := Lib.hid hyD
        have HGR := Lib.hid hr
        have HGE := Lib.hid he9
        clear hy e1 hdd hyl hyD hr he9 hrv hbb
        go_wp2_with fail
        refine CG.mono ?_
        rintro e w6 ⟨rfl, hb6⟩
        obtain ⟨W8, hW8⟩ : ∃ x, w6.alloc (.cells #[.int .i64 r.actor, .int .i64 r.from_, .int .i64 r.to_, .string (strOf r.bucket), .string (strOf r.key), .int .u32 (r.digest : Int)] 64) = x := ⟨_, rfl⟩
        have hx8 : Boxes W8 [(w6.heap.size, [.int .i64 r.actor, .int .i64 r.from_, .int .i64 r.to_, .string (strOf r.bucket), .string (strOf r.key), .int .u32 (r.digest : Int)])] := by
          rw [← hW8]
          exact (Boxes.nil w6).alloc #[.int .i64 r.actor, .int .i64 r.from_, .int .i64 r.to_, .string (strOf r.bucket), .string (strOf r.key), .int .u32 (r.digest : Int)] 64 (b := w6.heap.size) rfl
        have hb68 : Below w6.heap.size w6 W8 := by rw [← hW8]; exact Below.al (Below.refl _ _)
        have hbr8 : Below w5.heap.size w5 W8 := hbr.out.trans ((hb6.trans (hb68.mono hb6.size)).mono hbr.out.size)
        have h68 : Below wr.heap.size wr W8 := hb6.trans (hb68.mono hb6.size)
        have ho8 := own_held hown.out h68
        have HX8 := Lib.hid hx8
        have HBR8 := Lib.hid hbr8
        have HO8 := Lib.hid ho8
        have hws : w5.heap.size ≤ W8.heap.size := hbr8.size
        have HWS := Lib.hid hws
        have HW8 := Lib.hid hW8
        clear hb6 hb68 hbr8 h68 ho8 hx8 CG hW8 hown hbr hws
        go_upto_region 9 with (fail)
        rw [HW8.out]
        clear HW8
        have y0 := HX8.out.cell 0 0 rfl rfl
        have y1 := HX8.out.cell 0 1 rfl rfl
        have y2 := HX8.out.cell 0 2 rfl rfl
        have y3 := HX8.out.cell 0 3 rfl rfl
        have y4 := HX8.out.cell 0 4 rfl rfl
        have y5 := HX8.out.cell 0 5 rfl rfl
        by_cases he : e9 = 0
        · subst he
          have hpre' : Hid (∀ j x, j < i + 1 → D[j]? = some x → getRE x = 0) := Lib.hid (fun j x hj hx => by
            by_cases h : j < i
            · exact hpre.out j x h hx
            · obtain rfl : j = i := by omega
              rw [HY.out] at hx
              cases hx
              exact HGE.out)
          have n0 : ((0 : Int) != 0) = false := rfl
          obtain ⟨ii, zz, q1, q2, q3, q4, q5⟩ := info_rec
          obtain ⟨v9, w9, hr9, ho9, hg9, _⟩ := run_append_new (P := Tryz.prog) (w := W8) w5.heap.size 92 64 ii zz 6 64 Tryz.underlying92 q1 q2 q3 q4 q5 (by decide) HO8.out #[.int .i64 r.actor, .int .i64 r.from_, .int .i64 r.to_, .string (strOf r.bucket), .string (strOf r.key), .int .u32 (r.digest : Int)] rfl (by intro u hu; simp at hu; rcases hu with rfl | rfl | rfl | rfl | rfl | rfl <;> rfl) (by unfold maxLen; omega) (by omega) HWS.out
          obtain ⟨a9, k9, rfl, _⟩ := own_slice ho9
          have hb59 : Below w5.heap.size w5 w9 := HBR8.out.grown hg9 HBR8.out.size (own_ge HO8.out)
          have HOW : Hid (w9.ownsRow w5.heap.size 64 6 (.slice a9 (i + 1) k9) (i + 1) (flatC ((D.take (i + 1)).map fun x => rCell (getR x)))) := Lib.hid (by
            rw [take_map_rc HY.out, flatC_append, flatC_one, HGR.out]
            exact ho9)
          have HB9 := Lib.hid hb59
          clear ho9 hg9 q1 q2 q3 q4 q5 hb59
          go_wp2_with (at_builtin; refine wpList_append_run rfl _ _ _ _ rfl rfl rfl hr9 ?_)
          go_roundw
          case rel => exact ⟨i + 1, a9, k9, by omega, rfl, by go_num, HOW, hpre', HB9⟩
          case measure => simp [intOf]; omega
        · have n0 : (e9 != 0) = true := by simpa using he
          have n1 : (e9 == 0) = false := by simpa using he
          have HEE : Hid (errL D = e9) := Lib.hid (by rw [errL_first HY.out (by rw [HGE.out]; exact he) hpre.out, HGE.out])
          have HRL : Hid (recL D = []) := Lib.hid (by unfold recL; rw [if_neg (by rw [HEE.out]; exact he)])
          have HBW := Lib.hid (below_via HB5.out HBR8.out)
          clear he
          go_wp2_with fail
          refine bodyPost_ret (v := .tuple #[.slice none 0 0, .int .i64 e9]) (by simp [results, Tryz.results39, go_sem]) rfl ?_
          unfold ListTo
          rw [HRL.out, HEE.out]
          exact ⟨none, 0, rfl, World.ownsRow_nil _ _ _ _, HBW.out⟩
      · obtain rfl : i = m5 := by omega
        have d0' : decide ((i : Int) < (i : Int)) = false := by simp
        have HEE : Hid (errL D = 0) := Lib.hid (errL_zero_head hpre.out (by rw [HM.out]; exact Nat.le_refl _))
        have HRL : Hid ((recL D).length = i ∧ (recL D).map rCell = (D.take i).map fun x => rCell (getR x)) := Lib.hid (by
          unfold recL
          rw [if_pos HEE.out, List.length_map, HM.out, List.take_of_length_le (by rw [HM.out]; exact Nat.le_refl _), List.map_map]
          exact ⟨rfl, rfl⟩)
        have HBW := Lib.hid (below_via HB5.out hbr.out)
        clear hbr
        go_wp2_with fail
        refine bodyPost_ret (v := .tuple #[.slice ao i co, .int .i64 0]) (by simp [results, Tryz.results39, go_sem]) rfl ?_
        unfold ListTo
        rw [HRL.out.1, HRL.out.2, HEE.out]
        exact ⟨ao, co, rfl, own_base hown.out HB5.out.size, HBW.out⟩
  · have hmx : max from_ 0 = from_ := by omega
    have hng : decide (from_ < 0) = false := decide_eq_false hneg
    rw [hmx] at CK CS
    clear hmx hneg
    go_upto_region 3 with (fail)
    rw [← hW1]
    clear hW1
    have hB0 : Below W1.heap.size W1 W1.drew := Below.dr (Below.refl _ _)
    go_region_held3 (fun W => Below W1.heap.size W1 W) (first | with_reducible assumption | (repeat (with_reducible first | assumption | exact Below.refl _ _ | apply Below.al | apply Below.dr))) (first | (go_at_call 25; (with_reducible refine (CK _).mono ?_); rintro e w4 ⟨rfl, hb4⟩; have hB4 : Below W1.heap.size W1 w4 := below_via (by (repeat (with_reducible first | assumption | exact Below.refl _ _ | apply Below.al | apply Below.dr))) hb4) | (go_at_call 86; (with_reducible refine (CS _ ?_).mono ?_); (focus (repeat (with_reducible first | assumption | exact Below.refl _ _ | apply Below.al | apply Below.dr))); rintro e w5 ⟨a5, m5, c5, rfl, hE5, hb5⟩; have hB5 : Below W1.heap.size W1 w5 := below_via (by (repeat (with_reducible first | assumption | exact Below.refl _ _ | apply Below.al | apply Below.dr))) hb5))
    have hl5 := hE5.len
    have hm9 : m5 ≤ 100000 := by rw [← hl5.1]; exact HR.out
    have HM : Hid (D.length = m5) := Lib.hid (by rw [← HD.out, ← hl5.1]; unfold datas; simp)
    have hl53 := hl5.2.1
    have hl54 := hl5.2.2
    have HE5 := Lib.hid hE5
    have HB5 := Lib.hid (below_via HB1.out hB5)
    clear t0 t1 t2 t3 CK CS hE5 hb5 hB5 hB4 hb4 hB0 hl5
    go_wp2_with fail
    go_loopw [10, 11] (fun s0 s1 wr => ∃ (i : Nat) (ao : Option Addr) (co : Nat), i ≤ m5 ∧ s0 = .slice ao i co ∧ s1 = .int .i64 i ∧ Hid (wr.ownsRow w5.heap.size 64 6 (.slice ao i co) i (flatC ((D.take i).map fun x => rCell (getR x)))) ∧ Hid (∀ j x, j < i → D[j]? = some x → getRE x = 0) ∧ Hid (Below w5.heap.size w5 wr)) (fun _ s1 _ => m5 - (intOf s1).toNat)
    case atStart => exact ⟨0, none, 0, Nat.zero_le _, rfl, rfl, Lib.hid (World.ownsRow_nil _ _ _ _), Lib.hid (fun j x hj => by omega), Lib.hid (Below.refl _ _)⟩
    case round =>
      obtain ⟨i, ao, co, hi, rfl, rfl, hown, hpre, hbr⟩ := hrel
      by_cases hlt : i < m5
      · obtain ⟨b, off, y, rfl, hbb, hy, -, e1⟩ := HE5.out.at hlt
        have hyD : D[i]? = some y.2.data := by rw [← HD.out]; unfold datas; rw [List.getElem?_map, hy]; rfl
        have hyl := HD9.out y (List.mem_of_getElem? hy)
        obtain ⟨dd, hdd⟩ : ∃ z, y.2.data = z := ⟨_, rfl⟩
        rw [hdd] at e1 hyD hyl
        have d0' : decide ((i : Int) < (m5 : Int)) = true := by simp; omega
        have d1' : decide ((0 : Int) ≤ (i : Int)) = true := by simp
        have c1 := (hbr.out.cell (p := ⟨b, off + i * 4 + 1, none⟩) hbb).trans e1
        have CG := rrecget_any dd wr hyl
        obtain ⟨r, hr⟩ : ∃ z, getR dd = z := ⟨_, rfl⟩
        obtain ⟨e9, he9⟩ : ∃ z, getRE dd = z := ⟨_, rfl⟩
        have hrv : rcV r = .agg #[.int .i64 r.actor, .int .i64 r.from_, .int .i64 r.to_, .string (strOf r.bucket), .string (strOf r.key), .int .u32 (r.digest : Int)] := rfl
        rw [hr, he9, hrv] at CG
        have HY := Lib.hid hyD
        have HGR := Lib.hid hr
        have HGE := Lib.hid he9
        clear hy e1 hdd hyl hyD hr he9 hrv hbb
        go_wp2_with fail
        refine CG.mono ?_
        rintro e w6 ⟨rfl, hb6⟩
        obtain ⟨W8, hW8⟩ : ∃ x, w6.alloc (.cells #[.int .i64 r.actor, .int .i64 r.from_, .int .i64 r.to_, .string (strOf r.bucket), .string (strOf r.key), .int .u32 (r.digest : Int)] 64) = x := ⟨_, rfl⟩
        have hx8 : Boxes W8 [(w6.heap.size, [.int .i64 r.actor, .int .i64 r.from_, .int .i64 r.to_, .string (strOf r.bucket), .string (strOf r.key), .int .u32 (r.digest : Int)])] := by
          rw [← hW8]
          exact (Boxes.nil w6).alloc #[.int .i64 r.actor, .int .i64 r.from_, .int .i64 r.to_, .string (strOf r.bucket), .string (strOf r.key), .int .u32 (r.digest : Int)] 64 (b := w6.heap.size) rfl
        have hb68 : Below w6.heap.size w6 W8 := by rw [← hW8]; exact Below.al (Below.refl _ _)
        have hbr8 : Below w5.heap.size w5 W8 := hbr.out.trans ((hb6.trans (hb68.mono hb6.size)).mono hbr.out.size)
        have h68 : Below wr.heap.size wr W8 := hb6.trans (hb68.mono hb6.size)
        have ho8 := own_held hown.out h68
        have HX8 := Lib.hid hx8
        have HBR8 := Lib.hid hbr8
        have HO8 := Lib.hid ho8
        have hws : w5.heap.size ≤ W8.heap.size := hbr8.size
        have HWS := Lib.hid hws
        have HW8 := Lib.hid hW8
        clear hb6 hb68 hbr8 h68 ho8 hx8 CG hW8 hown hbr hws
        go_upto_region 9 with (fail)
        rw [HW8.out]
        clear HW8
        have y0 := HX8.out.cell 0 0 rfl rfl
        have y1 := HX8.out.cell 0 1 rfl rfl
        have y2 := HX8.out.cell 0 2 rfl rfl
        have y3 := HX8.out.cell 0 3 rfl rfl
        have y4 := HX8.out.cell 0 4 rfl rfl
        have y5 := HX8.out.cell 0 5 rfl rfl
        by_cases he : e9 = 0
        · subst he
          have hpre' : Hid (∀ j x, j < i + 1 → D[j]? = some x → getRE x = 0) := Lib.hid (fun j x hj hx => by
            by_cases h : j < i
            · exact hpre.out j x h hx
            · obtain rfl : j = i := by omega
              rw [HY.out] at hx
              cases hx
              exact HGE.out)
          have n0 : ((0 : Int) != 0) = false := rfl
          obtain ⟨ii, zz, q1, q2, q3, q4, q5⟩ := info_rec
          obtain ⟨v9, w9, hr9, ho9, hg9, _⟩ := run_append_new (P := Tryz.prog) (w := W8) w5.heap.size 92 64 ii zz 6 64 Tryz.underlying92 q1 q2 q3 q4 q5 (by decide) HO8.out #[.int .i64 r.actor, .int .i64 r.from_, .int .i64 r.to_, .string (strOf r.bucket), .string (strOf r.key), .int .u32 (r.digest : Int)] rfl (by intro u hu; simp at hu; rcases hu with rfl | rfl | rfl | rfl | rfl | rfl <;> rfl) (by unfold maxLen; omega) (by omega) HWS.out
          obtain ⟨a9, k9, rfl, _⟩ := own_slice ho9
          have hb59 : Below w5.heap.size w5 w9 := HBR8.out.grown hg9 HBR8.out.size (own_ge HO8.out)
          have HOW : Hid (w9.ownsRow w5.heap.size 64 6 (.slice a9 (i + 1) k9) (i + 1) (flatC ((D.take (i + 1)).map fun x => rCell (getR x)))) := Lib.hid (by
            rw [take_map_rc HY.out, flatC_append, flatC_one, HGR.out]
            exact ho9)
          have HB9 := Lib.hid hb59
          clear ho9 hg9 q1 q2 q3 q4 q5 hb59
          go_wp2_with (at_builtin; refine wpList_append_run rfl _ _ _ _ rfl rfl rfl hr9 ?_)
          go_roundw
          case rel => exact ⟨i + 1, a9, k9, by omega, rfl, by go_num, HOW, hpre', HB9⟩
          case measure => simp [intOf]; omega
        · have n0 : (e9 != 0) = true := by simpa using he
          have n1 : (e9 == 0) = false := by simpa using he
          have HEE : Hid (errL D = e9) := Lib.hid (by rw [errL_first HY.out (by rw [HGE.out]; exact he) hpre.out, HGE.out])
          have HRL : Hid (recL D = []) := Lib.hid (by unfold recL; rw [if_neg (by rw [HEE.out]; exact he)])
          have HBW := Lib.hid (below_via HB5.out HBR8.out)
          clear he
          go_wp2_with fail
          refine bodyPost_ret (v := .tuple #[.slice none 0 0, .int .i64 e9]) (by simp [results, Tryz.results39, go_sem]) rfl ?_
          unfold ListTo
          rw [HRL.out, HEE.out]
          exact ⟨none, 0, rfl, World.ownsRow_nil _ _ _ _, HBW.out⟩
      · obtain rfl : i = m5 := by omega
        have d0' : decide ((i : Int) < (i : Int)) = false := by simp
        have HEE : Hid (errL D = 0) := Lib.hid (errL_zero_head hpre.out (by rw [HM.out]; exact Nat.le_refl _))
        have HRL : Hid ((recL D).length = i ∧ (recL D).map rCell = (D.take i).map fun x => rCell (getR x)) := Lib.hid (by
          unfold recL
          rw [if_pos HEE.out, List.length_map, HM.out, List.take_of_length_le (by rw [HM.out]; exact Nat.le_refl _), List.map_map]
          exact ⟨rfl, rfl⟩)
        have HBW := Lib.hid (below_via HB5.out hbr.out)
        clear hbr
        go_wp2_with fail
        refine bodyPost_ret (v := .tuple #[.slice ao i co, .int .i64 0]) (by simp [results, Tryz.results39, go_sem]) rfl ?_
        unfold ListTo
        rw [HRL.out.1, HRL.out.2, HEE.out]
        exact ⟨ao, co, rfl, own_base hown.out HB5.out.size, HBW.out⟩
end Go.Proofs.YtpghlmcoajaiiaaGreatDoor

/- The audit list beside the reference's: what a step does to both. -/
namespace Go.Proofs.YtpghlmcoajaiiaaGreatDoor
open Go.RowKit

theorem put_few3 (key : List UInt8) (v : Tv) : ∀ (A : List (List UInt8 × Tv)) {k : Nat}, A.length ≤ k → (putL key v A).length ≤ k + 1
  | [], k, _ => by simp [putL]
  | c :: r, k, h => by
    unfold putL
    simp at h
    split
    · have := put_few3 key v r (k := k - 1) (by omega)
      simp; omega
    · split <;> simp <;> omega
/-- A view with the audit list alone, so many puts on. -/
def Vst (v : Vw) (i : Nat) : Prop := ∃ M T, v.l = [⟨[97], M, T⟩] ∧ M ≤ i + 1 ∧ v.lv ≤ i + 2 ∧ Whole v.lv v.dir ∧ Whole M T ∧ (entsT M T).length ≤ i ∧ ∀ x ∈ entsT M T, x.2.data.length ≤ 400
/-- What one put does. -/
def StepV (v : Vw) (key d : List UInt8) (v' : Vw) : Prop :=
  (keyOk key ∧ d.length ≤ 400 ∧ v'.dir = putW v.lv v.dir [97] ⟨[0, 0], []⟩ ∧ ∃ M T N, v.l = [⟨[97], M, T⟩] ∧ v'.l = [⟨[97], N, putW M T key ⟨d, []⟩⟩]) ∨ ((keyB1 key = false ∨ 400 < d.length) ∧ v' = v)
theorem Vst.up {v : Vw} {i : Nat} (h : Vst v i) : Vst v (i + 1) := by
  obtain ⟨M, T, h1, h2, h3, h4, h5, h6, h7⟩ := h
  exact ⟨M, T, h1, by omega, by omega, h4, h5, by omega, h7⟩
theorem Vst.pos {v : Vw} {i : Nat} (h : Vst v i) : posK [97] (v.l.map (·.name)) = 0 ∧ v.l.length = 1 ∧ (v.l.map (·.name)).Pairwise (fun a b => a < b) ∧ findR [97] v.l 0 = ((0 : Nat) : Int) := by
  obtain ⟨M, T, h1, _⟩ := h
  rw [h1]
  exact ⟨posK_eq (by simp) (fun j hj => by omega) (fun _ => by simp [klt_irrefl]), rfl, by simp, by unfold findR; rw [if_pos rfl]⟩
theorem key_cases (key d : List UInt8) : (keyOk key ∧ d.length ≤ 400) ∨ (keyB1 key = false ∨ 400 < d.length) := by
  by_cases h : keyB1 key = true
  · by_cases hd : d.length ≤ 400
    · exact .inl ⟨keyB1_out h, hd⟩
    · exact .inr (.inr (by omega))
  · exact .inr (.inl (by simpa using h))
theorem step_view {F : Nat → Prop} {w : World} {cs : List Value} {v : Vw} {i : Nat} (hF : ∀ x, F x → x < w.heap.size) (h : ViewOn F w cs v) (hv : Vst v i) (key d : List UInt8) :
    Calls Tryz.prog 34 #[.agg cs.toArray, .string ⟨#[97]⟩, .string (strOf key), .string (strOf d)] w fun e w' => ∃ cs' v' er, e = .returned (.tuple #[.agg cs'.toArray, .int .i64 er]) ∧ ViewOn (Fr F w) w' cs' v' ∧ Vst v' (i + 1) ∧ StepV v key d v' ∧ Below w.heap.size w w' := by
  obtain ⟨p1, p2, p3, _⟩ := hv.pos
  have es97 : strOf [97] = (⟨#[97]⟩ : ByteArray) := rfl
  rw [← es97]
  rcases key_cases key d with ⟨hk, hd⟩ | hbad
  · obtain ⟨M, T, h1, h2, h3, h4, h5, h6, h7⟩ := hv
    refine (vput_any hF h h4 (by omega) p3 [97] ⟨by simp, by simp⟩ p1 (bk := ⟨[97], M, T⟩) (by rw [h1]; rfl) rfl h5 hk hd).mono ?_
    rintro e w' ⟨cs', v', N, rfl, g1, g2, g3, g4, g5, g6, g7, g8, g9⟩
    have g5' : N ≤ M + 1 := g5
    have g8' : v'.l = [⟨[97], N, putW M T key ⟨d, []⟩⟩] := by rw [g8, h1]; rfl
    refine ⟨cs', v', 0, rfl, g1, ⟨N, _, g8', by omega, by omega, g4, g6, ?_, fun x hx => ?_⟩, .inl ⟨hk, hd, g3, M, T, N, h1, g8'⟩, g9⟩
    · rw [g7]; exact put_few3 _ _ _ h6
    · rw [g7] at hx
      rcases putL_mem hx with rfl | hx
      · exact hd
      · exact h7 x hx
  · refine (vput_bad hF h [97] hbad).mono ?_
    rintro e w' ⟨rfl, g1, g2⟩
    exact ⟨cs, v, 34, rfl, g1.mono (fun x hx => .inl hx), hv.up, .inr ⟨hbad, rfl⟩, g2⟩
theorem step_ref {F : Nat → Prop} {w : World} {cs : List Value} {v v' : Vw} {i : Nat} (hF : ∀ x, F x → x < w.heap.size) (h : RViewOn F w cs v) (hv : Vst v i) (hv' : Vst v' (i + 1)) {key d : List UInt8} (hs : StepV v key d v') :
    Calls Tryz.prog 35 #[.agg cs.toArray, .string ⟨#[97]⟩, .string (strOf key), .string (strOf d)] w fun e w' => ∃ cs' er, e = .returned (.tuple #[.agg cs'.toArray, .int .i64 er]) ∧ RViewOn (Fr F w) w' cs' v' ∧ Below w.heap.size w w' := by
  obtain ⟨_, p2, _, p4⟩ := hv.pos
  have es97 : strOf [97] = (⟨#[97]⟩ : ByteArray) := rfl
  rw [← es97]
  rcases hs with ⟨hk, hd, s1, M, T, N, s2, s3⟩ | ⟨hbad, rfl⟩
  · obtain ⟨M2, T2, h1, h2, h3, h4, h5, h6, h7⟩ := hv
    rw [s2] at h1
    cases h1
    obtain ⟨M3, T3, k1, k2, k3, k4, k5, k6, k7⟩ := hv'
    rw [s3] at k1
    cases k1
    refine (rput21 hF h h4 (by omega) [97] p4 (bk := ⟨[97], M, T⟩) (by rw [s2]; rfl) ⟨by simp, by simp⟩ h5 hk hd).mono ?_
    rintro e w' ⟨cs', rfl, g1, g2⟩
    refine ⟨cs', 0, rfl, RViewOn.less g1 s1 k4 (by rw [s2, s3]; rfl) (fun j x y hx hy => ?_), g2⟩
    rw [s2] at hx
    rw [s3] at hy
    cases j with
    | zero =>
      simp at hx hy
      subst hx hy
      exact ⟨rfl, rfl, k5⟩
    | succ j => simp at hx
  · refine (rput21_bad hF h [97] hbad).mono ?_
    rintro e w' ⟨rfl, g1, g2⟩
    exact ⟨cs, 34, rfl, g1.mono (fun x hx => .inl hx), g2⟩
/-- The view as it begins, or so many puts on. -/
def Vok (v : Vw) (i : Nat) : Prop := (i = 0 ∧ v = ⟨1, .leaf 0 [], []⟩) ∨ (0 < i ∧ Vst v i)
/-- The entries that a list answers. -/
def listR (v : Vw) (fr most : Int) : List (List UInt8 × Tv) :=
  match v.l with
  | [] => []
  | b :: _ => ((entsT b.lv b.tree).drop (posK (keyB fr) (keysOf (entsT b.lv b.tree)))).take most.toNat
theorem Vst.facts {v : Vw} {i : Nat} (h : Vst v i) (hi : i ≤ 100) : v.l.length ≤ 1000 ∧ (∀ b ∈ v.l, Bnd b.lv b.tree) ∧ ∀ b ∈ v.l, (entsT b.lv b.tree).length ≤ 100000 := by
  obtain ⟨M, T, h1, h2, h3, h4, h5, h6, h7⟩ := h
  rw [h1]
  refine ⟨by simp, fun b hb => ?_, fun b hb => ?_⟩
  · simp at hb; subst hb; exact h5.bnd
  · simp at hb; subst hb; show (entsT M T).length ≤ _; omega
theorem Vok.facts {v : Vw} {i : Nat} (h : Vok v i) (hi : i ≤ 100) : v.l.length ≤ 1000 ∧ (∀ b ∈ v.l, Bnd b.lv b.tree) ∧ ∀ b ∈ v.l, (entsT b.lv b.tree).length ≤ 100000 := by
  rcases h with ⟨_, rfl⟩ | ⟨_, h⟩
  · exact ⟨by simp, by simp, by simp⟩
  · exact h.facts hi
theorem listR_facts {v : Vw} {i : Nat} (h : Vok v i) (hi : i ≤ 100) (fr most : Int) : (listR v fr most).length ≤ 100000 ∧ ∀ x ∈ listR v fr most, x.2.data.length ≤ 100000 := by
  rcases h with ⟨_, rfl⟩ | ⟨_, M, T, h1, h2, h3, h4, h5, h6, h7⟩
  · exact ⟨by simp [listR], by simp [listR]⟩
  · unfold listR
    rw [h1]
    dsimp only
    refine ⟨by rw [List.length_take, List.length_drop]; omega, fun x hx => ?_⟩
    have := h7 x (List.mem_of_mem_drop (List.mem_of_mem_take hx))
    omega
theorem list_view {F : Nat → Prop} {w : World} {d0 d1 d2 d3 d4 : Value} {a : Option Addr} {n c : Nat} {v : Vw} {i : Nat} (hF : ∀ x, F x → x < w.heap.size) (h : ViewOn F w [d0, d1, d2, d3, d4, .slice a n c] v) (hv : Vok v i) (hi : i ≤ 100) (from_ most : Int) :
    Calls Tryz.prog 38 #[.agg #[d0, d1, d2, d3, d4, .slice a n c], .int .i64 from_, .int .i64 most] w (ListTo 64 w (datas (listR v (max from_ 0) most))) := by
  obtain ⟨f1, f2⟩ := listR_facts hv hi (max from_ 0) most
  have es97 : strOf [97] = (⟨#[97]⟩ : ByteArray) := rfl
  refine rlist_of from_ most (by omega) (fun W hW => ?_) f1 f2
  rw [← es97]
  rcases hv with ⟨_, rfl⟩ | ⟨_, hv⟩
  · refine (scan_none (h.below hW) (by simp) (by simp) [97] (by simp [hasK]) (keyB (max from_ 0)) most).mono ?_
    rintro e w' ⟨rfl, hb⟩
    exact ⟨32, none, 0, rfl, World.ownsRow_nil _ _ _ _, hb⟩
  · obtain ⟨p1, p2, p3, _⟩ := hv.pos
    obtain ⟨M, T, h1, h2, h3, h4, h5, h6, h7⟩ := hv
    have hRR : listR v (max from_ 0) most = ((entsT M T).drop (posK (keyB (max from_ 0)) (keysOf (entsT M T)))).take most.toNat := by unfold listR; rw [h1]
    rw [hRR]
    have := scan_any (fun x hx => Nat.lt_of_lt_of_le (hF x hx) hW.size) (h.below hW) (by omega) p3 [97] p1 (bk := ⟨[97], M, T⟩) (by rw [h1]; rfl) rfl h5 (show M ≤ 200 by omega) (keyB (max from_ 0)) most rfl (by rw [List.length_drop]; show (entsT M T).length - _ ≤ _; omega)
    exact this.mono fun e w' h => ScanTo.some h
theorem list_ref {F : Nat → Prop} {w : World} {d0 d1 d2 : Value} {a : Option Addr} {n c : Nat} {v : Vw} {i : Nat} (h : RViewOn F w [d0, d1, d2, .slice a n c] v) (hv : Vok v i) (hi : i ≤ 100) (from_ : Int) {most : Int} (hm : most ≤ 1000) :
    Calls Tryz.prog 39 #[.agg #[d0, d1, d2, .slice a n c], .int .i64 from_, .int .i64 most] w (ListTo 64 w (datas (listR v (max from_ 0) most))) := by
  obtain ⟨f1, f2⟩ := listR_facts hv hi (max from_ 0) most
  obtain ⟨fc1, fc2, fc3⟩ := hv.facts hi
  obtain ⟨y1, y2, a9, c9, e, _, hl, _⟩ := h.raw
  cases e
  rcases hv with ⟨_, rfl⟩ | ⟨_, hv⟩
  · refine rlist25 (er := 32) from_ most (fun W hW => ?_) f1 f2
    exact rscan21_none (TabR.move hl hW (fun cs y _ h => h.agree (.of_below hW))) fc1 [97] rfl (keyB (max from_ 0)) most
  · obtain ⟨p1, p2, p3, p4⟩ := hv.pos
    obtain ⟨M, T, h1, h2, h3, h4, h5, h6, h7⟩ := hv
    have hRR : listR v (max from_ 0) most = ((entsT M T).drop (posK (keyB (max from_ 0)) (keysOf (entsT M T)))).take most.toNat := by unfold listR; rw [h1]
    rw [hRR] at f1 f2 ⊢
    refine rlist25 (er := 0) from_ most (fun W hW => ?_) f1 f2
    exact rscan21 (TabR.move hl hW (fun cs y _ h => h.agree (.of_below hW))) fc1 [97] p4 (bk := ⟨[97], M, T⟩) (by rw [h1]; rfl) h5.bnd (by show (entsT M T).length ≤ _; omega) (keyB (max from_ 0)) hm rfl
theorem next_view {F : Nat → Prop} {w : World} {cs : List Value} {v : Vw} {i : Nat} (h : ViewOn F w cs v) (hv : Vok v i) (hi : i ≤ 100) :
    Calls Tryz.prog 36 #[.agg cs.toArray] w fun e w' => e = .returned (.tuple #[.int .i64 ((nextF v.l).getD 0 : Nat), .bool (nextF v.l).isSome]) ∧ Below w.heap.size w w' := by
  obtain ⟨fc1, fc2, fc3⟩ := hv.facts hi
  obtain ⟨a1, c1, a2, n2, c2, a3, n3, c3, a, c, rfl, _, hl, _⟩ := h.raw
  exact rnext_any hl fc1 fc3
theorem next_ref {F : Nat → Prop} {w : World} {cs : List Value} {v : Vw} {i : Nat} (h : RViewOn F w cs v) (hv : Vok v i) (hi : i ≤ 100) :
    Calls Tryz.prog 37 #[.agg cs.toArray] w fun e w' => e = .returned (.tuple #[.int .i64 ((nextF v.l).getD 0 : Nat), .bool (nextF v.l).isSome]) ∧ Below w.heap.size w w' := by
  obtain ⟨fc1, fc2, fc3⟩ := hv.facts hi
  obtain ⟨a1, c1, a, c, rfl, _, hl, _⟩ := h.raw
  exact rnext25 hl fc1 fc2 fc3
end Go.Proofs.YtpghlmcoajaiiaaGreatDoor

/- Records that came in, opened. -/
namespace Go.Proofs.YtpghlmcoajaiiaaGreatDoor
open Go.RowKit Go.Deep Go.WideShapes Go.ChangeShapes

section
variable {H : Type} {enc : TypeId × Value → H} {P : Program} {w : World} {base : Nat}
end
end Go.Proofs.YtpghlmcoajaiiaaGreatDoor

/- Keys and values that came in, opened. -/
namespace Go.Proofs.YtpghlmcoajaiiaaGreatDoor
open Go.RowKit Go.Deep Go.WideShapes Go.ChangeShapes

def IsKd (cs : List Value) (y : List UInt8 × List UInt8) : Prop := cs = [.string (strOf y.1), .string (strOf y.2)]
section
variable {H : Type} {enc : TypeId × Value → H} {P : Program} {w : World} {base : Nat}
theorem rd_kd {t : TypeId} {f0 f1 : Field} (ht : P.underlying t = some (.struct #[f0, f1])) (o0 : f0.offset = 0) (o1 : f1.offset = 1)
    (c0 : P.cellsOf f0.type = 1) (c1 : P.cellsOf f1.type = 1)
    (u0 : P.underlying f0.type = some .string) (u1 : P.underlying f1.type = some .string) :
    ∀ n cs x, cs.length = 2 → DataW.trod enc P w 0 (fun _ => true) true n t cs = some x → ∃ y : List UInt8 × List UInt8, IsKd cs y := by
  intro n cs x hlen h
  obtain ⟨xs, k, _, _, _, hxl, hf⟩ := DataW.trod_struct ht h
  match xs, hxl, cs, hlen with
  | [y0, y1], _, [v0, v1], _ =>
    have g0 := hf 0 f0 rfl
    have g1 := hf 1 f1 rfl
    simp [o0, o1, c0, c1] at g0 g1
    obtain ⟨s0, e0, _, _⟩ := DataW.trod_string u0 g0
    obtain ⟨s1, e1, _, _⟩ := DataW.trod_string u1 g1
    simp at e0 e1
    refine ⟨⟨s0.data.toList, s1.data.toList⟩, ?_⟩
    unfold IsKd
    rw [e0, e1]
    rfl
end
set_option maxRecDepth 100000 in
theorem open_puts {H : Type} {enc : TypeId × Value → H} {w : World} {base : Nat} {v : Value} {d : DataW H} {p : List MemPlace} (hv : Value.okWide Tryz.prog w .any base 72 v) (h : DataW.Trod enc Tryz.prog w 0 (fun _ => true) true 72 v d p) :
    ∃ a len cap l, v = .slice a len cap ∧ TabR 2 IsKd w a len cap l :=
  open_tab Tryz.underlying72 (show Tryz.prog.cellsOf 87 = 2 by kernel_rfl) (by decide) IsKd (rd_kd Tryz.underlying87 rfl rfl (by kernel_rfl) (by kernel_rfl) Tryz.underlying9 Tryz.underlying9) hv h
end Go.Proofs.YtpghlmcoajaiiaaGreatDoor

/- Two views in boxes side by side: the program's and the reference's. -/
namespace Go.Proofs.YtpghlmcoajaiiaaGreatDoor
open Go.RowKit

/-- All blocks but two. -/
def Ot (w : World) (b8 b9 : Nat) : Nat → Prop := fun x => x < w.heap.size ∧ x ≠ b8 ∧ x ≠ b9
def TwoBox (w : World) (b8 b9 : Nat) (cs ds : List Value) (v u : Vw) : Prop :=
  b8 ≠ b9 ∧ Boxes w [(b8, cs), (b9, ds)] ∧ ViewOn (Ot w b8 b9) w cs v ∧ RViewOn (Ot w b8 b9) w ds u
theorem TwoBox.lt {w : World} {b8 b9 : Nat} {cs ds : List Value} {v u : Vw} (h : TwoBox w b8 b9 cs ds v u) : b8 < w.heap.size ∧ b9 < w.heap.size := ⟨h.2.1.lt 0 rfl, h.2.1.lt 1 rfl⟩
theorem TwoBox.step {w w' : World} {b8 b9 : Nat} {cs ds : List Value} {v u : Vw} (h : TwoBox w b8 b9 cs ds v u) (hb : Below w.heap.size w w') : TwoBox w' b8 b9 cs ds v u :=
  ⟨h.1, h.2.1.step hb, (h.2.2.1.below hb).mono fun x hx => ⟨Nat.lt_of_lt_of_le hx.1 hb.size, hx.2⟩, (h.2.2.2.below hb).mono fun x hx => ⟨Nat.lt_of_lt_of_le hx.1 hb.size, hx.2⟩⟩
theorem two_swap {w : World} {b8 b9 : Nat} {cs ds : List Value} (h : Boxes w [(b8, cs), (b9, ds)]) : Boxes w [(b9, ds), (b8, cs)] := fun p hp => h p (by simp at hp ⊢; exact hp.symm)
theorem two8 {w : World} {b8 b9 : Nat} {x0 x1 x2 x3 x4 x5 y0 y1 y2 y3 y4 y5 : Value} {ds : List Value} {v v' u : Vw} {G : Nat → Prop} (h : TwoBox w b8 b9 [x0, x1, x2, x3, x4, x5] ds v u) (hv : ViewOn G w [y0, y1, y2, y3, y4, y5] v') (hG : ∀ x, G x → x ≠ b8 ∧ x ≠ b9) :
    TwoBox (set6 w b8 y0 y1 y2 y3 y4 y5) b8 b9 [y0, y1, y2, y3, y4, y5] ds v' u := by
  obtain ⟨h1, h2, _, h4⟩ := h
  have hsz : (set6 w b8 y0 y1 y2 y3 y4 y5).heap.size = w.heap.size := by unfold set6; simp [World.setCell]
  refine ⟨h1, set6_box h2 (by simp; exact fun e => h1 e.symm) _ _ _ _ _ _, ?_, ?_⟩
  · have g1 : ViewOn (Ot w b8 b9) w [y0, y1, y2, y3, y4, y5] v' := hv.lt.mono fun x hx => ⟨hx.2, hG x hx.1⟩
    exact (g1.agree (set6_agree (F := Ot w b8 b9) (b := b8) (fun hx => hx.2.1 rfl) y0 y1 y2 y3 y4 y5)).mono fun x hx => ⟨by rw [hsz]; exact hx.1, hx.2⟩
  · exact (h4.agree (set6_agree (F := Ot w b8 b9) (b := b8) (fun hx => hx.2.1 rfl) y0 y1 y2 y3 y4 y5)).mono fun x hx => ⟨by rw [hsz]; exact hx.1, hx.2⟩
def set4 (w : World) (b : Nat) (y0 y1 y2 y3 : Value) : World := (((w.setCell ⟨b, 0, none⟩ y0).setCell ⟨b, 1, none⟩ y1).setCell ⟨b, 2, none⟩ y2).setCell ⟨b, 3, none⟩ y3
theorem set4_box {w : World} {b : Nat} {x0 x1 x2 x3 : Value} {l : List (Nat × List Value)} (h : Boxes w ((b, [x0, x1, x2, x3]) :: l)) (hl : ∀ p ∈ l, p.1 ≠ b) (y0 y1 y2 y3 : Value) : Boxes (set4 w b y0 y1 y2 y3) ((b, [y0, y1, y2, y3]) :: l) :=
  (((h.put 0 y0 hl).put 1 y1 hl).put 2 y2 hl).put 3 y3 hl
theorem set4_agree {F : Nat → Prop} {w : World} {b : Nat} (h : ¬ F b) (y0 y1 y2 y3 : Value) : AgreeF F w (set4 w b y0 y1 y2 y3) :=
  ((((AgreeF.refl w).set (.inl h)).set (.inl h)).set (.inl h)).set (.inl h)
theorem set4_below {B : Nat} {a w : World} (h : Below B a w) {b : Nat} (hb : B ≤ b) (y0 y1 y2 y3 : Value) : Below B a (set4 w b y0 y1 y2 y3) :=
  (((h.setCell hb _).setCell hb _).setCell hb _).setCell hb _
theorem two9 {w : World} {b8 b9 : Nat} {cs : List Value} {x0 x1 x2 x3 y0 y1 y2 y3 : Value} {v u u' : Vw} {G : Nat → Prop} (h : TwoBox w b8 b9 cs [x0, x1, x2, x3] v u) (hv : RViewOn G w [y0, y1, y2, y3] u') (hG : ∀ x, G x → x ≠ b8 ∧ x ≠ b9) :
    TwoBox (set4 w b9 y0 y1 y2 y3) b8 b9 cs [y0, y1, y2, y3] v u' := by
  obtain ⟨h1, h2, h3, _⟩ := h
  have hsz : (set4 w b9 y0 y1 y2 y3).heap.size = w.heap.size := by unfold set4; simp [World.setCell]
  refine ⟨h1, two_swap (set4_box (two_swap h2) (by simp; exact h1) _ _ _ _), ?_, ?_⟩
  · exact (h3.agree (set4_agree (F := Ot w b8 b9) (b := b9) (fun hx => hx.2.2 rfl) y0 y1 y2 y3)).mono fun x hx => ⟨by rw [hsz]; exact hx.1, hx.2⟩
  · have g1 : RViewOn (Ot w b8 b9) w [y0, y1, y2, y3] u' := hv.lt.mono fun x hx => ⟨hx.2, hG x hx.1⟩
    exact (g1.agree (set4_agree (F := Ot w b8 b9) (b := b9) (fun hx => hx.2.2 rfl) y0 y1 y2 y3)).mono fun x hx => ⟨by rw [hsz]; exact hx.1, hx.2⟩
/-- What is behind all blocks of a world is neither box. -/
theorem ot_ne {w W : World} {b8 b9 : Nat} (h8 : b8 < W.heap.size) (h9 : b9 < W.heap.size) : ∀ x, Fr (Ot w b8 b9) W x → x ≠ b8 ∧ x ≠ b9 := by
  intro x hx
  rcases hx with hx | hx
  · exact hx.2
  · have : W.heap.size ≤ x := hx
    constructor <;> omega
end Go.Proofs.YtpghlmcoajaiiaaGreatDoor

/- RecordLists. -/
namespace Go.Proofs.YtpghlmcoajaiiaaGreatDoor
open Go.RowKit

set_option maxRecDepth 100000 in
set_option maxHeartbeats 4000000 in
set_option maxRecDepth 100000 in
theorem lLists (a : Option Addr) (n c : Nat) (l : List (List UInt8 × List UInt8)) (a1 a2 : Int) (w : World) (hl : TabR 2 IsKd w a n c l) (hT : Half w) :
    Calls Tryz.prog 8 #[.slice a n c, .int .i64 a1, .int .i64 a2] w fun e w' => e = .returned (.bool true) ∧ Below w.heap.size w w' := by
  have AW := awake25 hT
  obtain ⟨q1, q2, q3⟩ := hl.lens
  have HL := Lib.hid hl
  have HN := Lib.hid q1
  by_cases hn60 : 60 < n
  · have d0 : decide ((60 : Int) < (n : Int)) = true := by simp; omega
    clear hl q1
    go_enter Tryz.func8, Tryz.ntmps8
    go_wp2_with fail
    refine AW.mono ?_
    rintro e w1 ⟨rfl, hb1⟩
    go_wp2_with fail
    go_ret
    exact ⟨rfl, hb1⟩
  have d0 : decide ((60 : Int) < (n : Int)) = false := by simp; omega
  by_cases hm : 1000 < a2
  · have d1 : decide ((1000 : Int) < a2) = true := by simpa using hm
    clear hl q1
    go_enter Tryz.func8, Tryz.ntmps8
    go_wp2_with fail
    refine AW.mono ?_
    rintro e w1 ⟨rfl, hb1⟩
    go_wp2_with fail
    go_ret
    exact ⟨rfl, hb1⟩
  have d1 : decide ((1000 : Int) < a2) = false := by simpa using hm
  clear hl q1
  go_enter Tryz.func8, Tryz.ntmps8
  go_wp2_with fail
  refine AW.mono ?_
  rintro e w1 ⟨rfl, hb1⟩
  clear AW
  go_wp2_with fail
  refine (vempty_any w1 (fun _ => False)).mono ?_
  rintro e w6 ⟨e1, c1, e2, c2, e3, c3, rfl, hn6, hb6⟩
  have hv6 := view0_on hn6
  obtain ⟨W7, hW7⟩ : ∃ x, x = w6.alloc (.cells #[.int .i64 0, .bool true, .slice e1 0 c1, .slice e2 0 c2, .slice e3 0 c3, .slice none 0 0] 75) := ⟨_, rfl⟩
  have hx7 : Boxes W7 [(w6.heap.size, [.int .i64 0, .bool true, .slice e1 0 c1, .slice e2 0 c2, .slice e3 0 c3, .slice none 0 0])] := by
    rw [hW7]
    exact (Boxes.nil w6).alloc #[.int .i64 0, .bool true, .slice e1 0 c1, .slice e2 0 c2, .slice e3 0 c3, .slice none 0 0] 75 (b := w6.heap.size) rfl
  have hb67 : Below w6.heap.size w6 W7 := by rw [hW7]; exact Below.al (Below.refl _ _)
  have hb16 := below_via hb1 hb6
  have HX7 := Lib.hid hx7
  have HB7 := Lib.hid (below_via hb16 hb67)
  have HV6 := Lib.hid hv6
  have HB67 := Lib.hid hb67
  have HW6 := Lib.hid hb16.size
  have hs7 : W7.heap.size = w6.heap.size + 1 := by rw [hW7, World.size_alloc]
  have HS7 := Lib.hid hs7
  clear hn6 hv6 hx7 hb67 hb1 hb6 hb16 hs7
  go_upto_region 7 with (fail)
  rw [← hW7]
  clear hW7
  go_wp2_with fail
  refine (rempty21 W7).mono ?_
  rintro e w8 ⟨e4, c4, rfl, hr8, hb8⟩
  obtain ⟨W9, hW9⟩ : ∃ x, x = w8.alloc (.cells #[.int .i64 0, .bool true, .slice e4 0 c4, .slice none 0 0] 79) := ⟨_, rfl⟩
  have hx9 : Boxes W9 [(w8.heap.size, [.int .i64 0, .bool true, .slice e4 0 c4, .slice none 0 0])] := by
    rw [hW9]
    exact (Boxes.nil w8).alloc #[.int .i64 0, .bool true, .slice e4 0 c4, .slice none 0 0] 79 (b := w8.heap.size) rfl
  have hb89 : Below w8.heap.size w8 W9 := by rw [hW9]; exact Below.al (Below.refl _ _)
  have hb79 : Below W7.heap.size W7 W9 := hb8.trans (hb89.mono hb8.size)
  have hs8 : w6.heap.size + 1 ≤ w8.heap.size := by have := hb8.size; have := HS7.out; omega
  have htwo : TwoBox W9 w6.heap.size w8.heap.size [.int .i64 0, .bool true, .slice e1 0 c1, .slice e2 0 c2, .slice e3 0 c3, .slice none 0 0] [.int .i64 0, .bool true, .slice e4 0 c4, .slice none 0 0] ⟨1, .leaf 0 [], []⟩ ⟨1, .leaf 0 [], []⟩ := by
    have hx79 := HX7.out.step hb79
    refine ⟨by omega, fun p hp => ?_, ?_, ?_⟩
    · simp at hp
      rcases hp with rfl | rfl
      · exact hx79 _ (by simp)
      · exact hx9 _ (by simp)
    · exact (HV6.out.below (HB67.out.trans (hb79.mono HB67.out.size))).mono fun _ h => h.elim
    · exact (hr8.below hb89).mono fun _ h => h.elim
  have HTWO := Lib.hid htwo
  have HB9 := Lib.hid (HB7.out.trans (hb79.mono HB7.out.size))
  have HW8 : Hid (w.heap.size ≤ w8.heap.size) := Lib.hid (by have := HW6.out; omega)
  clear hr8 hx9 hb89 hb79 hb8 htwo HX7 HB7 HV6 HB67 HS7 hs8
  go_upto_region 8 with (fail)
  rw [← hW9]
  clear hW9
  obtain ⟨b8, hb8⟩ : ∃ z, w6.heap.size = z := ⟨_, rfl⟩
  obtain ⟨b9, hb9⟩ : ∃ z, w8.heap.size = z := ⟨_, rfl⟩
  rw [hb8, hb9] at HTWO
  rw [hb8] at HW6
  rw [hb9] at HW8
  (try rw [hb8])
  (try rw [hb9])
  clear hb8 hb9
  have hw8 := HW6.out
  have hw9 := HW8.out
  go_wp2_with fail
  go_loopw [10] (fun s wr => ∃ (i : Nat) (cs ds : List Value) (v : Vw), s = .int .i64 i ∧ i ≤ n ∧ TwoBox wr b8 b9 cs ds v v ∧ Vok v i ∧ (i = 0 → ∃ a1 c1, ds = [.int .i64 0, .bool true, .slice a1 0 c1, .slice none 0 0]) ∧ Below w.heap.size w wr) (fun s _ => n - (intOf s).toNat)
  case atStart => exact ⟨0, _, _, _, rfl, Nat.zero_le _, HTWO.out, .inl ⟨rfl, rfl⟩, fun _ => ⟨_, _, rfl⟩, HB9.out⟩
  case round =>
    clear HTWO HB9
    obtain ⟨i, cs, ds, v, rfl, hi, htwo, hok, hds, hbr⟩ := hrel
    by_cases hlt : i < n
    · have d2 : decide ((i : Int) < (n : Int)) = true := by simp; omega
      obtain ⟨lb, off, y, ycs, rfl, hlb, hy, _, hycs, hcell⟩ := TabR.at HL.out hlt
      have hk0 := hcell 0 (.string (strOf y.1)) (by rw [hycs]; rfl)
      have hk1 := hcell 1 (.string (strOf y.2)) (by rw [hycs]; rfl)
      obtain ⟨key, hkey⟩ : ∃ z, y.1 = z := ⟨_, rfl⟩
      obtain ⟨d, hd⟩ : ∃ z, y.2 = z := ⟨_, rfl⟩
      rw [hkey] at hk0
      rw [hd] at hk1
      have HK0 : Hid (w.cell? ⟨lb, off + i * 2, none⟩ = some (.string (strOf key))) := Lib.hid (by simpa using hk0)
      have HK1 := Lib.hid hk1
      have HT := Lib.hid htwo
      have HOK := Lib.hid hok
      have HDS := Lib.hid hds
      have HBR := Lib.hid hbr
      clear hycs hcell hk0 hk1 hkey hd hy htwo hok hds hbr
      go_upto_if 38 with (fail)
      go_cut [] from 39 to 48 (fun wx => ∃ cs' ds' v', TwoBox wx b8 b9 cs' ds' v' v' ∧ Vst v' i ∧ Below w.heap.size w wx)
      case first =>
        have e97 : strOf [97] = (⟨#[97]⟩ : ByteArray) := rfl
        have hl8 := HT.out.lt.1
        have hl9 := HT.out.lt.2
        by_cases hi0 : i = 0
        · subst hi0
          rcases HOK.out with ⟨_, hv⟩ | ⟨h0, _⟩
          rotate_left
          · omega
          subst hv
          obtain ⟨p, q, hds⟩ := HDS.out rfl
          subst hds
          have hvr := HT.out.2.2.1
          obtain ⟨p1, q1, p2, l2, q2', p3, l3, q3', p4, q4, ecs, -, -, -⟩ := hvr.raw
          have ecs' : cs = [.int .i64 0, .bool true, .slice p1 0 q1, .slice p2 l2 q2', .slice p3 l3 q3', .slice p4 0 q4] := ecs
          subst ecs'
          have CM := vmake_any (F := Ot wr b8 b9) (fun x hx => hx.1) hvr whole_empty (by simp) (by simp) [97] ⟨by simp, by simp⟩ rfl
          rw [e97] at CM
          have e0 : (((0 : Nat) : Int) == 0) = true := rfl
          have t0 := HT.out.2.1.cell 0 0 rfl rfl
          have t1 := HT.out.2.1.cell 0 1 rfl rfl
          have t2 := HT.out.2.1.cell 0 2 rfl rfl
          have t3 := HT.out.2.1.cell 0 3 rfl rfl
          have t4 := HT.out.2.1.cell 0 4 rfl rfl
          have t5 := HT.out.2.1.cell 0 5 rfl rfl
          clear hvr ecs
          go_wp2_with fail
          refine CM.mono ?_
          rintro e w3 ⟨cs3, v3, rfl, hv3, hlv3, hdir3, hwh3, hl3, hb3⟩
          obtain ⟨g1, g2, g3, g4, g5, g6, g7, g8, g9, g10, ecs3, -, -, -⟩ := hv3.raw
          subst ecs3
          have hT3 := HT.out.step hb3
          have hx3 := hT3.2.1
          have z0 := hx3.cell 0 0 rfl rfl
          have u0 := hx3.frozen 0 0 rfl
          have z1 := hx3.cell 0 1 rfl rfl
          have u1 := hx3.frozen 0 1 rfl
          have z2 := hx3.cell 0 2 rfl rfl
          have u2 := hx3.frozen 0 2 rfl
          have z3 := hx3.cell 0 3 rfl rfl
          have u3 := hx3.frozen 0 3 rfl
          have z4 := hx3.cell 0 4 rfl rfl
          have u4 := hx3.frozen 0 4 rfl
          have z5 := hx3.cell 0 5 rfl rfl
          have u5 := hx3.frozen 0 5 rfl
          have hT4 := two8 hT3 hv3 (ot_ne hl8 hl9)
          have hb43 := below_via HBR.out hb3
          have hb4 := set6_below hb43 hw8 (.int .i64 v3.dir.page) (.bool v3.dir.isLeaf) (.slice g1 (cntT v3.dir) g2) (.slice g3 g4 g5) (.slice g6 g7 g8) (.slice g9 v3.l.length g10)
          have HL3 := Lib.hid (And.intro hlv3 (And.intro hdir3 (And.intro hwh3 hl3)))
          obtain ⟨W4, hW4⟩ : ∃ x, x = set6 w3 b8 (.int .i64 v3.dir.page) (.bool v3.dir.isLeaf) (.slice g1 (cntT v3.dir) g2) (.slice g3 g4 g5) (.slice g6 g7 g8) (.slice g9 v3.l.length g10) := ⟨_, rfl⟩
          rw [← hW4] at hT4 hb4
          unfold set6 at hW4
          have HW4 := Lib.hid hW4
          have HT4 := Lib.hid hT4
          have HB4 := Lib.hid hb4
          clear hT3 hv3 hx3 hT4 hb43 hb4 hW4 CM hlv3 hdir3 hwh3 hl3 hb3 t0 t1 t2 t3 t4 t5
          go_upto_region 13 with (fail)
          rw [← HW4.out]
          clear HW4 z0 u0 z1 u1 z2 u2 z3 u3 z4 u4 z5 u5
          have CR := rmake21 (F := Ot W4 b8 b9) (fun x hx => hx.1) HT4.out.2.2.2 whole_empty [97] ⟨by simp, by simp⟩
          rw [e97] at CR
          have t0 := HT4.out.2.1.cell 1 0 rfl rfl
          have t1 := HT4.out.2.1.cell 1 1 rfl rfl
          have t2 := HT4.out.2.1.cell 1 2 rfl rfl
          have t3 := HT4.out.2.1.cell 1 3 rfl rfl
          have hm8 := HT4.out.lt.1
          have hm9 := HT4.out.lt.2
          go_wp2_with fail
          refine CR.mono ?_
          rintro e w5 ⟨ds5, rfl, hr5, hb5⟩
          obtain ⟨y1, y2, y3, y4, eds5, -, -, -⟩ := hr5.raw
          subst eds5
          have hr5' : RViewOn (Fr (Ot W4 b8 b9) W4) w5 _ v3 := RViewOn.less hr5 HL3.out.2.1 HL3.out.2.2.1 (by rw [HL3.out.2.2.2]; rfl) (fun j x y hx hy => by
            rw [HL3.out.2.2.2] at hy
            cases j with
            | zero =>
              simp at hx hy
              subst hx hy
              exact ⟨rfl, rfl, whole_empty⟩
            | succ j => simp at hx)
          have hT5 := HT4.out.step hb5
          have hx5 := hT5.2.1
          have z0 := hx5.cell 1 0 rfl rfl
          have u0 := hx5.frozen 1 0 rfl
          have z1 := hx5.cell 1 1 rfl rfl
          have u1 := hx5.frozen 1 1 rfl
          have z2 := hx5.cell 1 2 rfl rfl
          have u2 := hx5.frozen 1 2 rfl
          have z3 := hx5.cell 1 3 rfl rfl
          have u3 := hx5.frozen 1 3 rfl
          have hT6 := two9 hT5 hr5' (ot_ne hm8 hm9)
          have hb6 := set4_below (below_via HB4.out hb5) hw9
          have HT6 := Lib.hid hT6
          have HB6 : Hid (∀ y0 y1 y2 y3, Below w.heap.size w (set4 w5 b9 y0 y1 y2 y3)) := Lib.hid hb6
          have HVS : Hid (Vst v3 0) := Lib.hid ⟨1, .leaf 0 [], by rw [HL3.out.2.2.2]; rfl, by omega, HL3.out.1, HL3.out.2.2.1, whole_empty, by simp [entsT], by simp [entsT]⟩
          clear hr5 hr5' hT5 hx5 hT6 hb6 hb5 CR t0 t1 t2 t3
          go_wp2_with fail
          go_meet
          exact ⟨_, _, v3, HT6.out, HVS.out, HB6.out _ _ _ _⟩
        · have e0 : ((i : Int) == 0) = false := by simp; omega
          rcases HOK.out with ⟨h0, _⟩ | ⟨_, hv⟩
          · omega
          have HVS := Lib.hid hv
          clear hv hi0
          go_wp2_with fail
          go_meet
          exact ⟨_, _, v, HT.out, HVS.out, HBR.out⟩
      case rest =>
        obtain ⟨cs, ds, v, ht, hvs, hb⟩ := hcut
        clear HT HOK HDS HBR
        obtain ⟨p1, q1, p2, l2, q2', p3, l3, q3', p4, q4, ecs, -, -, -⟩ := ht.2.2.1.raw
        subst ecs
        obtain ⟨r1, s1, r4, s4, eds, -, -, -⟩ := ht.2.2.2.raw
        subst eds
        obtain ⟨_, hlen1, _, _⟩ := hvs.pos
        rw [hlen1] at ht
        have CV : ∀ W, Below wc.heap.size wc W → Calls Tryz.prog 34 #[.agg #[.int .i64 v.dir.page, .bool v.dir.isLeaf, .slice p1 (cntT v.dir) q1, .slice p2 l2 q2', .slice p3 l3 q3', .slice p4 1 q4], .string ⟨#[97]⟩, .string (strOf key), .string (strOf d)] W fun e w' => ∃ cs' v' er, e = .returned (.tuple #[.agg cs'.toArray, .int .i64 er]) ∧ ViewOn (Fr (Ot wc b8 b9) W) w' cs' v' ∧ Vst v' (i + 1) ∧ StepV v key d v' ∧ Below W.heap.size W w' := fun W hW =>
          step_view (fun x hx => Nat.lt_of_lt_of_le hx.1 hW.size) (ht.2.2.1.below hW) hvs key d
        have HTC := Lib.hid ht
        have HVC := Lib.hid hvs
        have HBC := Lib.hid hb
        obtain ⟨pg, hpg⟩ : ∃ z, v.dir.page = z := ⟨_, rfl⟩
        obtain ⟨lf, hlf⟩ : ∃ z, v.dir.isLeaf = z := ⟨_, rfl⟩
        obtain ⟨cn, hcn⟩ : ∃ z, cntT v.dir = z := ⟨_, rfl⟩
        rw [hpg, hlf, hcn] at HTC CV
        have HX8 := Lib.hid HTC.out.2.1
        have hl8 := HTC.out.lt.1
        have hl9 := HTC.out.lt.2
        clear ht hvs hb hpg hlf hcn hlen1
        have t0 := HX8.out.cell 0 0 rfl rfl
        have t1 := HX8.out.cell 0 1 rfl rfl
        have t2 := HX8.out.cell 0 2 rfl rfl
        have t3 := HX8.out.cell 0 3 rfl rfl
        have t4 := HX8.out.cell 0 4 rfl rfl
        have t5 := HX8.out.cell 0 5 rfl rfl
        have hlbc := Nat.lt_of_lt_of_le hlb HBC.out.size
        have hn8 : lb ≠ b8 := by omega
        have hn9 : lb ≠ b9 := by omega
        have k0 : ∀ W, AgreeF (fun x => x ≠ b8) wc W → W.cell? ⟨lb, off + i * 2, none⟩ = some (.string (strOf key)) := fun W hW => (hW.cell (b := lb) hn8 hlbc).trans ((HBC.out.cell (p := ⟨lb, off + i * 2, none⟩) hlb).trans HK0.out)
        have k1 : ∀ W, AgreeF (fun x => x ≠ b8) wc W → W.cell? ⟨lb, off + i * 2 + 1, none⟩ = some (.string (strOf d)) := fun W hW => (hW.cell (b := lb) hn8 hlbc).trans ((HBC.out.cell (p := ⟨lb, off + i * 2 + 1, none⟩) hlb).trans HK1.out)
        have hd0 : decide ((0 : Int) ≤ (i : Int)) = true := by simp
        have hA0 : AgreeF (fun x => x ≠ b8) wc wc.drew := AgreeF.dr (AgreeF.refl _)
        go_upto_region 14 with (fail)
        go_cut [] from 49 to 63 (fun wx => ∃ cs' v', TwoBox wx b8 b9 cs' [.int .i64 pg, .bool lf, .slice r1 cn s1, .slice r4 1 s4] v' v ∧ Vst v' (i + 1) ∧ StepV v key d v' ∧ Below w.heap.size w wx)
        case first =>
          refine wp_region_noPanic ?_
          refine wp_region_held_drew (S := (fun W => AgreeF (fun x => x ≠ b8) wc W)) (by kernel_rfl) (by (repeat (with_reducible first | assumption | exact AgreeF.refl _ | apply AgreeF.al | apply AgreeF.dr | apply AgreeF.st))) (fun hHeld => ?_)
          refine wpAnyH_take (i := 1) (oi := { dst := some 51, op := Op.move (Operand.tmp 0), type := 72, pos := "law.go:65", after := #[], guard := none }) (v := ?_) rfl (by kernel_rfl) (by kernel_rfl) (by kernel_rfl) (fun _ _ _ h => h) (Or.inl ⟨by rfl, ?_⟩) (by assumption) ?_
          rotate_left
          · (intro W hW; (try dsimp only at hW); go_simp <;> (with_reducible rfl))
          try simp only [Act.put, List.setIfInBounds_toArray, List.set_cons_zero, List.set_cons_succ]
          refine wpAnyH_take (i := 2) (oi := { dst := some 52, op := Op.move (Operand.tmp 10), type := 3, pos := "law.go:65", after := #[], guard := none }) (v := ?_) rfl (by kernel_rfl) (by kernel_rfl) (by kernel_rfl) (fun _ _ _ h => h) (Or.inl ⟨by rfl, ?_⟩) (by assumption) ?_
          rotate_left
          · (intro W hW; (try dsimp only at hW); go_simp <;> (with_reducible rfl))
          try simp only [Act.put, List.setIfInBounds_toArray, List.set_cons_zero, List.set_cons_succ]
          refine wpAnyH_take (i := 3) (oi := { dst := some 53, op := Op.indexAddr 72 (Operand.tmp 51) (Operand.tmp 52), type := 0, pos := "law.go:65", after := #[{ on := 1, ground := Ground.data }, { on := 2, ground := Ground.data }], guard := none }) (v := ?_) rfl (by kernel_rfl) (by kernel_rfl) (by kernel_rfl) (fun _ _ _ h => h) (Or.inl ⟨by rfl, ?_⟩) (by assumption) ?_
          rotate_left
          · (intro W hW; (try dsimp only at hW); go_simp <;> (with_reducible rfl))
          try simp only [Act.put, List.setIfInBounds_toArray, List.set_cons_zero, List.set_cons_succ]
          refine wpAnyH_take (i := 4) (oi := { dst := some 54, op := Op.fieldAddr 87 (Operand.tmp 53) 0, type := 0, pos := "law.go:65", after := #[{ on := 3, ground := Ground.data }], guard := none }) (v := ?_) rfl (by kernel_rfl) (by kernel_rfl) (by kernel_rfl) (fun _ _ _ h => h) (Or.inl ⟨by rfl, ?_⟩) (by assumption) ?_
          rotate_left
          · (intro W hW; (try dsimp only at hW); go_simp <;> (with_reducible rfl))
          try simp only [Act.put, List.setIfInBounds_toArray, List.set_cons_zero, List.set_cons_succ]
          refine wpAnyH_take (i := 5) (oi := { dst := some 55, op := Op.load 9 (Operand.tmp 54), type := 9, pos := "law.go:65", after := #[{ on := 4, ground := Ground.data }], guard := none }) (v := ?_) rfl (by kernel_rfl) (by kernel_rfl) (by kernel_rfl) (fun _ _ _ h => h) (Or.inl ⟨by rfl, ?_⟩) (by assumption) ?_
          rotate_left
          · (intro W hW; (try dsimp only at hW); go_simp <;> (with_reducible rfl))
          try simp only [Act.put, List.setIfInBounds_toArray, List.set_cons_zero, List.set_cons_succ]
          refine wpAnyH_take (i := 6) (oi := { dst := some 56, op := Op.move (Operand.tmp 0), type := 72, pos := "law.go:65", after := #[], guard := none }) (v := ?_) rfl (by kernel_rfl) (by kernel_rfl) (by kernel_rfl) (fun _ _ _ h => h) (Or.inl ⟨by rfl, ?_⟩) (by assumption) ?_
          rotate_left
          · (intro W hW; (try dsimp only at hW); go_simp <;> (with_reducible rfl))
          try simp only [Act.put, List.setIfInBounds_toArray, List.set_cons_zero, List.set_cons_succ]
          refine wpAnyH_take (i := 7) (oi := { dst := some 57, op := Op.move (Operand.tmp 10), type := 3, pos := "law.go:65", after := #[], guard := none }) (v := ?_) rfl (by kernel_rfl) (by kernel_rfl) (by kernel_rfl) (fun _ _ _ h => h) (Or.inl ⟨by rfl, ?_⟩) (by assumption) ?_
          rotate_left
          · (intro W hW; (try dsimp only at hW); go_simp <;> (with_reducible rfl))
          try simp only [Act.put, List.setIfInBounds_toArray, List.set_cons_zero, List.set_cons_succ]
          refine wpAnyH_take (i := 8) (oi := { dst := some 58, op := Op.indexAddr 72 (Operand.tmp 56) (Operand.tmp 57), type := 0, pos := "law.go:65", after := #[{ on := 6, ground := Ground.data }, { on := 7, ground := Ground.data }], guard := none }) (v := ?_) rfl (by kernel_rfl) (by kernel_rfl) (by kernel_rfl) (fun _ _ _ h => h) (Or.inl ⟨by rfl, ?_⟩) (by assumption) ?_
          rotate_left
          · (intro W hW; (try dsimp only at hW); go_simp <;> (with_reducible rfl))
          try simp only [Act.put, List.setIfInBounds_toArray, List.set_cons_zero, List.set_cons_succ]
          refine wpAnyH_take (i := 9) (oi := { dst := some 59, op := Op.fieldAddr 87 (Operand.tmp 58) 1, type := 0, pos := "law.go:65", after := #[{ on := 8, ground := Ground.data }], guard := none }) (v := ?_) rfl (by kernel_rfl) (by kernel_rfl) (by kernel_rfl) (fun _ _ _ h => h) (Or.inl ⟨by rfl, ?_⟩) (by assumption) ?_
          rotate_left
          · (intro W hW; (try dsimp only at hW); go_simp <;> (with_reducible rfl))
          try simp only [Act.put, List.setIfInBounds_toArray, List.set_cons_zero, List.set_cons_succ]
          refine wpAnyH_take (i := 10) (oi := { dst := some 60, op := Op.load 9 (Operand.tmp 59), type := 9, pos := "law.go:65", after := #[{ on := 9, ground := Ground.data }], guard := none }) (v := ?_) rfl (by kernel_rfl) (by kernel_rfl) (by kernel_rfl) (fun _ _ _ h => h) (Or.inl ⟨by rfl, ?_⟩) (by assumption) ?_
          rotate_left
          · (intro W hW; (try dsimp only at hW); go_simp <;> (with_reducible rfl))
          try simp only [Act.put, List.setIfInBounds_toArray, List.set_cons_zero, List.set_cons_succ]
          refine wpAnyH_ready (rs := [0]) (by kernel_rfl) (by simp) (AllReadyH.cons (o := { dst := some 50, op := Op.load 75 (Operand.tmp 8), type := 75, pos := "law.go:65", after := #[], guard := none }) rfl (fun K hK => ?_) AllReadyH.nil)
          (rw [if_pos (by rfl)]; go_wp2_with (fail))
          refine hK.out _ _ (by (repeat (with_reducible first | assumption | exact AgreeF.refl _ | apply AgreeF.al | apply AgreeF.dr | apply AgreeF.st))) (fun hHeld => ?_)
          clear hK K
          try simp only [Act.put, List.setIfInBounds_toArray, List.set_cons_zero, List.set_cons_succ]
          refine wpAnyH_ready (rs := [11]) (by kernel_rfl) (by simp) (AllReadyH.cons (o := { dst := some 61, op := Op.call { callee := Callee.value (Operand.func 34), args := #[Operand.tmp 50, Operand.const (Value.string { data := #[97] }), Operand.tmp 55, Operand.tmp 60], argTypes := #[75, 9, 9, 9] }, type := 81, pos := "law.go:65", after := #[{ on := 0, ground := Ground.data }, { on := 5, ground := Ground.data }, { on := 10, ground := Ground.data }], guard := none }) rfl (fun K hK => ?_) AllReadyH.nil)
          (rw [if_pos (by rfl)]; go_wp2_with (go_at_call 34; (with_reducible refine (CV _ ?_).mono ?_); (focus (repeat (with_reducible first | assumption | exact Below.refl _ _ | apply Below.al | apply Below.dr))); rintro e w9 ⟨cs9, v9, er9, rfl, hv9, hvs9, hst9, hb9⟩; obtain ⟨g1, g2, g3, g4, g5, g6, g7, g8, g9, g10, ecs, -, -, -⟩ := hv9.raw; subst ecs; have hB9 : Below wc.heap.size wc w9 := below_via (by (repeat (with_reducible first | assumption | exact Below.refl _ _ | apply Below.al | apply Below.dr))) hb9; have hA9 : AgreeF (fun x => x ≠ b8) wc w9 := AgreeF.of_below hB9; have hx9 := HX8.out.step hB9; generalize v9.l.length = n9 at *; have z0 := hx9.cell 0 0 rfl rfl; have u0 := hx9.frozen 0 0 rfl; have z1 := hx9.cell 0 1 rfl rfl; have u1 := hx9.frozen 0 1 rfl; have z2 := hx9.cell 0 2 rfl rfl; have u2 := hx9.frozen 0 2 rfl; have z3 := hx9.cell 0 3 rfl rfl; have u3 := hx9.frozen 0 3 rfl; have z4 := hx9.cell 0 4 rfl rfl; have u4 := hx9.frozen 0 4 rfl; have z5 := hx9.cell 0 5 rfl rfl; have u5 := hx9.frozen 0 5 rfl))
          refine hK.out _ _ (by (repeat (with_reducible first | assumption | exact AgreeF.refl _ | apply AgreeF.al | apply AgreeF.dr | apply AgreeF.st))) (fun hHeld => ?_)
          clear hK K
          try simp only [Act.put, List.setIfInBounds_toArray, List.set_cons_zero, List.set_cons_succ]
          refine wpAnyH_take (i := 12) (oi := { dst := some 49, op := Op.move (Operand.tmp 61), type := 81, pos := "law.go:65", after := #[{ on := 11, ground := Ground.data }], guard := none }) (v := ?_) rfl (by kernel_rfl) (by kernel_rfl) (by kernel_rfl) (fun _ _ _ h => h) (Or.inl ⟨by rfl, ?_⟩) (by assumption) ?_
          rotate_left
          · (intro W hW; (try dsimp only at hW); go_simp <;> (with_reducible rfl))
          try simp only [Act.put, List.setIfInBounds_toArray, List.set_cons_zero, List.set_cons_succ]
          refine wpAnyH_take (i := 13) (oi := { dst := some 62, op := Op.extract (Operand.tmp 49) 0, type := 75, pos := "law.go:65", after := #[{ on := 12, ground := Ground.data }], guard := none }) (v := ?_) rfl (by kernel_rfl) (by kernel_rfl) (by kernel_rfl) (fun _ _ _ h => h) (Or.inl ⟨by rfl, ?_⟩) (by assumption) ?_
          rotate_left
          · (intro W hW; (try dsimp only at hW); go_simp <;> (with_reducible rfl))
          try simp only [Act.put, List.setIfInBounds_toArray, List.set_cons_zero, List.set_cons_succ]
          refine wpAnyH_take (i := 14) (oi := { dst := some 63, op := Op.extract (Operand.tmp 49) 1, type := 32, pos := "law.go:65", after := #[{ on := 12, ground := Ground.data }, { on := 15, ground := Ground.gcOnly Departure.lateStores }], guard := none }) (v := ?_) rfl (by kernel_rfl) (by kernel_rfl) (by kernel_rfl) (fun _ _ _ h => h) (Or.inl ⟨by rfl, ?_⟩) (by assumption) ?_
          rotate_left
          · (intro W hW; (try dsimp only at hW); go_simp <;> (with_reducible rfl))
          try simp only [Act.put, List.setIfInBounds_toArray, List.set_cons_zero, List.set_cons_succ]
          refine wpAnyH_ready (rs := [15]) (by kernel_rfl) (by simp) (AllReadyH.cons (o := { dst := none, op := Op.store 75 (Operand.tmp 8) (Operand.tmp 62), type := 0, pos := "law.go:65", after := #[{ on := 13, ground := Ground.data }, { on := 11, ground := Ground.chain }, { on := 0, ground := Ground.phase }, { on := 1, ground := Ground.phase }, { on := 2, ground := Ground.phase }, { on := 3, ground := Ground.phase }, { on := 4, ground := Ground.phase }, { on := 5, ground := Ground.phase }, { on := 6, ground := Ground.phase }, { on := 7, ground := Ground.phase }, { on := 8, ground := Ground.phase }, { on := 9, ground := Ground.phase }, { on := 10, ground := Ground.phase }, { on := 11, ground := Ground.phase }, { on := 12, ground := Ground.phase }, { on := 13, ground := Ground.phase }, { on := 14, ground := Ground.textOnly Departure.lateStores }], guard := none }) rfl (fun K hK => ?_) AllReadyH.nil)
          (rw [if_pos (by rfl)]; go_wp2_with (fail))
          refine hK.out _ _ (by (repeat (with_reducible first | assumption | exact AgreeF.refl _ | apply AgreeF.al | apply AgreeF.dr | apply AgreeF.st))) (fun hHeld => ?_)
          clear hK K
          try simp only [Act.put, List.setIfInBounds_toArray, List.set_cons_zero, List.set_cons_succ]
          refine wpAnyH_done (by kernel_rfl) ?_ _
          refine NoPanic.normal ?_
          go_wp2_with fail
          go_meet
          have hend := two8 (HTC.out.step hB9) hv9 (fun x hx => by (rcases hx with hx | hx; exact hx.2; have hx : wc.heap.size ≤ x := hx; constructor <;> omega))
          have hbe := set6_below (below_via HBC.out hB9) hw8 (.int .i64 v9.dir.page) (.bool v9.dir.isLeaf) (.slice g1 (cntT v9.dir) g2) (.slice g3 g4 g5) (.slice g6 g7 g8) (.slice g9 n9 g10)
          unfold set6 at hend hbe
          exact ⟨_, v9, hend, hvs9, hst9, hbe⟩
        case rest =>
          obtain ⟨cs1, v1, ht1, hvs1, hst1, hb1⟩ := hcut
          clear CV t0 t1 t2 t3 t4 t5 k0 k1 hA0 HX8 hl8 hl9 hlbc
          have HT1 := Lib.hid ht1
          have HV1 := Lib.hid hvs1
          have HS1 := Lib.hid hst1
          have HB1 := Lib.hid hb1
          clear ht1 hvs1 hst1 hb1
          have hl8 := HT1.out.lt.1
          have hl9 := HT1.out.lt.2
          have CR : ∀ W, Below wc.heap.size wc W → Calls Tryz.prog 35 #[.agg #[.int .i64 pg, .bool lf, .slice r1 cn s1, .slice r4 1 s4], .string ⟨#[97]⟩, .string (strOf key), .string (strOf d)] W fun e w' => ∃ cs' er, e = .returned (.tuple #[.agg cs'.toArray, .int .i64 er]) ∧ RViewOn (Fr (Ot wc b8 b9) W) w' cs' v1 ∧ Below W.heap.size W w' := fun W hW =>
            step_ref (fun x hx => Nat.lt_of_lt_of_le hx.1 hW.size) (HT1.out.2.2.2.below hW) HVC.out HV1.out HS1.out
          have HX9 := Lib.hid HT1.out.2.1
          have t0 := HX9.out.cell 1 0 rfl rfl
          have t1 := HX9.out.cell 1 1 rfl rfl
          have t2 := HX9.out.cell 1 2 rfl rfl
          have t3 := HX9.out.cell 1 3 rfl rfl
          have hlbc := Nat.lt_of_lt_of_le hlb HB1.out.size
          have k0 : ∀ W, AgreeF (fun x => x ≠ b9) wc W → W.cell? ⟨lb, off + i * 2, none⟩ = some (.string (strOf key)) := fun W hW => (hW.cell (b := lb) hn9 hlbc).trans ((HB1.out.cell (p := ⟨lb, off + i * 2, none⟩) hlb).trans HK0.out)
          have k1 : ∀ W, AgreeF (fun x => x ≠ b9) wc W → W.cell? ⟨lb, off + i * 2 + 1, none⟩ = some (.string (strOf d)) := fun W hW => (hW.cell (b := lb) hn9 hlbc).trans ((HB1.out.cell (p := ⟨lb, off + i * 2 + 1, none⟩) hlb).trans HK1.out)
          have hA0 : AgreeF (fun x => x ≠ b9) wc wc.drew := AgreeF.dr (AgreeF.refl _)
          go_upto_region 15 with (fail)
          refine wp_region_noPanic ?_
          refine wp_region_held_drew (S := (fun W => AgreeF (fun x => x ≠ b9) wc W)) (by kernel_rfl) (by (repeat (with_reducible first | assumption | exact AgreeF.refl _ | apply AgreeF.al | apply AgreeF.dr | apply AgreeF.st))) (fun hHeld => ?_)
          refine wpAnyH_take (i := 1) (oi := { dst := some 66, op := Op.move (Operand.tmp 0), type := 72, pos := "law.go:66", after := #[], guard := none }) (v := ?_) rfl (by kernel_rfl) (by kernel_rfl) (by kernel_rfl) (fun _ _ _ h => h) (Or.inl ⟨by rfl, ?_⟩) (by assumption) ?_
          rotate_left
          · (intro W hW; (try dsimp only at hW); go_simp <;> (with_reducible rfl))
          try simp only [Act.put, List.setIfInBounds_toArray, List.set_cons_zero, List.set_cons_succ]
          refine wpAnyH_take (i := 2) (oi := { dst := some 67, op := Op.move (Operand.tmp 10), type := 3, pos := "law.go:66", after := #[], guard := none }) (v := ?_) rfl (by kernel_rfl) (by kernel_rfl) (by kernel_rfl) (fun _ _ _ h => h) (Or.inl ⟨by rfl, ?_⟩) (by assumption) ?_
          rotate_left
          · (intro W hW; (try dsimp only at hW); go_simp <;> (with_reducible rfl))
          try simp only [Act.put, List.setIfInBounds_toArray, List.set_cons_zero, List.set_cons_succ]
          refine wpAnyH_take (i := 3) (oi := { dst := some 68, op := Op.indexAddr 72 (Operand.tmp 66) (Operand.tmp 67), type := 0, pos := "law.go:66", after := #[{ on := 1, ground := Ground.data }, { on := 2, ground := Ground.data }], guard := none }) (v := ?_) rfl (by kernel_rfl) (by kernel_rfl) (by kernel_rfl) (fun _ _ _ h => h) (Or.inl ⟨by rfl, ?_⟩) (by assumption) ?_
          rotate_left
          · (intro W hW; (try dsimp only at hW); go_simp <;> (with_reducible rfl))
          try simp only [Act.put, List.setIfInBounds_toArray, List.set_cons_zero, List.set_cons_succ]
          refine wpAnyH_take (i := 4) (oi := { dst := some 69, op := Op.fieldAddr 87 (Operand.tmp 68) 0, type := 0, pos := "law.go:66", after := #[{ on := 3, ground := Ground.data }], guard := none }) (v := ?_) rfl (by kernel_rfl) (by kernel_rfl) (by kernel_rfl) (fun _ _ _ h => h) (Or.inl ⟨by rfl, ?_⟩) (by assumption) ?_
          rotate_left
          · (intro W hW; (try dsimp only at hW); go_simp <;> (with_reducible rfl))
          try simp only [Act.put, List.setIfInBounds_toArray, List.set_cons_zero, List.set_cons_succ]
          refine wpAnyH_take (i := 5) (oi := { dst := some 70, op := Op.load 9 (Operand.tmp 69), type := 9, pos := "law.go:66", after := #[{ on := 4, ground := Ground.data }], guard := none }) (v := ?_) rfl (by kernel_rfl) (by kernel_rfl) (by kernel_rfl) (fun _ _ _ h => h) (Or.inl ⟨by rfl, ?_⟩) (by assumption) ?_
          rotate_left
          · (intro W hW; (try dsimp only at hW); go_simp <;> (with_reducible rfl))
          try simp only [Act.put, List.setIfInBounds_toArray, List.set_cons_zero, List.set_cons_succ]
          refine wpAnyH_take (i := 6) (oi := { dst := some 71, op := Op.move (Operand.tmp 0), type := 72, pos := "law.go:66", after := #[], guard := none }) (v := ?_) rfl (by kernel_rfl) (by kernel_rfl) (by kernel_rfl) (fun _ _ _ h => h) (Or.inl ⟨by rfl, ?_⟩) (by assumption) ?_
          rotate_left
          · (intro W hW; (try dsimp only at hW); go_simp <;> (with_reducible rfl))
          try simp only [Act.put, List.setIfInBounds_toArray, List.set_cons_zero, List.set_cons_succ]
          refine wpAnyH_take (i := 7) (oi := { dst := some 72, op := Op.move (Operand.tmp 10), type := 3, pos := "law.go:66", after := #[], guard := none }) (v := ?_) rfl (by kernel_rfl) (by kernel_rfl) (by kernel_rfl) (fun _ _ _ h => h) (Or.inl ⟨by rfl, ?_⟩) (by assumption) ?_
          rotate_left
          · (intro W hW; (try dsimp only at hW); go_simp <;> (with_reducible rfl))
          try simp only [Act.put, List.setIfInBounds_toArray, List.set_cons_zero, List.set_cons_succ]
          refine wpAnyH_take (i := 8) (oi := { dst := some 73, op := Op.indexAddr 72 (Operand.tmp 71) (Operand.tmp 72), type := 0, pos := "law.go:66", after := #[{ on := 6, ground := Ground.data }, { on := 7, ground := Ground.data }], guard := none }) (v := ?_) rfl (by kernel_rfl) (by kernel_rfl) (by kernel_rfl) (fun _ _ _ h => h) (Or.inl ⟨by rfl, ?_⟩) (by assumption) ?_
          rotate_left
          · (intro W hW; (try dsimp only at hW); go_simp <;> (with_reducible rfl))
          try simp only [Act.put, List.setIfInBounds_toArray, List.set_cons_zero, List.set_cons_succ]
          refine wpAnyH_take (i := 9) (oi := { dst := some 74, op := Op.fieldAddr 87 (Operand.tmp 73) 1, type := 0, pos := "law.go:66", after := #[{ on := 8, ground := Ground.data }], guard := none }) (v := ?_) rfl (by kernel_rfl) (by kernel_rfl) (by kernel_rfl) (fun _ _ _ h => h) (Or.inl ⟨by rfl, ?_⟩) (by assumption) ?_
          rotate_left
          · (intro W hW; (try dsimp only at hW); go_simp <;> (with_reducible rfl))
          try simp only [Act.put, List.setIfInBounds_toArray, List.set_cons_zero, List.set_cons_succ]
          refine wpAnyH_take (i := 10) (oi := { dst := some 75, op := Op.load 9 (Operand.tmp 74), type := 9, pos := "law.go:66", after := #[{ on := 9, ground := Ground.data }], guard := none }) (v := ?_) rfl (by kernel_rfl) (by kernel_rfl) (by kernel_rfl) (fun _ _ _ h => h) (Or.inl ⟨by rfl, ?_⟩) (by assumption) ?_
          rotate_left
          · (intro W hW; (try dsimp only at hW); go_simp <;> (with_reducible rfl))
          try simp only [Act.put, List.setIfInBounds_toArray, List.set_cons_zero, List.set_cons_succ]
          refine wpAnyH_ready (rs := [0]) (by kernel_rfl) (by simp) (AllReadyH.cons (o := { dst := some 65, op := Op.load 79 (Operand.tmp 9), type := 79, pos := "law.go:66", after := #[], guard := none }) rfl (fun K hK => ?_) AllReadyH.nil)
          (rw [if_pos (by rfl)]; go_wp2_with (fail))
          refine hK.out _ _ (by (repeat (with_reducible first | assumption | exact AgreeF.refl _ | apply AgreeF.al | apply AgreeF.dr | apply AgreeF.st))) (fun hHeld => ?_)
          clear hK K
          try simp only [Act.put, List.setIfInBounds_toArray, List.set_cons_zero, List.set_cons_succ]
          refine wpAnyH_ready (rs := [11]) (by kernel_rfl) (by simp) (AllReadyH.cons (o := { dst := some 76, op := Op.call { callee := Callee.value (Operand.func 35), args := #[Operand.tmp 65, Operand.const (Value.string { data := #[97] }), Operand.tmp 70, Operand.tmp 75], argTypes := #[79, 9, 9, 9] }, type := 83, pos := "law.go:66", after := #[{ on := 0, ground := Ground.data }, { on := 5, ground := Ground.data }, { on := 10, ground := Ground.data }], guard := none }) rfl (fun K hK => ?_) AllReadyH.nil)
          (rw [if_pos (by rfl)]; go_wp2_with (go_at_call 35; (with_reducible refine (CR _ ?_).mono ?_); (focus (repeat (with_reducible first | assumption | exact Below.refl _ _ | apply Below.al | apply Below.dr))); rintro e w9 ⟨ds9, er9, rfl, hr9, hb9⟩; obtain ⟨g1, g2, g3, g4, eds, -, -, -⟩ := hr9.raw; subst eds; have hB9 : Below wc.heap.size wc w9 := below_via (by (repeat (with_reducible first | assumption | exact Below.refl _ _ | apply Below.al | apply Below.dr))) hb9; have hA9 : AgreeF (fun x => x ≠ b9) wc w9 := AgreeF.of_below hB9; have hx9 := HX9.out.step hB9; generalize v1.l.length = n9 at *; have z0 := hx9.cell 1 0 rfl rfl; have u0 := hx9.frozen 1 0 rfl; have z1 := hx9.cell 1 1 rfl rfl; have u1 := hx9.frozen 1 1 rfl; have z2 := hx9.cell 1 2 rfl rfl; have u2 := hx9.frozen 1 2 rfl; have z3 := hx9.cell 1 3 rfl rfl; have u3 := hx9.frozen 1 3 rfl))
          refine hK.out _ _ (by (repeat (with_reducible first | assumption | exact AgreeF.refl _ | apply AgreeF.al | apply AgreeF.dr | apply AgreeF.st))) (fun hHeld => ?_)
          clear hK K
          try simp only [Act.put, List.setIfInBounds_toArray, List.set_cons_zero, List.set_cons_succ]
          refine wpAnyH_take (i := 12) (oi := { dst := some 64, op := Op.move (Operand.tmp 76), type := 83, pos := "law.go:66", after := #[{ on := 11, ground := Ground.data }], guard := none }) (v := ?_) rfl (by kernel_rfl) (by kernel_rfl) (by kernel_rfl) (fun _ _ _ h => h) (Or.inl ⟨by rfl, ?_⟩) (by assumption) ?_
          rotate_left
          · (intro W hW; (try dsimp only at hW); go_simp <;> (with_reducible rfl))
          try simp only [Act.put, List.setIfInBounds_toArray, List.set_cons_zero, List.set_cons_succ]
          refine wpAnyH_take (i := 13) (oi := { dst := some 77, op := Op.extract (Operand.tmp 64) 0, type := 79, pos := "law.go:66", after := #[{ on := 12, ground := Ground.data }], guard := none }) (v := ?_) rfl (by kernel_rfl) (by kernel_rfl) (by kernel_rfl) (fun _ _ _ h => h) (Or.inl ⟨by rfl, ?_⟩) (by assumption) ?_
          rotate_left
          · (intro W hW; (try dsimp only at hW); go_simp <;> (with_reducible rfl))
          try simp only [Act.put, List.setIfInBounds_toArray, List.set_cons_zero, List.set_cons_succ]
          refine wpAnyH_take (i := 14) (oi := { dst := some 78, op := Op.extract (Operand.tmp 64) 1, type := 32, pos := "law.go:66", after := #[{ on := 12, ground := Ground.data }, { on := 15, ground := Ground.gcOnly Departure.lateStores }], guard := none }) (v := ?_) rfl (by kernel_rfl) (by kernel_rfl) (by kernel_rfl) (fun _ _ _ h => h) (Or.inl ⟨by rfl, ?_⟩) (by assumption) ?_
          rotate_left
          · (intro W hW; (try dsimp only at hW); go_simp <;> (with_reducible rfl))
          try simp only [Act.put, List.setIfInBounds_toArray, List.set_cons_zero, List.set_cons_succ]
          refine wpAnyH_ready (rs := [15]) (by kernel_rfl) (by simp) (AllReadyH.cons (o := { dst := none, op := Op.store 79 (Operand.tmp 9) (Operand.tmp 77), type := 0, pos := "law.go:66", after := #[{ on := 13, ground := Ground.data }, { on := 11, ground := Ground.chain }, { on := 0, ground := Ground.phase }, { on := 1, ground := Ground.phase }, { on := 2, ground := Ground.phase }, { on := 3, ground := Ground.phase }, { on := 4, ground := Ground.phase }, { on := 5, ground := Ground.phase }, { on := 6, ground := Ground.phase }, { on := 7, ground := Ground.phase }, { on := 8, ground := Ground.phase }, { on := 9, ground := Ground.phase }, { on := 10, ground := Ground.phase }, { on := 11, ground := Ground.phase }, { on := 12, ground := Ground.phase }, { on := 13, ground := Ground.phase }, { on := 14, ground := Ground.textOnly Departure.lateStores }], guard := none }) rfl (fun K hK => ?_) AllReadyH.nil)
          (rw [if_pos (by rfl)]; go_wp2_with (fail))
          refine hK.out _ _ (by (repeat (with_reducible first | assumption | exact AgreeF.refl _ | apply AgreeF.al | apply AgreeF.dr | apply AgreeF.st))) (fun hHeld => ?_)
          clear hK K
          try simp only [Act.put, List.setIfInBounds_toArray, List.set_cons_zero, List.set_cons_succ]
          refine wpAnyH_done (by kernel_rfl) ?_ _
          refine NoPanic.normal ?_
          go_wp2_with fail
          have hend := two9 (HT1.out.step hB9) hr9 (fun x hx => by (rcases hx with hx | hx; exact hx.2; have hx : wc.heap.size ≤ x := hx; constructor <;> omega))
          have hbe := set4_below (below_via HB1.out hB9) hw9 (.int .i64 v1.dir.page) (.bool v1.dir.isLeaf) (.slice g1 (cntT v1.dir) g2) (.slice g3 n9 g4)
          unfold set4 at hend hbe
          go_roundw
          case rel => exact ⟨i + 1, _, _, v1, by go_num, by omega, hend, .inr ⟨by omega, HV1.out⟩, fun h => by omega, hbe⟩
          case measure => simp [intOf]; omega
    · obtain rfl : i = n := by omega
      have d2 : decide ((i : Int) < (i : Int)) = false := by simp
      obtain ⟨p1, q1, p2, l2, q2', p3, l3, q3', p4, q4, ecs, -, -, -⟩ := htwo.2.2.1.raw
      subst ecs
      obtain ⟨r1, s1, r4, s4, eds, -, -, -⟩ := htwo.2.2.2.raw
      subst eds
      have CN := next_view htwo.2.2.1 hok (by omega)
      obtain ⟨nx, hnx⟩ : ∃ z : Nat, (nextF v.l).getD 0 = z := ⟨_, rfl⟩
      obtain ⟨is, his⟩ : ∃ z : Bool, (nextF v.l).isSome = z := ⟨_, rfl⟩
      rw [hnx, his] at CN
      have HT := Lib.hid htwo
      have HOK := Lib.hid hok
      have HBR := Lib.hid hbr
      have HI : Hid (i ≤ 100) := Lib.hid (by omega)
      have HNX := Lib.hid (And.intro hnx his)
      have hm9 : a2 ≤ 1000 := by omega
      have b0 : ((nx : Int) == (nx : Int)) = true := by simp
      have b1 : (is == is) = true := by simp
      have t0 := HT.out.2.1.cell 0 0 rfl rfl
      have t1 := HT.out.2.1.cell 0 1 rfl rfl
      have t2 := HT.out.2.1.cell 0 2 rfl rfl
      have t3 := HT.out.2.1.cell 0 3 rfl rfl
      have t4 := HT.out.2.1.cell 0 4 rfl rfl
      have t5 := HT.out.2.1.cell 0 5 rfl rfl
      clear htwo hok hbr hds hnx his
      go_wp2_with fail
      refine CN.mono ?_
      rintro e w3 ⟨rfl, hb3⟩
      have HT3 := Lib.hid (HT.out.step hb3)
      have HB3 := Lib.hid (below_via HBR.out hb3)
      have CN2 := next_ref HT3.out.2.2.2 HOK.out HI.out
      rw [HNX.out.1, HNX.out.2] at CN2
      clear CN hb3 t0 t1 t2 t3 t4 t5
      have t0 := HT3.out.2.1.cell 1 0 rfl rfl
      have t1 := HT3.out.2.1.cell 1 1 rfl rfl
      have t2 := HT3.out.2.1.cell 1 2 rfl rfl
      have t3 := HT3.out.2.1.cell 1 3 rfl rfl
      go_wp2_with fail
      refine CN2.mono ?_
      rintro e w4 ⟨rfl, hb4⟩
      have HT4 := Lib.hid (HT3.out.step hb4)
      have HB4 := Lib.hid (below_via HB3.out hb4)
      have CL := list_view (fun x hx => hx.1) HT4.out.2.2.1 HOK.out HI.out a1 a2
      obtain ⟨D, hD⟩ : ∃ z, datas (listR v (max a1 0) a2) = z := ⟨_, rfl⟩
      have HD := Lib.hid hD
      rw [hD] at CL
      unfold ListTo at CL
      obtain ⟨m5, hm5⟩ : ∃ z, (recL D).length = z := ⟨_, rfl⟩
      obtain ⟨er, her⟩ : ∃ z, errL D = z := ⟨_, rfl⟩
      rw [hm5, her] at CL
      have HM5 := Lib.hid (And.intro hm5 her)
      have b2 : (er == er) = true := by simp
      have hlr := (listR_facts HOK.out HI.out (max a1 0) a2).1
      have hm59 : m5 ≤ 100000 := by
        rw [← hm5]
        unfold recL
        split
        · rw [List.length_map, ← hD]
          unfold datas
          rw [List.length_map]
          exact hlr
        · simp
      clear CN2 hb4 t0 t1 t2 t3 hD hm5 her hlr
      have t0 := HT4.out.2.1.cell 0 0 rfl rfl
      have t1 := HT4.out.2.1.cell 0 1 rfl rfl
      have t2 := HT4.out.2.1.cell 0 2 rfl rfl
      have t3 := HT4.out.2.1.cell 0 3 rfl rfl
      have t4 := HT4.out.2.1.cell 0 4 rfl rfl
      have t5 := HT4.out.2.1.cell 0 5 rfl rfl
      go_wp2_with fail
      refine CL.mono ?_
      rintro e w5 ⟨x5, c5, rfl, ho5, hb5⟩
      have HT5 := Lib.hid (HT4.out.step hb5)
      have HB5 := Lib.hid (below_via HB4.out hb5)
      have HO5 := Lib.hid ho5
      have CL2 := list_ref HT5.out.2.2.2 HOK.out HI.out a1 hm9
      rw [HD.out] at CL2
      unfold ListTo at CL2
      rw [HM5.out.1, HM5.out.2] at CL2
      clear CL hb5 ho5 t0 t1 t2 t3 t4 t5
      have t0 := HT5.out.2.1.cell 1 0 rfl rfl
      have t1 := HT5.out.2.1.cell 1 1 rfl rfl
      have t2 := HT5.out.2.1.cell 1 2 rfl rfl
      have t3 := HT5.out.2.1.cell 1 3 rfl rfl
      go_wp2_with fail
      refine CL2.mono ?_
      rintro e w6' ⟨x6, c6, rfl, ho6, hb6⟩
      have HB6 := Lib.hid (below_via HB5.out hb6)
      obtain ⟨y5, k5, ey5, hr5⟩ := Raw.of_own (L := (recL D).map rCell) (own_held HO5.out hb6) (by rw [List.length_map]; exact HM5.out.1)
      cases ey5
      obtain ⟨y6, k6, ey6, hr6⟩ := Raw.of_own (L := (recL D).map rCell) ho6 (by rw [List.length_map]; exact HM5.out.1)
      cases ey6
      have CS := rsame25 hr5 hr6 hm59
      clear CL2 hb6 ho6 hr5 hr6 t0 t1 t2 t3
      go_wp2_with fail
      refine CS.mono ?_
      rintro e w7 ⟨rfl, hb7⟩
      have HB7 := Lib.hid (below_via HB6.out hb7)
      clear CS hb7
      go_wp2_with fail
      go_ret
      exact ⟨rfl, HB7.out⟩
end Go.Proofs.YtpghlmcoajaiiaaGreatDoor
