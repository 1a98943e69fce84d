/- The law ChainGets. -/
import Derived.Test.YtfidfbgplfjakaaDoorM9
import Derived.Test.YtfidfbgplfjakaaDoorM10
import Derived.Test.YtfidfbgplfjakaaDoorM11
import Derived.Deep.RegionHeld3
namespace Go.Proofs.YtfidfbgplfjakaaDoor
open Go.RowKit

/-- A row of integers of the call's own, read; it stays. -/
theorem row_stay {w w1 w2 : World} {v : Value} {n : Nat} {l : List Int} (h : w1.ownsRow w.heap.size 3 1 v n (l.map (Value.int .i64))) (hb : Below w1.heap.size w1 w2) : ∃ a cap, v = .slice a n cap ∧ Row .i64 w2 a n cap l := by
  obtain ⟨a, cap, rfl, r⟩ := Row.of_own h
  exact ⟨a, cap, rfl, r.below (Nat.le_refl _) hb⟩

set_option maxRecDepth 100000 in
set_option maxHeartbeats 8000000 in
theorem lGets (a : Option Addr) (n cap : Nat) (l : List Wrt) (first size : Int) (w : World) (h1 : Wrts w a n cap l) (hf : I64 first) (hh : Half w) :
    Calls Tryd.prog 4 #[.slice a n cap, .int .i64 first, .int .i64 size] w fun e w' => e = .returned (.bool true) ∧ Below w.heap.size w w' := by
  have A := awake_any w hh
  have hc1 := h1.2.1
  have hm1 := h1.2.2.1
  unfold maxLen at hm1
  by_cases hn : 20 < n
  · have d1 : decide ((20 : Int) < n) = true := by simp; omega
    have d1' : decide (20 < n) = true := by simp; omega
    clear h1
    go_enter Tryd.func4, Tryd.ntmps4
    go_wp2_with fail
    refine A.mono ?_
    rintro e w2 ⟨rfl, hb2⟩
    go_wp2_with fail
    go_ret
    exact ⟨rfl, hb2⟩
  have d1 : decide ((20 : Int) < n) = false := by simp; omega
  have d1' : decide (20 < n) = false := by simp; omega
  have H1 := Lib.hid h1
  clear h1
  go_enter Tryd.func4, Tryd.ntmps4
  go_wp2_with fail
  refine A.mono ?_
  rintro e w2 ⟨rfl, hb2⟩
  have N := new_ok (aw_one w2 12) (by decide)
  have hA0 : Below w2.heap.size w2 (w2.alloc (.cells #[.int .i64 12] 3)) := (Below.refl _ _).alloc (Nat.le_refl _) _
  clear A
  go_wp2_with fail
  refine N.mono ?_
  rintro e w3 ⟨db, rfl, hd3, hb3⟩
  have hw3 := below_then (below_then hb2 hA0) hb3
  have R := rnew_any (aw_one w3 12) (by decide)
  have hA3 : Below w3.heap.size w3 (w3.alloc (.cells #[.int .i64 12] 3)) := (Below.refl _ _).alloc (Nat.le_refl _) _
  have hsz : (w2.alloc (.cells #[.int .i64 12] 3)).heap.size = w2.heap.size + 1 := by simp
  rw [hsz] at hd3
  have hN3 : w3.heap.size ≤ (w3.alloc (.cells #[.int .i64 12] 3)).heap.size := by simp
  have hs2 := hb2.size
  clear N hb3 hsz hb2 hA0
  go_wp2_with fail
  refine R.mono ?_
  rintro e w4 ⟨hb4, hp4⟩
  rw [if_pos (by decide)] at hp4
  obtain ⟨a4, c4, rfl, hg4⟩ := hp4
  have hb34 := below_then hA3 hb4
  have hB4 : Both (w2.heap.size + 1) w4 db 0 (newD [12]) a4 1 c4 (newD [12]) := Both.mk hd3 hb34 hN3 hg4
  have HB4 := Lib.hid hB4
  have HW4 := Lib.hid (below_then hw3 hb34)
  clear R hb4 hg4 hb34 hB4 hd3 hA3 hN3 hw3
  go_wp2_with fail
  go_loopw [10, 12] (fun s8 s10 wr => ∃ (i : Nat) (d : List Rg) (a8 : Option Addr) (c8 : Nat), i ≤ n ∧ s10 = .int .i64 i ∧ s8 = .slice a8 1 c8 ∧ Both (w2.heap.size + 1) wr db i d a8 1 c8 d ∧ (∀ x ∈ d, x.loose.length ≤ i) ∧ Below w.heap.size w wr) (fun _ s _ => n - (intOf s).toNat)
  case atStart => exact ⟨0, _, a4, c4, Nat.zero_le _, rfl, rfl, HB4.out, new_loose _, HW4.out⟩
  case round =>
    clear HB4 HW4
    obtain ⟨i, d, a8, c8, hi, rfl, rfl, hd, hlo, hb⟩ := hrel
    have hdl := hd.gs.1
    by_cases hlt : i < n
    · obtain ⟨b9, o9, y, e9, hb9, hy, k0, k1, hbs⟩ := H1.out.at hlt
      subst e9
      have hop := (hd.below (w' := wr.drew) (below_drewN (Below.refl _ _) 1)).opens
      have C := write_o2 hop ((hbs.below (Nat.le_refl _) hb).below (Nat.le_refl _) (below_drewN (Below.refl _ _) 1)) (fun hn g off e => .inl (by
        obtain ⟨g', off', e', hg', _⟩ := hbs.cell (k := 0) (by omega)
        rw [e] at e'
        cases e'
        omega)) (by omega) 0 y.page
      have cA : ∀ W, Below w.heap.size w W → W.cell? ⟨b9, o9 + i * 2, none⟩ = some (.int .i64 y.page) := fun W hW => (hW.cell (p := ⟨b9, o9 + i * 2, none⟩) hb9).trans k0
      have cB : ∀ W, Below w.heap.size w W → W.cell? ⟨b9, o9 + i * 2 + 1, none⟩ = some (.slice y.a y.n y.cap) := fun W hW => (hW.cell (p := ⟨b9, o9 + i * 2 + 1, none⟩) hb9).trans k1
      have cV : ∀ W, Below w.heap.size w W → (convert 31 9 (.slice y.a y.n y.cap)).run Tryd.prog W = .ok (.string (strOf y.b)) W := fun W hW => conv_string Tryd.underlying31 Tryd.underlying5 Tryd.underlying9 (hbs.below (Nat.le_refl _) hW)
      have HLO := Lib.hid hlo
      have HDL := Lib.hid hdl
      have hb0 : Below w.heap.size w wr.drew := hb.drew
      have hyc := hbs.2.1
      clear hd hb k0 k1 hbs hop hlo hy hdl
      go_wp2_with fail
      go_region_held3 (fun W => Below w.heap.size w W) (with_reducible assumption) (first | (go_at_call 16; refine C.mono ?_; rintro e wx ⟨rfl, hdx, hbx⟩; have hBx : Below w.heap.size w wx := hb0.trans (hbx.mono (by omega))))
      all_goals
        have hd2 : Both (w2.heap.size + 1) wx.drew db (i + 1) (writeD d 0 y.page y.b) a8 1 c8 d := hdx.below (below_drewN (Below.refl _ _) 1)
        have C2 := both_write hd2 (by omega) (fun x hx => by have := HLO.out x hx; omega) 0 y.page y.b
        have hb1 : Below w.heap.size w wx.drew := hBx.drew
        clear hdx hbx hb0 C hd2
        go_wp2_with fail
        go_region_held3 (fun W => Below w.heap.size w W) (with_reducible assumption) (first | (go_at_call 17; refine C2.mono ?_; rintro e wy ⟨a9, n9, c9, rfl, hdy, hby⟩; have hBy : Below w.heap.size w wy := below_then hb1 hby))
      all_goals
        have hn9 : n9 = 1 := by have h2 := hdy.gs.1; rw [write_length] at h2; have h3 := HDL.out; omega
        subst hn9
        have HDY := Lib.hid hdy
        have HLY := Lib.hid (write_loose HLO.out 0 y.page y.b)
        have HBY := Lib.hid hBy
        clear cA cB cV hdy hBy hby hb1 C2
        go_wp2_with fail
        go_roundw
        case rel => exact ⟨i + 1, _, a9, c9, hlt, by go_num, rfl, HDY.out, HLY.out, HBY.out⟩
        case measure => simp [intOf]; omega
    · obtain rfl : i = n := by omega
      have hh1 := hh.below (Nat.le_refl _) hb
      have G1 := cget_any hd.one hh1 0 first size hf
      have HG := Lib.hid hd
      have HB := Lib.hid hb
      have HH := Lib.hid hh
      clear hd hb hh hh1 H1 hlo
      go_wp2_with fail
      refine G1.mono ?_
      rintro e w5 ⟨v6, rfl, ho6, hb5⟩
      have R1 := crget_any (HG.out.below hb5).gs (by omega) 0 first size
      have HB5 := Lib.hid (below_then HB.out hb5)
      have HG5 := Lib.hid (HG.out.below hb5)
      clear G1 hb5
      go_wp2_with fail
      refine R1.mono ?_
      rintro e w6 ⟨v8, rfl, ho8, hb6⟩
      obtain ⟨⟨X, T, E⟩, hR0⟩ : ∃ R, getDC d 0 first size = R := ⟨_, rfl⟩
      rw [hR0] at ho6 ho8 ⊢
      try simp only at ho6 ho8 ⊢
      obtain ⟨a6, c6, rfl, row6⟩ := row_stay ho6 hb6
      obtain ⟨a9, c9, rfl, row8⟩ := Row.of_own ho8
      have HB6 := Lib.hid (below_then HB5.out hb6)
      have HG6 := Lib.hid (HG5.out.below hb6)
      have G2 := cget_any HG6.out.one (HH.out.below (Nat.le_refl _) HB6.out) 1 first size hf
      clear R1 hb6 ho6 ho8 hR0
      go_wp2_with fail
      refine G2.mono ?_
      rintro e w7 ⟨u6, rfl, ho6, hb7⟩
      have R2 := crget_any (HG6.out.below hb7).gs (by omega) 1 first size
      clear G2
      go_wp2_with fail
      refine R2.mono ?_
      rintro e w8 ⟨u8, rfl, ho8, hb8⟩
      have hb78 := below_then hb7 hb8
      obtain ⟨⟨X2, T2, E2⟩, hR0⟩ : ∃ R, getDC d 1 first size = R := ⟨_, rfl⟩
      rw [hR0]
      have HB8 := Lib.hid (below_then HB6.out hb78)
      have r6 := row6.below (Nat.le_refl _) hb78
      have r8 := row8.below (Nat.le_refl _) hb78
      have I2 := ints_any r6 r8
      rw [show decide (T = T) = true by simp] at I2
      have eE : (E == E) = true := by simp
      have eE2 : (E2 == E2) = true := by simp
      clear R2 hb7 hb8 ho6 ho8 hR0 hb78 row6 row8 r6 r8
      go_wp2_with fail
      refine I2.mono ?_
      rintro e w10 ⟨rfl, j2, rfl⟩
      have HB9 := Lib.hid (below_drewN HB8.out j2)
      clear I2
      go_wp2_with fail
      go_ret
      exact ⟨rfl, HB9.out⟩
end Go.Proofs.YtfidfbgplfjakaaDoor
