/- The walks of the chapter on disks: a region of a disk; what may be asked of it. -/
import Derived.Test.YtopnfpobbemfbaaDskW
import Derived.Outline
import Derived.Deep.DeepCutAuto
namespace Go.Proofs.Ytopnfpobbemfbaa
open Go.RowKit

/-- A row of one-celled elements of the call's own: its cells. -/
theorem own_cells1 {w : World} {base : Nat} {e : TypeId} {v : Value} {n : Nat} {xs : List Value} (h : w.ownsRow base e 1 v n xs) :
    ∃ a cap, v = .slice a n cap ∧ xs.length = n ∧ n ≤ cap ∧ cap ≤ maxLen ∧ ∀ i u, xs[i]? = some u → ∃ g, a = some ⟨g, 0, none⟩ ∧ g < w.heap.size ∧ w.cell? ⟨g, i, none⟩ = some u := by
  obtain ⟨h1, h2⟩ := h
  simp only [Nat.mul_one] at h1
  rcases h2 with ⟨rfl, h0⟩ | ⟨g, cap, cur, rfl, hb, hg, hn, hm, hc, ht⟩
  · refine ⟨none, 0, by rw [h0], by omega, by omega, by unfold maxLen; omega, fun i u hu => ?_⟩
    have := (List.getElem?_eq_some_iff.1 hu).1; omega
  · refine ⟨_, cap, rfl, by omega, hn, hm, fun i u hu => ⟨g, rfl, (Array.getElem?_eq_some_iff.1 hg).1, ?_⟩⟩
    have hi := (List.getElem?_eq_some_iff.1 hu).1
    rw [← ht, List.getElem?_take_of_lt (by omega)] at hu
    simp only [World.cell?, hg]
    rw [← Array.getElem?_toList]; exact hu

theorem DskIn.row {w : World} {F : List Nat} {db M : Nat} {bs : List (Nat × List Nat)} {d : List Rg} (h : DskIn w F db M bs d) :
    ∃ a cap, w.cell? ⟨db, 0, none⟩ = some (.slice a d.length cap) ∧ d.length ≤ cap ∧ cap ≤ 9223372036854775807 ∧ ∀ i q, bs[i]? = some q → ∃ g, a = some ⟨g, 0, none⟩ ∧ w.cell? ⟨g, i, none⟩ = some (.pointer (some ⟨q.1, 0, none⟩)) := by
  obtain ⟨pv, h1, h2, _⟩ := h.cells
  obtain ⟨a, cap, rfl, h3, h4, h5, h6⟩ := own_cells1 h2
  refine ⟨a, cap, by simp [World.cell?, h1], h4, by unfold maxLen at h5; omega, fun i q hq => ?_⟩
  obtain ⟨g, e, _, hc⟩ := h6 i (.pointer (some ⟨q.1, 0, none⟩)) (by rw [List.getElem?_map, hq]; rfl)
  exact ⟨g, e, hc⟩

set_option maxRecDepth 100000 in
set_option maxHeartbeats 1000000 in
theorem of_in {w : World} {F : List Nat} {db M : Nat} {bs : List (Nat × List Nat)} {d : List Rg} (h : DskIn w F db M bs d) (i : Nat) (q : Nat × List Nat) (hq : bs[i]? = some q) :
    Calls Try.prog 36 #[.pointer (some ⟨db, 0, none⟩), .int .i64 (i : Int)] w fun e w' => e = .returned (.pointer (some ⟨q.1, 0, none⟩)) ∧ w = w' := by
  have hi : i < d.length := by rw [← h.len]; exact (List.getElem?_eq_some_iff.1 hq).1
  obtain ⟨a, cap, c0, hcap, hm, hcell⟩ := h.row
  obtain ⟨g, rfl, c1⟩ := hcell i q hq
  have h1 : decide ((d.length : Int) ≤ (i : Int)) = false := by simp; omega
  have h2 : decide (d.length ≤ i) = false := by simp; omega
  clear hcell h hq
  go_enter Try.func36, Try.ntmps36
  go_wp2
  go_ret
  exact ⟨rfl, rfl⟩
set_option maxRecDepth 100000 in
set_option maxHeartbeats 1000000 in
theorem of_out {w : World} {F : List Nat} {db M : Nat} {bs : List (Nat × List Nat)} {d : List Rg} (h : DskIn w F db M bs d) (r : Int) (hr : ¬ (0 ≤ r ∧ r < d.length)) :
    Calls Try.prog 36 #[.pointer (some ⟨db, 0, none⟩), .int .i64 r] w fun e w' => e = .returned (.pointer none) ∧ w = w' := by
  obtain ⟨a, cap, c0, hcap, hm, hcell⟩ := h.row
  by_cases h0 : r < 0
  · have h1 : decide (r < 0) = true := by simpa using h0
    clear hcell h hr
    go_enter Try.func36, Try.ntmps36
    go_wp2
    go_ret
    exact ⟨rfl, rfl⟩
  · have h1 : decide (r < 0) = false := by simpa using h0
    have h2 : decide ((d.length : Int) ≤ r) = true := by simp; omega
    clear hcell h hr
    go_enter Try.func36, Try.ntmps36
    go_wp2
    go_ret
    exact ⟨rfl, rfl⟩
set_option maxRecDepth 100000 in
set_option maxHeartbeats 1000000 in
theorem of_nil (r : Int) (w : World) :
    Calls Try.prog 36 #[.pointer none, .int .i64 r] w fun e w' => e = .returned (.pointer none) ∧ w = w' := by
  go_enter Try.func36, Try.ntmps36
  go_wp2
  go_ret
  exact ⟨rfl, rfl⟩

/-- The cells of a region's box. -/
theorem RegIn.cells {w : World} {fp : List Nat} {b M : Nat} {x : Rg} (h : RegIn w fp b M x) :
    ∃ mb a cap, w.cell? ⟨b, 0, none⟩ = some (.int .i64 (x.size : Int)) ∧ w.cell? ⟨b, 1, none⟩ = some (.map (some mb)) ∧ w.cell? ⟨b, 2, none⟩ = some (.slice a x.loose.length cap) ∧ w.cell? ⟨b, 3, none⟩ = some (.int .i64 x.left) ∧ w.cell? ⟨b, 4, none⟩ = some (.bool x.down) ∧ ∀ j, w.frozen? ⟨b, j, none⟩ = false := by
  obtain ⟨mb, n, v, h1, h2, h3, _⟩ := h
  obtain ⟨a, cap, rfl, _⟩ := own_slice h3
  exact ⟨mb, a, cap, by simp [World.cell?, h1], by simp [World.cell?, h1], by simp [World.cell?, h1], by simp [World.cell?, h1], by simp [World.cell?, h1], fun j => by simp [World.frozen?, h1]⟩

set_option maxRecDepth 100000 in
set_option maxHeartbeats 1000000 in
theorem dlen_any {w : World} {F : List Nat} {db M : Nat} {bs : List (Nat × List Nat)} {d : List Rg} (h : DskIn w F db M bs d) (r : Int) :
    Calls Try.prog 28 #[.pointer (some ⟨db, 0, none⟩), .int .i64 r] w fun e w' => e = .returned (.int .i64 (sizeL d r : Int)) ∧ w = w' := by
  by_cases hr : 0 ≤ r ∧ r < d.length
  · obtain ⟨i, rfl⟩ := Int.eq_ofNat_of_zero_le hr.1
    have hi : i < d.length := by omega
    obtain ⟨q, hq⟩ : ∃ q, bs[i]? = some q := ⟨_, List.getElem?_eq_getElem (by rw [h.len]; exact hi)⟩
    obtain ⟨x, hx⟩ : ∃ x, d[i]? = some x := ⟨_, List.getElem?_eq_getElem hi⟩
    have hs : sizeL d (i : Int) = x.size := by rw [sizeL, if_pos hr, atR, Int.toNat_natCast, hx]; rfl
    obtain ⟨mb, a, cap, c0, c1, c2, c3, c4, _⟩ := (h.reg i q x hq hx).cells
    have O := of_in h i q hq
    have HS := Lib.hid hs
    clear hs hq hx h hr
    go_enter Try.func28, Try.ntmps28
    go_wp2_with fail
    refine O.mono ?_
    rintro e w' ⟨rfl, rfl⟩
    go_wp2
    go_ret
    exact ⟨ret_int (by rw [HS.out]), rfl⟩
  · have hs : sizeL d r = 0 := by rw [sizeL, if_neg hr]
    have O := of_out h r hr
    rw [hs]
    clear hs h hr
    go_enter Try.func28, Try.ntmps28
    go_wp2_with fail
    refine O.mono ?_
    rintro e w' ⟨rfl, rfl⟩
    go_wp2
    go_ret
    exact ⟨rfl, rfl⟩
set_option maxRecDepth 100000 in
set_option maxHeartbeats 1000000 in
theorem ddown_any {w : World} {F : List Nat} {db M : Nat} {bs : List (Nat × List Nat)} {d : List Rg} (h : DskIn w F db M bs d) (r : Int) :
    Calls Try.prog 25 #[.pointer (some ⟨db, 0, none⟩), .int .i64 r] w fun e w' => e = .returned (.bool (downB d r)) ∧ w = w' := by
  by_cases hr : 0 ≤ r ∧ r < d.length
  · obtain ⟨i, rfl⟩ := Int.eq_ofNat_of_zero_le hr.1
    have hi : i < d.length := by omega
    obtain ⟨q, hq⟩ : ∃ q, bs[i]? = some q := ⟨_, List.getElem?_eq_getElem (by rw [h.len]; exact hi)⟩
    obtain ⟨x, hx⟩ : ∃ x, d[i]? = some x := ⟨_, List.getElem?_eq_getElem hi⟩
    have hs : downB d (i : Int) = x.down := by rw [downB, if_pos hr, atR, Int.toNat_natCast, hx]; rfl
    obtain ⟨mb, a, cap, c0, c1, c2, c3, c4, _⟩ := (h.reg i q x hq hx).cells
    have O := of_in h i q hq
    have HS := Lib.hid hs
    clear hs hq hx h hr
    go_enter Try.func25, Try.ntmps25
    go_wp2_with fail
    refine O.mono ?_
    rintro e w' ⟨rfl, rfl⟩
    go_wp2
    go_ret
    exact ⟨ret_bool (by rw [HS.out]), rfl⟩
  · have hs : downB d r = false := by rw [downB, if_neg hr]
    have O := of_out h r hr
    rw [hs]
    clear hs h hr
    go_enter Try.func25, Try.ntmps25
    go_wp2_with fail
    refine O.mono ?_
    rintro e w' ⟨rfl, rfl⟩
    go_wp2
    go_ret
    exact ⟨rfl, rfl⟩
/-- A region that goes; else the error. -/
def UpPost (bs : List (Nat × List Nat)) (r er : Int) (e : Ending) : Prop := (er = 0 ∧ ∃ q, bs[r.toNat]? = some q ∧ e = .returned (.tuple #[.pointer (some ⟨q.1, 0, none⟩), .int .i64 0])) ∨ (er ≠ 0 ∧ e = .returned (.tuple #[.pointer none, .int .i64 er]))
set_option maxRecDepth 100000 in
set_option maxHeartbeats 1000000 in
theorem up_any {w : World} {F : List Nat} {db M : Nat} {bs : List (Nat × List Nat)} {d : List Rg} (h : DskIn w F db M bs d) (r : Int) :
    Calls Try.prog 32 #[.pointer (some ⟨db, 0, none⟩), .int .i64 r] w fun e w' => UpPost bs r (upE d r) e ∧ w = w' := by
  by_cases hr : 0 ≤ r ∧ r < d.length
  · obtain ⟨i, rfl⟩ := Int.eq_ofNat_of_zero_le hr.1
    have hi : i < d.length := by omega
    obtain ⟨q, hq⟩ : ∃ q, bs[i]? = some q := ⟨_, List.getElem?_eq_getElem (by rw [h.len]; exact hi)⟩
    obtain ⟨x, hx⟩ : ∃ x, d[i]? = some x := ⟨_, List.getElem?_eq_getElem hi⟩
    have hs : upE d (i : Int) = if x.down then 3 else 0 := by rw [upE, if_pos hr, Int.toNat_natCast, hx]; rfl
    obtain ⟨mb, a, cap, c0, c1, c2, c3, c4, _⟩ := (h.reg i q x hq hx).cells
    have O := of_in h i q hq
    have HQ := Lib.hid hq
    rw [hs]
    clear hs hq hx h hr
    cases hd : x.down with
    | true =>
      rw [hd] at c4
      clear hd
      go_enter Try.func32, Try.ntmps32
      go_wp2_with fail
      refine O.mono ?_
      rintro e w' ⟨rfl, rfl⟩
      go_wp2
      go_ret2
      exact ⟨.inr ⟨by decide, rfl⟩, rfl⟩
    | false =>
      rw [hd] at c4
      clear hd
      go_enter Try.func32, Try.ntmps32
      go_wp2_with fail
      refine O.mono ?_
      rintro e w' ⟨rfl, rfl⟩
      go_wp2
      go_ret2
      exact ⟨.inl ⟨rfl, q, HQ.out, rfl⟩, rfl⟩
  · have hs : upE d r = 2 := by rw [upE, if_neg hr]
    have O := of_out h r hr
    rw [hs]
    clear hs h hr
    go_enter Try.func32, Try.ntmps32
    go_wp2_with fail
    refine O.mono ?_
    rintro e w' ⟨rfl, rfl⟩
    go_wp2
    go_ret2
    exact ⟨.inr ⟨by decide, rfl⟩, rfl⟩
end Go.Proofs.Ytopnfpobbemfbaa
