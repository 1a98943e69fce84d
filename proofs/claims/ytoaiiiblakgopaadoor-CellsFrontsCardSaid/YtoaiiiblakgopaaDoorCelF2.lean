/- The walks of the chapter on pages of cells: the law on fronts, whole. -/
import Derived.Test.YtoaiiiblakgopaaDoorCelF
namespace Go.Proofs.YtoaiiiblakgopaaDoor
open Go.RowKit

theorem packE_le (kind : UInt8) (l : List (List UInt8)) (hk : kind ≠ 0) : packE kind l = if l.length + lens l ≤ 122 then 0 else 1 := by
  simp [packE, fits, hk]
theorem size_bss (w : World) : (sizeOf (Tryd.prog.elem 22)).run Tryd.prog w = .ok 1 w := by kernel_rfl
theorem elem_bss : Tryd.prog.underlying 22 = some (.slice (Tryd.prog.elem 22)) := by kernel_rfl

set_option maxRecDepth 100000 in
set_option maxHeartbeats 8000000 in
theorem lFronts_ok (a : Option Addr) (len cap : Nat) (l : List (List UInt8)) (at_ : UInt8) (a2 : Option Addr) (n2 c2 : Nat) (more : List UInt8) (w : World) (h : Bss w a len cap l) (h2 : Bs w a2 n2 c2 more) (hh : Half w) (hs : smallF l = true) (hm : n2 ≤ 300) :
    Calls Tryd.prog 6 #[.slice a len cap, .int .u8 at_.toNat, .slice a2 n2 c2] w fun e w' => e = .returned (.bool true) ∧ Below w.heap.size w w' := by
  have hll := h.1
  have hml := h2.len
  have hsz := smallF_true hs
  have hl3 : len ≤ 300 := by omega
  have haw := awake_any w hh
  have hsm : ∀ W, Below w.heap.size w W → Calls Tryd.prog 9 #[.slice a len cap] W fun e w' => e = .returned (.bool true) ∧ W = w' := fun W hW => by rw [← hs]; exact small_any a len cap l W (h.below (Nat.le_refl _) hW)
  obtain ⟨k, hk, hkl⟩ : ∃ k, k = at_.toNat % (len + 1) ∧ k ≤ len := ⟨_, rfl, by have := Nat.mod_lt at_.toNat (show 0 < len + 1 by omega); omega⟩
  have hrem : (at_.toNat : Int) % ((len : Int) + 1) = (k : Int) := by rw [hk]; push_cast; rfl
  have ht := h.take k hkl
  have hd := h.drop k hkl
  obtain ⟨ad, had, hdr⟩ := slice_from elem_bss size_bss a len cap k hkl
  rw [← had] at hd
  have hcat := lens_append (l.take k) (l.drop k)
  rw [List.take_append_drop] at hcat
  have hlt := ht.1
  have hld := hd.1
  have hP : ∀ x n c L W, Bss W x n c L → Below w.heap.size w W → n + lens L ≤ 200000 → Calls Tryd.prog 10 #[.int .u8 3, .slice x n c] W (PackAny W (packV 3 L) (packE 3 L)) := fun x n c L W hW hb hn => pack_any 3 x n c L W hW (hh.below (Nat.le_refl _) hb) (by omega)
  have hS : ∀ x n c L W, Bss W x n c L → n + lens L ≤ 200000 → Calls Tryd.prog 13 #[.slice x n c] W fun e w' => e = .returned (.int .i64 ((n + lens L : Nat) : Int)) ∧ W = w' := fun x n c L W hW hn => csize_any x n c L W hW (by omega)
  have e1 := packE_le 3 l (by decide)
  have e2 := packE_le 3 (l.take k) (by decide)
  have e3 := packE_le 3 (l ++ [more]) (by decide)
  have hlm : lens (l ++ [more]) = lens l + n2 := by rw [lens_append, lens_one, hml]
  have hlen3 : (l ++ [more]).length = len + 1 := by simp [hll]
  rw [hlen3, hlm] at e3
  rw [hll] at e1
  rw [hlt] at e2
  obtain ⟨i0, hi, hz0, hz1, hz2⟩ := info_parts info_bytes
  obtain ⟨vs, hvs, hvs1, hvs2⟩ := h.vals
  have h8 := at_.toNat_lt
  have hc1 := h.2.2.1
  have hc2 := h2.cap
  have hc3 := h.2.1
  unfold maxLen at hc1 hc2
  have HT := Lib.hid ht
  have HD := Lib.hid hd
  have HDR := Lib.hid hdr
  have HCAT := Lib.hid hcat
  have HE1 := Lib.hid e1
  have HE2 := Lib.hid e2
  have HE3 := Lib.hid e3
  have HLM := Lib.hid hlm
  have HL3 := Lib.hid hlen3
  have HLL := Lib.hid hll
  have HML := Lib.hid hml
  have HVS := Lib.hid hvs2
  have HV1 := Lib.hid hvs1
  clear ht hd hdr hcat e1 e2 e3 hlm hlen3 hll hml hk hlt hld had hvs1 hvs2 hs
  go_enter Tryd.func6, Tryd.ntmps6
  go_wp2_with fail
  refine haw.mono ?_
  rintro e w1 ⟨rfl, hb⟩
  go_wp2_with fail
  refine (hsm w1 hb).mono ?_
  rintro e w2 ⟨rfl, rfl⟩
  go_wp2_with fail
  refine (hP a len cap l w1 (h.below (Nat.le_refl _) hb) hb (by omega)).mono ?_
  rintro e w2 ⟨v2, rfl, hown2, hb2⟩
  have hb := below_then hb hb2
  clear hown2 hb2
  go_wp2_with fail
  refine (hP a k cap (l.take k) w2 (Bss.below (Nat.le_refl _) hb HT.out) hb (by have := HCAT.out; omega)).mono ?_
  rintro e w3 ⟨v3, rfl, hown3, hb3⟩
  have hb := below_then hb hb3
  clear hown3 hb3
  have hvs3 := hvs.below (Nat.le_refl _) hb
  have hsz3 := hb.size
  go_wp2_with (at_builtin; refine wpList_append_vals rfl (.tmp 48) (.tmp 49) 22 rfl w.heap.size 25 i0 _ 24 Tryd.underlying22 hi hz0 hz1 hz2 rfl _ 0 [] rfl (World.ownsRow_nil _ _ _ _) a len cap vs rfl hvs3 HV1.out (by unfold maxLen; omega) (by omega) hsz3 ?_)
  intro v4 w4 hown4 hg4
  have hb := hb.grown hg4 hsz3 (fun j e => by cases e)
  clear hg4 hsz3 hvs3
  have hown5 := hown4.alloc (.cells #[.slice a2 n2 c2] 25)
  have hcl : (w4.alloc (.cells #[.slice a2 n2 c2] 25)).cell? ⟨w4.heap.size, 0, none⟩ = some (.slice a2 n2 c2) := by
    simp only [World.cell?, World.alloc_heap_new]; rfl
  have HB4 := Lib.hid (hb.alloc hb.size (.cells #[.slice a2 n2 c2] 25))
  have HSZ := Lib.hid hb.size
  go_wp2_with (at_builtin; refine wpList_append_one rfl (.tmp 51) (.tmp 53) 22 rfl w.heap.size 25 i0 _ 24 Tryd.underlying22 hi hz0 hz1 hz2 rfl _ len vs rfl hown5 w4.heap.size rfl (.slice a2 n2 c2) hcl rfl (by unfold maxLen; omega) (by omega) (by have := HSZ.out; simp; omega) ?_)
  intro v5 w5 hown6 hg5
  have hb5 := HB4.out.grown hg5 (by have := HSZ.out; simp; omega) (own_ge hown5)
  have hbm : ∃ a cap, v5 = .slice a (len + 1) cap ∧ Bss w5 a (len + 1) cap (l ++ [more]) := by
    refine bss_of_own hown6 HL3.out fun i c hc => ?_
    by_cases hi : i < l.length
    · rw [List.getElem?_append_left hi] at hc
      obtain ⟨x, n, cp, e1, e2⟩ := HVS.out i c hc
      exact ⟨x, n, cp, by rw [List.getElem?_append_left (by rw [hvs.1, ← HLL.out]; exact hi)]; exact e1, e2.below (Nat.le_refl _) hb5⟩
    · have hlen := (List.getElem?_eq_some_iff.1 hc).1
      simp at hlen
      obtain rfl : i = l.length := by omega
      rw [List.getElem?_append_right (Nat.le_refl _), Nat.sub_self] at hc
      cases hc
      exact ⟨a2, n2, c2, by rw [HLL.out, ← hvs.1, List.getElem?_append_right (Nat.le_refl _), Nat.sub_self]; rfl, h2.below (Nat.le_refl _) hb5⟩
  obtain ⟨am, cm, rfl, hbm⟩ := hbm
  clear hown6 hg5 hown5 hcl hown4 hb
  have HLMO := HLM.out
  go_wp2_with fail
  refine (hP am (len + 1) cm (l ++ [more]) w5 hbm hb5 (by omega)).mono ?_
  rintro e w6 ⟨v6, rfl, hown6, hb6⟩
  have hb6' := below_then hb5 hb6
  have hbm := hbm.below (Nat.le_refl _) hb6
  clear hown6 hb6
  obtain ⟨q, hq⟩ : ∃ q : Nat, q = len + lens l := ⟨_, rfl⟩
  obtain ⟨q1, hq1⟩ : ∃ q1 : Nat, q1 = k + lens (l.take k) := ⟨_, rfl⟩
  obtain ⟨q2, hq2⟩ : ∃ q2 : Nat, q2 = len - k + lens (l.drop k) := ⟨_, rfl⟩
  have hSl : ∀ n, Calls Tryd.prog 13 #[.slice a len cap] (w6.drewN n) fun e w' => e = .returned (.int .i64 (q : Int)) ∧ w6.drewN n = w' := fun n => by
    rw [hq]; exact hS a len cap l _ (h.below (Nat.le_refl _) (below_drewN hb6' n)) (by omega)
  have hSt : ∀ n, Calls Tryd.prog 13 #[.slice a k cap] (w6.drewN n) fun e w' => e = .returned (.int .i64 (q1 : Int)) ∧ w6.drewN n = w' := fun n => by
    rw [hq1]; exact hS a k cap _ _ (Bss.below (Nat.le_refl _) (below_drewN hb6' n) HT.out) (by have := HCAT.out; omega)
  have hSd : ∀ n, Calls Tryd.prog 13 #[.slice ad (len - k) (cap - k)] (w6.drewN n) fun e w' => e = .returned (.int .i64 (q2 : Int)) ∧ w6.drewN n = w' := fun n => by
    rw [hq2]; exact hS ad _ _ _ _ (Bss.below (Nat.le_refl _) (below_drewN hb6' n) HD.out) (by have := HCAT.out; omega)
  have hSm : ∀ n, Calls Tryd.prog 13 #[.slice am (len + 1) cm] (w6.drewN n) fun e w' => e = .returned (.int .i64 ((q : Int) + (n2 : Int) + 1)) ∧ w6.drewN n = w' := fun n => by
    have := hS am (len + 1) cm (l ++ [more]) (w6.drewN n) hbm (by omega)
    rwa [HLM.out, show ((len + 1 + (lens l + n2) : Nat) : Int) = (q : Int) + (n2 : Int) + 1 by omega] at this
  have hs12 : (q1 : Int) + (q2 : Int) = (q : Int) := by have := HCAT.out; omega
  have hqb : q ≤ 100000 := by omega
  have hw1 : IntKind.i64.wrap ((q : Int) + (n2 : Int)) = (q : Int) + (n2 : Int) := IntWalk.i64_in _ (by omega)
  have hw2 : IntKind.i64.wrap ((q : Int) + (n2 : Int) + 1) = (q : Int) + (n2 : Int) + 1 := IntWalk.i64_in _ (by omega)
  have hw3 : IntKind.i64.wrap ((q1 : Int) + (q2 : Int)) = (q : Int) := by rw [hs12]; exact IntWalk.i64_in _ (by omega)
  have hw4 : IntKind.i64.wrap (q : Int) = (q : Int) := IntWalk.i64_in _ (by omega)
  have hcase : (packE 3 l = 0 ∧ packE 3 (l.take k) = 0) ∨ (packE 3 l = 1) := by
    rw [HE1.out, HE2.out]
    by_cases hx : len + lens l ≤ 122
    · left; exact ⟨if_pos hx, if_pos (by have := HCAT.out; omega)⟩
    · right; exact if_neg hx
  have hcase3 : (packE 3 (l ++ [more]) = 0 ∧ decide ((q : Int) + (n2 : Int) + 1 ≤ 122) = true) ∨ (packE 3 (l ++ [more]) = 1 ∧ decide ((q : Int) + (n2 : Int) + 1 ≤ 122) = false) := by
    rw [HE3.out]
    by_cases hx : len + 1 + (lens l + n2) ≤ 122
    · left; exact ⟨if_pos hx, by simp; omega⟩
    · right; exact ⟨if_neg hx, by simp; omega⟩
  have hdr := HDR.out .i64
  have hk0 : (0 : Int) ≤ (k : Int) := by omega
  have hkc : (k : Int) ≤ (cap : Int) := by omega
  have hmm : (((q : Int) + (n2 : Int) + 1) == ((q : Int) + (n2 : Int) + 1)) = true := by simp
  have hmq : ((q : Int) == (q : Int)) = true := by simp
  clear hq hq1 hq2 hS hP hsm haw HLMO hvs
  generalize packE 3 l = e1 at *
  generalize packE 3 (l.take k) = e2 at *
  generalize packE 3 (l ++ [more]) = e3 at *
  go_wp2_with fail
  refine (hSl 0).mono ?_
  rintro e w7 ⟨rfl, rfl⟩
  rcases hcase with ⟨rfl, rfl⟩ | rfl <;> rcases hcase3 with ⟨rfl, hdec⟩ | ⟨rfl, hdec⟩
  all_goals
    go_wp2_with fail
    go_quiet (first | (go_at_call 13; first | (with_reducible exact quiet_same (hSm _)) | (with_reducible exact quiet_same (hSl _)) | (with_reducible exact quiet_same (hSt _)) | (with_reducible exact quiet_same (hSd _))))
    go_wp2
    go_ret
    exact ⟨rfl, below_drewN hb6' _⟩

set_option maxRecDepth 100000 in
set_option maxHeartbeats 4000000 in
theorem lFronts (a : Option Addr) (len cap : Nat) (l : List (List UInt8)) (at_ : UInt8) (a2 : Option Addr) (n2 c2 : Nat) (more : List UInt8) (w : World) (h : Bss w a len cap l) (h2 : Bs w a2 n2 c2 more) (hh : Half w) :
    Calls Tryd.prog 6 #[.slice a len cap, .int .u8 at_.toNat, .slice a2 n2 c2] w fun e w' => e = .returned (.bool true) ∧ Below w.heap.size w w' := by
  have haw := awake_any w hh
  have hsm : ∀ W, Below w.heap.size w W → Calls Tryd.prog 9 #[.slice a len cap] W fun e w' => e = .returned (.bool (smallF l)) ∧ W = w' := fun W hW => small_any a len cap l W (h.below (Nat.le_refl _) hW)
  have hc2 := h2.cap
  unfold maxLen at hc2
  by_cases hs : smallF l = true
  · by_cases hm : n2 ≤ 300
    · exact lFronts_ok a len cap l at_ a2 n2 c2 more w h h2 hh hs hm
    · have hm' : 300 < n2 := by omega
      clear hm
      rw [hs] at hsm
      go_enter Tryd.func6, Tryd.ntmps6
      go_wp2_with fail
      refine haw.mono ?_
      rintro e w1 ⟨rfl, hb⟩
      go_wp2_with fail
      refine (hsm w1 hb).mono ?_
      rintro e w2 ⟨rfl, rfl⟩
      go_wp2_with fail
      go_ret
      exact ⟨rfl, hb⟩
  · rw [Bool.eq_false_iff.2 hs] at hsm
    clear hs
    go_enter Tryd.func6, Tryd.ntmps6
    go_wp2_with fail
    refine haw.mono ?_
    rintro e w1 ⟨rfl, hb⟩
    go_wp2_with fail
    refine (hsm w1 hb).mono ?_
    rintro e w2 ⟨rfl, rfl⟩
    go_wp2_with fail
    go_ret
    exact ⟨rfl, hb⟩
end Go.Proofs.YtoaiiiblakgopaaDoor
