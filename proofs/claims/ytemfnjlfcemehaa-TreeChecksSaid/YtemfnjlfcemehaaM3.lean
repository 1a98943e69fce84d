/- Texts that other texts of this claim lean on, one behind the other. -/
import Derived.Test.YtemfnjlfcemehaaM2
import Derived.Deep.RegionHeld3
/- The walks of trees: which kid has a key; a key looked for in a row. -/
namespace Go.Proofs.Ytemfnjlfcemehaa
open Go.RowKit

/-- A node opened, its keys told. -/
theorem NodeIn.openK {n : Nat} {w : World} {cs : List Value} {t : Tr} (h : NodeIn (n + 1) w cs t) :
    ∃ ka kc va vn vc ca cn cc V C, cs = [.int .i64 t.page, .bool t.isLeaf, .slice ka (cntT t) kc, .slice va vn vc, .slice ca cn cc] ∧ Raw 1 w ka (cntT t) kc (t.keys.map kCell) ∧ Raw 2 w va vn vc V ∧ Raw 5 w ca cn cc C ∧ NodeR n w (t.keys.map kCell) V C t := by
  obtain ⟨ka, kn, kc, va, vn, vc, ca, cn, cc, K, V, C, e, h1, h2, h3, h4⟩ := h.open
  obtain rfl := h4.keys.keys
  have := h1.1
  rw [List.length_map, keys_len] at this
  subst this
  exact ⟨ka, kc, va, vn, vc, ca, cn, cc, V, C, e, h1, h2, h3, h4⟩

set_option maxRecDepth 100000 in
set_option maxHeartbeats 2000000 in
theorem tway_any {n : Nat} {w : World} {cs : List Value} {t : Tr} (h : NodeIn n w cs t) (key : List UInt8) (hc : cntT t ≤ 1000) :
    Calls Try.prog 46 #[.agg cs.toArray, .string (strOf key)] w fun e w' => e = .returned (.int .i64 (wayF t.keys key : Int)) ∧ Below w.heap.size w w' := by
  cases n with
  | zero => exact h.elim
  | succ n =>
  obtain ⟨a, c, va, vn, vc, ca, cn, cc, V, C, rfl, h1, _⟩ := h.openK
  obtain ⟨_, h2, h3⟩ := h1.lens
  have HC := Lib.hid h1
  have hA : Below w.heap.size w (w.alloc (.cells #[.int .i64 t.page, .bool t.isLeaf, .slice a (cntT t) c, .slice va vn vc, .slice ca cn cc] 33)) := (Below.refl _ _).alloc (Nat.le_refl _) _
  have HBX := Lib.hid ((Boxes.nil w).alloc #[.int .i64 t.page, .bool t.isLeaf, .slice a (cntT t) c, .slice va vn vc, .slice ca cn cc] 33 rfl)
  have HW : Hid (wayF t.keys key = wayD t.keys key (cntT t - 1)) := Lib.hid (by unfold wayF; rw [keys_len])
  generalize t.keys = K at *
  generalize cntT t = m at *
  generalize t.page = pg at *
  generalize t.isLeaf = lf at *
  obtain ⟨R, hR⟩ : ∃ R, wayF K key = R := ⟨_, rfl⟩
  rw [hR] at HW ⊢
  obtain ⟨wA, hwA⟩ : ∃ wA, w.alloc (.cells #[.int .i64 pg, .bool lf, .slice a m c, .slice va vn vc, .slice ca cn cc] 33) = wA := ⟨_, rfl⟩
  rw [hwA] at hA HBX
  have HA := Lib.hid hA
  have f2 := HBX.out.cell 0 2 rfl rfl
  clear h h1 hR hA
  go_enter Try.func46, Try.ntmps46
  go_wp2_with fail
  clear hwA
  go_loop [5] (fun s => (m = 0 ∧ s = .int .i64 (-1)) ∨ (0 < m ∧ ∃ i : Nat, i < m ∧ s = .int .i64 i ∧ R = wayD K key i)) (fun s => (intOf s).toNat)
  case atStart =>
    by_cases h0 : m = 0
    · exact .inl ⟨h0, by rw [h0]; rfl⟩
    · exact .inr ⟨by omega, m - 1, by omega, by congr 1; omega, HW.out⟩
  case round =>
    rcases hrel with ⟨rfl, rfl⟩ | ⟨hm, i, hi, rfl, hr⟩
    · go_wp2_with fail
      go_ret
      exact ⟨ret_int (by rw [HW.out]; rfl), HA.out⟩
    · cases i with
      | zero =>
        have HR := Lib.hid hr
        clear hr
        go_wp2_with fail
        go_ret
        exact ⟨ret_int (by rw [HR.out] <;> rfl), HA.out⟩
      | succ i =>
        have d0 : decide ((0 : Int) < ((i + 1 : Nat) : Int)) = true := by simp <;> omega
        obtain ⟨b, off, rfl, hb, hcell⟩ := HC.out.key_at hi
        have c1 := (HA.out.cell (p := ⟨b, off + (i + 1), none⟩) hb).trans hcell
        rw [show wayD K key (i + 1) = if key < K[i + 1]?.getD [] then wayD K key i else i + 1 from rfl] at hr
        generalize K[i + 1]?.getD [] = k at *
        clear hcell
        rcases ktri key k with hlt | rfl | hlt
        · rw [if_pos hlt] at hr
          obtain ⟨_, e3, e1, e2⟩ := cmp_lt hlt
          clear e3
          have HR := Lib.hid hr
          clear hr hlt
          go_wp2_with fail
          go_round
          case rel => exact .inr ⟨hm, i, by omega, by first | rfl | (congr 1; omega), HR.out⟩
          case measure => simp [intOf] <;> omega
        · rw [if_neg (klt_irrefl _)] at hr
          obtain ⟨e1, e2⟩ := cmp_eq key
          have HR := Lib.hid hr
          clear hr
          go_wp2_with fail
          go_ret
          exact ⟨ret_int (by rw [HR.out]; go_num), HA.out⟩
        · rw [if_neg (klt_asymm hlt)] at hr
          obtain ⟨e1, e2, e3, e4⟩ := cmp_lt hlt
          clear e3 e4
          have HR := Lib.hid hr
          clear hr hlt
          go_wp2_with fail
          go_ret
          exact ⟨ret_int (by rw [HR.out]; go_num), HA.out⟩
theorem cnan (s : ByteArray) (w : World) : Calls Try.prog 98 #[.string s] w fun e w' => e = .returned (.bool false) ∧ w = w' := by
  go_enter Try.func98, Try.ntmps98
  go_wp2_with fail
  go_ret
  exact ⟨by simp, rfl⟩
theorem snan (s : ByteArray) (w : World) : Calls Try.prog 85 #[.string s] w fun e w' => e = .returned (.bool false) ∧ w = w' := by
  go_enter Try.func85, Try.ntmps85
  go_wp2_with fail
  go_ret
  exact ⟨by simp, rfl⟩
theorem less_any (a b : List UInt8) (w : World) : Calls Try.prog 84 #[.string (strOf a), .string (strOf b)] w fun e w' => e = .returned (.bool (decide (a < b))) ∧ w = w' := by
  have hb : Op.bytesLess (strOf a).toList (strOf b).toList = decide (a < b) := by rw [strOf_toList, strOf_toList, bytes_lessT]
  have N := fun (s : ByteArray) (w : World) => cnan s w
  obtain ⟨d, hd⟩ : ∃ d, decide (a < b) = d := ⟨_, rfl⟩
  rw [hd] at hb ⊢
  clear hd
  go_enter Try.func84, Try.ntmps84
  go_wp2_with fail
  refine (N _ _).mono ?_
  rintro e w2 ⟨rfl, rfl⟩
  clear N
  go_wp2_with fail
  go_ret
  exact ⟨rfl, rfl⟩
set_option maxRecDepth 100000 in
set_option maxHeartbeats 4000000 in
theorem bsearch_any {w : World} {a : Option Addr} {n c : Nat} {ks : List (List UInt8)} (h : Raw 1 w a n c (ks.map kCell)) (hn : n ≤ 100000) (hs : ks.Pairwise (fun a b => a < b)) (key : List UInt8) :
    Calls Try.prog 55 #[.slice a n c, .string (strOf key)] w fun e w' => e = .returned (.tuple #[.int .i64 (posK key ks : Int), .bool (hasK key ks)]) ∧ w = w' := by
  obtain ⟨h1, h2, h3⟩ := h.lens
  rw [List.length_map] at h1
  have H := Lib.hid h
  have HL := Lib.hid h1
  have HS : Hid (∀ i j, i < j → j < n → ks[i]?.getD [] < ks[j]?.getD []) := Lib.hid (fun i j hij hj => pair_get hs hij (by omega))
  have L := fun (a b : List UInt8) (w : World) => less_any a b w
  clear h h1 hs
  go_enter Try.func55, Try.ntmps55
  go_wp2_with fail
  go_loop [7, 8, 9] (fun s7 s8 _ => ∃ i j : Nat, i ≤ j ∧ j ≤ n ∧ s7 = .int .i64 i ∧ s8 = .int .i64 j ∧ (∀ m, m < i → ks[m]?.getD [] < key) ∧ (∀ m, j ≤ m → m < n → ¬ ks[m]?.getD [] < key)) (fun s7 s8 _ => (intOf s8).toNat - (intOf s7).toNat)
  case atStart => exact ⟨0, n, Nat.zero_le _, Nat.le_refl _, rfl, rfl, fun m hm => by omega, fun m h1 h2 => by omega⟩
  case round =>
    obtain ⟨i, j, hij, hj, rfl, rfl, r1, r2⟩ := hrel
    have hs1 := HS.out
    have R1 := Lib.hid r1
    have R2 := Lib.hid r2
    clear r1 r2 hs1
    by_cases hlt : i < j
    · have hm : (i + j) / 2 < n := by omega
      obtain ⟨b, off, rfl, hb, hcell⟩ := H.out.key_at hm
      have d0 : decide ((i : Int) < j) = true := by simp; omega
      have d0' : decide (i < j) = true := by simp; omega
      have hb2 : 2 * ((i + j) / 2) ≤ i + j ∧ i + j ≤ 2 * ((i + j) / 2) + 1 := by omega
      have hcast : ((i : Int) + j) / 2 = ((i + j) / 2 : Nat) := by omega
      generalize (i + j) / 2 = m at *
      have HC := Lib.hid hcast
      clear hcast
      have hcm : ((i : Int) + j) / 2 = (m : Int) := HC.out
      obtain ⟨d, hd⟩ : ∃ d, decide (ks[m]?.getD [] < key) = d := ⟨_, rfl⟩
      have HD := Lib.hid hd
      obtain ⟨k, hk⟩ : ∃ k, ks[m]?.getD [] = k := ⟨_, rfl⟩
      rw [hk] at hcell HD
      have HK := Lib.hid hk
      clear hd hk
      go_wp2_with fail
      refine (L _ _ _).mono ?_
      rintro e w2 ⟨rfl, rfl⟩
      rw [HD.out]
      cases d with
      | true =>
        have HN : Hid (∀ q, q < m + 1 → ks[q]?.getD [] < key) := Lib.hid (fun q hq => by
          have hmk : ks[m]?.getD [] < key := by rw [HK.out]; exact of_decide_eq_true HD.out
          by_cases e : q = m
          · rw [e]; exact hmk
          · exact klt_trans (HS.out q m (by omega) hm) hmk)
        go_wp2_with fail
        go_round
        case rel => exact ⟨m + 1, j, by omega, hj, by go_num, rfl, HN.out, R2.out⟩
        case measure => simp [intOf]; omega
      | false =>
        have HN : Hid (∀ q, m ≤ q → q < n → ¬ ks[q]?.getD [] < key) := Lib.hid (fun q hq hqn hc => by
          have hmk : ¬ ks[m]?.getD [] < key := by rw [HK.out]; exact of_decide_eq_false HD.out
          by_cases e : q = m
          · rw [e] at hc; exact hmk hc
          · exact hmk (klt_trans (HS.out m q (by omega) hqn) hc))
        go_wp2_with fail
        go_round
        case rel => exact ⟨i, m, by omega, by omega, rfl, by go_num, R1.out, HN.out⟩
        case measure => simp [intOf]; omega
    · obtain rfl : i = j := by omega
      have hpos : posK key ks = i := posK_eq (by rw [HL.out]; exact hj) R1.out (fun h => R2.out i (Nat.le_refl _) (by rw [← HL.out]; exact h))
      have d0 : decide ((i : Int) < i) = false := by simp
      have N := fun (s : ByteArray) (w : World) => snan s w
      by_cases hin : i < n
      · obtain ⟨b, off, rfl, hb, hcell⟩ := H.out.key_at hin
        have d1 : decide ((i : Int) < n) = true := by simp; omega
        have d1' : decide (i < n) = true := by simp; omega
        have hhas : hasK key ks = (ks[i]?.getD [] == key) := by
          unfold hasK
          rw [hpos, List.getElem?_eq_getElem (by rw [HL.out]; exact hin)]
          simp
        obtain ⟨k, hk⟩ : ∃ k, ks[i]?.getD [] = k := ⟨_, rfl⟩
        rw [hk] at hcell hhas
        have HP := Lib.hid hpos
        have HH := Lib.hid hhas
        clear hk hpos hhas
        by_cases he : k = key
        · subst he
          obtain ⟨e1, e2⟩ := cmp_eq k
          go_wp2_with fail
          go_ret2
          exact ⟨by rw [HP.out, HH.out]; simp, rfl⟩
        · have e2 : ((strOf k).toList == (strOf key).toList) = false := by rw [strOf_toList, strOf_toList]; simpa using he
          have HE := Lib.hid he
          clear he
          go_wp2_with fail
          refine (N _ _).mono ?_
          rintro e w2 ⟨rfl, rfl⟩
          go_wp2_with fail
          go_ret2
          exact ⟨by rw [HP.out, HH.out]; simp [HE.out], rfl⟩
      · have d1 : decide ((i : Int) < n) = false := by simp; omega
        have d1' : decide (i < n) = false := by simp; omega
        have hhas : hasK key ks = false := by
          unfold hasK
          rw [hpos, List.getElem?_eq_none (by rw [HL.out]; omega)]
          rfl
        have HP := Lib.hid hpos
        have HH := Lib.hid hhas
        clear hpos hhas
        go_wp2_with fail
        go_ret2
        exact ⟨by rw [HP.out, HH.out]; simp, rfl⟩
end Go.Proofs.Ytemfnjlfcemehaa

/- Rows of keys, values and nodes: slices.Clone, Grow, Concat; tree.swap (printed by gen_rawK.py). -/
namespace Go.Proofs.Ytemfnjlfcemehaa
open Go.RowKit

theorem info_s : RowInfo Try.prog 9 1 16 := row_info (by kernel_rfl)
set_option maxRecDepth 100000 in
set_option maxHeartbeats 2000000 in
theorem clone_s {w : World} {a : Option Addr} {n c : Nat} {L : List (Cl 1)} (h : Raw 1 w a n c L) (hn : n ≤ 100000) :
    Calls Try.prog 78 #[.slice a n c] w (OwnRaw 9 1 w L) := by
  obtain ⟨i0, z0, hi, hz0, hz1, hz2, hz3⟩ := info_s
  obtain ⟨e1, e2, e3⟩ := h.lens
  cases a with
  | none =>
    have hc := h.2.2.2.1 rfl
    obtain rfl : n = 0 := by omega
    obtain rfl : c = 0 := by omega
    have hl0 : L = [] := List.eq_nil_of_length_eq_zero e1
    have HE : Hid (OwnRaw 9 1 w L (.returned (.slice none 0 0)) w) := Lib.hid ⟨_, rfl, by rw [hl0]; exact own_nil _ _ _ _, Below.refl _ _⟩
    clear hl0 e1 hc hz0 hz1 hz2 hz3
    have hq : ∀ W : World, (binOp .eql 29 (.slice none 0 0) (.slice none 0 0)).run Try.prog W = .ok (.bool true) W := fun W => Lib.run_eql_slice_nil W _ _ none 0 0 0 0 Try.underlying29
    go_enter Try.func78, Try.ntmps78
    go_wp2
    go_ret
    exact HE.out
  | some x =>
    have hq : ∀ W : World, (binOp .eql 29 (.slice (some x) n c) (.slice none 0 0)).run Try.prog W = .ok (.bool false) W := fun W => Lib.run_eql_slice_nil W _ _ (some x) n c 0 0 Try.underlying29
    have hB0 : Below w.heap.size w (w.alloc (.cells #[] 9)) := (Below.refl _ _).alloc (Nat.le_refl _) _
    obtain ⟨v', w', hr, ho, hg, _⟩ := run_append_raw (P := Try.prog) w.heap.size 29 9 i0 z0 1 16 Try.underlying29 hi hz0 hz1 hz2 hz3 (by decide) (L := []) (own_empty w 9 1 rfl (Nat.le_refl _)) (h.below hB0) (by unfold maxLen; omega) (by omega) hB0.size
    have HE : Hid (OwnRaw 9 1 w L (.returned v') w') := Lib.hid ⟨v', rfl, by rw [e1]; simpa using ho, hB0.grown hg hB0.size (own_ge (own_empty w 9 1 rfl (Nat.le_refl _)))⟩
    clear ho hg hB0 e1 hz0 hz1 hz2 hz3 h
    go_enter Try.func78, Try.ntmps78
    go_wp2_with (at_builtin; refine wpList_append_run rfl _ _ _ _ rfl rfl rfl hr ?_)
    go_ret
    exact HE.out
set_option maxRecDepth 100000 in
set_option maxHeartbeats 2000000 in
theorem grow_s (n : Nat) (h9 : n ≤ 100000) (w : World) :
    Calls Try.prog 102 #[.slice none 0 0, .int .i64 (n : Int)] w (OwnRaw 9 1 w []) := by
  have d0 : decide ((n : Int) < 0) = false := by simp
  by_cases h0 : 0 < n
  · obtain ⟨c, w', hr, hc1, hc2, ho, hb⟩ := run_grow (P := Try.prog) w 29 3 9 1 16 Try.underlying29 Try.underlying3 info_s (by decide) (by decide) n h0 h9
    have d1 : decide ((0 : Int) < n) = true := by simp; omega
    have d1' : decide (0 < n) = true := by simp; omega
    have HE : Hid (OwnRaw 9 1 w [] (.returned (.slice (some ⟨w.heap.size, 0, none⟩) 0 c)) w') := Lib.hid ⟨_, rfl, ho, hb⟩
    clear ho hb
    go_enter Try.func102, Try.ntmps102
    go_wp2_with (at_builtin; refine wpList_append_run rfl _ _ _ _ rfl rfl rfl hr ?_)
    go_ret
    exact HE.out
  · obtain rfl : n = 0 := by omega
    have HE : Hid (OwnRaw 9 1 w [] (.returned (.slice none 0 0)) w) := Lib.hid ⟨_, rfl, own_nil _ _ _ _, Below.refl _ _⟩
    go_enter Try.func102, Try.ntmps102
    go_wp2_with fail
    go_ret
    exact HE.out
set_option maxRecDepth 100000 in
set_option maxHeartbeats 4000000 in
theorem concat_s {w : World} {a : Option Addr} {n c : Nat} {LL : List (List (Cl 1))} (h : Raws 1 w a n c LL) (h9 : lenR LL ≤ 10000) :
    Calls Try.prog 95 #[.slice a n c] w (OwnRaw 9 1 w LL.flatten) := by
  obtain ⟨hl, hc, hm⟩ := TabR.lens h
  obtain ⟨i0, z0, hi, hz0, hz1, hz2, hz3⟩ := info_s
  have H := Lib.hid h
  have HL := Lib.hid hl
  have HZ := Lib.hid (show i0.zero = some z0 ∧ i0.size = 1 ∧ i0.bytes = 16 ∧ z0.cells.size = 1 from ⟨hz0, hz1, hz2, hz3⟩)
  have HI := Lib.hid hi
  clear h hl hz0 hz1 hz2 hz3 hi
  go_enter Try.func95, Try.ntmps95
  go_wp2_with fail
  go_loopw [3, 5, 11] (fun s3 s5 s11 wr => ∃ i : Nat, i ≤ n ∧ s11 = .int .i64 i ∧ s3 = .int .i64 (lenR (LL.take i) : Int) ∧ wr = w) (fun _ _ s _ => n - (intOf s).toNat)
  case atStart => exact ⟨0, Nat.zero_le _, rfl, rfl, rfl⟩
  case round =>
    obtain ⟨i, hi2, rfl, rfl, rfl⟩ := hrel
    have hle := lenR_take LL i
    by_cases hlt : i < n
    · obtain ⟨b, off, a', n', c', L, rfl, hbb, hcell, hL, hraw⟩ := H.out.at hlt
      obtain ⟨q1, q2, q3⟩ := hraw.lens
      have hsn := (lenR_succ hL).1
      have hle2 := lenR_take LL (i + 1)
      have HS := Lib.hid (show lenR (LL.take (i + 1)) = lenR (LL.take i) + n' by omega)
      have d0 : decide ((lenR (LL.take i) : Int) + (n' : Int) < 0) = false := by simp; omega
      have hle3 : lenR (LL.take i) + n' ≤ 10000 := by omega
      clear hsn hL hraw q1 hle2
      generalize lenR (LL.take i) = q at *
      go_wp2_with fail
      go_roundw
      case rel => exact ⟨i + 1, hlt, by go_num, by rw [HS.out]; go_num, by first | rfl | trivial⟩
      case measure => simp [intOf]; omega
    · obtain rfl : n = i := by omega
      obtain ⟨wB, rfl⟩ : ∃ wB, wB = wr := ⟨_, rfl⟩
      have htl : LL.take n = LL := List.take_of_length_le (by rw [HL.out]; exact Nat.le_refl _)
      rw [htl]
      have G := grow_s (lenR LL) (by omega) wB
      have HT := Lib.hid htl
      have HLE := Lib.hid h9
      clear htl hle
      obtain ⟨q, hq⟩ : ∃ q, lenR LL = q := ⟨_, rfl⟩
      rw [hq] at G ⊢
      have HQ := Lib.hid hq
      clear hq
      go_wp2_with fail
      refine G.mono ?_
      rintro e w2 ⟨v2, rfl, ho2, hb2⟩
      have HO2 := Lib.hid ho2
      have HB2 := Lib.hid hb2
      clear G ho2 hb2
      go_wp2_with fail
      go_loopw [6, 8, 27] (fun s6 s8 s27 wx => ∃ i : Nat, i ≤ n ∧ s27 = .int .i64 i ∧ wx.ownsRow wB.heap.size 9 1 s6 (lenR (LL.take i)) (flatC (LL.take i).flatten) ∧ Below wB.heap.size wB wx) (fun _ _ s _ => n - (intOf s).toNat)
      case atStart => exact ⟨0, Nat.zero_le _, rfl, HO2.out, HB2.out⟩
      case round =>
        clear HO2 HB2
        obtain ⟨i, hi2, rfl, hox, hbx⟩ := hrel
        have hle := lenR_take LL i
        by_cases hlt : i < n
        · obtain ⟨b, off, a', n', c', L, rfl, hbb, hcell, hL, hraw⟩ := (H.out.below hbx).at hlt
          obtain ⟨hs1, hs2⟩ := lenR_succ hL
          have hle2 := lenR_take LL (i + 1)
          obtain ⟨hnl, hcc, hcm⟩ := hraw.lens
          have hle9 := HLE.out
          obtain ⟨hz0, hz1, hz2, hz3⟩ := HZ.out
          obtain ⟨v10, w10, hr10, ho10, hg10, _⟩ := run_append_raw (P := Try.prog) wB.heap.size 29 9 i0 z0 1 16 Try.underlying29 HI.out hz0 hz1 hz2 hz3 (by decide) hox hraw (by unfold maxLen; omega) (by omega) hbx.size
          have HB10 := Lib.hid (hbx.grown hg10 hbx.size (own_ge hox))
          have HO10 : Hid (w10.ownsRow _ 9 1 v10 (lenR (LL.take (i + 1))) (flatC (LL.take (i + 1)).flatten)) := Lib.hid (by
            rw [hs1, hs2, hnl]; exact ho10)
          clear ho10 hg10 hox hbx hraw hs1 hs2 hnl hle hle2 hL hz0 hz1 hz2 hz3
          go_wp2_with (at_builtin; refine wpList_append_run rfl _ _ _ _ rfl rfl rfl hr10 ?_)
          go_roundw
          case rel => exact ⟨i + 1, hlt, by go_num, HO10.out, HB10.out⟩
          case measure => simp [intOf]; omega
        · obtain rfl : n = i := by omega
          rw [HT.out] at hox
          have HE : Hid (OwnRaw 9 1 _ LL.flatten (.returned u6) _) := Lib.hid ⟨_, rfl, by rw [lenR_flat]; exact hox, hbx⟩
          clear hox hbx hle
          go_wp2_with fail
          go_ret
          exact HE.out
theorem info_v : RowInfo Try.prog 100 2 40 := row_info (by kernel_rfl)
set_option maxRecDepth 100000 in
set_option maxHeartbeats 2000000 in
theorem clone_v {w : World} {a : Option Addr} {n c : Nat} {L : List (Cl 2)} (h : Raw 2 w a n c L) (hn : n ≤ 100000) :
    Calls Try.prog 79 #[.slice a n c] w (OwnRaw 100 2 w L) := by
  obtain ⟨i0, z0, hi, hz0, hz1, hz2, hz3⟩ := info_v
  obtain ⟨e1, e2, e3⟩ := h.lens
  cases a with
  | none =>
    have hc := h.2.2.2.1 rfl
    obtain rfl : n = 0 := by omega
    obtain rfl : c = 0 := by omega
    have hl0 : L = [] := List.eq_nil_of_length_eq_zero e1
    have HE : Hid (OwnRaw 100 2 w L (.returned (.slice none 0 0)) w) := Lib.hid ⟨_, rfl, by rw [hl0]; exact own_nil _ _ _ _, Below.refl _ _⟩
    clear hl0 e1 hc hz0 hz1 hz2 hz3
    have hq : ∀ W : World, (binOp .eql 30 (.slice none 0 0) (.slice none 0 0)).run Try.prog W = .ok (.bool true) W := fun W => Lib.run_eql_slice_nil W _ _ none 0 0 0 0 Try.underlying30
    go_enter Try.func79, Try.ntmps79
    go_wp2
    go_ret
    exact HE.out
  | some x =>
    have hq : ∀ W : World, (binOp .eql 30 (.slice (some x) n c) (.slice none 0 0)).run Try.prog W = .ok (.bool false) W := fun W => Lib.run_eql_slice_nil W _ _ (some x) n c 0 0 Try.underlying30
    have hB0 : Below w.heap.size w (w.alloc (.cells #[] 100)) := (Below.refl _ _).alloc (Nat.le_refl _) _
    obtain ⟨v', w', hr, ho, hg, _⟩ := run_append_raw (P := Try.prog) w.heap.size 30 100 i0 z0 2 40 Try.underlying30 hi hz0 hz1 hz2 hz3 (by decide) (L := []) (own_empty w 100 2 rfl (Nat.le_refl _)) (h.below hB0) (by unfold maxLen; omega) (by omega) hB0.size
    have HE : Hid (OwnRaw 100 2 w L (.returned v') w') := Lib.hid ⟨v', rfl, by rw [e1]; simpa using ho, hB0.grown hg hB0.size (own_ge (own_empty w 100 2 rfl (Nat.le_refl _)))⟩
    clear ho hg hB0 e1 hz0 hz1 hz2 hz3 h
    go_enter Try.func79, Try.ntmps79
    go_wp2_with (at_builtin; refine wpList_append_run rfl _ _ _ _ rfl rfl rfl hr ?_)
    go_ret
    exact HE.out
set_option maxRecDepth 100000 in
set_option maxHeartbeats 2000000 in
theorem grow_v (n : Nat) (h9 : n ≤ 100000) (w : World) :
    Calls Try.prog 103 #[.slice none 0 0, .int .i64 (n : Int)] w (OwnRaw 100 2 w []) := by
  have d0 : decide ((n : Int) < 0) = false := by simp
  by_cases h0 : 0 < n
  · obtain ⟨c, w', hr, hc1, hc2, ho, hb⟩ := run_grow (P := Try.prog) w 30 3 100 2 40 Try.underlying30 Try.underlying3 info_v (by decide) (by decide) n h0 h9
    have d1 : decide ((0 : Int) < n) = true := by simp; omega
    have d1' : decide (0 < n) = true := by simp; omega
    have HE : Hid (OwnRaw 100 2 w [] (.returned (.slice (some ⟨w.heap.size, 0, none⟩) 0 c)) w') := Lib.hid ⟨_, rfl, ho, hb⟩
    clear ho hb
    go_enter Try.func103, Try.ntmps103
    go_wp2_with (at_builtin; refine wpList_append_run rfl _ _ _ _ rfl rfl rfl hr ?_)
    go_ret
    exact HE.out
  · obtain rfl : n = 0 := by omega
    have HE : Hid (OwnRaw 100 2 w [] (.returned (.slice none 0 0)) w) := Lib.hid ⟨_, rfl, own_nil _ _ _ _, Below.refl _ _⟩
    go_enter Try.func103, Try.ntmps103
    go_wp2_with fail
    go_ret
    exact HE.out
set_option maxRecDepth 100000 in
set_option maxHeartbeats 4000000 in
theorem concat_v {w : World} {a : Option Addr} {n c : Nat} {LL : List (List (Cl 2))} (h : Raws 2 w a n c LL) (h9 : lenR LL ≤ 10000) :
    Calls Try.prog 96 #[.slice a n c] w (OwnRaw 100 2 w LL.flatten) := by
  obtain ⟨hl, hc, hm⟩ := TabR.lens h
  obtain ⟨i0, z0, hi, hz0, hz1, hz2, hz3⟩ := info_v
  have H := Lib.hid h
  have HL := Lib.hid hl
  have HZ := Lib.hid (show i0.zero = some z0 ∧ i0.size = 2 ∧ i0.bytes = 40 ∧ z0.cells.size = 2 from ⟨hz0, hz1, hz2, hz3⟩)
  have HI := Lib.hid hi
  clear h hl hz0 hz1 hz2 hz3 hi
  go_enter Try.func96, Try.ntmps96
  go_wp2_with fail
  go_loopw [3, 5, 11] (fun s3 s5 s11 wr => ∃ i : Nat, i ≤ n ∧ s11 = .int .i64 i ∧ s3 = .int .i64 (lenR (LL.take i) : Int) ∧ wr = w) (fun _ _ s _ => n - (intOf s).toNat)
  case atStart => exact ⟨0, Nat.zero_le _, rfl, rfl, rfl⟩
  case round =>
    obtain ⟨i, hi2, rfl, rfl, rfl⟩ := hrel
    have hle := lenR_take LL i
    by_cases hlt : i < n
    · obtain ⟨b, off, a', n', c', L, rfl, hbb, hcell, hL, hraw⟩ := H.out.at hlt
      obtain ⟨q1, q2, q3⟩ := hraw.lens
      have hsn := (lenR_succ hL).1
      have hle2 := lenR_take LL (i + 1)
      have HS := Lib.hid (show lenR (LL.take (i + 1)) = lenR (LL.take i) + n' by omega)
      have d0 : decide ((lenR (LL.take i) : Int) + (n' : Int) < 0) = false := by simp; omega
      have hle3 : lenR (LL.take i) + n' ≤ 10000 := by omega
      clear hsn hL hraw q1 hle2
      generalize lenR (LL.take i) = q at *
      go_wp2_with fail
      go_roundw
      case rel => exact ⟨i + 1, hlt, by go_num, by rw [HS.out]; go_num, by first | rfl | trivial⟩
      case measure => simp [intOf]; omega
    · obtain rfl : n = i := by omega
      obtain ⟨wB, rfl⟩ : ∃ wB, wB = wr := ⟨_, rfl⟩
      have htl : LL.take n = LL := List.take_of_length_le (by rw [HL.out]; exact Nat.le_refl _)
      rw [htl]
      have G := grow_v (lenR LL) (by omega) wB
      have HT := Lib.hid htl
      have HLE := Lib.hid h9
      clear htl hle
      obtain ⟨q, hq⟩ : ∃ q, lenR LL = q := ⟨_, rfl⟩
      rw [hq] at G ⊢
      have HQ := Lib.hid hq
      clear hq
      go_wp2_with fail
      refine G.mono ?_
      rintro e w2 ⟨v2, rfl, ho2, hb2⟩
      have HO2 := Lib.hid ho2
      have HB2 := Lib.hid hb2
      clear G ho2 hb2
      go_wp2_with fail
      go_loopw [6, 8, 27] (fun s6 s8 s27 wx => ∃ i : Nat, i ≤ n ∧ s27 = .int .i64 i ∧ wx.ownsRow wB.heap.size 100 2 s6 (lenR (LL.take i)) (flatC (LL.take i).flatten) ∧ Below wB.heap.size wB wx) (fun _ _ s _ => n - (intOf s).toNat)
      case atStart => exact ⟨0, Nat.zero_le _, rfl, HO2.out, HB2.out⟩
      case round =>
        clear HO2 HB2
        obtain ⟨i, hi2, rfl, hox, hbx⟩ := hrel
        have hle := lenR_take LL i
        by_cases hlt : i < n
        · obtain ⟨b, off, a', n', c', L, rfl, hbb, hcell, hL, hraw⟩ := (H.out.below hbx).at hlt
          obtain ⟨hs1, hs2⟩ := lenR_succ hL
          have hle2 := lenR_take LL (i + 1)
          obtain ⟨hnl, hcc, hcm⟩ := hraw.lens
          have hle9 := HLE.out
          obtain ⟨hz0, hz1, hz2, hz3⟩ := HZ.out
          obtain ⟨v10, w10, hr10, ho10, hg10, _⟩ := run_append_raw (P := Try.prog) wB.heap.size 30 100 i0 z0 2 40 Try.underlying30 HI.out hz0 hz1 hz2 hz3 (by decide) hox hraw (by unfold maxLen; omega) (by omega) hbx.size
          have HB10 := Lib.hid (hbx.grown hg10 hbx.size (own_ge hox))
          have HO10 : Hid (w10.ownsRow _ 100 2 v10 (lenR (LL.take (i + 1))) (flatC (LL.take (i + 1)).flatten)) := Lib.hid (by
            rw [hs1, hs2, hnl]; exact ho10)
          clear ho10 hg10 hox hbx hraw hs1 hs2 hnl hle hle2 hL hz0 hz1 hz2 hz3
          go_wp2_with (at_builtin; refine wpList_append_run rfl _ _ _ _ rfl rfl rfl hr10 ?_)
          go_roundw
          case rel => exact ⟨i + 1, hlt, by go_num, HO10.out, HB10.out⟩
          case measure => simp [intOf]; omega
        · obtain rfl : n = i := by omega
          rw [HT.out] at hox
          have HE : Hid (OwnRaw 100 2 _ LL.flatten (.returned u6) _) := Lib.hid ⟨_, rfl, by rw [lenR_flat]; exact hox, hbx⟩
          clear hox hbx hle
          go_wp2_with fail
          go_ret
          exact HE.out
theorem info_n : RowInfo Try.prog 33 5 88 := row_info (by kernel_rfl)
set_option maxRecDepth 100000 in
set_option maxHeartbeats 2000000 in
theorem clone_n {w : World} {a : Option Addr} {n c : Nat} {L : List (Cl 5)} (h : Raw 5 w a n c L) (hn : n ≤ 100000) :
    Calls Try.prog 82 #[.slice a n c] w (OwnRaw 33 5 w L) := by
  obtain ⟨i0, z0, hi, hz0, hz1, hz2, hz3⟩ := info_n
  obtain ⟨e1, e2, e3⟩ := h.lens
  cases a with
  | none =>
    have hc := h.2.2.2.1 rfl
    obtain rfl : n = 0 := by omega
    obtain rfl : c = 0 := by omega
    have hl0 : L = [] := List.eq_nil_of_length_eq_zero e1
    have HE : Hid (OwnRaw 33 5 w L (.returned (.slice none 0 0)) w) := Lib.hid ⟨_, rfl, by rw [hl0]; exact own_nil _ _ _ _, Below.refl _ _⟩
    clear hl0 e1 hc hz0 hz1 hz2 hz3
    have hq : ∀ W : World, (binOp .eql 31 (.slice none 0 0) (.slice none 0 0)).run Try.prog W = .ok (.bool true) W := fun W => Lib.run_eql_slice_nil W _ _ none 0 0 0 0 Try.underlying31
    go_enter Try.func82, Try.ntmps82
    go_wp2
    go_ret
    exact HE.out
  | some x =>
    have hq : ∀ W : World, (binOp .eql 31 (.slice (some x) n c) (.slice none 0 0)).run Try.prog W = .ok (.bool false) W := fun W => Lib.run_eql_slice_nil W _ _ (some x) n c 0 0 Try.underlying31
    have hB0 : Below w.heap.size w (w.alloc (.cells #[] 33)) := (Below.refl _ _).alloc (Nat.le_refl _) _
    obtain ⟨v', w', hr, ho, hg, _⟩ := run_append_raw (P := Try.prog) w.heap.size 31 33 i0 z0 5 88 Try.underlying31 hi hz0 hz1 hz2 hz3 (by decide) (L := []) (own_empty w 33 5 rfl (Nat.le_refl _)) (h.below hB0) (by unfold maxLen; omega) (by omega) hB0.size
    have HE : Hid (OwnRaw 33 5 w L (.returned v') w') := Lib.hid ⟨v', rfl, by rw [e1]; simpa using ho, hB0.grown hg hB0.size (own_ge (own_empty w 33 5 rfl (Nat.le_refl _)))⟩
    clear ho hg hB0 e1 hz0 hz1 hz2 hz3 h
    go_enter Try.func82, Try.ntmps82
    go_wp2_with (at_builtin; refine wpList_append_run rfl _ _ _ _ rfl rfl rfl hr ?_)
    go_ret
    exact HE.out
set_option maxRecDepth 100000 in
set_option maxHeartbeats 2000000 in
theorem grow_n (n : Nat) (h9 : n ≤ 100000) (w : World) :
    Calls Try.prog 104 #[.slice none 0 0, .int .i64 (n : Int)] w (OwnRaw 33 5 w []) := by
  have d0 : decide ((n : Int) < 0) = false := by simp
  by_cases h0 : 0 < n
  · obtain ⟨c, w', hr, hc1, hc2, ho, hb⟩ := run_grow (P := Try.prog) w 31 3 33 5 88 Try.underlying31 Try.underlying3 info_n (by decide) (by decide) n h0 h9
    have d1 : decide ((0 : Int) < n) = true := by simp; omega
    have d1' : decide (0 < n) = true := by simp; omega
    have HE : Hid (OwnRaw 33 5 w [] (.returned (.slice (some ⟨w.heap.size, 0, none⟩) 0 c)) w') := Lib.hid ⟨_, rfl, ho, hb⟩
    clear ho hb
    go_enter Try.func104, Try.ntmps104
    go_wp2_with (at_builtin; refine wpList_append_run rfl _ _ _ _ rfl rfl rfl hr ?_)
    go_ret
    exact HE.out
  · obtain rfl : n = 0 := by omega
    have HE : Hid (OwnRaw 33 5 w [] (.returned (.slice none 0 0)) w) := Lib.hid ⟨_, rfl, own_nil _ _ _ _, Below.refl _ _⟩
    go_enter Try.func104, Try.ntmps104
    go_wp2_with fail
    go_ret
    exact HE.out
set_option maxRecDepth 100000 in
set_option maxHeartbeats 4000000 in
theorem concat_n {w : World} {a : Option Addr} {n c : Nat} {LL : List (List (Cl 5))} (h : Raws 5 w a n c LL) (h9 : lenR LL ≤ 10000) :
    Calls Try.prog 97 #[.slice a n c] w (OwnRaw 33 5 w LL.flatten) := by
  obtain ⟨hl, hc, hm⟩ := TabR.lens h
  obtain ⟨i0, z0, hi, hz0, hz1, hz2, hz3⟩ := info_n
  have H := Lib.hid h
  have HL := Lib.hid hl
  have HZ := Lib.hid (show i0.zero = some z0 ∧ i0.size = 5 ∧ i0.bytes = 88 ∧ z0.cells.size = 5 from ⟨hz0, hz1, hz2, hz3⟩)
  have HI := Lib.hid hi
  clear h hl hz0 hz1 hz2 hz3 hi
  go_enter Try.func97, Try.ntmps97
  go_wp2_with fail
  go_loopw [3, 5, 11] (fun s3 s5 s11 wr => ∃ i : Nat, i ≤ n ∧ s11 = .int .i64 i ∧ s3 = .int .i64 (lenR (LL.take i) : Int) ∧ wr = w) (fun _ _ s _ => n - (intOf s).toNat)
  case atStart => exact ⟨0, Nat.zero_le _, rfl, rfl, rfl⟩
  case round =>
    obtain ⟨i, hi2, rfl, rfl, rfl⟩ := hrel
    have hle := lenR_take LL i
    by_cases hlt : i < n
    · obtain ⟨b, off, a', n', c', L, rfl, hbb, hcell, hL, hraw⟩ := H.out.at hlt
      obtain ⟨q1, q2, q3⟩ := hraw.lens
      have hsn := (lenR_succ hL).1
      have hle2 := lenR_take LL (i + 1)
      have HS := Lib.hid (show lenR (LL.take (i + 1)) = lenR (LL.take i) + n' by omega)
      have d0 : decide ((lenR (LL.take i) : Int) + (n' : Int) < 0) = false := by simp; omega
      have hle3 : lenR (LL.take i) + n' ≤ 10000 := by omega
      clear hsn hL hraw q1 hle2
      generalize lenR (LL.take i) = q at *
      go_wp2_with fail
      go_roundw
      case rel => exact ⟨i + 1, hlt, by go_num, by rw [HS.out]; go_num, by first | rfl | trivial⟩
      case measure => simp [intOf]; omega
    · obtain rfl : n = i := by omega
      obtain ⟨wB, rfl⟩ : ∃ wB, wB = wr := ⟨_, rfl⟩
      have htl : LL.take n = LL := List.take_of_length_le (by rw [HL.out]; exact Nat.le_refl _)
      rw [htl]
      have G := grow_n (lenR LL) (by omega) wB
      have HT := Lib.hid htl
      have HLE := Lib.hid h9
      clear htl hle
      obtain ⟨q, hq⟩ : ∃ q, lenR LL = q := ⟨_, rfl⟩
      rw [hq] at G ⊢
      have HQ := Lib.hid hq
      clear hq
      go_wp2_with fail
      refine G.mono ?_
      rintro e w2 ⟨v2, rfl, ho2, hb2⟩
      have HO2 := Lib.hid ho2
      have HB2 := Lib.hid hb2
      clear G ho2 hb2
      go_wp2_with fail
      go_loopw [6, 8, 27] (fun s6 s8 s27 wx => ∃ i : Nat, i ≤ n ∧ s27 = .int .i64 i ∧ wx.ownsRow wB.heap.size 33 5 s6 (lenR (LL.take i)) (flatC (LL.take i).flatten) ∧ Below wB.heap.size wB wx) (fun _ _ s _ => n - (intOf s).toNat)
      case atStart => exact ⟨0, Nat.zero_le _, rfl, HO2.out, HB2.out⟩
      case round =>
        clear HO2 HB2
        obtain ⟨i, hi2, rfl, hox, hbx⟩ := hrel
        have hle := lenR_take LL i
        by_cases hlt : i < n
        · obtain ⟨b, off, a', n', c', L, rfl, hbb, hcell, hL, hraw⟩ := (H.out.below hbx).at hlt
          obtain ⟨hs1, hs2⟩ := lenR_succ hL
          have hle2 := lenR_take LL (i + 1)
          obtain ⟨hnl, hcc, hcm⟩ := hraw.lens
          have hle9 := HLE.out
          obtain ⟨hz0, hz1, hz2, hz3⟩ := HZ.out
          obtain ⟨v10, w10, hr10, ho10, hg10, _⟩ := run_append_raw (P := Try.prog) wB.heap.size 31 33 i0 z0 5 88 Try.underlying31 HI.out hz0 hz1 hz2 hz3 (by decide) hox hraw (by unfold maxLen; omega) (by omega) hbx.size
          have HB10 := Lib.hid (hbx.grown hg10 hbx.size (own_ge hox))
          have HO10 : Hid (w10.ownsRow _ 33 5 v10 (lenR (LL.take (i + 1))) (flatC (LL.take (i + 1)).flatten)) := Lib.hid (by
            rw [hs1, hs2, hnl]; exact ho10)
          clear ho10 hg10 hox hbx hraw hs1 hs2 hnl hle hle2 hL hz0 hz1 hz2 hz3
          go_wp2_with (at_builtin; refine wpList_append_run rfl _ _ _ _ rfl rfl rfl hr10 ?_)
          go_roundw
          case rel => exact ⟨i + 1, hlt, by go_num, HO10.out, HB10.out⟩
          case measure => simp [intOf]; omega
        · obtain rfl : n = i := by omega
          rw [HT.out] at hox
          have HE : Hid (OwnRaw 33 5 _ LL.flatten (.returned u6) _) := Lib.hid ⟨_, rfl, by rw [lenR_flat]; exact hox, hbx⟩
          clear hox hbx hle
          go_wp2_with fail
          go_ret
          exact HE.out
end Go.Proofs.Ytemfnjlfcemehaa

/- tree.swap at rows of keys, values and nodes (printed by gen_rawS.py). -/
namespace Go.Proofs.Ytemfnjlfcemehaa
open Go.RowKit

/-- A row in which some, from a place on, are others. -/
def swapL {α : Type} (l : List α) (at_ many : Nat) (some_ : List α) : List α := l.take at_ ++ (some_ ++ l.drop (at_ + many))
theorem elem_s : Try.prog.underlying 29 = some (.slice (Try.prog.elem 29)) := by kernel_rfl
theorem size_s (w : World) : (sizeOf (Try.prog.elem 29)).run Try.prog w = .ok 1 w := by kernel_rfl
set_option maxRecDepth 100000 in
set_option maxHeartbeats 2000000 in
theorem swap_s {w : World} {a sa : Option Addr} {n c sn sc : Nat} {L S : List (Cl 1)} (h : Raw 1 w a n c L) (hs : Raw 1 w sa sn sc S) (k m : Nat) (hkm : k + m ≤ n) (h9 : n + sn ≤ 10000) :
    Calls Try.prog 70 #[.slice a n c, .int .i64 (k : Int), .int .i64 (m : Int), .slice sa sn sc] w (OwnRaw 9 1 w (swapL L k m S)) := by
  obtain ⟨e1, e2, e3⟩ := h.lens
  obtain ⟨f1, f2, f3⟩ := hs.lens
  obtain ⟨a2, ha2, hsl⟩ := slice_from elem_s size_s a n c (k + m) hkm
  have hkc : k ≤ c := by omega
  have hW : IntKind.i64.wrap ((k : Int) + (m : Int)) = ((k + m : Nat) : Int) := by rw [IntWalk.i64_in _ (by omega)]; omega
  have hd : Raw 1 w a2 (n - (k + m)) (c - (k + m)) (L.drop (k + m)) := by rw [ha2]; exact TabR.dp h hkm
  have HR := Lib.hid (Raws.made (W := w) (t := 29) [(a, k, c), (sa, sn, sc), (a2, n - (k + m), c - (k + m))] [L.take k, S, L.drop (k + m)] (fun i x y hx hy => by
    match i, hx, hy with
    | 0, hx, hy => cases hx; cases hy; exact TabR.tk h (show k ≤ n by omega)
    | 1, hx, hy => cases hx; cases hy; exact hs
    | 2, hx, hy => cases hx; cases hy; exact hd
    | i + 3, hx, hy => simp at hx) rfl (by simp) rfl)
  have hlen : lenR [L.take k, S, L.drop (k + m)] ≤ 10000 := by simp [lenR]; omega
  have C := concat_s (HR.out.below (Below.refl _ _).drew) hlen
  have HB : Hid (Below w.heap.size w (w.alloc (.cells ([(a, k, c), (sa, sn, sc), (a2, n - (k + m), c - (k + m))].map fun x => Value.slice x.1 x.2.1 x.2.2).toArray 29)).drew) := Lib.hid ((Below.refl _ _).alloc (Nat.le_refl _) _).drew
  have hF : [L.take k, S, L.drop (k + m)].flatten = swapL L k m S := by simp [swapL]
  rw [hF] at C
  clear hF ha2 h hs hd e1 f1 hlen HR
  simp only [List.map_cons, List.map_nil] at C HB
  obtain ⟨j, hj⟩ : ∃ j, k + m = j := ⟨_, rfl⟩
  rw [hj] at C HB hsl hW hkm
  have HJ := Lib.hid hj
  clear hj
  go_enter Try.func70, Try.ntmps70
  go_wp2_with fail
  go_region_with ((go_at_call 95; refine C.mono ?_; rintro e w2 ⟨v2, rfl, ho2, hb2⟩))
  all_goals
    have HE : Hid (OwnRaw 9 1 w (swapL L k m S) (.returned v2) w2) := Lib.hid (OwnRaw.after HB.out ⟨_, rfl, ho2, hb2⟩)
    clear ho2 hb2
    go_wp2_with fail
    go_ret
    exact HE.out
theorem elem_v : Try.prog.underlying 30 = some (.slice (Try.prog.elem 30)) := by kernel_rfl
theorem size_v (w : World) : (sizeOf (Try.prog.elem 30)).run Try.prog w = .ok 2 w := by kernel_rfl
set_option maxRecDepth 100000 in
set_option maxHeartbeats 2000000 in
theorem swap_v {w : World} {a sa : Option Addr} {n c sn sc : Nat} {L S : List (Cl 2)} (h : Raw 2 w a n c L) (hs : Raw 2 w sa sn sc S) (k m : Nat) (hkm : k + m ≤ n) (h9 : n + sn ≤ 10000) :
    Calls Try.prog 87 #[.slice a n c, .int .i64 (k : Int), .int .i64 (m : Int), .slice sa sn sc] w (OwnRaw 100 2 w (swapL L k m S)) := by
  obtain ⟨e1, e2, e3⟩ := h.lens
  obtain ⟨f1, f2, f3⟩ := hs.lens
  obtain ⟨a2, ha2, hsl⟩ := slice_from elem_v size_v a n c (k + m) hkm
  have hkc : k ≤ c := by omega
  have hW : IntKind.i64.wrap ((k : Int) + (m : Int)) = ((k + m : Nat) : Int) := by rw [IntWalk.i64_in _ (by omega)]; omega
  have hd : Raw 2 w a2 (n - (k + m)) (c - (k + m)) (L.drop (k + m)) := by rw [ha2]; exact TabR.dp h hkm
  have HR := Lib.hid (Raws.made (W := w) (t := 30) [(a, k, c), (sa, sn, sc), (a2, n - (k + m), c - (k + m))] [L.take k, S, L.drop (k + m)] (fun i x y hx hy => by
    match i, hx, hy with
    | 0, hx, hy => cases hx; cases hy; exact TabR.tk h (show k ≤ n by omega)
    | 1, hx, hy => cases hx; cases hy; exact hs
    | 2, hx, hy => cases hx; cases hy; exact hd
    | i + 3, hx, hy => simp at hx) rfl (by simp) rfl)
  have hlen : lenR [L.take k, S, L.drop (k + m)] ≤ 10000 := by simp [lenR]; omega
  have C := concat_v (HR.out.below (Below.refl _ _).drew) hlen
  have HB : Hid (Below w.heap.size w (w.alloc (.cells ([(a, k, c), (sa, sn, sc), (a2, n - (k + m), c - (k + m))].map fun x => Value.slice x.1 x.2.1 x.2.2).toArray 30)).drew) := Lib.hid ((Below.refl _ _).alloc (Nat.le_refl _) _).drew
  have hF : [L.take k, S, L.drop (k + m)].flatten = swapL L k m S := by simp [swapL]
  rw [hF] at C
  clear hF ha2 h hs hd e1 f1 hlen HR
  simp only [List.map_cons, List.map_nil] at C HB
  obtain ⟨j, hj⟩ : ∃ j, k + m = j := ⟨_, rfl⟩
  rw [hj] at C HB hsl hW hkm
  have HJ := Lib.hid hj
  clear hj
  go_enter Try.func87, Try.ntmps87
  go_wp2_with fail
  go_region_with ((go_at_call 96; refine C.mono ?_; rintro e w2 ⟨v2, rfl, ho2, hb2⟩))
  all_goals
    have HE : Hid (OwnRaw 100 2 w (swapL L k m S) (.returned v2) w2) := Lib.hid (OwnRaw.after HB.out ⟨_, rfl, ho2, hb2⟩)
    clear ho2 hb2
    go_wp2_with fail
    go_ret
    exact HE.out
theorem elem_n : Try.prog.underlying 31 = some (.slice (Try.prog.elem 31)) := by kernel_rfl
theorem size_n (w : World) : (sizeOf (Try.prog.elem 31)).run Try.prog w = .ok 5 w := by kernel_rfl
set_option maxRecDepth 100000 in
set_option maxHeartbeats 2000000 in
theorem swap_n {w : World} {a sa : Option Addr} {n c sn sc : Nat} {L S : List (Cl 5)} (h : Raw 5 w a n c L) (hs : Raw 5 w sa sn sc S) (k m : Nat) (hkm : k + m ≤ n) (h9 : n + sn ≤ 10000) :
    Calls Try.prog 71 #[.slice a n c, .int .i64 (k : Int), .int .i64 (m : Int), .slice sa sn sc] w (OwnRaw 33 5 w (swapL L k m S)) := by
  obtain ⟨e1, e2, e3⟩ := h.lens
  obtain ⟨f1, f2, f3⟩ := hs.lens
  obtain ⟨a2, ha2, hsl⟩ := slice_from elem_n size_n a n c (k + m) hkm
  have hkc : k ≤ c := by omega
  have hW : IntKind.i64.wrap ((k : Int) + (m : Int)) = ((k + m : Nat) : Int) := by rw [IntWalk.i64_in _ (by omega)]; omega
  have hd : Raw 5 w a2 (n - (k + m)) (c - (k + m)) (L.drop (k + m)) := by rw [ha2]; exact TabR.dp h hkm
  have HR := Lib.hid (Raws.made (W := w) (t := 31) [(a, k, c), (sa, sn, sc), (a2, n - (k + m), c - (k + m))] [L.take k, S, L.drop (k + m)] (fun i x y hx hy => by
    match i, hx, hy with
    | 0, hx, hy => cases hx; cases hy; exact TabR.tk h (show k ≤ n by omega)
    | 1, hx, hy => cases hx; cases hy; exact hs
    | 2, hx, hy => cases hx; cases hy; exact hd
    | i + 3, hx, hy => simp at hx) rfl (by simp) rfl)
  have hlen : lenR [L.take k, S, L.drop (k + m)] ≤ 10000 := by simp [lenR]; omega
  have C := concat_n (HR.out.below (Below.refl _ _).drew) hlen
  have HB : Hid (Below w.heap.size w (w.alloc (.cells ([(a, k, c), (sa, sn, sc), (a2, n - (k + m), c - (k + m))].map fun x => Value.slice x.1 x.2.1 x.2.2).toArray 31)).drew) := Lib.hid ((Below.refl _ _).alloc (Nat.le_refl _) _).drew
  have hF : [L.take k, S, L.drop (k + m)].flatten = swapL L k m S := by simp [swapL]
  rw [hF] at C
  clear hF ha2 h hs hd e1 f1 hlen HR
  simp only [List.map_cons, List.map_nil] at C HB
  obtain ⟨j, hj⟩ : ∃ j, k + m = j := ⟨_, rfl⟩
  rw [hj] at C HB hsl hW hkm
  have HJ := Lib.hid hj
  clear hj
  go_enter Try.func71, Try.ntmps71
  go_wp2_with fail
  go_region_with ((go_at_call 97; refine C.mono ?_; rintro e w2 ⟨v2, rfl, ho2, hb2⟩))
  all_goals
    have HE : Hid (OwnRaw 33 5 w (swapL L k m S) (.returned v2) w2) := Lib.hid (OwnRaw.after HB.out ⟨_, rfl, ho2, hb2⟩)
    clear ho2 hb2
    go_wp2_with fail
    go_ret
    exact HE.out
end Go.Proofs.Ytemfnjlfcemehaa

/- Tools for regions that draw: boxes made beside calls, in whatever order. -/
namespace Go.Proofs.Ytemfnjlfcemehaa
open Go.RowKit

theorem Below.al {a w : World} {o : Obj} (h : Below a.heap.size a w) : Below a.heap.size a (w.alloc o) := h.alloc h.size o
theorem Below.dr {B : Nat} {a w : World} (h : Below B a w) : Below B a w.drew := h.drew
theorem Below.st {a w : World} {b i : Nat} {u : Value} (h : Below a.heap.size a w) (hb : a.heap.size ≤ b) : Below a.heap.size a (w.setCell ⟨b, i, none⟩ u) := h.setCell hb _
theorem Boxes.al {w : World} {l : List (Nat × List Value)} {o : Obj} (h : Boxes w l) : Boxes (w.alloc o) l := h.step ((Below.refl _ _).alloc (Nat.le_refl _) o)
theorem Boxes.dr {w : World} {l : List (Nat × List Value)} (h : Boxes w l) : Boxes w.drew l := h
theorem Boxes.st {w : World} {l : List (Nat × List Value)} {b i : Nat} {u : Value} (h : Boxes w l) (hne : ∀ p ∈ l, p.1 ≠ b) : Boxes (w.setCell ⟨b, i, none⟩ u) l := h.set ⟨b, i, none⟩ u hne
theorem below_via {a W w' : World} (h1 : Below a.heap.size a W) (h2 : Below W.heap.size W w') : Below a.heap.size a w' := h1.trans (h2.mono h1.size)
/-- What a call that makes a row leaves, beside the region's first world. -/
def RowOut (E : TypeId) (sz : Nat) (wc W : World) (L : List (Cl sz)) (e : Ending) (w' : World) : Prop :=
  ∃ a c, e = .returned (.slice a L.length c) ∧ L.length ≤ c ∧ c ≤ 9223372036854775807 ∧ w'.ownsRow wc.heap.size E sz (.slice a L.length c) L.length (flatC L) ∧ Below W.heap.size W w' ∧ Below wc.heap.size wc w'
theorem OwnRaw.row {E : TypeId} {sz : Nat} {wc W : World} {L : List (Cl sz)} {e : Ending} {w' : World} (hb : Below wc.heap.size wc W) (h : OwnRaw E sz W L e w') : RowOut E sz wc W L e w' := by
  obtain ⟨a, c, h1, h2, h3, h4, h5⟩ := h.sl
  exact ⟨a, c, h1, h2, h3, own_base h4 hb.size, h5, below_via hb h5⟩
/-- A block, and its cells. -/
def BoxAt (w : World) (b : Nat) (cs : Array Value) : Prop := ∃ t, w.heap[b]? = some (.cells cs t (0, 0))
theorem BoxAt.here {w : World} {cs : Array Value} {t : TypeId} : BoxAt (w.alloc (.cells cs t)) w.heap.size cs := ⟨t, World.alloc_heap_new w (.cells cs t)⟩
theorem BoxAt.here2 {w : World} {o : Obj} {cs : Array Value} {t : TypeId} : BoxAt ((w.alloc o).alloc (.cells cs t)) (w.heap.size + 1) cs := by
  have := World.alloc_heap_new (w.alloc o) (.cells cs t)
  exact ⟨t, by simpa using this⟩
theorem BoxAt.here3 {w : World} {o o' : Obj} {cs : Array Value} {t : TypeId} : BoxAt (((w.alloc o).alloc o').alloc (.cells cs t)) (w.heap.size + 1 + 1) cs := by
  have := World.alloc_heap_new ((w.alloc o).alloc o') (.cells cs t)
  exact ⟨t, by simpa using this⟩
theorem BoxAt.below {w w' : World} {b : Nat} {cs : Array Value} (h : BoxAt w b cs) (hb : Below w.heap.size w w') : BoxAt w' b cs := by
  obtain ⟨t, ht⟩ := h
  exact ⟨t, (hb.block b (Array.getElem?_eq_some_iff.1 ht).1).trans ht⟩
theorem BoxAt.al {w : World} {b : Nat} {cs : Array Value} {o : Obj} (h : BoxAt w b cs) : BoxAt (w.alloc o) b cs := h.below ((Below.refl _ _).alloc (Nat.le_refl _) o)
theorem BoxAt.dr {w : World} {b : Nat} {cs : Array Value} (h : BoxAt w b cs) : BoxAt w.drew b cs := h
theorem BoxAt.cell {w : World} {b : Nat} {cs : Array Value} (h : BoxAt w b cs) {i : Nat} {v : Value} (hv : cs[i]? = some v) : w.cell? ⟨b, i, none⟩ = some v := by
  obtain ⟨t, ht⟩ := h
  simp only [World.cell?, ht]; exact hv
theorem BoxAt.lt {w : World} {b : Nat} {cs : Array Value} (h : BoxAt w b cs) : b < w.heap.size := by
  obtain ⟨t, ht⟩ := h
  exact (Array.getElem?_eq_some_iff.1 ht).1
theorem BoxAt.frozen {w : World} {b : Nat} {cs : Array Value} (h : BoxAt w b cs) (i : Nat) : w.frozen? ⟨b, i, none⟩ = false := by
  obtain ⟨t, ht⟩ := h
  simp [World.frozen?, ht]
theorem BoxAt.boxes {w : World} {b : Nat} {cs : Array Value} (h : BoxAt w b cs) : Boxes w [(b, cs.toList)] := by
  obtain ⟨t, ht⟩ := h
  exact Boxes.cons (t := t) (by simpa using ht) (Boxes.nil w)
/-- A row of the call's own does not stand in a box that holds something else. -/
theorem own_not_box {w : World} {base : Nat} {e : TypeId} {sz : Nat} {a : Option Addr} {n c b : Nat} {xs : List Value} {cs : Array Value} (ho : w.ownsRow base e sz (.slice a n c) n xs) (hx : BoxAt w b cs) (hne : ∃ i, i < xs.length ∧ cs[i]? ≠ xs[i]?) : ∀ g off, a = some ⟨g, off, none⟩ → g ≠ b := by
  intro g' off' e' he
  rcases ho.2 with ⟨h, h0⟩ | ⟨g, cap, cur, h, hb, hg, hn, hm, hc, ht⟩
  · cases h; cases e'
  · cases h
    cases e'
    obtain ⟨t, hh⟩ := hx
    rw [← he, hg] at hh
    cases hh
    obtain ⟨i, hi, hne⟩ := hne
    have hl := ho.1
    have e1 : (cs.toList.take (n * sz))[i]? = cs.toList[i]? := List.getElem?_take_of_lt (by omega)
    rw [ht] at e1
    exact hne (by rw [e1, Array.getElem?_toList])
theorem zero_lt {W w' : World} {b : Nat} {cs : Array Value} (hx : BoxAt W b cs) (hb : Below W.heap.size W w') : BoxAt w' b cs ∧ b < W.heap.size := ⟨hx.below hb, hx.lt⟩
theorem raws_box2 {sz : Nat} {w : World} {b : Nat} {a1 a2 : Option Addr} {n1 c1 n2 c2 : Nat} {L1 L2 : List (Cl sz)} (h : BoxAt w b #[.slice a1 n1 c1, .slice a2 n2 c2]) (h1 : Raw sz w a1 n1 c1 L1) (h2 : Raw sz w a2 n2 c2 L2) :
    Raws sz w (some ⟨b, 0, none⟩) 2 2 [L1, L2] := by
  refine ⟨rfl, Nat.le_refl _, by unfold maxLen; omega, (fun h => by cases h), .inr ⟨_, _, rfl, h.lt, fun i L hL => ?_⟩⟩
  match i, hL with
  | 0, hL =>
    cases hL
    refine ⟨_, rfl, ⟨_, _, _, rfl, h1⟩, fun j v hj => ?_⟩
    cases j with
    | zero => simp at hj; subst hj; exact h.cell rfl
    | succ j => simp at hj
  | 1, hL =>
    cases hL
    refine ⟨_, rfl, ⟨_, _, _, rfl, h2⟩, fun j v hj => ?_⟩
    cases j with
    | zero => simp at hj; subst hj; exact h.cell rfl
    | succ j => simp at hj
  | i + 2, hL => simp at hL
/-- A row of one or two elements that a call has just laid. -/
theorem raw_box {sz : Nat} {w : World} {b : Nat} {L : List (Cl sz)} (h : BoxAt w b (flatC L).toArray) (hl : L.length ≤ 1000) : Raw sz w (some ⟨b, 0, none⟩) L.length L.length L := by
  refine ⟨rfl, Nat.le_refl _, by unfold maxLen; omega, (fun h => by cases h), .inr ⟨_, _, rfl, h.lt, fun i y hy => ⟨y.1, y.2.1, rfl, fun j v hv => ?_⟩⟩⟩
  have := flat_get (fun y : Cl sz => y.1) sz (fun y => y.2.1) L i y j v hy hv
  rw [Nat.zero_add]
  exact h.cell (by simpa [flatC] using this)
end Go.Proofs.Ytemfnjlfcemehaa

/- Nodes that stand on some blocks alone. -/
namespace Go.Proofs.Ytemfnjlfcemehaa
open Go.RowKit

/-- A slice's block is one of some. -/
def Fa (F : Nat → Prop) (a : Option Addr) (n : Nat) : Prop := n = 0 ∨ ∀ b off, a = some ⟨b, off, none⟩ → F b
theorem Fa.mono {F G : Nat → Prop} {a : Option Addr} {n : Nat} (h : Fa F a n) (hFG : ∀ b, F b → G b) : Fa G a n := h.imp id fun h b off e => hFG b (h b off e)
theorem Fa.zero (F : Nat → Prop) (a : Option Addr) : Fa F a 0 := .inl rfl
theorem Fa.of_own {F : Nat → Prop} {w : World} {base : Nat} {e : TypeId} {sz : Nat} {a : Option Addr} {n c m : Nat} {xs : List Value} (h : w.ownsRow base e sz (.slice a n c) m xs) (hF : ∀ b, base ≤ b → F b) : Fa F a n := by
  right
  intro b off e
  subst e
  rcases h.2 with ⟨h, _⟩ | ⟨g, cap, cur, h, hb, _⟩
  · cases h
  · cases h; exact hF _ hb
/-- Worlds that have the same of some blocks. -/
def AgreeF (F : Nat → Prop) (w w' : World) : Prop := w.heap.size ≤ w'.heap.size ∧ ∀ b, F b → b < w.heap.size → w'.heap[b]? = w.heap[b]?
theorem AgreeF.of_below {F : Nat → Prop} {w w' : World} (h : Below w.heap.size w w') : AgreeF F w w' := ⟨h.size, fun b _ hb => h.block b hb⟩
theorem AgreeF.trans {F : Nat → Prop} {a b c : World} (h : AgreeF F a b) (g : AgreeF F b c) : AgreeF F a c := ⟨Nat.le_trans h.1 g.1, fun k hk hlt => (g.2 k hk (Nat.lt_of_lt_of_le hlt h.1)).trans (h.2 k hk hlt)⟩
theorem AgreeF.set {F : Nat → Prop} {a w : World} (h : AgreeF F a w) {p : Addr} {u : Value} (hp : ¬ F p.block ∨ a.heap.size ≤ p.block) : AgreeF F a (w.setCell p u) := by
  refine ⟨by simpa using h.1, fun b hF hb => ?_⟩
  rw [Below.heap_setCell w p u b (fun e => by subst e; rcases hp with hp | hp; exact hp hF; omega)]
  exact h.2 b hF hb
theorem AgreeF.cell {F : Nat → Prop} {w w' : World} (h : AgreeF F w w') {b o : Nat} (hF : F b) (hb : b < w.heap.size) : w'.cell? ⟨b, o, none⟩ = w.cell? ⟨b, o, none⟩ := World.cell?_of_block (h.2 b hF hb)
theorem TabR.agree {α : Type} {sz : Nat} {R R' : List Value → α → Prop} {F : Nat → Prop} {w w' : World} {a : Option Addr} {len cap : Nat} {l : List α} (h : TabR sz R w a len cap l) (hF : Fa F a len) (ha : AgreeF F w w') (hR : ∀ cs y, y ∈ l → R cs y → R' cs y) : TabR sz R' w' a len cap l := by
  obtain ⟨h1, h2, h3, hn, h4⟩ := h
  refine ⟨h1, h2, h3, hn, ?_⟩
  rcases h4 with h4 | ⟨b, off, h5, h6, h7⟩
  · exact .inl h4
  · rcases hF with hF | hF
    · exact .inl hF
    · exact .inr ⟨b, off, h5, Nat.lt_of_lt_of_le h6 ha.1, fun i y hy => by
        obtain ⟨cs, c1, c2, c3⟩ := h7 i y hy
        exact ⟨cs, c1, hR _ _ (List.mem_of_getElem? hy) c2, fun j v hv => (ha.cell (hF b off h5) h6).trans (c3 j v hv)⟩⟩
theorem Row.agree {k : IntKind} {F : Nat → Prop} {w w' : World} {a : Option Addr} {len cap : Nat} {l : List Int} (h : Row k w a len cap l) (hF : Fa F a len) (ha : AgreeF F w w') : Row k w' a len cap l := by
  obtain ⟨h1, h2, h3, hn, h4⟩ := h
  refine ⟨h1, h2, h3, hn, ?_⟩
  rcases h4 with h4 | ⟨b, off, h5, h6, h7⟩
  · exact .inl h4
  · rcases hF with hF | hF
    · exact .inl hF
    · exact .inr ⟨b, off, h5, Nat.lt_of_lt_of_le h6 ha.1, fun i hi => (ha.cell (hF b off h5) h6).trans (h7 i hi)⟩
theorem TabR.block {α : Type} {sz : Nat} {R : List Value → α → Prop} {w : World} {a : Option Addr} {len cap : Nat} {l : List α} (h : TabR sz R w a len cap l) : Fa (fun b => b < w.heap.size) a len := by
  rcases h.2.2.2.2 with h4 | ⟨b, off, h5, h6, _⟩
  · exact .inl h4
  · exact .inr fun b' off' e => by rw [h5] at e; cases e; exact h6
theorem Row.block {k : IntKind} {w : World} {a : Option Addr} {len cap : Nat} {l : List Int} (h : Row k w a len cap l) : Fa (fun b => b < w.heap.size) a len := by
  rcases h.2.2.2.2 with h4 | ⟨b, off, h5, h6, _⟩
  · exact .inl h4
  · exact .inr fun b' off' e => by rw [h5] at e; cases e; exact h6
theorem Fa.and {F G : Nat → Prop} {a : Option Addr} {n : Nat} (h : Fa F a n) (g : Fa G a n) : Fa (fun b => F b ∧ G b) a n := by
  rcases h with h | h
  · exact .inl h
  · rcases g with g | g
    · exact .inl g
    · exact .inr fun b off e => ⟨h b off e, g b off e⟩
theorem unit_any {α β : Type} {sz : Nat} {R : List Value → α → Prop} {R' : List Value → β → Prop} {w w' : World} {a : Option Addr} {c : Nat} (h : TabR sz R w a 0 c []) : TabR sz R' w' a 0 c [] := ⟨rfl, h.2.1, h.2.2.1, h.2.2.2.1, .inl rfl⟩
def TvOn (F : Nat → Prop) (w : World) (cs : List Value) (v : Tv) : Prop := ∃ a n c, cs = [.string (strOf v.data), .slice a n c] ∧ Row .i64 w a n c v.pages ∧ Fa F a n
theorem TvOn.toIn {F : Nat → Prop} {w : World} {cs : List Value} {v : Tv} (h : TvOn F w cs v) : IsTv w cs v := by
  obtain ⟨a, n, c, e, h1, _⟩ := h
  exact ⟨a, n, c, e, h1⟩
theorem TvOn.agree {F : Nat → Prop} {w w' : World} {cs : List Value} {v : Tv} (h : TvOn F w cs v) (ha : AgreeF F w w') : TvOn F w' cs v := by
  obtain ⟨a, n, c, e, h1, h2⟩ := h
  exact ⟨a, n, c, e, h1.agree h2 ha, h2⟩
theorem TvOn.mono {F G : Nat → Prop} {w : World} {cs : List Value} {v : Tv} (h : TvOn F w cs v) (hFG : ∀ b, F b → G b) : TvOn G w cs v := by
  obtain ⟨a, n, c, e, h1, h2⟩ := h
  exact ⟨a, n, c, e, h1, h2.mono hFG⟩
/-- A node's cells, all of it on some blocks. -/
def NodeOn (F : Nat → Prop) : Nat → World → List Value → Tr → Prop
  | 0, _, _, _ => False
  | _ + 1, w, cs, .leaf p l => ∃ ka kn kc va vn vc ca cc, cs = [.int .i64 p, .bool true, .slice ka kn kc, .slice va vn vc, .slice ca 0 cc] ∧ KeysIn w ka kn kc (keysOf l) ∧ Fa F ka kn ∧ TabR 2 (TvOn F w) w va vn vc (l.map (·.2)) ∧ Fa F va vn ∧ TabR 5 (fun _ (_ : Unit) => True) w ca 0 cc []
  | n + 1, w, cs, .node p l => ∃ ka kn kc va vc ca cn cc, cs = [.int .i64 p, .bool false, .slice ka kn kc, .slice va 0 vc, .slice ca cn cc] ∧ KeysIn w ka kn kc (keysOf l) ∧ Fa F ka kn ∧ TabR 2 (fun _ (_ : Unit) => True) w va 0 vc [] ∧ TabR 5 (NodeOn F n w) w ca cn cc (l.map (·.2)) ∧ Fa F ca cn
theorem NodeOn.toIn {F : Nat → Prop} : ∀ {n : Nat} {w : World} {cs : List Value} {t : Tr}, NodeOn F n w cs t → NodeIn n w cs t
  | 0, _, _, _, h => h.elim
  | _ + 1, _, _, .leaf p l, h => by
    obtain ⟨ka, kn, kc, va, vn, vc, ca, cc, e, h1, _, h2, _, h3⟩ := h
    exact ⟨ka, kn, kc, va, vn, vc, ca, cc, e, h1, TabR.mono h2 (fun _ _ h => h.toIn), h3⟩
  | n + 1, _, _, .node p l, h => by
    obtain ⟨ka, kn, kc, va, vc, ca, cn, cc, e, h1, _, h2, h3, _⟩ := h
    exact ⟨ka, kn, kc, va, vc, ca, cn, cc, e, h1, h2, TabR.mono h3 (fun _ _ h => NodeOn.toIn h)⟩
theorem NodeIn.on : ∀ {n : Nat} {w : World} {cs : List Value} {t : Tr}, NodeIn n w cs t → NodeOn (fun b => b < w.heap.size) n w cs t
  | 0, _, _, _, h => h.elim
  | _ + 1, _, _, .leaf p l, h => by
    obtain ⟨ka, kn, kc, va, vn, vc, ca, cc, e, h1, h2, h3⟩ := h
    exact ⟨ka, kn, kc, va, vn, vc, ca, cc, e, h1, TabR.block h1, TabR.mono h2 (fun _ _ h => by obtain ⟨a, n, c, e, h⟩ := h; exact ⟨a, n, c, e, h, h.block⟩), TabR.block h2, h3⟩
  | n + 1, _, _, .node p l, h => by
    obtain ⟨ka, kn, kc, va, vc, ca, cn, cc, e, h1, h2, h3⟩ := h
    exact ⟨ka, kn, kc, va, vc, ca, cn, cc, e, h1, TabR.block h1, h2, TabR.mono h3 (fun _ _ h => NodeIn.on h), TabR.block h3⟩
theorem NodeOn.agree {F : Nat → Prop} : ∀ {n : Nat} {w w' : World} {cs : List Value} {t : Tr}, NodeOn F n w cs t → AgreeF F w w' → NodeOn F n w' cs t
  | 0, _, _, _, _, h, _ => h.elim
  | _ + 1, _, _, _, .leaf p l, h, ha => by
    obtain ⟨ka, kn, kc, va, vn, vc, ca, cc, e, h1, f1, h2, f2, h3⟩ := h
    exact ⟨ka, kn, kc, va, vn, vc, ca, cc, e, TabR.agree h1 f1 ha (fun _ _ _ h => h), f1, TabR.agree h2 f2 ha (fun _ _ _ h => h.agree ha), f2, unit_any h3⟩
  | n + 1, _, _, _, .node p l, h, ha => by
    obtain ⟨ka, kn, kc, va, vc, ca, cn, cc, e, h1, f1, h2, h3, f3⟩ := h
    exact ⟨ka, kn, kc, va, vc, ca, cn, cc, e, TabR.agree h1 f1 ha (fun _ _ _ h => h), f1, unit_any h2, TabR.agree h3 f3 ha (fun _ _ _ h => NodeOn.agree h ha), f3⟩
theorem NodeOn.below {F : Nat → Prop} {n : Nat} {w w' : World} {cs : List Value} {t : Tr} (h : NodeOn F n w cs t) (hb : Below w.heap.size w w') : NodeOn F n w' cs t := h.agree (.of_below hb)
theorem NodeOn.mono {F G : Nat → Prop} (hFG : ∀ b, F b → G b) : ∀ {n : Nat} {w : World} {cs : List Value} {t : Tr}, NodeOn F n w cs t → NodeOn G n w cs t
  | 0, _, _, _, h => h.elim
  | _ + 1, _, _, .leaf p l, h => by
    obtain ⟨ka, kn, kc, va, vn, vc, ca, cc, e, h1, f1, h2, f2, h3⟩ := h
    exact ⟨ka, kn, kc, va, vn, vc, ca, cc, e, h1, f1.mono hFG, TabR.mono h2 (fun _ _ h => h.mono hFG), f2.mono hFG, h3⟩
  | n + 1, _, _, .node p l, h => by
    obtain ⟨ka, kn, kc, va, vc, ca, cn, cc, e, h1, f1, h2, h3, f3⟩ := h
    exact ⟨ka, kn, kc, va, vc, ca, cn, cc, e, h1, f1.mono hFG, h2, TabR.mono h3 (fun _ _ h => NodeOn.mono hFG h), f3.mono hFG⟩
theorem NodeOn.lt {F : Nat → Prop} : ∀ {n : Nat} {w : World} {cs : List Value} {t : Tr}, NodeOn F n w cs t → NodeOn (fun b => F b ∧ b < w.heap.size) n w cs t
  | 0, _, _, _, h => h.elim
  | _ + 1, _, _, .leaf p l, h => by
    obtain ⟨ka, kn, kc, va, vn, vc, ca, cc, e, h1, f1, h2, f2, h3⟩ := h
    exact ⟨ka, kn, kc, va, vn, vc, ca, cc, e, h1, f1.and (TabR.block h1), TabR.mono h2 (fun _ _ h => by obtain ⟨a, n, c, e, h, f⟩ := h; exact ⟨a, n, c, e, h, f.and h.block⟩), f2.and (TabR.block h2), h3⟩
  | n + 1, _, _, .node p l, h => by
    obtain ⟨ka, kn, kc, va, vc, ca, cn, cc, e, h1, f1, h2, h3, f3⟩ := h
    exact ⟨ka, kn, kc, va, vc, ca, cn, cc, e, h1, f1.and (TabR.block h1), h2, TabR.mono h3 (fun _ _ h => NodeOn.lt h), f3.and (TabR.block h3)⟩
theorem NodeOn.more {F : Nat → Prop} : ∀ {n m : Nat} {w : World} {cs : List Value} {t : Tr}, NodeOn F n w cs t → n ≤ m → NodeOn F m w cs t
  | 0, _, _, _, _, h, _ => h.elim
  | n + 1, 0, _, _, _, _, h => by omega
  | _ + 1, _ + 1, _, _, .leaf p l, h, _ => h
  | n + 1, m + 1, _, _, .node p l, h, hm => by
    obtain ⟨ka, kn, kc, va, vc, ca, cn, cc, e, h1, f1, h2, h3, f3⟩ := h
    exact ⟨ka, kn, kc, va, vc, ca, cn, cc, e, h1, f1, h2, TabR.mono h3 (fun _ _ h => NodeOn.more h (by omega)), f3⟩
def NodeRF (F : Nat → Prop) (n : Nat) (w : World) (K : List (Cl 1)) (V : List (Cl 2)) (C : List (Cl 5)) : Tr → Prop
  | .leaf _ l => Tells IsKey K (keysOf l) ∧ Tells (TvOn F w) V (l.map (·.2)) ∧ C = []
  | .node _ l => Tells IsKey K (keysOf l) ∧ V = [] ∧ Tells (NodeOn F n w) C (l.map (·.2))
theorem NodeRF.agree {F : Nat → Prop} {n : Nat} {w w' : World} {K : List (Cl 1)} {V : List (Cl 2)} {C : List (Cl 5)} {t : Tr} (h : NodeRF F n w K V C t) (ha : AgreeF F w w') : NodeRF F n w' K V C t := by
  cases t with
  | leaf p l => exact ⟨h.1, h.2.1.mono (fun _ _ _ h => h.agree ha), h.2.2⟩
  | node p l => exact ⟨h.1, h.2.1, h.2.2.mono (fun _ _ _ h => NodeOn.agree h ha)⟩
theorem NodeRF.below {F : Nat → Prop} {n : Nat} {w w' : World} {K : List (Cl 1)} {V : List (Cl 2)} {C : List (Cl 5)} {t : Tr} (h : NodeRF F n w K V C t) (hb : Below w.heap.size w w') : NodeRF F n w' K V C t := h.agree (.of_below hb)
theorem NodeRF.mono {F G : Nat → Prop} {n : Nat} {w : World} {K : List (Cl 1)} {V : List (Cl 2)} {C : List (Cl 5)} {t : Tr} (h : NodeRF F n w K V C t) (hFG : ∀ b, F b → G b) : NodeRF G n w K V C t := by
  cases t with
  | leaf p l => exact ⟨h.1, h.2.1.mono (fun _ _ _ h => h.mono hFG), h.2.2⟩
  | node p l => exact ⟨h.1, h.2.1, h.2.2.mono (fun _ _ _ h => NodeOn.mono hFG h)⟩
theorem NodeRF.toR {F : Nat → Prop} {n : Nat} {w : World} {K : List (Cl 1)} {V : List (Cl 2)} {C : List (Cl 5)} {t : Tr} (h : NodeRF F n w K V C t) : NodeR n w K V C t := by
  cases t with
  | leaf p l => exact ⟨h.1, h.2.1.mono (fun _ _ _ h => h.toIn), h.2.2⟩
  | node p l => exact ⟨h.1, h.2.1, h.2.2.mono (fun _ _ _ h => h.toIn)⟩
theorem NodeOn.one {F : Nat → Prop} {n : Nat} {w : World} {cs : List Value} {t : Tr} (h : NodeOn F n w cs t) : ∀ u ∈ cs, u.oneCell' = true := h.toIn.one
/-- A node opened. -/
theorem NodeOn.open {F : Nat → Prop} {n : Nat} {w : World} {cs : List Value} {t : Tr} (h : NodeOn F (n + 1) w cs t) :
    ∃ ka kc va vn vc ca cn cc V C, cs = [.int .i64 t.page, .bool t.isLeaf, .slice ka (cntT t) kc, .slice va vn vc, .slice ca cn cc] ∧ Raw 1 w ka (cntT t) kc (t.keys.map kCell) ∧ Raw 2 w va vn vc V ∧ Raw 5 w ca cn cc C ∧ NodeRF F n w (t.keys.map kCell) V C t ∧ Fa F ka (cntT t) ∧ Fa F va vn ∧ Fa F ca cn := by
  cases t with
  | leaf p l =>
    obtain ⟨ka, kn, kc, va, vn, vc, ca, cc, e, h1, f1, h2, f2, h3⟩ := h
    obtain ⟨K, k1, k2⟩ := TabR.raw h1 (fun _ _ h => h.one)
    obtain ⟨V, v1, v2⟩ := TabR.raw h2 (fun _ _ h => h.toIn.one)
    obtain rfl := k2.keys
    have hn := k1.1
    simp [keysOf] at hn
    subst hn
    exact ⟨ka, kc, va, vn, vc, ca, 0, cc, V, [], e, k1, v1, unit_nil h3, ⟨k2, v2, rfl⟩, f1, f2, Fa.zero _ _⟩
  | node p l =>
    obtain ⟨ka, kn, kc, va, vc, ca, cn, cc, e, h1, f1, h2, h3, f3⟩ := h
    obtain ⟨K, k1, k2⟩ := TabR.raw h1 (fun _ _ h => h.one)
    obtain ⟨C, c1, c2⟩ := TabR.raw h3 (fun _ _ h => h.one)
    obtain rfl := k2.keys
    have hn := k1.1
    simp [keysOf] at hn
    subst hn
    exact ⟨ka, kc, va, 0, vc, ca, cn, cc, [], C, e, k1, unit_nil h2, c1, ⟨k2, rfl, c2⟩, f1, Fa.zero _ _, f3⟩
/-- A node shut. -/
theorem NodeOn.shut {F : Nat → Prop} {n : Nat} {w : World} {t : Tr} {ka : Option Addr} {kn kc : Nat} {va : Option Addr} {vn vc : Nat} {ca : Option Addr} {cn cc : Nat} {V : List (Cl 2)} {C : List (Cl 5)} {p : Int} {lf : Bool} {K : List (Cl 1)}
    (hp : t.page = p) (hl : t.isLeaf = lf) (hk : t.keys.map kCell = K) (h1 : Raw 1 w ka kn kc K) (h2 : Raw 2 w va vn vc V) (h3 : Raw 5 w ca cn cc C) (f1 : Fa F ka kn) (f2 : Fa F va vn) (f3 : Fa F ca cn) (h : NodeRF F n w (t.keys.map kCell) V C t) :
    NodeOn F (n + 1) w [.int .i64 p, .bool lf, .slice ka kn kc, .slice va vn vc, .slice ca cn cc] t := by
  subst hp hl hk
  cases t with
  | leaf p l =>
    obtain ⟨g1, g2, rfl⟩ := h
    have := h3.1
    simp at this
    subst this
    exact ⟨ka, kn, kc, va, vn, vc, ca, cc, rfl, h1.tab g1, f1, h2.tab g2, f2, nil_unit h3⟩
  | node p l =>
    obtain ⟨g1, rfl, g2⟩ := h
    have := h2.1
    simp at this
    subst this
    exact ⟨ka, kn, kc, va, vc, ca, cn, cc, rfl, h1.tab g1, f1, nil_unit h2, h3.tab g2, f3⟩
/-- The blocks that were allowed, and those that have come since. -/
def Fr (F : Nat → Prop) (w : World) (b : Nat) : Prop := F b ∨ w.heap.size ≤ b
theorem Fr.old {F : Nat → Prop} {w : World} (b : Nat) (h : F b) : Fr F w b := .inl h
theorem Fr.new {F : Nat → Prop} {w : World} {B : Nat} (hB : w.heap.size ≤ B) (b : Nat) (h : B ≤ b) : Fr F w b := .inr (Nat.le_trans hB h)
/-- A node that a call answers. -/
def NodeTo (F : Nat → Prop) (n : Nat) (w : World) (t : Tr) (e : Ending) (w' : World) : Prop := ∃ cs, e = .returned (.agg cs.toArray) ∧ NodeOn (Fr F w) n w' cs t ∧ Below w.heap.size w w'
end Go.Proofs.Ytemfnjlfcemehaa
