/- Texts that other texts of this claim lean on, one behind the other. -/
import Derived.Test.YtpghlmcoajaiiaaGreatDoorM1
import Derived.Test.YtpghlmcoajaiiaaGreatDoorM2
import Derived.Deep.RegionHeld3
import Derived.Deep.DeepCutAuto
/- Keys, compared. -/
namespace Go.Proofs.YtpghlmcoajaiiaaGreatDoor
open Go.RowKit

theorem bytes_lessT : ∀ (x y : List UInt8), Op.bytesLess x y = decide (x < y)
  | [], [] => by simp [Op.bytesLess]
  | _ :: _, [] => by simp [Op.bytesLess]
  | [], _ :: _ => by simp [Op.bytesLess]
  | a :: x, b :: y => by
    rw [Op.bytesLess, bytes_lessT x y]
    simp only [List.cons_lt_cons_iff]
    by_cases h1 : a < b <;> by_cases h2 : a = b <;> by_cases h3 : x < y <;> simp [h1, h2, h3]
/-- What the walks ask of two keys. -/
theorem cmp_lt {a b : List UInt8} (h : a < b) : Op.bytesLess (strOf a).toList (strOf b).toList = true ∧ ((strOf a).toList == (strOf b).toList) = false ∧ Op.bytesLess (strOf b).toList (strOf a).toList = false ∧ ((strOf b).toList == (strOf a).toList) = false := by
  have hne : a ≠ b := fun e => by subst e; exact klt_irrefl _ h
  rw [strOf_toList, strOf_toList, bytes_lessT, bytes_lessT]
  exact ⟨by simpa using h, by simpa using hne, by simpa using klt_asymm h, by simpa using fun e => hne e.symm⟩
theorem cmp_eq (a : List UInt8) : Op.bytesLess (strOf a).toList (strOf a).toList = false ∧ ((strOf a).toList == (strOf a).toList) = true := by
  rw [strOf_toList, bytes_lessT]
  exact ⟨by simp, by simp⟩
/-- What the walks ask of a key that may be empty. -/
theorem str_empty {k : List UInt8} (h : k = []) : (strOf k).toList = [] ∧ (strOf k).toList.isEmpty = true := by rw [strOf_toList, h]; exact ⟨rfl, rfl⟩
theorem str_some {k : List UInt8} (h : k ≠ []) : ¬ (strOf k).toList = [] ∧ (strOf k).toList.isEmpty = false := by
  rw [strOf_toList]
  exact ⟨h, by cases k with
    | nil => exact absurd rfl h
    | cons a r => rfl⟩
end Go.Proofs.YtpghlmcoajaiiaaGreatDoor

/- The walks of trees: which kid has a key; a key looked for in a row. -/
namespace Go.Proofs.YtpghlmcoajaiiaaGreatDoor
open Go.RowKit

/-- A node opened, its keys told. -/
theorem NodeIn.openK {n : Nat} {w : World} {cs : List Value} {t : Tr} (h : NodeIn (n + 1) w cs t) :
    ∃ ka kc va vn vc ca cn cc V C, cs = [.int .i64 t.page, .bool t.isLeaf, .slice ka (cntT t) kc, .slice va vn vc, .slice ca cn cc] ∧ Raw 1 w ka (cntT t) kc (t.keys.map kCell) ∧ Raw 2 w va vn vc V ∧ Raw 5 w ca cn cc C ∧ NodeR n w (t.keys.map kCell) V C t := by
  obtain ⟨ka, kn, kc, va, vn, vc, ca, cn, cc, K, V, C, e, h1, h2, h3, h4⟩ := h.open
  obtain rfl := h4.keys.keys
  have := h1.1
  rw [List.length_map, keys_len] at this
  subst this
  exact ⟨ka, kc, va, vn, vc, ca, cn, cc, V, C, e, h1, h2, h3, h4⟩

set_option maxRecDepth 100000 in
set_option maxHeartbeats 2000000 in
theorem tway_any {n : Nat} {w : World} {cs : List Value} {t : Tr} (h : NodeIn n w cs t) (key : List UInt8) (hc : cntT t ≤ 1000) :
    Calls Tryz.prog 157 #[.agg cs.toArray, .string (strOf key)] w fun e w' => e = .returned (.int .i64 (wayF t.keys key : Int)) ∧ Below w.heap.size w w' := by
  cases n with
  | zero => exact h.elim
  | succ n =>
  obtain ⟨a, c, va, vn, vc, ca, cn, cc, V, C, rfl, h1, _⟩ := h.openK
  obtain ⟨_, h2, h3⟩ := h1.lens
  have HC := Lib.hid h1
  have hA : Below w.heap.size w (w.alloc (.cells #[.int .i64 t.page, .bool t.isLeaf, .slice a (cntT t) c, .slice va vn vc, .slice ca cn cc] 50)) := (Below.refl _ _).alloc (Nat.le_refl _) _
  have HBX := Lib.hid ((Boxes.nil w).alloc #[.int .i64 t.page, .bool t.isLeaf, .slice a (cntT t) c, .slice va vn vc, .slice ca cn cc] 50 rfl)
  have HW : Hid (wayF t.keys key = wayD t.keys key (cntT t - 1)) := Lib.hid (by unfold wayF; rw [keys_len])
  generalize t.keys = K at *
  generalize cntT t = m at *
  generalize t.page = pg at *
  generalize t.isLeaf = lf at *
  obtain ⟨R, hR⟩ : ∃ R, wayF K key = R := ⟨_, rfl⟩
  rw [hR] at HW ⊢
  obtain ⟨wA, hwA⟩ : ∃ wA, w.alloc (.cells #[.int .i64 pg, .bool lf, .slice a m c, .slice va vn vc, .slice ca cn cc] 50) = wA := ⟨_, rfl⟩
  rw [hwA] at hA HBX
  have HA := Lib.hid hA
  have f2 := HBX.out.cell 0 2 rfl rfl
  clear h h1 hR hA
  go_enter Tryz.func157, Tryz.ntmps157
  go_wp2_with fail
  clear hwA
  go_loop [5] (fun s => (m = 0 ∧ s = .int .i64 (-1)) ∨ (0 < m ∧ ∃ i : Nat, i < m ∧ s = .int .i64 i ∧ R = wayD K key i)) (fun s => (intOf s).toNat)
  case atStart =>
    by_cases h0 : m = 0
    · exact .inl ⟨h0, by rw [h0]; rfl⟩
    · exact .inr ⟨by omega, m - 1, by omega, by congr 1; omega, HW.out⟩
  case round =>
    rcases hrel with ⟨rfl, rfl⟩ | ⟨hm, i, hi, rfl, hr⟩
    · go_wp2_with fail
      go_ret
      exact ⟨ret_int (by rw [HW.out]; rfl), HA.out⟩
    · cases i with
      | zero =>
        have HR := Lib.hid hr
        clear hr
        go_wp2_with fail
        go_ret
        exact ⟨ret_int (by rw [HR.out] <;> rfl), HA.out⟩
      | succ i =>
        have d0 : decide ((0 : Int) < ((i + 1 : Nat) : Int)) = true := by simp <;> omega
        obtain ⟨b, off, rfl, hb, hcell⟩ := HC.out.key_at hi
        have c1 := (HA.out.cell (p := ⟨b, off + (i + 1), none⟩) hb).trans hcell
        rw [show wayD K key (i + 1) = if key < K[i + 1]?.getD [] then wayD K key i else i + 1 from rfl] at hr
        generalize K[i + 1]?.getD [] = k at *
        clear hcell
        rcases ktri key k with hlt | rfl | hlt
        · rw [if_pos hlt] at hr
          obtain ⟨_, e3, e1, e2⟩ := cmp_lt hlt
          clear e3
          have HR := Lib.hid hr
          clear hr hlt
          go_wp2_with fail
          go_round
          case rel => exact .inr ⟨hm, i, by omega, by first | rfl | (congr 1; omega), HR.out⟩
          case measure => simp [intOf] <;> omega
        · rw [if_neg (klt_irrefl _)] at hr
          obtain ⟨e1, e2⟩ := cmp_eq key
          have HR := Lib.hid hr
          clear hr
          go_wp2_with fail
          go_ret
          exact ⟨ret_int (by rw [HR.out]; go_num), HA.out⟩
        · rw [if_neg (klt_asymm hlt)] at hr
          obtain ⟨e1, e2, e3, e4⟩ := cmp_lt hlt
          clear e3 e4
          have HR := Lib.hid hr
          clear hr hlt
          go_wp2_with fail
          go_ret
          exact ⟨ret_int (by rw [HR.out]; go_num), HA.out⟩
theorem cnan (s : ByteArray) (w : World) : Calls Tryz.prog 205 #[.string s] w fun e w' => e = .returned (.bool false) ∧ w = w' := by
  go_enter Tryz.func205, Tryz.ntmps205
  go_wp2_with fail
  go_ret
  exact ⟨by simp, rfl⟩
theorem snan (s : ByteArray) (w : World) : Calls Tryz.prog 195 #[.string s] w fun e w' => e = .returned (.bool false) ∧ w = w' := by
  go_enter Tryz.func195, Tryz.ntmps195
  go_wp2_with fail
  go_ret
  exact ⟨by simp, rfl⟩
theorem less_any (a b : List UInt8) (w : World) : Calls Tryz.prog 194 #[.string (strOf a), .string (strOf b)] w fun e w' => e = .returned (.bool (decide (a < b))) ∧ w = w' := by
  have hb : Op.bytesLess (strOf a).toList (strOf b).toList = decide (a < b) := by rw [strOf_toList, strOf_toList, bytes_lessT]
  have N := fun (s : ByteArray) (w : World) => cnan s w
  obtain ⟨d, hd⟩ : ∃ d, decide (a < b) = d := ⟨_, rfl⟩
  rw [hd] at hb ⊢
  clear hd
  go_enter Tryz.func194, Tryz.ntmps194
  go_wp2_with fail
  refine (N _ _).mono ?_
  rintro e w2 ⟨rfl, rfl⟩
  clear N
  go_wp2_with fail
  go_ret
  exact ⟨rfl, rfl⟩
set_option maxRecDepth 100000 in
set_option maxHeartbeats 4000000 in
theorem bsearch_any {w : World} {a : Option Addr} {n c : Nat} {ks : List (List UInt8)} (h : Raw 1 w a n c (ks.map kCell)) (hn : n ≤ 100000) (hs : ks.Pairwise (fun a b => a < b)) (key : List UInt8) :
    Calls Tryz.prog 159 #[.slice a n c, .string (strOf key)] w fun e w' => e = .returned (.tuple #[.int .i64 (posK key ks : Int), .bool (hasK key ks)]) ∧ w = w' := by
  obtain ⟨h1, h2, h3⟩ := h.lens
  rw [List.length_map] at h1
  have H := Lib.hid h
  have HL := Lib.hid h1
  have HS : Hid (∀ i j, i < j → j < n → ks[i]?.getD [] < ks[j]?.getD []) := Lib.hid (fun i j hij hj => pair_get hs hij (by omega))
  have L := fun (a b : List UInt8) (w : World) => less_any a b w
  clear h h1 hs
  go_enter Tryz.func159, Tryz.ntmps159
  go_wp2_with fail
  go_loop [7, 8, 9] (fun s7 s8 _ => ∃ i j : Nat, i ≤ j ∧ j ≤ n ∧ s7 = .int .i64 i ∧ s8 = .int .i64 j ∧ (∀ m, m < i → ks[m]?.getD [] < key) ∧ (∀ m, j ≤ m → m < n → ¬ ks[m]?.getD [] < key)) (fun s7 s8 _ => (intOf s8).toNat - (intOf s7).toNat)
  case atStart => exact ⟨0, n, Nat.zero_le _, Nat.le_refl _, rfl, rfl, fun m hm => by omega, fun m h1 h2 => by omega⟩
  case round =>
    obtain ⟨i, j, hij, hj, rfl, rfl, r1, r2⟩ := hrel
    have hs1 := HS.out
    have R1 := Lib.hid r1
    have R2 := Lib.hid r2
    clear r1 r2 hs1
    by_cases hlt : i < j
    · have hm : (i + j) / 2 < n := by omega
      obtain ⟨b, off, rfl, hb, hcell⟩ := H.out.key_at hm
      have d0 : decide ((i : Int) < j) = true := by simp; omega
      have d0' : decide (i < j) = true := by simp; omega
      have hb2 : 2 * ((i + j) / 2) ≤ i + j ∧ i + j ≤ 2 * ((i + j) / 2) + 1 := by omega
      have hcast : ((i : Int) + j) / 2 = ((i + j) / 2 : Nat) := by omega
      generalize (i + j) / 2 = m at *
      have HC := Lib.hid hcast
      clear hcast
      have hcm : ((i : Int) + j) / 2 = (m : Int) := HC.out
      obtain ⟨d, hd⟩ : ∃ d, decide (ks[m]?.getD [] < key) = d := ⟨_, rfl⟩
      have HD := Lib.hid hd
      obtain ⟨k, hk⟩ : ∃ k, ks[m]?.getD [] = k := ⟨_, rfl⟩
      rw [hk] at hcell HD
      have HK := Lib.hid hk
      clear hd hk
      go_wp2_with fail
      refine (L _ _ _).mono ?_
      rintro e w2 ⟨rfl, rfl⟩
      rw [HD.out]
      cases d with
      | true =>
        have HN : Hid (∀ q, q < m + 1 → ks[q]?.getD [] < key) := Lib.hid (fun q hq => by
          have hmk : ks[m]?.getD [] < key := by rw [HK.out]; exact of_decide_eq_true HD.out
          by_cases e : q = m
          · rw [e]; exact hmk
          · exact klt_trans (HS.out q m (by omega) hm) hmk)
        go_wp2_with fail
        go_round
        case rel => exact ⟨m + 1, j, by omega, hj, by go_num, rfl, HN.out, R2.out⟩
        case measure => simp [intOf]; omega
      | false =>
        have HN : Hid (∀ q, m ≤ q → q < n → ¬ ks[q]?.getD [] < key) := Lib.hid (fun q hq hqn hc => by
          have hmk : ¬ ks[m]?.getD [] < key := by rw [HK.out]; exact of_decide_eq_false HD.out
          by_cases e : q = m
          · rw [e] at hc; exact hmk hc
          · exact hmk (klt_trans (HS.out m q (by omega) hqn) hc))
        go_wp2_with fail
        go_round
        case rel => exact ⟨i, m, by omega, by omega, rfl, by go_num, R1.out, HN.out⟩
        case measure => simp [intOf]; omega
    · obtain rfl : i = j := by omega
      have hpos : posK key ks = i := posK_eq (by rw [HL.out]; exact hj) R1.out (fun h => R2.out i (Nat.le_refl _) (by rw [← HL.out]; exact h))
      have d0 : decide ((i : Int) < i) = false := by simp
      have N := fun (s : ByteArray) (w : World) => snan s w
      by_cases hin : i < n
      · obtain ⟨b, off, rfl, hb, hcell⟩ := H.out.key_at hin
        have d1 : decide ((i : Int) < n) = true := by simp; omega
        have d1' : decide (i < n) = true := by simp; omega
        have hhas : hasK key ks = (ks[i]?.getD [] == key) := by
          unfold hasK
          rw [hpos, List.getElem?_eq_getElem (by rw [HL.out]; exact hin)]
          simp
        obtain ⟨k, hk⟩ : ∃ k, ks[i]?.getD [] = k := ⟨_, rfl⟩
        rw [hk] at hcell hhas
        have HP := Lib.hid hpos
        have HH := Lib.hid hhas
        clear hk hpos hhas
        by_cases he : k = key
        · subst he
          obtain ⟨e1, e2⟩ := cmp_eq k
          go_wp2_with fail
          go_ret2
          exact ⟨by rw [HP.out, HH.out]; simp, rfl⟩
        · have e2 : ((strOf k).toList == (strOf key).toList) = false := by rw [strOf_toList, strOf_toList]; simpa using he
          have HE := Lib.hid he
          clear he
          go_wp2_with fail
          refine (N _ _).mono ?_
          rintro e w2 ⟨rfl, rfl⟩
          go_wp2_with fail
          go_ret2
          exact ⟨by rw [HP.out, HH.out]; simp [HE.out], rfl⟩
      · have d1 : decide ((i : Int) < n) = false := by simp; omega
        have d1' : decide (i < n) = false := by simp; omega
        have hhas : hasK key ks = false := by
          unfold hasK
          rw [hpos, List.getElem?_eq_none (by rw [HL.out]; omega)]
          rfl
        have HP := Lib.hid hpos
        have HH := Lib.hid hhas
        clear hpos hhas
        go_wp2_with fail
        go_ret2
        exact ⟨by rw [HP.out, HH.out]; simp, rfl⟩
end Go.Proofs.YtpghlmcoajaiiaaGreatDoor

/- Rows of keys, values and nodes: slices.Clone, Grow, Concat; tree.swap (printed by gen_rawK.py). -/
namespace Go.Proofs.YtpghlmcoajaiiaaGreatDoor
open Go.RowKit

theorem info_s : RowInfo Tryz.prog 9 1 16 := row_info (by kernel_rfl)
set_option maxRecDepth 100000 in
set_option maxHeartbeats 2000000 in
theorem clone_s {w : World} {a : Option Addr} {n c : Nat} {L : List (Cl 1)} (h : Raw 1 w a n c L) (hn : n ≤ 100000) :
    Calls Tryz.prog 203 #[.slice a n c] w (OwnRaw 9 1 w L) := by
  obtain ⟨i0, z0, hi, hz0, hz1, hz2, hz3⟩ := info_s
  obtain ⟨e1, e2, e3⟩ := h.lens
  cases a with
  | none =>
    have hc := h.2.2.2.1 rfl
    obtain rfl : n = 0 := by omega
    obtain rfl : c = 0 := by omega
    have hl0 : L = [] := List.eq_nil_of_length_eq_zero e1
    have HE : Hid (OwnRaw 9 1 w L (.returned (.slice none 0 0)) w) := Lib.hid ⟨_, rfl, by rw [hl0]; exact own_nil _ _ _ _, Below.refl _ _⟩
    clear hl0 e1 hc hz0 hz1 hz2 hz3
    have hq : ∀ W : World, (binOp .eql 46 (.slice none 0 0) (.slice none 0 0)).run Tryz.prog W = .ok (.bool true) W := fun W => Lib.run_eql_slice_nil W _ _ none 0 0 0 0 Tryz.underlying46
    go_enter Tryz.func203, Tryz.ntmps203
    go_wp2
    go_ret
    exact HE.out
  | some x =>
    have hq : ∀ W : World, (binOp .eql 46 (.slice (some x) n c) (.slice none 0 0)).run Tryz.prog W = .ok (.bool false) W := fun W => Lib.run_eql_slice_nil W _ _ (some x) n c 0 0 Tryz.underlying46
    have hB0 : Below w.heap.size w (w.alloc (.cells #[] 9)) := (Below.refl _ _).alloc (Nat.le_refl _) _
    obtain ⟨v', w', hr, ho, hg, _⟩ := run_append_raw (P := Tryz.prog) w.heap.size 46 9 i0 z0 1 16 Tryz.underlying46 hi hz0 hz1 hz2 hz3 (by decide) (L := []) (own_empty w 9 1 rfl (Nat.le_refl _)) (h.below hB0) (by unfold maxLen; omega) (by omega) hB0.size
    have HE : Hid (OwnRaw 9 1 w L (.returned v') w') := Lib.hid ⟨v', rfl, by rw [e1]; simpa using ho, hB0.grown hg hB0.size (own_ge (own_empty w 9 1 rfl (Nat.le_refl _)))⟩
    clear ho hg hB0 e1 hz0 hz1 hz2 hz3 h
    go_enter Tryz.func203, Tryz.ntmps203
    go_wp2_with (at_builtin; refine wpList_append_run rfl _ _ _ _ rfl rfl rfl hr ?_)
    go_ret
    exact HE.out
set_option maxRecDepth 100000 in
set_option maxHeartbeats 2000000 in
theorem grow_s (n : Nat) (h9 : n ≤ 100000) (w : World) :
    Calls Tryz.prog 206 #[.slice none 0 0, .int .i64 (n : Int)] w (OwnRaw 9 1 w []) := by
  have d0 : decide ((n : Int) < 0) = false := by simp
  by_cases h0 : 0 < n
  · obtain ⟨c, w', hr, hc1, hc2, ho, hb⟩ := run_grow (P := Tryz.prog) w 46 3 9 1 16 Tryz.underlying46 Tryz.underlying3 info_s (by decide) (by decide) n h0 h9
    have d1 : decide ((0 : Int) < n) = true := by simp; omega
    have d1' : decide (0 < n) = true := by simp; omega
    have HE : Hid (OwnRaw 9 1 w [] (.returned (.slice (some ⟨w.heap.size, 0, none⟩) 0 c)) w') := Lib.hid ⟨_, rfl, ho, hb⟩
    clear ho hb
    go_enter Tryz.func206, Tryz.ntmps206
    go_wp2_with (at_builtin; refine wpList_append_run rfl _ _ _ _ rfl rfl rfl hr ?_)
    go_ret
    exact HE.out
  · obtain rfl : n = 0 := by omega
    have HE : Hid (OwnRaw 9 1 w [] (.returned (.slice none 0 0)) w) := Lib.hid ⟨_, rfl, own_nil _ _ _ _, Below.refl _ _⟩
    go_enter Tryz.func206, Tryz.ntmps206
    go_wp2_with fail
    go_ret
    exact HE.out
set_option maxRecDepth 100000 in
set_option maxHeartbeats 4000000 in
theorem concat_s {w : World} {a : Option Addr} {n c : Nat} {LL : List (List (Cl 1))} (h : Raws 1 w a n c LL) (h9 : lenR LL ≤ 10000) :
    Calls Tryz.prog 196 #[.slice a n c] w (OwnRaw 9 1 w LL.flatten) := by
  obtain ⟨hl, hc, hm⟩ := TabR.lens h
  obtain ⟨i0, z0, hi, hz0, hz1, hz2, hz3⟩ := info_s
  have H := Lib.hid h
  have HL := Lib.hid hl
  have HZ := Lib.hid (show i0.zero = some z0 ∧ i0.size = 1 ∧ i0.bytes = 16 ∧ z0.cells.size = 1 from ⟨hz0, hz1, hz2, hz3⟩)
  have HI := Lib.hid hi
  clear h hl hz0 hz1 hz2 hz3 hi
  go_enter Tryz.func196, Tryz.ntmps196
  go_wp2_with fail
  go_loopw [3, 5, 11] (fun s3 s5 s11 wr => ∃ i : Nat, i ≤ n ∧ s11 = .int .i64 i ∧ s3 = .int .i64 (lenR (LL.take i) : Int) ∧ wr = w) (fun _ _ s _ => n - (intOf s).toNat)
  case atStart => exact ⟨0, Nat.zero_le _, rfl, rfl, rfl⟩
  case round =>
    obtain ⟨i, hi2, rfl, rfl, rfl⟩ := hrel
    have hle := lenR_take LL i
    by_cases hlt : i < n
    · obtain ⟨b, off, a', n', c', L, rfl, hbb, hcell, hL, hraw⟩ := H.out.at hlt
      obtain ⟨q1, q2, q3⟩ := hraw.lens
      have hsn := (lenR_succ hL).1
      have hle2 := lenR_take LL (i + 1)
      have HS := Lib.hid (show lenR (LL.take (i + 1)) = lenR (LL.take i) + n' by omega)
      have d0 : decide ((lenR (LL.take i) : Int) + (n' : Int) < 0) = false := by simp; omega
      have hle3 : lenR (LL.take i) + n' ≤ 10000 := by omega
      clear hsn hL hraw q1 hle2
      generalize lenR (LL.take i) = q at *
      go_wp2_with fail
      go_roundw
      case rel => exact ⟨i + 1, hlt, by go_num, by rw [HS.out]; go_num, by first | rfl | trivial⟩
      case measure => simp [intOf]; omega
    · obtain rfl : n = i := by omega
      obtain ⟨wB, rfl⟩ : ∃ wB, wB = wr := ⟨_, rfl⟩
      have htl : LL.take n = LL := List.take_of_length_le (by rw [HL.out]; exact Nat.le_refl _)
      rw [htl]
      have G := grow_s (lenR LL) (by omega) wB
      have HT := Lib.hid htl
      have HLE := Lib.hid h9
      clear htl hle
      obtain ⟨q, hq⟩ : ∃ q, lenR LL = q := ⟨_, rfl⟩
      rw [hq] at G ⊢
      have HQ := Lib.hid hq
      clear hq
      go_wp2_with fail
      refine G.mono ?_
      rintro e w2 ⟨v2, rfl, ho2, hb2⟩
      have HO2 := Lib.hid ho2
      have HB2 := Lib.hid hb2
      clear G ho2 hb2
      go_wp2_with fail
      go_loopw [6, 8, 27] (fun s6 s8 s27 wx => ∃ i : Nat, i ≤ n ∧ s27 = .int .i64 i ∧ wx.ownsRow wB.heap.size 9 1 s6 (lenR (LL.take i)) (flatC (LL.take i).flatten) ∧ Below wB.heap.size wB wx) (fun _ _ s _ => n - (intOf s).toNat)
      case atStart => exact ⟨0, Nat.zero_le _, rfl, HO2.out, HB2.out⟩
      case round =>
        clear HO2 HB2
        obtain ⟨i, hi2, rfl, hox, hbx⟩ := hrel
        have hle := lenR_take LL i
        by_cases hlt : i < n
        · obtain ⟨b, off, a', n', c', L, rfl, hbb, hcell, hL, hraw⟩ := (H.out.below hbx).at hlt
          obtain ⟨hs1, hs2⟩ := lenR_succ hL
          have hle2 := lenR_take LL (i + 1)
          obtain ⟨hnl, hcc, hcm⟩ := hraw.lens
          have hle9 := HLE.out
          obtain ⟨hz0, hz1, hz2, hz3⟩ := HZ.out
          obtain ⟨v10, w10, hr10, ho10, hg10, _⟩ := run_append_raw (P := Tryz.prog) wB.heap.size 46 9 i0 z0 1 16 Tryz.underlying46 HI.out hz0 hz1 hz2 hz3 (by decide) hox hraw (by unfold maxLen; omega) (by omega) hbx.size
          have HB10 := Lib.hid (hbx.grown hg10 hbx.size (own_ge hox))
          have HO10 : Hid (w10.ownsRow _ 9 1 v10 (lenR (LL.take (i + 1))) (flatC (LL.take (i + 1)).flatten)) := Lib.hid (by
            rw [hs1, hs2, hnl]; exact ho10)
          clear ho10 hg10 hox hbx hraw hs1 hs2 hnl hle hle2 hL hz0 hz1 hz2 hz3
          go_wp2_with (at_builtin; refine wpList_append_run rfl _ _ _ _ rfl rfl rfl hr10 ?_)
          go_roundw
          case rel => exact ⟨i + 1, hlt, by go_num, HO10.out, HB10.out⟩
          case measure => simp [intOf]; omega
        · obtain rfl : n = i := by omega
          rw [HT.out] at hox
          have HE : Hid (OwnRaw 9 1 _ LL.flatten (.returned u6) _) := Lib.hid ⟨_, rfl, by rw [lenR_flat]; exact hox, hbx⟩
          clear hox hbx hle
          go_wp2_with fail
          go_ret
          exact HE.out
theorem info_v : RowInfo Tryz.prog 101 2 40 := row_info (by kernel_rfl)
set_option maxRecDepth 100000 in
set_option maxHeartbeats 2000000 in
theorem clone_v {w : World} {a : Option Addr} {n c : Nat} {L : List (Cl 2)} (h : Raw 2 w a n c L) (hn : n ≤ 100000) :
    Calls Tryz.prog 209 #[.slice a n c] w (OwnRaw 101 2 w L) := by
  obtain ⟨i0, z0, hi, hz0, hz1, hz2, hz3⟩ := info_v
  obtain ⟨e1, e2, e3⟩ := h.lens
  cases a with
  | none =>
    have hc := h.2.2.2.1 rfl
    obtain rfl : n = 0 := by omega
    obtain rfl : c = 0 := by omega
    have hl0 : L = [] := List.eq_nil_of_length_eq_zero e1
    have HE : Hid (OwnRaw 101 2 w L (.returned (.slice none 0 0)) w) := Lib.hid ⟨_, rfl, by rw [hl0]; exact own_nil _ _ _ _, Below.refl _ _⟩
    clear hl0 e1 hc hz0 hz1 hz2 hz3
    have hq : ∀ W : World, (binOp .eql 47 (.slice none 0 0) (.slice none 0 0)).run Tryz.prog W = .ok (.bool true) W := fun W => Lib.run_eql_slice_nil W _ _ none 0 0 0 0 Tryz.underlying47
    go_enter Tryz.func209, Tryz.ntmps209
    go_wp2
    go_ret
    exact HE.out
  | some x =>
    have hq : ∀ W : World, (binOp .eql 47 (.slice (some x) n c) (.slice none 0 0)).run Tryz.prog W = .ok (.bool false) W := fun W => Lib.run_eql_slice_nil W _ _ (some x) n c 0 0 Tryz.underlying47
    have hB0 : Below w.heap.size w (w.alloc (.cells #[] 101)) := (Below.refl _ _).alloc (Nat.le_refl _) _
    obtain ⟨v', w', hr, ho, hg, _⟩ := run_append_raw (P := Tryz.prog) w.heap.size 47 101 i0 z0 2 40 Tryz.underlying47 hi hz0 hz1 hz2 hz3 (by decide) (L := []) (own_empty w 101 2 rfl (Nat.le_refl _)) (h.below hB0) (by unfold maxLen; omega) (by omega) hB0.size
    have HE : Hid (OwnRaw 101 2 w L (.returned v') w') := Lib.hid ⟨v', rfl, by rw [e1]; simpa using ho, hB0.grown hg hB0.size (own_ge (own_empty w 101 2 rfl (Nat.le_refl _)))⟩
    clear ho hg hB0 e1 hz0 hz1 hz2 hz3 h
    go_enter Tryz.func209, Tryz.ntmps209
    go_wp2_with (at_builtin; refine wpList_append_run rfl _ _ _ _ rfl rfl rfl hr ?_)
    go_ret
    exact HE.out
set_option maxRecDepth 100000 in
set_option maxHeartbeats 2000000 in
theorem grow_v (n : Nat) (h9 : n ≤ 100000) (w : World) :
    Calls Tryz.prog 207 #[.slice none 0 0, .int .i64 (n : Int)] w (OwnRaw 101 2 w []) := by
  have d0 : decide ((n : Int) < 0) = false := by simp
  by_cases h0 : 0 < n
  · obtain ⟨c, w', hr, hc1, hc2, ho, hb⟩ := run_grow (P := Tryz.prog) w 47 3 101 2 40 Tryz.underlying47 Tryz.underlying3 info_v (by decide) (by decide) n h0 h9
    have d1 : decide ((0 : Int) < n) = true := by simp; omega
    have d1' : decide (0 < n) = true := by simp; omega
    have HE : Hid (OwnRaw 101 2 w [] (.returned (.slice (some ⟨w.heap.size, 0, none⟩) 0 c)) w') := Lib.hid ⟨_, rfl, ho, hb⟩
    clear ho hb
    go_enter Tryz.func207, Tryz.ntmps207
    go_wp2_with (at_builtin; refine wpList_append_run rfl _ _ _ _ rfl rfl rfl hr ?_)
    go_ret
    exact HE.out
  · obtain rfl : n = 0 := by omega
    have HE : Hid (OwnRaw 101 2 w [] (.returned (.slice none 0 0)) w) := Lib.hid ⟨_, rfl, own_nil _ _ _ _, Below.refl _ _⟩
    go_enter Tryz.func207, Tryz.ntmps207
    go_wp2_with fail
    go_ret
    exact HE.out
set_option maxRecDepth 100000 in
set_option maxHeartbeats 4000000 in
theorem concat_v {w : World} {a : Option Addr} {n c : Nat} {LL : List (List (Cl 2))} (h : Raws 2 w a n c LL) (h9 : lenR LL ≤ 10000) :
    Calls Tryz.prog 197 #[.slice a n c] w (OwnRaw 101 2 w LL.flatten) := by
  obtain ⟨hl, hc, hm⟩ := TabR.lens h
  obtain ⟨i0, z0, hi, hz0, hz1, hz2, hz3⟩ := info_v
  have H := Lib.hid h
  have HL := Lib.hid hl
  have HZ := Lib.hid (show i0.zero = some z0 ∧ i0.size = 2 ∧ i0.bytes = 40 ∧ z0.cells.size = 2 from ⟨hz0, hz1, hz2, hz3⟩)
  have HI := Lib.hid hi
  clear h hl hz0 hz1 hz2 hz3 hi
  go_enter Tryz.func197, Tryz.ntmps197
  go_wp2_with fail
  go_loopw [3, 5, 11] (fun s3 s5 s11 wr => ∃ i : Nat, i ≤ n ∧ s11 = .int .i64 i ∧ s3 = .int .i64 (lenR (LL.take i) : Int) ∧ wr = w) (fun _ _ s _ => n - (intOf s).toNat)
  case atStart => exact ⟨0, Nat.zero_le _, rfl, rfl, rfl⟩
  case round =>
    obtain ⟨i, hi2, rfl, rfl, rfl⟩ := hrel
    have hle := lenR_take LL i
    by_cases hlt : i < n
    · obtain ⟨b, off, a', n', c', L, rfl, hbb, hcell, hL, hraw⟩ := H.out.at hlt
      obtain ⟨q1, q2, q3⟩ := hraw.lens
      have hsn := (lenR_succ hL).1
      have hle2 := lenR_take LL (i + 1)
      have HS := Lib.hid (show lenR (LL.take (i + 1)) = lenR (LL.take i) + n' by omega)
      have d0 : decide ((lenR (LL.take i) : Int) + (n' : Int) < 0) = false := by simp; omega
      have hle3 : lenR (LL.take i) + n' ≤ 10000 := by omega
      clear hsn hL hraw q1 hle2
      generalize lenR (LL.take i) = q at *
      go_wp2_with fail
      go_roundw
      case rel => exact ⟨i + 1, hlt, by go_num, by rw [HS.out]; go_num, by first | rfl | trivial⟩
      case measure => simp [intOf]; omega
    · obtain rfl : n = i := by omega
      obtain ⟨wB, rfl⟩ : ∃ wB, wB = wr := ⟨_, rfl⟩
      have htl : LL.take n = LL := List.take_of_length_le (by rw [HL.out]; exact Nat.le_refl _)
      rw [htl]
      have G := grow_v (lenR LL) (by omega) wB
      have HT := Lib.hid htl
      have HLE := Lib.hid h9
      clear htl hle
      obtain ⟨q, hq⟩ : ∃ q, lenR LL = q := ⟨_, rfl⟩
      rw [hq] at G ⊢
      have HQ := Lib.hid hq
      clear hq
      go_wp2_with fail
      refine G.mono ?_
      rintro e w2 ⟨v2, rfl, ho2, hb2⟩
      have HO2 := Lib.hid ho2
      have HB2 := Lib.hid hb2
      clear G ho2 hb2
      go_wp2_with fail
      go_loopw [6, 8, 27] (fun s6 s8 s27 wx => ∃ i : Nat, i ≤ n ∧ s27 = .int .i64 i ∧ wx.ownsRow wB.heap.size 101 2 s6 (lenR (LL.take i)) (flatC (LL.take i).flatten) ∧ Below wB.heap.size wB wx) (fun _ _ s _ => n - (intOf s).toNat)
      case atStart => exact ⟨0, Nat.zero_le _, rfl, HO2.out, HB2.out⟩
      case round =>
        clear HO2 HB2
        obtain ⟨i, hi2, rfl, hox, hbx⟩ := hrel
        have hle := lenR_take LL i
        by_cases hlt : i < n
        · obtain ⟨b, off, a', n', c', L, rfl, hbb, hcell, hL, hraw⟩ := (H.out.below hbx).at hlt
          obtain ⟨hs1, hs2⟩ := lenR_succ hL
          have hle2 := lenR_take LL (i + 1)
          obtain ⟨hnl, hcc, hcm⟩ := hraw.lens
          have hle9 := HLE.out
          obtain ⟨hz0, hz1, hz2, hz3⟩ := HZ.out
          obtain ⟨v10, w10, hr10, ho10, hg10, _⟩ := run_append_raw (P := Tryz.prog) wB.heap.size 47 101 i0 z0 2 40 Tryz.underlying47 HI.out hz0 hz1 hz2 hz3 (by decide) hox hraw (by unfold maxLen; omega) (by omega) hbx.size
          have HB10 := Lib.hid (hbx.grown hg10 hbx.size (own_ge hox))
          have HO10 : Hid (w10.ownsRow _ 101 2 v10 (lenR (LL.take (i + 1))) (flatC (LL.take (i + 1)).flatten)) := Lib.hid (by
            rw [hs1, hs2, hnl]; exact ho10)
          clear ho10 hg10 hox hbx hraw hs1 hs2 hnl hle hle2 hL hz0 hz1 hz2 hz3
          go_wp2_with (at_builtin; refine wpList_append_run rfl _ _ _ _ rfl rfl rfl hr10 ?_)
          go_roundw
          case rel => exact ⟨i + 1, hlt, by go_num, HO10.out, HB10.out⟩
          case measure => simp [intOf]; omega
        · obtain rfl : n = i := by omega
          rw [HT.out] at hox
          have HE : Hid (OwnRaw 101 2 _ LL.flatten (.returned u6) _) := Lib.hid ⟨_, rfl, by rw [lenR_flat]; exact hox, hbx⟩
          clear hox hbx hle
          go_wp2_with fail
          go_ret
          exact HE.out
theorem info_n : RowInfo Tryz.prog 50 5 88 := row_info (by kernel_rfl)
set_option maxRecDepth 100000 in
set_option maxHeartbeats 2000000 in
theorem clone_n {w : World} {a : Option Addr} {n c : Nat} {L : List (Cl 5)} (h : Raw 5 w a n c L) (hn : n ≤ 100000) :
    Calls Tryz.prog 210 #[.slice a n c] w (OwnRaw 50 5 w L) := by
  obtain ⟨i0, z0, hi, hz0, hz1, hz2, hz3⟩ := info_n
  obtain ⟨e1, e2, e3⟩ := h.lens
  cases a with
  | none =>
    have hc := h.2.2.2.1 rfl
    obtain rfl : n = 0 := by omega
    obtain rfl : c = 0 := by omega
    have hl0 : L = [] := List.eq_nil_of_length_eq_zero e1
    have HE : Hid (OwnRaw 50 5 w L (.returned (.slice none 0 0)) w) := Lib.hid ⟨_, rfl, by rw [hl0]; exact own_nil _ _ _ _, Below.refl _ _⟩
    clear hl0 e1 hc hz0 hz1 hz2 hz3
    have hq : ∀ W : World, (binOp .eql 48 (.slice none 0 0) (.slice none 0 0)).run Tryz.prog W = .ok (.bool true) W := fun W => Lib.run_eql_slice_nil W _ _ none 0 0 0 0 Tryz.underlying48
    go_enter Tryz.func210, Tryz.ntmps210
    go_wp2
    go_ret
    exact HE.out
  | some x =>
    have hq : ∀ W : World, (binOp .eql 48 (.slice (some x) n c) (.slice none 0 0)).run Tryz.prog W = .ok (.bool false) W := fun W => Lib.run_eql_slice_nil W _ _ (some x) n c 0 0 Tryz.underlying48
    have hB0 : Below w.heap.size w (w.alloc (.cells #[] 50)) := (Below.refl _ _).alloc (Nat.le_refl _) _
    obtain ⟨v', w', hr, ho, hg, _⟩ := run_append_raw (P := Tryz.prog) w.heap.size 48 50 i0 z0 5 88 Tryz.underlying48 hi hz0 hz1 hz2 hz3 (by decide) (L := []) (own_empty w 50 5 rfl (Nat.le_refl _)) (h.below hB0) (by unfold maxLen; omega) (by omega) hB0.size
    have HE : Hid (OwnRaw 50 5 w L (.returned v') w') := Lib.hid ⟨v', rfl, by rw [e1]; simpa using ho, hB0.grown hg hB0.size (own_ge (own_empty w 50 5 rfl (Nat.le_refl _)))⟩
    clear ho hg hB0 e1 hz0 hz1 hz2 hz3 h
    go_enter Tryz.func210, Tryz.ntmps210
    go_wp2_with (at_builtin; refine wpList_append_run rfl _ _ _ _ rfl rfl rfl hr ?_)
    go_ret
    exact HE.out
set_option maxRecDepth 100000 in
set_option maxHeartbeats 2000000 in
theorem grow_n (n : Nat) (h9 : n ≤ 100000) (w : World) :
    Calls Tryz.prog 204 #[.slice none 0 0, .int .i64 (n : Int)] w (OwnRaw 50 5 w []) := by
  have d0 : decide ((n : Int) < 0) = false := by simp
  by_cases h0 : 0 < n
  · obtain ⟨c, w', hr, hc1, hc2, ho, hb⟩ := run_grow (P := Tryz.prog) w 48 3 50 5 88 Tryz.underlying48 Tryz.underlying3 info_n (by decide) (by decide) n h0 h9
    have d1 : decide ((0 : Int) < n) = true := by simp; omega
    have d1' : decide (0 < n) = true := by simp; omega
    have HE : Hid (OwnRaw 50 5 w [] (.returned (.slice (some ⟨w.heap.size, 0, none⟩) 0 c)) w') := Lib.hid ⟨_, rfl, ho, hb⟩
    clear ho hb
    go_enter Tryz.func204, Tryz.ntmps204
    go_wp2_with (at_builtin; refine wpList_append_run rfl _ _ _ _ rfl rfl rfl hr ?_)
    go_ret
    exact HE.out
  · obtain rfl : n = 0 := by omega
    have HE : Hid (OwnRaw 50 5 w [] (.returned (.slice none 0 0)) w) := Lib.hid ⟨_, rfl, own_nil _ _ _ _, Below.refl _ _⟩
    go_enter Tryz.func204, Tryz.ntmps204
    go_wp2_with fail
    go_ret
    exact HE.out
set_option maxRecDepth 100000 in
set_option maxHeartbeats 4000000 in
theorem concat_n {w : World} {a : Option Addr} {n c : Nat} {LL : List (List (Cl 5))} (h : Raws 5 w a n c LL) (h9 : lenR LL ≤ 10000) :
    Calls Tryz.prog 193 #[.slice a n c] w (OwnRaw 50 5 w LL.flatten) := by
  obtain ⟨hl, hc, hm⟩ := TabR.lens h
  obtain ⟨i0, z0, hi, hz0, hz1, hz2, hz3⟩ := info_n
  have H := Lib.hid h
  have HL := Lib.hid hl
  have HZ := Lib.hid (show i0.zero = some z0 ∧ i0.size = 5 ∧ i0.bytes = 88 ∧ z0.cells.size = 5 from ⟨hz0, hz1, hz2, hz3⟩)
  have HI := Lib.hid hi
  clear h hl hz0 hz1 hz2 hz3 hi
  go_enter Tryz.func193, Tryz.ntmps193
  go_wp2_with fail
  go_loopw [3, 5, 11] (fun s3 s5 s11 wr => ∃ i : Nat, i ≤ n ∧ s11 = .int .i64 i ∧ s3 = .int .i64 (lenR (LL.take i) : Int) ∧ wr = w) (fun _ _ s _ => n - (intOf s).toNat)
  case atStart => exact ⟨0, Nat.zero_le _, rfl, rfl, rfl⟩
  case round =>
    obtain ⟨i, hi2, rfl, rfl, rfl⟩ := hrel
    have hle := lenR_take LL i
    by_cases hlt : i < n
    · obtain ⟨b, off, a', n', c', L, rfl, hbb, hcell, hL, hraw⟩ := H.out.at hlt
      obtain ⟨q1, q2, q3⟩ := hraw.lens
      have hsn := (lenR_succ hL).1
      have hle2 := lenR_take LL (i + 1)
      have HS := Lib.hid (show lenR (LL.take (i + 1)) = lenR (LL.take i) + n' by omega)
      have d0 : decide ((lenR (LL.take i) : Int) + (n' : Int) < 0) = false := by simp; omega
      have hle3 : lenR (LL.take i) + n' ≤ 10000 := by omega
      clear hsn hL hraw q1 hle2
      generalize lenR (LL.take i) = q at *
      go_wp2_with fail
      go_roundw
      case rel => exact ⟨i + 1, hlt, by go_num, by rw [HS.out]; go_num, by first | rfl | trivial⟩
      case measure => simp [intOf]; omega
    · obtain rfl : n = i := by omega
      obtain ⟨wB, rfl⟩ : ∃ wB, wB = wr := ⟨_, rfl⟩
      have htl : LL.take n = LL := List.take_of_length_le (by rw [HL.out]; exact Nat.le_refl _)
      rw [htl]
      have G := grow_n (lenR LL) (by omega) wB
      have HT := Lib.hid htl
      have HLE := Lib.hid h9
      clear htl hle
      obtain ⟨q, hq⟩ : ∃ q, lenR LL = q := ⟨_, rfl⟩
      rw [hq] at G ⊢
      have HQ := Lib.hid hq
      clear hq
      go_wp2_with fail
      refine G.mono ?_
      rintro e w2 ⟨v2, rfl, ho2, hb2⟩
      have HO2 := Lib.hid ho2
      have HB2 := Lib.hid hb2
      clear G ho2 hb2
      go_wp2_with fail
      go_loopw [6, 8, 27] (fun s6 s8 s27 wx => ∃ i : Nat, i ≤ n ∧ s27 = .int .i64 i ∧ wx.ownsRow wB.heap.size 50 5 s6 (lenR (LL.take i)) (flatC (LL.take i).flatten) ∧ Below wB.heap.size wB wx) (fun _ _ s _ => n - (intOf s).toNat)
      case atStart => exact ⟨0, Nat.zero_le _, rfl, HO2.out, HB2.out⟩
      case round =>
        clear HO2 HB2
        obtain ⟨i, hi2, rfl, hox, hbx⟩ := hrel
        have hle := lenR_take LL i
        by_cases hlt : i < n
        · obtain ⟨b, off, a', n', c', L, rfl, hbb, hcell, hL, hraw⟩ := (H.out.below hbx).at hlt
          obtain ⟨hs1, hs2⟩ := lenR_succ hL
          have hle2 := lenR_take LL (i + 1)
          obtain ⟨hnl, hcc, hcm⟩ := hraw.lens
          have hle9 := HLE.out
          obtain ⟨hz0, hz1, hz2, hz3⟩ := HZ.out
          obtain ⟨v10, w10, hr10, ho10, hg10, _⟩ := run_append_raw (P := Tryz.prog) wB.heap.size 48 50 i0 z0 5 88 Tryz.underlying48 HI.out hz0 hz1 hz2 hz3 (by decide) hox hraw (by unfold maxLen; omega) (by omega) hbx.size
          have HB10 := Lib.hid (hbx.grown hg10 hbx.size (own_ge hox))
          have HO10 : Hid (w10.ownsRow _ 50 5 v10 (lenR (LL.take (i + 1))) (flatC (LL.take (i + 1)).flatten)) := Lib.hid (by
            rw [hs1, hs2, hnl]; exact ho10)
          clear ho10 hg10 hox hbx hraw hs1 hs2 hnl hle hle2 hL hz0 hz1 hz2 hz3
          go_wp2_with (at_builtin; refine wpList_append_run rfl _ _ _ _ rfl rfl rfl hr10 ?_)
          go_roundw
          case rel => exact ⟨i + 1, hlt, by go_num, HO10.out, HB10.out⟩
          case measure => simp [intOf]; omega
        · obtain rfl : n = i := by omega
          rw [HT.out] at hox
          have HE : Hid (OwnRaw 50 5 _ LL.flatten (.returned u6) _) := Lib.hid ⟨_, rfl, by rw [lenR_flat]; exact hox, hbx⟩
          clear hox hbx hle
          go_wp2_with fail
          go_ret
          exact HE.out
end Go.Proofs.YtpghlmcoajaiiaaGreatDoor

/- tree.swap at rows of keys, values and nodes (printed by gen_rawS.py). -/
namespace Go.Proofs.YtpghlmcoajaiiaaGreatDoor
open Go.RowKit

/-- A row in which some, from a place on, are others. -/
def swapL {α : Type} (l : List α) (at_ many : Nat) (some_ : List α) : List α := l.take at_ ++ (some_ ++ l.drop (at_ + many))
theorem elem_s : Tryz.prog.underlying 46 = some (.slice (Tryz.prog.elem 46)) := by kernel_rfl
theorem size_s (w : World) : (sizeOf (Tryz.prog.elem 46)).run Tryz.prog w = .ok 1 w := by kernel_rfl
set_option maxRecDepth 100000 in
set_option maxHeartbeats 2000000 in
theorem swap_s {w : World} {a sa : Option Addr} {n c sn sc : Nat} {L S : List (Cl 1)} (h : Raw 1 w a n c L) (hs : Raw 1 w sa sn sc S) (k m : Nat) (hkm : k + m ≤ n) (h9 : n + sn ≤ 10000) :
    Calls Tryz.prog 160 #[.slice a n c, .int .i64 (k : Int), .int .i64 (m : Int), .slice sa sn sc] w (OwnRaw 9 1 w (swapL L k m S)) := by
  obtain ⟨e1, e2, e3⟩ := h.lens
  obtain ⟨f1, f2, f3⟩ := hs.lens
  obtain ⟨a2, ha2, hsl⟩ := slice_from elem_s size_s a n c (k + m) hkm
  have hkc : k ≤ c := by omega
  have hW : IntKind.i64.wrap ((k : Int) + (m : Int)) = ((k + m : Nat) : Int) := by rw [IntWalk.i64_in _ (by omega)]; omega
  have hd : Raw 1 w a2 (n - (k + m)) (c - (k + m)) (L.drop (k + m)) := by rw [ha2]; exact TabR.dp h hkm
  have HR := Lib.hid (Raws.made (W := w) (t := 46) [(a, k, c), (sa, sn, sc), (a2, n - (k + m), c - (k + m))] [L.take k, S, L.drop (k + m)] (fun i x y hx hy => by
    match i, hx, hy with
    | 0, hx, hy => cases hx; cases hy; exact TabR.tk h (show k ≤ n by omega)
    | 1, hx, hy => cases hx; cases hy; exact hs
    | 2, hx, hy => cases hx; cases hy; exact hd
    | i + 3, hx, hy => simp at hx) rfl (by simp) rfl)
  have hlen : lenR [L.take k, S, L.drop (k + m)] ≤ 10000 := by simp [lenR]; omega
  have C := concat_s (HR.out.below (Below.refl _ _).drew) hlen
  have HB : Hid (Below w.heap.size w (w.alloc (.cells ([(a, k, c), (sa, sn, sc), (a2, n - (k + m), c - (k + m))].map fun x => Value.slice x.1 x.2.1 x.2.2).toArray 46)).drew) := Lib.hid ((Below.refl _ _).alloc (Nat.le_refl _) _).drew
  have hF : [L.take k, S, L.drop (k + m)].flatten = swapL L k m S := by simp [swapL]
  rw [hF] at C
  clear hF ha2 h hs hd e1 f1 hlen HR
  simp only [List.map_cons, List.map_nil] at C HB
  obtain ⟨j, hj⟩ : ∃ j, k + m = j := ⟨_, rfl⟩
  rw [hj] at C HB hsl hW hkm
  have HJ := Lib.hid hj
  clear hj
  go_enter Tryz.func160, Tryz.ntmps160
  go_wp2_with fail
  go_region_with ((go_at_call 196; refine C.mono ?_; rintro e w2 ⟨v2, rfl, ho2, hb2⟩))
  all_goals
    have HE : Hid (OwnRaw 9 1 w (swapL L k m S) (.returned v2) w2) := Lib.hid (OwnRaw.after HB.out ⟨_, rfl, ho2, hb2⟩)
    clear ho2 hb2
    go_wp2_with fail
    go_ret
    exact HE.out
theorem elem_v : Tryz.prog.underlying 47 = some (.slice (Tryz.prog.elem 47)) := by kernel_rfl
theorem size_v (w : World) : (sizeOf (Tryz.prog.elem 47)).run Tryz.prog w = .ok 2 w := by kernel_rfl
set_option maxRecDepth 100000 in
set_option maxHeartbeats 2000000 in
theorem swap_v {w : World} {a sa : Option Addr} {n c sn sc : Nat} {L S : List (Cl 2)} (h : Raw 2 w a n c L) (hs : Raw 2 w sa sn sc S) (k m : Nat) (hkm : k + m ≤ n) (h9 : n + sn ≤ 10000) :
    Calls Tryz.prog 161 #[.slice a n c, .int .i64 (k : Int), .int .i64 (m : Int), .slice sa sn sc] w (OwnRaw 101 2 w (swapL L k m S)) := by
  obtain ⟨e1, e2, e3⟩ := h.lens
  obtain ⟨f1, f2, f3⟩ := hs.lens
  obtain ⟨a2, ha2, hsl⟩ := slice_from elem_v size_v a n c (k + m) hkm
  have hkc : k ≤ c := by omega
  have hW : IntKind.i64.wrap ((k : Int) + (m : Int)) = ((k + m : Nat) : Int) := by rw [IntWalk.i64_in _ (by omega)]; omega
  have hd : Raw 2 w a2 (n - (k + m)) (c - (k + m)) (L.drop (k + m)) := by rw [ha2]; exact TabR.dp h hkm
  have HR := Lib.hid (Raws.made (W := w) (t := 47) [(a, k, c), (sa, sn, sc), (a2, n - (k + m), c - (k + m))] [L.take k, S, L.drop (k + m)] (fun i x y hx hy => by
    match i, hx, hy with
    | 0, hx, hy => cases hx; cases hy; exact TabR.tk h (show k ≤ n by omega)
    | 1, hx, hy => cases hx; cases hy; exact hs
    | 2, hx, hy => cases hx; cases hy; exact hd
    | i + 3, hx, hy => simp at hx) rfl (by simp) rfl)
  have hlen : lenR [L.take k, S, L.drop (k + m)] ≤ 10000 := by simp [lenR]; omega
  have C := concat_v (HR.out.below (Below.refl _ _).drew) hlen
  have HB : Hid (Below w.heap.size w (w.alloc (.cells ([(a, k, c), (sa, sn, sc), (a2, n - (k + m), c - (k + m))].map fun x => Value.slice x.1 x.2.1 x.2.2).toArray 47)).drew) := Lib.hid ((Below.refl _ _).alloc (Nat.le_refl _) _).drew
  have hF : [L.take k, S, L.drop (k + m)].flatten = swapL L k m S := by simp [swapL]
  rw [hF] at C
  clear hF ha2 h hs hd e1 f1 hlen HR
  simp only [List.map_cons, List.map_nil] at C HB
  obtain ⟨j, hj⟩ : ∃ j, k + m = j := ⟨_, rfl⟩
  rw [hj] at C HB hsl hW hkm
  have HJ := Lib.hid hj
  clear hj
  go_enter Tryz.func161, Tryz.ntmps161
  go_wp2_with fail
  go_region_with ((go_at_call 197; refine C.mono ?_; rintro e w2 ⟨v2, rfl, ho2, hb2⟩))
  all_goals
    have HE : Hid (OwnRaw 101 2 w (swapL L k m S) (.returned v2) w2) := Lib.hid (OwnRaw.after HB.out ⟨_, rfl, ho2, hb2⟩)
    clear ho2 hb2
    go_wp2_with fail
    go_ret
    exact HE.out
theorem elem_n : Tryz.prog.underlying 48 = some (.slice (Tryz.prog.elem 48)) := by kernel_rfl
theorem size_n (w : World) : (sizeOf (Tryz.prog.elem 48)).run Tryz.prog w = .ok 5 w := by kernel_rfl
set_option maxRecDepth 100000 in
set_option maxHeartbeats 2000000 in
theorem swap_n {w : World} {a sa : Option Addr} {n c sn sc : Nat} {L S : List (Cl 5)} (h : Raw 5 w a n c L) (hs : Raw 5 w sa sn sc S) (k m : Nat) (hkm : k + m ≤ n) (h9 : n + sn ≤ 10000) :
    Calls Tryz.prog 158 #[.slice a n c, .int .i64 (k : Int), .int .i64 (m : Int), .slice sa sn sc] w (OwnRaw 50 5 w (swapL L k m S)) := by
  obtain ⟨e1, e2, e3⟩ := h.lens
  obtain ⟨f1, f2, f3⟩ := hs.lens
  obtain ⟨a2, ha2, hsl⟩ := slice_from elem_n size_n a n c (k + m) hkm
  have hkc : k ≤ c := by omega
  have hW : IntKind.i64.wrap ((k : Int) + (m : Int)) = ((k + m : Nat) : Int) := by rw [IntWalk.i64_in _ (by omega)]; omega
  have hd : Raw 5 w a2 (n - (k + m)) (c - (k + m)) (L.drop (k + m)) := by rw [ha2]; exact TabR.dp h hkm
  have HR := Lib.hid (Raws.made (W := w) (t := 48) [(a, k, c), (sa, sn, sc), (a2, n - (k + m), c - (k + m))] [L.take k, S, L.drop (k + m)] (fun i x y hx hy => by
    match i, hx, hy with
    | 0, hx, hy => cases hx; cases hy; exact TabR.tk h (show k ≤ n by omega)
    | 1, hx, hy => cases hx; cases hy; exact hs
    | 2, hx, hy => cases hx; cases hy; exact hd
    | i + 3, hx, hy => simp at hx) rfl (by simp) rfl)
  have hlen : lenR [L.take k, S, L.drop (k + m)] ≤ 10000 := by simp [lenR]; omega
  have C := concat_n (HR.out.below (Below.refl _ _).drew) hlen
  have HB : Hid (Below w.heap.size w (w.alloc (.cells ([(a, k, c), (sa, sn, sc), (a2, n - (k + m), c - (k + m))].map fun x => Value.slice x.1 x.2.1 x.2.2).toArray 48)).drew) := Lib.hid ((Below.refl _ _).alloc (Nat.le_refl _) _).drew
  have hF : [L.take k, S, L.drop (k + m)].flatten = swapL L k m S := by simp [swapL]
  rw [hF] at C
  clear hF ha2 h hs hd e1 f1 hlen HR
  simp only [List.map_cons, List.map_nil] at C HB
  obtain ⟨j, hj⟩ : ∃ j, k + m = j := ⟨_, rfl⟩
  rw [hj] at C HB hsl hW hkm
  have HJ := Lib.hid hj
  clear hj
  go_enter Tryz.func158, Tryz.ntmps158
  go_wp2_with fail
  go_region_with ((go_at_call 193; refine C.mono ?_; rintro e w2 ⟨v2, rfl, ho2, hb2⟩))
  all_goals
    have HE : Hid (OwnRaw 50 5 w (swapL L k m S) (.returned v2) w2) := Lib.hid (OwnRaw.after HB.out ⟨_, rfl, ho2, hb2⟩)
    clear ho2 hb2
    go_wp2_with fail
    go_ret
    exact HE.out
end Go.Proofs.YtpghlmcoajaiiaaGreatDoor

/- The walks of trees: a node parted. -/
namespace Go.Proofs.YtpghlmcoajaiiaaGreatDoor
open Go.RowKit

theorem Boxes.swap {w : World} {x y : Nat × List Value} {l : List (Nat × List Value)} (h : Boxes w (x :: y :: l)) : Boxes w (y :: x :: l) :=
  h.sub fun p hp => by simp only [List.mem_cons] at hp ⊢; rcases hp with e | e | e <;> simp [e]
theorem flat_keys (ks : List (List UInt8)) : flatC (ks.map kCell) = ks.map fun k => Value.string (strOf k) := by
  induction ks with
  | nil => rfl
  | cons k r ih =>
    show [Value.string (strOf k)] ++ flatC (r.map kCell) = _
    rw [ih]; rfl
theorem keys_first {α : Type} (key : List UInt8) (l : List (List UInt8 × α)) : keysOf (firstK key l) = (keysOf l).set 0 key := by cases l <;> rfl
/-- The first key of a row of the call's own is written. -/
theorem own_key {w : World} {B : Nat} {e : TypeId} {v : Value} {n : Nat} {ks : List (List UInt8)} (h : w.ownsRow B e 1 v n (flatC (ks.map kCell))) (hn : 0 < n) (key : List UInt8) :
    ∃ g cap, v = .slice (some ⟨g, 0, none⟩) n cap ∧ B ≤ g ∧ n ≤ cap ∧ cap ≤ 9223372036854775807 ∧ w.cell? ⟨g, 0, none⟩ = some (.string (strOf (ks[0]?.getD []))) ∧ w.frozen? ⟨g, 0, none⟩ = false ∧
      (w.setCell ⟨g, 0, none⟩ (.string (strOf key))).ownsRow B e 1 v n (flatC ((ks.set 0 key).map kCell)) := by
  rcases h.2 with ⟨rfl, h0⟩ | ⟨g, cap, cur, rfl, hb, hg, hnc, hm, hc, ht⟩
  · omega
  · have hl := h.1
    rw [flat_keys, List.length_map] at hl
    refine ⟨g, cap, rfl, hb, hnc, by unfold maxLen at hm; omega, ?_, by simp [World.frozen?, hg], ?_⟩
    · have e : (cur.toList.take (n * 1))[0]? = cur.toList[0]? := List.getElem?_take_of_lt (by omega)
      rw [ht, flat_keys] at e
      simp only [World.cell?, hg]
      rw [← Array.getElem?_toList, ← e]
      simp [show 0 < ks.length by omega]
    · have := own_put h 0 (.string (strOf key)) (by omega)
      rw [flat_keys] at this ⊢
      rw [List.map_set]
      exact this
/-- Five cells of a block, written one by one. -/
def set5 (w : World) (b : Nat) (y0 y1 y2 y3 y4 : Value) : World := ((((w.setCell ⟨b, 0, none⟩ y0).setCell ⟨b, 1, none⟩ y1).setCell ⟨b, 2, none⟩ y2).setCell ⟨b, 3, none⟩ y3).setCell ⟨b, 4, none⟩ y4
theorem set5_box {w : World} {b : Nat} {x0 x1 x2 x3 x4 : Value} {l : List (Nat × List Value)} (h : Boxes w ((b, [x0, x1, x2, x3, x4]) :: l)) (hl : ∀ p ∈ l, p.1 ≠ b) (y0 y1 y2 y3 y4 : Value) : Boxes (set5 w b y0 y1 y2 y3 y4) ((b, [y0, y1, y2, y3, y4]) :: l) :=
  ((((h.put 0 y0 hl).put 1 y1 hl).put 2 y2 hl).put 3 y3 hl).put 4 y4 hl
theorem set5_own {w : World} {base : Nat} {e : TypeId} {size : Nat} {v : Value} {n : Nat} {xs : List Value} (h : w.ownsRow base e size v n xs) {b : Nat} (hb : v.ownBlock ≠ some b) (y0 y1 y2 y3 y4 : Value) : (set5 w b y0 y1 y2 y3 y4).ownsRow base e size v n xs :=
  own_set (own_set (own_set (own_set (own_set h ⟨b, 0, none⟩ y0 hb) ⟨b, 1, none⟩ y1 hb) ⟨b, 2, none⟩ y2 hb) ⟨b, 3, none⟩ y3 hb) ⟨b, 4, none⟩ y4 hb
theorem set5_below {B : Nat} {a w : World} (h : Below B a w) {b : Nat} (hb : B ≤ b) (y0 y1 y2 y3 y4 : Value) : Below B a (set5 w b y0 y1 y2 y3 y4) :=
  ((((h.setCell hb _).setCell hb _).setCell hb _).setCell hb _).setCell hb _
theorem keysOf_take {α : Type} (l : List (List UInt8 × α)) (k : Nat) : keysOf (l.take k) = (keysOf l).take k := by simp [keysOf]
theorem keysOf_drop {α : Type} (l : List (List UInt8 × α)) (k : Nat) : keysOf (l.drop k) = (keysOf l).drop k := by simp [keysOf]
theorem firstK_vals {α : Type} (key : List UInt8) (l : List (List UInt8 × α)) : (firstK key l).map (·.2) = l.map (·.2) := by cases l <;> rfl
theorem part_keys (k : Nat) (t : Tr) : (partT k t).1.keys = t.keys.take k ∧ (partT k t).2.1.keys = (if t.isLeaf then t.keys.drop k else (t.keys.drop k).set 0 []) ∧ (partT k t).2.2 = t.keys[k]?.getD [] ∧
    (partT k t).1.page = 0 ∧ (partT k t).2.1.page = 0 ∧ (partT k t).1.isLeaf = t.isLeaf ∧ (partT k t).2.1.isLeaf = t.isLeaf := by
  cases t with
  | leaf p l => exact ⟨keysOf_take _ _, keysOf_drop _ _, by simp [partT, keyAt, Tr.keys, keysOf], rfl, rfl, rfl, rfl⟩
  | node p l => exact ⟨keysOf_take _ _, by show keysOf (firstK [] (l.drop k)) = _; rw [keys_first, keysOf_drop]; rfl, by simp [partT, keyAt, Tr.keys, keysOf], rfl, rfl, rfl, rfl⟩
theorem partR {F : Nat → Prop} {n : Nat} {w : World} {t : Tr} {V : List (Cl 2)} {C : List (Cl 5)} (h : NodeRF F n w (t.keys.map kCell) V C t) (k : Nat) :
    NodeRF F n w ((partT k t).1.keys.map kCell) (V.take k) (C.take k) (partT k t).1 ∧ NodeRF F n w ((partT k t).2.1.keys.map kCell) (V.drop k) (C.drop k) (partT k t).2.1 := by
  cases t with
  | leaf p l =>
    obtain ⟨h1, h2, rfl⟩ := h
    exact ⟨⟨tells_keys _, by rw [List.map_take]; exact h2.take k, by simp⟩, ⟨tells_keys _, by rw [List.map_drop]; exact h2.drop k, by simp⟩⟩
  | node p l =>
    obtain ⟨h1, rfl, h2⟩ := h
    exact ⟨⟨tells_keys _, by simp, by rw [List.map_take]; exact h2.take k⟩, ⟨tells_keys _, by simp, by rw [firstK_vals, List.map_drop]; exact h2.drop k⟩⟩
theorem Raw.of_sl {sz : Nat} {w : World} {base : Nat} {e : TypeId} {a : Option Addr} {n c : Nat} {L : List (Cl sz)} (h : w.ownsRow base e sz (.slice a n c) n (flatC L)) (hn : L.length = n) : Raw sz w a n c L := by
  obtain ⟨a', c', e, hr⟩ := Raw.of_own h hn
  cases e; exact hr
theorem Raw.nil0 (sz : Nat) (w : World) : Raw sz w none 0 0 [] := ⟨rfl, Nat.le_refl _, by unfold maxLen; omega, fun _ => rfl, .inl rfl⟩
def PartPost (G : Nat → Prop) (n : Nat) (w : World) (a b : Tr) (key : List UInt8) (e : Ending) (w' : World) : Prop := ∃ ca cb, e = .returned (.tuple #[.agg ca.toArray, .agg cb.toArray, .string (strOf key)]) ∧ NodeOn G n w' ca a ∧ NodeOn G n w' cb b ∧ Below w.heap.size w w'
def zeroN (lf : Bool) (v : Value) : List Value := [.int .i64 0, .bool lf, v, .slice none 0 0, .slice none 0 0]
def PartBox (w : World) (N : List Value) (lf : Bool) (s7 s8 : Value) (wx : World) : Prop :=
  ∃ p q, s7 = .pointer (some ⟨p, 0, none⟩) ∧ s8 = .pointer (some ⟨q, 0, none⟩) ∧
    Boxes wx [(q, zeroN lf (.slice none 0 0)), (p, zeroN lf (.slice none 0 0)), (w.heap.size, N), (w.heap.size + 1, zeroN false (.slice none 0 0)), (w.heap.size + 2, zeroN false (.slice none 0 0))] ∧
    w.heap.size + 2 < p ∧ w.heap.size + 2 < q ∧ p ≠ q ∧ p < w.heap.size + 5 ∧ q < w.heap.size + 5 ∧ Below w.heap.size w wx ∧ wx.heap.size = w.heap.size + 5
theorem part_box (w : World) (N : Array Value) (lf : Bool) (t : TypeId) :
    Below w.heap.size w ((((((w.alloc (.cells N t)).alloc (.cells #[.int .i64 0, .bool false, .slice none 0 0, .slice none 0 0, .slice none 0 0] t)).alloc (.cells #[.int .i64 0, .bool false, .slice none 0 0, .slice none 0 0, .slice none 0 0] t)).alloc (.cells #[.int .i64 0, .bool lf, .slice none 0 0, .slice none 0 0, .slice none 0 0] t)).alloc (.cells #[.int .i64 0, .bool lf, .slice none 0 0, .slice none 0 0, .slice none 0 0] t)).drew) ∧
    ((((((w.alloc (.cells N t)).alloc (.cells #[.int .i64 0, .bool false, .slice none 0 0, .slice none 0 0, .slice none 0 0] t)).alloc (.cells #[.int .i64 0, .bool false, .slice none 0 0, .slice none 0 0, .slice none 0 0] t)).alloc (.cells #[.int .i64 0, .bool lf, .slice none 0 0, .slice none 0 0, .slice none 0 0] t)).alloc (.cells #[.int .i64 0, .bool lf, .slice none 0 0, .slice none 0 0, .slice none 0 0] t)).drew).heap.size = w.heap.size + 5 ∧
    Boxes ((((((w.alloc (.cells N t)).alloc (.cells #[.int .i64 0, .bool false, .slice none 0 0, .slice none 0 0, .slice none 0 0] t)).alloc (.cells #[.int .i64 0, .bool false, .slice none 0 0, .slice none 0 0, .slice none 0 0] t)).alloc (.cells #[.int .i64 0, .bool lf, .slice none 0 0, .slice none 0 0, .slice none 0 0] t)).alloc (.cells #[.int .i64 0, .bool lf, .slice none 0 0, .slice none 0 0, .slice none 0 0] t)).drew)
      [(w.heap.size + 4, zeroN lf (.slice none 0 0)), (w.heap.size + 3, zeroN lf (.slice none 0 0)), (w.heap.size, N.toList), (w.heap.size + 1, zeroN false (.slice none 0 0)), (w.heap.size + 2, zeroN false (.slice none 0 0))] := by
  refine ⟨(((((((Below.refl _ _).alloc (Nat.le_refl _) _).alloc (by simp) _).alloc (by simp; omega) _).alloc (by simp; omega) _).alloc (by simp; omega) _)).drew, by simp, ?_⟩
  have b0 := (Boxes.nil w).alloc N t rfl
  have b1 := b0.alloc #[.int .i64 0, .bool false, .slice none 0 0, .slice none 0 0, .slice none 0 0] t (b := w.heap.size + 1) (by simp)
  have b2 := b1.alloc #[.int .i64 0, .bool false, .slice none 0 0, .slice none 0 0, .slice none 0 0] t (b := w.heap.size + 2) (by simp)
  have b3 := b2.alloc #[.int .i64 0, .bool lf, .slice none 0 0, .slice none 0 0, .slice none 0 0] t (b := w.heap.size + 3) (by simp)
  have b4 := b3.alloc #[.int .i64 0, .bool lf, .slice none 0 0, .slice none 0 0, .slice none 0 0] t (b := w.heap.size + 4) (by simp)
  refine Boxes.sub b4.drew (fun x hx => ?_)
  simp only [List.mem_cons, List.not_mem_nil, or_false] at hx ⊢
  rcases hx with rfl | rfl | rfl | rfl | rfl
  · exact .inl rfl
  · exact .inr (.inl rfl)
  · exact .inr (.inr (.inr (.inr rfl)))
  · exact .inr (.inr (.inr (.inl rfl)))
  · exact .inr (.inr (.inl rfl))
set_option maxRecDepth 100000 in
set_option maxHeartbeats 4000000 in
theorem tpart_any {F : Nat → Prop} {n : Nat} {w : World} {cs : List Value} {t : Tr} (h : NodeOn F (n + 1) w cs t) (k : Nat) (h0 : 0 < k) (hk : k < cntT t) (hc : cntT t ≤ 1000) :
    Calls Tryz.prog 202 #[.agg cs.toArray, .int .i64 (k : Int)] w (PartPost (Fr F w) (n + 1) w (partT k t).1 (partT k t).2.1 (partT k t).2.2) := by
  obtain ⟨ka, kc, va, vn, vc, ca, cn, cc, V, C, rfl, h1, h2, h3, h4, _⟩ := h.open
  obtain ⟨lf, hlf⟩ : ∃ lf, t.isLeaf = lf := ⟨_, rfl⟩
  rw [hlf]
  obtain ⟨hB0, hS0, hX0⟩ := part_box w #[.int .i64 t.page, .bool lf, .slice ka (cntT t) kc, .slice va vn vc, .slice ca cn cc] lf 50
  have HLF := Lib.hid hlf
  have HB0 := Lib.hid hB0
  have HS0 := Lib.hid hS0
  have HX0 := Lib.hid hX0
  clear hlf hB0 hS0 hX0
  go_enter Tryz.func202, Tryz.ntmps202
  go_upto_region 1 with (fail)
  go_cut [7, 8] (fun s7 s8 wx => PartBox w [.int .i64 t.page, .bool lf, .slice ka (cntT t) kc, .slice va vn vc, .slice ca cn cc] lf s7 s8 wx)
  case first =>
    go_region
    · go_wp2_with fail
      go_meet
      exact ⟨_, _, rfl, rfl, HX0.out, by omega, by omega, by omega, by omega, by omega, HB0.out, HS0.out⟩
    · go_wp2_with fail
      go_meet
      exact ⟨_, _, rfl, rfl, HX0.out.swap, by omega, by omega, by omega, by omega, by omega, HB0.out, HS0.out⟩
  case rest =>
  unfold PartBox at hcut
  clear HB0 HS0 HX0
  obtain ⟨p, q, rfl, rfl, hbx, hp, hq, hpq, hp5, hq5, hb, hsz⟩ := hcut
  obtain ⟨e1, e2, e3⟩ := h1.lens
  have hRW : Raw 1 wc ka k kc ((t.keys.take k).map kCell) ∧ Raw 1 wc (if kc = k then ka else ka.map (·.add (k * 1))) (cntT t - k) (kc - k) ((t.keys.drop k).map kCell) := by
    rw [List.map_take, List.map_drop]
    exact ⟨Raw.below (TabR.tk h1 (show k ≤ cntT t by omega)) hb, Raw.below (TabR.dp h1 (show k ≤ cntT t by omega)) hb⟩
  obtain ⟨L1, hL1⟩ : ∃ L, (t.keys.take k).map kCell = L := ⟨_, rfl⟩
  obtain ⟨L2, hL2⟩ : ∃ L, (t.keys.drop k).map kCell = L := ⟨_, rfl⟩
  have hl2 : 0 < L2.length := by rw [← hL2, List.length_map, List.length_drop, keys_len]; omega
  rw [hL1, hL2] at hRW
  have HRW := hRW
  have HL1 := Lib.hid hL1
  have HL2 := Lib.hid hL2
  have HH1 := Lib.hid h1
  have HH2 := Lib.hid h2
  have HH3 := Lib.hid h3
  have HH4 := Lib.hid h4
  have HX := Lib.hid hbx
  have HBW := Lib.hid hb
  have hkc : k ≤ kc := by omega
  have hq6 : q < wc.heap.size := by omega
  have hp6 : p < wc.heap.size := by omega
  have hlt0 : w.heap.size < wc.heap.size := by omega
  have HSZ := Lib.hid hsz
  have HCN : Hid (t.keys.length = cntT t) := Lib.hid (keys_len t)
  clear hbx h1 h2 h3 h4 h e1 hb hsz hL1 hL2 hRW
  generalize hm : cntT t = m at *
  have HM := Lib.hid hm
  clear hm
  unfold zeroN at HX
  obtain ⟨a2, ha2, hsl⟩ := slice_from elem_s size_s ka m kc k (by omega)
  have hR1 : Raw _ wc ka k kc L1 := HRW.1
  have hR2 : Raw _ wc a2 (m - k) (kc - k) L2 := by rw [ha2]; exact HRW.2
  have HR2 := Lib.hid hR2
  have C1 := clone_s (hR1.below (Below.refl _ _).drew) (by omega)
  have hs0 : wc.drew.cell? ⟨w.heap.size, 2, none⟩ = some (.slice ka m kc) := HX.out.cell 2 2 rfl rfl
  have hC0 : Below wc.heap.size wc wc.drew := (Below.refl _ _).drew
  clear hR1 hR2 ha2 HRW
  go_wp2_with fail
  go_region_held3 (fun W => W.cell? ⟨w.heap.size, 2, none⟩ = some (.slice ka m kc)) (with_reducible assumption) (first | (go_at_call 203; (with_reducible refine C1.mono ?_); rintro e w1 hq1; obtain ⟨a3, c3, rfl, hc31, hc32, ho1, hb1⟩ := hq1.sl; have hB1 : Below wc.heap.size wc w1 := hC0.trans (hb1.mono hC0.size); have C2 := clone_s (HR2.out.below hB1) (by omega); have hs1 : w1.cell? ⟨w.heap.size, 2, none⟩ = some (.slice ka m kc) := (HX.out.step hB1).cell 2 2 rfl rfl) | (go_at_call 203; (with_reducible refine C2.mono ?_); rintro e w2 hq2; obtain ⟨a4, c4, rfl, hc41, hc42, ho2, hb2⟩ := hq2.sl; have hB2 : Below wc.heap.size wc w2 := hB1.trans (hb2.mono hB1.size); have HX2 := HX.out.step hB2; have g1 := HX2.cell 1 2 rfl rfl; have g2 := HX2.frozen 1 2 rfl; have g3 := HX2.cell 0 2 rfl rfl; have g4 := HX2.frozen 0 2 rfl; have HX3 : Boxes (w2.setCell ⟨p, 2, none⟩ (.slice a3 L1.length c3)) [(p, [.int .i64 0, .bool lf, .slice a3 L1.length c3, .slice none 0 0, .slice none 0 0]), (q, [.int .i64 0, .bool lf, .slice none 0 0, .slice none 0 0, .slice none 0 0]), (w.heap.size, [.int .i64 t.page, .bool lf, .slice ka m kc, .slice va vn vc, .slice ca cn cc]), (w.heap.size + 1, [.int .i64 0, .bool false, .slice none 0 0, .slice none 0 0, .slice none 0 0]), (w.heap.size + 2, [.int .i64 0, .bool false, .slice none 0 0, .slice none 0 0, .slice none 0 0])] := HX2.swap.put 2 (.slice a3 L1.length c3) (by intro x hx; simp at hx; rcases hx with rfl | rfl | rfl | rfl <;> simp <;> omega); have g5 := HX3.cell 1 2 rfl rfl; have g6 := HX3.frozen 1 2 rfl; have HX4 : Boxes ((w2.setCell ⟨p, 2, none⟩ (.slice a3 L1.length c3)).setCell ⟨q, 2, none⟩ (.slice a4 L2.length c4)) [(q, [.int .i64 0, .bool lf, .slice a4 L2.length c4, .slice none 0 0, .slice none 0 0]), (p, [.int .i64 0, .bool lf, .slice a3 L1.length c3, .slice none 0 0, .slice none 0 0]), (w.heap.size, [.int .i64 t.page, .bool lf, .slice ka m kc, .slice va vn vc, .slice ca cn cc]), (w.heap.size + 1, [.int .i64 0, .bool false, .slice none 0 0, .slice none 0 0, .slice none 0 0]), (w.heap.size + 2, [.int .i64 0, .bool false, .slice none 0 0, .slice none 0 0, .slice none 0 0])] := HX3.swap.put 2 (.slice a4 L2.length c4) (by intro x hx; simp at hx; rcases hx with rfl | rfl | rfl | rfl <;> simp <;> omega); have hs2 : w2.cell? ⟨w.heap.size, 2, none⟩ = some (.slice ka m kc) := HX2.cell 2 2 rfl rfl; have hs3 : (w2.setCell ⟨p, 2, none⟩ (.slice a3 L1.length c3)).cell? ⟨w.heap.size, 2, none⟩ = some (.slice ka m kc) := HX3.cell 2 2 rfl rfl; have hs4 : ((w2.setCell ⟨p, 2, none⟩ (.slice a3 L1.length c3)).setCell ⟨q, 2, none⟩ (.slice a4 L2.length c4)).cell? ⟨w.heap.size, 2, none⟩ = some (.slice ka m kc) := HX4.cell 2 2 rfl rfl))
  clear g1 g2 g3 g4 g5 g6 hs0 hs1 hs2 hs3 hs4 C1 C2 HX2 HX3 hsl
  have hp7 : p < w1.heap.size := by have := hB1.size; omega
  have hq7 : q < w1.heap.size := by have := hB1.size; omega
  have HO1 := Lib.hid (own_set (own_set (own_held ho1 hb2) ⟨p, 2, none⟩ (.slice a3 L1.length c3) (fun e => by have := own_ge ho1 _ e; simp at this; omega)) ⟨q, 2, none⟩ (.slice a4 L2.length c4) (fun e => by have := own_ge ho1 _ e; simp at this; omega))
  have HO2 := Lib.hid (own_set (own_set ho2 ⟨p, 2, none⟩ (.slice a3 L1.length c3) (fun e => by have := own_ge ho2 _ e; simp at this; omega)) ⟨q, 2, none⟩ (.slice a4 L2.length c4) (fun e => by have := own_ge ho2 _ e; simp at this; omega))
  have HNB : Hid (∀ g, Value.ownBlock (.slice a4 L2.length c4) = some g → Value.ownBlock (.slice a3 L1.length c3) ≠ some g) := Lib.hid (fun g h2 h1 => by have := own_ge ho2 _ h2; have := own_lt ho1 _ h1; omega)
  have hBW : Below w.heap.size w ((w2.setCell ⟨p, 2, none⟩ (.slice a3 L1.length c3)).setCell ⟨q, 2, none⟩ (.slice a4 L2.length c4)) := ((HBW.out.trans (hB2.mono HBW.out.size)).setCell (by simp; omega) _).setCell (by simp; omega) _
  have hB3 : Below wc.heap.size wc w2 := hB2
  have HY := Lib.hid HX4
  have HBX := Lib.hid hBW
  clear HX4 hBW
  obtain ⟨g, cg, eg, hgB, _, _, k1, k2, k3⟩ := own_key (ks := t.keys.drop k) (by rw [HL2.out]; exact HO2.out) hl2 []
  cases eg
  generalize hw3 : (w2.setCell ⟨p, 2, none⟩ (.slice a3 L1.length c3)).setCell ⟨q, 2, none⟩ (.slice (some ⟨g, 0, none⟩) L2.length c4) = w3 at *
  clear hw3
  have d1 := HY.out.cell 0 2 rfl rfl
  have d2 := HY.out.cell 2 1 rfl rfl
  have K3 := Lib.hid k3
  clear k2 k3
  have hp8 : p < w3.heap.size := HY.out.lt 1 rfl
  have hq8 : q < w3.heap.size := HY.out.lt 0 rfl
  cases lf with
  | true =>
    have hv := HH4.out.toR.lens.2.1
    rw [HLF.out, if_pos rfl, HM.out] at hv
    have hvn := HH2.out.1
    obtain rfl : vn = m := by omega
    obtain ⟨_, _, hvc⟩ := HH2.out.lens
    have hkvc : k ≤ vc := by have := HH2.out.2.1; omega
    have HRWv : Raw 2 w3 va k vc (V.take k) ∧ Raw 2 w3 (if vc = k then va else va.map (·.add (k * 2))) (vn - k) (vc - k) (V.drop k) :=
      ⟨Raw.below (TabR.tk HH2.out (show k ≤ vn by omega)) HBX.out, Raw.below (TabR.dp HH2.out (show k ≤ vn by omega)) HBX.out⟩
    obtain ⟨M1, hM1⟩ : ∃ L, V.take k = L := ⟨_, rfl⟩
    obtain ⟨M2, hM2⟩ : ∃ L, V.drop k = L := ⟨_, rfl⟩
    rw [hM1, hM2] at HRWv
    have HM1 := Lib.hid hM1
    have HM2 := Lib.hid hM2
    have HXv := HY
    have HBWv := HBX
    clear hM1 hM2 hv hvn
    obtain ⟨a2v, ha2v, hslv⟩ := slice_from elem_v size_v va vn vc k (by omega)
    have hR1v : Raw _ w3 va k vc M1 := HRWv.1
    have hR2v : Raw _ w3 a2v (vn - k) (vc - k) M2 := by rw [ha2v]; exact HRWv.2
    have HR2v := Lib.hid hR2v
    have C1v := clone_v (hR1v.below (Below.refl _ _).drew) (by omega)
    have hs0v : w3.drew.cell? ⟨w.heap.size, 3, none⟩ = some (.slice va vn vc) := HXv.out.cell 2 3 rfl rfl
    have hC0v : Below w3.heap.size w3 w3.drew := (Below.refl _ _).drew
    clear hR1v hR2v ha2v HRWv
    go_wp2_with fail
    go_region_held3 (fun W => W.cell? ⟨w.heap.size, 3, none⟩ = some (.slice va vn vc)) (with_reducible assumption) (first | (go_at_call 209; (with_reducible refine C1v.mono ?_); rintro e w1v hq1; obtain ⟨a3v, c3v, rfl, hc31v, hc32v, ho1v, hb1v⟩ := hq1.sl; have hB1v : Below w3.heap.size w3 w1v := hC0v.trans (hb1v.mono hC0v.size); have C2v := clone_v (HR2v.out.below hB1v) (by omega); have hs1v : w1v.cell? ⟨w.heap.size, 3, none⟩ = some (.slice va vn vc) := (HXv.out.step hB1v).cell 2 3 rfl rfl) | (go_at_call 209; (with_reducible refine C2v.mono ?_); rintro e w2v hq2; obtain ⟨a4v, c4v, rfl, hc41v, hc42v, ho2v, hb2v⟩ := hq2.sl; have hB2v : Below w3.heap.size w3 w2v := hB1v.trans (hb2v.mono hB1v.size); have HX2v := HXv.out.step hB2v; have g1 := HX2v.cell 1 3 rfl rfl; have g2 := HX2v.frozen 1 3 rfl; have g3 := HX2v.cell 0 3 rfl rfl; have g4 := HX2v.frozen 0 3 rfl; have HX3v : Boxes (w2v.setCell ⟨p, 3, none⟩ (.slice a3v M1.length c3v)) [(p, [.int .i64 0, .bool true, .slice a3 L1.length c3, .slice a3v M1.length c3v, .slice none 0 0]), (q, [.int .i64 0, .bool true, .slice (some ⟨g, 0, none⟩) L2.length c4, .slice none 0 0, .slice none 0 0]), (w.heap.size, [.int .i64 t.page, .bool true, .slice ka vn kc, .slice va vn vc, .slice ca cn cc]), (w.heap.size + 1, [.int .i64 0, .bool false, .slice none 0 0, .slice none 0 0, .slice none 0 0]), (w.heap.size + 2, [.int .i64 0, .bool false, .slice none 0 0, .slice none 0 0, .slice none 0 0])] := HX2v.swap.put 3 (.slice a3v M1.length c3v) (by intro x hx; simp at hx; rcases hx with rfl | rfl | rfl | rfl <;> simp <;> omega); have g5 := HX3v.cell 1 3 rfl rfl; have g6 := HX3v.frozen 1 3 rfl; have HX4v : Boxes ((w2v.setCell ⟨p, 3, none⟩ (.slice a3v M1.length c3v)).setCell ⟨q, 3, none⟩ (.slice a4v M2.length c4v)) [(q, [.int .i64 0, .bool true, .slice (some ⟨g, 0, none⟩) L2.length c4, .slice a4v M2.length c4v, .slice none 0 0]), (p, [.int .i64 0, .bool true, .slice a3 L1.length c3, .slice a3v M1.length c3v, .slice none 0 0]), (w.heap.size, [.int .i64 t.page, .bool true, .slice ka vn kc, .slice va vn vc, .slice ca cn cc]), (w.heap.size + 1, [.int .i64 0, .bool false, .slice none 0 0, .slice none 0 0, .slice none 0 0]), (w.heap.size + 2, [.int .i64 0, .bool false, .slice none 0 0, .slice none 0 0, .slice none 0 0])] := HX3v.swap.put 3 (.slice a4v M2.length c4v) (by intro x hx; simp at hx; rcases hx with rfl | rfl | rfl | rfl <;> simp <;> omega); have hs2 : w2v.cell? ⟨w.heap.size, 3, none⟩ = some (.slice va vn vc) := HX2v.cell 2 3 rfl rfl; have hs3 : (w2v.setCell ⟨p, 3, none⟩ (.slice a3v M1.length c3v)).cell? ⟨w.heap.size, 3, none⟩ = some (.slice va vn vc) := HX3v.cell 2 3 rfl rfl; have hs4 : ((w2v.setCell ⟨p, 3, none⟩ (.slice a3v M1.length c3v)).setCell ⟨q, 3, none⟩ (.slice a4v M2.length c4v)).cell? ⟨w.heap.size, 3, none⟩ = some (.slice va vn vc) := HX4v.cell 2 3 rfl rfl))
    clear g1 g2 g3 g4 g5 g6 hs0v hs1v hs2 hs3 hs4 C1v C2v HX2v HX3v hslv
    have hp7v : p < w1v.heap.size := by have := hB1v.size; omega
    have hq7v : q < w1v.heap.size := by have := hB1v.size; omega
    have HO1v := Lib.hid (own_set (own_set (own_held ho1v hb2v) ⟨p, 3, none⟩ (.slice a3v M1.length c3v) (fun e => by have := own_ge ho1v _ e; simp at this; omega)) ⟨q, 3, none⟩ (.slice a4v M2.length c4v) (fun e => by have := own_ge ho1v _ e; simp at this; omega))
    have HO2v := Lib.hid (own_set (own_set ho2v ⟨p, 3, none⟩ (.slice a3v M1.length c3v) (fun e => by have := own_ge ho2v _ e; simp at this; omega)) ⟨q, 3, none⟩ (.slice a4v M2.length c4v) (fun e => by have := own_ge ho2v _ e; simp at this; omega))
    have HNBv : Hid (∀ g, Value.ownBlock (.slice a4v M2.length c4v) = some g → Value.ownBlock (.slice a3v M1.length c3v) ≠ some g) := Lib.hid (fun g h2 h1 => by have := own_ge ho2v _ h2; have := own_lt ho1v _ h1; omega)
    have hBWv : Below w.heap.size w ((w2v.setCell ⟨p, 3, none⟩ (.slice a3v M1.length c3v)).setCell ⟨q, 3, none⟩ (.slice a4v M2.length c4v)) := ((HBWv.out.trans (hB2v.mono HBWv.out.size)).setCell (by simp; omega) _).setCell (by simp; omega) _
    have hB3v : Below w3.heap.size w3 w2v := hB2v
    have HYv := Lib.hid HX4v
    have HBXv := Lib.hid hBWv
    clear HX4v hBWv
    have hP3 : ∀ (base : Nat) (e : TypeId) (sz : Nat) (v : Value) (n : Nat) (xs : List Value), w3.ownsRow base e sz v n xs → p < base → q < base → ((w2v.setCell ⟨p, 3, none⟩ (.slice a3v M1.length c3v)).setCell ⟨q, 3, none⟩ (.slice a4v M2.length c4v)).ownsRow base e sz v n xs := by
      intro base e sz v n xs h h1 h2
      exact own_set (own_set (own_held h hB3v) ⟨p, 3, none⟩ _ (fun e => by have := own_ge h _ e; simp at this; omega)) ⟨q, 3, none⟩ _ (fun e => by have := own_ge h _ e; simp at this; omega)
    have P3 := Lib.hid hP3
    clear hP3
    generalize hw4 : (w2v.setCell ⟨p, 3, none⟩ (.slice a3v M1.length c3v)).setCell ⟨q, 3, none⟩ (.slice a4v M2.length c4v) = w4 at *
    clear hw4
    go_wp2_with fail
    have y00 := HYv.out.cell 0 0 rfl rfl
    have y01 := HYv.out.cell 0 1 rfl rfl
    have y02 := HYv.out.cell 0 2 rfl rfl
    have y03 := HYv.out.cell 0 3 rfl rfl
    have y04 := HYv.out.cell 0 4 rfl rfl
    have y10 := HYv.out.cell 1 0 rfl rfl
    have y11 := HYv.out.cell 1 1 rfl rfl
    have y12 := HYv.out.cell 1 2 rfl rfl
    have y13 := HYv.out.cell 1 3 rfl rfl
    have y14 := HYv.out.cell 1 4 rfl rfl
    have z30 : w4.cell? ⟨w.heap.size + 1, 0, none⟩ = _ := HYv.out.cell 3 0 rfl rfl
    have u30 : w4.frozen? ⟨w.heap.size + 1, 0, none⟩ = false := HYv.out.frozen 3 0 rfl
    have z31 : w4.cell? ⟨w.heap.size + 1, 1, none⟩ = _ := HYv.out.cell 3 1 rfl rfl
    have u31 : w4.frozen? ⟨w.heap.size + 1, 1, none⟩ = false := HYv.out.frozen 3 1 rfl
    have z32 : w4.cell? ⟨w.heap.size + 1, 2, none⟩ = _ := HYv.out.cell 3 2 rfl rfl
    have u32 : w4.frozen? ⟨w.heap.size + 1, 2, none⟩ = false := HYv.out.frozen 3 2 rfl
    have z33 : w4.cell? ⟨w.heap.size + 1, 3, none⟩ = _ := HYv.out.cell 3 3 rfl rfl
    have u33 : w4.frozen? ⟨w.heap.size + 1, 3, none⟩ = false := HYv.out.frozen 3 3 rfl
    have z34 : w4.cell? ⟨w.heap.size + 1, 4, none⟩ = _ := HYv.out.cell 3 4 rfl rfl
    have u34 : w4.frozen? ⟨w.heap.size + 1, 4, none⟩ = false := HYv.out.frozen 3 4 rfl
    have z40 : w4.cell? ⟨w.heap.size + 1 + 1, 0, none⟩ = _ := HYv.out.cell 4 0 rfl rfl
    have u40 : w4.frozen? ⟨w.heap.size + 1 + 1, 0, none⟩ = false := HYv.out.frozen 4 0 rfl
    have z41 : w4.cell? ⟨w.heap.size + 1 + 1, 1, none⟩ = _ := HYv.out.cell 4 1 rfl rfl
    have u41 : w4.frozen? ⟨w.heap.size + 1 + 1, 1, none⟩ = false := HYv.out.frozen 4 1 rfl
    have z42 : w4.cell? ⟨w.heap.size + 1 + 1, 2, none⟩ = _ := HYv.out.cell 4 2 rfl rfl
    have u42 : w4.frozen? ⟨w.heap.size + 1 + 1, 2, none⟩ = false := HYv.out.frozen 4 2 rfl
    have z43 : w4.cell? ⟨w.heap.size + 1 + 1, 3, none⟩ = _ := HYv.out.cell 4 3 rfl rfl
    have u43 : w4.frozen? ⟨w.heap.size + 1 + 1, 3, none⟩ = false := HYv.out.frozen 4 3 rfl
    have z44 : w4.cell? ⟨w.heap.size + 1 + 1, 4, none⟩ = _ := HYv.out.cell 4 4 rfl rfl
    have u44 : w4.frozen? ⟨w.heap.size + 1 + 1, 4, none⟩ = false := HYv.out.frozen 4 4 rfl
    have n1 : p ≠ w.heap.size + 1 := by omega
    have n2 : q ≠ w.heap.size + 1 := by omega
    go_region
    have hb1' : ∀ x ∈ ([(q, [.int .i64 0, .bool true, .slice (some ⟨g, 0, none⟩) L2.length c4, .slice a4v M2.length c4v, .slice none 0 0]), (p, [.int .i64 0, .bool true, .slice a3 L1.length c3, .slice a3v M1.length c3v, .slice none 0 0]), (w.heap.size, [.int .i64 t.page, .bool true, .slice ka vn kc, .slice va vn vc, .slice ca cn cc]), (w.heap.size + 1 + 1, [.int .i64 0, .bool false, .slice none 0 0, .slice none 0 0, .slice none 0 0])] : List (Nat × List Value)), x.1 ≠ w.heap.size + 1 := by intro x hx; simp at hx; rcases hx with rfl | rfl | rfl | rfl <;> simp <;> omega
    have hX5 := set5_box (w := w4) (b := w.heap.size + 1) (x0 := .int .i64 0) (x1 := .bool false) (x2 := .slice none 0 0) (x3 := .slice none 0 0) (x4 := .slice none 0 0) (l := [(q, [.int .i64 0, .bool true, .slice (some ⟨g, 0, none⟩) L2.length c4, .slice a4v M2.length c4v, .slice none 0 0]), (p, [.int .i64 0, .bool true, .slice a3 L1.length c3, .slice a3v M1.length c3v, .slice none 0 0]), (w.heap.size, [.int .i64 t.page, .bool true, .slice ka vn kc, .slice va vn vc, .slice ca cn cc]), (w.heap.size + 1 + 1, [.int .i64 0, .bool false, .slice none 0 0, .slice none 0 0, .slice none 0 0])]) (HYv.out.sub (by intro x hx; simp at hx; rcases hx with rfl | rfl | rfl | rfl | rfl <;> simp)) hb1' (.int .i64 0) (.bool true) (.slice a3 L1.length c3) (.slice a3v M1.length c3v) (.slice none 0 0)
    have hb2' : ∀ x ∈ ([(w.heap.size + 1, [.int .i64 0, .bool true, .slice a3 L1.length c3, .slice a3v M1.length c3v, .slice none 0 0])] : List (Nat × List Value)), x.1 ≠ w.heap.size + 1 + 1 := by intro x hx; simp at hx; rcases hx with rfl; simp
    have hX6 := set5_box (b := w.heap.size + 1 + 1) (x0 := .int .i64 0) (x1 := .bool false) (x2 := .slice none 0 0) (x3 := .slice none 0 0) (x4 := .slice none 0 0) (l := [(w.heap.size + 1, [.int .i64 0, .bool true, .slice a3 L1.length c3, .slice a3v M1.length c3v, .slice none 0 0])]) (hX5.sub (by intro x hx; simp at hx; rcases hx with rfl | rfl <;> simp)) hb2' (.int .i64 0) (.bool true) (.slice (some ⟨g, 0, none⟩) L2.length c4) (.slice a4v M2.length c4v) (.slice none 0 0)
    obtain ⟨w6, hw6⟩ : ∃ w6, set5 (set5 w4 (w.heap.size + 1) (.int .i64 0) (.bool true) (.slice a3 L1.length c3) (.slice a3v M1.length c3v) (.slice none 0 0)) (w.heap.size + 1 + 1) (.int .i64 0) (.bool true) (.slice (some ⟨g, 0, none⟩) L2.length c4) (.slice a4v M2.length c4v) (.slice none 0 0) = w6 := ⟨_, rfl⟩
    have hw6' := hw6
    unfold set5 at hw6'
    rw [hw6']
    rw [hw6] at hX6
    have HX6 := Lib.hid hX6
    have fin : ∀ (base : Nat) (e : TypeId) (sz : Nat) (a : Option Addr) (n c m : Nat) (xs : List Value), w4.ownsRow base e sz (.slice a n c) m xs → w.heap.size + 2 < base → w6.ownsRow base e sz (.slice a n c) m xs ∧ Fa (Fr F w) a n := by
      intro base e sz a n c m xs h hb
      rw [← hw6]
      refine ⟨?_, Fa.of_own h (Fr.new (show w.heap.size ≤ base by omega))⟩
      exact set5_own (set5_own h (fun e => by have := own_ge h _ e; omega) _ _ _ _ _) (fun e => by have := own_ge h _ e; omega) _ _ _ _ _
    have FIN := Lib.hid fin
    have HB6 : Hid (Below w.heap.size w w6.drew) := Lib.hid (by rw [← hw6]; exact (set5_below (set5_below HBXv.out (by omega) _ _ _ _ _) (by omega) _ _ _ _ _).drew)
    clear hb1' hb2' hX5 hX6 hw6 hw6' fin
    have r10 : w6.drew.cell? ⟨w.heap.size + 1, 0, none⟩ = _ := HX6.out.cell 1 0 rfl rfl
    have r11 : w6.drew.cell? ⟨w.heap.size + 1, 1, none⟩ = _ := HX6.out.cell 1 1 rfl rfl
    have r12 : w6.drew.cell? ⟨w.heap.size + 1, 2, none⟩ = _ := HX6.out.cell 1 2 rfl rfl
    have r13 : w6.drew.cell? ⟨w.heap.size + 1, 3, none⟩ = _ := HX6.out.cell 1 3 rfl rfl
    have r14 : w6.drew.cell? ⟨w.heap.size + 1, 4, none⟩ = _ := HX6.out.cell 1 4 rfl rfl
    have r00 : w6.drew.cell? ⟨w.heap.size + 1 + 1, 0, none⟩ = _ := HX6.out.cell 0 0 rfl rfl
    have r01 : w6.drew.cell? ⟨w.heap.size + 1 + 1, 1, none⟩ = _ := HX6.out.cell 0 1 rfl rfl
    have r02 : w6.drew.cell? ⟨w.heap.size + 1 + 1, 2, none⟩ = _ := HX6.out.cell 0 2 rfl rfl
    have r03 : w6.drew.cell? ⟨w.heap.size + 1 + 1, 3, none⟩ = _ := HX6.out.cell 0 3 rfl rfl
    have r04 : w6.drew.cell? ⟨w.heap.size + 1 + 1, 4, none⟩ = _ := HX6.out.cell 0 4 rfl rfl
    go_wp2_with fail
    refine bodyPost_ret (v := .tuple #[.agg #[.int .i64 0, .bool true, .slice a3 L1.length c3, .slice a3v M1.length c3v, .slice none 0 0], .agg #[.int .i64 0, .bool true, .slice (some ⟨g, 0, none⟩) L2.length c4, .slice a4v M2.length c4v, .slice none 0 0], .string (strOf (t.keys[k]?.getD []))]) (by simp [results, Tryz.results202, go_sem, r00, r01, r02, r03, r04, r10, r11, r12, r13, r14]) rfl ⟨[.int .i64 0, .bool true, .slice a3 L1.length c3, .slice a3v M1.length c3v, .slice none 0 0], [.int .i64 0, .bool true, .slice (some ⟨g, 0, none⟩) L2.length c4, .slice a4v M2.length c4v, .slice none 0 0], by rw [(part_keys k t).2.2.1], ?_, ?_, HB6.out⟩
    all_goals
      obtain ⟨q1, q2, q3, q4, q5, q6, q7⟩ := part_keys k t
      rw [HLF.out] at q2 q6 q7
      obtain ⟨rp1, rp2⟩ := partR ((HH4.out.below HB6.out).mono Fr.old) k
      have hC : C = [] := List.eq_nil_of_length_eq_zero (by have := HH4.out.toR.lens.2.2; rw [HLF.out] at this; simpa using this)
      rw [hC] at rp1 rp2
    · refine NodeOn.shut (K := L1) q4 q6 (by rw [q1]; exact HL1.out) (Raw.of_sl (FIN.out _ _ _ _ _ _ _ _ (P3.out _ _ _ _ _ _ HO1.out (by show p < wc.heap.size; omega) (by show q < wc.heap.size; omega)) (by show w.heap.size + 2 < wc.heap.size; omega)).1 rfl) (Raw.of_sl (FIN.out _ _ _ _ _ _ _ _ HO1v.out (by show w.heap.size + 2 < w3.heap.size; omega)).1 rfl) (Raw.nil0 _ _) (FIN.out _ _ _ _ _ _ _ _ (P3.out _ _ _ _ _ _ HO1.out (by show p < wc.heap.size; omega) (by show q < wc.heap.size; omega)) (by show w.heap.size + 2 < wc.heap.size; omega)).2 (FIN.out _ _ _ _ _ _ _ _ HO1v.out (by show w.heap.size + 2 < w3.heap.size; omega)).2 (Fa.zero _ _) ?_
      rw [← HM1.out]; simpa using rp1
    · refine NodeOn.shut (K := L2) q5 q7 (by rw [q2, if_pos rfl]; exact HL2.out) (Raw.of_sl (FIN.out _ _ _ _ _ _ _ _ (P3.out _ _ _ _ _ _ HO2.out (by omega) (by omega)) (by omega)).1 rfl) (Raw.of_sl (FIN.out _ _ _ _ _ _ _ _ HO2v.out (by omega)).1 rfl) (Raw.nil0 _ _) (FIN.out _ _ _ _ _ _ _ _ (P3.out _ _ _ _ _ _ HO2.out (by omega) (by omega)) (by omega)).2 (FIN.out _ _ _ _ _ _ _ _ HO2v.out (by omega)).2 (Fa.zero _ _) ?_
      rw [← HM2.out]; simpa using rp2
  | false =>
    have hv := HH4.out.toR.lens.2.2
    rw [HLF.out, if_neg (by simp), HM.out] at hv
    have hvn := HH3.out.1
    obtain rfl : cn = m := by omega
    obtain ⟨_, _, hvc⟩ := HH3.out.lens
    have hkvc : k ≤ cc := by have := HH3.out.2.1; omega
    have HRWn : Raw 5 w3 ca k cc (C.take k) ∧ Raw 5 w3 (if cc = k then ca else ca.map (·.add (k * 5))) (cn - k) (cc - k) (C.drop k) :=
      ⟨Raw.below (TabR.tk HH3.out (show k ≤ cn by omega)) HBX.out, Raw.below (TabR.dp HH3.out (show k ≤ cn by omega)) HBX.out⟩
    obtain ⟨M1, hM1⟩ : ∃ L, C.take k = L := ⟨_, rfl⟩
    obtain ⟨M2, hM2⟩ : ∃ L, C.drop k = L := ⟨_, rfl⟩
    rw [hM1, hM2] at HRWn
    have HM1 := Lib.hid hM1
    have HM2 := Lib.hid hM2
    have HXn := HY
    have HBWn := HBX
    clear hM1 hM2 hv hvn
    obtain ⟨a2n, ha2n, hsln⟩ := slice_from elem_n size_n ca cn cc k (by omega)
    have hR1n : Raw _ w3 ca k cc M1 := HRWn.1
    have hR2n : Raw _ w3 a2n (cn - k) (cc - k) M2 := by rw [ha2n]; exact HRWn.2
    have HR2n := Lib.hid hR2n
    have C1n := clone_n (hR1n.below (Below.refl _ _).drew) (by omega)
    have hs0n : w3.drew.cell? ⟨w.heap.size, 4, none⟩ = some (.slice ca cn cc) := HXn.out.cell 2 4 rfl rfl
    have hC0n : Below w3.heap.size w3 w3.drew := (Below.refl _ _).drew
    clear hR1n hR2n ha2n HRWn
    go_wp2_with fail
    go_region_held3 (fun W => W.cell? ⟨w.heap.size, 4, none⟩ = some (.slice ca cn cc)) (with_reducible assumption) (first | (go_at_call 210; (with_reducible refine C1n.mono ?_); rintro e w1n hq1; obtain ⟨a3n, c3n, rfl, hc31n, hc32n, ho1n, hb1n⟩ := hq1.sl; have hB1n : Below w3.heap.size w3 w1n := hC0n.trans (hb1n.mono hC0n.size); have C2n := clone_n (HR2n.out.below hB1n) (by omega); have hs1n : w1n.cell? ⟨w.heap.size, 4, none⟩ = some (.slice ca cn cc) := (HXn.out.step hB1n).cell 2 4 rfl rfl) | (go_at_call 210; (with_reducible refine C2n.mono ?_); rintro e w2n hq2; obtain ⟨a4n, c4n, rfl, hc41n, hc42n, ho2n, hb2n⟩ := hq2.sl; have hB2n : Below w3.heap.size w3 w2n := hB1n.trans (hb2n.mono hB1n.size); have HX2n := HXn.out.step hB2n; have g1 := HX2n.cell 1 4 rfl rfl; have g2 := HX2n.frozen 1 4 rfl; have g3 := HX2n.cell 0 4 rfl rfl; have g4 := HX2n.frozen 0 4 rfl; have HX3n : Boxes (w2n.setCell ⟨p, 4, none⟩ (.slice a3n M1.length c3n)) [(p, [.int .i64 0, .bool false, .slice a3 L1.length c3, .slice none 0 0, .slice a3n M1.length c3n]), (q, [.int .i64 0, .bool false, .slice (some ⟨g, 0, none⟩) L2.length c4, .slice none 0 0, .slice none 0 0]), (w.heap.size, [.int .i64 t.page, .bool false, .slice ka cn kc, .slice va vn vc, .slice ca cn cc]), (w.heap.size + 1, [.int .i64 0, .bool false, .slice none 0 0, .slice none 0 0, .slice none 0 0]), (w.heap.size + 2, [.int .i64 0, .bool false, .slice none 0 0, .slice none 0 0, .slice none 0 0])] := HX2n.swap.put 4 (.slice a3n M1.length c3n) (by intro x hx; simp at hx; rcases hx with rfl | rfl | rfl | rfl <;> simp <;> omega); have g5 := HX3n.cell 1 4 rfl rfl; have g6 := HX3n.frozen 1 4 rfl; have HX4n : Boxes ((w2n.setCell ⟨p, 4, none⟩ (.slice a3n M1.length c3n)).setCell ⟨q, 4, none⟩ (.slice a4n M2.length c4n)) [(q, [.int .i64 0, .bool false, .slice (some ⟨g, 0, none⟩) L2.length c4, .slice none 0 0, .slice a4n M2.length c4n]), (p, [.int .i64 0, .bool false, .slice a3 L1.length c3, .slice none 0 0, .slice a3n M1.length c3n]), (w.heap.size, [.int .i64 t.page, .bool false, .slice ka cn kc, .slice va vn vc, .slice ca cn cc]), (w.heap.size + 1, [.int .i64 0, .bool false, .slice none 0 0, .slice none 0 0, .slice none 0 0]), (w.heap.size + 2, [.int .i64 0, .bool false, .slice none 0 0, .slice none 0 0, .slice none 0 0])] := HX3n.swap.put 4 (.slice a4n M2.length c4n) (by intro x hx; simp at hx; rcases hx with rfl | rfl | rfl | rfl <;> simp <;> omega); have hs2 : w2n.cell? ⟨w.heap.size, 4, none⟩ = some (.slice ca cn cc) := HX2n.cell 2 4 rfl rfl; have hs3 : (w2n.setCell ⟨p, 4, none⟩ (.slice a3n M1.length c3n)).cell? ⟨w.heap.size, 4, none⟩ = some (.slice ca cn cc) := HX3n.cell 2 4 rfl rfl; have hs4 : ((w2n.setCell ⟨p, 4, none⟩ (.slice a3n M1.length c3n)).setCell ⟨q, 4, none⟩ (.slice a4n M2.length c4n)).cell? ⟨w.heap.size, 4, none⟩ = some (.slice ca cn cc) := HX4n.cell 2 4 rfl rfl))
    clear g1 g2 g3 g4 g5 g6 hs0n hs1n hs2 hs3 hs4 C1n C2n HX2n HX3n hsln
    have hp7n : p < w1n.heap.size := by have := hB1n.size; omega
    have hq7n : q < w1n.heap.size := by have := hB1n.size; omega
    have HO1n := Lib.hid (own_set (own_set (own_held ho1n hb2n) ⟨p, 4, none⟩ (.slice a3n M1.length c3n) (fun e => by have := own_ge ho1n _ e; simp at this; omega)) ⟨q, 4, none⟩ (.slice a4n M2.length c4n) (fun e => by have := own_ge ho1n _ e; simp at this; omega))
    have HO2n := Lib.hid (own_set (own_set ho2n ⟨p, 4, none⟩ (.slice a3n M1.length c3n) (fun e => by have := own_ge ho2n _ e; simp at this; omega)) ⟨q, 4, none⟩ (.slice a4n M2.length c4n) (fun e => by have := own_ge ho2n _ e; simp at this; omega))
    have HNBn : Hid (∀ g, Value.ownBlock (.slice a4n M2.length c4n) = some g → Value.ownBlock (.slice a3n M1.length c3n) ≠ some g) := Lib.hid (fun g h2 h1 => by have := own_ge ho2n _ h2; have := own_lt ho1n _ h1; omega)
    have hBWn : Below w.heap.size w ((w2n.setCell ⟨p, 4, none⟩ (.slice a3n M1.length c3n)).setCell ⟨q, 4, none⟩ (.slice a4n M2.length c4n)) := ((HBWn.out.trans (hB2n.mono HBWn.out.size)).setCell (by simp; omega) _).setCell (by simp; omega) _
    have hB3n : Below w3.heap.size w3 w2n := hB2n
    have HYn := Lib.hid HX4n
    have HBXn := Lib.hid hBWn
    clear HX4n hBWn
    have hP3 : ∀ (base : Nat) (e : TypeId) (sz : Nat) (v : Value) (n : Nat) (xs : List Value), w3.ownsRow base e sz v n xs → p < base → q < base → ((w2n.setCell ⟨p, 4, none⟩ (.slice a3n M1.length c3n)).setCell ⟨q, 4, none⟩ (.slice a4n M2.length c4n)).ownsRow base e sz v n xs := by
      intro base e sz v n xs h h1 h2
      exact own_set (own_set (own_held h hB3n) ⟨p, 4, none⟩ _ (fun e => by have := own_ge h _ e; simp at this; omega)) ⟨q, 4, none⟩ _ (fun e => by have := own_ge h _ e; simp at this; omega)
    have P3 := Lib.hid hP3
    clear hP3
    generalize hw4 : (w2n.setCell ⟨p, 4, none⟩ (.slice a3n M1.length c3n)).setCell ⟨q, 4, none⟩ (.slice a4n M2.length c4n) = w4 at *
    clear hw4
    have hO2 := P3.out _ _ _ _ _ _ HO2.out (by omega) (by omega)
    have hO1 := P3.out _ _ _ _ _ _ HO1.out (by show p < wc.heap.size; omega) (by show q < wc.heap.size; omega)
    obtain ⟨g', c', eg', hg', _, _, k1', k2', k3'⟩ := own_key (ks := t.keys.drop k) (by rw [HL2.out]; exact hO2) hl2 []
    cases eg'
    have hlt := own_lt HO2.out _ rfl
    have hg5 : p < g ∧ q < g ∧ g < w3.heap.size := ⟨by omega, by omega, hlt⟩
    have hO1' := own_set hO1 ⟨g, 0, none⟩ (.string (strOf [])) (HNB.out g rfl)
    have hV1' := own_set HO1n.out ⟨g, 0, none⟩ (.string (strOf [])) (fun e => by have h9 : w3.heap.size ≤ g := own_ge HO1n.out g e; omega)
    have hV2' := own_set HO2n.out ⟨g, 0, none⟩ (.string (strOf [])) (fun e => by have h9 : w1n.heap.size ≤ g := own_ge HO2n.out g e; have := hB1n.size; omega)
    have hY' := HYn.out.set ⟨g, 0, none⟩ (.string (strOf [])) (by intro x hx; simp at hx; rcases hx with rfl | rfl | rfl | rfl | rfl <;> simp <;> omega)
    have hB' := HBXn.out.setCell (p := ⟨g, 0, none⟩) (show w.heap.size ≤ g by omega) (.string (strOf []))
    have A1 := Lib.hid hO1'
    have A2 := Lib.hid k3'
    have A3 := Lib.hid hV1'
    have A4 := Lib.hid hV2'
    have A5 := Lib.hid hY'
    have A6 := Lib.hid hB'
    have d4 := HYn.out.cell 0 2 rfl rfl
    clear hO1' k3' hV1' hV2' hY' hB' hO2 hO1
    go_wp2_with fail
    generalize hw5 : w4.setCell ⟨g, 0, none⟩ (.string ⟨#[]⟩) = w5 at *
    have B1 : Hid (w5.ownsRow _ _ _ _ _ _) := Lib.hid (hw5 ▸ A1.out)
    have B2 : Hid (w5.ownsRow _ _ _ _ _ _) := Lib.hid (hw5 ▸ A2.out)
    have B3 : Hid (w5.ownsRow _ _ _ _ _ _) := Lib.hid (hw5 ▸ A3.out)
    have B4 : Hid (w5.ownsRow _ _ _ _ _ _) := Lib.hid (hw5 ▸ A4.out)
    have B5 : Hid (Boxes w5 _) := Lib.hid (hw5 ▸ A5.out)
    have B6 : Hid (Below _ _ w5) := Lib.hid (hw5 ▸ A6.out)
    clear hw5 A1 A2 A3 A4 A5 A6
    have y00 := B5.out.cell 0 0 rfl rfl
    have y01 := B5.out.cell 0 1 rfl rfl
    have y02 := B5.out.cell 0 2 rfl rfl
    have y03 := B5.out.cell 0 3 rfl rfl
    have y04 := B5.out.cell 0 4 rfl rfl
    have y10 := B5.out.cell 1 0 rfl rfl
    have y11 := B5.out.cell 1 1 rfl rfl
    have y12 := B5.out.cell 1 2 rfl rfl
    have y13 := B5.out.cell 1 3 rfl rfl
    have y14 := B5.out.cell 1 4 rfl rfl
    have z30 : w5.cell? ⟨w.heap.size + 1, 0, none⟩ = _ := B5.out.cell 3 0 rfl rfl
    have u30 : w5.frozen? ⟨w.heap.size + 1, 0, none⟩ = false := B5.out.frozen 3 0 rfl
    have z31 : w5.cell? ⟨w.heap.size + 1, 1, none⟩ = _ := B5.out.cell 3 1 rfl rfl
    have u31 : w5.frozen? ⟨w.heap.size + 1, 1, none⟩ = false := B5.out.frozen 3 1 rfl
    have z32 : w5.cell? ⟨w.heap.size + 1, 2, none⟩ = _ := B5.out.cell 3 2 rfl rfl
    have u32 : w5.frozen? ⟨w.heap.size + 1, 2, none⟩ = false := B5.out.frozen 3 2 rfl
    have z33 : w5.cell? ⟨w.heap.size + 1, 3, none⟩ = _ := B5.out.cell 3 3 rfl rfl
    have u33 : w5.frozen? ⟨w.heap.size + 1, 3, none⟩ = false := B5.out.frozen 3 3 rfl
    have z34 : w5.cell? ⟨w.heap.size + 1, 4, none⟩ = _ := B5.out.cell 3 4 rfl rfl
    have u34 : w5.frozen? ⟨w.heap.size + 1, 4, none⟩ = false := B5.out.frozen 3 4 rfl
    have z40 : w5.cell? ⟨w.heap.size + 1 + 1, 0, none⟩ = _ := B5.out.cell 4 0 rfl rfl
    have u40 : w5.frozen? ⟨w.heap.size + 1 + 1, 0, none⟩ = false := B5.out.frozen 4 0 rfl
    have z41 : w5.cell? ⟨w.heap.size + 1 + 1, 1, none⟩ = _ := B5.out.cell 4 1 rfl rfl
    have u41 : w5.frozen? ⟨w.heap.size + 1 + 1, 1, none⟩ = false := B5.out.frozen 4 1 rfl
    have z42 : w5.cell? ⟨w.heap.size + 1 + 1, 2, none⟩ = _ := B5.out.cell 4 2 rfl rfl
    have u42 : w5.frozen? ⟨w.heap.size + 1 + 1, 2, none⟩ = false := B5.out.frozen 4 2 rfl
    have z43 : w5.cell? ⟨w.heap.size + 1 + 1, 3, none⟩ = _ := B5.out.cell 4 3 rfl rfl
    have u43 : w5.frozen? ⟨w.heap.size + 1 + 1, 3, none⟩ = false := B5.out.frozen 4 3 rfl
    have z44 : w5.cell? ⟨w.heap.size + 1 + 1, 4, none⟩ = _ := B5.out.cell 4 4 rfl rfl
    have u44 : w5.frozen? ⟨w.heap.size + 1 + 1, 4, none⟩ = false := B5.out.frozen 4 4 rfl
    have n1 : p ≠ w.heap.size + 1 := by omega
    have n2 : q ≠ w.heap.size + 1 := by omega
    go_region
    have hb1' : ∀ x ∈ ([(q, [.int .i64 0, .bool false, .slice (some ⟨g, 0, none⟩) L2.length c4, .slice none 0 0, .slice a4n M2.length c4n]), (p, [.int .i64 0, .bool false, .slice a3 L1.length c3, .slice none 0 0, .slice a3n M1.length c3n]), (w.heap.size, [.int .i64 t.page, .bool false, .slice ka cn kc, .slice va vn vc, .slice ca cn cc]), (w.heap.size + 1 + 1, [.int .i64 0, .bool false, .slice none 0 0, .slice none 0 0, .slice none 0 0])] : List (Nat × List Value)), x.1 ≠ w.heap.size + 1 := by intro x hx; simp at hx; rcases hx with rfl | rfl | rfl | rfl <;> simp <;> omega
    have hX5 := set5_box (w := w5) (b := w.heap.size + 1) (x0 := .int .i64 0) (x1 := .bool false) (x2 := .slice none 0 0) (x3 := .slice none 0 0) (x4 := .slice none 0 0) (l := [(q, [.int .i64 0, .bool false, .slice (some ⟨g, 0, none⟩) L2.length c4, .slice none 0 0, .slice a4n M2.length c4n]), (p, [.int .i64 0, .bool false, .slice a3 L1.length c3, .slice none 0 0, .slice a3n M1.length c3n]), (w.heap.size, [.int .i64 t.page, .bool false, .slice ka cn kc, .slice va vn vc, .slice ca cn cc]), (w.heap.size + 1 + 1, [.int .i64 0, .bool false, .slice none 0 0, .slice none 0 0, .slice none 0 0])]) (B5.out.sub (by intro x hx; simp at hx; rcases hx with rfl | rfl | rfl | rfl | rfl <;> simp)) hb1' (.int .i64 0) (.bool false) (.slice a3 L1.length c3) (.slice none 0 0) (.slice a3n M1.length c3n)
    have hb2' : ∀ x ∈ ([(w.heap.size + 1, [.int .i64 0, .bool false, .slice a3 L1.length c3, .slice none 0 0, .slice a3n M1.length c3n])] : List (Nat × List Value)), x.1 ≠ w.heap.size + 1 + 1 := by intro x hx; simp at hx; rcases hx with rfl; simp
    have hX6 := set5_box (b := w.heap.size + 1 + 1) (x0 := .int .i64 0) (x1 := .bool false) (x2 := .slice none 0 0) (x3 := .slice none 0 0) (x4 := .slice none 0 0) (l := [(w.heap.size + 1, [.int .i64 0, .bool false, .slice a3 L1.length c3, .slice none 0 0, .slice a3n M1.length c3n])]) (hX5.sub (by intro x hx; simp at hx; rcases hx with rfl | rfl <;> simp)) hb2' (.int .i64 0) (.bool false) (.slice (some ⟨g, 0, none⟩) L2.length c4) (.slice none 0 0) (.slice a4n M2.length c4n)
    obtain ⟨w6, hw6⟩ : ∃ w6, set5 (set5 w5 (w.heap.size + 1) (.int .i64 0) (.bool false) (.slice a3 L1.length c3) (.slice none 0 0) (.slice a3n M1.length c3n)) (w.heap.size + 1 + 1) (.int .i64 0) (.bool false) (.slice (some ⟨g, 0, none⟩) L2.length c4) (.slice none 0 0) (.slice a4n M2.length c4n) = w6 := ⟨_, rfl⟩
    have hw6' := hw6
    unfold set5 at hw6'
    rw [hw6']
    rw [hw6] at hX6
    have HX6 := Lib.hid hX6
    have fin : ∀ (base : Nat) (e : TypeId) (sz : Nat) (a : Option Addr) (n c m : Nat) (xs : List Value), w5.ownsRow base e sz (.slice a n c) m xs → w.heap.size + 2 < base → w6.ownsRow base e sz (.slice a n c) m xs ∧ Fa (Fr F w) a n := by
      intro base e sz a n c m xs h hb
      rw [← hw6]
      refine ⟨?_, Fa.of_own h (Fr.new (show w.heap.size ≤ base by omega))⟩
      exact set5_own (set5_own h (fun e => by have := own_ge h _ e; omega) _ _ _ _ _) (fun e => by have := own_ge h _ e; omega) _ _ _ _ _
    have FIN := Lib.hid fin
    have HB6 : Hid (Below w.heap.size w w6.drew) := Lib.hid (by rw [← hw6]; exact (set5_below (set5_below B6.out (by omega) _ _ _ _ _) (by omega) _ _ _ _ _).drew)
    clear hb1' hb2' hX5 hX6 hw6 hw6' fin
    have r10 : w6.drew.cell? ⟨w.heap.size + 1, 0, none⟩ = _ := HX6.out.cell 1 0 rfl rfl
    have r11 : w6.drew.cell? ⟨w.heap.size + 1, 1, none⟩ = _ := HX6.out.cell 1 1 rfl rfl
    have r12 : w6.drew.cell? ⟨w.heap.size + 1, 2, none⟩ = _ := HX6.out.cell 1 2 rfl rfl
    have r13 : w6.drew.cell? ⟨w.heap.size + 1, 3, none⟩ = _ := HX6.out.cell 1 3 rfl rfl
    have r14 : w6.drew.cell? ⟨w.heap.size + 1, 4, none⟩ = _ := HX6.out.cell 1 4 rfl rfl
    have r00 : w6.drew.cell? ⟨w.heap.size + 1 + 1, 0, none⟩ = _ := HX6.out.cell 0 0 rfl rfl
    have r01 : w6.drew.cell? ⟨w.heap.size + 1 + 1, 1, none⟩ = _ := HX6.out.cell 0 1 rfl rfl
    have r02 : w6.drew.cell? ⟨w.heap.size + 1 + 1, 2, none⟩ = _ := HX6.out.cell 0 2 rfl rfl
    have r03 : w6.drew.cell? ⟨w.heap.size + 1 + 1, 3, none⟩ = _ := HX6.out.cell 0 3 rfl rfl
    have r04 : w6.drew.cell? ⟨w.heap.size + 1 + 1, 4, none⟩ = _ := HX6.out.cell 0 4 rfl rfl
    go_wp2_with fail
    refine bodyPost_ret (v := .tuple #[.agg #[.int .i64 0, .bool false, .slice a3 L1.length c3, .slice none 0 0, .slice a3n M1.length c3n], .agg #[.int .i64 0, .bool false, .slice (some ⟨g, 0, none⟩) L2.length c4, .slice none 0 0, .slice a4n M2.length c4n], .string (strOf (t.keys[k]?.getD []))]) (by simp [results, Tryz.results202, go_sem, r00, r01, r02, r03, r04, r10, r11, r12, r13, r14]) rfl ⟨[.int .i64 0, .bool false, .slice a3 L1.length c3, .slice none 0 0, .slice a3n M1.length c3n], [.int .i64 0, .bool false, .slice (some ⟨g, 0, none⟩) L2.length c4, .slice none 0 0, .slice a4n M2.length c4n], by rw [(part_keys k t).2.2.1], ?_, ?_, HB6.out⟩
    all_goals
      obtain ⟨q1, q2, q3, q4, q5, q6, q7⟩ := part_keys k t
      rw [HLF.out] at q2 q6 q7
      obtain ⟨rp1, rp2⟩ := partR ((HH4.out.below HB6.out).mono Fr.old) k
      have hC : V = [] := List.eq_nil_of_length_eq_zero (by have := HH4.out.toR.lens.2.1; rw [HLF.out] at this; simpa using this)
      rw [hC] at rp1 rp2
    · refine NodeOn.shut (K := L1) q4 q6 (by rw [q1]; exact HL1.out) (Raw.of_sl (FIN.out _ _ _ _ _ _ _ _ B1.out (by show w.heap.size + 2 < wc.heap.size; omega)).1 rfl) (Raw.nil0 _ _) (Raw.of_sl (FIN.out _ _ _ _ _ _ _ _ B3.out (by show w.heap.size + 2 < w3.heap.size; omega)).1 rfl) (FIN.out _ _ _ _ _ _ _ _ B1.out (by show w.heap.size + 2 < wc.heap.size; omega)).2 (Fa.zero _ _) (FIN.out _ _ _ _ _ _ _ _ B3.out (by show w.heap.size + 2 < w3.heap.size; omega)).2 ?_
      rw [← HM1.out]; simpa using rp1
    · refine NodeOn.shut (K := ((t.keys.drop k).set 0 []).map kCell) q5 q7 (by rw [q2]; rfl) (Raw.of_sl (FIN.out _ _ _ _ _ _ _ _ B2.out (by omega)).1 (by rw [List.length_map, List.length_set, ← HL2.out, List.length_map])) (Raw.nil0 _ _) (Raw.of_sl (FIN.out _ _ _ _ _ _ _ _ B4.out (by omega)).1 rfl) (FIN.out _ _ _ _ _ _ _ _ B2.out (by omega)).2 (Fa.zero _ _) (FIN.out _ _ _ _ _ _ _ _ B4.out (by omega)).2 ?_
      rw [← HM2.out]; simpa using rp2
end Go.Proofs.YtpghlmcoajaiiaaGreatDoor
