/- Texts that other texts of this claim lean on, one behind the other. -/
import Derived.Test.YtpghlmcoajaiiaaGreatDoorM1
import Derived.Test.YtpghlmcoajaiiaaGreatDoorM2
import Derived.Test.YtpghlmcoajaiiaaGreatDoorM5
import Derived.Lib.Builder
import Derived.Lib.UnsafeStr
import Derived.Laws.Externs
import Derived.Shelf.RegionOpenPlain
import Derived.Deep.RegionHeld3
import Derived.Laws.BitsAllLaws
import Derived.Lib.ConvBytes
/- strings.Builder: what is written stands in it. -/
namespace Go.Proofs.YtpghlmcoajaiiaaGreatDoor
open Go.RowKit

/-- A builder at block b, whose bytes stand at block R or behind. -/
def Bd (R b : Nat) (w : World) (l : List UInt8) : Prop :=
  ∃ ad v, w.heap[b]? = some (.cells #[.pointer ad, v] 160 (0, 0)) ∧ (ad = none ∨ ad = some ⟨b, 0, none⟩) ∧ w.ownsRow R 5 1 v l.length ((toI l).map (Value.int .u8)) ∧ v.ownBlock ≠ some b ∧ R ≤ w.heap.size
/-- What a write leaves. -/
def BdStay (R b : Nat) (w w' : World) : Prop := (∀ B, B ≤ b → B ≤ R → Below B w w') ∧ AgreeF (fun x => x ≠ b ∧ x < R) w w' ∧ w.heap.size ≤ w'.heap.size
theorem info_bld : (Tryz.prog.info? 160).map (·.size) = some 2 := by kernel_rfl
theorem lies_bld : liesAt Tryz.prog Tryz.prog.depth 160 (2 / Tryz.prog.cellsOf 160) 0 160 1 = true := by kernel_rfl
set_option maxRecDepth 100000 in
theorem copyCheck_nil {b : Nat} {w : World} {v : Value} (h : w.heap[b]? = some (.cells #[.pointer none, v] 160 (0, 0))) :
    Calls Tryz.prog 111 #[.pointer (some ⟨b, 0, none⟩)] w fun e w' => e = .returned (.tuple #[]) ∧ w.setCell ⟨b, 0, none⟩ (.pointer (some ⟨b, 0, none⟩)) = w' := by
  obtain ⟨j, hj, hjs⟩ := Option.map_eq_some_iff.1 info_bld
  have hsh : w.shape? b = some (160, 2) := by simp [World.shape?, h]
  have h0 : w.cell? ⟨b, 0, none⟩ = some (.pointer none) := by simp [World.cell?, h]
  have f0 : w.frozen? ⟨b, 0, none⟩ = false := by simp [World.frozen?, h]
  have r1 := Lib.run_to_unsafe (P := Tryz.prog) w (src := 158) (dst := 288) ⟨b, 0, none⟩ Tryz.underlying158 Tryz.underlying288 hj (by rw [hjs]; decide) hsh (Nat.zero_lt_succ 1)
  have r2 := Lib.run_from_unsafe (P := Tryz.prog) w (src := 288) (dst := 158) ⟨b, 0, none⟩ Tryz.underlying288 Tryz.underlying158 hj hsh lies_bld
  clear hsh h
  go_enter Tryz.func111, Tryz.ntmps111
  go_wp2_with fail
  rw [run_callFunc_extern Tryz.func152 (by kernel_rfl) (by kernel_rfl) (by kernel_rfl) (e := Extern.AbiNoEscape.same) (by kernel_rfl)]
  rw [Lib.run_noEscape]
  simp only [Result.andThen]
  rw [Oper.upon_value]
  go_wp2
  go_end0
  exact ⟨rfl, rfl⟩
set_option maxRecDepth 100000 in
theorem copyCheck_own {b : Nat} {w : World} {v : Value} (h : w.heap[b]? = some (.cells #[.pointer (some ⟨b, 0, none⟩), v] 160 (0, 0))) :
    Calls Tryz.prog 111 #[.pointer (some ⟨b, 0, none⟩)] w fun e w' => e = .returned (.tuple #[]) ∧ w = w' := by
  obtain ⟨j, hj, hjs⟩ := Option.map_eq_some_iff.1 info_bld
  have h0 : w.cell? ⟨b, 0, none⟩ = some (.pointer (some ⟨b, 0, none⟩)) := by simp [World.cell?, h]
  have r1 := Lib.run_neq_ptr_same (P := Tryz.prog) w (tp := 158) ⟨b, 0, none⟩ Tryz.underlying158 hj
  clear h
  go_enter Tryz.func111, Tryz.ntmps111
  go_wp2_with fail
  go_end0
  exact ⟨rfl, rfl⟩
theorem bd_cell {w : World} {b : Nat} {x y : Value} (h : w.heap[b]? = some (.cells #[x, y] 160 (0, 0))) : w.cell? ⟨b, 0, none⟩ = some x ∧ w.cell? ⟨b, 1, none⟩ = some y ∧ w.frozen? ⟨b, 0, none⟩ = false ∧ w.frozen? ⟨b, 1, none⟩ = false ∧ b < w.heap.size :=
  ⟨by simp [World.cell?, h], by simp [World.cell?, h], by simp [World.frozen?, h], by simp [World.frozen?, h], (Array.getElem?_eq_some_iff.1 h).1⟩
theorem bd_set {w : World} {b : Nat} {x y : Value} (h : w.heap[b]? = some (.cells #[x, y] 160 (0, 0))) (i : Nat) (u : Value) :
    (w.setCell ⟨b, i, none⟩ u).heap[b]? = some (.cells (#[x, y].setIfInBounds i u) 160 (0, 0)) := by
  rw [heap_setCell_at i u h]
theorem row_agree {k : IntKind} {w w' : World} {a : Option Addr} {n c : Nat} {l : List Int} {F : Nat → Prop} (h : Row k w a n c l) (ha : AgreeF F w w') (hF : ∀ x, a = some x → F x.block) : Row k w' a n c l := by
  obtain ⟨h1, h2, h3, h4, h5⟩ := h
  refine ⟨h1, h2, h3, h4, h5.imp id ?_⟩
  rintro ⟨b, off, rfl, hb, hc⟩
  exact ⟨b, off, rfl, Nat.lt_of_lt_of_le hb ha.1, fun i hi => (ha.cell (hF _ rfl) hb).trans (hc i hi)⟩
set_option maxRecDepth 100000 in
theorem bwrite_own {R b : Nat} {w : World} {v : Value} {l m : List UInt8} (hR : R ≤ w.heap.size) (hbk : w.heap[b]? = some (.cells #[.pointer (some ⟨b, 0, none⟩), v] 160 (0, 0))) (hown : w.ownsRow R 5 1 v l.length ((toI l).map (Value.int .u8))) (hne : v.ownBlock ≠ some b)
    {pa : Option Addr} {pn pc : Nat} (hp : Bs w pa pn pc m) (hsz : l.length + pn ≤ 140737488355328) (w0 : World) (C0 : Calls Tryz.prog 111 #[.pointer (some ⟨b, 0, none⟩)] w0 fun e w' => e = .returned (.tuple #[]) ∧ w = w') :
    Calls Tryz.prog 63 #[.pointer (some ⟨b, 0, none⟩), .slice pa pn pc] w0 fun e w' => e = .returned (.tuple #[.int .i64 pn, .nilIface]) ∧ Bd R b w' (l ++ m) ∧ BdStay R b w w' := by
  obtain ⟨i0, hi, hz0, hz1, hz2⟩ := info_parts info_u8
  have hlt := (bd_cell hbk).2.2.2.2
  obtain ⟨v2, w2, hr2, ho2, hg2, hv2⟩ := run_append_row (P := Tryz.prog) (w := w) R 42 5 i0 _ 1 Tryz.underlying42 hi hz0 hz1 hz2 rfl hown hp (by unfold maxLen; omega) (by omega) (by omega)
  have hbk2 : w2.heap[b]? = some (.cells #[.pointer (some ⟨b, 0, none⟩), v] 160 (0, 0)) := by
    rw [hg2.block b hlt (fun e => hne e.symm)]; exact hbk
  have hne2 : v2.ownBlock ≠ some b := by
    rcases hv2 with h | h
    · rw [h]; exact hne
    · rw [h]; intro e; have := Option.some.inj e; omega
  obtain ⟨c0, c1, _, _, _⟩ := bd_cell hbk
  obtain ⟨d0, d1, f0, f1, hlt2⟩ := bd_cell hbk2
  have hbel : BdStay R b w (w2.setCell ⟨b, 1, none⟩ v2) := by
    have hsz9 := hg2.size
    refine ⟨fun B h1 h2 => ((Below.refl B w).grown hg2 (by omega) (fun k hk => Nat.le_trans h2 (own_ge hown k hk))).setCell (p := ⟨b, 1, none⟩) h1 _, ?_, by simpa using hsz9⟩
    refine ⟨by simpa using hsz9, fun x hx hlt => ?_⟩
    rw [Below.heap_setCell w2 ⟨b, 1, none⟩ v2 x hx.1]
    exact hg2.block x hlt (fun e => by have := own_ge hown x e.symm; omega)
  have hfin : Bd R b (w2.setCell ⟨b, 1, none⟩ v2) (l ++ m) := by
    refine ⟨some ⟨b, 0, none⟩, v2, by rw [bd_set hbk2]; rfl, .inr rfl, ?_, hne2, by have := hg2.size; simp; omega⟩
    have := own_agree (w' := w2.setCell ⟨b, 1, none⟩ v2) (F := fun x => x ≠ b) ho2 ((AgreeF.refl w2).set (p := ⟨b, 1, none⟩) (.inl (by simp))) (fun g hg => by intro e; subst e; exact hne2 hg)
    have e9 : m.length = pn := by rw [← toI_length]; exact hp.1
    rw [← toI_append, List.map_append, List.length_append, e9]
    exact this
  obtain ⟨ao, n', cap, rfl⟩ : ∃ ao n' cap, v2 = .slice ao n' cap := by
    rcases ho2.2 with ⟨hv, _⟩ | ⟨g, cap, cur, hv, _⟩
    · exact ⟨_, _, _, hv⟩
    · exact ⟨_, _, _, hv⟩
  have HF := Lib.hid hfin
  have HB9 := Lib.hid hbel
  clear hfin hbel ho2 hg2 hv2 hne2 hbk hbk2 hown hne hp hi hz0 hz1 hz2
  go_enter Tryz.func63, Tryz.ntmps63
  go_wp2_with fail
  refine C0.mono ?_
  rintro e w' ⟨rfl, rfl⟩
  go_wp2_with (at_builtin; refine wpList_append_run rfl _ _ _ _ rfl rfl rfl hr2 ?_)
  go_ret2
  exact ⟨rfl, HF.out, HB9.out⟩
theorem bd_below {R b : Nat} {w w' : World} {l : List UInt8} (h : Bd R b w l) (hb : Below w.heap.size w w') : Bd R b w' l := by
  obtain ⟨ad, v, h1, h2, h3, h4, h5⟩ := h
  refine ⟨ad, v, (hb.block b (bd_cell h1).2.2.2.2).trans h1, h2, own_held h3 hb, h4, Nat.le_trans h5 hb.size⟩
/-- What is written stands behind what was. -/
theorem bwrite_any {R b : Nat} {w : World} {l m : List UInt8} (h : Bd R b w l) {pa : Option Addr} {pn pc : Nat} (hp : Bs w pa pn pc m) (hne : ∀ x, pa = some x → x.block ≠ b) (hsz : l.length + pn ≤ 140737488355328) :
    Calls Tryz.prog 63 #[.pointer (some ⟨b, 0, none⟩), .slice pa pn pc] w fun e w' => e = .returned (.tuple #[.int .i64 pn, .nilIface]) ∧ Bd R b w' (l ++ m) ∧ BdStay R b w w' := by
  obtain ⟨ad, v, h1, h2, h3, h4, h5⟩ := h
  rcases h2 with rfl | rfl
  · have hag : AgreeF (fun x => x ≠ b) w (w.setCell ⟨b, 0, none⟩ (.pointer (some ⟨b, 0, none⟩))) := (AgreeF.refl w).set (.inl (by simp))
    refine (bwrite_own (by simpa using h5) (by rw [bd_set h1]; rfl) (own_agree h3 hag (fun g hg => by intro e; subst e; exact h4 hg)) h4 (row_agree hp hag hne) hsz w (copyCheck_nil h1)).mono ?_
    rintro e w' ⟨rfl, g1, g2, g3, g4⟩
    refine ⟨rfl, g1, fun B q1 q2 => ((Below.refl B w).setCell (p := ⟨b, 0, none⟩) q1 _).trans (g2 B q1 q2), ?_, by simpa using g4⟩
    exact AgreeF.trans ((AgreeF.refl w).set (.inl (by simp))) g3
  · exact bwrite_own h5 h1 h3 h4 hp hsz w (copyCheck_own h1)
set_option maxRecDepth 100000 in
set_option maxHeartbeats 2000000 in
set_option maxRecDepth 100000 in
/-- What was written. -/
theorem bstring_any {R b : Nat} {w : World} {l : List UInt8} (h : Bd R b w l) (h0 : l ≠ []) {B : Nat} (hBR : B ≤ R) :
    Calls Tryz.prog 66 #[.pointer (some ⟨b, 0, none⟩)] w fun e w' => e = .returned (.string (strOf l)) ∧ Below B w w' := by
  obtain ⟨ad, v, hbk, _, hown, hne, hR⟩ := h
  have hl0 : l.length ≠ 0 := by simpa using h0
  obtain ⟨g, cap, cur, rfl, hbg, hg, hnc, hcm, hcs, htake⟩ : ∃ g cap cur, v = .slice (some ⟨g, 0, none⟩) l.length cap ∧ R ≤ g ∧ w.heap[g]? = some (.cells cur 5 (0, 0)) ∧ l.length ≤ cap ∧ cap ≤ maxLen ∧ cur.size = cap * 1 ∧ cur.toList.take (l.length * 1) = (toI l).map (Value.int .u8) := by
    rcases hown.2 with ⟨_, hz⟩ | ⟨g, cap, cur, hv, r⟩
    · exact absurd hz hl0
    · exact ⟨g, cap, cur, hv, r⟩
  have c1 : w.drew.cell? ⟨b, 1, none⟩ = some (.slice (some ⟨g, 0, none⟩) l.length cap) := (bd_cell hbk).2.1
  have hSD : (Builtin.unsafeSliceData_ #[42] 237 #[.slice (some ⟨g, 0, none⟩) l.length cap]).run Tryz.prog w.drew = .ok (.pointer (some ⟨g, 0, none⟩)) w.drew :=
    Lib.run_unsafeSliceData_row _ _ _ _ _ _ (by omega)
  have hUS : (Builtin.unsafeString_ #[237, 3] 9 #[.pointer (some ⟨g, 0, none⟩), .int .i64 l.length]).run Tryz.prog w.drew = .ok (.string ⟨l.toArray⟩) (w.drew.freeze ⟨g, 0, none⟩ l.length) := by
    refine Lib.run_unsafeString_row w.drew 237 3 9 5 Tryz.underlying237 (by kernel_rfl) g cur.size (by have hg' : w.drew.heap[g]? = some (.cells cur 5 (0, 0)) := hg; simp [World.shape?, hg']) l h0 (by omega) (by unfold maxLen at hcm; omega) ?_
    intro j x hx
    have := hown.cells (g := g) rfl j (.int .u8 x.toNat) (by simp [toI, hx])
    exact this
  have HFR : Hid (Below B w (w.drew.freeze ⟨g, 0, none⟩ l.length)) := Lib.hid (Lib.below_freeze (Below.dr (Below.refl B w)) (p := ⟨g, 0, none⟩) (Nat.le_trans hBR hbg) _)
  have mixed : Tryz.prog.follows Departure.mixedOrders = true := by kernel_rfl
  clear hbk hown hne hg hcs htake
  go_enter Tryz.func66, Tryz.ntmps66
  go_wp2
  go_region_o
  all_goals (go_wp2; go_ret; exact ⟨rfl, HFR.out⟩)
end Go.Proofs.YtpghlmcoajaiiaaGreatDoor

/- Sums of bytes, bit by bit; plain laws, no program in sight. -/
namespace Go.Proofs.YtpghlmcoajaiiaaGreatDoor

/-- One bit. -/
def stepB (x : Nat) : Nat := if x % 2 = 1 then (x / 2) ^^^ 3988292384 else x / 2
def steps : Nat → Nat → Nat
  | 0, x => x
  | n + 1, x => steps n (stepB x)
theorem steps_add (m n x : Nat) : steps (m + n) x = steps n (steps m x) := by
  induction m generalizing x with
  | zero => simp [steps]
  | succ m ih => rw [show m + 1 + n = (m + n) + 1 by omega]; simp only [steps]; exact ih _
/-- One byte. -/
def stepC (x : Nat) (b : UInt8) : Nat := steps 8 (x ^^^ b.toNat)
/-- The inner state behind bytes. -/
def crcX (x : Nat) (l : List UInt8) : Nat := l.foldl stepC x
def crcOn (sum : Nat) (l : List UInt8) : Nat := 4294967295 - crcX (4294967295 - sum) l
def crcOf (l : List UInt8) : Nat := crcOn 0 l

theorem xor_lt {a b : Nat} (ha : a < 4294967296) (hb : b < 4294967296) : a ^^^ b < 4294967296 := Nat.xor_lt_two_pow (n := 32) ha hb
theorem stepB_lt {x : Nat} (h : x < 4294967296) : stepB x < 4294967296 := by
  unfold stepB; split
  · exact xor_lt (by omega) (by omega)
  · omega
theorem steps_lt (n : Nat) {x : Nat} (h : x < 4294967296) : steps n x < 4294967296 := by
  induction n generalizing x with
  | zero => exact h
  | succ n ih => exact ih (stepB_lt h)
theorem stepC_lt {x : Nat} (h : x < 4294967296) (b : UInt8) : stepC x b < 4294967296 := steps_lt 8 (xor_lt h (by have := b.toNat_lt; omega))
theorem crcX_lt (l : List UInt8) {x : Nat} (h : x < 4294967296) : crcX x l < 4294967296 := by
  induction l generalizing x with
  | nil => exact h
  | cons b l ih => exact ih (stepC_lt h b)
theorem crcX_snoc (x : Nat) (l : List UInt8) (b : UInt8) : crcX x (l ++ [b]) = stepC (crcX x l) b := by simp [crcX]

/-! a step can be told from what it leaves -/

/-! half a byte by a table -/
def half : List Nat := [0, 498536548, 997073096, 651767980, 1994146192, 1802195444, 1303535960, 1342533948, 3988292384, 4027552580, 3604390888, 3412177804, 2607071920, 2262029012, 2685067896, 3183342108]
theorem half_eq (k : Nat) (h : k < 16) : half[k]? = some (steps 4 k) := by
  have : ∀ k : Fin 16, half[k.val]? = some (steps 4 k.val) := by decide
  exact this ⟨k, h⟩
theorem stepB_xor (a b : Nat) (ha : a % 2 = 0) : stepB (a ^^^ b) = a / 2 ^^^ stepB b := by
  have hp : (a ^^^ b) % 2 = b % 2 := by
    have := Nat.xor_mod_two_pow (a := a) (b := b) (n := 1)
    simp only [Nat.pow_one] at this
    rw [this, ha, Nat.zero_xor]
    try omega
  have hd : (a ^^^ b) / 2 = a / 2 ^^^ b / 2 := by
    have := Nat.shiftRight_xor_distrib (a := a) (b := b) (i := 1)
    simpa [Nat.shiftRight_eq_div_pow] using this
  unfold stepB
  rw [hp, hd]
  by_cases hb : b % 2 = 1
  · rw [if_pos hb, if_pos hb, Nat.xor_assoc]
  · rw [if_neg hb, if_neg hb]
theorem steps_xor (n a b : Nat) (ha : a % 2 ^ n = 0) : steps n (a ^^^ b) = a / 2 ^ n ^^^ steps n b := by
  induction n generalizing a b with
  | zero => simp [steps]
  | succ n ih =>
    have h2 : a % 2 = 0 := by
      have : 2 ∣ a := Nat.dvd_trans (by rw [Nat.pow_succ]; exact Nat.dvd_mul_left 2 _) (Nat.dvd_of_mod_eq_zero ha)
      omega
    have h3 : a / 2 % 2 ^ n = 0 := by
      have hd := Nat.dvd_of_mod_eq_zero ha
      rw [Nat.pow_succ] at hd
      obtain ⟨q, rfl⟩ := hd
      rw [Nat.mul_comm (2 ^ n) 2, Nat.mul_assoc, Nat.mul_div_cancel_left _ (by decide), Nat.mul_mod_right]
    simp only [steps]
    rw [stepB_xor a b h2, ih (a / 2) (stepB b) h3, Nat.div_div_eq_div_mul, Nat.pow_succ, Nat.mul_comm 2]
/-- Four bits at once. -/
theorem steps_four (x : Nat) : steps 4 x = x / 16 ^^^ (half[x % 16]?.getD 0) := by
  have e : x = 16 * (x / 16) ^^^ x % 16 := by
    have h1 : 16 * (x / 16) ^^^ x % 16 = 16 * (x / 16) + x % 16 := by
      have hb : x % 16 < 2 ^ 4 := by omega
      apply Nat.eq_of_testBit_eq
      intro j
      have e1 := Nat.testBit_two_pow_mul_add (x / 16) hb j
      have e2 : (2 ^ 4 * (x / 16)).testBit j = (decide (j ≥ 4) && (x / 16).testBit (j - 4)) := Nat.testBit_two_pow_mul ..
      rw [Nat.testBit_xor]
      show ((2 ^ 4 * (x / 16)).testBit j ^^ (x % 16).testBit j) = (2 ^ 4 * (x / 16) + x % 16).testBit j
      rw [e1, e2]
      by_cases hj : j < 4
      · have h4 : ¬ j ≥ 4 := by omega
        rw [if_pos hj]; simp [h4]
      · have h0 : (x % 16).testBit j = false := Nat.testBit_lt_two_pow (Nat.lt_of_lt_of_le hb (Nat.pow_le_pow_right (by decide) (by omega)))
        have h4 : j ≥ 4 := by omega
        rw [if_neg hj, h0]; simp [h4]
    rw [h1]; omega
  have h2 := steps_xor 4 (16 * (x / 16)) (x % 16) (by omega)
  rw [← e] at h2
  rw [h2, half_eq (x % 16) (by omega)]
  simp
theorem not32 (s : Nat) (h : s < 4294967296) : 4294967295 ^^^ s = 4294967295 - s := by
  apply Nat.eq_of_testBit_eq
  intro i
  have e := Nat.testBit_two_pow_sub_succ (n := 32) h i
  have e1 : 2 ^ 32 - (s + 1) = 4294967295 - s := by omega
  have e2 := Nat.testBit_two_pow_sub_one 32 i
  rw [e1] at e
  rw [Nat.testBit_xor, e]
  show ((2 ^ 32 - 1).testBit i ^^ s.testBit i) = _
  rw [e2]
  by_cases hi : i < 32
  · simp [hi]
  · have : s.testBit i = false := Nat.testBit_lt_two_pow (Nat.lt_of_lt_of_le h (show 2 ^ 32 ≤ 2 ^ i from Nat.pow_le_pow_right (by decide) (by omega)))
    simp [hi, this]

end Go.Proofs.YtpghlmcoajaiiaaGreatDoor

/- The walks of the chapter on sums of bytes. -/
namespace Go.Proofs.YtpghlmcoajaiiaaGreatDoor
open Go.RowKit

/-- The table lies there. -/
def Half (w : World) : Prop := 0 < w.heap.size ∧ ∀ i, i < 16 → w.cell? ⟨0, i, none⟩ = some (.int .u32 ((half[i]?.getD 0 : Nat) : Int))
theorem Half.below {w w' : World} {B : Nat} (hB : w.heap.size ≤ B) (hb : Below B w w') (h : Half w) : Half w' :=
  ⟨Nat.lt_of_lt_of_le h.1 hb.size, fun i hi => (hb.cell (p := ⟨0, i, none⟩) (Nat.lt_of_lt_of_le h.1 hB)).trans (h.2 i hi)⟩
theorem Half.grown {w w' : World} {t : Nat} (h : Half w) (hg : w.grownBy w' (some t)) (hne : t ≠ 0) : Half w' :=
  ⟨Nat.lt_of_lt_of_le h.1 hg.size, fun i hi => (World.cell?_of_block (hg.block 0 h.1 (fun e => hne (by cases e; rfl)))).trans (h.2 i hi)⟩

theorem max32 : IntKind.u32.max = ((4294967295 : Nat) : Int) := by decide
theorem not_u32 (s : Nat) (h : s < 4294967296) : bits .xor .u32 IntKind.u32.max (s : Int) = ((4294967295 - s : Nat) : Int) := by
  rw [max32, u32_xor_nat 4294967295 s (by decide) h, not32 s h]

theorem and15 (y : Nat) (h : y < 4294967296) : bits .and .u32 (y : Int) 15 = ((y % 16 : Nat) : Int) := by
  have e := u32_and_nat y 15 h (by decide)
  have e2 : y &&& 15 = y % 16 := Nat.and_two_pow_sub_one_eq_mod y 4
  rw [e2] at e
  exact e

set_option maxRecDepth 100000 in
set_option maxHeartbeats 1000000 in
theorem crcOn_any (sum : Nat) (a : Option Addr) (len cap : Nat) (l : List UInt8) (w : World) (hs : sum < 4294967296) (hbs : Bs w a len cap l) (hh : Half w) :
    Calls Tryz.prog 112 #[.int .u32 sum, .slice a len cap] w fun e w' => e = .returned (.int .u32 (crcOn sum l)) ∧ w = w' := by
  have hll := Lib.hid hbs.len
  have hm := hbs.cap
  unfold maxLen at hm
  have hn := not_u32 sum hs
  obtain ⟨x0, hx0⟩ : ∃ x0, x0 = 4294967295 - sum := ⟨_, rfl⟩
  have hres : crcOn sum l = 4294967295 - crcX x0 l := by rw [hx0]; rfl
  have hx0b : x0 < 4294967296 := by omega
  rw [← hx0] at hn
  have HR := Lib.hid hres
  clear hx0 hres
  go_enter Tryz.func112, Tryz.ntmps112
  go_wp2
  go_loop [5, 12] (fun x i => ∃ k : Nat, k ≤ len ∧ i = .int .i64 k ∧ x = .int .u32 (crcX x0 (l.take k))) (fun _ i => len - (intOf i).toNat)
  case atStart => exact ⟨0, Nat.zero_le _, rfl, rfl⟩
  case round =>
    obtain ⟨k, hk, rfl, rfl⟩ := hrel
    by_cases hlt : k < len
    · obtain ⟨b, off, rfl, hb, hcell⟩ := hbs.cell hlt
      have hck := hcell k hlt
      have hxl := crcX_lt (l.take k) hx0b
      have hst : crcX x0 (l.take (k + 1)) = stepC (crcX x0 (l.take k)) (l[k]?.getD 0) := by
        rw [List.take_add_one, List.getElem?_eq_getElem (by rw [hll.out]; exact hlt)]; exact crcX_snoc _ _ _
      have hcb : (l[k]?.getD 0).toNat < 256 := (l[k]?.getD 0).toNat_lt
      generalize l[k]?.getD 0 = c at *
      generalize crcX x0 (l.take k) = x at *
      have H := Lib.hid hst
      clear hst hcell
      have hx1 := u32_xor_nat x c.toNat (by omega) (by omega)
      have hy := xor_lt hxl (show c.toNat < 4294967296 by omega)
      have hy8 : stepC x c = steps 4 (steps 4 (x ^^^ c.toNat)) := steps_add 4 4 _
      have hz := steps_lt 4 hy
      have f1 := steps_four (x ^^^ c.toNat)
      have f2 := steps_four (steps 4 (x ^^^ c.toNat))
      generalize x ^^^ c.toNat = y at *
      generalize hzz : steps 4 y = z at *
      generalize stepC x c = q at *
      generalize hqq : steps 4 z = q' at *
      have hq4 := steps_lt 4 hz
      rw [hqq] at hq4
      have h1 : y % 16 < 16 := by omega
      have h2 : z % 16 < 16 := by omega
      have t1 := hh.2 (y % 16) h1
      have t2 := hh.2 (z % 16) h2
      have hv1 : half[y % 16]?.getD 0 < 4294967296 := by rw [half_eq _ h1]; exact steps_lt 4 (by omega)
      have hv2 : half[z % 16]?.getD 0 < 4294967296 := by rw [half_eq _ h2]; exact steps_lt 4 (by omega)
      generalize half[y % 16]?.getD 0 = v1 at *
      generalize half[z % 16]?.getD 0 = v2 at *
      have hxo1 := u32_xor_nat (y / 16) v1 (by omega) hv1
      have hxo2 := u32_xor_nat (z / 16) v2 (by omega) hv2
      rw [← f1] at hxo1
      rw [← f2] at hxo2
      have hxo1 : bits .xor .u32 ((y : Int) / 16) (v1 : Int) = (z : Int) := hxo1
      have hxo2 : bits .xor .u32 ((z : Int) / 16) (v2 : Int) = (q' : Int) := hxo2
      have HQ := Lib.hid hy8
      have a1 := and15 y hy
      have a2 := and15 z hz
      clear f1 f2 hy8 hzz hqq hh
      go_wp2
      go_round
      case rel => exact ⟨k + 1, by omega, by go_num, by rw [H.out, HQ.out]⟩
      case measure => simp [intOf]; omega
    · obtain rfl : k = len := by omega
      have hx : l.take k = l := List.take_of_length_le (by rw [hll.out]; exact Nat.le_refl _)
      rw [hx]
      have hxl := crcX_lt l hx0b
      have hn2 := not_u32 (crcX x0 l) hxl
      rw [← HR.out] at hn2
      clear hx
      go_wp2
      go_ret
      exact ⟨rfl, rfl⟩

set_option maxRecDepth 100000 in
set_option maxHeartbeats 1000000 in
theorem crcOf_any (a : Option Addr) (len cap : Nat) (l : List UInt8) (w : World) (hbs : Bs w a len cap l) (hh : Half w) :
    Calls Tryz.prog 69 #[.slice a len cap] w fun e w' => e = .returned (.int .u32 (crcOf l)) ∧ w = w' := by
  go_enter Tryz.func69, Tryz.ntmps69
  go_wp2_with fail
  refine (crcOn_any 0 a len cap l w (by omega) hbs hh).mono ?_
  rintro e w' ⟨rfl, rfl⟩
  go_wp2
  go_ret
  exact ⟨rfl, rfl⟩


end Go.Proofs.YtpghlmcoajaiiaaGreatDoor

/- '[]byte(s)'. -/
namespace Go.Proofs.YtpghlmcoajaiiaaGreatDoor
open Go.RowKit

/-- '[]byte(s)': a row of its own. -/
theorem str_bytes {P : Program} (w : World) {src dst e : TypeId} (hs : P.underlying src = some .string) (hd : P.underlying dst = some (.slice e)) (he : P.underlying e = some (.int .u8)) (l : List UInt8) (hl : l.length ≤ 140737488351232) :
    ∃ c w', (convert src dst (.string (strOf l))).run P w = .ok (.slice (some ⟨w.heap.size, 0, none⟩) l.length c) w' ∧ Bs w' (some ⟨w.heap.size, 0, none⟩) l.length c l ∧ Below w.heap.size w w' := by
  have h := Lib.run_convert_string_bytes (P := P) w src dst e (strOf l) hs hd he
  rw [strOf_size] at h
  refine ⟨_, _, h, ⟨by rw [toI_length], grownCap_ge w _ 0 e, grownCap_le_maxLen w _ 0 e (by unfold maxLen; omega), (fun h => by cases h), .inr ⟨_, 0, rfl, by rw [Lib.bytesWorld_size]; omega, fun i hi => ?_⟩⟩, ?_⟩
  · have := Lib.bytesWorld_cell w e (strOf l) i (by rw [strOf_size]; exact hi)
    rw [Nat.zero_add, this, strOf_list, toI_get, List.getD_eq_getElem?_getD]
  · have e1 : (Lib.bytesWorld w e (strOf l)).os = w.os ∧ (Lib.bytesWorld w e (strOf l)).tape = w.tape ∧ (Lib.bytesWorld w e (strOf l)).output = w.output := by
      unfold Lib.bytesWorld World.freeze
      split <;> exact ⟨rfl, rfl, rfl⟩
    exact ⟨e1.1, e1.2.1, e1.2.2, by rw [Lib.bytesWorld_size]; omega, fun k hk => Lib.bytesWorld_at_old w e _ k hk⟩
end Go.Proofs.YtpghlmcoajaiiaaGreatDoor

/- Records: users, keys, digests; a record's bytes. -/
namespace Go.Proofs.YtpghlmcoajaiiaaGreatDoor
open Go.RowKit

/-- A record. -/
structure RcD where
  actor : Int
  from_ : Int
  to_ : Int
  bucket : List UInt8
  key : List UInt8
  digest : Nat
/-- A record's words. -/
def rcV (r : RcD) : Value := .agg #[.int .i64 r.actor, .int .i64 r.from_, .int .i64 r.to_, .string (strOf r.bucket), .string (strOf r.key), .int .u32 (r.digest : Int)]
def rcC (r : RcD) : List Value := [.int .i64 r.actor, .int .i64 r.from_, .int .i64 r.to_, .string (strOf r.bucket), .string (strOf r.key), .int .u32 (r.digest : Int)]
def u64w (n : Int) : Int := IntKind.u64.wrap n
/-- The bytes of a record. -/
def rcB (r : RcD) : List UInt8 := numF (u64w r.actor) 1 ++ numF (u64w r.from_) 1 ++ numF (u64w r.to_) 1 ++ textF r.bucket ++ textF r.key ++ numF (r.digest : Int) 4
def keyB (n : Int) : List UInt8 := numF (u64w n) 8
theorem u64w_ok (n : Int) : 0 ≤ u64w n ∧ u64w n < 18446744073709551616 := by
  unfold u64w IntKind.wrap
  simp [IntKind.signed, IntKind.bits]
  omega
theorem user_any (l : List UInt8) (w : World) (hl : l.length ≤ 1000000) : Calls Tryz.prog 28 #[.string (strOf l)] w fun e w' => e = .returned (.string (strOf (98 :: l))) ∧ w = w' := by
  have hadd : (⟨#[98]⟩ : ByteArray) ++ strOf l = strOf (98 :: l) := strOf_append [98] l
  have hs := strOf_size l
  obtain ⟨z, hz⟩ : ∃ z, strOf (98 :: l) = z := ⟨_, rfl⟩
  rw [hz] at hadd ⊢
  go_enter Tryz.func28, Tryz.ntmps28
  go_wp2_with fail
  go_ret
  exact ⟨rfl, rfl⟩
theorem key_any (n : Int) (w : World) : Calls Tryz.prog 24 #[.int .i64 n] w (RetStr w (keyB n)) := by
  have C := num_any (u64w n) 8 w (u64w_ok n)
  have hwr : IntKind.u64.wrap n = u64w n := rfl
  have hkb : keyB n = numF (u64w n) 8 := rfl
  have HKB := Lib.hid hkb
  clear hkb
  generalize u64w n = u at *
  go_enter Tryz.func24, Tryz.ntmps24
  go_wp2_with fail
  refine C.mono ?_
  rintro e w' ⟨v, rfl, ho, hb⟩
  obtain ⟨a, c, rfl, hr⟩ := Row.of_own ho
  have hcv := conv_string (P := Tryz.prog) Tryz.underlying42 Tryz.underlying5 Tryz.underlying9 (show Bs w' a _ c (numF u 8) from hr)
  clear ho hr C
  go_wp2_with fail
  go_ret
  exact ⟨by rw [HKB.out]; rfl, hb⟩
theorem digest_any (l : List UInt8) (w : World) (hl : l.length ≤ 100000) (hh : Half w) : Calls Tryz.prog 26 #[.string (strOf l)] w fun e w' => e = .returned (.int .u32 (crcOf l : Int)) ∧ Below w.heap.size w w' := by
  obtain ⟨c7, w7, hcv7, hbs7, hb7⟩ := str_bytes (P := Tryz.prog) w Tryz.underlying9 Tryz.underlying42 Tryz.underlying5 l (by omega)
  have C := crcOf_any _ _ _ _ w7 hbs7 (hh.below (Nat.le_refl _) hb7)
  go_enter Tryz.func26, Tryz.ntmps26
  go_wp2_with fail
  refine C.mono ?_
  rintro e w' ⟨rfl, rfl⟩
  go_wp2_with fail
  go_ret
  exact ⟨rfl, hb7⟩
theorem own_bs {w : World} {base : Nat} {e : TypeId} {v : Value} {l : List UInt8} (h : w.ownsRow base e 1 v l.length ((toI l).map (Value.int .u8))) (hb : base ≤ w.heap.size) :
    ∃ a c, v = .slice a l.length c ∧ Bs w a l.length c l ∧ ∀ x, a = some x → base ≤ x.block := by
  obtain ⟨a, c, rfl, hr⟩ := Row.of_own h
  refine ⟨a, c, rfl, hr, ?_⟩
  rintro x rfl
  rcases h.2 with ⟨h1, _⟩ | ⟨g, cap, cur, h1, h2, _⟩
  · cases h1
  · cases h1; exact h2
/-- What is written of a record's numbers, step by step. -/
def rcN (r : RcD) : Nat → List UInt8
  | 0 => []
  | 1 => numF (u64w r.actor) 1
  | 2 => numF (u64w r.actor) 1 ++ numF (u64w r.from_) 1
  | _ => numF (u64w r.actor) 1 ++ numF (u64w r.from_) 1 ++ numF (u64w r.to_) 1
def rcI (r : RcD) : Nat → Int
  | 0 => r.actor
  | 1 => r.from_
  | _ => r.to_
theorem rcN_succ (r : RcD) (i : Nat) (h : i < 3) : rcN r (i + 1) = rcN r i ++ numF (u64w (rcI r i)) 1 := by
  match i, h with
  | 0, _ => rfl
  | 1, _ => rfl
  | 2, _ => rfl
theorem numF_le (x size : Int) : (numF x size).length ≤ 8 := by
  unfold numF
  split
  · simp
  · rename_i h
    rw [beBytes_length]; omega
theorem textF_le (l : List UInt8) : (textF l).length ≤ 256 := by
  unfold textF
  simp only [List.length_cons, List.length_take]
  omega
theorem rcN_len (r : RcD) (i : Nat) : (rcN r i).length ≤ 24 := by
  have h1 := numF_le (u64w r.actor) 1
  have h2 := numF_le (u64w r.from_) 1
  have h3 := numF_le (u64w r.to_) 1
  match i with
  | 0 => simp [rcN]
  | 1 => simp only [rcN]; omega
  | 2 => simp only [rcN, List.length_append]; omega
  | _ + 3 => simp only [rcN, List.length_append]; omega
set_option maxRecDepth 100000 in
set_option maxHeartbeats 4000000 in
set_option maxRecDepth 100000 in
theorem recput_any (r : RcD) (w : World) (hk : r.key.length ≤ 1000) (hbk : r.bucket.length ≤ 1000) (hd : r.digest < 4294967296) :
    Calls Tryz.prog 22 #[rcV r] w (RetStr w (rcB r)) := by
  obtain ⟨RB, hRB⟩ : ∃ z, rcB r = z := ⟨_, rfl⟩
  rw [hRB]
  have HRB := Lib.hid hRB
  clear hRB
  obtain ⟨W1, hW1⟩ : ∃ x, w.alloc (.cells #[.int .i64 r.actor, .int .i64 r.from_, .int .i64 r.to_, .string (strOf r.bucket), .string (strOf r.key), .int .u32 (r.digest : Int)] 64) = x := ⟨_, rfl⟩
  have hx1 : Boxes W1 [(w.heap.size, rcC r)] := by
    rw [← hW1]
    exact (Boxes.nil w).alloc #[.int .i64 r.actor, .int .i64 r.from_, .int .i64 r.to_, .string (strOf r.bucket), .string (strOf r.key), .int .u32 (r.digest : Int)] 64 (b := w.heap.size) rfl
  have hb1 : Below w.heap.size w W1 := by rw [← hW1]; exact Below.al (Below.refl _ _)
  have hs1 : W1.heap.size = w.heap.size + 1 := by rw [← hW1, World.size_alloc]
  obtain ⟨W2, hW2⟩ : ∃ x, W1.alloc (.cells #[.pointer none, .slice none 0 0] 160) = x := ⟨_, rfl⟩
  have hb2 : Below W1.heap.size W1 W2 := by rw [← hW2]; exact Below.al (Below.refl _ _)
  have hs2 : W2.heap.size = w.heap.size + 1 + 1 := by rw [← hW2, World.size_alloc, hs1]
  have hbd2 : W2.heap[w.heap.size + 1]? = some (.cells #[.pointer none, .slice none 0 0] 160 (0, 0)) := by rw [← hW2, ← hs1]; exact World.alloc_heap_new _ _
  obtain ⟨W3, hW3⟩ : ∃ x, W2.alloc (.cells #[.int .i64 r.actor, .int .i64 r.from_, .int .i64 r.to_] 3) = x := ⟨_, rfl⟩
  have hb3 : Below W2.heap.size W2 W3 := by rw [← hW3]; exact Below.al (Below.refl _ _)
  have hs3 : W3.heap.size = w.heap.size + 1 + 1 + 1 := by rw [← hW3, World.size_alloc, hs2]
  have hx3 : Boxes W3 [(w.heap.size + 1 + 1, [.int .i64 r.actor, .int .i64 r.from_, .int .i64 r.to_]), (w.heap.size, rcC r)] := by
    rw [← hW3, ← hs2]
    exact (hx1.step hb2).alloc #[.int .i64 r.actor, .int .i64 r.from_, .int .i64 r.to_] 3 (b := W2.heap.size) rfl
  have hbd3 : Bd (w.heap.size + 1 + 1 + 1) (w.heap.size + 1) W3 [] := ⟨none, .slice none 0 0, (hb3.block _ (by omega)).trans hbd2, .inl rfl, World.ownsRow_nil _ _ _ _, (by simp [Value.ownBlock]), by omega⟩
  have n0 := (hx1.step hb2).cell 0 0 rfl rfl
  have n1 := (hx1.step hb2).cell 0 1 rfl rfl
  have n2 := (hx1.step hb2).cell 0 2 rfl rfl
  have HX3 := Lib.hid hx3
  have HBD3 := Lib.hid hbd3
  have HB3 := Lib.hid (below_via hb1 (below_via hb2 hb3))
  have hzb : ∀ W, (zeroValue 160).run Tryz.prog W = .ok (.agg #[.pointer none, .slice none 0 0]) W := fun W => by kernel_rfl
  clear hx1 hb1 hx3 hbd3 hb2 hb3 hbd2
  unfold rcV
  go_enter Tryz.func22, Tryz.ntmps22
  go_wp2_with fail
  go_loopw [14] (fun s wr => ∃ i : Nat, i ≤ 3 ∧ s = .int .i64 i ∧ Bd (w.heap.size + 1 + 1 + 1) (w.heap.size + 1) wr (rcN r i) ∧ Boxes wr [(w.heap.size + 1 + 1, [.int .i64 r.actor, .int .i64 r.from_, .int .i64 r.to_]), (w.heap.size, rcC r)] ∧ Below w.heap.size w wr) (fun s _ => 3 - (intOf s).toNat)
  case atStart => exact ⟨0, by omega, rfl, HBD3.out, HX3.out, HB3.out⟩
  case round =>
    clear HX3 HBD3 HB3 n0 n1 n2 hzb
    obtain ⟨i, hi, rfl, hbd, hx, hb⟩ := hrel
    by_cases hlt : i < 3
    · have hcell : wr.cell? ⟨w.heap.size + 1 + 1, i, none⟩ = some (.int .i64 (rcI r i)) := by
        match i, hlt with
        | 0, _ => exact hx.cell 0 0 rfl rfl
        | 1, _ => exact hx.cell 0 1 rfl rfl
        | 2, _ => exact hx.cell 0 2 rfl rfl
      have hwr : IntKind.u64.wrap (rcI r i) = u64w (rcI r i) := rfl
      have d0 : decide ((i : Int) < 3) = true := by simp; omega
      have C1 := num_any (u64w (rcI r i)) 1 wr (u64w_ok _)
      have hl1 := numF_le (u64w (rcI r i)) 1
      have hst := Lib.hid (rcN_succ r i hlt)
      have hln := rcN_len r i
      obtain ⟨q, hq⟩ : ∃ q, u64w (rcI r i) = q := ⟨_, rfl⟩
      rw [hq] at hwr C1 hst hl1
      clear hq
      go_wp2_with fail
      refine C1.mono ?_
      rintro e w4 ⟨v, rfl, ho, hb4⟩
      obtain ⟨a4, c4, rfl, hbs4, hge⟩ := own_bs ho hb4.size
      have hbl := hb.size
      have hlt9 := hx.lt 0 rfl
      have C2 := bwrite_any (bd_below hbd hb4) hbs4 (fun x hx => by have := hge x hx; omega) (by omega)
      obtain ⟨nl, hnl⟩ : ∃ nl, (numF q 1).length = nl := ⟨_, rfl⟩
      rw [hnl] at C2 ⊢
      clear C1 ho hbs4
      go_wp2_with fail
      refine C2.mono ?_
      rintro e w5 ⟨rfl, hbd5, hst5⟩
      have HBD5 := Lib.hid hbd5
      have HX5 := Lib.hid ((hx.step hb4).agree hst5.2.1 (by intro p hp; simp at hp; rcases hp with rfl | rfl <;> (constructor <;> simp <;> omega)))
      have HB5 := Lib.hid ((hb.trans (hb4.mono hb.size)).trans (hst5.1 w.heap.size (by omega) (by omega)))
      clear hbd5 hst5 C2 hx hb hbd hb4
      go_wp2_with fail
      go_roundw
      case rel => exact ⟨i + 1, by omega, by go_num, by rw [hst.out]; exact HBD5.out, HX5.out, HB5.out⟩
      case measure => simp [intOf]; omega
    · obtain rfl : i = 3 := by omega
      have d0 : decide (((3 : Nat) : Int) < 3) = false := by decide
      have f3 := hx.cell 1 3 rfl rfl
      have f4 := hx.cell 1 4 rfl rfl
      have f5 := hx.cell 1 5 rfl rfl
      have q1 := rcN_len r 3
      have q2 := textF_le r.bucket
      have q3 := textF_le r.key
      have q4 := numF_le (r.digest : Int) 4
      have hwd : IntKind.u64.wrap (r.digest : Int) = (r.digest : Int) := by
        unfold IntKind.wrap
        simp [IntKind.signed, IntKind.bits]
        omega
      go_wp2_with fail
      refine (text_any r.bucket wr (by omega)).mono ?_
      rintro e w4 ⟨v, rfl, ho, hb4⟩
      obtain ⟨a4, c4, rfl, hbs4, hge⟩ := own_bs ho hb4.size
      have hbl := hb.size
      have hlt9 := hx.lt 1 rfl
      have C2 := bwrite_any (bd_below hbd hb4) hbs4 (fun y hy => by have := hge y hy; have := (hx.lt 0 rfl); omega) (by first | (simp only [List.length_append]; omega) | omega)
      obtain ⟨nl, hnl⟩ : ∃ nl, (textF r.bucket).length = nl := ⟨_, rfl⟩
      rw [hnl] at C2 ⊢
      clear ho hbs4
      go_wp2_with fail
      refine C2.mono ?_
      rintro e w5 ⟨rfl, hbd5, hst5⟩
      have hx5 := ((hx.step hb4).agree hst5.2.1 (by intro p hp; simp at hp; rcases hp with rfl | rfl <;> (constructor <;> simp <;> omega)))
      have hb5 := ((hb.trans (hb4.mono hb.size)).trans (hst5.1 w.heap.size (by omega) (by omega)))
      clear hst5 C2 hge
      have f4 := hx5.cell 1 4 rfl rfl
      go_wp2_with fail
      refine (text_any r.key w5 (by omega)).mono ?_
      rintro e w6 ⟨v, rfl, ho, hb6⟩
      obtain ⟨a6, c6, rfl, hbs6, hge⟩ := own_bs ho hb6.size
      have hbl := hb5.size
      have hlt9 := hx5.lt 1 rfl
      have C2 := bwrite_any (bd_below hbd5 hb6) hbs6 (fun y hy => by have := hge y hy; have := (hx5.lt 0 rfl); omega) (by first | (simp only [List.length_append]; omega) | omega)
      obtain ⟨nl, hnl⟩ : ∃ nl, (textF r.key).length = nl := ⟨_, rfl⟩
      rw [hnl] at C2 ⊢
      clear ho hbs6
      go_wp2_with fail
      refine C2.mono ?_
      rintro e w7 ⟨rfl, hbd7, hst7⟩
      have hx7 := ((hx5.step hb6).agree hst7.2.1 (by intro p hp; simp at hp; rcases hp with rfl | rfl <;> (constructor <;> simp <;> omega)))
      have hb7 := ((hb5.trans (hb6.mono hb5.size)).trans (hst7.1 w.heap.size (by omega) (by omega)))
      clear hst7 C2 hge
      have f5 := hx7.cell 1 5 rfl rfl
      have q5 : ((rcN r 3 ++ textF r.bucket) ++ textF r.key).length ≤ 24 + 256 + 256 := by simp only [List.length_append]; omega
      go_wp2_with fail
      refine (num_any (r.digest : Int) 4 w7 (by omega)).mono ?_
      rintro e w8 ⟨v, rfl, ho, hb8⟩
      obtain ⟨a8, c8, rfl, hbs8, hge⟩ := own_bs ho hb8.size
      have hbl := hb7.size
      have hlt9 := hx7.lt 1 rfl
      have C2 := bwrite_any (bd_below hbd7 hb8) hbs8 (fun y hy => by have := hge y hy; have := (hx7.lt 0 rfl); omega) (by first | (simp only [List.length_append]; omega) | omega)
      obtain ⟨nl, hnl⟩ : ∃ nl, (numF (r.digest : Int) 4).length = nl := ⟨_, rfl⟩
      rw [hnl] at C2 ⊢
      clear ho hbs8
      go_wp2_with fail
      refine C2.mono ?_
      rintro e w9 ⟨rfl, hbd9, hst9⟩
      have hx9 := ((hx7.step hb8).agree hst9.2.1 (by intro p hp; simp at hp; rcases hp with rfl | rfl <;> (constructor <;> simp <;> omega)))
      have hb9 := ((hb7.trans (hb8.mono hb7.size)).trans (hst9.1 w.heap.size (by omega) (by omega)))
      clear hst9 C2 hge
      have hne : ((rcN r 3 ++ textF r.bucket) ++ textF r.key) ++ numF (r.digest : Int) 4 ≠ [] := by
        simp [textF]
      go_wp2_with fail
      refine (bstring_any hbd9 hne (B := w.heap.size) (by omega)).mono ?_
      rintro e w10 ⟨rfl, hb10⟩
      have HB9 := Lib.hid (hb9.trans hb10)
      have hB : ((rcN r 3 ++ textF r.bucket) ++ textF r.key) ++ numF (r.digest : Int) 4 = RB := HRB.out
      rw [hB]
      clear hB hne q5
      clear hbd hx hb hb5 hx5 hbd5 hb7 hx7 hbd7 hb9 hx9 hbd9
      go_wp2_with fail
      go_ret
      exact ⟨rfl, HB9.out⟩
end Go.Proofs.YtpghlmcoajaiiaaGreatDoor

/- The walks of the chapter on numbers and texts as bytes: what is taken. -/
namespace Go.Proofs.YtpghlmcoajaiiaaGreatDoor
open Go.RowKit

theorem size_bytes (w : World) : (sizeOf (Tryz.prog.elem 42)).run Tryz.prog w = .ok 1 w := by kernel_rfl
theorem elem_bytes : Tryz.prog.underlying 42 = some (.slice (Tryz.prog.elem 42)) := by kernel_rfl

/-- A taker stands there, in such a state. -/
def Tk (w : World) (t : Nat) (s : TSt) : Prop :=
  ∃ a cap, w.heap[t]? = some (.cells #[.slice a s.l.length cap, .int .i64 s.e] 231 (0, 0)) ∧ Bs w a s.l.length cap s.l

theorem Tk.lt {w : World} {t : Nat} {s : TSt} (h : Tk w t s) : t < w.heap.size := by
  obtain ⟨a, cap, h1, _⟩ := h; exact (Array.getElem?_eq_some_iff.1 h1).1

/-- The bytes don't stand in the taker's own block. -/
theorem bs_ne {w : World} {t : Nat} {a b : Option Addr} {n m len cap : Nat} {e : Int} {T : TypeId} {l : List UInt8} (h1 : w.heap[t]? = some (.cells #[.slice b n m, .int .i64 e] T (0, 0))) (h2 : Bs w a len cap l) :
    ∀ b off, len ≠ 0 → a = some ⟨b, off, none⟩ → some t ≠ some b := by
  intro b off hl ha hb
  cases hb
  obtain ⟨b', off', e1, _, h7⟩ := h2.cell (k := 0) (by omega)
  rw [ha] at e1
  cases e1
  have := h7 0 (by omega)
  simp only [World.cell?, h1, Nat.add_zero] at this
  match off, this with
  | 0, this => simp at this
  | 1, this => simp at this
  | n + 2, this => simp at this

theorem Tk.grown {w w' : World} {t : Nat} {s : TSt} {row : Option Nat} (h : Tk w t s) (hg : w.grownBy w' row) (hne : row ≠ some t) (hb : ∀ a n m b off, w.heap[t]? = some (.cells #[.slice a n m, .int .i64 s.e] 231 (0, 0)) → s.l.length ≠ 0 → a = some ⟨b, off, none⟩ → row ≠ some b) : Tk w' t s := by
  obtain ⟨a, cap, h1, h2⟩ := h
  exact ⟨a, cap, (hg.block t (Array.getElem?_eq_some_iff.1 h1).1 (fun e => hne e.symm)).trans h1, h2.grown hg (fun b off h3 h4 => hb a _ _ b off h1 h3 h4)⟩
theorem Tk.below {w w' : World} {t : Nat} {s : TSt} {B : Nat} (hB : w.heap.size ≤ B) (hb : Below B w w') (h : Tk w t s) : Tk w' t s := by
  obtain ⟨a, cap, h1, h2⟩ := h
  exact ⟨a, cap, (hb.block t (Nat.lt_of_lt_of_le (Array.getElem?_eq_some_iff.1 h1).1 hB)).trans h1, h2.below hB hb⟩

/-- What a call on a taker leaves: a value; the taker in a new state; all else that was there as it was. -/
def TkPost (w : World) (t : Nat) (R : World → Value → Prop) (s' : TSt) (e : Ending) (w' : World) : Prop :=
  ∃ v, e = .returned v ∧ R w' v ∧ w.grownBy w' (some t) ∧ Tk w' t s'

theorem beVal_step (l : List UInt8) (k : Nat) (h : k < l.length) : beVal (l.take (k + 1)) = beVal (l.take k) * 256 + (l[k]?.getD 0).toNat := by
  rw [List.take_add_one, List.getElem?_eq_getElem h]; exact beVal_snoc _ _

set_option maxRecDepth 100000 in
set_option maxHeartbeats 1000000 in
theorem num1_any (a : Option Addr) (len cap : Nat) (l : List UInt8) (w : World) (h : Bs w a len cap l) (h8 : len ≤ 8) :
    Calls Tryz.prog 106 #[.slice a len cap] w fun e w' => e = .returned (.int .u64 (beVal l)) ∧ w = w' := by
  have hll := Lib.hid h.len
  have hm := h.cap.2
  have hc := h.cap.1
  unfold maxLen at hm
  go_enter Tryz.func106, Tryz.ntmps106
  go_wp2
  go_loop [3, 8] (fun x i => ∃ k : Nat, k ≤ len ∧ i = .int .i64 k ∧ x = .int .u64 (beVal (l.take k))) (fun _ i => len - (intOf i).toNat)
  case atStart => exact ⟨0, Nat.zero_le _, rfl, rfl⟩
  case round =>
    obtain ⟨k, hk, rfl, rfl⟩ := hrel
    by_cases hlt : k < len
    · obtain ⟨b, off, rfl, hb, hcell⟩ := h.cell hlt
      have hck := hcell k hlt
      have hst := beVal_step l k (by rw [hll.out]; exact hlt)
      have hbd : beVal (l.take k) < 72057594037927936 := by
        have h1 := beVal_lt (l.take k)
        have h2 : (l.take k).length ≤ 7 := by simp; omega
        have h3 : 256 ^ (l.take k).length ≤ 256 ^ 7 := Nat.pow_le_pow_right (by decide) h2
        omega
      have hcb := (l[k]?.getD 0).toNat_lt
      generalize (l[k]?.getD 0).toNat = c at *
      generalize beVal (l.take k) = x at *
      have H := Lib.hid hst
      clear hst hcell
      have hor := or256 x c hbd hcb
      go_wp2
      go_round
      case rel => exact ⟨k + 1, by omega, by go_num, by rw [H.out]; go_num⟩
      case measure => simp [intOf]; omega
    · obtain rfl : k = len := by omega
      have hx : l.take k = l := List.take_of_length_le (by rw [hll.out]; exact Nat.le_refl _)
      rw [hx]
      clear hx
      go_wp2
      go_ret
      exact ⟨rfl, rfl⟩

set_option maxRecDepth 100000 in
set_option maxHeartbeats 1000000 in
theorem text1_any (a : Option Addr) (len cap : Nat) (l : List UInt8) (w : World) (h : Bs w a len cap l) :
    Calls Tryz.prog 108 #[.slice a len cap] w fun e w' => e = .returned (.string (strOf l)) ∧ w = w' := by
  have hcv := conv_string Tryz.underlying42 Tryz.underlying5 Tryz.underlying9 h
  go_enter Tryz.func108, Tryz.ntmps108
  go_wp2
  go_ret
  exact ⟨rfl, rfl⟩

set_option maxRecDepth 100000 in
set_option maxHeartbeats 1000000 in
theorem clone_any (a : Option Addr) (len cap : Nat) (l : List UInt8) (w : World) (h : Bs w a len cap l) (hreach : len ≤ 140737488351232) :
    Calls Tryz.prog 104 #[.slice a len cap] w (OwnBytes 5 w l) := by
  obtain ⟨i0, hi, hz0, hz1, hz2⟩ := info_parts info_u8
  have hll := Lib.hid h.len
  cases a with
  | none =>
    have hc := h.2.2.2.1 rfl
    have h0 : len = 0 := by have := h.2.1; omega
    subst hc h0
    have hl0 : l = [] := List.eq_nil_of_length_eq_zero h.len
    have HL := Lib.hid hl0
    clear hl0
    have hq : ∀ W : World, (binOp .eql 42 (.slice none 0 0) (.slice none 0 0)).run Tryz.prog W = .ok (.bool true) W := fun W => Lib.run_eql_slice_nil W _ _ none 0 0 0 0 Tryz.underlying42
    go_enter Tryz.func104, Tryz.ntmps104
    go_wp2
    go_ret
    exact ⟨_, rfl, by rw [HL.out]; exact ⟨rfl, .inl ⟨rfl, rfl⟩⟩, Below.refl _ _⟩
  | some x =>
    have hm := h.cap.2
    unfold maxLen at hm
    have hq : ∀ W : World, (binOp .eql 42 (.slice (some x) len cap) (.slice none 0 0)).run Tryz.prog W = .ok (.bool false) W := fun W => Lib.run_eql_slice_nil W _ _ (some x) len cap 0 0 Tryz.underlying42
    go_enter Tryz.func104, Tryz.ntmps104
    go_wp2_with (at_builtin; refine wpList_append_row rfl _ _ 42 rfl w.heap.size 5 i0 _ 1 Tryz.underlying42 hi hz0 hz1 hz2 rfl _ 0 [] rfl (own_made .u8 w 5 [] rfl (Nat.le_refl _) (by unfold maxLen; simp)) .u8 (some x) len cap (toI l) rfl (h.below (Nat.le_refl _) ((Below.refl _ _).alloc (Nat.le_refl _) _)) (by unfold maxLen; omega) (by omega) (by simp) ?_)
    intro v2 w2 hown hg
    have hB := ((Below.refl w.heap.size w).alloc (Nat.le_refl _) (.cells #[] 5)).grown hg (by simp) (fun k e => by cases e; exact Nat.le_refl _)
    clear hg
    have hown' : w2.ownsRow w.heap.size 5 1 v2 l.length ((toI l).map (Value.int .u8)) := by
      rw [hll.out]; simpa using hown
    clear hown
    go_wp2
    go_ret
    exact ⟨_, rfl, hown', hB⟩
end Go.Proofs.YtpghlmcoajaiiaaGreatDoor

/- The walks of the chapter on numbers and texts as bytes: so many bytes, taken, and what they come to (three instances). -/
namespace Go.Proofs.YtpghlmcoajaiiaaGreatDoor
open Go.RowKit


set_option maxRecDepth 100000 in
set_option maxHeartbeats 1000000 in
theorem take_any (a : Option Addr) (len cap : Nat) (l : List UInt8) (w : World) (h : Bs w a len cap l) (hreach : len ≤ 140737488351232) :
    Calls Tryz.prog 56 #[.slice a len cap] w fun e w' => e = .returned (.pointer (some ⟨w'.heap.size - 1, 0, none⟩)) ∧ Tk w' (w'.heap.size - 1) ⟨l, 0⟩ ∧ w.heap.size ≤ w'.heap.size - 1 ∧ Below w.heap.size w w' := by
  have hll := Lib.hid h.len
  go_enter Tryz.func56, Tryz.ntmps56
  go_wp2_with fail
  refine (clone_any a len cap l w h hreach).mono ?_
  rintro e w1 ⟨v, rfl, hown, hb⟩
  obtain ⟨a2, cap2, rfl, hbs⟩ := Bs.of_own hown
  clear hown
  go_wp2
  go_ret
  have hs := hb.size
  refine ⟨by simp, ⟨a2, cap2, ?_, hbs.below (Nat.le_refl _) ((Below.refl _ _).alloc (Nat.le_refl _) _)⟩, by simp; omega, hb.alloc hs _⟩
  have := World.alloc_heap_new w1 (.cells #[.slice a2 l.length cap2, .int .i64 0] 231)
  simpa using this


/-! ### uint64 -/

set_option maxRecDepth 100000 in
set_option maxHeartbeats 1000000 in
theorem some_u64_err (t : Nat) (s : TSt) (n : Int) (w : World) (h : Tk w t s) (he : s.e ≠ 0) :
    Calls Tryz.prog 105 #[.pointer (some ⟨t, 0, none⟩), .int .i64 n, .func (.func 106) #[] #[]] w fun e w' => e = .returned (.int .u64 0) ∧ w = w' := by
  obtain ⟨a, cap, hblk, hbs⟩ := h
  have hc1 : w.cell? ⟨t, 1, none⟩ = some (.int .i64 s.e) := by simp [World.cell?, hblk]
  have hne : (s.e == 0) = false := by simpa using he
  have hne' : (s.e != 0) = true := by simpa using he
  clear he
  generalize s.e = er at *
  go_enter Tryz.func105, Tryz.ntmps105
  go_wp2
  go_ret
  exact ⟨rfl, rfl⟩

set_option maxRecDepth 100000 in
set_option maxHeartbeats 1000000 in
theorem some_u64_any (t : Nat) (s : TSt) (n : Nat) (w : World) (h : Tk w t s) (h8 : n ≤ 8) (hreach : s.l.length ≤ 140737488351232) :
    Calls Tryz.prog 105 #[.pointer (some ⟨t, 0, none⟩), .int .i64 n, .func (.func 106) #[] #[]] w (TkPost w t (fun _ v => v = .int .u64 (beVal (takeF s n).1)) (takeF s n).2) := by
  by_cases he : s.e ≠ 0
  · refine (some_u64_err t s n w h he).mono ?_
    rintro e w' ⟨rfl, rfl⟩
    refine ⟨_, rfl, ?_, grown_below (Below.refl _ _) _, ?_⟩
    · simp only [takeF, if_pos he]; try rfl
    · simp only [takeF, if_pos he]; exact h
  · obtain ⟨sl, se⟩ := s
    obtain rfl : se = 0 := by simpa using he
    clear he
    have hT := h
    obtain ⟨a, cap, hblk, hbs⟩ := h
    dsimp only at hbs hblk hreach
    have hc0 : w.cell? ⟨t, 0, none⟩ = some (.slice a sl.length cap) := by simp [World.cell?, hblk]
    have hc1 : w.cell? ⟨t, 1, none⟩ = some (.int .i64 0) := by simp [World.cell?, hblk]
    have hf0 : w.frozen? ⟨t, 0, none⟩ = false := by simp [World.frozen?, hblk]
    have hf1 : w.frozen? ⟨t, 1, none⟩ = false := by simp [World.frozen?, hblk]
    have hm := hbs.cap
    unfold maxLen at hm
    by_cases hlt : sl.length < n
    · have hts : takeF ⟨sl, 0⟩ n = ([], ⟨sl, 10⟩) := by simp [takeF, hlt]
      rw [hts]
      clear hts
      have hnew : Tk (w.setCell ⟨t, 1, none⟩ (.int .i64 10)) t ⟨sl, 10⟩ :=
        ⟨a, cap, heap_setCell_at 1 (.int .i64 10) hblk, hbs.grown (grown_setCell _ _ _) (bs_ne hblk hbs)⟩
      have hgr := grown_setCell w ⟨t, 1, none⟩ (.int .i64 10)
      clear hblk hbs hT
      go_enter Tryz.func105, Tryz.ntmps105
      go_wp2
      go_ret
      exact ⟨_, rfl, rfl, hgr, hnew⟩
    · have hts : takeF ⟨sl, 0⟩ n = (sl.take n, ⟨sl.drop n, 0⟩) := by simp [takeF, hlt]
      rw [hts]
      clear hts
      obtain ⟨a2, ha2, hsl⟩ := slice_from elem_bytes size_bytes a sl.length cap n (by omega)
      have q1 := hbs.take n (by omega)
      have q2 := hbs.drop n (by omega)
      rw [← ha2] at q2
      clear ha2
      have hgr := grown_setCell w ⟨t, 0, none⟩ (.slice a2 (sl.length - n) (cap - n))
      have hnew : Tk (w.setCell ⟨t, 0, none⟩ (.slice a2 (sl.length - n) (cap - n))) t ⟨sl.drop n, 0⟩ :=
        ⟨a2, cap - n, by rw [List.length_drop]; exact heap_setCell_at 0 (.slice a2 (sl.length - n) (cap - n)) hblk, by rw [List.length_drop]; exact q2.grown hgr (bs_ne hblk q2)⟩
      have q1' := q1.grown hgr (bs_ne hblk q1)
      clear hblk hbs hT q1 q2
      go_enter Tryz.func105, Tryz.ntmps105
      go_wp2_with fail
      refine (num1_any _ _ _ _ _ q1' h8).mono ?_
      rintro e w2 ⟨rfl, rfl⟩
      go_wp2
      go_ret
      exact ⟨_, rfl, rfl, hgr, hnew⟩
/-! ### string -/

set_option maxRecDepth 100000 in
set_option maxHeartbeats 1000000 in
theorem some_str_err (t : Nat) (s : TSt) (n : Int) (w : World) (h : Tk w t s) (he : s.e ≠ 0) :
    Calls Tryz.prog 107 #[.pointer (some ⟨t, 0, none⟩), .int .i64 n, .func (.func 108) #[] #[]] w fun e w' => e = .returned (.string (strOf [])) ∧ w = w' := by
  obtain ⟨a, cap, hblk, hbs⟩ := h
  have hc1 : w.cell? ⟨t, 1, none⟩ = some (.int .i64 s.e) := by simp [World.cell?, hblk]
  have hne : (s.e == 0) = false := by simpa using he
  have hne' : (s.e != 0) = true := by simpa using he
  clear he
  generalize s.e = er at *
  go_enter Tryz.func107, Tryz.ntmps107
  go_wp2
  go_ret
  exact ⟨rfl, rfl⟩

set_option maxRecDepth 100000 in
set_option maxHeartbeats 1000000 in
theorem some_str_any (t : Nat) (s : TSt) (n : Nat) (w : World) (h : Tk w t s) (hreach : s.l.length ≤ 140737488351232) :
    Calls Tryz.prog 107 #[.pointer (some ⟨t, 0, none⟩), .int .i64 n, .func (.func 108) #[] #[]] w (TkPost w t (fun _ v => v = .string (strOf (takeF s n).1)) (takeF s n).2) := by
  by_cases he : s.e ≠ 0
  · refine (some_str_err t s n w h he).mono ?_
    rintro e w' ⟨rfl, rfl⟩
    refine ⟨_, rfl, ?_, grown_below (Below.refl _ _) _, ?_⟩
    · simp only [takeF, if_pos he]; try rfl
    · simp only [takeF, if_pos he]; exact h
  · obtain ⟨sl, se⟩ := s
    obtain rfl : se = 0 := by simpa using he
    clear he
    have hT := h
    obtain ⟨a, cap, hblk, hbs⟩ := h
    dsimp only at hbs hblk hreach
    have hc0 : w.cell? ⟨t, 0, none⟩ = some (.slice a sl.length cap) := by simp [World.cell?, hblk]
    have hc1 : w.cell? ⟨t, 1, none⟩ = some (.int .i64 0) := by simp [World.cell?, hblk]
    have hf0 : w.frozen? ⟨t, 0, none⟩ = false := by simp [World.frozen?, hblk]
    have hf1 : w.frozen? ⟨t, 1, none⟩ = false := by simp [World.frozen?, hblk]
    have hm := hbs.cap
    unfold maxLen at hm
    by_cases hlt : sl.length < n
    · have hts : takeF ⟨sl, 0⟩ n = ([], ⟨sl, 10⟩) := by simp [takeF, hlt]
      rw [hts]
      clear hts
      have hnew : Tk (w.setCell ⟨t, 1, none⟩ (.int .i64 10)) t ⟨sl, 10⟩ :=
        ⟨a, cap, heap_setCell_at 1 (.int .i64 10) hblk, hbs.grown (grown_setCell _ _ _) (bs_ne hblk hbs)⟩
      have hgr := grown_setCell w ⟨t, 1, none⟩ (.int .i64 10)
      clear hblk hbs hT
      go_enter Tryz.func107, Tryz.ntmps107
      go_wp2
      go_ret
      exact ⟨_, rfl, rfl, hgr, hnew⟩
    · have hts : takeF ⟨sl, 0⟩ n = (sl.take n, ⟨sl.drop n, 0⟩) := by simp [takeF, hlt]
      rw [hts]
      clear hts
      obtain ⟨a2, ha2, hsl⟩ := slice_from elem_bytes size_bytes a sl.length cap n (by omega)
      have q1 := hbs.take n (by omega)
      have q2 := hbs.drop n (by omega)
      rw [← ha2] at q2
      clear ha2
      have hgr := grown_setCell w ⟨t, 0, none⟩ (.slice a2 (sl.length - n) (cap - n))
      have hnew : Tk (w.setCell ⟨t, 0, none⟩ (.slice a2 (sl.length - n) (cap - n))) t ⟨sl.drop n, 0⟩ :=
        ⟨a2, cap - n, by rw [List.length_drop]; exact heap_setCell_at 0 (.slice a2 (sl.length - n) (cap - n)) hblk, by rw [List.length_drop]; exact q2.grown hgr (bs_ne hblk q2)⟩
      have q1' := q1.grown hgr (bs_ne hblk q1)
      clear hblk hbs hT q1 q2
      go_enter Tryz.func107, Tryz.ntmps107
      go_wp2_with fail
      refine (text1_any _ _ _ _ _ q1' ).mono ?_
      rintro e w2 ⟨rfl, rfl⟩
      go_wp2
      go_ret
      exact ⟨_, rfl, rfl, hgr, hnew⟩
/-! ### []byte -/


end Go.Proofs.YtpghlmcoajaiiaaGreatDoor

/- The walks of the chapter on numbers and texts as bytes: a taker's methods. -/
namespace Go.Proofs.YtpghlmcoajaiiaaGreatDoor
open Go.RowKit

/-! a taker that there isn't -/

/-! a taker -/
set_option maxRecDepth 100000 in
set_option maxHeartbeats 1000000 in
theorem tErr_any (t : Nat) (s : TSt) (w : World) (h : Tk w t s) :
    Calls Tryz.prog 109 #[.pointer (some ⟨t, 0, none⟩)] w fun e w' => e = .returned (.int .i64 s.e) ∧ w = w' := by
  obtain ⟨a, cap, hblk, hbs⟩ := h
  have hc1 : w.cell? ⟨t, 1, none⟩ = some (.int .i64 s.e) := by simp [World.cell?, hblk]
  go_enter Tryz.func109, Tryz.ntmps109
  go_wp2
  go_ret
  exact ⟨rfl, rfl⟩

set_option maxRecDepth 100000 in
set_option maxHeartbeats 1000000 in
theorem tDone_any (t : Nat) (s : TSt) (w : World) (h : Tk w t s) :
    Calls Tryz.prog 59 #[.pointer (some ⟨t, 0, none⟩)] w fun e w' => e = .returned (.int .i64 (tDone s)) ∧ w = w' := by
  have hE := tErr_any t s w h
  obtain ⟨a, cap, hblk, hbs⟩ := h
  have hc0 : w.cell? ⟨t, 0, none⟩ = some (.slice a s.l.length cap) := by simp [World.cell?, hblk]
  have hm := hbs.cap
  unfold maxLen at hm
  by_cases he : s.e = 0
  · have hd : tDone s = if s.l.length = 0 then 0 else 11 := by simp [tDone, he]
    rw [he] at hE
    have hne' : ((s.l.length : Int) == 0) = decide (s.l.length = 0) := by
      by_cases h0 : s.l.length = 0 <;> simp [h0]
    by_cases h0 : s.l.length = 0
    · rw [if_pos h0] at hd
      have HD := Lib.hid hd
      have hz : ((s.l.length : Int) == 0) = true := by simp [h0]
      clear hd h0 hne' he
      go_enter Tryz.func59, Tryz.ntmps59
      go_wp2_with fail
      refine hE.mono ?_
      rintro e w' ⟨rfl, rfl⟩
      go_wp2
      go_ret
      exact ⟨ret_int HD.out.symm, rfl⟩
    · rw [if_neg h0] at hd
      have HD := Lib.hid hd
      have hz : ((s.l.length : Int) == 0) = false := by simp [h0]
      clear hd h0 hne' he
      go_enter Tryz.func59, Tryz.ntmps59
      go_wp2_with fail
      refine hE.mono ?_
      rintro e w' ⟨rfl, rfl⟩
      go_wp2
      go_ret
      exact ⟨ret_int HD.out.symm, rfl⟩
  · have HD := Lib.hid (show tDone s = s.e by simp [tDone, he])
    have hne : (s.e == 0) = false := by simpa using he
    have hne' : (s.e != 0) = true := by simpa using he
    clear he
    generalize s.e = er at *
    go_enter Tryz.func59, Tryz.ntmps59
    go_wp2_with fail
    refine hE.mono ?_
    rintro e w' ⟨rfl, rfl⟩
    go_wp2
    go_ret
    exact ⟨ret_int HD.out.symm, rfl⟩

set_option maxRecDepth 100000 in
set_option maxHeartbeats 1000000 in
theorem tNum_any (t : Nat) (s : TSt) (size : Int) (w : World) (h : Tk w t s) (hreach : s.l.length ≤ 140737488351232) :
    Calls Tryz.prog 57 #[.pointer (some ⟨t, 0, none⟩), .int .i64 size] w (TkPost w t (fun _ v => v = .int .u64 ((tNum s size).1 : Int)) (tNum s size).2) := by
  have hT := h
  obtain ⟨a, cap, hblk, hbs⟩ := h
  have hc1 : w.cell? ⟨t, 1, none⟩ = some (.int .i64 s.e) := by simp [World.cell?, hblk]
  have hf1 : w.frozen? ⟨t, 1, none⟩ = false := by simp [World.frozen?, hblk]
  by_cases he : s.e = 0
  · by_cases hsz : size < 1 ∨ 8 < size
    · have hr : tNum s size = (0, { s with e := 1 }) := by simp [tNum, he, hsz]
      rw [hr]
      have hnew : Tk (w.setCell ⟨t, 1, none⟩ (.int .i64 1)) t { s with e := 1 } :=
        ⟨a, cap, heap_setCell_at 1 (.int .i64 1) hblk, hbs.grown (grown_setCell _ _ _) (bs_ne hblk hbs)⟩
      have hgr := grown_setCell w ⟨t, 1, none⟩ (.int .i64 1)
      rw [he] at hc1
      clear hr hblk hbs hT he
      rcases hsz with hsz | hsz
      · go_enter Tryz.func57, Tryz.ntmps57
        go_wp2
        go_ret
        exact ⟨_, rfl, rfl, hgr, hnew⟩
      · have hsz' : ¬ size < 1 := by omega
        go_enter Tryz.func57, Tryz.ntmps57
        go_wp2
        go_ret
        exact ⟨_, rfl, rfl, hgr, hnew⟩
    · obtain ⟨n, rfl⟩ := Int.eq_ofNat_of_zero_le (show 0 ≤ size by omega)
      have hr : tNum s (n : Int) = (beVal (takeF s n).1, (takeF s n).2) := by simp only [tNum]; rw [if_neg (fun h => hsz h.2)]; rfl
      rw [hr]
      have hs1 : ¬ (n : Int) < 1 := by omega
      have hs2 : ¬ (8 : Int) < (n : Int) := by omega
      have hcall := some_u64_any t s n w hT (by omega) hreach
      rw [he] at hc1
      clear hr hblk hbs hT he hsz
      go_enter Tryz.func57, Tryz.ntmps57
      go_wp2_with fail
      refine hcall.mono ?_
      rintro e w' ⟨v, rfl, rfl, hgr, hnew⟩
      go_wp2
      go_ret
      exact ⟨_, rfl, rfl, hgr, hnew⟩
  · have hr : tNum s size = (0, s) := by simp [tNum, takeF, he, beVal_nil]
    rw [hr]
    have hcall := some_u64_err t s size w hT he
    have hne : (s.e == 0) = false := by simpa using he
    clear hr hblk hbs he
    generalize s.e = er at *
    go_enter Tryz.func57, Tryz.ntmps57
    go_wp2_with fail
    refine hcall.mono ?_
    rintro e w' ⟨rfl, rfl⟩
    go_wp2
    go_ret
    exact ⟨_, rfl, rfl, grown_below (Below.refl _ _) _, hT⟩

theorem takeF_len (s : TSt) (n : Nat) : (takeF s n).2.l.length ≤ s.l.length := by
  unfold takeF; split
  · exact Nat.le_refl _
  · split
    · exact Nat.le_refl _
    · simp
theorem tNum_len (s : TSt) (size : Int) : (tNum s size).2.l.length ≤ s.l.length := by
  unfold tNum; split
  · exact Nat.le_refl _
  · exact takeF_len _ _
theorem takeF_le (s : TSt) (n : Nat) : (takeF s n).1.length ≤ n := by
  unfold takeF; split
  · simp
  · split
    · simp
    · simp; omega
theorem tNum_lt (s : TSt) (k : Nat) : (tNum s (k : Int)).1 < 256 ^ k := by
  unfold tNum; split
  · exact Nat.pow_pos (by decide)
  · exact Nat.lt_of_lt_of_le (beVal_lt _) (Nat.pow_le_pow_right (by decide) (takeF_le _ _))

set_option maxRecDepth 100000 in
set_option maxHeartbeats 1000000 in
theorem tText_any (t : Nat) (s : TSt) (w : World) (h : Tk w t s) (hreach : s.l.length ≤ 140737488351232) :
    Calls Tryz.prog 58 #[.pointer (some ⟨t, 0, none⟩)] w (TkPost w t (fun _ v => v = .string (strOf (tText s).1)) (tText s).2) := by
  have hlt := tNum_lt s 1
  have hlen := tNum_len s 1
  have hcall := tNum_any t s 1 w h hreach
  obtain ⟨n, s1, hs⟩ : ∃ n s1, tNum s 1 = (n, s1) := ⟨_, _, rfl⟩
  have hr : tText s = takeF s1 n := by simp [tText, hs]
  have hs' : tNum s ((1 : Nat) : Int) = (n, s1) := hs
  rw [hs] at hcall hlen
  rw [hs'] at hlt
  rw [hr]
  dsimp only at hlt hlen hcall
  clear hr hs hs'
  go_enter Tryz.func58, Tryz.ntmps58
  go_wp2_with fail
  refine hcall.mono ?_
  rintro e w1 ⟨v, rfl, rfl, hgr, hnew⟩
  go_wp2_with fail
  refine (some_str_any t s1 n w1 hnew (by omega)).mono ?_
  rintro e w2 ⟨v, rfl, rfl, hgr2, hnew2⟩
  go_wp2
  go_ret
  exact ⟨_, rfl, rfl, grown_trans hgr hgr2, hnew2⟩

end Go.Proofs.YtpghlmcoajaiiaaGreatDoor

/- Records: the record of bytes. -/
namespace Go.Proofs.YtpghlmcoajaiiaaGreatDoor
open Go.RowKit

/-- What is left behind the first numbers. -/
def gN (l : List UInt8) : Nat → TSt
  | 0 => ⟨l, 0⟩
  | i + 1 => (tNum (gN l i) 1).2
def gV (l : List UInt8) (i : Nat) : Nat := (tNum (gN l i) 1).1
/-- .. and behind the first texts. -/
def gT (l : List UInt8) : Nat → TSt
  | 0 => gN l 3
  | i + 1 => (tText (gT l i)).2
def gS (l : List UInt8) (i : Nat) : List UInt8 := (tText (gT l i)).1
def gE (l : List UInt8) : TSt := (tNum (gT l 2) 4).2
def gD (l : List UInt8) : Nat := (tNum (gT l 2) 4).1
def getRec (l : List UInt8) : RcD := ⟨(gV l 0 : Int), (gV l 1 : Int), (gV l 2 : Int), gS l 0, gS l 1, gD l⟩
def zeroRc : RcD := ⟨0, 0, 0, [], [], 0⟩
/-- The record of bytes, or the error. -/
def getR (l : List UInt8) : RcD := if tDone (gE l) = 0 then getRec l else zeroRc
def getRE (l : List UInt8) : Int := tDone (gE l)
theorem gN_len (l : List UInt8) : ∀ i, (gN l i).l.length ≤ l.length
  | 0 => Nat.le_refl _
  | i + 1 => Nat.le_trans (tNum_len _ _) (gN_len l i)
theorem tText_len (s : TSt) : (tText s).2.l.length ≤ s.l.length := Nat.le_trans (takeF_len _ _) (tNum_len _ _)
theorem gT_len (l : List UInt8) : ∀ i, (gT l i).l.length ≤ l.length
  | 0 => gN_len l 3
  | i + 1 => Nat.le_trans (tText_len _) (gT_len l i)
theorem gV_lt (l : List UInt8) (i : Nat) : gV l i < 256 := by
  have := tNum_lt (gN l i) 1
  simpa [gV] using this
theorem gD_lt (l : List UInt8) : gD l < 4294967296 := by
  have := tNum_lt (gT l 2) 4
  simpa [gD] using this
theorem Tk.below' {w w' : World} {t : Nat} {s : TSt} (h : Tk w t s) (hb : Below w.heap.size w w') : Tk w' t s := by
  obtain ⟨a, cap, h1, h2⟩ := h
  exact ⟨a, cap, (hb.block t (Array.getElem?_eq_some_iff.1 h1).1).trans h1, h2.below (Nat.le_refl _) hb⟩
/-- A box that holds no byte is written: the taker stays. -/
theorem Tk.set_box {w : World} {t : Nat} {s : TSt} (h : Tk w t s) {rb : Nat} {vs : List Value} (hx : Boxes w [(rb, vs)]) (hvs : ∀ v ∈ vs, ∀ n, v ≠ .int .u8 n) (hne : t ≠ rb) (i : Nat) (u : Value) : Tk (w.setCell ⟨rb, i, none⟩ u) t s := by
  obtain ⟨a, cap, h1, h2, h3, h4, h5, h6⟩ := h
  refine ⟨a, cap, (Below.heap_setCell w ⟨rb, i, none⟩ u t hne).trans h1, h2, h3, h4, h5, ?_⟩
  rcases h6 with h6 | ⟨b, off, e, hb, hc⟩
  · exact .inl h6
  · by_cases hl : s.l.length = 0
    · exact .inl hl
    · refine .inr ⟨b, off, e, by simpa using hb, fun k hk => ?_⟩
      have hbr : b ≠ rb := by
        intro e9
        subst e9
        have h9 := hc 0 (by omega)
        obtain ⟨ty, hty⟩ := hx (b, vs) (by simp)
        simp only [World.cell?, hty] at h9
        have h8 : vs[off]? = some (.int .u8 ((toI s.l)[0]?.getD 0)) := by simpa using h9
        exact hvs _ (List.mem_of_getElem? h8) _ rfl
      rw [World.cell?_of_block (Below.heap_setCell w ⟨rb, i, none⟩ u b hbr)]
      exact hc k hk
def zRc : List Value := [.int .i64 0, .int .i64 0, .int .i64 0, .string ByteArray.empty, .string ByteArray.empty, .int .u32 0]
/-- The record's box behind so many numbers. -/
def NumBox (l : List UInt8) (i rb : Nat) (rest : List (Nat × List Value)) (w : World) : Prop :=
  ∃ c0 c1 c2 : Int, (0 < i → c0 = gV l 0) ∧ (1 < i → c1 = gV l 1) ∧ (2 < i → c2 = gV l 2) ∧ Boxes w ((rb, [.int .i64 c0, .int .i64 c1, .int .i64 c2, .string ByteArray.empty, .string ByteArray.empty, .int .u32 0]) :: rest)
theorem NumBox.put {l : List UInt8} {i rb : Nat} {rest : List (Nat × List Value)} {w : World} (h : NumBox l i rb rest w) (hi : i < 3) (hne : ∀ p ∈ rest, p.1 ≠ rb) : NumBox l (i + 1) rb rest (w.setCell ⟨rb, i, none⟩ (.int .i64 (gV l i : Int))) := by
  obtain ⟨c0, c1, c2, h0, h1, h2, hx⟩ := h
  match i, hi with
  | 0, _ => exact ⟨_, c1, c2, fun _ => rfl, (fun h => by omega), (fun h => by omega), hx.put 0 _ hne⟩
  | 1, _ => exact ⟨c0, _, c2, (fun _ => h0 (by omega)), fun _ => rfl, (fun h => by omega), hx.put 1 _ hne⟩
  | 2, _ => exact ⟨c0, c1, _, (fun _ => h0 (by omega)), (fun _ => h1 (by omega)), fun _ => rfl, hx.put 2 _ hne⟩
theorem NumBox.facts {l : List UInt8} {i rb : Nat} {rest : List (Nat × List Value)} {w : World} (h : NumBox l i rb rest w) (hi : i < 3) : (∃ v, w.cell? ⟨rb, i, none⟩ = some v) ∧ w.frozen? ⟨rb, i, none⟩ = false := by
  obtain ⟨c0, c1, c2, h0, h1, h2, hx⟩ := h
  refine ⟨?_, hx.frozen 0 i rfl⟩
  match i, hi with
  | 0, _ => exact ⟨_, hx.cell 0 0 rfl rfl⟩
  | 1, _ => exact ⟨_, hx.cell 0 1 rfl rfl⟩
  | 2, _ => exact ⟨_, hx.cell 0 2 rfl rfl⟩
theorem NumBox.grown {l : List UInt8} {i rb : Nat} {rest : List (Nat × List Value)} {w w' : World} (h : NumBox l i rb rest w) {t : Nat} (hg : w.grownBy w' (some t)) (hne : t ≠ rb) (hr : ∀ p ∈ rest, t ≠ p.1) : NumBox l i rb rest w' := by
  obtain ⟨c0, c1, c2, h0, h1, h2, hx⟩ := h
  refine ⟨c0, c1, c2, h0, h1, h2, hx.grown hg (fun p hp => ?_)⟩
  rcases List.mem_cons.1 hp with rfl | hp
  · intro e; exact hne (Option.some.inj e)
  · intro e; exact hr p hp (Option.some.inj e)
theorem NumBox.tk {l : List UInt8} {i rb : Nat} {rest : List (Nat × List Value)} {w : World} (h : NumBox l i rb rest w) {t : Nat} {s : TSt} (ht : Tk w t s) (hne : t ≠ rb) (k : Nat) (u : Value) : Tk (w.setCell ⟨rb, k, none⟩ u) t s := by
  obtain ⟨c0, c1, c2, h0, h1, h2, hx⟩ := h
  have hx1 : Boxes w [(rb, [.int .i64 c0, .int .i64 c1, .int .i64 c2, .string ByteArray.empty, .string ByteArray.empty, .int .u32 0])] := hx.sub (by intro p hp; simp at hp; subst hp; simp)
  refine ht.set_box hx1 (fun v hv n => ?_) hne k u
  simp at hv
  rcases hv with rfl | rfl | rfl | rfl | rfl <;> (intro e; cases e)
theorem NumBox.box {l : List UInt8} {i rb : Nat} {rest : List (Nat × List Value)} {w : World} (h : NumBox l i rb rest w) : Boxes w rest := by
  obtain ⟨c0, c1, c2, h0, h1, h2, hx⟩ := h
  exact hx.sub (fun p hp => List.mem_cons_of_mem _ hp)
/-- The record's box behind so many texts. -/
def TxtBox (l : List UInt8) (i rb : Nat) (rest : List (Nat × List Value)) (w : World) : Prop :=
  ∃ s0 s1 : List UInt8, (0 < i → s0 = gS l 0) ∧ (1 < i → s1 = gS l 1) ∧ Boxes w ((rb, [.int .i64 (gV l 0 : Int), .int .i64 (gV l 1 : Int), .int .i64 (gV l 2 : Int), .string (strOf s0), .string (strOf s1), .int .u32 0]) :: rest)
theorem TxtBox.put {l : List UInt8} {i rb : Nat} {rest : List (Nat × List Value)} {w : World} (h : TxtBox l i rb rest w) (hi : i < 2) (hne : ∀ p ∈ rest, p.1 ≠ rb) : TxtBox l (i + 1) rb rest (w.setCell ⟨rb, 3 + i, none⟩ (.string (strOf (gS l i)))) := by
  obtain ⟨c0, c1, h0, h1, hx⟩ := h
  match i, hi with
  | 0, _ => exact ⟨_, c1, fun _ => rfl, (fun h => by omega), hx.put 3 _ hne⟩
  | 1, _ => exact ⟨c0, _, (fun _ => h0 (by omega)), fun _ => rfl, hx.put 4 _ hne⟩
theorem TxtBox.facts {l : List UInt8} {i rb : Nat} {rest : List (Nat × List Value)} {w : World} (h : TxtBox l i rb rest w) (hi : i < 2) : (∃ v, w.cell? ⟨rb, 3 + i, none⟩ = some v) ∧ w.frozen? ⟨rb, 3 + i, none⟩ = false := by
  obtain ⟨c0, c1, h0, h1, hx⟩ := h
  refine ⟨?_, hx.frozen 0 _ rfl⟩
  match i, hi with
  | 0, _ => exact ⟨_, hx.cell 0 3 rfl rfl⟩
  | 1, _ => exact ⟨_, hx.cell 0 4 rfl rfl⟩
theorem TxtBox.grown {l : List UInt8} {i rb : Nat} {rest : List (Nat × List Value)} {w w' : World} (h : TxtBox l i rb rest w) {t : Nat} (hg : w.grownBy w' (some t)) (hne : t ≠ rb) (hr : ∀ p ∈ rest, t ≠ p.1) : TxtBox l i rb rest w' := by
  obtain ⟨c0, c1, h0, h1, hx⟩ := h
  refine ⟨c0, c1, h0, h1, hx.grown hg (fun p hp => ?_)⟩
  rcases List.mem_cons.1 hp with rfl | hp
  · intro e; exact hne (Option.some.inj e)
  · intro e; exact hr p hp (Option.some.inj e)
theorem TxtBox.tk {l : List UInt8} {i rb : Nat} {rest : List (Nat × List Value)} {w : World} (h : TxtBox l i rb rest w) {t : Nat} {s : TSt} (ht : Tk w t s) (hne : t ≠ rb) (k : Nat) (u : Value) : Tk (w.setCell ⟨rb, k, none⟩ u) t s := by
  obtain ⟨c0, c1, h0, h1, hx⟩ := h
  have hx1 : Boxes w [(rb, [.int .i64 (gV l 0 : Int), .int .i64 (gV l 1 : Int), .int .i64 (gV l 2 : Int), .string (strOf c0), .string (strOf c1), .int .u32 0])] := hx.sub (by intro p hp; simp at hp; subst hp; simp)
  refine ht.set_box hx1 (fun v hv n => ?_) hne k u
  simp at hv
  rcases hv with rfl | rfl | rfl | rfl | rfl | rfl <;> (intro e; cases e)
theorem TxtBox.box {l : List UInt8} {i rb : Nat} {rest : List (Nat × List Value)} {w : World} (h : TxtBox l i rb rest w) : Boxes w rest := by
  obtain ⟨c0, c1, h0, h1, hx⟩ := h
  exact hx.sub (fun p hp => List.mem_cons_of_mem _ hp)
set_option maxRecDepth 100000 in
set_option maxHeartbeats 4000000 in
set_option maxRecDepth 100000 in
theorem recget_any (l : List UInt8) (w : World) (hl : l.length ≤ 100000) :
    Calls Tryz.prog 20 #[.string (strOf l)] w fun e w' => e = .returned (.tuple #[rcV (getR l), .int .i64 (getRE l)]) ∧ Below w.heap.size w w' := by
  obtain ⟨W1, hW1⟩ : ∃ x, w.alloc (.cells #[.int .i64 0, .int .i64 0, .int .i64 0, .string ByteArray.empty, .string ByteArray.empty, .int .u32 0] 64) = x := ⟨_, rfl⟩
  have hx1 : Boxes W1 [(w.heap.size, [.int .i64 0, .int .i64 0, .int .i64 0, .string ByteArray.empty, .string ByteArray.empty, .int .u32 0])] := by
    rw [← hW1]
    exact (Boxes.nil w).alloc #[.int .i64 0, .int .i64 0, .int .i64 0, .string ByteArray.empty, .string ByteArray.empty, .int .u32 0] 64 (b := w.heap.size) rfl
  have hb1 : Below w.heap.size w W1 := by rw [← hW1]; exact Below.al (Below.refl _ _)
  have hzr : ∀ W, (zeroValue 64).run Tryz.prog W = .ok (.agg #[.int .i64 0, .int .i64 0, .int .i64 0, .string ByteArray.empty, .string ByteArray.empty, .int .u32 0]) W := fun W => by kernel_rfl
  obtain ⟨c2, W2, hcv, hbs, hb2⟩ := str_bytes (P := Tryz.prog) W1 Tryz.underlying9 Tryz.underlying42 Tryz.underlying5 l (by omega)
  have C1 := take_any _ _ _ _ W2 hbs (by omega)
  go_enter Tryz.func20, Tryz.ntmps20
  go_wp2_with fail
  refine C1.mono ?_
  rintro e w3 ⟨rfl, htk, hge, hb3⟩
  obtain ⟨t, ht⟩ : ∃ t, w3.heap.size - 1 = t := ⟨_, rfl⟩
  rw [ht] at htk hge ⊢
  have htlt := htk.lt
  have hb13 := below_via hb1 (below_via hb2 hb3)
  have hx3 := hx1.step (below_via hb2 hb3)
  have hwt : w.heap.size < t := by have := hx1.lt 0 rfl; have := hb2.size; omega
  obtain ⟨rb, hrb⟩ : ∃ z, w3.heap.size = z := ⟨_, rfl⟩
  obtain ⟨W4, hW4⟩ : ∃ x, w3.alloc (.cells #[.int .i64 0, .int .i64 0, .int .i64 0, .string ByteArray.empty, .string ByteArray.empty, .int .u32 0] 64) = x := ⟨_, rfl⟩
  have hx4 : Boxes W4 [(rb, [.int .i64 0, .int .i64 0, .int .i64 0, .string ByteArray.empty, .string ByteArray.empty, .int .u32 0]), (w.heap.size, [.int .i64 0, .int .i64 0, .int .i64 0, .string ByteArray.empty, .string ByteArray.empty, .int .u32 0])] := by
    rw [← hW4, ← hrb]
    exact hx3.alloc #[.int .i64 0, .int .i64 0, .int .i64 0, .string ByteArray.empty, .string ByteArray.empty, .int .u32 0] 64 (b := w3.heap.size) rfl
  have hb4 : Below w3.heap.size w3 W4 := by rw [← hW4]; exact Below.al (Below.refl _ _)
  have hs4 : W4.heap.size = rb + 1 := by rw [← hW4, World.size_alloc, hrb]
  obtain ⟨W5, hW5⟩ : ∃ x, W4.alloc (.cells #[.pointer (some ⟨rb, 0, none⟩), .pointer (some ⟨rb, 1, none⟩), .pointer (some ⟨rb, 2, none⟩)] 148) = x := ⟨_, rfl⟩
  have hb5 : Below W4.heap.size W4 W5 := by rw [← hW5]; exact Below.al (Below.refl _ _)
  have hx5 : Boxes W5 [(rb, [.int .i64 0, .int .i64 0, .int .i64 0, .string ByteArray.empty, .string ByteArray.empty, .int .u32 0]), (rb + 1, [.pointer (some ⟨rb, 0, none⟩), .pointer (some ⟨rb, 1, none⟩), .pointer (some ⟨rb, 2, none⟩)]), (w.heap.size, [.int .i64 0, .int .i64 0, .int .i64 0, .string ByteArray.empty, .string ByteArray.empty, .int .u32 0])] := by
    have h9 : Boxes W5 [(rb + 1, [.pointer (some ⟨rb, 0, none⟩), .pointer (some ⟨rb, 1, none⟩), .pointer (some ⟨rb, 2, none⟩)]), (rb, [.int .i64 0, .int .i64 0, .int .i64 0, .string ByteArray.empty, .string ByteArray.empty, .int .u32 0]), (w.heap.size, [.int .i64 0, .int .i64 0, .int .i64 0, .string ByteArray.empty, .string ByteArray.empty, .int .u32 0])] := by
      rw [← hW5, ← hs4]
      exact hx4.alloc #[.pointer (some ⟨rb, 0, none⟩), .pointer (some ⟨rb, 1, none⟩), .pointer (some ⟨rb, 2, none⟩)] 148 (b := W4.heap.size) rfl
    exact h9.sub (by intro p hp; simp at hp ⊢; rcases hp with rfl | rfl | rfl <;> simp)
  have htk5 : Tk W5 t ⟨l, 0⟩ := htk.below' (below_via hb4 hb5)
  have HX5 := Lib.hid hx5
  have HT5 := Lib.hid htk5
  have HB5 := Lib.hid (below_via hb13 (below_via hb4 hb5))
  have htr : t < rb := by omega
  clear hx1 hb1 hcv hbs hb2 C1 htk hge hb3 hb13 hx3 hx4 hb4 hx5 hb5 htk5 ht htlt
  have HN5 : Hid (NumBox l 0 rb [(rb + 1, [.pointer (some ⟨rb, 0, none⟩), .pointer (some ⟨rb, 1, none⟩), .pointer (some ⟨rb, 2, none⟩)]), (w.heap.size, zRc)] W5) := Lib.hid ⟨0, 0, 0, (fun h => by omega), (fun h => by omega), (fun h => by omega), HX5.out⟩
  clear HX5
  go_wp2_with fail
  go_loopw [19] (fun s wr => ∃ i : Nat, i ≤ 3 ∧ s = .int .i64 i ∧ Tk wr t (gN l i) ∧ NumBox l i rb [(rb + 1, [.pointer (some ⟨rb, 0, none⟩), .pointer (some ⟨rb, 1, none⟩), .pointer (some ⟨rb, 2, none⟩)]), (w.heap.size, zRc)] wr ∧ Below w.heap.size w wr) (fun s _ => 3 - (intOf s).toNat)
  case atStart => exact ⟨0, by omega, rfl, HT5.out, HN5.out, HB5.out⟩
  case round =>
    clear HT5 HN5 HB5
    obtain ⟨i, hi, rfl, htk, hn, hb⟩ := hrel
    by_cases hlt : i < 3
    · have hcell : wr.cell? ⟨rb + 1, i, none⟩ = some (.pointer (some ⟨rb, i, none⟩)) := by
        match i, hlt with
        | 0, _ => exact hn.box.cell 0 0 rfl rfl
        | 1, _ => exact hn.box.cell 0 1 rfl rfl
        | 2, _ => exact hn.box.cell 0 2 rfl rfl
      have d0 : decide ((i : Int) < 3) = true := by simp; omega
      have C2 := tNum_any t (gN l i) 1 wr htk (by have := gN_len l i; omega)
      have hv9 := gV_lt l i
      have hvd : (tNum (gN l i) 1).1 = gV l i := rfl
      have hsd : (tNum (gN l i) 1).2 = gN l (i + 1) := rfl
      rw [hvd, hsd] at C2
      clear hvd hsd
      obtain ⟨gv, hgv⟩ : ∃ z, gV l i = z := ⟨_, rfl⟩
      rw [hgv] at C2 hv9
      have hwr : IntKind.i64.wrap (gv : Int) = (gv : Int) := IntWalk.i64_in _ (by omega)
      go_wp2_with fail
      refine C2.mono ?_
      rintro e w6 ⟨v, rfl, rfl, hg, htk6⟩
      have hn6 := hn.grown hg (by omega) (by intro p hp; simp at hp; rcases hp with rfl | rfl <;> (try simp) <;> omega)
      obtain ⟨⟨v6, hc6⟩, hf6⟩ := hn6.facts hlt
      have hb6 := hb.grown hg hb.size (fun k hk => by cases hk; omega)
      have HN := Lib.hid (hn6.put hlt (by intro p hp; simp at hp; rcases hp with rfl | rfl <;> (try simp) <;> omega))
      have HT := Lib.hid (hn6.tk htk6 (by omega) i (.int .i64 (gv : Int)))
      have HB := Lib.hid (hb6.setCell (p := ⟨rb, i, none⟩) (by show w.heap.size ≤ rb; omega) (.int .i64 (gv : Int)))
      have HG := Lib.hid hgv
      clear hgv hn hb htk C2 hg htk6 hn6 hb6
      go_wp2_with fail
      go_roundw
      case rel => exact ⟨i + 1, by omega, by go_num, HT.out, by have := HN.out; rwa [HG.out] at this, HB.out⟩
      case measure => simp [intOf]; omega
    · obtain rfl : i = 3 := by omega
      have d0 : decide (((3 : Nat) : Int) < 3) = false := by decide
      have e3 : ((3 : Nat) : Int) = 3 := rfl
      rw [e3] at d0
      simp only [e3]
      clear e3
      obtain ⟨c0, c1, c2, h0, h1, h2, hx⟩ := hn
      obtain rfl := h0 (by omega)
      obtain rfl := h1 (by omega)
      obtain rfl := h2 (by omega)
      obtain ⟨qb, hqb⟩ : ∃ z, wr.heap.size = z := ⟨_, rfl⟩
      have hrq : rb + 1 < qb := by have := hx.lt 1 rfl; omega
      obtain ⟨W6, hW6⟩ : ∃ x, wr.alloc (.cells #[.pointer (some ⟨rb, 3, none⟩), .pointer (some ⟨rb, 4, none⟩)] 152) = x := ⟨_, rfl⟩
      have hb6 : Below wr.heap.size wr W6 := by rw [← hW6]; exact Below.al (Below.refl _ _)
      have hx6 : Boxes W6 [(rb, [.int .i64 (gV l 0 : Int), .int .i64 (gV l 1 : Int), .int .i64 (gV l 2 : Int), .string ByteArray.empty, .string ByteArray.empty, .int .u32 0]), (qb, [.pointer (some ⟨rb, 3, none⟩), .pointer (some ⟨rb, 4, none⟩)]), (w.heap.size, zRc)] := by
        have h9 := hx.alloc #[.pointer (some ⟨rb, 3, none⟩), .pointer (some ⟨rb, 4, none⟩)] 152 hqb
        rw [hW6] at h9
        exact h9.sub (by intro p hp; simp at hp ⊢; rcases hp with rfl | rfl | rfl <;> simp)
      have HT6 : Hid (Tk W6 t (gT l 0)) := Lib.hid (htk.below' hb6)
      have HX6 : Hid (TxtBox l 0 rb [(qb, [.pointer (some ⟨rb, 3, none⟩), .pointer (some ⟨rb, 4, none⟩)]), (w.heap.size, zRc)] W6) := Lib.hid ⟨[], [], (fun h => by omega), (fun h => by omega), hx6⟩
      have HB6 := Lib.hid (below_via hb hb6)
      clear hx hx6 hb hb6 htk h0 h1 h2
      go_wp2_with fail
      go_loopw [33] (fun s wq => ∃ i : Nat, i ≤ 2 ∧ s = .int .i64 i ∧ Tk wq t (gT l i) ∧ TxtBox l i rb [(qb, [.pointer (some ⟨rb, 3, none⟩), .pointer (some ⟨rb, 4, none⟩)]), (w.heap.size, zRc)] wq ∧ Below w.heap.size w wq) (fun s _ => 2 - (intOf s).toNat)
      case atStart => exact ⟨0, by omega, rfl, HT6.out, HX6.out, HB6.out⟩
      case round =>
        clear HT6 HX6 HB6 hW6 hqb
        obtain ⟨i, hi2, rfl, htk, hn, hb⟩ := hrel
        by_cases hlt2 : i < 2
        · have hcell : wr.cell? ⟨qb, i, none⟩ = some (.pointer (some ⟨rb, 3 + i, none⟩)) := by
            match i, hlt2 with
            | 0, _ => exact hn.box.cell 0 0 rfl rfl
            | 1, _ => exact hn.box.cell 0 1 rfl rfl
          have d0 : decide ((i : Int) < 2) = true := by simp; omega
          have C2 := tText_any t (gT l i) wr htk (by have := gT_len l i; omega)
          have hvd : (tText (gT l i)).1 = gS l i := rfl
          have hsd : (tText (gT l i)).2 = gT l (i + 1) := rfl
          rw [hvd, hsd] at C2
          clear hvd hsd
          obtain ⟨gv, hgv⟩ : ∃ z, gS l i = z := ⟨_, rfl⟩
          rw [hgv] at C2
          go_wp2_with fail
          refine C2.mono ?_
          rintro e w7 ⟨v, rfl, rfl, hg, htk7⟩
          have hn7 := hn.grown hg (by omega) (by intro p hp; simp at hp; rcases hp with rfl | rfl <;> (try simp) <;> omega)
          obtain ⟨⟨v7, hc7⟩, hf7⟩ := hn7.facts hlt2
          have hb7 := hb.grown hg hb.size (fun k hk => by cases hk; omega)
          have HN := Lib.hid (hn7.put hlt2 (by intro p hp; simp at hp; rcases hp with rfl | rfl <;> (try simp) <;> omega))
          have HT := Lib.hid (hn7.tk htk7 (by omega) (3 + i) (.string (strOf gv)))
          have HB := Lib.hid (hb7.setCell (p := ⟨rb, 3 + i, none⟩) (by show w.heap.size ≤ rb; omega) (.string (strOf gv)))
          have HG := Lib.hid hgv
          clear hgv hn hb htk C2 hg htk7 hn7 hb7
          go_wp2_with fail
          go_roundw
          case rel => exact ⟨i + 1, by omega, by go_num, HT.out, by have := HN.out; rwa [HG.out] at this, HB.out⟩
          case measure => simp [intOf]; omega
        · obtain rfl : i = 2 := by omega
          have d0 : decide (((2 : Nat) : Int) < 2) = false := by decide
          obtain ⟨s0, s1, h0, h1, hx⟩ := hn
          obtain rfl := h0 (by omega)
          obtain rfl := h1 (by omega)
          have C2 := tNum_any t (gT l 2) 4 wr htk (by have := gT_len l 2; omega)
          have hvd : (tNum (gT l 2) 4).1 = gD l := rfl
          have hsd : (tNum (gT l 2) 4).2 = gE l := rfl
          rw [hvd, hsd] at C2
          have hD := gD_lt l
          obtain ⟨gd, hgd⟩ : ∃ z, gD l = z := ⟨_, rfl⟩
          rw [hgd] at C2 hD
          have hwr : IntKind.u32.wrap (gd : Int) = (gd : Int) := by
            unfold IntKind.wrap
            simp [IntKind.signed, IntKind.bits]
            omega
          clear hvd hsd
          go_wp2_with fail
          refine C2.mono ?_
          rintro e w8 ⟨v, rfl, rfl, hg, htk8⟩
          have hx8 := hx.grown hg (by intro p hp; simp at hp; rcases hp with rfl | rfl | rfl <;> (intro e; have := Option.some.inj e; (try simp at this); omega))
          have hb8 := hb.grown hg hb.size (fun k hk => by cases hk; omega)
          have f5 := hx8.cell 0 5 rfl rfl
          have z5 := hx8.frozen 0 5 rfl
          have hx9 := hx8.put 5 (.int .u32 (gd : Int)) (by intro p hp; simp at hp; rcases hp with rfl | rfl <;> (try simp) <;> omega)
          have ht9 := htk8.set_box (hx8.sub (m := [(rb, [.int .i64 (gV l 0 : Int), .int .i64 (gV l 1 : Int), .int .i64 (gV l 2 : Int), .string (strOf (gS l 0)), .string (strOf (gS l 1)), .int .u32 0])]) (by intro p hp; simp at hp; subst hp; simp)) (fun v hv n => by simp at hv; rcases hv with rfl | rfl | rfl | rfl | rfl | rfl <;> (intro e; cases e)) (by omega) 5 (.int .u32 (gd : Int))
          have hb9 := hb8.setCell (p := ⟨rb, 5, none⟩) (by show w.heap.size ≤ rb; omega) (.int .u32 (gd : Int))
          obtain ⟨W9, hW9⟩ : ∃ x, w8.setCell ⟨rb, 5, none⟩ (.int .u32 (gd : Int)) = x := ⟨_, rfl⟩
          rw [hW9] at hx9 ht9 hb9
          have C3 := tDone_any t _ W9 ht9
          have hed : tDone (gE l) = getRE l := rfl
          rw [hed] at C3
          clear hed hx hb htk hg htk8 hx8 hb8 C2
          go_wp2_with fail
          refine C3.mono ?_
          rintro e w10 ⟨rfl, rfl⟩
          have hrw : w.heap.size ≠ rb := by omega
          have g0 := hx9.cell 2 0 rfl rfl
          have y0 := hx9.frozen 2 0 rfl
          have p0 := hx9.cell 0 0 rfl rfl
          have g1 := hx9.cell 2 1 rfl rfl
          have y1 := hx9.frozen 2 1 rfl
          have p1 := hx9.cell 0 1 rfl rfl
          have g2 := hx9.cell 2 2 rfl rfl
          have y2 := hx9.frozen 2 2 rfl
          have p2 := hx9.cell 0 2 rfl rfl
          have g3 := hx9.cell 2 3 rfl rfl
          have y3 := hx9.frozen 2 3 rfl
          have p3 := hx9.cell 0 3 rfl rfl
          have g4 := hx9.cell 2 4 rfl rfl
          have y4 := hx9.frozen 2 4 rfl
          have p4 := hx9.cell 0 4 rfl rfl
          have g5 := hx9.cell 2 5 rfl rfl
          have y5 := hx9.frozen 2 5 rfl
          have p5 := hx9.cell 0 5 rfl rfl
          clear hx9 ht9 C3 hW9
          obtain ⟨er, her⟩ : ∃ z, getRE l = z := ⟨_, rfl⟩
          obtain ⟨RR, hRR⟩ : ∃ z, rcV (getR l) = z := ⟨_, rfl⟩
          by_cases he : er = 0
          · have hR : RR = .agg #[.int .i64 (gV l 0 : Int), .int .i64 (gV l 1 : Int), .int .i64 (gV l 2 : Int), .string (strOf (gS l 0)), .string (strOf (gS l 1)), .int .u32 (gd : Int)] := by
              rw [← hRR]
              unfold getR
              rw [if_pos (show tDone (gE l) = 0 from her.trans he), ← hgd]; rfl
            have HB9 := Lib.hid hb9
            rw [her, he]
            go_wp2_with fail
            refine bodyPost_ret (v := .tuple #[RR, .int .i64 0]) (by rw [hR]; simp [results, Tryz.results20, go_sem, g0, g1, g2, g3, g4, g5]) rfl ⟨by rw [hRR, her, he], ?_⟩
            exact ((((((HB9.out.setCell (Nat.le_refl _) _).setCell (Nat.le_refl _) _).setCell (Nat.le_refl _) _).setCell (Nat.le_refl _) _).setCell (Nat.le_refl _) _).setCell (Nat.le_refl _) _)
          · have hR : RR = .agg #[.int .i64 0, .int .i64 0, .int .i64 0, .string ByteArray.empty, .string ByteArray.empty, .int .u32 0] := by
              rw [← hRR]
              unfold getR
              rw [if_neg (show ¬ tDone (gE l) = 0 from fun e => he (her.symm.trans e))]; rfl
            have d9 : (er != 0) = true := by simp; exact he
            have HB9 := Lib.hid hb9
            rw [her]
            go_wp2_with fail
            refine bodyPost_ret (v := .tuple #[RR, .int .i64 er]) (by rw [hR]; simp [results, Tryz.results20, go_sem, g0, g1, g2, g3, g4, g5]) rfl ⟨by rw [hRR, her], ?_⟩
            exact ((((((HB9.out.setCell (Nat.le_refl _) _).setCell (Nat.le_refl _) _).setCell (Nat.le_refl _) _).setCell (Nat.le_refl _) _).setCell (Nat.le_refl _) _).setCell (Nat.le_refl _) _)
end Go.Proofs.YtpghlmcoajaiiaaGreatDoor
