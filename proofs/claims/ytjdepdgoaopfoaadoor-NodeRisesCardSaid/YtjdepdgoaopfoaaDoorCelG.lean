/- Plain laws of pages, and conversions, shared by the chapters above. -/
import Derived.Test.YtjdepdgoaopfoaaDoorCelB
import Derived.Test.YtjdepdgoaopfoaaDoorCelX
import Derived.Lib.ConvBytes
namespace Go.Proofs.YtjdepdgoaopfoaaDoor
open Go.RowKit

/-- '[]byte(s)': a row of its own. -/
theorem str_bytes {P : Program} (w : World) {src dst e : TypeId} (hs : P.underlying src = some .string) (hd : P.underlying dst = some (.slice e)) (he : P.underlying e = some (.int .u8)) (l : List UInt8) (hl : l.length ≤ 140737488351232) :
    ∃ c w', (convert src dst (.string (strOf l))).run P w = .ok (.slice (some ⟨w.heap.size, 0, none⟩) l.length c) w' ∧ Bs w' (some ⟨w.heap.size, 0, none⟩) l.length c l ∧ Below w.heap.size w w' := by
  have h := Lib.run_convert_string_bytes (P := P) w src dst e (strOf l) hs hd he
  rw [strOf_size] at h
  refine ⟨_, _, h, ⟨by rw [toI_length], grownCap_ge w _ 0 e, grownCap_le_maxLen w _ 0 e (by unfold maxLen; omega), (fun h => by cases h), .inr ⟨_, 0, rfl, by rw [Lib.bytesWorld_size]; omega, fun i hi => ?_⟩⟩, ?_⟩
  · have := Lib.bytesWorld_cell w e (strOf l) i (by rw [strOf_size]; exact hi)
    rw [Nat.zero_add, this, strOf_list, toI_get, List.getD_eq_getElem?_getD]
  · have e1 : (Lib.bytesWorld w e (strOf l)).os = w.os ∧ (Lib.bytesWorld w e (strOf l)).tape = w.tape ∧ (Lib.bytesWorld w e (strOf l)).output = w.output := by
      unfold Lib.bytesWorld World.freeze
      split <;> exact ⟨rfl, rfl, rfl⟩
    exact ⟨e1.1, e1.2.1, e1.2.2, by rw [Lib.bytesWorld_size]; omega, fun k hk => Lib.bytesWorld_at_old w e _ k hk⟩
theorem unpL_length (l : List UInt8) : (unpL l).length ≤ 122 := by
  unfold unpL; split
  · rw [cutS_length]; exact Nat.min_le_right _ _
  · simp
theorem packE_kind (a b : UInt8) (l : List (List UInt8)) (ha : a ≠ 0) (hb : b ≠ 0) : packE a l = packE b l := by
  simp [packE, fits, ha, hb]
theorem fits_of (kind : UInt8) (l : List (List UInt8)) (h : packE kind l = 0) : fits kind l = true := by
  unfold packE at h; split at h
  · assumption
  · simp at h
theorem page_kinds (a b : UInt8) (l : List (List UInt8)) (ha : fits a l = true) (hb : fits b l = true) : (pageOf a l == pageOf b l) = (a == b) := by
  by_cases h : a = b
  · subst h; simp
  · have : pageOf a l ≠ pageOf b l := fun e => h (by rw [← (page_back a l ha).2.1, e, (page_back b l hb).2.1])
    rw [beq_eq_false_iff_ne.2 this, beq_eq_false_iff_ne.2 h]
theorem u8_ne {a : UInt8} (h : a ≠ 0) : ((a.toNat : Int) == 0) = false := by
  have : a.toNat ≠ 0 := fun e => h (UInt8.toNat_inj.1 e)
  simpa using this
theorem u8_eq (a b : UInt8) : ((a.toNat : Int) == (b.toNat : Int)) = (a == b) := by
  by_cases h : a = b
  · subst h; simp
  · have : a.toNat ≠ b.toNat := fun e => h (UInt8.toNat_inj.1 e)
    rw [beq_eq_false_iff_ne.2 h, beq_eq_false_iff_ne.2 (show (a.toNat : Int) ≠ (b.toNat : Int) by omega)]
theorem xor1_ne (x : UInt8) : UInt8.ofNat (x.toNat ^^^ 1) ≠ x := by
  have : ∀ k : Fin 256, (k.val ^^^ 1) % 256 ≠ k.val := by decide +kernel
  intro e
  have h := congrArg UInt8.toNat e
  rw [UInt8.toNat_ofNat'] at h
  exact this ⟨x.toNat, x.toNat_lt⟩ h
theorem xor1_val (x : UInt8) : (UInt8.ofNat (x.toNat ^^^ 1)).toNat = x.toNat ^^^ 1 := by
  have e : (x.toNat ^^^ 1) < 256 := Nat.xor_lt_two_pow (n := 8) x.toNat_lt (by decide)
  rw [UInt8.toNat_ofNat', Nat.mod_eq_of_lt e]
/-- A page of which a byte was turned has a wrong sum. -/
theorem page_turned (kind : UInt8) (l : List (List UInt8)) (h : fits kind l = true) (at_ : Nat) (hat : at_ < 128) (c : UInt8) (hc : (pageOf kind l)[at_]? ≠ some c) : unpE ((pageOf kind l).set at_ c) = 12 := by
  have hfit : l.length + lens l ≤ 122 := by
    simp only [fits, Bool.and_eq_true, decide_eq_true_eq] at h; exact h.2
  have hlen := pageOf_length kind l hfit
  obtain ⟨hd, bd, hp, h4, hs⟩ : ∃ hd bd : List UInt8, pageOf kind l = hd ++ bd ∧ hd.length = 4 ∧ beVal hd = crcOf bd := by
    refine ⟨_, _, rfl, beBytes_length _ _, ?_⟩
    have hx := crcOn_lt 0 (bodyOf kind l.length l)
    rw [beVal_beBytes, Nat.mod_eq_of_lt (by exact hx)]
  rw [hp] at hc hlen ⊢
  have hne : beVal (((hd ++ bd).set at_ c).take 4) ≠ crcOf (((hd ++ bd).set at_ c).drop 4) := by
    by_cases h1 : at_ < 4
    · rw [List.set_append_left _ _ (by omega)]
      have e1 : (hd.set at_ c ++ bd).take 4 = hd.set at_ c := by
        have := List.take_left (l₁ := hd.set at_ c) (l₂ := bd); rwa [List.length_set, h4] at this
      have e2 : (hd.set at_ c ++ bd).drop 4 = bd := by
        have := List.drop_left (l₁ := hd.set at_ c) (l₂ := bd); rwa [List.length_set, h4] at this
      rw [e1, e2, ← hs]
      intro e
      have b1 := beBytes_beVal hd
      have b2 := beBytes_beVal (hd.set at_ c)
      rw [List.length_set, e, b1] at b2
      apply hc
      rw [List.getElem?_append_left (by omega), b2]
      simp [h4, h1]
    · rw [List.set_append_right _ _ (by omega), h4]
      have e1 : (hd ++ bd.set (at_ - 4) c).take 4 = hd := by
        have := List.take_left (l₁ := hd) (l₂ := bd.set (at_ - 4) c); rwa [h4] at this
      have e2 : (hd ++ bd.set (at_ - 4) c).drop 4 = bd.set (at_ - 4) c := by
        have := List.drop_left (l₁ := hd) (l₂ := bd.set (at_ - 4) c); rwa [h4] at this
      rw [e1, e2, hs]
      intro e
      have hbl : at_ - 4 < bd.length := by simp at hlen; omega
      have hbd : bd = bd.take (at_ - 4) ++ bd[at_ - 4] :: bd.drop (at_ - 4 + 1) := by simp
      rw [List.set_eq_take_append_cons_drop, if_pos hbl] at e
      conv at e => lhs; rw [hbd]
      have := crcOf_turned _ _ e
      apply hc
      rw [List.getElem?_append_right (by omega), h4, List.getElem?_eq_getElem hbl, this]
  rw [unpE, if_neg (by rw [List.length_set]; omega), if_pos hne]
theorem page_eq (kind : UInt8) (l m : List (List UInt8)) (hl : fits kind l = true) (hm : fits kind m = true) : (pageOf kind l == pageOf kind m) = (l == m) := by
  by_cases h : l = m
  · subst h; simp
  · have : pageOf kind l ≠ pageOf kind m := fun e => h (by rw [← (page_back kind l hl).2.2, e, (page_back kind m hm).2.2])
    rw [beq_eq_false_iff_ne.2 this, beq_eq_false_iff_ne.2 h]
theorem u8_of {a : Int} (h : (Lit.int .u8 a).wf = true) : ∃ k : UInt8, a = (k.toNat : Int) := ⟨UInt8.ofNat a.toNat, by
  simp [Lit.wf, IntKind.min, IntKind.max, IntKind.signed, IntKind.bits] at h
  rw [UInt8.toNat_ofNat']; omega⟩
/-- '+' on texts. -/
theorem str_add {P : Program} (a b : List UInt8) (h : a.length + b.length ≤ 9223372036854775807) (W : World) : (Op.stringOp .add (strOf a) (strOf b)).run P W = .ok (.string (strOf (a ++ b))) W := by
  rw [run_string_add_sum W _ _ (by rw [strOf_size, strOf_size]; exact h), strOf_append]
end Go.Proofs.YtjdepdgoaopfoaaDoor
