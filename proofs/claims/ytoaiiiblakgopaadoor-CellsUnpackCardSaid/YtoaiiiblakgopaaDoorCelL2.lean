/- The walks of the chapter on pages of cells: the laws on what is unpacked. -/
import Derived.Test.YtoaiiiblakgopaaDoorCelA
import Derived.Lib.ConvBytes
namespace Go.Proofs.YtoaiiiblakgopaaDoor
open Go.RowKit

/-- '[]byte(s)': a row of its own. -/
theorem str_bytes {P : Program} (w : World) {src dst e : TypeId} (hs : P.underlying src = some .string) (hd : P.underlying dst = some (.slice e)) (he : P.underlying e = some (.int .u8)) (l : List UInt8) (hl : l.length ≤ 140737488351232) :
    ∃ c w', (convert src dst (.string (strOf l))).run P w = .ok (.slice (some ⟨w.heap.size, 0, none⟩) l.length c) w' ∧ Bs w' (some ⟨w.heap.size, 0, none⟩) l.length c l ∧ Below w.heap.size w w' := by
  have h := Lib.run_convert_string_bytes (P := P) w src dst e (strOf l) hs hd he
  rw [strOf_size] at h
  refine ⟨_, _, h, ⟨by rw [toI_length], grownCap_ge w _ 0 e, grownCap_le_maxLen w _ 0 e (by unfold maxLen; omega), (fun h => by cases h), .inr ⟨_, 0, rfl, by rw [Lib.bytesWorld_size]; omega, fun i hi => ?_⟩⟩, ?_⟩
  · have := Lib.bytesWorld_cell w e (strOf l) i (by rw [strOf_size]; exact hi)
    rw [Nat.zero_add, this, strOf_list, toI_get, List.getD_eq_getElem?_getD]
  · have e1 : (Lib.bytesWorld w e (strOf l)).os = w.os ∧ (Lib.bytesWorld w e (strOf l)).tape = w.tape ∧ (Lib.bytesWorld w e (strOf l)).output = w.output := by
      unfold Lib.bytesWorld World.freeze
      split <;> exact ⟨rfl, rfl, rfl⟩
    exact ⟨e1.1, e1.2.1, e1.2.2, by rw [Lib.bytesWorld_size]; omega, fun k hk => Lib.bytesWorld_at_old w e _ k hk⟩

theorem tagOf_length (l : List UInt8) : (tagOf l).length = 4 + l.length := by rw [tagOf, List.length_append, beBytes_length]
theorem unpL_length (l : List UInt8) : (unpL l).length ≤ 122 := by
  unfold unpL; split
  · rw [cutS_length]; exact Nat.min_le_right _ _
  · simp

set_option maxRecDepth 100000 in
set_option maxHeartbeats 4000000 in
theorem lUnpack (a : Option Addr) (len cap : Nat) (l : List UInt8) (w : World) (h : Bs w a len cap l) (hh : Half w) :
    Calls Tryd.prog 4 #[.slice a len cap] w fun e w' => e = .returned (.bool true) ∧ Below w.heap.size w w' := by
  have hll := h.len
  have hc := h.cap
  unfold maxLen at hc
  have haw := awake_any w hh
  by_cases h3 : 300 < len
  · clear hll
    go_enter Tryd.func4, Tryd.ntmps4
    go_wp2_with fail
    refine haw.mono ?_
    rintro e w1 ⟨rfl, hb⟩
    go_wp2_with fail
    go_ret
    exact ⟨rfl, hb⟩
  · have hU : ∀ W x n c t, Below w.heap.size w W → Bs W x n c t → Calls Tryd.prog 15 #[.slice x n c] W (UnpPost W (unpK t) (unpL t) (unpE t)) := fun W x n c t hW h2 => unpack_any x n c t W h2 (hh.below (Nat.le_refl _) hW)
    have hR : ∀ W t, t.length ≤ 400 → Calls Tryd.prog 16 #[.string (strOf t)] W (RUnpPost W (unpK t) (unpL t) (unpE t)) := fun W t ht => runpack_any t W (by omega)
    have hT := fun W => rtag_any l W (by omega)
    have htl := tagOf_length l
    have hs1 := unpL_length l
    have hs2 := unpL_length (tagOf l)
    generalize tagOf l = tg at *
    have R1 := fun W => hR W l (by omega)
    have R2 := fun W => hR W tg (by omega)
    have U1 := fun W x n c => hU W x n c l
    have U2 := fun W x n c => hU W x n c tg
    have HTL := Lib.hid htl
    clear hU hR
    generalize hk1 : unpK l = k1 at *
    generalize hl1 : unpL l = l1 at *
    generalize he1 : unpE l = e1 at *
    generalize hk2 : unpK tg = k2 at *
    generalize hl2 : unpL tg = l2 at *
    generalize he2 : unpE tg = e2 at *
    clear hk1 hl1 he1 hk2 hl2 he2
    have htg : tg.length ≤ 400 := by omega
    clear hll htl
    have h4 : len ≤ 300 := by omega
    clear h3
    have hcv : ∀ W, Below w.heap.size w W → (convert 25 9 (.slice a len cap)).run Tryd.prog W = .ok (.string (strOf l)) W := fun W hW => conv_string Tryd.underlying25 Tryd.underlying5 Tryd.underlying9 (h.below (Nat.le_refl _) hW)
    go_enter Tryd.func4, Tryd.ntmps4
    go_wp2_with fail
    refine haw.mono ?_
    rintro e w1 ⟨rfl, hb⟩
    go_wp2_with fail
    refine (U1 w1 a len cap hb (h.below (Nat.le_refl _) hb)).mono ?_
    rintro e w2 ⟨v2, rfl, ho2, hb2⟩
    have hb := below_then hb hb2
    obtain ⟨a2, c2, rfl, hbs2⟩ := ho2.bss
    clear ho2 hb2
    have hcv1 := hcv w2 hb
    go_wp2_with fail
    refine (R1 w2).mono ?_
    rintro e w3 ⟨v3, rfl, ho3, hb3⟩
    have hb := below_then hb hb3
    have hbs2 := hbs2.below (Nat.le_refl _) hb3
    obtain ⟨a3, c3, rfl, hss3⟩ := Strs.of_own ho3
    clear ho3 hb3 hcv1
    have hkk : ((k1.toNat : Int) != (k1.toNat : Int)) = false := by simp
    have hee : ((e1 : Int) != (e1 : Int)) = false := by simp
    go_wp2_with fail
    refine (texts_any a2 _ c2 l1 w3 hbs2 (by omega)).mono ?_
    rintro e w4 ⟨v4, rfl, ho4, hb4⟩
    have hb := below_then hb hb4
    obtain ⟨a4, c4, rfl, hss4⟩ := Strs.of_own ho4
    have hss3 := hss3.below (Nat.le_refl _) hb4
    clear ho4 hb4
    go_wp2_with fail
    refine (same_any a4 a3 _ c4 _ c3 l1 l1 w4 hss4 hss3).mono ?_
    rintro e w5 ⟨q, rfl, rfl⟩
    have hbq : (l1 == l1) = true := by simp
    have hb := below_drewN hb q
    generalize w4.drewN q = w5 at *
    have hcv1 := hcv w5 hb
    go_wp2_with fail
    refine (hT w5).mono ?_
    rintro e w6 ⟨rfl, hb6⟩
    have hb := below_then hb hb6
    clear hcv1 hbs2 hss3 hss4 hb6 hbq
    obtain ⟨c7, w7, hcv7, hbs7, hb7⟩ := str_bytes (P := Tryd.prog) w6 Tryd.underlying9 Tryd.underlying25 Tryd.underlying5 tg (by omega)
    have hb := below_then hb hb7
    go_wp2_with fail
    refine (U2 w7 _ _ c7 hb hbs7).mono ?_
    rintro e w8 ⟨v8, rfl, ho8, hb8⟩
    have hb := below_then hb hb8
    obtain ⟨a8, c8, rfl, hbs8⟩ := ho8.bss
    clear ho8 hb8 hb7 hbs7 hcv7
    go_wp2_with fail
    refine (R2 w8).mono ?_
    rintro e w9 ⟨v9, rfl, ho9, hb9⟩
    have hb := below_then hb hb9
    have hbs8 := hbs8.below (Nat.le_refl _) hb9
    obtain ⟨a9, c9, rfl, hss9⟩ := Strs.of_own ho9
    clear ho9 hb9
    have hkk2 : ((k2.toNat : Int) == (k2.toNat : Int)) = true := by simp
    have hee2 : ((e2 : Int) == (e2 : Int)) = true := by simp
    go_wp2_with fail
    refine (texts_any a8 _ c8 l2 w9 hbs8 (by omega)).mono ?_
    rintro e w10 ⟨v10, rfl, ho10, hb10⟩
    have hb := below_then hb hb10
    obtain ⟨a10, c10, rfl, hss10⟩ := Strs.of_own ho10
    have hss9 := hss9.below (Nat.le_refl _) hb10
    clear ho10 hb10
    go_wp2_with fail
    refine (same_any a10 a9 _ c10 _ c9 l2 l2 w10 hss10 hss9).mono ?_
    rintro e w11 ⟨q, rfl, rfl⟩
    have hbq2 : (l2 == l2) = true := by simp
    have hb := below_drewN hb q
    go_wp2_with fail
    go_ret
    exact ⟨rfl, hb⟩
end Go.Proofs.YtoaiiiblakgopaaDoor
