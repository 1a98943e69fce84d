/- Texts that other texts of this claim lean on, one behind the other. -/
import Derived.Test.YtpghlmcoajaiiaaDoorM1
import Derived.Lib.ConvBytes
import Derived.Test.YtpghlmcoajaiiaaDoorM6
import Derived.Test.YtpghlmcoajaiiaaDoorM3
import Derived.Test.YtpghlmcoajaiiaaDoorM2
import Derived.Test.YtpghlmcoajaiiaaDoorM4
import Derived.Deep.LoopGhost
/- '[]byte(s)'. -/
namespace Go.Proofs.YtpghlmcoajaiiaaDoor
open Go.RowKit

/-- '[]byte(s)': a row of its own. -/
theorem str_bytes {P : Program} (w : World) {src dst e : TypeId} (hs : P.underlying src = some .string) (hd : P.underlying dst = some (.slice e)) (he : P.underlying e = some (.int .u8)) (l : List UInt8) (hl : l.length ≤ 140737488351232) :
    ∃ c w', (convert src dst (.string (strOf l))).run P w = .ok (.slice (some ⟨w.heap.size, 0, none⟩) l.length c) w' ∧ Bs w' (some ⟨w.heap.size, 0, none⟩) l.length c l ∧ Below w.heap.size w w' := by
  have h := Lib.run_convert_string_bytes (P := P) w src dst e (strOf l) hs hd he
  rw [strOf_size] at h
  refine ⟨_, _, h, ⟨by rw [toI_length], grownCap_ge w _ 0 e, grownCap_le_maxLen w _ 0 e (by unfold maxLen; omega), (fun h => by cases h), .inr ⟨_, 0, rfl, by rw [Lib.bytesWorld_size]; omega, fun i hi => ?_⟩⟩, ?_⟩
  · have := Lib.bytesWorld_cell w e (strOf l) i (by rw [strOf_size]; exact hi)
    rw [Nat.zero_add, this, strOf_list, toI_get, List.getD_eq_getElem?_getD]
  · have e1 : (Lib.bytesWorld w e (strOf l)).os = w.os ∧ (Lib.bytesWorld w e (strOf l)).tape = w.tape ∧ (Lib.bytesWorld w e (strOf l)).output = w.output := by
      unfold Lib.bytesWorld World.freeze
      split <;> exact ⟨rfl, rfl, rfl⟩
    exact ⟨e1.1, e1.2.1, e1.2.2, by rw [Lib.bytesWorld_size]; omega, fun k hk => Lib.bytesWorld_at_old w e _ k hk⟩
end Go.Proofs.YtpghlmcoajaiiaaDoor

/- Records: users, keys, digests; a record's bytes. -/
namespace Go.Proofs.YtpghlmcoajaiiaaDoor
open Go.RowKit

/-- A record. -/
structure RcD where
  actor : Int
  from_ : Int
  to_ : Int
  bucket : List UInt8
  key : List UInt8
  digest : Nat
/-- A record's words. -/
def rcV (r : RcD) : Value := .agg #[.int .i64 r.actor, .int .i64 r.from_, .int .i64 r.to_, .string (strOf r.bucket), .string (strOf r.key), .int .u32 (r.digest : Int)]
def rcC (r : RcD) : List Value := [.int .i64 r.actor, .int .i64 r.from_, .int .i64 r.to_, .string (strOf r.bucket), .string (strOf r.key), .int .u32 (r.digest : Int)]
def u64w (n : Int) : Int := IntKind.u64.wrap n
/-- The bytes of a record. -/
def rcB (r : RcD) : List UInt8 := numF (u64w r.actor) 1 ++ numF (u64w r.from_) 1 ++ numF (u64w r.to_) 1 ++ textF r.bucket ++ textF r.key ++ numF (r.digest : Int) 4
def keyB (n : Int) : List UInt8 := numF (u64w n) 8
theorem u64w_ok (n : Int) : 0 ≤ u64w n ∧ u64w n < 18446744073709551616 := by
  unfold u64w IntKind.wrap
  simp [IntKind.signed, IntKind.bits]
  omega
theorem user_any (l : List UInt8) (w : World) (hl : l.length ≤ 1000000) : Calls Tryd.prog 8 #[.string (strOf l)] w fun e w' => e = .returned (.string (strOf (98 :: l))) ∧ w = w' := by
  have hadd : (⟨#[98]⟩ : ByteArray) ++ strOf l = strOf (98 :: l) := strOf_append [98] l
  have hs := strOf_size l
  obtain ⟨z, hz⟩ : ∃ z, strOf (98 :: l) = z := ⟨_, rfl⟩
  rw [hz] at hadd ⊢
  go_enter Tryd.func8, Tryd.ntmps8
  go_wp2_with fail
  go_ret
  exact ⟨rfl, rfl⟩
theorem key_any (n : Int) (w : World) : Calls Tryd.prog 11 #[.int .i64 n] w (RetStr w (keyB n)) := by
  have C := num_any (u64w n) 8 w (u64w_ok n)
  have hwr : IntKind.u64.wrap n = u64w n := rfl
  have hkb : keyB n = numF (u64w n) 8 := rfl
  have HKB := Lib.hid hkb
  clear hkb
  generalize u64w n = u at *
  go_enter Tryd.func11, Tryd.ntmps11
  go_wp2_with fail
  refine C.mono ?_
  rintro e w' ⟨v, rfl, ho, hb⟩
  obtain ⟨a, c, rfl, hr⟩ := Row.of_own ho
  have hcv := conv_string (P := Tryd.prog) Tryd.underlying65 Tryd.underlying5 Tryd.underlying9 (show Bs w' a _ c (numF u 8) from hr)
  clear ho hr C
  go_wp2_with fail
  go_ret
  exact ⟨by rw [HKB.out]; rfl, hb⟩
theorem digest_any (l : List UInt8) (w : World) (hl : l.length ≤ 100000) (hh : Half w) : Calls Tryd.prog 15 #[.string (strOf l)] w fun e w' => e = .returned (.int .u32 (crcOf l : Int)) ∧ Below w.heap.size w w' := by
  obtain ⟨c7, w7, hcv7, hbs7, hb7⟩ := str_bytes (P := Tryd.prog) w Tryd.underlying9 Tryd.underlying65 Tryd.underlying5 l (by omega)
  have C := crcOf_any _ _ _ _ w7 hbs7 (hh.below (Nat.le_refl _) hb7)
  go_enter Tryd.func15, Tryd.ntmps15
  go_wp2_with fail
  refine C.mono ?_
  rintro e w' ⟨rfl, rfl⟩
  go_wp2_with fail
  go_ret
  exact ⟨rfl, hb7⟩
theorem own_bs {w : World} {base : Nat} {e : TypeId} {v : Value} {l : List UInt8} (h : w.ownsRow base e 1 v l.length ((toI l).map (Value.int .u8))) (hb : base ≤ w.heap.size) :
    ∃ a c, v = .slice a l.length c ∧ Bs w a l.length c l ∧ ∀ x, a = some x → base ≤ x.block := by
  obtain ⟨a, c, rfl, hr⟩ := Row.of_own h
  refine ⟨a, c, rfl, hr, ?_⟩
  rintro x rfl
  rcases h.2 with ⟨h1, _⟩ | ⟨g, cap, cur, h1, h2, _⟩
  · cases h1
  · cases h1; exact h2
/-- What is written of a record's numbers, step by step. -/
def rcN (r : RcD) : Nat → List UInt8
  | 0 => []
  | 1 => numF (u64w r.actor) 1
  | 2 => numF (u64w r.actor) 1 ++ numF (u64w r.from_) 1
  | _ => numF (u64w r.actor) 1 ++ numF (u64w r.from_) 1 ++ numF (u64w r.to_) 1
def rcI (r : RcD) : Nat → Int
  | 0 => r.actor
  | 1 => r.from_
  | _ => r.to_
theorem rcN_succ (r : RcD) (i : Nat) (h : i < 3) : rcN r (i + 1) = rcN r i ++ numF (u64w (rcI r i)) 1 := by
  match i, h with
  | 0, _ => rfl
  | 1, _ => rfl
  | 2, _ => rfl
theorem numF_le (x size : Int) : (numF x size).length ≤ 8 := by
  unfold numF
  split
  · simp
  · rename_i h
    rw [beBytes_length]; omega
theorem textF_le (l : List UInt8) : (textF l).length ≤ 256 := by
  unfold textF
  simp only [List.length_cons, List.length_take]
  omega
theorem rcN_len (r : RcD) (i : Nat) : (rcN r i).length ≤ 24 := by
  have h1 := numF_le (u64w r.actor) 1
  have h2 := numF_le (u64w r.from_) 1
  have h3 := numF_le (u64w r.to_) 1
  match i with
  | 0 => simp [rcN]
  | 1 => simp only [rcN]; omega
  | 2 => simp only [rcN, List.length_append]; omega
  | _ + 3 => simp only [rcN, List.length_append]; omega
set_option maxRecDepth 100000 in
set_option maxHeartbeats 4000000 in
set_option maxRecDepth 100000 in
theorem rput_any (r : RcD) (w : World) (hk : r.key.length ≤ 1000) (hbk : r.bucket.length ≤ 1000) (hd : r.digest < 4294967296) :
    Calls Tryd.prog 12 #[rcV r] w (RetStr w (rcB r)) := by
  obtain ⟨RB, hRB⟩ : ∃ z, rcB r = z := ⟨_, rfl⟩
  rw [hRB]
  have HRB := Lib.hid hRB
  clear hRB
  obtain ⟨W1, hW1⟩ : ∃ x, w.alloc (.cells #[.int .i64 r.actor, .int .i64 r.from_, .int .i64 r.to_, .string (strOf r.bucket), .string (strOf r.key), .int .u32 (r.digest : Int)] 39) = x := ⟨_, rfl⟩
  have hx1 : Boxes W1 [(w.heap.size, rcC r)] := by
    rw [← hW1]
    exact (Boxes.nil w).alloc #[.int .i64 r.actor, .int .i64 r.from_, .int .i64 r.to_, .string (strOf r.bucket), .string (strOf r.key), .int .u32 (r.digest : Int)] 39 (b := w.heap.size) rfl
  have hb1 : Below w.heap.size w W1 := by rw [← hW1]; exact Below.al (Below.refl _ _)
  have hs1 : W1.heap.size = w.heap.size + 1 := by rw [← hW1, World.size_alloc]
  obtain ⟨W2, hW2⟩ : ∃ x, W1.alloc (.cells #[.pointer none, .slice none 0 0] 70) = x := ⟨_, rfl⟩
  have hb2 : Below W1.heap.size W1 W2 := by rw [← hW2]; exact Below.al (Below.refl _ _)
  have hs2 : W2.heap.size = w.heap.size + 1 + 1 := by rw [← hW2, World.size_alloc, hs1]
  have hbd2 : W2.heap[w.heap.size + 1]? = some (.cells #[.pointer none, .slice none 0 0] 70 (0, 0)) := by rw [← hW2, ← hs1]; exact World.alloc_heap_new _ _
  obtain ⟨W3, hW3⟩ : ∃ x, W2.alloc (.cells #[.int .i64 r.actor, .int .i64 r.from_, .int .i64 r.to_] 3) = x := ⟨_, rfl⟩
  have hb3 : Below W2.heap.size W2 W3 := by rw [← hW3]; exact Below.al (Below.refl _ _)
  have hs3 : W3.heap.size = w.heap.size + 1 + 1 + 1 := by rw [← hW3, World.size_alloc, hs2]
  have hx3 : Boxes W3 [(w.heap.size + 1 + 1, [.int .i64 r.actor, .int .i64 r.from_, .int .i64 r.to_]), (w.heap.size, rcC r)] := by
    rw [← hW3, ← hs2]
    exact (hx1.step hb2).alloc #[.int .i64 r.actor, .int .i64 r.from_, .int .i64 r.to_] 3 (b := W2.heap.size) rfl
  have hbd3 : Bd (w.heap.size + 1 + 1 + 1) (w.heap.size + 1) W3 [] := ⟨none, .slice none 0 0, (hb3.block _ (by omega)).trans hbd2, .inl rfl, World.ownsRow_nil _ _ _ _, (by simp [Value.ownBlock]), by omega⟩
  have n0 := (hx1.step hb2).cell 0 0 rfl rfl
  have n1 := (hx1.step hb2).cell 0 1 rfl rfl
  have n2 := (hx1.step hb2).cell 0 2 rfl rfl
  have HX3 := Lib.hid hx3
  have HBD3 := Lib.hid hbd3
  have HB3 := Lib.hid (below_via hb1 (below_via hb2 hb3))
  have hzb : ∀ W, (zeroValue 70).run Tryd.prog W = .ok (.agg #[.pointer none, .slice none 0 0]) W := fun W => by kernel_rfl
  clear hx1 hb1 hx3 hbd3 hb2 hb3 hbd2
  unfold rcV
  go_enter Tryd.func12, Tryd.ntmps12
  go_wp2_with fail
  go_loopw [14] (fun s wr => ∃ i : Nat, i ≤ 3 ∧ s = .int .i64 i ∧ Bd (w.heap.size + 1 + 1 + 1) (w.heap.size + 1) wr (rcN r i) ∧ Boxes wr [(w.heap.size + 1 + 1, [.int .i64 r.actor, .int .i64 r.from_, .int .i64 r.to_]), (w.heap.size, rcC r)] ∧ Below w.heap.size w wr) (fun s _ => 3 - (intOf s).toNat)
  case atStart => exact ⟨0, by omega, rfl, HBD3.out, HX3.out, HB3.out⟩
  case round =>
    clear HX3 HBD3 HB3 n0 n1 n2 hzb
    obtain ⟨i, hi, rfl, hbd, hx, hb⟩ := hrel
    by_cases hlt : i < 3
    · have hcell : wr.cell? ⟨w.heap.size + 1 + 1, i, none⟩ = some (.int .i64 (rcI r i)) := by
        match i, hlt with
        | 0, _ => exact hx.cell 0 0 rfl rfl
        | 1, _ => exact hx.cell 0 1 rfl rfl
        | 2, _ => exact hx.cell 0 2 rfl rfl
      have hwr : IntKind.u64.wrap (rcI r i) = u64w (rcI r i) := rfl
      have d0 : decide ((i : Int) < 3) = true := by simp; omega
      have C1 := num_any (u64w (rcI r i)) 1 wr (u64w_ok _)
      have hl1 := numF_le (u64w (rcI r i)) 1
      have hst := Lib.hid (rcN_succ r i hlt)
      have hln := rcN_len r i
      obtain ⟨q, hq⟩ : ∃ q, u64w (rcI r i) = q := ⟨_, rfl⟩
      rw [hq] at hwr C1 hst hl1
      clear hq
      go_wp2_with fail
      refine C1.mono ?_
      rintro e w4 ⟨v, rfl, ho, hb4⟩
      obtain ⟨a4, c4, rfl, hbs4, hge⟩ := own_bs ho hb4.size
      have hbl := hb.size
      have hlt9 := hx.lt 0 rfl
      have C2 := bwrite_any (bd_below hbd hb4) hbs4 (fun x hx => by have := hge x hx; omega) (by omega)
      obtain ⟨nl, hnl⟩ : ∃ nl, (numF q 1).length = nl := ⟨_, rfl⟩
      rw [hnl] at C2 ⊢
      clear C1 ho hbs4
      go_wp2_with fail
      refine C2.mono ?_
      rintro e w5 ⟨rfl, hbd5, hst5⟩
      have HBD5 := Lib.hid hbd5
      have HX5 := Lib.hid ((hx.step hb4).agree hst5.2.1 (by intro p hp; simp at hp; rcases hp with rfl | rfl <;> (constructor <;> simp <;> omega)))
      have HB5 := Lib.hid ((hb.trans (hb4.mono hb.size)).trans (hst5.1 w.heap.size (by omega) (by omega)))
      clear hbd5 hst5 C2 hx hb hbd hb4
      go_wp2_with fail
      go_roundw
      case rel => exact ⟨i + 1, by omega, by go_num, by rw [hst.out]; exact HBD5.out, HX5.out, HB5.out⟩
      case measure => simp [intOf]; omega
    · obtain rfl : i = 3 := by omega
      have d0 : decide (((3 : Nat) : Int) < 3) = false := by decide
      have f3 := hx.cell 1 3 rfl rfl
      have f4 := hx.cell 1 4 rfl rfl
      have f5 := hx.cell 1 5 rfl rfl
      have q1 := rcN_len r 3
      have q2 := textF_le r.bucket
      have q3 := textF_le r.key
      have q4 := numF_le (r.digest : Int) 4
      have hwd : IntKind.u64.wrap (r.digest : Int) = (r.digest : Int) := by
        unfold IntKind.wrap
        simp [IntKind.signed, IntKind.bits]
        omega
      go_wp2_with fail
      refine (text_any r.bucket wr (by omega)).mono ?_
      rintro e w4 ⟨v, rfl, ho, hb4⟩
      obtain ⟨a4, c4, rfl, hbs4, hge⟩ := own_bs ho hb4.size
      have hbl := hb.size
      have hlt9 := hx.lt 1 rfl
      have C2 := bwrite_any (bd_below hbd hb4) hbs4 (fun y hy => by have := hge y hy; have := (hx.lt 0 rfl); omega) (by first | (simp only [List.length_append]; omega) | omega)
      obtain ⟨nl, hnl⟩ : ∃ nl, (textF r.bucket).length = nl := ⟨_, rfl⟩
      rw [hnl] at C2 ⊢
      clear ho hbs4
      go_wp2_with fail
      refine C2.mono ?_
      rintro e w5 ⟨rfl, hbd5, hst5⟩
      have hx5 := ((hx.step hb4).agree hst5.2.1 (by intro p hp; simp at hp; rcases hp with rfl | rfl <;> (constructor <;> simp <;> omega)))
      have hb5 := ((hb.trans (hb4.mono hb.size)).trans (hst5.1 w.heap.size (by omega) (by omega)))
      clear hst5 C2 hge
      have f4 := hx5.cell 1 4 rfl rfl
      go_wp2_with fail
      refine (text_any r.key w5 (by omega)).mono ?_
      rintro e w6 ⟨v, rfl, ho, hb6⟩
      obtain ⟨a6, c6, rfl, hbs6, hge⟩ := own_bs ho hb6.size
      have hbl := hb5.size
      have hlt9 := hx5.lt 1 rfl
      have C2 := bwrite_any (bd_below hbd5 hb6) hbs6 (fun y hy => by have := hge y hy; have := (hx5.lt 0 rfl); omega) (by first | (simp only [List.length_append]; omega) | omega)
      obtain ⟨nl, hnl⟩ : ∃ nl, (textF r.key).length = nl := ⟨_, rfl⟩
      rw [hnl] at C2 ⊢
      clear ho hbs6
      go_wp2_with fail
      refine C2.mono ?_
      rintro e w7 ⟨rfl, hbd7, hst7⟩
      have hx7 := ((hx5.step hb6).agree hst7.2.1 (by intro p hp; simp at hp; rcases hp with rfl | rfl <;> (constructor <;> simp <;> omega)))
      have hb7 := ((hb5.trans (hb6.mono hb5.size)).trans (hst7.1 w.heap.size (by omega) (by omega)))
      clear hst7 C2 hge
      have f5 := hx7.cell 1 5 rfl rfl
      have q5 : ((rcN r 3 ++ textF r.bucket) ++ textF r.key).length ≤ 24 + 256 + 256 := by simp only [List.length_append]; omega
      go_wp2_with fail
      refine (num_any (r.digest : Int) 4 w7 (by omega)).mono ?_
      rintro e w8 ⟨v, rfl, ho, hb8⟩
      obtain ⟨a8, c8, rfl, hbs8, hge⟩ := own_bs ho hb8.size
      have hbl := hb7.size
      have hlt9 := hx7.lt 1 rfl
      have C2 := bwrite_any (bd_below hbd7 hb8) hbs8 (fun y hy => by have := hge y hy; have := (hx7.lt 0 rfl); omega) (by first | (simp only [List.length_append]; omega) | omega)
      obtain ⟨nl, hnl⟩ : ∃ nl, (numF (r.digest : Int) 4).length = nl := ⟨_, rfl⟩
      rw [hnl] at C2 ⊢
      clear ho hbs8
      go_wp2_with fail
      refine C2.mono ?_
      rintro e w9 ⟨rfl, hbd9, hst9⟩
      have hx9 := ((hx7.step hb8).agree hst9.2.1 (by intro p hp; simp at hp; rcases hp with rfl | rfl <;> (constructor <;> simp <;> omega)))
      have hb9 := ((hb7.trans (hb8.mono hb7.size)).trans (hst9.1 w.heap.size (by omega) (by omega)))
      clear hst9 C2 hge
      have hne : ((rcN r 3 ++ textF r.bucket) ++ textF r.key) ++ numF (r.digest : Int) 4 ≠ [] := by
        simp [textF]
      go_wp2_with fail
      refine (bstring_any hbd9 hne (B := w.heap.size) (by omega)).mono ?_
      rintro e w10 ⟨rfl, hb10⟩
      have HB9 := Lib.hid (hb9.trans hb10)
      have hB : ((rcN r 3 ++ textF r.bucket) ++ textF r.key) ++ numF (r.digest : Int) 4 = RB := HRB.out
      rw [hB]
      clear hB hne q5
      clear hbd hx hb hb5 hx5 hbd5 hb7 hx7 hbd7 hb9 hx9 hbd9
      go_wp2_with fail
      go_ret
      exact ⟨rfl, HB9.out⟩
end Go.Proofs.YtpghlmcoajaiiaaDoor

/- The walks of the chapter on numbers and texts as bytes: what is taken. -/
namespace Go.Proofs.YtpghlmcoajaiiaaDoor
open Go.RowKit

theorem size_bytes (w : World) : (sizeOf (Tryd.prog.elem 65)).run Tryd.prog w = .ok 1 w := by kernel_rfl
theorem elem_bytes : Tryd.prog.underlying 65 = some (.slice (Tryd.prog.elem 65)) := by kernel_rfl

/-- A taker stands there, in such a state. -/
def Tk (w : World) (t : Nat) (s : TSt) : Prop :=
  ∃ a cap, w.heap[t]? = some (.cells #[.slice a s.l.length cap, .int .i64 s.e] 109 (0, 0)) ∧ Bs w a s.l.length cap s.l

theorem Tk.lt {w : World} {t : Nat} {s : TSt} (h : Tk w t s) : t < w.heap.size := by
  obtain ⟨a, cap, h1, _⟩ := h; exact (Array.getElem?_eq_some_iff.1 h1).1

/-- The bytes don't stand in the taker's own block. -/
theorem bs_ne {w : World} {t : Nat} {a b : Option Addr} {n m len cap : Nat} {e : Int} {T : TypeId} {l : List UInt8} (h1 : w.heap[t]? = some (.cells #[.slice b n m, .int .i64 e] T (0, 0))) (h2 : Bs w a len cap l) :
    ∀ b off, len ≠ 0 → a = some ⟨b, off, none⟩ → some t ≠ some b := by
  intro b off hl ha hb
  cases hb
  obtain ⟨b', off', e1, _, h7⟩ := h2.cell (k := 0) (by omega)
  rw [ha] at e1
  cases e1
  have := h7 0 (by omega)
  simp only [World.cell?, h1, Nat.add_zero] at this
  match off, this with
  | 0, this => simp at this
  | 1, this => simp at this
  | n + 2, this => simp at this

theorem Tk.grown {w w' : World} {t : Nat} {s : TSt} {row : Option Nat} (h : Tk w t s) (hg : w.grownBy w' row) (hne : row ≠ some t) (hb : ∀ a n m b off, w.heap[t]? = some (.cells #[.slice a n m, .int .i64 s.e] 109 (0, 0)) → s.l.length ≠ 0 → a = some ⟨b, off, none⟩ → row ≠ some b) : Tk w' t s := by
  obtain ⟨a, cap, h1, h2⟩ := h
  exact ⟨a, cap, (hg.block t (Array.getElem?_eq_some_iff.1 h1).1 (fun e => hne e.symm)).trans h1, h2.grown hg (fun b off h3 h4 => hb a _ _ b off h1 h3 h4)⟩
theorem Tk.below {w w' : World} {t : Nat} {s : TSt} {B : Nat} (hB : w.heap.size ≤ B) (hb : Below B w w') (h : Tk w t s) : Tk w' t s := by
  obtain ⟨a, cap, h1, h2⟩ := h
  exact ⟨a, cap, (hb.block t (Nat.lt_of_lt_of_le (Array.getElem?_eq_some_iff.1 h1).1 hB)).trans h1, h2.below hB hb⟩

/-- What a call on a taker leaves: a value; the taker in a new state; all else that was there as it was. -/
def TkPost (w : World) (t : Nat) (R : World → Value → Prop) (s' : TSt) (e : Ending) (w' : World) : Prop :=
  ∃ v, e = .returned v ∧ R w' v ∧ w.grownBy w' (some t) ∧ Tk w' t s'

theorem beVal_step (l : List UInt8) (k : Nat) (h : k < l.length) : beVal (l.take (k + 1)) = beVal (l.take k) * 256 + (l[k]?.getD 0).toNat := by
  rw [List.take_add_one, List.getElem?_eq_getElem h]; exact beVal_snoc _ _

set_option maxRecDepth 100000 in
set_option maxHeartbeats 1000000 in
theorem num1_any (a : Option Addr) (len cap : Nat) (l : List UInt8) (w : World) (h : Bs w a len cap l) (h8 : len ≤ 8) :
    Calls Tryd.prog 50 #[.slice a len cap] w fun e w' => e = .returned (.int .u64 (beVal l)) ∧ w = w' := by
  have hll := Lib.hid h.len
  have hm := h.cap.2
  have hc := h.cap.1
  unfold maxLen at hm
  go_enter Tryd.func50, Tryd.ntmps50
  go_wp2
  go_loop [3, 8] (fun x i => ∃ k : Nat, k ≤ len ∧ i = .int .i64 k ∧ x = .int .u64 (beVal (l.take k))) (fun _ i => len - (intOf i).toNat)
  case atStart => exact ⟨0, Nat.zero_le _, rfl, rfl⟩
  case round =>
    obtain ⟨k, hk, rfl, rfl⟩ := hrel
    by_cases hlt : k < len
    · obtain ⟨b, off, rfl, hb, hcell⟩ := h.cell hlt
      have hck := hcell k hlt
      have hst := beVal_step l k (by rw [hll.out]; exact hlt)
      have hbd : beVal (l.take k) < 72057594037927936 := by
        have h1 := beVal_lt (l.take k)
        have h2 : (l.take k).length ≤ 7 := by simp; omega
        have h3 : 256 ^ (l.take k).length ≤ 256 ^ 7 := Nat.pow_le_pow_right (by decide) h2
        omega
      have hcb := (l[k]?.getD 0).toNat_lt
      generalize (l[k]?.getD 0).toNat = c at *
      generalize beVal (l.take k) = x at *
      have H := Lib.hid hst
      clear hst hcell
      have hor := or256 x c hbd hcb
      go_wp2
      go_round
      case rel => exact ⟨k + 1, by omega, by go_num, by rw [H.out]; go_num⟩
      case measure => simp [intOf]; omega
    · obtain rfl : k = len := by omega
      have hx : l.take k = l := List.take_of_length_le (by rw [hll.out]; exact Nat.le_refl _)
      rw [hx]
      clear hx
      go_wp2
      go_ret
      exact ⟨rfl, rfl⟩

set_option maxRecDepth 100000 in
set_option maxHeartbeats 1000000 in
theorem text1_any (a : Option Addr) (len cap : Nat) (l : List UInt8) (w : World) (h : Bs w a len cap l) :
    Calls Tryd.prog 52 #[.slice a len cap] w fun e w' => e = .returned (.string (strOf l)) ∧ w = w' := by
  have hcv := conv_string Tryd.underlying65 Tryd.underlying5 Tryd.underlying9 h
  go_enter Tryd.func52, Tryd.ntmps52
  go_wp2
  go_ret
  exact ⟨rfl, rfl⟩

set_option maxRecDepth 100000 in
set_option maxHeartbeats 1000000 in
theorem clone_any (a : Option Addr) (len cap : Nat) (l : List UInt8) (w : World) (h : Bs w a len cap l) (hreach : len ≤ 140737488351232) :
    Calls Tryd.prog 48 #[.slice a len cap] w (OwnBytes 5 w l) := by
  obtain ⟨i0, hi, hz0, hz1, hz2⟩ := info_parts info_u8
  have hll := Lib.hid h.len
  cases a with
  | none =>
    have hc := h.2.2.2.1 rfl
    have h0 : len = 0 := by have := h.2.1; omega
    subst hc h0
    have hl0 : l = [] := List.eq_nil_of_length_eq_zero h.len
    have HL := Lib.hid hl0
    clear hl0
    have hq : ∀ W : World, (binOp .eql 65 (.slice none 0 0) (.slice none 0 0)).run Tryd.prog W = .ok (.bool true) W := fun W => Lib.run_eql_slice_nil W _ _ none 0 0 0 0 Tryd.underlying65
    go_enter Tryd.func48, Tryd.ntmps48
    go_wp2
    go_ret
    exact ⟨_, rfl, by rw [HL.out]; exact ⟨rfl, .inl ⟨rfl, rfl⟩⟩, Below.refl _ _⟩
  | some x =>
    have hm := h.cap.2
    unfold maxLen at hm
    have hq : ∀ W : World, (binOp .eql 65 (.slice (some x) len cap) (.slice none 0 0)).run Tryd.prog W = .ok (.bool false) W := fun W => Lib.run_eql_slice_nil W _ _ (some x) len cap 0 0 Tryd.underlying65
    go_enter Tryd.func48, Tryd.ntmps48
    go_wp2_with (at_builtin; refine wpList_append_row rfl _ _ 65 rfl w.heap.size 5 i0 _ 1 Tryd.underlying65 hi hz0 hz1 hz2 rfl _ 0 [] rfl (own_made .u8 w 5 [] rfl (Nat.le_refl _) (by unfold maxLen; simp)) .u8 (some x) len cap (toI l) rfl (h.below (Nat.le_refl _) ((Below.refl _ _).alloc (Nat.le_refl _) _)) (by unfold maxLen; omega) (by omega) (by simp) ?_)
    intro v2 w2 hown hg
    have hB := ((Below.refl w.heap.size w).alloc (Nat.le_refl _) (.cells #[] 5)).grown hg (by simp) (fun k e => by cases e; exact Nat.le_refl _)
    clear hg
    have hown' : w2.ownsRow w.heap.size 5 1 v2 l.length ((toI l).map (Value.int .u8)) := by
      rw [hll.out]; simpa using hown
    clear hown
    go_wp2
    go_ret
    exact ⟨_, rfl, hown', hB⟩
end Go.Proofs.YtpghlmcoajaiiaaDoor

/- The walks of the chapter on numbers and texts as bytes: so many bytes, taken, and what they come to (three instances). -/
namespace Go.Proofs.YtpghlmcoajaiiaaDoor
open Go.RowKit

/-- A taker of its own bytes. -/
def TakeOwn (w : World) (l : List UInt8) (e : Ending) (w' : World) : Prop :=
  ∃ a cap, e = .returned (.pointer (some ⟨w'.heap.size - 1, 0, none⟩)) ∧ w'.heap[w'.heap.size - 1]? = some (.cells #[.slice a l.length cap, .int .i64 0] 109 (0, 0)) ∧
    w'.ownsRow w.heap.size 5 1 (.slice a l.length cap) l.length ((toI l).map (Value.int .u8)) ∧ w.heap.size ≤ w'.heap.size - 1 ∧ w'.heap.size - 1 < w'.heap.size ∧ Below w.heap.size w w'

set_option maxRecDepth 100000 in
set_option maxHeartbeats 1000000 in
theorem take_any (a : Option Addr) (len cap : Nat) (l : List UInt8) (w : World) (h : Bs w a len cap l) (hreach : len ≤ 140737488351232) :
    Calls Tryd.prog 32 #[.slice a len cap] w fun e w' => e = .returned (.pointer (some ⟨w'.heap.size - 1, 0, none⟩)) ∧ Tk w' (w'.heap.size - 1) ⟨l, 0⟩ ∧ w.heap.size ≤ w'.heap.size - 1 ∧ Below w.heap.size w w' := by
  have hll := Lib.hid h.len
  go_enter Tryd.func32, Tryd.ntmps32
  go_wp2_with fail
  refine (clone_any a len cap l w h hreach).mono ?_
  rintro e w1 ⟨v, rfl, hown, hb⟩
  obtain ⟨a2, cap2, rfl, hbs⟩ := Bs.of_own hown
  clear hown
  go_wp2
  go_ret
  have hs := hb.size
  refine ⟨by simp, ⟨a2, cap2, ?_, hbs.below (Nat.le_refl _) ((Below.refl _ _).alloc (Nat.le_refl _) _)⟩, by simp; omega, hb.alloc hs _⟩
  have := World.alloc_heap_new w1 (.cells #[.slice a2 l.length cap2, .int .i64 0] 109)
  simpa using this

set_option maxRecDepth 100000 in
set_option maxHeartbeats 1000000 in
/-- .. and of what it takes: a row of its own. -/
theorem take_own (a : Option Addr) (len cap : Nat) (l : List UInt8) (w : World) (h : Bs w a len cap l) (hreach : len ≤ 140737488351232) :
    Calls Tryd.prog 32 #[.slice a len cap] w (TakeOwn w l) := by
  have hll := Lib.hid h.len
  go_enter Tryd.func32, Tryd.ntmps32
  go_wp2_with fail
  refine (clone_any a len cap l w h hreach).mono ?_
  rintro e w1 ⟨v, rfl, hown, hb⟩
  obtain ⟨a2, cap2, rfl, _⟩ := own_slice hown
  go_wp2
  go_ret
  have hs := hb.size
  refine ⟨a2, cap2, by simp, ?_, hown.alloc _, by simp; omega, by simp, hb.alloc hs _⟩
  have := World.alloc_heap_new w1 (.cells #[.slice a2 l.length cap2, .int .i64 0] 109)
  simpa using this

/-! ### uint64 -/
set_option maxRecDepth 100000 in
set_option maxHeartbeats 1000000 in
theorem some_u64_nil (n : Int) (w : World) :
    Calls Tryd.prog 49 #[.pointer none, .int .i64 n, .func (.func 50) #[] #[]] w fun e w' => e = .returned (.int .u64 0) ∧ w = w' := by
  go_enter Tryd.func49, Tryd.ntmps49
  go_wp2
  go_ret
  exact ⟨rfl, rfl⟩

set_option maxRecDepth 100000 in
set_option maxHeartbeats 1000000 in
theorem some_u64_err (t : Nat) (s : TSt) (n : Int) (w : World) (h : Tk w t s) (he : s.e ≠ 0) :
    Calls Tryd.prog 49 #[.pointer (some ⟨t, 0, none⟩), .int .i64 n, .func (.func 50) #[] #[]] w fun e w' => e = .returned (.int .u64 0) ∧ w = w' := by
  obtain ⟨a, cap, hblk, hbs⟩ := h
  have hc1 : w.cell? ⟨t, 1, none⟩ = some (.int .i64 s.e) := by simp [World.cell?, hblk]
  have hne : (s.e == 0) = false := by simpa using he
  have hne' : (s.e != 0) = true := by simpa using he
  clear he
  generalize s.e = er at *
  go_enter Tryd.func49, Tryd.ntmps49
  go_wp2
  go_ret
  exact ⟨rfl, rfl⟩

set_option maxRecDepth 100000 in
set_option maxHeartbeats 1000000 in
theorem some_u64_any (t : Nat) (s : TSt) (n : Nat) (w : World) (h : Tk w t s) (h8 : n ≤ 8) (hreach : s.l.length ≤ 140737488351232) :
    Calls Tryd.prog 49 #[.pointer (some ⟨t, 0, none⟩), .int .i64 n, .func (.func 50) #[] #[]] w (TkPost w t (fun _ v => v = .int .u64 (beVal (takeF s n).1)) (takeF s n).2) := by
  by_cases he : s.e ≠ 0
  · refine (some_u64_err t s n w h he).mono ?_
    rintro e w' ⟨rfl, rfl⟩
    refine ⟨_, rfl, ?_, grown_below (Below.refl _ _) _, ?_⟩
    · simp only [takeF, if_pos he]; try rfl
    · simp only [takeF, if_pos he]; exact h
  · obtain ⟨sl, se⟩ := s
    obtain rfl : se = 0 := by simpa using he
    clear he
    have hT := h
    obtain ⟨a, cap, hblk, hbs⟩ := h
    dsimp only at hbs hblk hreach
    have hc0 : w.cell? ⟨t, 0, none⟩ = some (.slice a sl.length cap) := by simp [World.cell?, hblk]
    have hc1 : w.cell? ⟨t, 1, none⟩ = some (.int .i64 0) := by simp [World.cell?, hblk]
    have hf0 : w.frozen? ⟨t, 0, none⟩ = false := by simp [World.frozen?, hblk]
    have hf1 : w.frozen? ⟨t, 1, none⟩ = false := by simp [World.frozen?, hblk]
    have hm := hbs.cap
    unfold maxLen at hm
    by_cases hlt : sl.length < n
    · have hts : takeF ⟨sl, 0⟩ n = ([], ⟨sl, 10⟩) := by simp [takeF, hlt]
      rw [hts]
      clear hts
      have hnew : Tk (w.setCell ⟨t, 1, none⟩ (.int .i64 10)) t ⟨sl, 10⟩ :=
        ⟨a, cap, heap_setCell_at 1 (.int .i64 10) hblk, hbs.grown (grown_setCell _ _ _) (bs_ne hblk hbs)⟩
      have hgr := grown_setCell w ⟨t, 1, none⟩ (.int .i64 10)
      clear hblk hbs hT
      go_enter Tryd.func49, Tryd.ntmps49
      go_wp2
      go_ret
      exact ⟨_, rfl, rfl, hgr, hnew⟩
    · have hts : takeF ⟨sl, 0⟩ n = (sl.take n, ⟨sl.drop n, 0⟩) := by simp [takeF, hlt]
      rw [hts]
      clear hts
      obtain ⟨a2, ha2, hsl⟩ := slice_from elem_bytes size_bytes a sl.length cap n (by omega)
      have q1 := hbs.take n (by omega)
      have q2 := hbs.drop n (by omega)
      rw [← ha2] at q2
      clear ha2
      have hgr := grown_setCell w ⟨t, 0, none⟩ (.slice a2 (sl.length - n) (cap - n))
      have hnew : Tk (w.setCell ⟨t, 0, none⟩ (.slice a2 (sl.length - n) (cap - n))) t ⟨sl.drop n, 0⟩ :=
        ⟨a2, cap - n, by rw [List.length_drop]; exact heap_setCell_at 0 (.slice a2 (sl.length - n) (cap - n)) hblk, by rw [List.length_drop]; exact q2.grown hgr (bs_ne hblk q2)⟩
      have q1' := q1.grown hgr (bs_ne hblk q1)
      clear hblk hbs hT q1 q2
      go_enter Tryd.func49, Tryd.ntmps49
      go_wp2_with fail
      refine (num1_any _ _ _ _ _ q1' h8).mono ?_
      rintro e w2 ⟨rfl, rfl⟩
      go_wp2
      go_ret
      exact ⟨_, rfl, rfl, hgr, hnew⟩
/-! ### string -/
set_option maxRecDepth 100000 in
set_option maxHeartbeats 1000000 in
theorem some_str_nil (n : Int) (w : World) :
    Calls Tryd.prog 51 #[.pointer none, .int .i64 n, .func (.func 52) #[] #[]] w fun e w' => e = .returned (.string (strOf [])) ∧ w = w' := by
  go_enter Tryd.func51, Tryd.ntmps51
  go_wp2
  go_ret
  exact ⟨rfl, rfl⟩

set_option maxRecDepth 100000 in
set_option maxHeartbeats 1000000 in
theorem some_str_err (t : Nat) (s : TSt) (n : Int) (w : World) (h : Tk w t s) (he : s.e ≠ 0) :
    Calls Tryd.prog 51 #[.pointer (some ⟨t, 0, none⟩), .int .i64 n, .func (.func 52) #[] #[]] w fun e w' => e = .returned (.string (strOf [])) ∧ w = w' := by
  obtain ⟨a, cap, hblk, hbs⟩ := h
  have hc1 : w.cell? ⟨t, 1, none⟩ = some (.int .i64 s.e) := by simp [World.cell?, hblk]
  have hne : (s.e == 0) = false := by simpa using he
  have hne' : (s.e != 0) = true := by simpa using he
  clear he
  generalize s.e = er at *
  go_enter Tryd.func51, Tryd.ntmps51
  go_wp2
  go_ret
  exact ⟨rfl, rfl⟩

set_option maxRecDepth 100000 in
set_option maxHeartbeats 1000000 in
theorem some_str_any (t : Nat) (s : TSt) (n : Nat) (w : World) (h : Tk w t s) (hreach : s.l.length ≤ 140737488351232) :
    Calls Tryd.prog 51 #[.pointer (some ⟨t, 0, none⟩), .int .i64 n, .func (.func 52) #[] #[]] w (TkPost w t (fun _ v => v = .string (strOf (takeF s n).1)) (takeF s n).2) := by
  by_cases he : s.e ≠ 0
  · refine (some_str_err t s n w h he).mono ?_
    rintro e w' ⟨rfl, rfl⟩
    refine ⟨_, rfl, ?_, grown_below (Below.refl _ _) _, ?_⟩
    · simp only [takeF, if_pos he]; try rfl
    · simp only [takeF, if_pos he]; exact h
  · obtain ⟨sl, se⟩ := s
    obtain rfl : se = 0 := by simpa using he
    clear he
    have hT := h
    obtain ⟨a, cap, hblk, hbs⟩ := h
    dsimp only at hbs hblk hreach
    have hc0 : w.cell? ⟨t, 0, none⟩ = some (.slice a sl.length cap) := by simp [World.cell?, hblk]
    have hc1 : w.cell? ⟨t, 1, none⟩ = some (.int .i64 0) := by simp [World.cell?, hblk]
    have hf0 : w.frozen? ⟨t, 0, none⟩ = false := by simp [World.frozen?, hblk]
    have hf1 : w.frozen? ⟨t, 1, none⟩ = false := by simp [World.frozen?, hblk]
    have hm := hbs.cap
    unfold maxLen at hm
    by_cases hlt : sl.length < n
    · have hts : takeF ⟨sl, 0⟩ n = ([], ⟨sl, 10⟩) := by simp [takeF, hlt]
      rw [hts]
      clear hts
      have hnew : Tk (w.setCell ⟨t, 1, none⟩ (.int .i64 10)) t ⟨sl, 10⟩ :=
        ⟨a, cap, heap_setCell_at 1 (.int .i64 10) hblk, hbs.grown (grown_setCell _ _ _) (bs_ne hblk hbs)⟩
      have hgr := grown_setCell w ⟨t, 1, none⟩ (.int .i64 10)
      clear hblk hbs hT
      go_enter Tryd.func51, Tryd.ntmps51
      go_wp2
      go_ret
      exact ⟨_, rfl, rfl, hgr, hnew⟩
    · have hts : takeF ⟨sl, 0⟩ n = (sl.take n, ⟨sl.drop n, 0⟩) := by simp [takeF, hlt]
      rw [hts]
      clear hts
      obtain ⟨a2, ha2, hsl⟩ := slice_from elem_bytes size_bytes a sl.length cap n (by omega)
      have q1 := hbs.take n (by omega)
      have q2 := hbs.drop n (by omega)
      rw [← ha2] at q2
      clear ha2
      have hgr := grown_setCell w ⟨t, 0, none⟩ (.slice a2 (sl.length - n) (cap - n))
      have hnew : Tk (w.setCell ⟨t, 0, none⟩ (.slice a2 (sl.length - n) (cap - n))) t ⟨sl.drop n, 0⟩ :=
        ⟨a2, cap - n, by rw [List.length_drop]; exact heap_setCell_at 0 (.slice a2 (sl.length - n) (cap - n)) hblk, by rw [List.length_drop]; exact q2.grown hgr (bs_ne hblk q2)⟩
      have q1' := q1.grown hgr (bs_ne hblk q1)
      clear hblk hbs hT q1 q2
      go_enter Tryd.func51, Tryd.ntmps51
      go_wp2_with fail
      refine (text1_any _ _ _ _ _ q1' ).mono ?_
      rintro e w2 ⟨rfl, rfl⟩
      go_wp2
      go_ret
      exact ⟨_, rfl, rfl, hgr, hnew⟩
end Go.Proofs.YtpghlmcoajaiiaaDoor

/- The walks of the chapter on numbers and texts as bytes: a taker's methods. -/
namespace Go.Proofs.YtpghlmcoajaiiaaDoor
open Go.RowKit

/-! a taker that there isn't -/
set_option maxRecDepth 100000 in
set_option maxHeartbeats 1000000 in
theorem tNum_nil (size : Int) (w : World) :
    Calls Tryd.prog 33 #[.pointer none, .int .i64 size] w fun e w' => e = .returned (.int .u64 0) ∧ w = w' := by
  go_enter Tryd.func33, Tryd.ntmps33
  go_wp2_with (go_at_call 49; refine (some_u64_nil _ _).mono ?_; rintro e w' ⟨rfl, rfl⟩)
  go_ret
  exact ⟨rfl, rfl⟩
set_option maxRecDepth 100000 in
set_option maxHeartbeats 1000000 in
theorem tText_nil (w : World) :
    Calls Tryd.prog 34 #[.pointer none] w fun e w' => e = .returned (.string (strOf [])) ∧ w = w' := by
  go_enter Tryd.func34, Tryd.ntmps34
  go_wp2_with fail
  refine (tNum_nil _ _).mono ?_
  rintro e w' ⟨rfl, rfl⟩
  go_wp2_with fail
  refine (some_str_nil _ _).mono ?_
  rintro e w' ⟨rfl, rfl⟩
  go_wp2
  go_ret
  exact ⟨rfl, rfl⟩
set_option maxRecDepth 100000 in
set_option maxHeartbeats 1000000 in
theorem tErr_nil (w : World) :
    Calls Tryd.prog 53 #[.pointer none] w fun e w' => e = .returned (.int .i64 1) ∧ w = w' := by
  go_enter Tryd.func53, Tryd.ntmps53
  go_wp2
  go_ret
  exact ⟨rfl, rfl⟩
set_option maxRecDepth 100000 in
set_option maxHeartbeats 1000000 in
theorem tDone_nil (w : World) :
    Calls Tryd.prog 35 #[.pointer none] w fun e w' => e = .returned (.int .i64 1) ∧ w = w' := by
  go_enter Tryd.func35, Tryd.ntmps35
  go_wp2_with fail
  refine (tErr_nil _).mono ?_
  rintro e w' ⟨rfl, rfl⟩
  go_wp2
  go_ret
  exact ⟨rfl, rfl⟩

/-! a taker -/
set_option maxRecDepth 100000 in
set_option maxHeartbeats 1000000 in
theorem tErr_any (t : Nat) (s : TSt) (w : World) (h : Tk w t s) :
    Calls Tryd.prog 53 #[.pointer (some ⟨t, 0, none⟩)] w fun e w' => e = .returned (.int .i64 s.e) ∧ w = w' := by
  obtain ⟨a, cap, hblk, hbs⟩ := h
  have hc1 : w.cell? ⟨t, 1, none⟩ = some (.int .i64 s.e) := by simp [World.cell?, hblk]
  go_enter Tryd.func53, Tryd.ntmps53
  go_wp2
  go_ret
  exact ⟨rfl, rfl⟩

set_option maxRecDepth 100000 in
set_option maxHeartbeats 1000000 in
theorem tDone_any (t : Nat) (s : TSt) (w : World) (h : Tk w t s) :
    Calls Tryd.prog 35 #[.pointer (some ⟨t, 0, none⟩)] w fun e w' => e = .returned (.int .i64 (tDone s)) ∧ w = w' := by
  have hE := tErr_any t s w h
  obtain ⟨a, cap, hblk, hbs⟩ := h
  have hc0 : w.cell? ⟨t, 0, none⟩ = some (.slice a s.l.length cap) := by simp [World.cell?, hblk]
  have hm := hbs.cap
  unfold maxLen at hm
  by_cases he : s.e = 0
  · have hd : tDone s = if s.l.length = 0 then 0 else 11 := by simp [tDone, he]
    rw [he] at hE
    have hne' : ((s.l.length : Int) == 0) = decide (s.l.length = 0) := by
      by_cases h0 : s.l.length = 0 <;> simp [h0]
    by_cases h0 : s.l.length = 0
    · rw [if_pos h0] at hd
      have HD := Lib.hid hd
      have hz : ((s.l.length : Int) == 0) = true := by simp [h0]
      clear hd h0 hne' he
      go_enter Tryd.func35, Tryd.ntmps35
      go_wp2_with fail
      refine hE.mono ?_
      rintro e w' ⟨rfl, rfl⟩
      go_wp2
      go_ret
      exact ⟨ret_int HD.out.symm, rfl⟩
    · rw [if_neg h0] at hd
      have HD := Lib.hid hd
      have hz : ((s.l.length : Int) == 0) = false := by simp [h0]
      clear hd h0 hne' he
      go_enter Tryd.func35, Tryd.ntmps35
      go_wp2_with fail
      refine hE.mono ?_
      rintro e w' ⟨rfl, rfl⟩
      go_wp2
      go_ret
      exact ⟨ret_int HD.out.symm, rfl⟩
  · have HD := Lib.hid (show tDone s = s.e by simp [tDone, he])
    have hne : (s.e == 0) = false := by simpa using he
    have hne' : (s.e != 0) = true := by simpa using he
    clear he
    generalize s.e = er at *
    go_enter Tryd.func35, Tryd.ntmps35
    go_wp2_with fail
    refine hE.mono ?_
    rintro e w' ⟨rfl, rfl⟩
    go_wp2
    go_ret
    exact ⟨ret_int HD.out.symm, rfl⟩

set_option maxRecDepth 100000 in
set_option maxHeartbeats 1000000 in
theorem tNum_any (t : Nat) (s : TSt) (size : Int) (w : World) (h : Tk w t s) (hreach : s.l.length ≤ 140737488351232) :
    Calls Tryd.prog 33 #[.pointer (some ⟨t, 0, none⟩), .int .i64 size] w (TkPost w t (fun _ v => v = .int .u64 ((tNum s size).1 : Int)) (tNum s size).2) := by
  have hT := h
  obtain ⟨a, cap, hblk, hbs⟩ := h
  have hc1 : w.cell? ⟨t, 1, none⟩ = some (.int .i64 s.e) := by simp [World.cell?, hblk]
  have hf1 : w.frozen? ⟨t, 1, none⟩ = false := by simp [World.frozen?, hblk]
  by_cases he : s.e = 0
  · by_cases hsz : size < 1 ∨ 8 < size
    · have hr : tNum s size = (0, { s with e := 1 }) := by simp [tNum, he, hsz]
      rw [hr]
      have hnew : Tk (w.setCell ⟨t, 1, none⟩ (.int .i64 1)) t { s with e := 1 } :=
        ⟨a, cap, heap_setCell_at 1 (.int .i64 1) hblk, hbs.grown (grown_setCell _ _ _) (bs_ne hblk hbs)⟩
      have hgr := grown_setCell w ⟨t, 1, none⟩ (.int .i64 1)
      rw [he] at hc1
      clear hr hblk hbs hT he
      rcases hsz with hsz | hsz
      · go_enter Tryd.func33, Tryd.ntmps33
        go_wp2
        go_ret
        exact ⟨_, rfl, rfl, hgr, hnew⟩
      · have hsz' : ¬ size < 1 := by omega
        go_enter Tryd.func33, Tryd.ntmps33
        go_wp2
        go_ret
        exact ⟨_, rfl, rfl, hgr, hnew⟩
    · obtain ⟨n, rfl⟩ := Int.eq_ofNat_of_zero_le (show 0 ≤ size by omega)
      have hr : tNum s (n : Int) = (beVal (takeF s n).1, (takeF s n).2) := by simp only [tNum]; rw [if_neg (fun h => hsz h.2)]; rfl
      rw [hr]
      have hs1 : ¬ (n : Int) < 1 := by omega
      have hs2 : ¬ (8 : Int) < (n : Int) := by omega
      have hcall := some_u64_any t s n w hT (by omega) hreach
      rw [he] at hc1
      clear hr hblk hbs hT he hsz
      go_enter Tryd.func33, Tryd.ntmps33
      go_wp2_with fail
      refine hcall.mono ?_
      rintro e w' ⟨v, rfl, rfl, hgr, hnew⟩
      go_wp2
      go_ret
      exact ⟨_, rfl, rfl, hgr, hnew⟩
  · have hr : tNum s size = (0, s) := by simp [tNum, takeF, he, beVal_nil]
    rw [hr]
    have hcall := some_u64_err t s size w hT he
    have hne : (s.e == 0) = false := by simpa using he
    clear hr hblk hbs he
    generalize s.e = er at *
    go_enter Tryd.func33, Tryd.ntmps33
    go_wp2_with fail
    refine hcall.mono ?_
    rintro e w' ⟨rfl, rfl⟩
    go_wp2
    go_ret
    exact ⟨_, rfl, rfl, grown_below (Below.refl _ _) _, hT⟩

theorem takeF_len (s : TSt) (n : Nat) : (takeF s n).2.l.length ≤ s.l.length := by
  unfold takeF; split
  · exact Nat.le_refl _
  · split
    · exact Nat.le_refl _
    · simp
theorem tNum_len (s : TSt) (size : Int) : (tNum s size).2.l.length ≤ s.l.length := by
  unfold tNum; split
  · exact Nat.le_refl _
  · exact takeF_len _ _
theorem takeF_le (s : TSt) (n : Nat) : (takeF s n).1.length ≤ n := by
  unfold takeF; split
  · simp
  · split
    · simp
    · simp; omega
theorem tNum_lt (s : TSt) (k : Nat) : (tNum s (k : Int)).1 < 256 ^ k := by
  unfold tNum; split
  · exact Nat.pow_pos (by decide)
  · exact Nat.lt_of_lt_of_le (beVal_lt _) (Nat.pow_le_pow_right (by decide) (takeF_le _ _))

set_option maxRecDepth 100000 in
set_option maxHeartbeats 1000000 in
theorem tText_any (t : Nat) (s : TSt) (w : World) (h : Tk w t s) (hreach : s.l.length ≤ 140737488351232) :
    Calls Tryd.prog 34 #[.pointer (some ⟨t, 0, none⟩)] w (TkPost w t (fun _ v => v = .string (strOf (tText s).1)) (tText s).2) := by
  have hlt := tNum_lt s 1
  have hlen := tNum_len s 1
  have hcall := tNum_any t s 1 w h hreach
  obtain ⟨n, s1, hs⟩ : ∃ n s1, tNum s 1 = (n, s1) := ⟨_, _, rfl⟩
  have hr : tText s = takeF s1 n := by simp [tText, hs]
  have hs' : tNum s ((1 : Nat) : Int) = (n, s1) := hs
  rw [hs] at hcall hlen
  rw [hs'] at hlt
  rw [hr]
  dsimp only at hlt hlen hcall
  clear hr hs hs'
  go_enter Tryd.func34, Tryd.ntmps34
  go_wp2_with fail
  refine hcall.mono ?_
  rintro e w1 ⟨v, rfl, rfl, hgr, hnew⟩
  go_wp2_with fail
  refine (some_str_any t s1 n w1 hnew (by omega)).mono ?_
  rintro e w2 ⟨v, rfl, rfl, hgr2, hnew2⟩
  go_wp2
  go_ret
  exact ⟨_, rfl, rfl, grown_trans hgr hgr2, hnew2⟩

end Go.Proofs.YtpghlmcoajaiiaaDoor

/- Records: the record of bytes. -/
namespace Go.Proofs.YtpghlmcoajaiiaaDoor
open Go.RowKit

/-- What is left behind the first numbers. -/
def gN (l : List UInt8) : Nat → TSt
  | 0 => ⟨l, 0⟩
  | i + 1 => (tNum (gN l i) 1).2
def gV (l : List UInt8) (i : Nat) : Nat := (tNum (gN l i) 1).1
/-- .. and behind the first texts. -/
def gT (l : List UInt8) : Nat → TSt
  | 0 => gN l 3
  | i + 1 => (tText (gT l i)).2
def gS (l : List UInt8) (i : Nat) : List UInt8 := (tText (gT l i)).1
def gE (l : List UInt8) : TSt := (tNum (gT l 2) 4).2
def gD (l : List UInt8) : Nat := (tNum (gT l 2) 4).1
def getRec (l : List UInt8) : RcD := ⟨(gV l 0 : Int), (gV l 1 : Int), (gV l 2 : Int), gS l 0, gS l 1, gD l⟩
def zeroRc : RcD := ⟨0, 0, 0, [], [], 0⟩
/-- The record of bytes, or the error. -/
def getR (l : List UInt8) : RcD := if tDone (gE l) = 0 then getRec l else zeroRc
def getRE (l : List UInt8) : Int := tDone (gE l)
theorem gN_len (l : List UInt8) : ∀ i, (gN l i).l.length ≤ l.length
  | 0 => Nat.le_refl _
  | i + 1 => Nat.le_trans (tNum_len _ _) (gN_len l i)
theorem tText_len (s : TSt) : (tText s).2.l.length ≤ s.l.length := Nat.le_trans (takeF_len _ _) (tNum_len _ _)
theorem gT_len (l : List UInt8) : ∀ i, (gT l i).l.length ≤ l.length
  | 0 => gN_len l 3
  | i + 1 => Nat.le_trans (tText_len _) (gT_len l i)
theorem gV_lt (l : List UInt8) (i : Nat) : gV l i < 256 := by
  have := tNum_lt (gN l i) 1
  simpa [gV] using this
theorem gD_lt (l : List UInt8) : gD l < 4294967296 := by
  have := tNum_lt (gT l 2) 4
  simpa [gD] using this
theorem Tk.below' {w w' : World} {t : Nat} {s : TSt} (h : Tk w t s) (hb : Below w.heap.size w w') : Tk w' t s := by
  obtain ⟨a, cap, h1, h2⟩ := h
  exact ⟨a, cap, (hb.block t (Array.getElem?_eq_some_iff.1 h1).1).trans h1, h2.below (Nat.le_refl _) hb⟩
/-- A box that holds no byte is written: the taker stays. -/
theorem Tk.set_box {w : World} {t : Nat} {s : TSt} (h : Tk w t s) {rb : Nat} {vs : List Value} (hx : Boxes w [(rb, vs)]) (hvs : ∀ v ∈ vs, ∀ n, v ≠ .int .u8 n) (hne : t ≠ rb) (i : Nat) (u : Value) : Tk (w.setCell ⟨rb, i, none⟩ u) t s := by
  obtain ⟨a, cap, h1, h2, h3, h4, h5, h6⟩ := h
  refine ⟨a, cap, (Below.heap_setCell w ⟨rb, i, none⟩ u t hne).trans h1, h2, h3, h4, h5, ?_⟩
  rcases h6 with h6 | ⟨b, off, e, hb, hc⟩
  · exact .inl h6
  · by_cases hl : s.l.length = 0
    · exact .inl hl
    · refine .inr ⟨b, off, e, by simpa using hb, fun k hk => ?_⟩
      have hbr : b ≠ rb := by
        intro e9
        subst e9
        have h9 := hc 0 (by omega)
        obtain ⟨ty, hty⟩ := hx (b, vs) (by simp)
        simp only [World.cell?, hty] at h9
        have h8 : vs[off]? = some (.int .u8 ((toI s.l)[0]?.getD 0)) := by simpa using h9
        exact hvs _ (List.mem_of_getElem? h8) _ rfl
      rw [World.cell?_of_block (Below.heap_setCell w ⟨rb, i, none⟩ u b hbr)]
      exact hc k hk
def zRc : List Value := [.int .i64 0, .int .i64 0, .int .i64 0, .string ByteArray.empty, .string ByteArray.empty, .int .u32 0]
/-- The record's box behind so many numbers. -/
def NumBox (l : List UInt8) (i rb : Nat) (rest : List (Nat × List Value)) (w : World) : Prop :=
  ∃ c0 c1 c2 : Int, (0 < i → c0 = gV l 0) ∧ (1 < i → c1 = gV l 1) ∧ (2 < i → c2 = gV l 2) ∧ Boxes w ((rb, [.int .i64 c0, .int .i64 c1, .int .i64 c2, .string ByteArray.empty, .string ByteArray.empty, .int .u32 0]) :: rest)
theorem NumBox.put {l : List UInt8} {i rb : Nat} {rest : List (Nat × List Value)} {w : World} (h : NumBox l i rb rest w) (hi : i < 3) (hne : ∀ p ∈ rest, p.1 ≠ rb) : NumBox l (i + 1) rb rest (w.setCell ⟨rb, i, none⟩ (.int .i64 (gV l i : Int))) := by
  obtain ⟨c0, c1, c2, h0, h1, h2, hx⟩ := h
  match i, hi with
  | 0, _ => exact ⟨_, c1, c2, fun _ => rfl, (fun h => by omega), (fun h => by omega), hx.put 0 _ hne⟩
  | 1, _ => exact ⟨c0, _, c2, (fun _ => h0 (by omega)), fun _ => rfl, (fun h => by omega), hx.put 1 _ hne⟩
  | 2, _ => exact ⟨c0, c1, _, (fun _ => h0 (by omega)), (fun _ => h1 (by omega)), fun _ => rfl, hx.put 2 _ hne⟩
theorem NumBox.facts {l : List UInt8} {i rb : Nat} {rest : List (Nat × List Value)} {w : World} (h : NumBox l i rb rest w) (hi : i < 3) : (∃ v, w.cell? ⟨rb, i, none⟩ = some v) ∧ w.frozen? ⟨rb, i, none⟩ = false := by
  obtain ⟨c0, c1, c2, h0, h1, h2, hx⟩ := h
  refine ⟨?_, hx.frozen 0 i rfl⟩
  match i, hi with
  | 0, _ => exact ⟨_, hx.cell 0 0 rfl rfl⟩
  | 1, _ => exact ⟨_, hx.cell 0 1 rfl rfl⟩
  | 2, _ => exact ⟨_, hx.cell 0 2 rfl rfl⟩
theorem NumBox.grown {l : List UInt8} {i rb : Nat} {rest : List (Nat × List Value)} {w w' : World} (h : NumBox l i rb rest w) {t : Nat} (hg : w.grownBy w' (some t)) (hne : t ≠ rb) (hr : ∀ p ∈ rest, t ≠ p.1) : NumBox l i rb rest w' := by
  obtain ⟨c0, c1, c2, h0, h1, h2, hx⟩ := h
  refine ⟨c0, c1, c2, h0, h1, h2, hx.grown hg (fun p hp => ?_)⟩
  rcases List.mem_cons.1 hp with rfl | hp
  · intro e; exact hne (Option.some.inj e)
  · intro e; exact hr p hp (Option.some.inj e)
theorem NumBox.tk {l : List UInt8} {i rb : Nat} {rest : List (Nat × List Value)} {w : World} (h : NumBox l i rb rest w) {t : Nat} {s : TSt} (ht : Tk w t s) (hne : t ≠ rb) (k : Nat) (u : Value) : Tk (w.setCell ⟨rb, k, none⟩ u) t s := by
  obtain ⟨c0, c1, c2, h0, h1, h2, hx⟩ := h
  have hx1 : Boxes w [(rb, [.int .i64 c0, .int .i64 c1, .int .i64 c2, .string ByteArray.empty, .string ByteArray.empty, .int .u32 0])] := hx.sub (by intro p hp; simp at hp; subst hp; simp)
  refine ht.set_box hx1 (fun v hv n => ?_) hne k u
  simp at hv
  rcases hv with rfl | rfl | rfl | rfl | rfl <;> (intro e; cases e)
theorem NumBox.box {l : List UInt8} {i rb : Nat} {rest : List (Nat × List Value)} {w : World} (h : NumBox l i rb rest w) : Boxes w rest := by
  obtain ⟨c0, c1, c2, h0, h1, h2, hx⟩ := h
  exact hx.sub (fun p hp => List.mem_cons_of_mem _ hp)
/-- The record's box behind so many texts. -/
def TxtBox (l : List UInt8) (i rb : Nat) (rest : List (Nat × List Value)) (w : World) : Prop :=
  ∃ s0 s1 : List UInt8, (0 < i → s0 = gS l 0) ∧ (1 < i → s1 = gS l 1) ∧ Boxes w ((rb, [.int .i64 (gV l 0 : Int), .int .i64 (gV l 1 : Int), .int .i64 (gV l 2 : Int), .string (strOf s0), .string (strOf s1), .int .u32 0]) :: rest)
theorem TxtBox.put {l : List UInt8} {i rb : Nat} {rest : List (Nat × List Value)} {w : World} (h : TxtBox l i rb rest w) (hi : i < 2) (hne : ∀ p ∈ rest, p.1 ≠ rb) : TxtBox l (i + 1) rb rest (w.setCell ⟨rb, 3 + i, none⟩ (.string (strOf (gS l i)))) := by
  obtain ⟨c0, c1, h0, h1, hx⟩ := h
  match i, hi with
  | 0, _ => exact ⟨_, c1, fun _ => rfl, (fun h => by omega), hx.put 3 _ hne⟩
  | 1, _ => exact ⟨c0, _, (fun _ => h0 (by omega)), fun _ => rfl, hx.put 4 _ hne⟩
theorem TxtBox.facts {l : List UInt8} {i rb : Nat} {rest : List (Nat × List Value)} {w : World} (h : TxtBox l i rb rest w) (hi : i < 2) : (∃ v, w.cell? ⟨rb, 3 + i, none⟩ = some v) ∧ w.frozen? ⟨rb, 3 + i, none⟩ = false := by
  obtain ⟨c0, c1, h0, h1, hx⟩ := h
  refine ⟨?_, hx.frozen 0 _ rfl⟩
  match i, hi with
  | 0, _ => exact ⟨_, hx.cell 0 3 rfl rfl⟩
  | 1, _ => exact ⟨_, hx.cell 0 4 rfl rfl⟩
theorem TxtBox.grown {l : List UInt8} {i rb : Nat} {rest : List (Nat × List Value)} {w w' : World} (h : TxtBox l i rb rest w) {t : Nat} (hg : w.grownBy w' (some t)) (hne : t ≠ rb) (hr : ∀ p ∈ rest, t ≠ p.1) : TxtBox l i rb rest w' := by
  obtain ⟨c0, c1, h0, h1, hx⟩ := h
  refine ⟨c0, c1, h0, h1, hx.grown hg (fun p hp => ?_)⟩
  rcases List.mem_cons.1 hp with rfl | hp
  · intro e; exact hne (Option.some.inj e)
  · intro e; exact hr p hp (Option.some.inj e)
theorem TxtBox.tk {l : List UInt8} {i rb : Nat} {rest : List (Nat × List Value)} {w : World} (h : TxtBox l i rb rest w) {t : Nat} {s : TSt} (ht : Tk w t s) (hne : t ≠ rb) (k : Nat) (u : Value) : Tk (w.setCell ⟨rb, k, none⟩ u) t s := by
  obtain ⟨c0, c1, h0, h1, hx⟩ := h
  have hx1 : Boxes w [(rb, [.int .i64 (gV l 0 : Int), .int .i64 (gV l 1 : Int), .int .i64 (gV l 2 : Int), .string (strOf c0), .string (strOf c1), .int .u32 0])] := hx.sub (by intro p hp; simp at hp; subst hp; simp)
  refine ht.set_box hx1 (fun v hv n => ?_) hne k u
  simp at hv
  rcases hv with rfl | rfl | rfl | rfl | rfl | rfl <;> (intro e; cases e)
theorem TxtBox.box {l : List UInt8} {i rb : Nat} {rest : List (Nat × List Value)} {w : World} (h : TxtBox l i rb rest w) : Boxes w rest := by
  obtain ⟨c0, c1, h0, h1, hx⟩ := h
  exact hx.sub (fun p hp => List.mem_cons_of_mem _ hp)
set_option maxRecDepth 100000 in
set_option maxHeartbeats 4000000 in
set_option maxRecDepth 100000 in
theorem rget_any (l : List UInt8) (w : World) (hl : l.length ≤ 100000) :
    Calls Tryd.prog 14 #[.string (strOf l)] w fun e w' => e = .returned (.tuple #[rcV (getR l), .int .i64 (getRE l)]) ∧ Below w.heap.size w w' := by
  obtain ⟨W1, hW1⟩ : ∃ x, w.alloc (.cells #[.int .i64 0, .int .i64 0, .int .i64 0, .string ByteArray.empty, .string ByteArray.empty, .int .u32 0] 39) = x := ⟨_, rfl⟩
  have hx1 : Boxes W1 [(w.heap.size, [.int .i64 0, .int .i64 0, .int .i64 0, .string ByteArray.empty, .string ByteArray.empty, .int .u32 0])] := by
    rw [← hW1]
    exact (Boxes.nil w).alloc #[.int .i64 0, .int .i64 0, .int .i64 0, .string ByteArray.empty, .string ByteArray.empty, .int .u32 0] 39 (b := w.heap.size) rfl
  have hb1 : Below w.heap.size w W1 := by rw [← hW1]; exact Below.al (Below.refl _ _)
  have hzr : ∀ W, (zeroValue 39).run Tryd.prog W = .ok (.agg #[.int .i64 0, .int .i64 0, .int .i64 0, .string ByteArray.empty, .string ByteArray.empty, .int .u32 0]) W := fun W => by kernel_rfl
  obtain ⟨c2, W2, hcv, hbs, hb2⟩ := str_bytes (P := Tryd.prog) W1 Tryd.underlying9 Tryd.underlying65 Tryd.underlying5 l (by omega)
  have C1 := take_any _ _ _ _ W2 hbs (by omega)
  go_enter Tryd.func14, Tryd.ntmps14
  go_wp2_with fail
  refine C1.mono ?_
  rintro e w3 ⟨rfl, htk, hge, hb3⟩
  obtain ⟨t, ht⟩ : ∃ t, w3.heap.size - 1 = t := ⟨_, rfl⟩
  rw [ht] at htk hge ⊢
  have htlt := htk.lt
  have hb13 := below_via hb1 (below_via hb2 hb3)
  have hx3 := hx1.step (below_via hb2 hb3)
  have hwt : w.heap.size < t := by have := hx1.lt 0 rfl; have := hb2.size; omega
  obtain ⟨rb, hrb⟩ : ∃ z, w3.heap.size = z := ⟨_, rfl⟩
  obtain ⟨W4, hW4⟩ : ∃ x, w3.alloc (.cells #[.int .i64 0, .int .i64 0, .int .i64 0, .string ByteArray.empty, .string ByteArray.empty, .int .u32 0] 39) = x := ⟨_, rfl⟩
  have hx4 : Boxes W4 [(rb, [.int .i64 0, .int .i64 0, .int .i64 0, .string ByteArray.empty, .string ByteArray.empty, .int .u32 0]), (w.heap.size, [.int .i64 0, .int .i64 0, .int .i64 0, .string ByteArray.empty, .string ByteArray.empty, .int .u32 0])] := by
    rw [← hW4, ← hrb]
    exact hx3.alloc #[.int .i64 0, .int .i64 0, .int .i64 0, .string ByteArray.empty, .string ByteArray.empty, .int .u32 0] 39 (b := w3.heap.size) rfl
  have hb4 : Below w3.heap.size w3 W4 := by rw [← hW4]; exact Below.al (Below.refl _ _)
  have hs4 : W4.heap.size = rb + 1 := by rw [← hW4, World.size_alloc, hrb]
  obtain ⟨W5, hW5⟩ : ∃ x, W4.alloc (.cells #[.pointer (some ⟨rb, 0, none⟩), .pointer (some ⟨rb, 1, none⟩), .pointer (some ⟨rb, 2, none⟩)] 85) = x := ⟨_, rfl⟩
  have hb5 : Below W4.heap.size W4 W5 := by rw [← hW5]; exact Below.al (Below.refl _ _)
  have hx5 : Boxes W5 [(rb, [.int .i64 0, .int .i64 0, .int .i64 0, .string ByteArray.empty, .string ByteArray.empty, .int .u32 0]), (rb + 1, [.pointer (some ⟨rb, 0, none⟩), .pointer (some ⟨rb, 1, none⟩), .pointer (some ⟨rb, 2, none⟩)]), (w.heap.size, [.int .i64 0, .int .i64 0, .int .i64 0, .string ByteArray.empty, .string ByteArray.empty, .int .u32 0])] := by
    have h9 : Boxes W5 [(rb + 1, [.pointer (some ⟨rb, 0, none⟩), .pointer (some ⟨rb, 1, none⟩), .pointer (some ⟨rb, 2, none⟩)]), (rb, [.int .i64 0, .int .i64 0, .int .i64 0, .string ByteArray.empty, .string ByteArray.empty, .int .u32 0]), (w.heap.size, [.int .i64 0, .int .i64 0, .int .i64 0, .string ByteArray.empty, .string ByteArray.empty, .int .u32 0])] := by
      rw [← hW5, ← hs4]
      exact hx4.alloc #[.pointer (some ⟨rb, 0, none⟩), .pointer (some ⟨rb, 1, none⟩), .pointer (some ⟨rb, 2, none⟩)] 85 (b := W4.heap.size) rfl
    exact h9.sub (by intro p hp; simp at hp ⊢; rcases hp with rfl | rfl | rfl <;> simp)
  have htk5 : Tk W5 t ⟨l, 0⟩ := htk.below' (below_via hb4 hb5)
  have HX5 := Lib.hid hx5
  have HT5 := Lib.hid htk5
  have HB5 := Lib.hid (below_via hb13 (below_via hb4 hb5))
  have htr : t < rb := by omega
  clear hx1 hb1 hcv hbs hb2 C1 htk hge hb3 hb13 hx3 hx4 hb4 hx5 hb5 htk5 ht htlt
  have HN5 : Hid (NumBox l 0 rb [(rb + 1, [.pointer (some ⟨rb, 0, none⟩), .pointer (some ⟨rb, 1, none⟩), .pointer (some ⟨rb, 2, none⟩)]), (w.heap.size, zRc)] W5) := Lib.hid ⟨0, 0, 0, (fun h => by omega), (fun h => by omega), (fun h => by omega), HX5.out⟩
  clear HX5
  go_wp2_with fail
  go_loopw [19] (fun s wr => ∃ i : Nat, i ≤ 3 ∧ s = .int .i64 i ∧ Tk wr t (gN l i) ∧ NumBox l i rb [(rb + 1, [.pointer (some ⟨rb, 0, none⟩), .pointer (some ⟨rb, 1, none⟩), .pointer (some ⟨rb, 2, none⟩)]), (w.heap.size, zRc)] wr ∧ Below w.heap.size w wr) (fun s _ => 3 - (intOf s).toNat)
  case atStart => exact ⟨0, by omega, rfl, HT5.out, HN5.out, HB5.out⟩
  case round =>
    clear HT5 HN5 HB5
    obtain ⟨i, hi, rfl, htk, hn, hb⟩ := hrel
    by_cases hlt : i < 3
    · have hcell : wr.cell? ⟨rb + 1, i, none⟩ = some (.pointer (some ⟨rb, i, none⟩)) := by
        match i, hlt with
        | 0, _ => exact hn.box.cell 0 0 rfl rfl
        | 1, _ => exact hn.box.cell 0 1 rfl rfl
        | 2, _ => exact hn.box.cell 0 2 rfl rfl
      have d0 : decide ((i : Int) < 3) = true := by simp; omega
      have C2 := tNum_any t (gN l i) 1 wr htk (by have := gN_len l i; omega)
      have hv9 := gV_lt l i
      have hvd : (tNum (gN l i) 1).1 = gV l i := rfl
      have hsd : (tNum (gN l i) 1).2 = gN l (i + 1) := rfl
      rw [hvd, hsd] at C2
      clear hvd hsd
      obtain ⟨gv, hgv⟩ : ∃ z, gV l i = z := ⟨_, rfl⟩
      rw [hgv] at C2 hv9
      have hwr : IntKind.i64.wrap (gv : Int) = (gv : Int) := IntWalk.i64_in _ (by omega)
      go_wp2_with fail
      refine C2.mono ?_
      rintro e w6 ⟨v, rfl, rfl, hg, htk6⟩
      have hn6 := hn.grown hg (by omega) (by intro p hp; simp at hp; rcases hp with rfl | rfl <;> (try simp) <;> omega)
      obtain ⟨⟨v6, hc6⟩, hf6⟩ := hn6.facts hlt
      have hb6 := hb.grown hg hb.size (fun k hk => by cases hk; omega)
      have HN := Lib.hid (hn6.put hlt (by intro p hp; simp at hp; rcases hp with rfl | rfl <;> (try simp) <;> omega))
      have HT := Lib.hid (hn6.tk htk6 (by omega) i (.int .i64 (gv : Int)))
      have HB := Lib.hid (hb6.setCell (p := ⟨rb, i, none⟩) (by show w.heap.size ≤ rb; omega) (.int .i64 (gv : Int)))
      have HG := Lib.hid hgv
      clear hgv hn hb htk C2 hg htk6 hn6 hb6
      go_wp2_with fail
      go_roundw
      case rel => exact ⟨i + 1, by omega, by go_num, HT.out, by have := HN.out; rwa [HG.out] at this, HB.out⟩
      case measure => simp [intOf]; omega
    · obtain rfl : i = 3 := by omega
      have d0 : decide (((3 : Nat) : Int) < 3) = false := by decide
      have e3 : ((3 : Nat) : Int) = 3 := rfl
      rw [e3] at d0
      simp only [e3]
      clear e3
      obtain ⟨c0, c1, c2, h0, h1, h2, hx⟩ := hn
      obtain rfl := h0 (by omega)
      obtain rfl := h1 (by omega)
      obtain rfl := h2 (by omega)
      obtain ⟨qb, hqb⟩ : ∃ z, wr.heap.size = z := ⟨_, rfl⟩
      have hrq : rb + 1 < qb := by have := hx.lt 1 rfl; omega
      obtain ⟨W6, hW6⟩ : ∃ x, wr.alloc (.cells #[.pointer (some ⟨rb, 3, none⟩), .pointer (some ⟨rb, 4, none⟩)] 88) = x := ⟨_, rfl⟩
      have hb6 : Below wr.heap.size wr W6 := by rw [← hW6]; exact Below.al (Below.refl _ _)
      have hx6 : Boxes W6 [(rb, [.int .i64 (gV l 0 : Int), .int .i64 (gV l 1 : Int), .int .i64 (gV l 2 : Int), .string ByteArray.empty, .string ByteArray.empty, .int .u32 0]), (qb, [.pointer (some ⟨rb, 3, none⟩), .pointer (some ⟨rb, 4, none⟩)]), (w.heap.size, zRc)] := by
        have h9 := hx.alloc #[.pointer (some ⟨rb, 3, none⟩), .pointer (some ⟨rb, 4, none⟩)] 88 hqb
        rw [hW6] at h9
        exact h9.sub (by intro p hp; simp at hp ⊢; rcases hp with rfl | rfl | rfl <;> simp)
      have HT6 : Hid (Tk W6 t (gT l 0)) := Lib.hid (htk.below' hb6)
      have HX6 : Hid (TxtBox l 0 rb [(qb, [.pointer (some ⟨rb, 3, none⟩), .pointer (some ⟨rb, 4, none⟩)]), (w.heap.size, zRc)] W6) := Lib.hid ⟨[], [], (fun h => by omega), (fun h => by omega), hx6⟩
      have HB6 := Lib.hid (below_via hb hb6)
      clear hx hx6 hb hb6 htk h0 h1 h2
      go_wp2_with fail
      go_loopw [33] (fun s wq => ∃ i : Nat, i ≤ 2 ∧ s = .int .i64 i ∧ Tk wq t (gT l i) ∧ TxtBox l i rb [(qb, [.pointer (some ⟨rb, 3, none⟩), .pointer (some ⟨rb, 4, none⟩)]), (w.heap.size, zRc)] wq ∧ Below w.heap.size w wq) (fun s _ => 2 - (intOf s).toNat)
      case atStart => exact ⟨0, by omega, rfl, HT6.out, HX6.out, HB6.out⟩
      case round =>
        clear HT6 HX6 HB6 hW6 hqb
        obtain ⟨i, hi2, rfl, htk, hn, hb⟩ := hrel
        by_cases hlt2 : i < 2
        · have hcell : wr.cell? ⟨qb, i, none⟩ = some (.pointer (some ⟨rb, 3 + i, none⟩)) := by
            match i, hlt2 with
            | 0, _ => exact hn.box.cell 0 0 rfl rfl
            | 1, _ => exact hn.box.cell 0 1 rfl rfl
          have d0 : decide ((i : Int) < 2) = true := by simp; omega
          have C2 := tText_any t (gT l i) wr htk (by have := gT_len l i; omega)
          have hvd : (tText (gT l i)).1 = gS l i := rfl
          have hsd : (tText (gT l i)).2 = gT l (i + 1) := rfl
          rw [hvd, hsd] at C2
          clear hvd hsd
          obtain ⟨gv, hgv⟩ : ∃ z, gS l i = z := ⟨_, rfl⟩
          rw [hgv] at C2
          go_wp2_with fail
          refine C2.mono ?_
          rintro e w7 ⟨v, rfl, rfl, hg, htk7⟩
          have hn7 := hn.grown hg (by omega) (by intro p hp; simp at hp; rcases hp with rfl | rfl <;> (try simp) <;> omega)
          obtain ⟨⟨v7, hc7⟩, hf7⟩ := hn7.facts hlt2
          have hb7 := hb.grown hg hb.size (fun k hk => by cases hk; omega)
          have HN := Lib.hid (hn7.put hlt2 (by intro p hp; simp at hp; rcases hp with rfl | rfl <;> (try simp) <;> omega))
          have HT := Lib.hid (hn7.tk htk7 (by omega) (3 + i) (.string (strOf gv)))
          have HB := Lib.hid (hb7.setCell (p := ⟨rb, 3 + i, none⟩) (by show w.heap.size ≤ rb; omega) (.string (strOf gv)))
          have HG := Lib.hid hgv
          clear hgv hn hb htk C2 hg htk7 hn7 hb7
          go_wp2_with fail
          go_roundw
          case rel => exact ⟨i + 1, by omega, by go_num, HT.out, by have := HN.out; rwa [HG.out] at this, HB.out⟩
          case measure => simp [intOf]; omega
        · obtain rfl : i = 2 := by omega
          have d0 : decide (((2 : Nat) : Int) < 2) = false := by decide
          obtain ⟨s0, s1, h0, h1, hx⟩ := hn
          obtain rfl := h0 (by omega)
          obtain rfl := h1 (by omega)
          have C2 := tNum_any t (gT l 2) 4 wr htk (by have := gT_len l 2; omega)
          have hvd : (tNum (gT l 2) 4).1 = gD l := rfl
          have hsd : (tNum (gT l 2) 4).2 = gE l := rfl
          rw [hvd, hsd] at C2
          have hD := gD_lt l
          obtain ⟨gd, hgd⟩ : ∃ z, gD l = z := ⟨_, rfl⟩
          rw [hgd] at C2 hD
          have hwr : IntKind.u32.wrap (gd : Int) = (gd : Int) := by
            unfold IntKind.wrap
            simp [IntKind.signed, IntKind.bits]
            omega
          clear hvd hsd
          go_wp2_with fail
          refine C2.mono ?_
          rintro e w8 ⟨v, rfl, rfl, hg, htk8⟩
          have hx8 := hx.grown hg (by intro p hp; simp at hp; rcases hp with rfl | rfl | rfl <;> (intro e; have := Option.some.inj e; (try simp at this); omega))
          have hb8 := hb.grown hg hb.size (fun k hk => by cases hk; omega)
          have f5 := hx8.cell 0 5 rfl rfl
          have z5 := hx8.frozen 0 5 rfl
          have hx9 := hx8.put 5 (.int .u32 (gd : Int)) (by intro p hp; simp at hp; rcases hp with rfl | rfl <;> (try simp) <;> omega)
          have ht9 := htk8.set_box (hx8.sub (m := [(rb, [.int .i64 (gV l 0 : Int), .int .i64 (gV l 1 : Int), .int .i64 (gV l 2 : Int), .string (strOf (gS l 0)), .string (strOf (gS l 1)), .int .u32 0])]) (by intro p hp; simp at hp; subst hp; simp)) (fun v hv n => by simp at hv; rcases hv with rfl | rfl | rfl | rfl | rfl | rfl <;> (intro e; cases e)) (by omega) 5 (.int .u32 (gd : Int))
          have hb9 := hb8.setCell (p := ⟨rb, 5, none⟩) (by show w.heap.size ≤ rb; omega) (.int .u32 (gd : Int))
          obtain ⟨W9, hW9⟩ : ∃ x, w8.setCell ⟨rb, 5, none⟩ (.int .u32 (gd : Int)) = x := ⟨_, rfl⟩
          rw [hW9] at hx9 ht9 hb9
          have C3 := tDone_any t _ W9 ht9
          have hed : tDone (gE l) = getRE l := rfl
          rw [hed] at C3
          clear hed hx hb htk hg htk8 hx8 hb8 C2
          go_wp2_with fail
          refine C3.mono ?_
          rintro e w10 ⟨rfl, rfl⟩
          have hrw : w.heap.size ≠ rb := by omega
          have g0 := hx9.cell 2 0 rfl rfl
          have y0 := hx9.frozen 2 0 rfl
          have p0 := hx9.cell 0 0 rfl rfl
          have g1 := hx9.cell 2 1 rfl rfl
          have y1 := hx9.frozen 2 1 rfl
          have p1 := hx9.cell 0 1 rfl rfl
          have g2 := hx9.cell 2 2 rfl rfl
          have y2 := hx9.frozen 2 2 rfl
          have p2 := hx9.cell 0 2 rfl rfl
          have g3 := hx9.cell 2 3 rfl rfl
          have y3 := hx9.frozen 2 3 rfl
          have p3 := hx9.cell 0 3 rfl rfl
          have g4 := hx9.cell 2 4 rfl rfl
          have y4 := hx9.frozen 2 4 rfl
          have p4 := hx9.cell 0 4 rfl rfl
          have g5 := hx9.cell 2 5 rfl rfl
          have y5 := hx9.frozen 2 5 rfl
          have p5 := hx9.cell 0 5 rfl rfl
          clear hx9 ht9 C3 hW9
          obtain ⟨er, her⟩ : ∃ z, getRE l = z := ⟨_, rfl⟩
          obtain ⟨RR, hRR⟩ : ∃ z, rcV (getR l) = z := ⟨_, rfl⟩
          by_cases he : er = 0
          · have hR : RR = .agg #[.int .i64 (gV l 0 : Int), .int .i64 (gV l 1 : Int), .int .i64 (gV l 2 : Int), .string (strOf (gS l 0)), .string (strOf (gS l 1)), .int .u32 (gd : Int)] := by
              rw [← hRR]
              unfold getR
              rw [if_pos (show tDone (gE l) = 0 from her.trans he), ← hgd]; rfl
            have HB9 := Lib.hid hb9
            rw [her, he]
            go_wp2_with fail
            refine bodyPost_ret (v := .tuple #[RR, .int .i64 0]) (by rw [hR]; simp [results, Tryd.results14, go_sem, g0, g1, g2, g3, g4, g5]) rfl ⟨by rw [hRR, her, he], ?_⟩
            exact ((((((HB9.out.setCell (Nat.le_refl _) _).setCell (Nat.le_refl _) _).setCell (Nat.le_refl _) _).setCell (Nat.le_refl _) _).setCell (Nat.le_refl _) _).setCell (Nat.le_refl _) _)
          · have hR : RR = .agg #[.int .i64 0, .int .i64 0, .int .i64 0, .string ByteArray.empty, .string ByteArray.empty, .int .u32 0] := by
              rw [← hRR]
              unfold getR
              rw [if_neg (show ¬ tDone (gE l) = 0 from fun e => he (her.symm.trans e))]; rfl
            have d9 : (er != 0) = true := by simp; exact he
            have HB9 := Lib.hid hb9
            rw [her]
            go_wp2_with fail
            refine bodyPost_ret (v := .tuple #[RR, .int .i64 er]) (by rw [hR]; simp [results, Tryd.results14, go_sem, g0, g1, g2, g3, g4, g5]) rfl ⟨by rw [hRR, her], ?_⟩
            exact ((((((HB9.out.setCell (Nat.le_refl _) _).setCell (Nat.le_refl _) _).setCell (Nat.le_refl _) _).setCell (Nat.le_refl _) _).setCell (Nat.le_refl _) _).setCell (Nat.le_refl _) _)
end Go.Proofs.YtpghlmcoajaiiaaDoor

/- The walks of trees: a key's value put (printed by gen_treU.py). -/
namespace Go.Proofs.YtpghlmcoajaiiaaDoor
open Go.RowKit

set_option maxRecDepth 100000 in
set_option maxHeartbeats 2000000 in
theorem tput_any : ∀ {N : Nat} {F : Nat → Prop} {w : World} {cs : List Value} {t : Tr} (key d : List UInt8), NodeOn F N w cs t → PutOk N t key ⟨d, []⟩ → Calls Tryd.prog 43 #[.agg cs.toArray, .string (strOf key), .string (strOf d)] w (NodeTo F N w (putT N t key ⟨d, []⟩))
  | 0, _, _, _, _, _, _, h, _ => h.elim
  | N + 1, F, w, cs, .node p l, key, d, h, ho => by
    have IH := fun {F : Nat → Prop} {w : World} {cs : List Value} {t : Tr} (h : NodeOn F N w cs t) (ho : PutOk N t key ⟨d, []⟩) => tput_any key d h ho
    obtain ⟨o1, o2, o3, M, rfl, o4⟩ := ho
    have hlt := h.lt
    obtain ⟨ka, kc, va, vn, vc, ca, cn, cc, V, C, rfl, h1, h2, h3, h4, f1, f2, f3⟩ := hlt.open
    obtain ⟨_, r1, r2⟩ := h4.toR.lens
    have hV : V = [] := h4.2.1
    have hcn : cn = l.length := by rw [← h3.1, r2]; rfl
    have hvn : vn = 0 := by rw [← h2.1, hV]; rfl
    subst hV hcn hvn
    obtain ⟨k, hkx⟩ : ∃ k, wayF (keysOf l) key = k := ⟨_, rfl⟩
    have hk : k < l.length := by rw [← hkx]; have := wayF_lt (ks := keysOf l) key (by simpa [keysOf] using o1); simpa [keysOf] using this
    rw [hkx] at o3 o4
    obtain ⟨bc, oc, y, yc, eca, hbc, hy, _, hyc, hcell⟩ := TabR.at h3 hk
    have hyc : yc = y.1 := hyc
    subst hyc eca
    have hkid := kid_tells h4.2.2 hy
    obtain ⟨q1, q2, q3, q4, q5, q6, q7, q8, _, _, ey, _⟩ := NodeOn.open_pos hkid
    rw [ey] at hcell hkid
    have hcA : cntT (Tr.node p l) = l.length := rfl
    have hpA : (Tr.node p l).page = p := rfl
    have hfA : (Tr.node p l).isLeaf = false := rfl
    have hkA : (Tr.node p l).keys = keysOf l := rfl
    rw [hcA, hpA, hfA] at hlt ⊢
    rw [hcA, hkA] at h1
    rw [hkA] at h4
    rw [hcA] at f1
    obtain ⟨m, hm⟩ : ∃ m, l.length = m := ⟨_, rfl⟩
    rw [hm] at hk h1 h3 hlt o1 o2 f1 f3 ⊢
    have hB0 : Below w.heap.size w ((w.alloc (.cells #[.int .i64 p, .bool false, .slice ka m kc, .slice va 0 vc, .slice (some ⟨bc, oc, none⟩) m cc] 28)).alloc (.cells #[.int .i64 0, .bool false, .slice none 0 0, .slice none 0 0, .slice none 0 0] 28)) := Below.al (Below.al (Below.refl _ _))
    have hX0 : Boxes _ [(w.heap.size + 1, [.int .i64 0, .bool false, .slice none 0 0, .slice none 0 0, .slice none 0 0]), (w.heap.size, [.int .i64 p, .bool false, .slice ka m kc, .slice va 0 vc, .slice (some ⟨bc, oc, none⟩) m cc])] := (((Boxes.nil w).alloc #[.int .i64 p, .bool false, .slice ka m kc, .slice va 0 vc, .slice (some ⟨bc, oc, none⟩) m cc] 28 rfl).alloc #[.int .i64 0, .bool false, .slice none 0 0, .slice none 0 0, .slice none 0 0] 28 (b := w.heap.size + 1) (by simp))
    obtain ⟨wA, hwA⟩ : ∃ wA, (w.alloc (.cells #[.int .i64 p, .bool false, .slice ka m kc, .slice va 0 vc, .slice (some ⟨bc, oc, none⟩) m cc] 28)).alloc (.cells #[.int .i64 0, .bool false, .slice none 0 0, .slice none 0 0, .slice none 0 0] 28) = wA := ⟨_, rfl⟩
    have hzA : w.heap.size + 2 ≤ wA.heap.size := by rw [← hwA]; simp
    rw [hwA] at hB0 hX0
    have CW := tway_any (hlt.below hB0).toIn key (by rw [hcA, hm]; omega)
    rw [hkA, hkx] at CW
    have n0 := hX0.cell 1 0 rfl rfl
    have n1 := hX0.cell 1 1 rfl rfl
    have n2 := hX0.cell 1 2 rfl rfl
    have n3 := hX0.cell 1 3 rfl rfl
    have n4 := hX0.cell 1 4 rfl rfl
    obtain ⟨T1, hT1⟩ : ∃ x, putT (M + 1) (kidAt l k) key ⟨d, []⟩ = x := ⟨_, rfl⟩
    rw [hT1] at o4
    have HPT : Hid (putT (M + 1 + 1) (.node p l) key ⟨d, []⟩ = mendT 0 (l.set k (keyAt l k, T1)) k) := Lib.hid (by
      show mendT 0 (l.set (wayF (keysOf l) key) (keyAt l (wayF (keysOf l) key), putT (M + 1) (kidAt l (wayF (keysOf l) key)) key ⟨d, []⟩)) (wayF (keysOf l) key) = _
      rw [hkx, hT1])
    have HX := Lib.hid hX0
    have HB := Lib.hid hB0
    have H1 := Lib.hid h1
    have H3 := Lib.hid h3
    have H4 := Lib.hid h4
    have HN := Lib.hid hlt
    have HO3 := Lib.hid o3
    have HO4 := Lib.hid o4
    have HM := Lib.hid hm
    have HT1 := Lib.hid hT1
    have HKID := Lib.hid hkid
    have HCELL := Lib.hid hcell
    have hl2 := h1.lens
    have hl3 := h3.lens
    obtain ⟨_, e2, e3⟩ := hl2
    obtain ⟨_, e5, e6⟩ := hl3
    clear h h1 h2 h3 h4 hlt o3 o4 hX0 hB0 r1 r2 hcA hpA hfA hkA hm hkx hT1 hkid hy ey hcell
    go_enter Tryd.func43, Tryd.ntmps43
    go_wp2_with fail
    refine CW.mono ?_
    rintro e wB ⟨rfl, hbB⟩
    have HX := Lib.hid (HX.out.step hbB)
    have HBW := Lib.hid (HB.out.trans (hbB.mono HB.out.size))
    have hzB : w.heap.size + 2 ≤ wB.heap.size := Nat.le_trans hzA hbB.size
    clear CW n0 n1 n2 n3 n4 hbB hwA
    have HC1 : ∀ W, Below wB.heap.size wB W → Calls Tryd.prog 43 #[.agg #[.int .i64 (kidAt l k).page, .bool (kidAt l k).isLeaf, .slice q1 (cntT (kidAt l k)) q2, .slice q3 q4 q5, .slice q6 q7 q8], .string (strOf key), .string (strOf d)] W (NodeGo (fun b => (F b ∧ b < w.heap.size) ∨ w.heap.size + 2 ≤ b) (M + 1) W T1) := fun W hW => by
      have := IH (HKID.out.below (below_via HBW.out hW)) HO3.out
      rw [HT1.out] at this
      exact this.mono fun e w' h => h.go fun b h => by rcases h with h | h; exact .inl h; exact .inr (by have := hW.size; omega)
    obtain ⟨kp, hkp⟩ : ∃ x, (kidAt l k).page = x := ⟨_, rfl⟩
    obtain ⟨kl, hkl⟩ : ∃ x, (kidAt l k).isLeaf = x := ⟨_, rfl⟩
    obtain ⟨kcn, hkc⟩ : ∃ x, cntT (kidAt l k) = x := ⟨_, rfl⟩
    rw [hkp, hkl, hkc] at HC1 HCELL
    clear hkp hkl hkc
    obtain ⟨TM, hTM⟩ : ∃ x, mendT 0 (l.set k (keyAt l k, T1)) k = x := ⟨_, rfl⟩
    have HC2 : ∀ (W : World) (x : Nat) (p1 : Int) (l1 : Bool) (a1 : Option Addr) (m1 c1 : Nat) (b1 : Option Addr) (m2 c2 : Nat) (b2 : Option Addr) (m3 c3 : Nat), Below wB.heap.size wB W → NodeOn (fun b => (F b ∧ b < w.heap.size) ∨ w.heap.size + 2 ≤ b) (M + 1) W [.int .i64 p1, .bool l1, .slice a1 m1 c1, .slice b1 m2 c2, .slice b2 m3 c3] T1 → BoxAt W x #[.int .i64 p1, .bool l1, .slice a1 m1 c1, .slice b1 m2 c2, .slice b2 m3 c3] →
        Calls Tryd.prog 61 #[.slice (some ⟨bc, oc, none⟩) m cc, .int .i64 (k : Int), .int .i64 1, .slice (some ⟨x, 0, none⟩) 1 1] W (fun e w' => ∃ b c, e = .returned (.slice b m c) ∧ Below W.heap.size W w' ∧ Below wB.heap.size wB w' ∧
          Calls Tryd.prog 59 #[.agg #[.int .i64 0, .bool false, .slice ka m kc, .slice none 0 0, .slice b m c], .int .i64 (k : Int)] w' (NodeGo (fun b => (F b ∧ b < w.heap.size) ∨ w.heap.size + 2 ≤ b) (M + 2) w' TM)) := fun W x p1 l1 a1 m1 c1 b1 m2 c2 b2 m3 c3 hW hn hX => by
      obtain ⟨cB, hcB⟩ : ∃ c : Cl 5, c.1 = [.int .i64 p1, .bool l1, .slice a1 m1 c1, .slice b1 m2 c2, .slice b2 m3 c3] := ⟨⟨[.int .i64 p1, .bool l1, .slice a1 m1 c1, .slice b1 m2 c2, .slice b2 m3 c3], rfl, by intro u hu; simp at hu; rcases hu with rfl | rfl | rfl | rfl | rfl <;> rfl⟩, rfl⟩
      have h3l := H3.out.1
      have := swap_n (H3.out.below (below_via HBW.out hW)) (raw_box (L := [cB]) (by simpa [flatC, hcB] using hX) (by simp)) k 1 (by omega) (by simp; omega)
      have h2 : Calls Tryd.prog 61 #[.slice (some ⟨bc, oc, none⟩) m cc, .int .i64 (k : Int), .int .i64 1, .slice (some ⟨x, 0, none⟩) 1 1] W (OwnRaw 28 5 W (swapL C k 1 [cB])) := by simpa using this
      refine h2.mono fun e w' h => ?_
      obtain ⟨a2, c2, rfl, _, _, ho, hb⟩ := h.sl
      have hlen : (swapL C k 1 [cB]).length = m := by
        have := len_swapL (l := C) (s := [cB]) (i := k) (j := 1) (by omega)
        simp at this
        omega
      rw [hlen] at ho ⊢
      have hW' := below_via hW hb
      refine ⟨a2, c2, rfl, hb, hW', ?_⟩
      have hk' : k < l.length := by rw [HM.out]; exact hk
      have hnode : NodeOn (fun b => (F b ∧ b < w.heap.size) ∨ w.heap.size + 2 ≤ b) (M + 2) w' [.int .i64 0, .bool false, .slice ka m kc, .slice none 0 0, .slice a2 m c2] (.node 0 (l.set k (keyAt l k, T1))) := by
        have hs := setR (p := p) (B := cB) (t := T1) (NodeRF.mono (G := fun b => (F b ∧ b < w.heap.size) ∨ w.heap.size + 2 ≤ b) (H4.out.below (below_via HBW.out hW')) (fun b h => .inl h)) hk' (by rw [hcB]; exact hn.below hb)
        refine NodeOn.shut rfl rfl ?_ (H1.out.below (below_via HBW.out hW')) (Raw.nil0 _ _) (Raw.of_sl ho hlen) (f1.mono fun b h => .inl h) (Fa.zero _ _) (Fa.of_own ho fun b h => .inr (by have := hW.size; omega)) hs
        rw [show (Tr.node 0 (l.set k (keyAt l k, T1))).keys = keysOf (l.set k (keyAt l k, T1)) from rfl, set_keys hk']
      have := tmend_any hnode k (by simpa using hk') HO4.out
      rw [hTM] at this
      exact this.mono fun e w'' h => h.go fun b h => by rcases h with h | h; exact h; exact .inr (by have := hW'.size; omega)
    have HTM := Lib.hid hTM
    have HF1 := Lib.hid f1
    have hA0 : AgreeF (fun b => b ≠ w.heap.size + 1) wB wB.drew := AgreeF.dr (AgreeF.refl _)
    have fk2 : ∀ W, AgreeF (fun b => b ≠ w.heap.size + 1) wB W → W.cell? ⟨w.heap.size, 2, none⟩ = some (.slice ka m kc) := fun W hW => (hW.cell (by simp) (HX.out.lt 1 rfl)).trans (HX.out.cell 1 2 rfl rfl)
    have fk4 : ∀ W, AgreeF (fun b => b ≠ w.heap.size + 1) wB W → W.cell? ⟨w.heap.size, 4, none⟩ = some (.slice (some ⟨bc, oc, none⟩) m cc) := fun W hW => (hW.cell (by simp) (HX.out.lt 1 rfl)).trans (HX.out.cell 1 4 rfl rfl)
    have hbc' : bc ≠ w.heap.size + 1 := by have : bc < w.heap.size := hbc; omega
    have hbc2 : bc < wB.heap.size := Nat.lt_of_lt_of_le hbc HBW.out.size
    have kc0 : ∀ W, AgreeF (fun b => b ≠ w.heap.size + 1) wB W → W.cell? ⟨bc, oc + k * 5, none⟩ = some (.int .i64 kp) := fun W hW => (hW.cell hbc' hbc2).trans ((HBW.out.cell (p := ⟨bc, oc + k * 5, none⟩) hbc).trans (HCELL.out 0 _ rfl))
    have kc1 : ∀ W, AgreeF (fun b => b ≠ w.heap.size + 1) wB W → W.cell? ⟨bc, oc + k * 5 + 1, none⟩ = some (.bool kl) := fun W hW => (hW.cell hbc' hbc2).trans ((HBW.out.cell (p := ⟨bc, oc + k * 5 + 1, none⟩) hbc).trans (HCELL.out 1 _ rfl))
    have kc2 : ∀ W, AgreeF (fun b => b ≠ w.heap.size + 1) wB W → W.cell? ⟨bc, oc + k * 5 + 2, none⟩ = some (.slice q1 kcn q2) := fun W hW => (hW.cell hbc' hbc2).trans ((HBW.out.cell (p := ⟨bc, oc + k * 5 + 2, none⟩) hbc).trans (HCELL.out 2 _ rfl))
    have kc3 : ∀ W, AgreeF (fun b => b ≠ w.heap.size + 1) wB W → W.cell? ⟨bc, oc + k * 5 + 3, none⟩ = some (.slice q3 q4 q5) := fun W hW => (hW.cell hbc' hbc2).trans ((HBW.out.cell (p := ⟨bc, oc + k * 5 + 3, none⟩) hbc).trans (HCELL.out 3 _ rfl))
    have kc4 : ∀ W, AgreeF (fun b => b ≠ w.heap.size + 1) wB W → W.cell? ⟨bc, oc + k * 5 + 4, none⟩ = some (.slice q6 q7 q8) := fun W hW => (hW.cell hbc' hbc2).trans ((HBW.out.cell (p := ⟨bc, oc + k * 5 + 4, none⟩) hbc).trans (HCELL.out 4 _ rfl))
    clear hTM f1 f2 f3 hbc
    go_wp2_with fail
    go_upto_region 3 with (fail)
    go_region_held3 (fun W => AgreeF (fun b => b ≠ w.heap.size + 1) wB W) (first | with_reducible assumption | (repeat (with_reducible first | assumption | exact AgreeF.refl _ | apply AgreeF.al | apply AgreeF.dr | apply AgreeF.st))) (first | (go_at_call 43; (with_reducible refine (HC1 _ ?_).mono ?_); (focus (repeat (with_reducible first | assumption | exact Below.refl _ _ | apply Below.al | apply Below.dr))); rintro e w1 ⟨p1, l1, a1, m1, c1, b1, m2, c2, b2, m3, c3, rfl, hn1, hb1⟩; have hB1 : Below wB.heap.size wB w1 := below_via (by (repeat (with_reducible first | assumption | exact Below.refl _ _ | apply Below.al | apply Below.dr))) hb1; have hA1 : AgreeF (fun b => b ≠ w.heap.size + 1) wB w1 := .of_below hB1) | (go_at_call 61; (with_reducible refine (HC2 _ _ p1 l1 a1 m1 c1 b1 m2 c2 b2 m3 c3 ?_ ?_ ?_).mono ?_); (focus (repeat (with_reducible first | assumption | exact Below.refl _ _ | apply Below.al | apply Below.dr))); (focus (exact NodeOn.below hn1 (Below.al (Below.refl _ _)))); (focus (repeat (with_reducible first | assumption | exact BoxAt.here3 | exact BoxAt.here2 | exact BoxAt.here | apply BoxAt.dr | apply BoxAt.al))); rintro e w2 ⟨b, c, rfl, hb2, hB2, hcm⟩; have hA2 : AgreeF (fun b => b ≠ w.heap.size + 1) wB w2 := .of_below hB2) | (go_at_call 59; (with_reducible refine hcm.mono ?_); rintro e w3 ⟨p3, l3, d1, k1, e1, d2, k2, e2, d3, k3, e3, rfl, hn3, hb3⟩; have hB3 : Below wB.heap.size wB w3 := below_via hB2 hb3; have hA3 : AgreeF (fun b => b ≠ w.heap.size + 1) wB w3 := .of_below hB3; have hX3 := HX.out.step hB3; have z0 : w3.cell? ⟨w.heap.size + 1, 0, none⟩ = _ := hX3.cell 0 0 rfl rfl; have u0 : w3.frozen? ⟨w.heap.size + 1, 0, none⟩ = false := hX3.frozen 0 0 rfl; have z1 : w3.cell? ⟨w.heap.size + 1, 1, none⟩ = _ := hX3.cell 0 1 rfl rfl; have u1 : w3.frozen? ⟨w.heap.size + 1, 1, none⟩ = false := hX3.frozen 0 1 rfl; have z2 : w3.cell? ⟨w.heap.size + 1, 2, none⟩ = _ := hX3.cell 0 2 rfl rfl; have u2 : w3.frozen? ⟨w.heap.size + 1, 2, none⟩ = false := hX3.frozen 0 2 rfl; have z3 : w3.cell? ⟨w.heap.size + 1, 3, none⟩ = _ := hX3.cell 0 3 rfl rfl; have u3 : w3.frozen? ⟨w.heap.size + 1, 3, none⟩ = false := hX3.frozen 0 3 rfl; have z4 : w3.cell? ⟨w.heap.size + 1, 4, none⟩ = _ := hX3.cell 0 4 rfl rfl; have u4 : w3.frozen? ⟨w.heap.size + 1, 4, none⟩ = false := hX3.frozen 0 4 rfl))
    have hend := node_end (F := F) (HBW.out.trans (hB3.mono HBW.out.size)) (hX3.sub (m := [(w.heap.size + 1, [.int .i64 0, .bool false, .slice none 0 0, .slice none 0 0, .slice none 0 0])]) (by simp)) hn3
    have t0 := hend.1.cell 0 0 rfl rfl
    have t1 := hend.1.cell 0 1 rfl rfl
    have t2 := hend.1.cell 0 2 rfl rfl
    have t3 := hend.1.cell 0 3 rfl rfl
    have t4 := hend.1.cell 0 4 rfl rfl
    have fin := Lib.hid hend.2
    unfold set5 at t0 t1 t2 t3 t4
    clear hcm fk2 fk4 kc0 kc1 kc2 kc3 kc4 HC1 HC2
    clear hend z0 z1 z2 z3 z4 u0 u1 u2 u3 u4
    go_wp2_with fail
    refine bodyPost_ret (v := .agg #[.int .i64 p3, .bool l3, .slice d1 k1 e1, .slice d2 k2 e2, .slice d3 k3 e3]) (by simp [results, Tryd.results43, go_sem, t0, t1, t2, t3, t4]) rfl ?_
    rw [HPT.out, HTM.out]
    exact fin.out
  | N + 1, F, w, cs, .leaf p l, key, d, h, ho => by
    obtain ⟨o1, o2⟩ := ho
    have hlt := h.lt
    obtain ⟨ka, kc, va, vn, vc, ca, cn, cc, V, C, rfl, h1, h2, h3, h4, f1, f2, f3⟩ := hlt.open
    obtain ⟨_, r1, r2⟩ := h4.toR.lens
    have hC : C = [] := h4.2.2
    have hvn : vn = l.length := by rw [← h2.1, r1]; rfl
    have hcn : cn = 0 := by rw [← h3.1, hC]; rfl
    subst hC hcn hvn
    have hcA : cntT (Tr.leaf p l) = l.length := rfl
    have hpA : (Tr.leaf p l).page = p := rfl
    have hfA : (Tr.leaf p l).isLeaf = true := rfl
    have hkA : (Tr.leaf p l).keys = keysOf l := rfl
    rw [hcA, hpA, hfA] at hlt ⊢
    rw [hcA, hkA] at h1
    rw [hkA] at h4
    rw [hcA] at f1
    have hkl : (keysOf l).length = l.length := by simp [keysOf]
    obtain ⟨m, hm⟩ : ∃ m, l.length = m := ⟨_, rfl⟩
    rw [hm] at h1 h2 hlt o1 f1 f2 hkl ⊢
    have hB0 : Below w.heap.size w ((w.alloc (.cells #[.int .i64 p, .bool true, .slice ka m kc, .slice va m vc, .slice ca 0 cc] 28)).alloc (.cells #[.int .i64 0, .bool false, .slice none 0 0, .slice none 0 0, .slice none 0 0] 28)) := Below.al (Below.al (Below.refl _ _))
    have hX0 : Boxes _ [(w.heap.size + 1, [.int .i64 0, .bool false, .slice none 0 0, .slice none 0 0, .slice none 0 0]), (w.heap.size, [.int .i64 p, .bool true, .slice ka m kc, .slice va m vc, .slice ca 0 cc])] := (((Boxes.nil w).alloc #[.int .i64 p, .bool true, .slice ka m kc, .slice va m vc, .slice ca 0 cc] 28 rfl).alloc #[.int .i64 0, .bool false, .slice none 0 0, .slice none 0 0, .slice none 0 0] 28 (b := w.heap.size + 1) (by simp))
    obtain ⟨wB, hwB⟩ : ∃ wA, (w.alloc (.cells #[.int .i64 p, .bool true, .slice ka m kc, .slice va m vc, .slice ca 0 cc] 28)).alloc (.cells #[.int .i64 0, .bool false, .slice none 0 0, .slice none 0 0, .slice none 0 0] 28) = wA := ⟨_, rfl⟩
    have hzB : w.heap.size + 2 ≤ wB.heap.size := by rw [← hwB]; simp
    rw [hwB] at hB0 hX0
    have CB := bsearch_any (h1.below hB0) (by omega) o2 key
    have hpo := pos_old (key := key) (ks := keysOf l)
    rw [hkl] at hpo
    obtain ⟨hr1, hr2⟩ := putR (p := p) key d h4
    obtain ⟨pos, hpos⟩ : ∃ x, posK key (keysOf l) = x := ⟨_, rfl⟩
    obtain ⟨has, hhas⟩ : ∃ x, hasK key (keysOf l) = x := ⟨_, rfl⟩
    rw [hpos, hhas] at CB hpo hr1 hr2
    obtain ⟨old, hold⟩ : ∃ x, oldN has = x := ⟨_, rfl⟩
    rw [hold] at hpo hr1 hr2
    obtain ⟨LK, hLK⟩ : ∃ L, swapL ((keysOf l).map kCell) pos old [kCell key] = L := ⟨_, rfl⟩
    obtain ⟨LV, hLV⟩ : ∃ L, swapL V pos old [vCell d] = L := ⟨_, rfl⟩
    rw [hLV] at hr1
    have hk1 := h1.lens
    have hv1 := h2.lens
    have HC1 : ∀ (W : World) (x : Nat), Below wB.heap.size wB W → BoxAt W x #[.string (strOf key)] → Calls Tryd.prog 63 #[.slice ka m kc, .int .i64 (pos : Int), .int .i64 (old : Int), .slice (some ⟨x, 0, none⟩) 1 1] W (RowOut 9 1 wB W LK) := fun W x hW hX => by
      have := swap_s (h1.below (below_via hB0 hW)) (raw_box (L := [kCell key]) hX (by simp)) pos old hpo (by simp; omega)
      rw [hLK] at this
      exact this.mono fun e w' h => OwnRaw.row hW h
    have HC2 : ∀ (W : World) (x : Nat), Below wB.heap.size wB W → BoxAt W x #[.string (strOf d), .slice none 0 0] → Calls Tryd.prog 64 #[.slice va m vc, .int .i64 (pos : Int), .int .i64 (old : Int), .slice (some ⟨x, 0, none⟩) 1 1] W (RowOut 125 2 wB W LV) := fun W x hW hX => by
      have := swap_v (h2.below (below_via hB0 hW)) (raw_box (L := [vCell d]) hX (by simp)) pos old hpo (by simp; omega)
      rw [hLV] at this
      exact this.mono fun e w' h => OwnRaw.row hW h
    have hnode : Hid (∀ (W : World) (a1 a2 : Option Addr) (c1 c2 : Nat), Below wB.heap.size wB W → W.ownsRow wB.heap.size 9 1 (.slice a1 LK.length c1) LK.length (flatC LK) → W.ownsRow wB.heap.size 125 2 (.slice a2 LV.length c2) LV.length (flatC LV) →
        NodeOn (fun b => (F b ∧ b < w.heap.size) ∨ w.heap.size + 2 ≤ b) (N + 1) W [.int .i64 0, .bool true, .slice a1 LK.length c1, .slice a2 LV.length c2, .slice none 0 0] (.leaf 0 (putL key ⟨d, []⟩ l))) := Lib.hid (fun W a1 a2 c1 c2 hW g1 g2 => by
      refine NodeOn.shut rfl rfl ?_ (Raw.of_sl g1 rfl) (Raw.of_sl g2 rfl) (Raw.nil0 _ _) (Fa.of_own g1 fun b h => .inr (by omega)) (Fa.of_own g2 fun b h => .inr (by omega)) (Fa.zero _ _) (NodeRF.mono (NodeRF.below hr1 (below_via hB0 hW)) (fun b h => .inl h))
      rw [show (Tr.leaf 0 (putL key ⟨d, []⟩ l)).keys = keysOf (putL key ⟨d, []⟩ l) from rfl, hr2, swap_map, ← hLK]; rfl)
    have HX := Lib.hid hX0
    have HB := Lib.hid hB0
    have HPT : Hid (putT (N + 1) (.leaf p l) key ⟨d, []⟩ = .leaf 0 (putL key ⟨d, []⟩ l)) := Lib.hid rfl
    have hn1 := hX0.cell 1 1 rfl rfl
    have hn2 := hX0.cell 1 2 rfl rfl
    have HAS := Lib.hid (show old = oldN has from hold.symm)
    clear h h1 h2 h3 h4 hlt hX0 hB0 r1 r2 hcA hpA hfA hkA hm hpos hhas hold hLK hLV hr1 hr2 hkl hk1 hv1 f1 f2 f3 o1 o2
    go_enter Tryd.func43, Tryd.ntmps43
    go_wp2_with fail
    refine CB.mono ?_
    rintro e wB ⟨rfl, rfl⟩
    clear CB hn1 hn2 hwB
    have hA0 : AgreeF (fun b => b ≠ w.heap.size + 1) wB wB.drew := AgreeF.dr (AgreeF.refl _)
    have fk2 : ∀ W, AgreeF (fun b => b ≠ w.heap.size + 1) wB W → W.cell? ⟨w.heap.size, 2, none⟩ = some (.slice ka m kc) := fun W hW => (hW.cell (by simp) (HX.out.lt 1 rfl)).trans (HX.out.cell 1 2 rfl rfl)
    have fk3 : ∀ W, AgreeF (fun b => b ≠ w.heap.size + 1) wB W → W.cell? ⟨w.heap.size, 3, none⟩ = some (.slice va m vc) := fun W hW => (hW.cell (by simp) (HX.out.lt 1 rfl)).trans (HX.out.cell 1 3 rfl rfl)
    cases has with
    | false =>
      have ho0 : (old : Int) = 0 := by rw [HAS.out]; rfl
      rw [ho0] at HC1 HC2
      clear ho0
      go_wp2_with fail
      go_upto_region 8 with (fail)
      go_region_held3 (fun W => AgreeF (fun b => b ≠ w.heap.size + 1) wB W) (first | with_reducible assumption | (repeat (with_reducible first | assumption | exact AgreeF.refl _ | apply AgreeF.al | apply AgreeF.dr | apply AgreeF.st))) (first | (go_at_call 63; (with_reducible refine (HC1 _ _ ?_ ?_).mono ?_); (focus (repeat (with_reducible first | assumption | exact Below.refl _ _ | apply Below.al | apply Below.dr))); (focus (repeat (with_reducible first | assumption | exact BoxAt.here3 | exact BoxAt.here2 | exact BoxAt.here | apply BoxAt.dr | apply BoxAt.al))); rintro e w1 hq1; obtain ⟨a1, c1, rfl, i11, i12, ho1, hb1, hB1⟩ := hq1; have hA1 : AgreeF (fun b => b ≠ w.heap.size + 1) wB w1 := .of_below hB1; have U1 := fun b cs h => BoxAt.below (b := b) (cs := cs) h hb1) | (go_at_call 64; (with_reducible refine (HC2 _ _ ?_ ?_).mono ?_); (focus (repeat (with_reducible first | assumption | exact Below.refl _ _ | apply Below.al | apply Below.dr))); (focus (repeat (with_reducible first | assumption | exact BoxAt.here3 | exact BoxAt.here2 | exact BoxAt.here | apply BoxAt.dr | apply BoxAt.al | apply U1))); rintro e w2 hq2; obtain ⟨a2, c2, rfl, i21, i22, ho2, hb2, hB2⟩ := hq2; have hA2 : AgreeF (fun b => b ≠ w.heap.size + 1) wB w2 := .of_below hB2; have U2 := fun b cs h => BoxAt.below (b := b) (cs := cs) h hb2; have hk12 := below_via (a := w1) (by (repeat (with_reducible first | exact Below.refl _ _ | apply Below.al | apply Below.dr))) hb2; have hX3 := HX.out.step hB2; have z0 : w2.cell? ⟨w.heap.size + 1, 0, none⟩ = _ := hX3.cell 0 0 rfl rfl; have u0 : w2.frozen? ⟨w.heap.size + 1, 0, none⟩ = false := hX3.frozen 0 0 rfl; have z1 : w2.cell? ⟨w.heap.size + 1, 1, none⟩ = _ := hX3.cell 0 1 rfl rfl; have u1 : w2.frozen? ⟨w.heap.size + 1, 1, none⟩ = false := hX3.frozen 0 1 rfl; have z2 : w2.cell? ⟨w.heap.size + 1, 2, none⟩ = _ := hX3.cell 0 2 rfl rfl; have u2 : w2.frozen? ⟨w.heap.size + 1, 2, none⟩ = false := hX3.frozen 0 2 rfl; have z3 : w2.cell? ⟨w.heap.size + 1, 3, none⟩ = _ := hX3.cell 0 3 rfl rfl; have u3 : w2.frozen? ⟨w.heap.size + 1, 3, none⟩ = false := hX3.frozen 0 3 rfl; have z4 : w2.cell? ⟨w.heap.size + 1, 4, none⟩ = _ := hX3.cell 0 4 rfl rfl; have u4 : w2.frozen? ⟨w.heap.size + 1, 4, none⟩ = false := hX3.frozen 0 4 rfl))
      all_goals
        have hn3 := hnode.out w2 _ _ _ _ hB2 (own_held ho1 hk12) ho2
        have hend := node_end (F := F) (HB.out.trans (hB2.mono HB.out.size)) (hX3.sub (m := [(w.heap.size + 1, [.int .i64 0, .bool false, .slice none 0 0, .slice none 0 0, .slice none 0 0])]) (by simp)) hn3
        have t0 := hend.1.cell 0 0 rfl rfl
        have t1 := hend.1.cell 0 1 rfl rfl
        have t2 := hend.1.cell 0 2 rfl rfl
        have t3 := hend.1.cell 0 3 rfl rfl
        have t4 := hend.1.cell 0 4 rfl rfl
        have fin := Lib.hid hend.2
        unfold set5 at t0 t1 t2 t3 t4
        clear hend z0 z1 z2 z3 z4 u0 u1 u2 u3 u4 fk2 fk3 HC1 HC2 hn3
        go_wp2_with fail
        refine bodyPost_ret (v := .agg #[.int .i64 0, .bool true, .slice a1 LK.length c1, .slice a2 LV.length c2, .slice none 0 0]) (by simp [results, Tryd.results43, go_sem, t0, t1, t2, t3, t4]) rfl ?_
        rw [HPT.out]
        exact fin.out
    | true =>
      have ho0 : (old : Int) = 1 := by rw [HAS.out]; rfl
      rw [ho0] at HC1 HC2
      clear ho0
      go_wp2_with fail
      go_upto_region 8 with (fail)
      go_region_held3 (fun W => AgreeF (fun b => b ≠ w.heap.size + 1) wB W) (first | with_reducible assumption | (repeat (with_reducible first | assumption | exact AgreeF.refl _ | apply AgreeF.al | apply AgreeF.dr | apply AgreeF.st))) (first | (go_at_call 63; (with_reducible refine (HC1 _ _ ?_ ?_).mono ?_); (focus (repeat (with_reducible first | assumption | exact Below.refl _ _ | apply Below.al | apply Below.dr))); (focus (repeat (with_reducible first | assumption | exact BoxAt.here3 | exact BoxAt.here2 | exact BoxAt.here | apply BoxAt.dr | apply BoxAt.al))); rintro e w1 hq1; obtain ⟨a1, c1, rfl, i11, i12, ho1, hb1, hB1⟩ := hq1; have hA1 : AgreeF (fun b => b ≠ w.heap.size + 1) wB w1 := .of_below hB1; have U1 := fun b cs h => BoxAt.below (b := b) (cs := cs) h hb1) | (go_at_call 64; (with_reducible refine (HC2 _ _ ?_ ?_).mono ?_); (focus (repeat (with_reducible first | assumption | exact Below.refl _ _ | apply Below.al | apply Below.dr))); (focus (repeat (with_reducible first | assumption | exact BoxAt.here3 | exact BoxAt.here2 | exact BoxAt.here | apply BoxAt.dr | apply BoxAt.al | apply U1))); rintro e w2 hq2; obtain ⟨a2, c2, rfl, i21, i22, ho2, hb2, hB2⟩ := hq2; have hA2 : AgreeF (fun b => b ≠ w.heap.size + 1) wB w2 := .of_below hB2; have U2 := fun b cs h => BoxAt.below (b := b) (cs := cs) h hb2; have hk12 := below_via (a := w1) (by (repeat (with_reducible first | exact Below.refl _ _ | apply Below.al | apply Below.dr))) hb2; have hX3 := HX.out.step hB2; have z0 : w2.cell? ⟨w.heap.size + 1, 0, none⟩ = _ := hX3.cell 0 0 rfl rfl; have u0 : w2.frozen? ⟨w.heap.size + 1, 0, none⟩ = false := hX3.frozen 0 0 rfl; have z1 : w2.cell? ⟨w.heap.size + 1, 1, none⟩ = _ := hX3.cell 0 1 rfl rfl; have u1 : w2.frozen? ⟨w.heap.size + 1, 1, none⟩ = false := hX3.frozen 0 1 rfl; have z2 : w2.cell? ⟨w.heap.size + 1, 2, none⟩ = _ := hX3.cell 0 2 rfl rfl; have u2 : w2.frozen? ⟨w.heap.size + 1, 2, none⟩ = false := hX3.frozen 0 2 rfl; have z3 : w2.cell? ⟨w.heap.size + 1, 3, none⟩ = _ := hX3.cell 0 3 rfl rfl; have u3 : w2.frozen? ⟨w.heap.size + 1, 3, none⟩ = false := hX3.frozen 0 3 rfl; have z4 : w2.cell? ⟨w.heap.size + 1, 4, none⟩ = _ := hX3.cell 0 4 rfl rfl; have u4 : w2.frozen? ⟨w.heap.size + 1, 4, none⟩ = false := hX3.frozen 0 4 rfl))
      all_goals
        have hn3 := hnode.out w2 _ _ _ _ hB2 (own_held ho1 hk12) ho2
        have hend := node_end (F := F) (HB.out.trans (hB2.mono HB.out.size)) (hX3.sub (m := [(w.heap.size + 1, [.int .i64 0, .bool false, .slice none 0 0, .slice none 0 0, .slice none 0 0])]) (by simp)) hn3
        have t0 := hend.1.cell 0 0 rfl rfl
        have t1 := hend.1.cell 0 1 rfl rfl
        have t2 := hend.1.cell 0 2 rfl rfl
        have t3 := hend.1.cell 0 3 rfl rfl
        have t4 := hend.1.cell 0 4 rfl rfl
        have fin := Lib.hid hend.2
        unfold set5 at t0 t1 t2 t3 t4
        clear hend z0 z1 z2 z3 z4 u0 u1 u2 u3 u4 fk2 fk3 HC1 HC2 hn3
        go_wp2_with fail
        refine bodyPost_ret (v := .agg #[.int .i64 0, .bool true, .slice a1 LK.length c1, .slice a2 LV.length c2, .slice none 0 0]) (by simp [results, Tryd.results43, go_sem, t0, t1, t2, t3, t4]) rfl ?_
        rw [HPT.out]
        exact fin.out
end Go.Proofs.YtpghlmcoajaiiaaDoor

/- The walks of trees: Put, Empty. -/
namespace Go.Proofs.YtpghlmcoajaiiaaDoor
open Go.RowKit

set_option maxRecDepth 100000 in
set_option maxHeartbeats 1000000 in
theorem tPut_any {N : Nat} {F : Nat → Prop} {w : World} {cs : List Value} {t : Tr} (key d : List UInt8) (h : NodeOn F N w cs t) (ho : PutOk N t key ⟨d, []⟩) (ht : TopOk N (putT N t key ⟨d, []⟩)) :
    Calls Tryd.prog 21 #[.agg cs.toArray, .string (strOf key), .string (strOf d)] w (NodeTo F (N + 1) w (putW N t key ⟨d, []⟩)) := by
  have hlt := h.lt
  obtain ⟨ka, kc, va, vn, vc, ca, cn, cc, V, C, rfl, _⟩ := NodeOn.open_pos h
  obtain ⟨lf, hlf⟩ : ∃ x, t.isLeaf = x := ⟨_, rfl⟩
  obtain ⟨p, hp⟩ : ∃ x, t.page = x := ⟨_, rfl⟩
  obtain ⟨m, hm⟩ : ∃ x, cntT t = x := ⟨_, rfl⟩
  rw [hlf, hp, hm] at hlt ⊢
  have hB0 : Below w.heap.size w ((w.alloc (.cells #[.int .i64 p, .bool lf, .slice ka m kc, .slice va vn vc, .slice ca cn cc] 28)).alloc (.cells #[.int .i64 0, .bool false, .slice none 0 0, .slice none 0 0, .slice none 0 0] 28)) := Below.al (Below.al (Below.refl _ _))
  have hX0 : Boxes _ [(w.heap.size + 1, [.int .i64 0, .bool false, .slice none 0 0, .slice none 0 0, .slice none 0 0]), (w.heap.size, [.int .i64 p, .bool lf, .slice ka m kc, .slice va vn vc, .slice ca cn cc])] := (((Boxes.nil w).alloc #[.int .i64 p, .bool lf, .slice ka m kc, .slice va vn vc, .slice ca cn cc] 28 rfl).alloc #[.int .i64 0, .bool false, .slice none 0 0, .slice none 0 0, .slice none 0 0] 28 (b := w.heap.size + 1) (by simp))
  obtain ⟨wA, hwA⟩ : ∃ wA, (w.alloc (.cells #[.int .i64 p, .bool lf, .slice ka m kc, .slice va vn vc, .slice ca cn cc] 28)).alloc (.cells #[.int .i64 0, .bool false, .slice none 0 0, .slice none 0 0, .slice none 0 0] 28) = wA := ⟨_, rfl⟩
  have hzA : w.heap.size + 2 ≤ wA.heap.size := by rw [← hwA]; simp
  rw [hwA] at hB0 hX0
  have C1 : Calls Tryd.prog 43 #[.agg #[.int .i64 p, .bool lf, .slice ka m kc, .slice va vn vc, .slice ca cn cc], .string (strOf key), .string (strOf d)] wA (NodeGo (fun b => (F b ∧ b < w.heap.size) ∨ w.heap.size + 2 ≤ b) N wA (putT N t key ⟨d, []⟩)) :=
    (tput_any key d (hlt.below hB0) ho).mono fun e w' h => h.go fun b h => by rcases h with h | h; exact .inl h; exact .inr (by omega)
  obtain ⟨T, hT⟩ : ∃ x, putT N t key ⟨d, []⟩ = x := ⟨_, rfl⟩
  have HT : Hid (putW N t key ⟨d, []⟩ = topT N T) := Lib.hid (by rw [← hT]; rfl)
  rw [hT] at C1 ht
  have HX := Lib.hid hX0
  have HB := Lib.hid hB0
  have HTO := Lib.hid ht
  have n0 := hX0.cell 1 0 rfl rfl
  have n1 := hX0.cell 1 1 rfl rfl
  have n2 := hX0.cell 1 2 rfl rfl
  have n3 := hX0.cell 1 3 rfl rfl
  have n4 := hX0.cell 1 4 rfl rfl
  clear h hlt ho ht hX0 hB0 hlf hp hm hT
  go_enter Tryd.func21, Tryd.ntmps21
  go_wp2_with fail
  refine C1.mono ?_
  rintro e w1 ⟨p1, l1, a1, m1, c1, b1, m2, c2, b2, m3, c3, rfl, hn1, hb1⟩
  have hX1 := HX.out.step hb1
  have hB1 := HB.out.trans (hb1.mono HB.out.size)
  have hz1 : w.heap.size + 2 ≤ w1.heap.size := Nat.le_trans hzA hb1.size
  have C2 : Calls Tryd.prog 42 #[.agg #[.int .i64 p1, .bool l1, .slice a1 m1 c1, .slice b1 m2 c2, .slice b2 m3 c3]] w1 (NodeGo (fun b => (F b ∧ b < w.heap.size) ∨ w.heap.size + 2 ≤ b) (N + 1) w1 (topT N T)) :=
    (ttop_any hn1 HTO.out).mono fun e w' h => h.go fun b h => by rcases h with h | h; exact h; exact .inr (by omega)
  have HX1 := Lib.hid hX1
  have HB1 := Lib.hid hB1
  clear C1 hn1 hb1 hX1 hB1 n0 n1 n2 n3 n4 hwA
  go_wp2_with fail
  refine C2.mono ?_
  rintro e w2 ⟨p3, l3, d1, k1, e1, d2, k2, e2, d3, k3, e3, rfl, hn3, hb3⟩
  have hX3 := HX1.out.step hb3
  have hend := node_end (F := F) (HB1.out.trans (hb3.mono HB1.out.size)) (hX3.sub (m := [(w.heap.size + 1, [.int .i64 0, .bool false, .slice none 0 0, .slice none 0 0, .slice none 0 0])]) (by simp)) hn3
  have t0 := hend.1.cell 0 0 rfl rfl
  have t1 := hend.1.cell 0 1 rfl rfl
  have t2 := hend.1.cell 0 2 rfl rfl
  have t3 := hend.1.cell 0 3 rfl rfl
  have t4 := hend.1.cell 0 4 rfl rfl
  have fin := Lib.hid hend.2
  unfold set5 at t0 t1 t2 t3 t4
  have z0 := hX3.cell 0 0 rfl rfl
  have z1 := hX3.cell 0 1 rfl rfl
  have z2 := hX3.cell 0 2 rfl rfl
  have z3 := hX3.cell 0 3 rfl rfl
  have z4 := hX3.cell 0 4 rfl rfl
  have u0 := hX3.frozen 0 0 rfl
  have u1 := hX3.frozen 0 1 rfl
  have u2 := hX3.frozen 0 2 rfl
  have u3 := hX3.frozen 0 3 rfl
  have u4 := hX3.frozen 0 4 rfl
  clear hend C2 hn3 hb3 hX3
  go_wp2_with fail
  refine bodyPost_ret (v := .agg #[.int .i64 p3, .bool l3, .slice d1 k1 e1, .slice d2 k2 e2, .slice d3 k3 e3]) (by simp [results, Tryd.results21, go_sem, t0, t1, t2, t3, t4]) rfl ?_
  rw [HT.out]
  exact fin.out
theorem tempty_any (w : World) (F : Nat → Prop) : Calls Tryd.prog 20 #[] w (NodeTo F 1 w (.leaf 0 [])) := by
  go_enter Tryd.func20, Tryd.ntmps20
  go_wp2_with fail
  refine bodyPost_ret (v := .agg #[.int .i64 0, .bool true, .slice none 0 0, .slice none 0 0, .slice none 0 0]) (by simp [results, Tryd.results20, go_sem]) rfl ⟨[.int .i64 0, .bool true, .slice none 0 0, .slice none 0 0, .slice none 0 0], rfl, ?_, ?_⟩
  · exact NodeOn.shut (V := []) (C := []) rfl rfl (K := []) rfl (Raw.nil0 _ _) (Raw.nil0 _ _) (Raw.nil0 _ _) (Fa.zero _ _) (Fa.zero _ _) (Fa.zero _ _) ⟨Tells.nil, Tells.nil, rfl⟩
  · exact Below.al (Below.refl _ _)
end Go.Proofs.YtpghlmcoajaiiaaDoor

/- The walks of trees: a key found. -/
namespace Go.Proofs.YtpghlmcoajaiiaaDoor
open Go.RowKit

/-- What finding asks of a tree. -/
def FindOk : Nat → Tr → List UInt8 → Prop
  | 0, _, _ => False
  | _ + 1, .leaf _ l, _ => l.length ≤ 1000 ∧ (keysOf l).Pairwise (fun a b => a < b)
  | n + 1, .node _ l, key => 0 < l.length ∧ l.length ≤ 1000 ∧ FindOk n (kidAt l (wayF (keysOf l) key)) key
theorem pos_oldF {key : List UInt8} {ks : List (List UInt8)} (h : hasK key ks = true) : posK key ks < ks.length := by
  unfold hasK at h
  by_cases hp : posK key ks < ks.length
  · exact hp
  · rw [List.getElem?_eq_none (by omega)] at h; simp at h
end Go.Proofs.YtpghlmcoajaiiaaDoor
