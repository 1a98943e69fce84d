/- jalousielaw15.spoiled (printed by gen_treSx.py). -/
import Derived.Test.YtemfnjlfcemehaaTreNbq
import Derived.Test.YtemfnjlfcemehaaTreSoq
import Derived.Deep.DeepCutAuto
import Derived.Deep.CutBlock
namespace Go.Proofs.Ytemfnjlfcemehaa
open Go.RowKit

/-- A node stored into the result's cell. -/
theorem sp_end {F G : Nat → Prop} {n : Nat} {w w3 : World} {T : Tr} {b : Nat} {X : List (Nat × List Value)} {p : Int} {l : Bool} {a : Option Addr} {k c : Nat} {a2 : Option Addr} {n2 c2 : Nat} {a3 : Option Addr} {n3 c3 : Nat} {x0 x1 x2 x3 x4 : Value} (hB : Below w.heap.size w w3) (hX : Boxes w3 ((b, [x0, x1, x2, x3, x4]) :: X)) (hb : w.heap.size ≤ b) (hl : ∀ q ∈ X, q.1 ≠ b) (hne : ¬ G b) (hG : ∀ x, G x → Fr F w x)
    (hn : NodeOn G n w3 [.int .i64 p, .bool l, .slice a k c, .slice a2 n2 c2, .slice a3 n3 c3] T) :
    Boxes (set5 w3 b (.int .i64 p) (.bool l) (.slice a k c) (.slice a2 n2 c2) (.slice a3 n3 c3)) [(b, [.int .i64 p, .bool l, .slice a k c, .slice a2 n2 c2, .slice a3 n3 c3])] ∧
    NodeTo F n w T (.returned (.agg #[.int .i64 p, .bool l, .slice a k c, .slice a2 n2 c2, .slice a3 n3 c3])) (set5 w3 b (.int .i64 p) (.bool l) (.slice a k c) (.slice a2 n2 c2) (.slice a3 n3 c3)) :=
  ⟨(set5_box hX hl _ _ _ _ _).sub (by simp), [.int .i64 p, .bool l, .slice a k c, .slice a2 n2 c2, .slice a3 n3 c3], rfl, NodeOn.mono hG (hn.agree (agree_set5 hne _ _ _ _ _)), set5_below hB hb _ _ _ _ _⟩
theorem keys_sp (kind : Int) (key : List UInt8) (at_ : Nat) (l : List (List UInt8 × Tv)) (i : Nat) (c : List UInt8 × Tv) : keysOf (spTo (tmsF kind at_) (spV kind key at_) l i ++ [c]) = keysOf (spTo (tmsF kind at_) (spV kind key at_) l i) ++ [c.1] := by simp [keysOf]
/-- Twice at most. -/
def tm1 (kind : Int) (at_ i : Nat) : Nat := if i = at_ ∧ kind = 2 then 0 else 1
theorem tms_of {kind : Int} {at_ i : Nat} (b : Bool) (h : decide (i = at_ ∧ kind = 3) = b) : tmsF kind at_ i = if b then 2 else tm1 kind at_ i := by
  unfold tmsF tm1
  subst h
  by_cases h3 : i = at_ ∧ kind = 3
  · rw [if_neg (by omega), if_pos h3]; simp [h3]
  · simp [h3]
theorem spV_key {kind : Int} {key : List UInt8} {q i : Nat} {ck ek : List UInt8} {cv ev : Tv} (h : spV kind key q i (ck, cv) = (ek, ev)) (b : Bool) (hb : decide (i = q ∧ kind = 0) = b) : ek = if b then key else ck := by
  subst hb
  unfold spV at h
  by_cases h0 : i = q ∧ kind = 0
  · rw [if_pos h0] at h
    simp only [h0, and_self, decide_true, if_true]
    exact (congrArg (·.1) h).symm
  · rw [if_neg h0] at h
    simp only [h0, decide_false, Bool.false_eq_true, if_false]
    split at h <;> exact (congrArg (·.1) h).symm
theorem spV_val {kind : Int} {key : List UInt8} {q i : Nat} {ck ek : List UInt8} {cv ev : Tv} (h : spV kind key q i (ck, cv) = (ek, ev)) (b : Bool) (hb : decide (i = q ∧ kind = 1) = b) : ev = if b then ⟨key ++ cv.data, cv.pages⟩ else cv := by
  subst hb
  unfold spV at h
  by_cases h1 : i = q ∧ kind = 1
  · rw [if_neg (by omega), if_pos h1] at h
    simp only [h1, and_self, decide_true, if_true]
    exact (congrArg (·.2) h).symm
  · rw [if_neg h1] at h
    simp only [h1, decide_false, Bool.false_eq_true, if_false]
    split at h <;> exact (congrArg (·.2) h).symm
theorem rep_keys {α : Type} (A : List (List UInt8 × α)) (t : Nat) (e : List UInt8 × α) : keysOf (A ++ List.replicate (t + 1) e) = keysOf (A ++ List.replicate t e) ++ [e.1] := by
  rw [List.replicate_succ']; simp [keysOf]
theorem rep_vals {α : Type} (A : List (List UInt8 × α)) (t : Nat) (e : List UInt8 × α) : (A ++ List.replicate (t + 1) e).map (·.2) = (A ++ List.replicate t e).map (·.2) ++ [e.2] := by
  rw [List.replicate_succ']; simp
set_option maxRecDepth 100000 in
set_option maxHeartbeats 4000000 in
theorem spoil_leaf {n : Nat} {F : Nat → Prop} {w : World} {cs : List Value} {p : Int} {l : List (List UInt8 × Tv)} (hF : ∀ b, F b → b < w.heap.size) (h : NodeOn F (n + 1) w cs (.leaf p l)) (hs : Sml (n + 1) (.leaf p l)) (wa : Option Addr) (wn wk : Nat) (way : List UInt8) (kind : Int) (a : Nat) (ha : a < 256) (key : List UInt8) (hk : key.length ≤ 100) :
    Calls Try.prog 40 #[.agg cs.toArray, .agg #[.slice wa wn wk, .int .i64 kind, .int .u8 (a : Int), .string (strOf key)]] w (NodeTo F (n + 1) w (spoilT (n + 1) way kind a key (.leaf p l))) := by
  have HN := Lib.hid h
  obtain ⟨ka, kn, kc, va, vn, vc, ca, cc, rfl, h1, f1, h2, f2, h3⟩ := h
  obtain ⟨e1, e2, e3⟩ := h1.lens
  obtain ⟨e4, e5, e6⟩ := h2.lens
  have hkl : (keysOf l).length = l.length := by simp [keysOf]
  obtain rfl : kn = vn := by rw [List.length_map] at e4; omega
  have hkn : kn = l.length := by omega
  have hkn9 : kn ≤ 100 := by rw [hkn]; exact hs.1
  have HH1 := Lib.hid h1
  have HV := Lib.hid h2
  have HKN := Lib.hid hkn
  have HSM := Lib.hid hs
  obtain ⟨W0, hW0⟩ : ∃ x, ((w.alloc (.cells #[.int .i64 p, .bool true, .slice ka kn kc, .slice va kn vc, .slice ca 0 cc] 33)).alloc (.cells #[.slice wa wn wk, .int .i64 kind, .int .u8 (a : Int), .string (strOf key)] 74)).alloc (.cells #[.int .i64 0, .bool false, .slice none 0 0, .slice none 0 0, .slice none 0 0] 33) = x := ⟨_, rfl⟩
  have hx0 : Boxes W0 [(w.heap.size + 1 + 1, [.int .i64 0, .bool false, .slice none 0 0, .slice none 0 0, .slice none 0 0]), (w.heap.size + 1, [.slice wa wn wk, .int .i64 kind, .int .u8 (a : Int), .string (strOf key)]), (w.heap.size, [.int .i64 p, .bool true, .slice ka kn kc, .slice va kn vc, .slice ca 0 cc])] := by
    rw [← hW0]
    exact (((Boxes.nil w).alloc #[.int .i64 p, .bool true, .slice ka kn kc, .slice va kn vc, .slice ca 0 cc] 33 (b := w.heap.size) rfl).alloc #[.slice wa wn wk, .int .i64 kind, .int .u8 (a : Int), .string (strOf key)] 74 (b := w.heap.size + 1) (by simp)).alloc #[.int .i64 0, .bool false, .slice none 0 0, .slice none 0 0, .slice none 0 0] 33 (b := w.heap.size + 1 + 1) (by simp)
  have hb0 : Below w.heap.size w W0 := by rw [← hW0]; exact Below.al (Below.al (Below.al (Below.refl _ _)))
  have hs0 : W0.heap.size = w.heap.size + 1 + 1 + 1 := by rw [← hW0]; simp
  have n0 := hx0.cell 2 0 rfl rfl
  have n1 := hx0.cell 2 1 rfl rfl
  have n2 := hx0.cell 2 2 rfl rfl
  have n3 := hx0.cell 2 3 rfl rfl
  have n4 := hx0.cell 2 4 rfl rfl
  have s1 := hx0.cell 1 1 rfl rfl
  have s2 := hx0.cell 1 2 rfl rfl
  have s3 := hx0.cell 1 3 rfl rfl
  have HX0 := Lib.hid hx0
  have HB0 := Lib.hid hb0
  have HS0 := Lib.hid hs0
  clear h1 h2 h3 f1 f2 e1 e4 hkl hkn hs hx0 hb0 hs0
  by_cases hm0 : kn = 0
  · subst hm0
    have hT : spoilT (n + 1) way kind a key (.leaf p l) = .leaf p l := by
      unfold spoilT; rw [if_pos (by have := HKN.out; omega)]
    rw [hT]
    have z0 := HX0.out.cell 0 0 rfl rfl
    have z1 := HX0.out.cell 0 1 rfl rfl
    have z2 := HX0.out.cell 0 2 rfl rfl
    have z3 := HX0.out.cell 0 3 rfl rfl
    have z4 := HX0.out.cell 0 4 rfl rfl
    have u0 := HX0.out.frozen 0 0 rfl
    have u1 := HX0.out.frozen 0 1 rfl
    have u2 := HX0.out.frozen 0 2 rfl
    have u3 := HX0.out.frozen 0 3 rfl
    have u4 := HX0.out.frozen 0 4 rfl
    obtain ⟨hxe, hne⟩ := sp_end (F := F) HB0.out HX0.out (by omega) (by simp; omega) (fun hf => by have := hF _ hf; omega) (fun x hx => .inl hx) (HN.out.below HB0.out)
    have HG := Lib.hid hxe
    have HE := Lib.hid hne
    clear hxe hne HX0 HB0 HH1 HV HSM HN HS0 hT
    go_enter Try.func40, Try.ntmps40
    go_wp2_with fail
    refine bodyPost_ret (v := .agg #[.int .i64 p, .bool true, .slice ka 0 kc, .slice va 0 vc, .slice ca 0 cc]) (by
      have g0 := HG.out.cell 0 0 rfl rfl
      have g1 := HG.out.cell 0 1 rfl rfl
      have g2 := HG.out.cell 0 2 rfl rfl
      have g3 := HG.out.cell 0 3 rfl rfl
      have g4 := HG.out.cell 0 4 rfl rfl
      unfold set5 at g0 g1 g2 g3 g4
      simp only [results, Try.results40]; simp [go_sem, g0, g1, g2, g3, g4]) rfl HE.out
  obtain ⟨q, hq⟩ : ∃ q, a % kn = q := ⟨_, rfl⟩
  have hqk : q < kn := by rw [← hq]; exact Nat.mod_lt _ (by omega)
  have hmod : ((a : Int).tmod (kn : Int)) = (q : Int) := by rw [← hq, Int.tmod_eq_emod_of_nonneg (by omega)]; rfl
  have hmod2 : ((a : Int) % (kn : Int)) = (q : Int) := by rw [← hq]; simp
  have hT : spoilT (n + 1) way kind a key (.leaf p l) = .leaf (if kind = 5 then (a : Int) else p) (spTo (tmsF kind q) (spV kind key q) l kn) := by
    have e := HKN.out
    subst e
    subst hq
    unfold spoilT
    rw [if_neg hm0]
  rw [hT]
  have hkn0 : decide ((kn : Int) = 0) = false := by simp; omega
  have hkn1 : ((kn : Int) == 0) = false := by simp; omega
  have hkn2 : ¬ (kn : Int) = 0 := by omega
  have hwa : IntKind.i64.wrap (a : Int) = (a : Int) := IntWalk.i64_in _ (by omega)
  have HQ := Lib.hid hq
  obtain ⟨T9, hT9⟩ : ∃ T9, Tr.leaf (if kind = 5 then (a : Int) else p) (spTo (tmsF kind q) (spV kind key q) l kn) = T9 := ⟨_, rfl⟩
  rw [hT9]
  have HT9 := Lib.hid hT9
  clear hT hq HN hT9
  go_enter Try.func40, Try.ntmps40
  go_wp2_with fail
  have hx1 : Boxes (W0.alloc (.cells #[.int .i64 p, .bool true, .slice none 0 0, .slice none 0 0, .slice none 0 0] 33)) ((W0.heap.size, [.int .i64 p, .bool true, .slice none 0 0, .slice none 0 0, .slice none 0 0]) :: [(w.heap.size + 1 + 1, [.int .i64 0, .bool false, .slice none 0 0, .slice none 0 0, .slice none 0 0]), (w.heap.size + 1, [.slice wa wn wk, .int .i64 kind, .int .u8 (a : Int), .string (strOf key)]), (w.heap.size, [.int .i64 p, .bool true, .slice ka kn kc, .slice va kn vc, .slice ca 0 cc])]) := HX0.out.alloc #[.int .i64 p, .bool true, .slice none 0 0, .slice none 0 0, .slice none 0 0] 33 (b := W0.heap.size) rfl
  have HL : Hid (Lay F w W0.heap.size (W0.heap.size + 1) [(w.heap.size + 1 + 1, [.int .i64 0, .bool false, .slice none 0 0, .slice none 0 0, .slice none 0 0]), (w.heap.size + 1, [.slice wa wn wk, .int .i64 kind, .int .u8 (a : Int), .string (strOf key)]), (w.heap.size, [.int .i64 p, .bool true, .slice ka kn kc, .slice va kn vc, .slice ca 0 cc])]) := Lib.hid ⟨by have := HS0.out; omega, by omega, by
    intro x hx
    have := HS0.out
    simp at hx
    rcases hx with rfl | rfl | rfl <;> simp <;> omega, hF⟩
  have HND : Hid (NdAt F n w W0.heap.size (W0.heap.size + 1) [(w.heap.size + 1 + 1, [.int .i64 0, .bool false, .slice none 0 0, .slice none 0 0, .slice none 0 0]), (w.heap.size + 1, [.slice wa wn wk, .int .i64 kind, .int .u8 (a : Int), .string (strOf key)]), (w.heap.size, [.int .i64 p, .bool true, .slice ka kn kc, .slice va kn vc, .slice ca 0 cc])] p true (.slice none 0 0) (.slice none 0 0) (.slice none 0 0) (keysOf (spTo (tmsF kind q) (spV kind key q) l 0)) ((spTo (tmsF kind q) (spV kind key q) l 0).map (·.2)) [] _) := Lib.hid ⟨hx1, NodeRows.nil _ _ _ _ _ _ _, Below.al HB0.out⟩
  clear hx1 HX0 HB0
  go_loopw [9] (fun s9 wr => ∃ (i : Nat) (v1 v2 v3 : Value), i ≤ kn ∧ s9 = .int .i64 i ∧ NdAt F n w W0.heap.size (W0.heap.size + 1) [(w.heap.size + 1 + 1, [.int .i64 0, .bool false, .slice none 0 0, .slice none 0 0, .slice none 0 0]), (w.heap.size + 1, [.slice wa wn wk, .int .i64 kind, .int .u8 (a : Int), .string (strOf key)]), (w.heap.size, [.int .i64 p, .bool true, .slice ka kn kc, .slice va kn vc, .slice ca 0 cc])] p true v1 v2 v3 (keysOf (spTo (tmsF kind q) (spV kind key q) l i)) ((spTo (tmsF kind q) (spV kind key q) l i).map (·.2)) [] wr) (fun s _ => kn - (intOf s).toNat)
  case atStart => exact ⟨0, _, _, _, Nat.zero_le _, rfl, HND.out⟩
  case round =>
    clear HND n0 n1 n2 n3 n4 s1 s2 s3
    obtain ⟨i, v1, v2, v3, hi, rfl, hnd⟩ := hrel
    have n2 := hnd.bx.cell 3 2 rfl rfl
    have s1 := hnd.bx.cell 2 1 rfl rfl
    by_cases hlt : i < kn
    · have hil : (i : Int) < (kn : Int) := by omega
      have h0i : (0 : Int) ≤ (i : Int) := by omega
      have hwi : IntKind.i64.wrap ((i : Int) + 1) = (i : Int) + 1 := IntWalk.i64_in _ (by omega)
      have HND := Lib.hid hnd
      clear hnd
      go_upto_region 16 with (fail)
      go_cut [90] (fun s90 wx => s90 = .bool (decide (i = q ∧ kind = 2)) ∧ wr = wx)
      case first =>
        by_cases hiq : i = q
        · have c1 : ((i : Int) == (q : Int)) = true := by simp [hiq]
          have c2 : decide ((i : Int) = (q : Int)) = true := by simp [hiq]
          by_cases hkq : kind = 2
          · have c3 : (kind == 2) = true := by simp [hkq]
            have c5 := Lib.hid hkq
            have c6 := Lib.hid hiq
            clear hiq hkq
            go_wp2_with fail
            go_meet
            exact ⟨by simp [c5.out, c6.out], rfl⟩
          · have c3 : (kind == 2) = false := by simp [hkq]
            have c5 := Lib.hid hkq
            clear hiq hkq
            go_wp2_with fail
            go_meet
            exact ⟨by simp [c5.out], rfl⟩
        · have c1 : ((i : Int) == (q : Int)) = false := by simp; omega
          have c2 : decide ((i : Int) = (q : Int)) = false := by simp; omega
          have c6 := Lib.hid hiq
          clear hiq
          go_wp2_with fail
          go_meet
          exact ⟨by simp [c6.out], rfl⟩
      case rest =>
      obtain ⟨rfl, rfl⟩ := hcut
      obtain ⟨b2, hb2⟩ : ∃ b, decide (i = q ∧ kind = 2) = b := ⟨_, rfl⟩
      have Hb2 := Lib.hid hb2
      rw [hb2]
      clear hb2
      go_upto_if 90 with (fail)
      go_cut [10] (fun s10 wx => s10 = .int .i64 (tm1 kind q i : Nat) ∧ wr = wx)
      case first =>
        cases b2 with
        | true =>
          have hm1 : tm1 kind q i = 0 := by unfold tm1; rw [if_pos (of_decide_eq_true Hb2.out)]
          have HM1 := Lib.hid hm1
          clear hm1
          go_wp2_with fail
          go_meet
          exact ⟨by rw [HM1.out]; rfl, rfl⟩
        | false =>
          have hm1 : tm1 kind q i = 1 := by unfold tm1; rw [if_neg (of_decide_eq_false Hb2.out)]
          have HM1 := Lib.hid hm1
          clear hm1
          go_wp2_with fail
          go_meet
          exact ⟨by rw [HM1.out]; rfl, rfl⟩
      case rest =>
      obtain ⟨rfl, rfl⟩ := hcut
      have s1 := HND.out.bx.cell 2 1 rfl rfl
      have n2 := HND.out.bx.cell 3 2 rfl rfl
      go_upto_region 18 with (fail)
      go_cut [98] (fun s98 wx => s98 = .bool (decide (i = q ∧ kind = 3)) ∧ wr = wx)
      case first =>
        by_cases hiq : i = q
        · have c1 : ((i : Int) == (q : Int)) = true := by simp [hiq]
          have c2 : decide ((i : Int) = (q : Int)) = true := by simp [hiq]
          by_cases hkq : kind = 3
          · have c3 : (kind == 3) = true := by simp [hkq]
            have c5 := Lib.hid hkq
            have c6 := Lib.hid hiq
            clear hiq hkq
            go_wp2_with fail
            go_meet
            exact ⟨by simp [c5.out, c6.out], rfl⟩
          · have c3 : (kind == 3) = false := by simp [hkq]
            have c5 := Lib.hid hkq
            clear hiq hkq
            go_wp2_with fail
            go_meet
            exact ⟨by simp [c5.out], rfl⟩
        · have c1 : ((i : Int) == (q : Int)) = false := by simp; omega
          have c2 : decide ((i : Int) = (q : Int)) = false := by simp; omega
          have c6 := Lib.hid hiq
          clear hiq
          go_wp2_with fail
          go_meet
          exact ⟨by simp [c6.out], rfl⟩
      case rest =>
      obtain ⟨rfl, rfl⟩ := hcut
      obtain ⟨b3, hb3⟩ : ∃ b, decide (i = q ∧ kind = 3) = b := ⟨_, rfl⟩
      have Hb3 := Lib.hid hb3
      rw [hb3]
      clear hb3
      go_upto_if 98 with (fail)
      go_cut [10] (fun s10 wx => s10 = .int .i64 (tmsF kind q i : Nat) ∧ wr = wx)
      case first =>
        have htm := tms_of b3 Hb3.out
        cases b3 with
        | true =>
          have HM1 := Lib.hid htm
          clear htm
          go_wp2_with fail
          go_meet
          exact ⟨by rw [HM1.out]; rfl, rfl⟩
        | false =>
          have HM1 := Lib.hid htm
          clear htm
          go_wp2_with fail
          go_meet
          exact ⟨by rw [HM1.out]; rfl, rfl⟩
      case rest =>
      obtain ⟨rfl, rfl⟩ := hcut
      have s1 := HND.out.bx.cell 2 1 rfl rfl
      have n2 := HND.out.bx.cell 3 2 rfl rfl
      obtain ⟨tm, htm⟩ : ∃ tm, tmsF kind q i = tm := ⟨_, rfl⟩
      have htm2 : tm ≤ 2 := by rw [← htm]; exact tms_le kind q i
      rw [htm]
      have HTM := Lib.hid htm
      clear htm
      have hnd := HND.out
      have hcv : ∃ cv, l[i]? = some cv := ⟨l[i]'(by have := HKN.out; omega), List.getElem?_eq_getElem (by have := HKN.out; omega)⟩
      obtain ⟨⟨ck, cv⟩, hcv⟩ := hcv
      obtain ⟨e9, he9⟩ : ∃ e, spV kind key q i (ck, cv) = e := ⟨_, rfl⟩
      obtain ⟨ek, ev⟩ := e9
      have hsp := spTo_succ (tmsF kind q) (spV kind key q) hcv
      rw [HTM.out, he9] at hsp
      obtain ⟨A, hA⟩ : ∃ A, spTo (tmsF kind q) (spV kind key q) l i = A := ⟨_, rfl⟩
      rw [hA] at hnd hsp
      have hAl : A.length ≤ 200 := by
        rw [← hA]
        have := spTo_len kind q (spV kind key q) l i
        split at this <;> omega
      have HSP := Lib.hid hsp
      have HCV := Lib.hid hcv
      have HE9 := Lib.hid he9
      have HND2 : Hid (NdAt F n w W0.heap.size (W0.heap.size + 1) [(w.heap.size + 1 + 1, [.int .i64 0, .bool false, .slice none 0 0, .slice none 0 0, .slice none 0 0]), (w.heap.size + 1, [.slice wa wn wk, .int .i64 kind, .int .u8 (a : Int), .string (strOf key)]), (w.heap.size, [.int .i64 p, .bool true, .slice ka kn kc, .slice va kn vc, .slice ca 0 cc])] p true v1 v2 v3 (keysOf (A ++ List.replicate 0 (ek, ev))) ((A ++ List.replicate 0 (ek, ev)).map (·.2)) [] wr) := Lib.hid (by simpa using hnd)
      clear hnd hcv he9 hsp hA HND s1 n2
      go_wp2_with fail
      go_loopw [11] (fun s11 wx => ∃ (t : Nat) (v1 v2 v3 : Value), t ≤ tm ∧ s11 = .int .i64 t ∧ NdAt F n w W0.heap.size (W0.heap.size + 1) [(w.heap.size + 1 + 1, [.int .i64 0, .bool false, .slice none 0 0, .slice none 0 0, .slice none 0 0]), (w.heap.size + 1, [.slice wa wn wk, .int .i64 kind, .int .u8 (a : Int), .string (strOf key)]), (w.heap.size, [.int .i64 p, .bool true, .slice ka kn kc, .slice va kn vc, .slice ca 0 cc])] p true v1 v2 v3 (keysOf (A ++ List.replicate t (ek, ev))) ((A ++ List.replicate t (ek, ev)).map (·.2)) [] wx) (fun s _ => tm - (intOf s).toNat)
      case atStart => exact ⟨0, _, _, _, Nat.zero_le _, rfl, HND2.out⟩
      case round =>
        clear HND2
        rename_i wr0 _ _ _
        obtain ⟨t, v1, v2, v3, ht, rfl, hnd⟩ := hrel
        by_cases htt : t < tm
        · have ht' : (t : Int) < (tm : Int) := by omega
          have hwt : IntKind.i64.wrap ((t : Int) + 1) = (t : Int) + 1 := IntWalk.i64_in _ (by omega)
          have hbw := hnd.bel
          have n1 := hnd.bx.cell 3 1 rfl rfl
          have n2 := hnd.bx.cell 3 2 rfl rfl
          have n3 := hnd.bx.cell 3 3 rfl rfl
          have s1 := hnd.bx.cell 2 1 rfl rfl
          have s3 := hnd.bx.cell 2 3 rfl rfl
          obtain ⟨bk, ok, rfl, hbk9, hck⟩ := HH1.out.at hlt
          have k0 := (hbw.cell (p := ⟨bk, ok + i, none⟩) hbk9).trans hck
          rw [show (keysOf l)[i]?.getD [] = ck by simp [keysOf, HCV.out]] at k0
          obtain ⟨bv, ov, tv, tcs, rfl, hbv, hyv, _, ⟨pa, pn, pc, rfl, hrow, hfa⟩, hcvs⟩ := TabR.at HV.out hlt
          obtain rfl : tv = cv := by
            rw [List.getElem?_map, HCV.out] at hyv
            exact (Option.some.inj hyv).symm
          have d0 := hcvs 0 _ rfl
          have d1 := hcvs 1 _ rfl
          have HROW := Lib.hid hrow
          have HFA := Lib.hid hfa
          have hlk : (keysOf (A ++ List.replicate t (ek, ev))).length = A.length + t := by simp [keysOf]
          have hlv : ((A ++ List.replicate t (ek, ev)).map (·.2)).length = A.length + t := by simp
          obtain ⟨a1, k1, a2, k2, a3, k3, rfl, rfl, rfl⟩ := hnd.rows.sl
          rw [hlk, hlv] at hnd
          have hl0 : ([] : List Tr).length = 0 := rfl
          rw [hl0] at hnd
          obtain ⟨m1, hm1⟩ : ∃ m1, A.length + t = m1 := ⟨_, rfl⟩
          rw [hm1] at hnd hlk hlv
          have hm9 : m1 ≤ 1000 := by omega
          have HND := Lib.hid hnd
          have HLV := Lib.hid hlv
          have HLK := Lib.hid hlk
          have HD0 := Lib.hid d0
          have HD1 := Lib.hid d1
          have hbk8 := Nat.lt_of_lt_of_le hbk9 hbw.size
          have hbv8 := Nat.lt_of_lt_of_le hbv hbw.size
          clear hnd hck hyv hrow hfa hcvs hbw hm1 hlk hlv d0 d1
          go_upto_region 24 with (fail)
          go_cut [116] (fun s116 wx => s116 = .bool (decide (i = q ∧ kind = 0)) ∧ wr = wx)
          case first =>
            by_cases hiq : i = q
            · have c1 : ((i : Int) == (q : Int)) = true := by simp [hiq]
              have c2 : decide ((i : Int) = (q : Int)) = true := by simp [hiq]
              by_cases hkq : kind = 0
              · have c3 : (kind == 0) = true := by simp [hkq]
                have c5 := Lib.hid hkq
                have c6 := Lib.hid hiq
                clear hiq hkq
                go_wp2_with fail
                go_meet
                exact ⟨by simp [c5.out, c6.out], rfl⟩
              · have c3 : (kind == 0) = false := by simp [hkq]
                have c5 := Lib.hid hkq
                clear hiq hkq
                go_wp2_with fail
                go_meet
                exact ⟨by simp [c5.out], rfl⟩
            · have c1 : ((i : Int) == (q : Int)) = false := by simp; omega
              have c2 : decide ((i : Int) = (q : Int)) = false := by simp; omega
              have c6 := Lib.hid hiq
              clear hiq
              go_wp2_with fail
              go_meet
              exact ⟨by simp [c6.out], rfl⟩
          case rest =>
          obtain ⟨rfl, rfl⟩ := hcut
          obtain ⟨b0, hb0⟩ : ∃ b, decide (i = q ∧ kind = 0) = b := ⟨_, rfl⟩
          have Hb0 := Lib.hid hb0
          rw [hb0]
          clear hb0
          go_upto_if 116 with (fail)
          go_cut [12] (fun s12 wx => s12 = .string (strOf ek) ∧ wr = wx)
          case first =>
            have hek := spV_key HE9.out b0 Hb0.out
            have HEK := Lib.hid hek
            clear hek
            cases b0 with
            | true =>
              go_wp2_with fail
              go_meet
              exact ⟨by rw [HEK.out]; rfl, rfl⟩
            | false =>
              go_wp2_with fail
              go_meet
              exact ⟨by rw [HEK.out]; rfl, rfl⟩
          case rest =>
          obtain ⟨rfl, rfl⟩ := hcut
          have hnd := HND.out
          have hbo := hnd.bx.lt 0 rfl
          obtain ⟨a', c', w', hrun1, _, f8, f9, _, hndP⟩ := hnd.pushK n HL.out (by omega) (by rw [HLK.out]; exact hm9) ek
          rw [HLK.out] at hrun1 hndP
          have o2 := hnd.bx.cell 0 2 rfl rfl
          have HP := Lib.hid hndP
          clear hnd hndP s1 s3 k0 n1 n2 n3
          go_upto_region 27 with (at_builtin; refine wpList_append_run rfl _ _ _ _ rfl rfl rfl hrun1 ?_)
          obtain ⟨wz, hwz⟩ : ∃ x, x = (w'.setCell ⟨W0.heap.size, 2, none⟩ (.slice a' (m1 + 1) c')) := ⟨_, rfl⟩
          rw [← hwz] at HP ⊢
          clear hwz f8 f9 o2 hrun1
          have hbz := HP.out.bel
          have n1 := HP.out.bx.cell 3 1 rfl rfl
          have n3 := HP.out.bx.cell 3 3 rfl rfl
          have hboz := HP.out.bx.lt 0 rfl
          have d0 := (hbz.cell (p := ⟨bv, ov + i * 2, none⟩) hbv).trans HD0.out
          have d1 := (hbz.cell (p := ⟨bv, ov + i * 2 + 1, none⟩) hbv).trans HD1.out
          clear hbz
          go_upto_region 29 with (fail)
          obtain ⟨wy, hwy⟩ : ∃ x, x = wz.alloc (.cells #[.string (strOf tv.data), .slice pa pn pc] 100) := ⟨_, rfl⟩
          rw [← hwy]
          have hby : Below wz.heap.size wz wy := by rw [hwy]; exact Below.al (Below.refl _ _)
          have HV9 : Hid (Boxes wy [(wz.heap.size, [.string (strOf tv.data), .slice pa pn pc])]) := Lib.hid (by rw [hwy]; exact (Boxes.nil wz).alloc #[.string (strOf tv.data), .slice pa pn pc] 100 rfl)
          have HQ := Lib.hid (HP.out.below hby)
          have s1 := HQ.out.bx.cell 2 1 rfl rfl
          clear hwy n1 n3 d0 d1
          go_cut [139] (fun s139 wx => s139 = .bool (decide (i = q ∧ kind = 1)) ∧ wy = wx)
          case first =>
            by_cases hiq : i = q
            · have c1 : ((i : Int) == (q : Int)) = true := by simp [hiq]
              have c2 : decide ((i : Int) = (q : Int)) = true := by simp [hiq]
              by_cases hkq : kind = 1
              · have c3 : (kind == 1) = true := by simp [hkq]
                have c5 := Lib.hid hkq
                have c6 := Lib.hid hiq
                clear hiq hkq
                go_wp2_with fail
                go_meet
                exact ⟨by simp [c5.out, c6.out], rfl⟩
              · have c3 : (kind == 1) = false := by simp [hkq]
                have c5 := Lib.hid hkq
                clear hiq hkq
                go_wp2_with fail
                go_meet
                exact ⟨by simp [c5.out], rfl⟩
            · have c1 : ((i : Int) == (q : Int)) = false := by simp; omega
              have c2 : decide ((i : Int) = (q : Int)) = false := by simp; omega
              have c6 := Lib.hid hiq
              clear hiq
              go_wp2_with fail
              go_meet
              exact ⟨by simp [c6.out], rfl⟩
          case rest =>
          obtain ⟨rfl, rfl⟩ := hcut
          obtain ⟨b1, hb1⟩ : ∃ b, decide (i = q ∧ kind = 1) = b := ⟨_, rfl⟩
          have Hb1 := Lib.hid hb1
          rw [hb1]
          clear hb1
          have hev := spV_val HE9.out b1 Hb1.out
          have HEV := Lib.hid hev
          clear hev s1
          cases b1 with
          | true =>
            have hst := HEV.out
            simp only [if_true] at hst
            have HST := Lib.hid hst
            have y0 := HV9.out.cell 0 0 rfl rfl
            have yf := HV9.out.frozen 0 0 rfl
            have s3 := HQ.out.bx.cell 2 3 rfl rfl
            have hdl : tv.data.length ≤ 500 := ((HSM.out).2 (ck, tv) (List.mem_of_getElem? HCV.out)).2
            have ha : ∀ W, (Op.stringOp .add (strOf key) (strOf tv.data)).run Try.prog W = .ok (.string (strOf (key ++ tv.data))) W := fun W => by
              rw [run_string_add_sum W _ _ (by rw [strOf_size, strOf_size]; omega), strOf_append]
            clear hst
            skip
            go_upto_region 31 with (fail)
            obtain ⟨wv, hwv⟩ : ∃ x, x = wy.setCell ⟨wz.heap.size, 0, none⟩ (.string (strOf (key ++ tv.data))) := ⟨_, rfl⟩
            rw [← hwv]
            have hbv9 : Below wz.heap.size wz wv := by rw [hwv]; exact hby.setCell (Nat.le_refl _) _
            have HX9 : Hid (Boxes wv [(wz.heap.size, [.string (strOf ev.data), .slice pa pn pc])]) := Lib.hid (by rw [hwv, HST.out]; exact HV9.out.put 0 _ (by simp))
            have hpg : ev.pages = tv.pages := by rw [HST.out]
            clear hwv y0 yf s3 ha HV9 HQ
            have hndv := HP.out.below hbv9
            have hbo9 := hndv.bx.lt 0 rfl
            have hy : TvOn (G3 F (W0.heap.size + 1) (.slice a' (m1 + 1) c') (.slice a2 m1 k2) (.slice a3 0 k3)) wv [.string (strOf ev.data), .slice pa pn pc] ev := ⟨pa, pn, pc, rfl, by rw [hpg]; exact HROW.out.below (Nat.le_refl _) hndv.bel, HFA.out.mono (fun b hf => by
              have := hF b hf
              have hs := HS0.out
              exact ⟨.inl hf, fun e => by have := (hndv.rows.k.lt e).1; omega, fun e => by have := (hndv.rows.v.lt e).1; omega, fun e => by have := (hndv.rows.c.lt e).1; omega⟩)⟩
            obtain ⟨a9, c9, w9, hrun2, _, g8, g9, _, hndQ⟩ := hndv.pushV n HL.out (by omega) (by rw [HLV.out]; exact hm9) hy
            rw [HLV.out] at hrun2 hndQ
            have o3 := hndv.bx.cell 0 3 rfl rfl
            have y0 := HX9.out.cell 0 0 rfl rfl
            have y1 := HX9.out.cell 0 1 rfl rfl
            have hk9 : keysOf (A ++ List.replicate t (ek, ev)) ++ [ek] = keysOf (A ++ List.replicate (t + 1) (ek, ev)) := (rep_keys A t (ek, ev)).symm
            have hv9 : (A ++ List.replicate t (ek, ev)).map (·.2) ++ [ev] = (A ++ List.replicate (t + 1) (ek, ev)).map (·.2) := (rep_vals A t (ek, ev)).symm
            rw [hk9, hv9] at hndQ
            clear hk9 hv9
            have HZ := Lib.hid hndQ
            clear hndv hndQ hy HP HX9 hpg
            go_wp2_with (at_builtin; refine wpList_append_run rfl _ _ _ _ rfl rfl rfl hrun2 ?_)
            go_roundw
            case rel => exact ⟨t + 1, _, _, _, htt, by go_num, HZ.out⟩
            case measure => simp [intOf]; omega
          | false =>
            have hst := HEV.out
            simp only [Bool.false_eq_true, if_false] at hst
            subst hst
            obtain ⟨wv, hwv⟩ : ∃ x, x = wy := ⟨_, rfl⟩
            rw [← hwv]
            have hbv9 : Below wz.heap.size wz wv := by rw [hwv]; exact hby
            have HX9 : Hid (Boxes wv [(wz.heap.size, [.string (strOf ev.data), .slice pa pn pc])]) := Lib.hid (by rw [hwv]; exact HV9.out)
            have hpg : ev.pages = ev.pages := rfl
            clear hwv HV9 HQ
            have hndv := HP.out.below hbv9
            have hbo9 := hndv.bx.lt 0 rfl
            have hy : TvOn (G3 F (W0.heap.size + 1) (.slice a' (m1 + 1) c') (.slice a2 m1 k2) (.slice a3 0 k3)) wv [.string (strOf ev.data), .slice pa pn pc] ev := ⟨pa, pn, pc, rfl, by rw [hpg]; exact HROW.out.below (Nat.le_refl _) hndv.bel, HFA.out.mono (fun b hf => by
              have := hF b hf
              have hs := HS0.out
              exact ⟨.inl hf, fun e => by have := (hndv.rows.k.lt e).1; omega, fun e => by have := (hndv.rows.v.lt e).1; omega, fun e => by have := (hndv.rows.c.lt e).1; omega⟩)⟩
            obtain ⟨a9, c9, w9, hrun2, _, g8, g9, _, hndQ⟩ := hndv.pushV n HL.out (by omega) (by rw [HLV.out]; exact hm9) hy
            rw [HLV.out] at hrun2 hndQ
            have o3 := hndv.bx.cell 0 3 rfl rfl
            have y0 := HX9.out.cell 0 0 rfl rfl
            have y1 := HX9.out.cell 0 1 rfl rfl
            have hk9 : keysOf (A ++ List.replicate t (ek, ev)) ++ [ek] = keysOf (A ++ List.replicate (t + 1) (ek, ev)) := (rep_keys A t (ek, ev)).symm
            have hv9 : (A ++ List.replicate t (ek, ev)).map (·.2) ++ [ev] = (A ++ List.replicate (t + 1) (ek, ev)).map (·.2) := (rep_vals A t (ek, ev)).symm
            rw [hk9, hv9] at hndQ
            clear hk9 hv9
            have HZ := Lib.hid hndQ
            clear hndv hndQ hy HP HX9 hpg
            go_wp2_with (at_builtin; refine wpList_append_run rfl _ _ _ _ rfl rfl rfl hrun2 ?_)
            go_roundw
            case rel => exact ⟨t + 1, _, _, _, htt, by go_num, HZ.out⟩
            case measure => simp [intOf]; omega
        · obtain rfl : t = tm := by omega
          have ht' : decide ((t : Int) < (t : Int)) = false := by simp
          rw [← HSP.out] at hnd
          have HND := Lib.hid hnd
          clear hnd
          go_wp2_with fail
          go_roundw
          case rel => exact ⟨i + 1, _, _, _, hlt, by go_num, HND.out⟩
          case measure => simp [intOf]; omega
    · obtain rfl : kn = i := by omega
      have hil : decide ((kn : Int) < (kn : Int)) = false := by simp
      obtain ⟨Z, hZ⟩ : ∃ Z, spTo (tmsF kind q) (spV kind key q) l kn = Z := ⟨_, rfl⟩
      have hT := HT9.out
      rw [hZ] at hnd hT
      obtain ⟨a1, k1, a2, k2, a3, k3, rfl, rfl, rfl⟩ := hnd.rows.sl
      have hl0 : ([] : List Tr).length = 0 := rfl
      rw [hl0] at hnd
      obtain ⟨m1, hm1⟩ : ∃ m1, (keysOf Z).length = m1 := ⟨_, rfl⟩
      obtain ⟨m2, hm2⟩ : ∃ m2, (Z.map (·.2)).length = m2 := ⟨_, rfl⟩
      rw [hm1, hm2] at hnd
      have s2 := hnd.bx.cell 2 2 rfl rfl
      clear hm1 hm2 hZ
      by_cases h5 : kind = 5
      · have hT8 : T9 = .leaf (a : Int) Z := by rw [← hT, if_pos h5]
        have h51 : (kind == 5) = true := by simp [h5]
        have HND := Lib.hid hnd
        have p0 := hnd.bx.cell 0 0 rfl rfl
        have pf := hnd.bx.frozen 0 0 rfl
        clear hT hnd h5
        go_upto_region 38 with (fail)
        obtain ⟨wq, hwq⟩ : ∃ x, x = wr.setCell ⟨W0.heap.size, 0, none⟩ (.int .i64 (a : Int)) := ⟨_, rfl⟩
        rw [← hwq]
        have hbq : Boxes wq ((W0.heap.size, [.int .i64 (a : Int), .bool true, .slice a1 m1 k1, .slice a2 m2 k2, .slice a3 0 k3]) :: [(w.heap.size + 1 + 1, [.int .i64 0, .bool false, .slice none 0 0, .slice none 0 0, .slice none 0 0]), (w.heap.size + 1, [.slice wa wn wk, .int .i64 kind, .int .u8 (a : Int), .string (strOf key)]), (w.heap.size, [.int .i64 p, .bool true, .slice ka kn kc, .slice va kn vc, .slice ca 0 cc])]) := by
          rw [hwq]; exact HND.out.bx.put 0 _ (fun x hx => (HL.out.2.2.1 x hx).2)
        have hbelq : Below w.heap.size w wq := by rw [hwq]; exact HND.out.bel.setCell HL.out.1 _
        have hrq : NodeOn (fun x => F x ∨ W0.heap.size + 1 ≤ x) (n + 1) wq [.int .i64 (a : Int), .bool true, .slice a1 m1 k1, .slice a2 m2 k2, .slice a3 0 k3] (.leaf (a : Int) Z) := by
          rw [hwq]
          exact (HND.out.rows.set (by show W0.heap.size < _; omega) (fun hf => by have := hF _ hf; have := HL.out.1; simp at *; omega)).leaf (fun b hb => hb) n
        clear hwq HND p0 pf n2 s1 s2
        have o0 := hbq.cell 0 0 rfl rfl
        have o1 := hbq.cell 0 1 rfl rfl
        have o2 := hbq.cell 0 2 rfl rfl
        have o3 := hbq.cell 0 3 rfl rfl
        have o4 := hbq.cell 0 4 rfl rfl
        have u0 := hbq.frozen 1 0 rfl
        have u1 := hbq.frozen 1 1 rfl
        have u2 := hbq.frozen 1 2 rfl
        have u3 := hbq.frozen 1 3 rfl
        have u4 := hbq.frozen 1 4 rfl
        have z0 := hbq.cell 1 0 rfl rfl
        have z1 := hbq.cell 1 1 rfl rfl
        have z2 := hbq.cell 1 2 rfl rfl
        have z3 := hbq.cell 1 3 rfl rfl
        have z4 := hbq.cell 1 4 rfl rfl
        obtain ⟨hxe, hne⟩ := sp_end (F := F) (G := fun x => F x ∨ W0.heap.size + 1 ≤ x) (b := w.heap.size + 1 + 1) hbelq (hbq.sub (m := [(w.heap.size + 1 + 1, [.int .i64 0, .bool false, .slice none 0 0, .slice none 0 0, .slice none 0 0])]) (by simp)) (by omega) (by simp) (fun hf => by
          rcases hf with hf | hf
          · have := hF _ hf; omega
          · have := HS0.out; omega) (fun x hx => by
          rcases hx with hx | hx
          · exact .inl hx
          · exact .inr (by have := HS0.out; omega)) hrq
        have HG := Lib.hid hxe
        have HE := Lib.hid hne
        clear hbq hbelq hrq hxe hne
        go_wp2_with fail
        refine bodyPost_ret (v := .agg #[.int .i64 (a : Int), .bool true, .slice a1 m1 k1, .slice a2 m2 k2, .slice a3 0 k3]) (by
          have g0 := HG.out.cell 0 0 rfl rfl
          have g1 := HG.out.cell 0 1 rfl rfl
          have g2 := HG.out.cell 0 2 rfl rfl
          have g3 := HG.out.cell 0 3 rfl rfl
          have g4 := HG.out.cell 0 4 rfl rfl
          unfold set5 at g0 g1 g2 g3 g4
          simp only [results, Try.results40]; simp [go_sem, g0, g1, g2, g3, g4]) rfl (by rw [hT8]; exact HE.out)
      · have hT8 : T9 = .leaf p Z := by rw [← hT, if_neg h5]
        have h51 : (kind == 5) = false := by simp [h5]
        have hbq := hnd.bx
        have hbelq := hnd.bel
        have hrq : NodeOn (fun x => F x ∨ W0.heap.size + 1 ≤ x) (n + 1) wr [.int .i64 p, .bool true, .slice a1 m1 k1, .slice a2 m2 k2, .slice a3 0 k3] (.leaf p Z) := hnd.rows.leaf (fun b hb => hb) n
        clear hT hnd h5 s2
        have o0 := hbq.cell 0 0 rfl rfl
        have o1 := hbq.cell 0 1 rfl rfl
        have o2 := hbq.cell 0 2 rfl rfl
        have o3 := hbq.cell 0 3 rfl rfl
        have o4 := hbq.cell 0 4 rfl rfl
        have u0 := hbq.frozen 1 0 rfl
        have u1 := hbq.frozen 1 1 rfl
        have u2 := hbq.frozen 1 2 rfl
        have u3 := hbq.frozen 1 3 rfl
        have u4 := hbq.frozen 1 4 rfl
        have z0 := hbq.cell 1 0 rfl rfl
        have z1 := hbq.cell 1 1 rfl rfl
        have z2 := hbq.cell 1 2 rfl rfl
        have z3 := hbq.cell 1 3 rfl rfl
        have z4 := hbq.cell 1 4 rfl rfl
        obtain ⟨hxe, hne⟩ := sp_end (F := F) (G := fun x => F x ∨ W0.heap.size + 1 ≤ x) (b := w.heap.size + 1 + 1) hbelq (hbq.sub (m := [(w.heap.size + 1 + 1, [.int .i64 0, .bool false, .slice none 0 0, .slice none 0 0, .slice none 0 0])]) (by simp)) (by omega) (by simp) (fun hf => by
          rcases hf with hf | hf
          · have := hF _ hf; omega
          · have := HS0.out; omega) (fun x hx => by
          rcases hx with hx | hx
          · exact .inl hx
          · exact .inr (by have := HS0.out; omega)) hrq
        have HG := Lib.hid hxe
        have HE := Lib.hid hne
        clear hbq hbelq hrq hxe hne
        go_wp2_with fail
        refine bodyPost_ret (v := .agg #[.int .i64 p, .bool true, .slice a1 m1 k1, .slice a2 m2 k2, .slice a3 0 k3]) (by
          have g0 := HG.out.cell 0 0 rfl rfl
          have g1 := HG.out.cell 0 1 rfl rfl
          have g2 := HG.out.cell 0 2 rfl rfl
          have g3 := HG.out.cell 0 3 rfl rfl
          have g4 := HG.out.cell 0 4 rfl rfl
          unfold set5 at g0 g1 g2 g3 g4
          simp only [results, Try.results40]; simp [go_sem, g0, g1, g2, g3, g4]) rfl (by rw [hT8]; exact HE.out)
end Go.Proofs.Ytemfnjlfcemehaa
