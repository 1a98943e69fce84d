/- jalousielaw15.spoiled of a branch, at its place (printed by gen_treSy.py). -/
import Derived.Test.YtemfnjlfcemehaaTreSxq
namespace Go.Proofs.Ytemfnjlfcemehaa
open Go.RowKit

theorem spK_key {kind : Int} {key : List UInt8} {q i : Nat} {ck ek : List UInt8} {cv ev : Tr} (h : spK kind key q i (ck, cv) = (ek, ev)) (b : Bool) (hb : decide (i = q ∧ kind = 0) = b) : ek = if b then key else ck := by
  subst hb
  unfold spK at h
  by_cases h0 : i = q ∧ kind = 0
  · rw [if_pos h0] at h
    simp only [h0, and_self, decide_true, if_true]
    exact (congrArg (·.1) h).symm
  · rw [if_neg h0] at h
    simp only [h0, decide_false, Bool.false_eq_true, if_false]
    split at h <;> exact (congrArg (·.1) h).symm
theorem spK_kid {kind : Int} {key : List UInt8} {q i : Nat} {ck ek : List UInt8} {cv ev : Tr} (h : spK kind key q i (ck, cv) = (ek, ev)) (b : Bool) (hb : decide (i = q ∧ kind = 4) = b) : ev = if b then ownKid else cv := by
  subst hb
  unfold spK at h
  by_cases h1 : i = q ∧ kind = 4
  · rw [if_neg (by omega), if_pos h1] at h
    simp only [h1, and_self, decide_true, if_true]
    exact (congrArg (·.2) h).symm
  · rw [if_neg h1] at h
    simp only [h1, decide_false, Bool.false_eq_true, if_false]
    split at h <;> exact (congrArg (·.2) h).symm
theorem ownKid_deep {G : Nat → Prop} {m n : Nat} {w : World} {cs : List Value} (h : NodeOn G m w cs ownKid) : NodeOn G (n + 1) w cs ownKid := by
  cases m with
  | zero => exact h.elim
  | succ m => exact h
set_option maxRecDepth 100000 in
set_option maxHeartbeats 4000000 in
theorem spoil_here {n : Nat} {F : Nat → Prop} {w : World} {cs : List Value} {p : Int} {l : List (List UInt8 × Tr)} (hF : ∀ b, F b → b < w.heap.size) (h : NodeOn F (n + 1) w cs (.node p l)) (hs : Sml (n + 1) (.node p l)) (wa : Option Addr) (wk : Nat) (kind : Int) (a : Nat) (ha : a < 256) (key : List UInt8) (hk : key.length ≤ 100) :
    Calls Try.prog 40 #[.agg cs.toArray, .agg #[.slice wa 0 wk, .int .i64 kind, .int .u8 (a : Int), .string (strOf key)]] w (NodeTo F (n + 1) w (spoilT (n + 1) [] kind a key (.node p l))) := by
  have HN := Lib.hid h
  obtain ⟨ka, kn, kc, va, vc, ca, cn, cc, rfl, h1, f1, h2, h3, f3⟩ := h
  obtain ⟨e1, e2, e3⟩ := h1.lens
  obtain ⟨e4, e5, e6⟩ := h3.lens
  have hkl : (keysOf l).length = l.length := by simp [keysOf]
  obtain rfl : kn = cn := by rw [List.length_map] at e4; omega
  have hkn : kn = l.length := by omega
  have hkn9 : kn ≤ 100 := by rw [hkn]; exact hs.1
  have HH1 := Lib.hid h1
  have HV := Lib.hid h3
  have HKN := Lib.hid hkn
  have HSM := Lib.hid hs
  obtain ⟨W0, hW0⟩ : ∃ x, ((w.alloc (.cells #[.int .i64 p, .bool false, .slice ka kn kc, .slice va 0 vc, .slice ca kn cc] 33)).alloc (.cells #[.slice wa 0 wk, .int .i64 kind, .int .u8 (a : Int), .string (strOf key)] 74)).alloc (.cells #[.int .i64 0, .bool false, .slice none 0 0, .slice none 0 0, .slice none 0 0] 33) = x := ⟨_, rfl⟩
  have hx0 : Boxes W0 [(w.heap.size + 1 + 1, [.int .i64 0, .bool false, .slice none 0 0, .slice none 0 0, .slice none 0 0]), (w.heap.size + 1, [.slice wa 0 wk, .int .i64 kind, .int .u8 (a : Int), .string (strOf key)]), (w.heap.size, [.int .i64 p, .bool false, .slice ka kn kc, .slice va 0 vc, .slice ca kn cc])] := by
    rw [← hW0]
    exact (((Boxes.nil w).alloc #[.int .i64 p, .bool false, .slice ka kn kc, .slice va 0 vc, .slice ca kn cc] 33 (b := w.heap.size) rfl).alloc #[.slice wa 0 wk, .int .i64 kind, .int .u8 (a : Int), .string (strOf key)] 74 (b := w.heap.size + 1) (by simp)).alloc #[.int .i64 0, .bool false, .slice none 0 0, .slice none 0 0, .slice none 0 0] 33 (b := w.heap.size + 1 + 1) (by simp)
  have hb0 : Below w.heap.size w W0 := by rw [← hW0]; exact Below.al (Below.al (Below.al (Below.refl _ _)))
  have hs0 : W0.heap.size = w.heap.size + 1 + 1 + 1 := by rw [← hW0]; simp
  have n0 := hx0.cell 2 0 rfl rfl
  have n1 := hx0.cell 2 1 rfl rfl
  have n2 := hx0.cell 2 2 rfl rfl
  have n3 := hx0.cell 2 3 rfl rfl
  have n4 := hx0.cell 2 4 rfl rfl
  have s1 := hx0.cell 1 1 rfl rfl
  have s2 := hx0.cell 1 2 rfl rfl
  have s3 := hx0.cell 1 3 rfl rfl
  have HX0 := Lib.hid hx0
  have HB0 := Lib.hid hb0
  have HS0 := Lib.hid hs0
  have s0 := hx0.cell 1 0 rfl rfl
  clear h1 h2 h3 f1 f3 e1 e4 hkl hkn hs hx0 hb0 hs0
  by_cases hm0 : kn = 0
  · subst hm0
    have hT : spoilT (n + 1) [] kind a key (.node p l) = .node p l := by
      unfold spoilT; rw [if_pos (by have := HKN.out; omega)]
    rw [hT]
    have z0 := HX0.out.cell 0 0 rfl rfl
    have z1 := HX0.out.cell 0 1 rfl rfl
    have z2 := HX0.out.cell 0 2 rfl rfl
    have z3 := HX0.out.cell 0 3 rfl rfl
    have z4 := HX0.out.cell 0 4 rfl rfl
    have u0 := HX0.out.frozen 0 0 rfl
    have u1 := HX0.out.frozen 0 1 rfl
    have u2 := HX0.out.frozen 0 2 rfl
    have u3 := HX0.out.frozen 0 3 rfl
    have u4 := HX0.out.frozen 0 4 rfl
    obtain ⟨hxe, hne⟩ := sp_end (F := F) HB0.out HX0.out (by omega) (by simp; omega) (fun hf => by have := hF _ hf; omega) (fun x hx => .inl hx) (HN.out.below HB0.out)
    have HG := Lib.hid hxe
    have HE := Lib.hid hne
    clear hxe hne HX0 HB0 HH1 HV HSM HN HS0 hT
    go_enter Try.func40, Try.ntmps40
    go_wp2_with fail
    refine bodyPost_ret (v := .agg #[.int .i64 p, .bool false, .slice ka 0 kc, .slice va 0 vc, .slice ca 0 cc]) (by
      have g0 := HG.out.cell 0 0 rfl rfl
      have g1 := HG.out.cell 0 1 rfl rfl
      have g2 := HG.out.cell 0 2 rfl rfl
      have g3 := HG.out.cell 0 3 rfl rfl
      have g4 := HG.out.cell 0 4 rfl rfl
      unfold set5 at g0 g1 g2 g3 g4
      simp only [results, Try.results40]; simp [go_sem, g0, g1, g2, g3, g4]) rfl HE.out
  obtain ⟨q, hq⟩ : ∃ q, a % kn = q := ⟨_, rfl⟩
  have hqk : q < kn := by rw [← hq]; exact Nat.mod_lt _ (by omega)
  have hmod : ((a : Int).tmod (kn : Int)) = (q : Int) := by rw [← hq, Int.tmod_eq_emod_of_nonneg (by omega)]; rfl
  have hmod2 : ((a : Int) % (kn : Int)) = (q : Int) := by rw [← hq]; simp
  have hT : spoilT (n + 1) [] kind a key (.node p l) = .node (if kind = 5 then (a : Int) else p) (spTo (tmsF kind q) (spK kind key q) l kn) := by
    have e := HKN.out
    subst e
    subst hq
    unfold spoilT
    rw [if_neg hm0]
  rw [hT]
  have hkn0 : decide ((kn : Int) = 0) = false := by simp; omega
  have hkn1 : ((kn : Int) == 0) = false := by simp; omega
  have hkn2 : ¬ (kn : Int) = 0 := by omega
  have hwa : IntKind.i64.wrap (a : Int) = (a : Int) := IntWalk.i64_in _ (by omega)
  have HQ := Lib.hid hq
  obtain ⟨T9, hT9⟩ : ∃ T9, Tr.node (if kind = 5 then (a : Int) else p) (spTo (tmsF kind q) (spK kind key q) l kn) = T9 := ⟨_, rfl⟩
  rw [hT9]
  have HT9 := Lib.hid hT9
  clear hT hq HN hT9
  go_enter Try.func40, Try.ntmps40
  go_wp2_with fail
  have hx1 : Boxes (W0.alloc (.cells #[.int .i64 p, .bool false, .slice none 0 0, .slice none 0 0, .slice none 0 0] 33)) ((W0.heap.size, [.int .i64 p, .bool false, .slice none 0 0, .slice none 0 0, .slice none 0 0]) :: [(w.heap.size + 1 + 1, [.int .i64 0, .bool false, .slice none 0 0, .slice none 0 0, .slice none 0 0]), (w.heap.size + 1, [.slice wa 0 wk, .int .i64 kind, .int .u8 (a : Int), .string (strOf key)]), (w.heap.size, [.int .i64 p, .bool false, .slice ka kn kc, .slice va 0 vc, .slice ca kn cc])]) := HX0.out.alloc #[.int .i64 p, .bool false, .slice none 0 0, .slice none 0 0, .slice none 0 0] 33 (b := W0.heap.size) rfl
  have HL : Hid (Lay F w W0.heap.size (W0.heap.size + 1) [(w.heap.size + 1 + 1, [.int .i64 0, .bool false, .slice none 0 0, .slice none 0 0, .slice none 0 0]), (w.heap.size + 1, [.slice wa 0 wk, .int .i64 kind, .int .u8 (a : Int), .string (strOf key)]), (w.heap.size, [.int .i64 p, .bool false, .slice ka kn kc, .slice va 0 vc, .slice ca kn cc])]) := Lib.hid ⟨by have := HS0.out; omega, by omega, by
    intro x hx
    have := HS0.out
    simp at hx
    rcases hx with rfl | rfl | rfl <;> simp <;> omega, hF⟩
  have HND : Hid (NdAt F n w W0.heap.size (W0.heap.size + 1) [(w.heap.size + 1 + 1, [.int .i64 0, .bool false, .slice none 0 0, .slice none 0 0, .slice none 0 0]), (w.heap.size + 1, [.slice wa 0 wk, .int .i64 kind, .int .u8 (a : Int), .string (strOf key)]), (w.heap.size, [.int .i64 p, .bool false, .slice ka kn kc, .slice va 0 vc, .slice ca kn cc])] p false (.slice none 0 0) (.slice none 0 0) (.slice none 0 0) (keysOf (spTo (tmsF kind q) (spK kind key q) l 0)) [] ((spTo (tmsF kind q) (spK kind key q) l 0).map (·.2)) _) := Lib.hid ⟨hx1, NodeRows.nil _ _ _ _ _ _ _, Below.al HB0.out⟩
  clear hx1 HX0 HB0
  go_loopw [9] (fun s9 wr => ∃ (i : Nat) (v1 v2 v3 : Value), i ≤ kn ∧ s9 = .int .i64 i ∧ NdAt F n w W0.heap.size (W0.heap.size + 1) [(w.heap.size + 1 + 1, [.int .i64 0, .bool false, .slice none 0 0, .slice none 0 0, .slice none 0 0]), (w.heap.size + 1, [.slice wa 0 wk, .int .i64 kind, .int .u8 (a : Int), .string (strOf key)]), (w.heap.size, [.int .i64 p, .bool false, .slice ka kn kc, .slice va 0 vc, .slice ca kn cc])] p false v1 v2 v3 (keysOf (spTo (tmsF kind q) (spK kind key q) l i)) [] ((spTo (tmsF kind q) (spK kind key q) l i).map (·.2)) wr) (fun s _ => kn - (intOf s).toNat)
  case atStart => exact ⟨0, _, _, _, Nat.zero_le _, rfl, HND.out⟩
  case round =>
    clear HND n0 n1 n2 n3 n4 s1 s2 s3
    obtain ⟨i, v1, v2, v3, hi, rfl, hnd⟩ := hrel
    have n2 := hnd.bx.cell 3 2 rfl rfl
    have s1 := hnd.bx.cell 2 1 rfl rfl
    by_cases hlt : i < kn
    · have hil : (i : Int) < (kn : Int) := by omega
      have h0i : (0 : Int) ≤ (i : Int) := by omega
      have hwi : IntKind.i64.wrap ((i : Int) + 1) = (i : Int) + 1 := IntWalk.i64_in _ (by omega)
      have HND := Lib.hid hnd
      clear hnd
      go_upto_region 16 with (fail)
      go_cut [90] (fun s90 wx => s90 = .bool (decide (i = q ∧ kind = 2)) ∧ wr = wx)
      case first =>
        by_cases hiq : i = q
        · have c1 : ((i : Int) == (q : Int)) = true := by simp [hiq]
          have c2 : decide ((i : Int) = (q : Int)) = true := by simp [hiq]
          by_cases hkq : kind = 2
          · have c3 : (kind == 2) = true := by simp [hkq]
            have c5 := Lib.hid hkq
            have c6 := Lib.hid hiq
            clear hiq hkq
            go_wp2_with fail
            go_meet
            exact ⟨by simp [c5.out, c6.out], rfl⟩
          · have c3 : (kind == 2) = false := by simp [hkq]
            have c5 := Lib.hid hkq
            clear hiq hkq
            go_wp2_with fail
            go_meet
            exact ⟨by simp [c5.out], rfl⟩
        · have c1 : ((i : Int) == (q : Int)) = false := by simp; omega
          have c2 : decide ((i : Int) = (q : Int)) = false := by simp; omega
          have c6 := Lib.hid hiq
          clear hiq
          go_wp2_with fail
          go_meet
          exact ⟨by simp [c6.out], rfl⟩
      case rest =>
      obtain ⟨rfl, rfl⟩ := hcut
      obtain ⟨b2, hb2⟩ : ∃ b, decide (i = q ∧ kind = 2) = b := ⟨_, rfl⟩
      have Hb2 := Lib.hid hb2
      rw [hb2]
      clear hb2
      go_upto_if 90 with (fail)
      go_cut [10] (fun s10 wx => s10 = .int .i64 (tm1 kind q i : Nat) ∧ wr = wx)
      case first =>
        cases b2 with
        | true =>
          have hm1 : tm1 kind q i = 0 := by unfold tm1; rw [if_pos (of_decide_eq_true Hb2.out)]
          have HM1 := Lib.hid hm1
          clear hm1
          go_wp2_with fail
          go_meet
          exact ⟨by rw [HM1.out]; rfl, rfl⟩
        | false =>
          have hm1 : tm1 kind q i = 1 := by unfold tm1; rw [if_neg (of_decide_eq_false Hb2.out)]
          have HM1 := Lib.hid hm1
          clear hm1
          go_wp2_with fail
          go_meet
          exact ⟨by rw [HM1.out]; rfl, rfl⟩
      case rest =>
      obtain ⟨rfl, rfl⟩ := hcut
      have s1 := HND.out.bx.cell 2 1 rfl rfl
      have n2 := HND.out.bx.cell 3 2 rfl rfl
      go_upto_region 18 with (fail)
      go_cut [98] (fun s98 wx => s98 = .bool (decide (i = q ∧ kind = 3)) ∧ wr = wx)
      case first =>
        by_cases hiq : i = q
        · have c1 : ((i : Int) == (q : Int)) = true := by simp [hiq]
          have c2 : decide ((i : Int) = (q : Int)) = true := by simp [hiq]
          by_cases hkq : kind = 3
          · have c3 : (kind == 3) = true := by simp [hkq]
            have c5 := Lib.hid hkq
            have c6 := Lib.hid hiq
            clear hiq hkq
            go_wp2_with fail
            go_meet
            exact ⟨by simp [c5.out, c6.out], rfl⟩
          · have c3 : (kind == 3) = false := by simp [hkq]
            have c5 := Lib.hid hkq
            clear hiq hkq
            go_wp2_with fail
            go_meet
            exact ⟨by simp [c5.out], rfl⟩
        · have c1 : ((i : Int) == (q : Int)) = false := by simp; omega
          have c2 : decide ((i : Int) = (q : Int)) = false := by simp; omega
          have c6 := Lib.hid hiq
          clear hiq
          go_wp2_with fail
          go_meet
          exact ⟨by simp [c6.out], rfl⟩
      case rest =>
      obtain ⟨rfl, rfl⟩ := hcut
      obtain ⟨b3, hb3⟩ : ∃ b, decide (i = q ∧ kind = 3) = b := ⟨_, rfl⟩
      have Hb3 := Lib.hid hb3
      rw [hb3]
      clear hb3
      go_upto_if 98 with (fail)
      go_cut [10] (fun s10 wx => s10 = .int .i64 (tmsF kind q i : Nat) ∧ wr = wx)
      case first =>
        have htm := tms_of b3 Hb3.out
        cases b3 with
        | true =>
          have HM1 := Lib.hid htm
          clear htm
          go_wp2_with fail
          go_meet
          exact ⟨by rw [HM1.out]; rfl, rfl⟩
        | false =>
          have HM1 := Lib.hid htm
          clear htm
          go_wp2_with fail
          go_meet
          exact ⟨by rw [HM1.out]; rfl, rfl⟩
      case rest =>
      obtain ⟨rfl, rfl⟩ := hcut
      have s1 := HND.out.bx.cell 2 1 rfl rfl
      have n2 := HND.out.bx.cell 3 2 rfl rfl
      obtain ⟨tm, htm⟩ : ∃ tm, tmsF kind q i = tm := ⟨_, rfl⟩
      have htm2 : tm ≤ 2 := by rw [← htm]; exact tms_le kind q i
      rw [htm]
      have HTM := Lib.hid htm
      clear htm
      have hnd := HND.out
      have hcv : ∃ cv, l[i]? = some cv := ⟨l[i]'(by have := HKN.out; omega), List.getElem?_eq_getElem (by have := HKN.out; omega)⟩
      obtain ⟨⟨ck, cv⟩, hcv⟩ := hcv
      obtain ⟨e9, he9⟩ : ∃ e, spK kind key q i (ck, cv) = e := ⟨_, rfl⟩
      obtain ⟨ek, ev⟩ := e9
      have hsp := spTo_succ (tmsF kind q) (spK kind key q) hcv
      rw [HTM.out, he9] at hsp
      obtain ⟨A, hA⟩ : ∃ A, spTo (tmsF kind q) (spK kind key q) l i = A := ⟨_, rfl⟩
      rw [hA] at hnd hsp
      have hAl : A.length ≤ 200 := by
        rw [← hA]
        have := spTo_len kind q (spK kind key q) l i
        split at this <;> omega
      have HSP := Lib.hid hsp
      have HCV := Lib.hid hcv
      have HE9 := Lib.hid he9
      have HND2 : Hid (NdAt F n w W0.heap.size (W0.heap.size + 1) [(w.heap.size + 1 + 1, [.int .i64 0, .bool false, .slice none 0 0, .slice none 0 0, .slice none 0 0]), (w.heap.size + 1, [.slice wa 0 wk, .int .i64 kind, .int .u8 (a : Int), .string (strOf key)]), (w.heap.size, [.int .i64 p, .bool false, .slice ka kn kc, .slice va 0 vc, .slice ca kn cc])] p false v1 v2 v3 (keysOf (A ++ List.replicate 0 (ek, ev))) [] ((A ++ List.replicate 0 (ek, ev)).map (·.2)) wr) := Lib.hid (by simpa using hnd)
      clear hnd hcv he9 hsp hA HND s1 n2
      go_wp2_with fail
      go_loopw [11] (fun s11 wx => ∃ (t : Nat) (v1 v2 v3 : Value), t ≤ tm ∧ s11 = .int .i64 t ∧ NdAt F n w W0.heap.size (W0.heap.size + 1) [(w.heap.size + 1 + 1, [.int .i64 0, .bool false, .slice none 0 0, .slice none 0 0, .slice none 0 0]), (w.heap.size + 1, [.slice wa 0 wk, .int .i64 kind, .int .u8 (a : Int), .string (strOf key)]), (w.heap.size, [.int .i64 p, .bool false, .slice ka kn kc, .slice va 0 vc, .slice ca kn cc])] p false v1 v2 v3 (keysOf (A ++ List.replicate t (ek, ev))) [] ((A ++ List.replicate t (ek, ev)).map (·.2)) wx) (fun s _ => tm - (intOf s).toNat)
      case atStart => exact ⟨0, _, _, _, Nat.zero_le _, rfl, HND2.out⟩
      case round =>
        clear HND2
        rename_i wr0 _ _ _
        obtain ⟨t, v1, v2, v3, ht, rfl, hnd⟩ := hrel
        by_cases htt : t < tm
        · have ht' : (t : Int) < (tm : Int) := by omega
          have hwt : IntKind.i64.wrap ((t : Int) + 1) = (t : Int) + 1 := IntWalk.i64_in _ (by omega)
          have hbw := hnd.bel
          have n1 := hnd.bx.cell 3 1 rfl rfl
          have n2 := hnd.bx.cell 3 2 rfl rfl
          have n4 := hnd.bx.cell 3 4 rfl rfl
          have s1 := hnd.bx.cell 2 1 rfl rfl
          have s3 := hnd.bx.cell 2 3 rfl rfl
          obtain ⟨bk, ok, rfl, hbk9, hck⟩ := HH1.out.at hlt
          have k0 := (hbw.cell (p := ⟨bk, ok + i, none⟩) hbk9).trans hck
          rw [show (keysOf l)[i]?.getD [] = ck by simp [keysOf, HCV.out]] at k0
          obtain ⟨bv, ov, tv, tcs, rfl, hbv, hyv, _, hkid, hcvs⟩ := TabR.at HV.out hlt
          obtain rfl : tv = cv := by
            rw [List.getElem?_map, HCV.out] at hyv
            exact (Option.some.inj hyv).symm
          obtain ⟨y1, y2, y3, y4, y5, y6, y7, y8, _, _, ey, _⟩ := NodeOn.open_pos hkid
          subst ey
          have HKID := Lib.hid hkid
          have HCVS := Lib.hid hcvs
          have hlk : (keysOf (A ++ List.replicate t (ek, ev))).length = A.length + t := by simp [keysOf]
          have hlv : ((A ++ List.replicate t (ek, ev)).map (·.2)).length = A.length + t := by simp
          obtain ⟨a1, k1, a2, k2, a3, k3, rfl, rfl, rfl⟩ := hnd.rows.sl
          rw [hlk, hlv] at hnd
          have hl0 : ([] : List Tv).length = 0 := rfl
          rw [hl0] at hnd
          obtain ⟨m1, hm1⟩ : ∃ m1, A.length + t = m1 := ⟨_, rfl⟩
          rw [hm1] at hnd hlk hlv
          have hm9 : m1 ≤ 1000 := by omega
          have HND := Lib.hid hnd
          have HLV := Lib.hid hlv
          have HLK := Lib.hid hlk
          have hbk8 := Nat.lt_of_lt_of_le hbk9 hbw.size
          have hbv8 := Nat.lt_of_lt_of_le hbv hbw.size
          clear hnd hck hyv hkid hcvs hbw hm1 hlk hlv
          go_upto_region 24 with (fail)
          go_cut [116] (fun s116 wx => s116 = .bool (decide (i = q ∧ kind = 0)) ∧ wr = wx)
          case first =>
            by_cases hiq : i = q
            · have c1 : ((i : Int) == (q : Int)) = true := by simp [hiq]
              have c2 : decide ((i : Int) = (q : Int)) = true := by simp [hiq]
              by_cases hkq : kind = 0
              · have c3 : (kind == 0) = true := by simp [hkq]
                have c5 := Lib.hid hkq
                have c6 := Lib.hid hiq
                clear hiq hkq
                go_wp2_with fail
                go_meet
                exact ⟨by simp [c5.out, c6.out], rfl⟩
              · have c3 : (kind == 0) = false := by simp [hkq]
                have c5 := Lib.hid hkq
                clear hiq hkq
                go_wp2_with fail
                go_meet
                exact ⟨by simp [c5.out], rfl⟩
            · have c1 : ((i : Int) == (q : Int)) = false := by simp; omega
              have c2 : decide ((i : Int) = (q : Int)) = false := by simp; omega
              have c6 := Lib.hid hiq
              clear hiq
              go_wp2_with fail
              go_meet
              exact ⟨by simp [c6.out], rfl⟩
          case rest =>
          obtain ⟨rfl, rfl⟩ := hcut
          obtain ⟨b0, hb0⟩ : ∃ b, decide (i = q ∧ kind = 0) = b := ⟨_, rfl⟩
          have Hb0 := Lib.hid hb0
          rw [hb0]
          clear hb0
          go_upto_if 116 with (fail)
          go_cut [12] (fun s12 wx => s12 = .string (strOf ek) ∧ wr = wx)
          case first =>
            have hek := spK_key HE9.out b0 Hb0.out
            have HEK := Lib.hid hek
            clear hek
            cases b0 with
            | true =>
              go_wp2_with fail
              go_meet
              exact ⟨by rw [HEK.out]; rfl, rfl⟩
            | false =>
              go_wp2_with fail
              go_meet
              exact ⟨by rw [HEK.out]; rfl, rfl⟩
          case rest =>
          obtain ⟨rfl, rfl⟩ := hcut
          have hnd := HND.out
          have hbo := hnd.bx.lt 0 rfl
          obtain ⟨a', c', w', hrun1, _, f8, f9, _, hndP⟩ := hnd.pushK n HL.out (by omega) (by rw [HLK.out]; exact hm9) ek
          rw [HLK.out] at hrun1 hndP
          have o2 := hnd.bx.cell 0 2 rfl rfl
          have HP := Lib.hid hndP
          clear hnd hndP s1 s3 k0 n1 n2 n4
          go_upto_region 27 with (at_builtin; refine wpList_append_run rfl _ _ _ _ rfl rfl rfl hrun1 ?_)
          obtain ⟨wz, hwz⟩ : ∃ x, x = (w'.setCell ⟨W0.heap.size, 2, none⟩ (.slice a' (m1 + 1) c')) := ⟨_, rfl⟩
          rw [← hwz] at HP ⊢
          clear hwz f8 f9 o2 hrun1
          have hbz := HP.out.bel
          have n1 := HP.out.bx.cell 3 1 rfl rfl
          have n4 := HP.out.bx.cell 3 4 rfl rfl
          have hboz := HP.out.bx.lt 0 rfl
          have d0 := (hbz.cell (p := ⟨bv, ov + i * 5, none⟩) hbv).trans (HCVS.out 0 _ rfl)
          have d1 := (hbz.cell (p := ⟨bv, ov + i * 5 + 1, none⟩) hbv).trans (HCVS.out 1 _ rfl)
          have d2 := (hbz.cell (p := ⟨bv, ov + i * 5 + 2, none⟩) hbv).trans (HCVS.out 2 _ rfl)
          have d3 := (hbz.cell (p := ⟨bv, ov + i * 5 + 3, none⟩) hbv).trans (HCVS.out 3 _ rfl)
          have d4 := (hbz.cell (p := ⟨bv, ov + i * 5 + 4, none⟩) hbv).trans (HCVS.out 4 _ rfl)
          clear hbz
          go_upto_region 33 with (fail)
          obtain ⟨wy, hwy⟩ : ∃ x, x = wz.alloc (.cells #[.int .i64 tv.page, .bool tv.isLeaf, .slice y1 (cntT tv) y2, .slice y3 y4 y5, .slice y6 y7 y8] 33) := ⟨_, rfl⟩
          rw [← hwy]
          have hby : Below wz.heap.size wz wy := by rw [hwy]; exact Below.al (Below.refl _ _)
          have HV9 : Hid (Boxes wy [(wz.heap.size, [.int .i64 tv.page, .bool tv.isLeaf, .slice y1 (cntT tv) y2, .slice y3 y4 y5, .slice y6 y7 y8])]) := Lib.hid (by rw [hwy]; exact (Boxes.nil wz).alloc #[.int .i64 tv.page, .bool tv.isLeaf, .slice y1 (cntT tv) y2, .slice y3 y4 y5, .slice y6 y7 y8] 33 rfl)
          have HQ := Lib.hid (HP.out.below hby)
          have s1 := HQ.out.bx.cell 2 1 rfl rfl
          have HDM : Hid (∀ (W : World), Below wz.heap.size wz W → NodeOn F n W [.int .i64 tv.page, .bool tv.isLeaf, .slice y1 (cntT tv) y2, .slice y3 y4 y5, .slice y6 y7 y8] tv) := Lib.hid (fun W hW => HKID.out.below (HP.out.bel.trans (hW.mono HP.out.bel.size)))
          clear hwy n1 n4 d0 d1 d2 d3 d4
          go_cut [164] (fun s164 wx => s164 = .bool (decide (i = q ∧ kind = 4)) ∧ wy = wx)
          case first =>
            by_cases hiq : i = q
            · have c1 : ((i : Int) == (q : Int)) = true := by simp [hiq]
              have c2 : decide ((i : Int) = (q : Int)) = true := by simp [hiq]
              by_cases hkq : kind = 4
              · have c3 : (kind == 4) = true := by simp [hkq]
                have c5 := Lib.hid hkq
                have c6 := Lib.hid hiq
                clear hiq hkq
                go_wp2_with fail
                go_meet
                exact ⟨by simp [c5.out, c6.out], rfl⟩
              · have c3 : (kind == 4) = false := by simp [hkq]
                have c5 := Lib.hid hkq
                clear hiq hkq
                go_wp2_with fail
                go_meet
                exact ⟨by simp [c5.out], rfl⟩
            · have c1 : ((i : Int) == (q : Int)) = false := by simp; omega
              have c2 : decide ((i : Int) = (q : Int)) = false := by simp; omega
              have c6 := Lib.hid hiq
              clear hiq
              go_wp2_with fail
              go_meet
              exact ⟨by simp [c6.out], rfl⟩
          case rest =>
          obtain ⟨rfl, rfl⟩ := hcut
          obtain ⟨b1, hb1⟩ : ∃ b, decide (i = q ∧ kind = 4) = b := ⟨_, rfl⟩
          have Hb1 := Lib.hid hb1
          rw [hb1]
          clear hb1
          have hev := spK_kid HE9.out b1 Hb1.out
          have HEV := Lib.hid hev
          clear hev s1
          cases b1 with
          | true =>
            have hst := HEV.out
            simp only [if_true] at hst
            subst hst
            have CE := fun W => tempty_any W (fun _ => False)
            go_wp2_with fail
            refine (CE _).mono ?_
            rintro e w2 ⟨ecs, rfl, hn2, hb2⟩
            have CP := tPut_whole hn2 whole_empty [109] ownData ⟨by decide, by decide⟩ (by decide)
            have HB2 := Lib.hid hb2
            clear CE hn2 hb2
            go_wp2_with fail
            refine CP.mono ?_
            rintro e w3 ⟨m9, kcs, _, rfl, hn3, _, _, hb3⟩
            rw [ownKid_put] at hn3
            obtain ⟨g1, g2, g3, g4, g5, g6, g7, g8, _, _, ey9, _⟩ := NodeOn.open_pos hn3
            subst ey9
            have hb23 := below_via HB2.out hb3
            have hv3 := HV9.out.step hb23
            have yc0 := hv3.cell 0 0 rfl rfl
            have yc1 := hv3.cell 0 1 rfl rfl
            have yc2 := hv3.cell 0 2 rfl rfl
            have yc3 := hv3.cell 0 3 rfl rfl
            have yc4 := hv3.cell 0 4 rfl rfl
            have yf0 := hv3.frozen 0 0 rfl
            have yf1 := hv3.frozen 0 1 rfl
            have yf2 := hv3.frozen 0 2 rfl
            have yf3 := hv3.frozen 0 3 rfl
            have yf4 := hv3.frozen 0 4 rfl
            have hbz3 := below_via hby hb23
            have HBZ := Lib.hid hbz3
            have HV3 := Lib.hid hv3
            have HN3 := Lib.hid hn3
            have hlz := HV9.out.lt 0 rfl
            have hl2 := HB2.out.size
            clear CP hn3 hb3 hb23 hv3 hbz3
            go_upto_region 35 with (fail)
            obtain ⟨wv, hwv⟩ : ∃ x, x = set5 w3 wz.heap.size (.int .i64 ownKid.page) (.bool ownKid.isLeaf) (.slice g1 (cntT ownKid) g2) (.slice g3 g4 g5) (.slice g6 g7 g8) := ⟨_, rfl⟩
            unfold set5 at hwv
            rw [← hwv]
            have hbv9 : Below wz.heap.size wz wv := by rw [hwv]; exact set5_below HBZ.out (Nat.le_refl _) _ _ _ _ _
            have HX9 : Hid (Boxes wv [(wz.heap.size, [.int .i64 ownKid.page, .bool ownKid.isLeaf, .slice g1 (cntT ownKid) g2, .slice g3 g4 g5, .slice g6 g7 g8])]) := Lib.hid (by rw [hwv]; exact set5_box HV3.out (by simp) _ _ _ _ _)
            have hndv := HP.out.below hbv9
            have hn9 : ∃ n', n = n' + 1 := by
              cases n with
              | zero => exact (HDM.out wz (Below.refl _ _)).elim
              | succ n => exact ⟨n, rfl⟩
            have hkidG : NodeOn (G3 F (W0.heap.size + 1) (.slice a' (m1 + 1) c') (.slice a2 0 k2) (.slice a3 m1 k3)) n wv [.int .i64 ownKid.page, .bool ownKid.isLeaf, .slice g1 (cntT ownKid) g2, .slice g3 g4 g5, .slice g6 g7 g8] ownKid := by
              obtain ⟨n', e9⟩ := hn9
              rw [e9]
              refine ownKid_deep (m := m9) ?_
              rw [hwv]
              refine NodeOn.mono (fun b hf => ?_) (HN3.out.agree (agree_set5 (fun hf => by
                rcases hf with hf | hf
                · rcases hf with hf | hf
                  · exact hf
                  · omega
                · omega) _ _ _ _ _))
              have hb9 : wy.heap.size ≤ b := by
                rcases hf with hf | hf
                · rcases hf with hf | hf
                  · exact hf.elim
                  · exact hf
                · omega
              exact ⟨.inr (by omega), fun e => by have := (HP.out.rows.k.lt e).2; omega, fun e => by have := (HP.out.rows.v.lt e).2; omega, fun e => by have := (HP.out.rows.c.lt e).2; omega⟩
            clear hwv HV9 HQ HV3 HN3 HBZ yc0 yc1 yc2 yc3 yc4 yf0 yf1 yf2 yf3 yf4 hn9
            have hbo9 := hndv.bx.lt 0 rfl
            obtain ⟨a9, c9, w9, hrun2, _, q8, q9, _, hndQ⟩ := hndv.pushC n HL.out (by omega) (by rw [HLV.out]; exact hm9) hkidG
            rw [HLV.out] at hrun2 hndQ
            have o4 := hndv.bx.cell 0 4 rfl rfl
            have x0 := HX9.out.cell 0 0 rfl rfl
            have x1 := HX9.out.cell 0 1 rfl rfl
            have x2 := HX9.out.cell 0 2 rfl rfl
            have x3 := HX9.out.cell 0 3 rfl rfl
            have x4 := HX9.out.cell 0 4 rfl rfl
            have hk9 : keysOf (A ++ List.replicate t (ek, ownKid)) ++ [ek] = keysOf (A ++ List.replicate (t + 1) (ek, ownKid)) := (rep_keys A t (ek, ownKid)).symm
            have hv9 : (A ++ List.replicate t (ek, ownKid)).map (·.2) ++ [ownKid] = (A ++ List.replicate (t + 1) (ek, ownKid)).map (·.2) := (rep_vals A t (ek, ownKid)).symm
            rw [hk9, hv9] at hndQ
            clear hk9 hv9
            have HZ := Lib.hid hndQ
            clear hndv hndQ hkidG HP HX9
            go_wp2_with (at_builtin; refine wpList_append_run rfl _ _ _ _ rfl rfl rfl hrun2 ?_)
            go_roundw
            case rel => exact ⟨t + 1, _, _, _, htt, by go_num, HZ.out⟩
            case measure => simp [intOf]; omega
          | false =>
            have hst := HEV.out
            simp only [Bool.false_eq_true, if_false] at hst
            subst hst
            obtain ⟨wv, hwv⟩ : ∃ x, x = wy := ⟨_, rfl⟩
            rw [← hwv]
            have hbv9 : Below wz.heap.size wz wv := by rw [hwv]; exact hby
            have HX9 : Hid (Boxes wv [(wz.heap.size, [.int .i64 ev.page, .bool ev.isLeaf, .slice y1 (cntT ev) y2, .slice y3 y4 y5, .slice y6 y7 y8])]) := Lib.hid (by rw [hwv]; exact HV9.out)
            have hndv := HP.out.below hbv9
            have hkidG : NodeOn (G3 F (W0.heap.size + 1) (.slice a' (m1 + 1) c') (.slice a2 0 k2) (.slice a3 m1 k3)) n wv [.int .i64 ev.page, .bool ev.isLeaf, .slice y1 (cntT ev) y2, .slice y3 y4 y5, .slice y6 y7 y8] ev := NodeOn.mono (fun b hf => by
              have := hF b hf
              have hs := HS0.out
              exact ⟨.inl hf, fun e => by have := (hndv.rows.k.lt e).1; omega, fun e => by have := (hndv.rows.v.lt e).1; omega, fun e => by have := (hndv.rows.c.lt e).1; omega⟩) (HDM.out wv hbv9)
            clear hwv HV9 HQ
            have hbo9 := hndv.bx.lt 0 rfl
            obtain ⟨a9, c9, w9, hrun2, _, q8, q9, _, hndQ⟩ := hndv.pushC n HL.out (by omega) (by rw [HLV.out]; exact hm9) hkidG
            rw [HLV.out] at hrun2 hndQ
            have o4 := hndv.bx.cell 0 4 rfl rfl
            have x0 := HX9.out.cell 0 0 rfl rfl
            have x1 := HX9.out.cell 0 1 rfl rfl
            have x2 := HX9.out.cell 0 2 rfl rfl
            have x3 := HX9.out.cell 0 3 rfl rfl
            have x4 := HX9.out.cell 0 4 rfl rfl
            have hk9 : keysOf (A ++ List.replicate t (ek, ev)) ++ [ek] = keysOf (A ++ List.replicate (t + 1) (ek, ev)) := (rep_keys A t (ek, ev)).symm
            have hv9 : (A ++ List.replicate t (ek, ev)).map (·.2) ++ [ev] = (A ++ List.replicate (t + 1) (ek, ev)).map (·.2) := (rep_vals A t (ek, ev)).symm
            rw [hk9, hv9] at hndQ
            clear hk9 hv9
            have HZ := Lib.hid hndQ
            clear hndv hndQ hkidG HP HX9
            go_wp2_with (at_builtin; refine wpList_append_run rfl _ _ _ _ rfl rfl rfl hrun2 ?_)
            go_roundw
            case rel => exact ⟨t + 1, _, _, _, htt, by go_num, HZ.out⟩
            case measure => simp [intOf]; omega
        · obtain rfl : t = tm := by omega
          have ht' : decide ((t : Int) < (t : Int)) = false := by simp
          rw [← HSP.out] at hnd
          have HND := Lib.hid hnd
          clear hnd
          go_wp2_with fail
          go_roundw
          case rel => exact ⟨i + 1, _, _, _, hlt, by go_num, HND.out⟩
          case measure => simp [intOf]; omega
    · obtain rfl : kn = i := by omega
      have hil : decide ((kn : Int) < (kn : Int)) = false := by simp
      obtain ⟨Z, hZ⟩ : ∃ Z, spTo (tmsF kind q) (spK kind key q) l kn = Z := ⟨_, rfl⟩
      have hT := HT9.out
      rw [hZ] at hnd hT
      obtain ⟨a1, k1, a2, k2, a3, k3, rfl, rfl, rfl⟩ := hnd.rows.sl
      have hl0 : ([] : List Tv).length = 0 := rfl
      rw [hl0] at hnd
      obtain ⟨m1, hm1⟩ : ∃ m1, (keysOf Z).length = m1 := ⟨_, rfl⟩
      obtain ⟨m2, hm2⟩ : ∃ m2, (Z.map (·.2)).length = m2 := ⟨_, rfl⟩
      rw [hm1, hm2] at hnd
      have s2 := hnd.bx.cell 2 2 rfl rfl
      clear hm1 hm2 hZ
      by_cases h5 : kind = 5
      · have hT8 : T9 = .node (a : Int) Z := by rw [← hT, if_pos h5]
        have h51 : (kind == 5) = true := by simp [h5]
        have HND := Lib.hid hnd
        have p0 := hnd.bx.cell 0 0 rfl rfl
        have pf := hnd.bx.frozen 0 0 rfl
        clear hT hnd h5
        go_upto_region 38 with (fail)
        obtain ⟨wq, hwq⟩ : ∃ x, x = wr.setCell ⟨W0.heap.size, 0, none⟩ (.int .i64 (a : Int)) := ⟨_, rfl⟩
        rw [← hwq]
        have hbq : Boxes wq ((W0.heap.size, [.int .i64 (a : Int), .bool false, .slice a1 m1 k1, .slice a2 0 k2, .slice a3 m2 k3]) :: [(w.heap.size + 1 + 1, [.int .i64 0, .bool false, .slice none 0 0, .slice none 0 0, .slice none 0 0]), (w.heap.size + 1, [.slice wa 0 wk, .int .i64 kind, .int .u8 (a : Int), .string (strOf key)]), (w.heap.size, [.int .i64 p, .bool false, .slice ka kn kc, .slice va 0 vc, .slice ca kn cc])]) := by
          rw [hwq]; exact HND.out.bx.put 0 _ (fun x hx => (HL.out.2.2.1 x hx).2)
        have hbelq : Below w.heap.size w wq := by rw [hwq]; exact HND.out.bel.setCell HL.out.1 _
        have hrq : NodeOn (fun x => F x ∨ W0.heap.size + 1 ≤ x) (n + 1) wq [.int .i64 (a : Int), .bool false, .slice a1 m1 k1, .slice a2 0 k2, .slice a3 m2 k3] (.node (a : Int) Z) := by
          rw [hwq]
          exact (HND.out.rows.set (by show W0.heap.size < _; omega) (fun hf => by have := hF _ hf; have := HL.out.1; simp at *; omega)).node (fun b hb => hb)
        clear hwq HND p0 pf n2 s1 s2
        have o0 := hbq.cell 0 0 rfl rfl
        have o1 := hbq.cell 0 1 rfl rfl
        have o2 := hbq.cell 0 2 rfl rfl
        have o3 := hbq.cell 0 3 rfl rfl
        have o4 := hbq.cell 0 4 rfl rfl
        have u0 := hbq.frozen 1 0 rfl
        have u1 := hbq.frozen 1 1 rfl
        have u2 := hbq.frozen 1 2 rfl
        have u3 := hbq.frozen 1 3 rfl
        have u4 := hbq.frozen 1 4 rfl
        have z0 := hbq.cell 1 0 rfl rfl
        have z1 := hbq.cell 1 1 rfl rfl
        have z2 := hbq.cell 1 2 rfl rfl
        have z3 := hbq.cell 1 3 rfl rfl
        have z4 := hbq.cell 1 4 rfl rfl
        obtain ⟨hxe, hne⟩ := sp_end (F := F) (G := fun x => F x ∨ W0.heap.size + 1 ≤ x) (b := w.heap.size + 1 + 1) hbelq (hbq.sub (m := [(w.heap.size + 1 + 1, [.int .i64 0, .bool false, .slice none 0 0, .slice none 0 0, .slice none 0 0])]) (by simp)) (by omega) (by simp) (fun hf => by
          rcases hf with hf | hf
          · have := hF _ hf; omega
          · have := HS0.out; omega) (fun x hx => by
          rcases hx with hx | hx
          · exact .inl hx
          · exact .inr (by have := HS0.out; omega)) hrq
        have HG := Lib.hid hxe
        have HE := Lib.hid hne
        clear hbq hbelq hrq hxe hne
        go_wp2_with fail
        refine bodyPost_ret (v := .agg #[.int .i64 (a : Int), .bool false, .slice a1 m1 k1, .slice a2 0 k2, .slice a3 m2 k3]) (by
          have g0 := HG.out.cell 0 0 rfl rfl
          have g1 := HG.out.cell 0 1 rfl rfl
          have g2 := HG.out.cell 0 2 rfl rfl
          have g3 := HG.out.cell 0 3 rfl rfl
          have g4 := HG.out.cell 0 4 rfl rfl
          unfold set5 at g0 g1 g2 g3 g4
          simp only [results, Try.results40]; simp [go_sem, g0, g1, g2, g3, g4]) rfl (by rw [hT8]; exact HE.out)
      · have hT8 : T9 = .node p Z := by rw [← hT, if_neg h5]
        have h51 : (kind == 5) = false := by simp [h5]
        have hbq := hnd.bx
        have hbelq := hnd.bel
        have hrq : NodeOn (fun x => F x ∨ W0.heap.size + 1 ≤ x) (n + 1) wr [.int .i64 p, .bool false, .slice a1 m1 k1, .slice a2 0 k2, .slice a3 m2 k3] (.node p Z) := hnd.rows.node (fun b hb => hb)
        clear hT hnd h5 s2
        have o0 := hbq.cell 0 0 rfl rfl
        have o1 := hbq.cell 0 1 rfl rfl
        have o2 := hbq.cell 0 2 rfl rfl
        have o3 := hbq.cell 0 3 rfl rfl
        have o4 := hbq.cell 0 4 rfl rfl
        have u0 := hbq.frozen 1 0 rfl
        have u1 := hbq.frozen 1 1 rfl
        have u2 := hbq.frozen 1 2 rfl
        have u3 := hbq.frozen 1 3 rfl
        have u4 := hbq.frozen 1 4 rfl
        have z0 := hbq.cell 1 0 rfl rfl
        have z1 := hbq.cell 1 1 rfl rfl
        have z2 := hbq.cell 1 2 rfl rfl
        have z3 := hbq.cell 1 3 rfl rfl
        have z4 := hbq.cell 1 4 rfl rfl
        obtain ⟨hxe, hne⟩ := sp_end (F := F) (G := fun x => F x ∨ W0.heap.size + 1 ≤ x) (b := w.heap.size + 1 + 1) hbelq (hbq.sub (m := [(w.heap.size + 1 + 1, [.int .i64 0, .bool false, .slice none 0 0, .slice none 0 0, .slice none 0 0])]) (by simp)) (by omega) (by simp) (fun hf => by
          rcases hf with hf | hf
          · have := hF _ hf; omega
          · have := HS0.out; omega) (fun x hx => by
          rcases hx with hx | hx
          · exact .inl hx
          · exact .inr (by have := HS0.out; omega)) hrq
        have HG := Lib.hid hxe
        have HE := Lib.hid hne
        clear hbq hbelq hrq hxe hne
        go_wp2_with fail
        refine bodyPost_ret (v := .agg #[.int .i64 p, .bool false, .slice a1 m1 k1, .slice a2 0 k2, .slice a3 m2 k3]) (by
          have g0 := HG.out.cell 0 0 rfl rfl
          have g1 := HG.out.cell 0 1 rfl rfl
          have g2 := HG.out.cell 0 2 rfl rfl
          have g3 := HG.out.cell 0 3 rfl rfl
          have g4 := HG.out.cell 0 4 rfl rfl
          unfold set5 at g0 g1 g2 g3 g4
          simp only [results, Try.results40]; simp [go_sem, g0, g1, g2, g3, g4]) rfl (by rw [hT8]; exact HE.out)
end Go.Proofs.Ytemfnjlfcemehaa
