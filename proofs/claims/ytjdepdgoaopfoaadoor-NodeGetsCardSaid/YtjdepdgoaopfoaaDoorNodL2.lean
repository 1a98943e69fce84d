/- The laws of the chapter on nodes: what is got is the document's. -/
import Derived.Test.YtjdepdgoaopfoaaDoorNodL1
import Derived.Test.YtjdepdgoaopfoaaDoorOpenS
import Derived.Test.YtjdepdgoaopfoaaDoorCelG
namespace Go.Proofs.YtjdepdgoaopfoaaDoor
open Go.RowKit

theorem getNL_len (b : List UInt8) : (getNL b).length ≤ 122 := by
  unfold getNL
  split
  · cases h : entN b with
    | none => simp
    | some l =>
      have := decL_length h
      have h2 := unp_many b
      simp only [Option.getD_some]; omega
  · simp
theorem sameB_self (f : Bool) (l : List En) : sameB f f l l = true := by simp [sameB]
theorem StrsW.below {w w' : World} {a : Option Addr} {len cap : Nat} {l : List (List UInt8)} {B : Nat} (hB : w.heap.size ≤ B) (hb : Below B w w') (h : StrsW w a len cap l) : StrsW w' a len cap l := ⟨h.1.below hB hb, h.2⟩
theorem packV_len (kind : UInt8) (l : List (List UInt8)) (h : packE kind l = 0) : (packV kind l).length ≤ 140737488351232 := by
  have hf := fits_of kind l h
  rw [packV, if_pos hf, pageOf_length kind l (by simp only [fits, Bool.and_eq_true, decide_eq_true_eq] at hf; exact hf.2)]
  decide
set_option maxRecDepth 100000 in
set_option maxHeartbeats 16000000 in
theorem lGets (a : Option Addr) (n cap : Nat) (b : List UInt8) (kind : UInt8) (a2 : Option Addr) (len c2 : Nat) (l : List (List UInt8)) (w : World) (h : Bs w a n cap b) (hl : StrsW w a2 len c2 l) (hh : Half w) :
    Calls Tryd.prog 9 #[.slice a n cap, .int .u8 (kind.toNat : Int), .slice a2 len c2] w fun e w' => e = .returned (.bool true) ∧ Below w.heap.size w w' := by
  have AW := nawake_any w hh
  have hbl := h.len
  by_cases hn : n ≤ 300
  · by_cases hk : len ≤ 60
    · have g1 : decide ((300 : Int) < (n : Int)) = false := by simp; omega
      have g1n : decide (300 < n) = false := by simp; omega
      have g2 : decide ((60 : Int) < (len : Int)) = false := by simp; omega
      have g2n : decide (60 < len) = false := by simp; omega
      have PK : ∀ W, Below w.heap.size w W → Calls Tryd.prog 36 #[.int .u8 (kind.toNat : Int), .slice a2 len c2] W (StrPost W (packV kind l) (packE kind l)) := fun W hW => rpack_any kind a2 len c2 l W (hl.1.below (Nat.le_refl _) hW) (by have := hl.sum; omega)
      have NG : ∀ W a3 n3 c3 q, Below w.heap.size w W → Bs W a3 n3 c3 q → Calls Tryd.prog 37 #[.slice a3 n3 c3] W (GetNPost W (getNF q) (getNL q) (getNE q)) := fun W a3 n3 c3 q hW hq => nget_any a3 n3 c3 q W hq (hh.below (Nat.le_refl _) hW)
      have RG : ∀ W q, q.length ≤ 140737488351232 → Calls Tryd.prog 38 #[.string (strOf q)] W (RGetNPost W (getNF q) (getNL q) (getNE q)) := fun W q hq => rnget_any q W hq
      have PL : ∀ W f a3 n3 c3 m, Ents W a3 n3 c3 m → n3 ≤ 65536 → Calls Tryd.prog 27 #[.agg #[.bool f, .slice a3 n3 c3]] W (PlainPost W f m) := fun W f a3 n3 c3 m h3 h4 => nplain_any f a3 n3 c3 m W h3 h4
      have SA : ∀ W f a3 n3 c3 a4 n4 c4 m, Ents W a3 n3 c3 m → Ents W a4 n4 c4 m → n3 ≤ 65536 → Calls Tryd.prog 39 #[.agg #[.bool f, .slice a3 n3 c3], .agg #[.bool f, .slice a4 n4 c4]] W fun e w' => e = .returned (.bool true) ∧ Below W.heap.size W w' := fun W f a3 n3 c3 a4 n4 c4 m h3 h4 h5 => by
        have := nsame_any f f a3 a4 n3 c3 n4 c4 m m W h3 h4 h5
        rwa [sameB_self] at this
      have LB : (getNL b).length ≤ 65536 := by have := getNL_len b; omega
      have LP : (getNL (packV kind l)).length ≤ 65536 := by have := getNL_len (packV kind l); omega
      have HN := Lib.hid (show b.length ≤ 140737488351232 by omega)
      have HPN := Lib.hid (packV_len kind l)
      have HL := Lib.hid h
      generalize packV kind l = p at *
      generalize packE kind l = pe at *
      have HNG := Lib.hid NG
      have HRG := Lib.hid RG
      have HPL := Lib.hid PL
      have HSA := Lib.hid SA
      clear NG RG PL SA hbl hh hl h hk hn
      by_cases hpe : pe = 0
      · subst hpe
        have HQ := Lib.hid (HPN.out rfl)
        clear HPN
        go_enter Tryd.func9, Tryd.ntmps9
        go_wp2_with fail
        refine AW.mono ?_
        rintro e w1 ⟨rfl, hb⟩
        go_wp2_with fail
        refine (PK _ hb).mono ?_
        rintro e w2 ⟨rfl, hb2⟩
        have hb := below_then hb hb2
        clear PK AW hb2
        have hcv := fun W => str_bytes (P := Tryd.prog) W Tryd.underlying9 Tryd.underlying26 Tryd.underlying5 p HQ.out
        obtain ⟨c3, w3, hr3, hbs3, hb3⟩ := hcv w2
        go_wp2_with fail
        clear hcv hr3
        have hb := below_then hb hb3
        refine (HNG.out _ _ _ _ _ hb hbs3).mono ?_
        rintro e w4 ⟨v4, rfl, ho4, hb4⟩
        obtain ⟨a4, k4, rfl, hs4⟩ := ho4.ents
        clear hb3 hbs3
        obtain ⟨F1, hgf⟩ : ∃ f, getNF p = f := ⟨_, rfl⟩
        obtain ⟨L1, hgl⟩ : ∃ f, getNL p = f := ⟨_, rfl⟩
        obtain ⟨E1, hge⟩ : ∃ f, getNE p = f := ⟨_, rfl⟩
        rw [hgl] at LP
        rw [hgf, hgl, hge]
        rw [hgl] at hs4 ho4
        have HGF := Lib.hid hgf
        have HGL := Lib.hid hgl
        have HGE := Lib.hid hge
        clear hgf hgl hge
        have hx := below_one w4 (.cells #[.bool F1, .slice a4 (L1).length k4] 52)
        have BX := (Boxes.nil w4).alloc #[.bool F1, .slice a4 (L1).length k4] 52 rfl
        have hb := below_then (below_then hb hb4) hx
        have hs4 := hs4.below (Nat.le_refl _) hx
        clear ho4 hb4 hx
        go_wp2_with fail
        generalize w4.alloc _ = W4 at *
        generalize w4.heap.size = b4 at *
        have HG := HRG.out W4 p HQ.out
        rw [HGF.out, HGL.out, HGE.out] at HG
        refine HG.mono ?_
        rintro e w5 ⟨v5, rfl, ho5, hb5⟩
        obtain ⟨a5, k5, rfl, hs5⟩ := ho5.ents
        have hx5 := below_one w5 (.cells #[.bool F1, .slice a5 (L1).length k5] 56)
        have BX := ((BX.step hb5).alloc #[.bool F1, .slice a5 (L1).length k5] 56 rfl)
        have hb := below_then (below_then hb hb5) hx5
        have hs4 := (hs4.below (Nat.le_refl _) hb5).below (Nat.le_refl _) hx5
        have hs5 := hs5.below (Nat.le_refl _) hx5
        clear ho5 hb5 hx5 HG
        have hne : (E1 != E1) = false := by simp
        have hee : (E1 == E1) = true := by simp
        go_wp2_with fail
        generalize w5.alloc _ = W5 at *
        generalize w5.heap.size = b5 at *
        have c0 : ∀ W, Below W5.heap.size W5 W → W.cell? ⟨b5, 0, none⟩ = some (.bool F1) := fun W hW => (BX.step hW).cell 0 0 rfl rfl
        have c1 : ∀ W, Below W5.heap.size W5 W → W.cell? ⟨b5, 1, none⟩ = some (.slice a5 (L1).length k5) := fun W hW => (BX.step hW).cell 0 1 rfl rfl
        have c2 : ∀ W, Below W5.heap.size W5 W → W.cell? ⟨b4, 0, none⟩ = some (.bool F1) := fun W hW => (BX.step hW).cell 1 0 rfl rfl
        have c3 : ∀ W, Below W5.heap.size W5 W → W.cell? ⟨b4, 1, none⟩ = some (.slice a4 (L1).length k4) := fun W hW => (BX.step hW).cell 1 1 rfl rfl
        have hC : Below W5.heap.size W5 W5.drew := (Below.refl _ _).drew
        clear BX
        go_region_held3 (fun W => Below W5.heap.size W5 W) (first | with_reducible assumption) (first | (go_at_call 27; (with_reducible refine (HPL.out _ _ _ _ _ _ (hs4.below (Nat.le_refl _) hC) LP).mono ?_); rintro e w8 ⟨v8, rfl, ho8, hb8⟩; have hC8 := hC.trans (hb8.mono hC.size); obtain ⟨a8, k8, rfl, hs8⟩ := ho8.ents) | (go_at_call 39; (with_reducible refine (HSA.out _ _ _ _ _ _ _ _ _ hs8 (hs5.below (Nat.le_refl _) hC8) LP).mono ?_); rintro e w9 ⟨rfl, hb9⟩; have hC9 := hC8.trans (hb9.mono hC8.size)))
        have hb := below_then hb hC9
        go_wp2_with fail
        obtain ⟨wz, hwz⟩ : ∃ wz : World, wz = w9 := ⟨_, rfl⟩
        subst hwz
        have hbs3 := HL.out.below (Nat.le_refl _) hb
        refine (HNG.out _ _ _ _ _ hb hbs3).mono ?_
        rintro e w4 ⟨v4, rfl, ho4, hb4⟩
        obtain ⟨a4, k4, rfl, hs4⟩ := ho4.ents
        clear hbs3
        have hcvb : ∀ W, Below w.heap.size w W → (convert 26 9 (.slice a n cap)).run Tryd.prog W = .ok (.string (strOf b)) W := fun W hW => conv_string Tryd.underlying26 Tryd.underlying5 Tryd.underlying9 (HL.out.below (Nat.le_refl _) hW)
        have HCV := Lib.hid hcvb
        clear hcvb
        obtain ⟨F2, hgf⟩ : ∃ f, getNF b = f := ⟨_, rfl⟩
        obtain ⟨L2, hgl⟩ : ∃ f, getNL b = f := ⟨_, rfl⟩
        obtain ⟨E2, hge⟩ : ∃ f, getNE b = f := ⟨_, rfl⟩
        rw [hgl] at LB
        rw [hgf, hgl, hge]
        rw [hgl] at hs4 ho4
        have HGF := Lib.hid hgf
        have HGL := Lib.hid hgl
        have HGE := Lib.hid hge
        clear hgf hgl hge
        have hx := below_one w4 (.cells #[.bool F2, .slice a4 (L2).length k4] 52)
        have BX := (Boxes.nil w4).alloc #[.bool F2, .slice a4 (L2).length k4] 52 rfl
        have hb := below_then (below_then hb hb4) hx
        have hs4 := hs4.below (Nat.le_refl _) hx
        clear ho4 hb4 hx
        have hcv := HCV.out _ hb
        go_wp2_with fail
        generalize w4.alloc _ = W4 at *
        generalize w4.heap.size = b4 at *
        have HG := HRG.out W4 b HN.out
        rw [HGF.out, HGL.out, HGE.out] at HG
        refine HG.mono ?_
        rintro e w5 ⟨v5, rfl, ho5, hb5⟩
        obtain ⟨a5, k5, rfl, hs5⟩ := ho5.ents
        have hx5 := below_one w5 (.cells #[.bool F2, .slice a5 (L2).length k5] 56)
        have BX := ((BX.step hb5).alloc #[.bool F2, .slice a5 (L2).length k5] 56 rfl)
        have hb := below_then (below_then hb hb5) hx5
        have hs4 := (hs4.below (Nat.le_refl _) hb5).below (Nat.le_refl _) hx5
        have hs5 := hs5.below (Nat.le_refl _) hx5
        clear ho5 hb5 hx5 HG
        have hne : (E2 != E2) = false := by simp
        have hee : (E2 == E2) = true := by simp
        go_wp2_with fail
        generalize w5.alloc _ = W5 at *
        generalize w5.heap.size = b5 at *
        clear hcv
        have c0 : ∀ W, Below W5.heap.size W5 W → W.cell? ⟨b5, 0, none⟩ = some (.bool F2) := fun W hW => (BX.step hW).cell 0 0 rfl rfl
        have c1 : ∀ W, Below W5.heap.size W5 W → W.cell? ⟨b5, 1, none⟩ = some (.slice a5 (L2).length k5) := fun W hW => (BX.step hW).cell 0 1 rfl rfl
        have c2 : ∀ W, Below W5.heap.size W5 W → W.cell? ⟨b4, 0, none⟩ = some (.bool F2) := fun W hW => (BX.step hW).cell 1 0 rfl rfl
        have c3 : ∀ W, Below W5.heap.size W5 W → W.cell? ⟨b4, 1, none⟩ = some (.slice a4 (L2).length k4) := fun W hW => (BX.step hW).cell 1 1 rfl rfl
        have hC : Below W5.heap.size W5 W5.drew := (Below.refl _ _).drew
        clear BX
        go_region_held3 (fun W => Below W5.heap.size W5 W) (first | with_reducible assumption) (first | (go_at_call 27; (with_reducible refine (HPL.out _ _ _ _ _ _ (hs4.below (Nat.le_refl _) hC) LB).mono ?_); rintro e w8 ⟨v8, rfl, ho8, hb8⟩; have hC8 := hC.trans (hb8.mono hC.size); obtain ⟨a8, k8, rfl, hs8⟩ := ho8.ents) | (go_at_call 39; (with_reducible refine (HSA.out _ _ _ _ _ _ _ _ _ hs8 (hs5.below (Nat.le_refl _) hC8) LB).mono ?_); rintro e w9 ⟨rfl, hb9⟩; have hC9 := hC8.trans (hb9.mono hC8.size)))
        have hb := below_then hb hC9
        go_wp2_with fail
        go_ret
        exact ⟨rfl, hb⟩
      · have hpe2 : (pe == 0) = false := by simpa using hpe
        clear HPN
        go_enter Tryd.func9, Tryd.ntmps9
        go_wp2_with fail
        refine AW.mono ?_
        rintro e w1 ⟨rfl, hb⟩
        go_wp2_with fail
        refine (PK _ hb).mono ?_
        rintro e w2 ⟨rfl, hb2⟩
        have hb := below_then hb hb2
        clear PK AW hb2
        go_wp2_with fail
        have hbs3 := HL.out.below (Nat.le_refl _) hb
        refine (HNG.out _ _ _ _ _ hb hbs3).mono ?_
        rintro e w4 ⟨v4, rfl, ho4, hb4⟩
        obtain ⟨a4, k4, rfl, hs4⟩ := ho4.ents
        clear hbs3
        have hcvb : ∀ W, Below w.heap.size w W → (convert 26 9 (.slice a n cap)).run Tryd.prog W = .ok (.string (strOf b)) W := fun W hW => conv_string Tryd.underlying26 Tryd.underlying5 Tryd.underlying9 (HL.out.below (Nat.le_refl _) hW)
        have HCV := Lib.hid hcvb
        clear hcvb
        obtain ⟨F2, hgf⟩ : ∃ f, getNF b = f := ⟨_, rfl⟩
        obtain ⟨L2, hgl⟩ : ∃ f, getNL b = f := ⟨_, rfl⟩
        obtain ⟨E2, hge⟩ : ∃ f, getNE b = f := ⟨_, rfl⟩
        rw [hgl] at LB
        rw [hgf, hgl, hge]
        rw [hgl] at hs4 ho4
        have HGF := Lib.hid hgf
        have HGL := Lib.hid hgl
        have HGE := Lib.hid hge
        clear hgf hgl hge
        have hx := below_one w4 (.cells #[.bool F2, .slice a4 (L2).length k4] 52)
        have BX := (Boxes.nil w4).alloc #[.bool F2, .slice a4 (L2).length k4] 52 rfl
        have hb := below_then (below_then hb hb4) hx
        have hs4 := hs4.below (Nat.le_refl _) hx
        clear ho4 hb4 hx
        have hcv := HCV.out _ hb
        go_wp2_with fail
        generalize w4.alloc _ = W4 at *
        generalize w4.heap.size = b4 at *
        have HG := HRG.out W4 b HN.out
        rw [HGF.out, HGL.out, HGE.out] at HG
        refine HG.mono ?_
        rintro e w5 ⟨v5, rfl, ho5, hb5⟩
        obtain ⟨a5, k5, rfl, hs5⟩ := ho5.ents
        have hx5 := below_one w5 (.cells #[.bool F2, .slice a5 (L2).length k5] 56)
        have BX := ((BX.step hb5).alloc #[.bool F2, .slice a5 (L2).length k5] 56 rfl)
        have hb := below_then (below_then hb hb5) hx5
        have hs4 := (hs4.below (Nat.le_refl _) hb5).below (Nat.le_refl _) hx5
        have hs5 := hs5.below (Nat.le_refl _) hx5
        clear ho5 hb5 hx5 HG
        have hne : (E2 != E2) = false := by simp
        have hee : (E2 == E2) = true := by simp
        go_wp2_with fail
        generalize w5.alloc _ = W5 at *
        generalize w5.heap.size = b5 at *
        clear hcv
        have c0 : ∀ W, Below W5.heap.size W5 W → W.cell? ⟨b5, 0, none⟩ = some (.bool F2) := fun W hW => (BX.step hW).cell 0 0 rfl rfl
        have c1 : ∀ W, Below W5.heap.size W5 W → W.cell? ⟨b5, 1, none⟩ = some (.slice a5 (L2).length k5) := fun W hW => (BX.step hW).cell 0 1 rfl rfl
        have c2 : ∀ W, Below W5.heap.size W5 W → W.cell? ⟨b4, 0, none⟩ = some (.bool F2) := fun W hW => (BX.step hW).cell 1 0 rfl rfl
        have c3 : ∀ W, Below W5.heap.size W5 W → W.cell? ⟨b4, 1, none⟩ = some (.slice a4 (L2).length k4) := fun W hW => (BX.step hW).cell 1 1 rfl rfl
        have hC : Below W5.heap.size W5 W5.drew := (Below.refl _ _).drew
        clear BX
        go_region_held3 (fun W => Below W5.heap.size W5 W) (first | with_reducible assumption) (first | (go_at_call 27; (with_reducible refine (HPL.out _ _ _ _ _ _ (hs4.below (Nat.le_refl _) hC) LB).mono ?_); rintro e w8 ⟨v8, rfl, ho8, hb8⟩; have hC8 := hC.trans (hb8.mono hC.size); obtain ⟨a8, k8, rfl, hs8⟩ := ho8.ents) | (go_at_call 39; (with_reducible refine (HSA.out _ _ _ _ _ _ _ _ _ hs8 (hs5.below (Nat.le_refl _) hC8) LB).mono ?_); rintro e w9 ⟨rfl, hb9⟩; have hC9 := hC8.trans (hb9.mono hC8.size)))
        have hb := below_then hb hC9
        go_wp2_with fail
        go_ret
        exact ⟨rfl, hb⟩
    · have g1 : decide ((300 : Int) < (n : Int)) = false := by simp; omega
      have g1n : decide (300 < n) = false := by simp; omega
      have g2 : decide ((60 : Int) < (len : Int)) = true := by simp; omega
      have g2n : decide (60 < len) = true := by simp; omega
      clear hbl hk hn
      go_enter Tryd.func9, Tryd.ntmps9
      go_wp2_with fail
      refine AW.mono ?_
      rintro e w1 ⟨rfl, hb⟩
      go_wp2_with fail
      go_ret
      exact ⟨rfl, hb⟩
  · have g1 : decide ((300 : Int) < (n : Int)) = true := by simp; omega
    have g1n : decide (300 < n) = true := by simp; omega
    clear hbl hn
    go_enter Tryd.func9, Tryd.ntmps9
    go_wp2_with fail
    refine AW.mono ?_
    rintro e w1 ⟨rfl, hb⟩
    go_wp2_with fail
    go_ret
    exact ⟨rfl, hb⟩
end Go.Proofs.YtjdepdgoaopfoaaDoor
