/- The reference's regions: Crash. -/
import Derived.Test.YtopnfpobbemfbaaRgC
import Derived.Test.YtopnfpobbemfbaaStep
import Derived.Deep.DeepCutAuto
namespace Go.Proofs.Ytopnfpobbemfbaa
open Go.RowKit

theorem crashD_length (d : List Rg) (keep : List (List UInt8)) : (crashD d keep).length = d.length := by simp [crashD]
theorem crash_take (d : List Rg) (keep : List (List UInt8)) (r : Nat) (x : Rg) (h : d[r]? = some x) : (crashD d keep).take (r + 1) = (crashD d keep).take r ++ [crashR x (keepB keep r)] := by
  rw [List.take_add_one]
  congr 1
  simp [crashD, List.getElem?_mapIdx, h]
theorem keepF_none (keep : Nat → Bool) (h : ∀ i, keep i = false) : ∀ (l : List (Nat × P128)) (i : Nat), keepF keep i l = []
  | [], _ => rfl
  | y :: l, i => by simp [keepF, h, keepF_none keep h l (i + 1)]
theorem keepF_sub (keep : Nat → Bool) : ∀ (l : List (Nat × P128)) (i : Nat), ∀ y ∈ keepF keep i l, y ∈ l
  | [], _, y, h => by simp [keepF] at h
  | z :: l, i, y, h => by
    unfold keepF at h
    split at h
    · rcases List.mem_cons.1 h with rfl | h
      · simp
      · exact List.mem_cons_of_mem _ (keepF_sub keep l (i + 1) y h)
    · exact List.mem_cons_of_mem _ (keepF_sub keep l (i + 1) y h)
theorem keepF_len (keep : Nat → Bool) : ∀ (l : List (Nat × P128)) (i : Nat), (keepF keep i l).length ≤ l.length
  | [], _ => by simp [keepF]
  | z :: l, i => by
    unfold keepF
    have := keepF_len keep l (i + 1)
    split <;> simp <;> omega
theorem keepB_of {keep : List (List UInt8)} {r : Nat} {s : List UInt8} (h : keep[r]? = some s) (i : Nat) : keepB keep r i = bitB s i := by simp [keepB, h]
theorem keepB_out {keep : List (List UInt8)} {r : Nat} (h : keep.length ≤ r) (i : Nat) : keepB keep r i = false := by simp [keepB, List.getElem?_eq_none h]
/-- A row of loose writes of the call's own. -/
def LOwn (B : Nat) (w : World) (v : Value) (l : List (Nat × P128)) : Prop := w.ownsRow B 86 2 v l.length (l.flatMap lcells)
theorem LOwn.ls {B : Nat} {w : World} {v : Value} {l : List (Nat × P128)} (h : LOwn B w v l) : ∃ a cap, v = .slice a l.length cap ∧ Ls w a l.length cap l :=
  TabR.of_own lcells lcells_length (R := fun cs y => cs = lcells y) (fun _ => rfl) h
theorem LOwn.push {B : Nat} {w : World} {v : Value} {l : List (Nat × P128)} (h : LOwn B w v l) (hl : l.length ≤ 100000) (hB : B ≤ w.heap.size) (y : Nat × P128) :
    ∃ v' w', (Builtin.append_ #[56, 56] 56 #[v, .slice (some ⟨w.heap.size, 0, none⟩) 1 1]).run Try.prog (w.alloc (.cells #[.int .i64 (y.1 : Int), .string (strOf y.2.1)] 86)) = .ok v' w' ∧ LOwn B w' v' (l ++ [y]) ∧ w.grownBy w' v.ownBlock ∧ ∀ k, v.ownBlock = some k → B ≤ k := by
  obtain ⟨i0, hi0, hz0, hz1, hz2⟩ := info_parts info_L
  have h' : w.ownsRow B 86 2 v l.length (l.flatMap lcells) := h
  obtain ⟨v', w', hr, ho, hg, _⟩ := run_append_new (P := Try.prog) (w := w) B 56 86 i0 _ 2 24 Try.underlying56 hi0 hz0 hz1 hz2 rfl (by decide) h' #[.int .i64 (y.1 : Int), .string (strOf y.2.1)] rfl (by intro u hu; simp at hu; rcases hu with rfl | rfl <;> rfl) (by unfold maxLen; omega) (by omega) hB
  refine ⟨v', w', hr, ?_, hg, own_ge h'⟩
  unfold LOwn
  rw [List.flatMap_append, List.length_append]
  simpa [lcells] using ho

def GNewPost (w : World) (d : List Rg) (e : Ending) (w' : World) : Prop := ∃ a cap, e = .returned (.slice a d.length cap) ∧ GsK (From (fun _ => False) w.heap.size) w' a d.length cap d ∧ Below w.heap.size w w'
set_option maxRecDepth 100000 in
set_option maxHeartbeats 8000000 in
theorem rcrash_any {w : World} {a : Option Addr} {len cap : Nat} {d : List Rg} (h : Gs w a len cap d) (hlen : len ≤ 1000) (hL : ∀ x ∈ d, x.loose.length ≤ 100000) {ka : Option Addr} {kl kc : Nat} {keep : List (List UInt8)} (hk : Txs w ka kl kc keep) :
    Calls Try.prog 23 #[.slice a len cap, .slice ka kl kc] w (GNewPost w (crashD d keep)) := by
  have hdl := h.1
  have hkl : keep.length = kl := hk.1
  have hkc := hk.2.1
  have hkm := hk.2.2.1
  unfold maxLen at hkm
  have H := Lib.hid h
  have HK := Lib.hid hk
  have HDL := Lib.hid hdl
  have HKL := Lib.hid hkl
  have HL := Lib.hid hL
  clear h hk hdl hkl hL
  go_enter Try.func23, Try.ntmps23
  go_wp2_with fail
  go_loopw [5, 6] (fun s5 s6 wr => ∃ (r : Nat), r ≤ len ∧ s6 = .int .i64 r ∧ GOwn w.heap.size wr s5 ((crashD d keep).take r) ∧ Below w.heap.size w wr) (fun _ s _ => len - (intOf s).toNat)
  case atStart => exact ⟨0, Nat.zero_le _, rfl, GOwn.nil _ _, Below.refl _ _⟩
  case round =>
    obtain ⟨r, hr, rfl, hown, hb⟩ := hrel
    obtain ⟨wB, rfl⟩ : ∃ wB, wB = wr := ⟨_, rfl⟩
    by_cases hlt : r < len
    · obtain ⟨x, hx⟩ : ∃ x, d[r]? = some x := ⟨_, List.getElem?_eq_getElem (by rw [HDL.out]; exact hlt)⟩
      have hLx := HL.out x (List.mem_of_getElem? hx)
      obtain ⟨b, off, pa, pc, la, lc, rfl, hbl, c0, c1, c2, c3, g2, g3, g4, g5, g6, g7⟩ := H.out.at hx
      have HTK := Lib.hid (crash_take d keep r x hx)
      have HTL : Hid (((crashD d keep).take r).length ≤ 1000) := Lib.hid (by simp; omega)
      have cA : ∀ W, Below w.heap.size w W → W.cell? ⟨b, off + r * 4, none⟩ = some (.slice pa x.size pc) := fun W hW => (hW.cell (p := ⟨b, off + r * 4, none⟩) hbl).trans c0
      have cB : ∀ W, Below w.heap.size w W → W.cell? ⟨b, off + r * 4 + 1, none⟩ = some (.slice la x.loose.length lc) := fun W hW => (hW.cell (p := ⟨b, off + r * 4 + 1, none⟩) hbl).trans c1
      have HA := Lib.hid cA
      have HBB := Lib.hid cB
      have G2 := Lib.hid g2
      have G3 := Lib.hid g3
      have G5 := Lib.hid g5
      have HB := Lib.hid hb
      have HO := Lib.hid hown
      have cb0 := cB wB hb
      have hlc := g3.2.1
      have hlm := g3.2.2.1
      unfold maxLen at hlm
      obtain ⟨m, hm⟩ : ∃ m, x.loose.length = m := ⟨_, rfl⟩
      rw [hm] at cb0 hlc hLx
      have HM := Lib.hid hm
      clear cA cB g2 g3 g5 c0 c1 c2 c3 hx hm hown hb
      go_wp2_with fail
      go_loopw [7, 8] (fun s7 s8 wx => ∃ (i : Nat), i ≤ m ∧ s8 = .int .i64 i ∧ LOwn wB.heap.size wx s7 (keepF (keepB keep r) 0 (x.loose.take i)) ∧ Below wB.heap.size wB wx) (fun _ s _ => m - (intOf s).toNat)
      case atStart => exact ⟨0, Nat.zero_le _, rfl, World.ownsRow_nil _ _ _ _, Below.refl _ _⟩
      case round =>
        obtain ⟨i, hi, rfl, hlo, hbB⟩ := hrel
        have hbx := below_then HB.out hbB
        have cb1 := HBB.out wr hbx
        rw [HM.out] at cb1
        have hkf := keepF_len (keepB keep r) (x.loose.take i) 0
        have hke := keepF_sub (keepB keep r) (x.loose.take i) 0
        by_cases hgo : r < kl ∧ i < m
        · obtain ⟨hrk, him⟩ := hgo
          obtain ⟨b9, o9, s, rfl, hb9, hs, k9⟩ := HK.out.at hrk
          have k9' := (hbx.cell (p := ⟨b9, o9 + r, none⟩) hb9).trans k9
          obtain ⟨b8, o8, y, rfl, hb8, hy, l0, l1⟩ := G3.out.at (k := i) (by rw [HM.out]; exact him)
          have l0' := (hbx.cell (p := ⟨b8, o8 + i * 2, none⟩) hb8).trans l0
          have l1' := (hbx.cell (p := ⟨b8, o8 + i * 2 + 1, none⟩) hb8).trans l1
          have hil : i < x.loose.length := by have := HM.out; omega
          have hts : x.loose.take (i + 1) = x.loose.take i ++ [y] := by rw [List.take_succ_eq_append_getElem hil, (List.getElem?_eq_some_iff.1 hy).2]
          have hsn := keepF_snoc (keepB keep r) y (x.loose.take i) 0
          rw [← hts, List.length_take, Nat.zero_add, Nat.min_eq_left (by omega), keepB_of hs] at hsn
          have BT := rbit_any wr s i (by omega)
          have d1 : decide ((i : Int) < m) = true := by simp; omega
          have d2 : decide ((r : Int) < kl) = true := by simp; omega
          cases hbit : bitB s i
          · rw [hbit] at hsn BT
            simp only [Bool.false_eq_true, if_false, List.append_nil] at hsn
            rw [← hsn] at hlo
            have HLO := Lib.hid hlo
            have HBX := Lib.hid hbB
            clear hlo hbB hbx hkf hke hts hsn hs hy k9 l0 l1 hil hbit
            go_wp2_with fail
            refine BT.mono ?_
            rintro e w3 ⟨rfl, rfl⟩
            clear BT
            go_wp2_with fail
            go_roundw
            case rel => exact ⟨i + 1, him, by go_num, HLO.out, HBX.out⟩
            case measure => simp [intOf]; omega
          · rw [hbit] at hsn BT
            simp only [if_true] at hsn
            obtain ⟨v', w9, hr9, ho9, hg9, hge9⟩ := hlo.push (by simp at hkf; omega) hbB.size y
            rw [← hsn] at ho9
            have HLO := Lib.hid ho9
            have HBX := Lib.hid (hbB.grown hg9 hbB.size hge9)
            clear hlo hbB hbx hkf hke hts hsn hs hy k9 l0 l1 hil hbit ho9 hg9 hge9
            go_wp2_with fail
            refine BT.mono ?_
            rintro e w3 ⟨rfl, rfl⟩
            clear BT
            go_wp2_with (at_builtin; refine wpList_append_run rfl _ _ _ _ rfl rfl rfl hr9 ?_)
            go_roundw
            case rel => exact ⟨i + 1, him, by go_num, HLO.out, HBX.out⟩
            case measure => simp [intOf]; omega
        · have hall : keepF (keepB keep r) 0 (x.loose.take i) = keepF (keepB keep r) 0 x.loose := by
            by_cases hrk : r < kl
            · have : i = m := by omega
              rw [List.take_of_length_le (by rw [HM.out]; omega)]
            · have hf : ∀ j, keepB keep r j = false := fun j => keepB_out (by rw [HKL.out]; omega) j
              rw [keepF_none _ hf, keepF_none _ hf]
          rw [hall] at hlo hkf hke
          have dd : (decide ((i : Int) < m) = false ∧ ¬ i < m) ∨ (decide ((i : Int) < m) = true ∧ i < m ∧ decide ((r : Int) < kl) = false ∧ ¬ r < kl) := by
            by_cases him : i < m
            · right; exact ⟨by simp; omega, him, by simp; omega, by omega⟩
            · left; exact ⟨by simp; omega, him⟩
          obtain ⟨a7, c7, e7, hls⟩ := hlo.ls
          subst e7
          have hlsc := hls.2.1
          have hlsm := hls.2.2.1
          unfold maxLen at hlsm
          have KP := kept_any (G2.out.below (Nat.le_refl _) hbx) g4 hls (by simp at hkf; omega) (fun y hy => G5.out y (List.mem_of_mem_take (hke y hy)))
          have ca := HA.out wr hbx
          have hkl2 : (keptL (pagesL x) (keepF (keepB keep r) 0 x.loose)).length = x.size := by rw [keptL_length, pagesL_length]
          have END : ∀ w2 v2, w2.ownsRow wr.heap.size 9 1 v2 (keptL (pagesL x) (keepF (keepB keep r) 0 x.loose)).length ((keptL (pagesL x) (keepF (keepB keep r) 0 x.loose)).map strV) → Below wr.heap.size wr w2 →
              ∃ a2 c2 v9 w9, v2 = .slice a2 x.size c2 ∧ (Builtin.append_ #[46, 46] 46 #[u5, .slice (some ⟨w2.heap.size, 0, none⟩) 1 1]).run Try.prog (w2.alloc (.cells #[.slice a2 x.size c2, .slice none 0 0, .int .i64 (-1), .bool false] 58)) = .ok v9 w9 ∧ GOwn w.heap.size w9 v9 ((crashD d keep).take (r + 1)) ∧ Below w.heap.size w w9 := by
            intro w2 v2 ho2 hb2
            have hgo2 : w2.ownsRow w.heap.size 9 1 v2 (keptL (pagesL x) (keepF (keepB keep r) 0 x.loose)).length ((keptL (pagesL x) (keepF (keepB keep r) 0 x.loose)).map strV) := ⟨ho2.1, ho2.2.imp id fun ⟨g, cap, cur, e, hg, r⟩ => ⟨g, cap, cur, e, Nat.le_trans hbx.size hg, r⟩⟩
            rw [hkl2] at hgo2
            obtain ⟨a2, c2, rfl, _⟩ := own_slice hgo2
            have hisgo : IsGo w.heap.size w2 [.slice a2 x.size c2, .slice none 0 0, .int .i64 (-1), .bool false] (crashR x (keepB keep r)) := by
              refine ⟨a2, c2, rfl, ?_, rfl, g4, by show (-1 : Int) ≤ -1; omega, by show (-1 : Int) ≤ _; omega⟩
              rw [pagesL_crash]
              exact hgo2
            have hb3 := below_then hbx hb2
            have hG := HO.out.below (below_then hbB hb2)
            obtain ⟨v9, w9, hr9, hG9, hg9, hge9⟩ := hG.push HTL.out hb3.size (⟨[.slice a2 x.size c2, .slice none 0 0, .int .i64 (-1), .bool false], rfl, by
              intro u hu
              simp only [List.mem_cons, List.not_mem_nil, or_false] at hu
              rcases hu with rfl | rfl | rfl | rfl <;> rfl⟩ : C4) (crashR x (keepB keep r)) hisgo
            rw [← HTK.out] at hG9
            exact ⟨a2, c2, v9, w9, rfl, hr9, hG9, hb3.grown hg9 hb3.size hge9⟩
          have HEND := Lib.hid END
          clear hlo hbB hbx hkf hke hls hall END hkl2 hgo
          rcases dd with ⟨d5, n5⟩ | ⟨d5, n5, d6, n6⟩
          all_goals
            go_wp2_with fail
            refine KP.mono ?_
            rintro e w2 ⟨v2, rfl, ho2, hb2⟩
            obtain ⟨a2, c2, v9, w9, rfl, hr9, hG9, hB9⟩ := HEND.out w2 v2 ho2 hb2
            have HG9 := Lib.hid hG9
            have HB9 := Lib.hid hB9
            clear KP ho2 hb2 hG9 hB9
            go_wp2_with (at_builtin; refine wpList_append_run rfl _ _ _ _ rfl rfl rfl hr9 ?_)
            go_roundw
            case rel => exact ⟨r + 1, hlt, by go_num, HG9.out, HB9.out⟩
            case measure => simp [intOf]; omega
    · obtain rfl : r = len := by omega
      have htl : (crashD d keep).take r = crashD d keep := List.take_of_length_le (by rw [crashD_length, HDL.out]; exact Nat.le_refl _)
      rw [htl] at hown
      obtain ⟨ax, cx, ex, hgs⟩ := hown.gsK
      have hnl : (crashD d keep).length = r := by rw [crashD_length, HDL.out]
      have END : Hid (GNewPost w (crashD d keep) (.returned u5) wB) := Lib.hid ⟨ax, cx, by rw [ex], hgs, hb⟩
      subst ex
      clear hown hb htl hgs
      go_wp2_with fail
      go_ret
      exact END.out
end Go.Proofs.Ytopnfpobbemfbaa
