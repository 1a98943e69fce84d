/- Texts that other texts of this claim lean on, one behind the other. -/
import Derived.Test.YtpghlmcoajaiiaaGreatDoorM1
import Derived.Outline
import Derived.Test.YtpghlmcoajaiiaaGreatDoorM2
import Derived.Deep.RegionHeld3
/- The walks of Need: the program's, and the document's. -/
namespace Go.Proofs.YtpghlmcoajaiiaaGreatDoor
open Go.RowKit

set_option maxRecDepth 100000 in
set_option maxHeartbeats 1000000 in
theorem cneed_any (n : Int) (w : World) :
    Calls Tryz.prog 177 #[.int .i64 n] w fun e w' => e = .returned (.int .i64 (needC n : Int)) ∧ w = w' := by
  by_cases h1 : n ≤ 16
  · have d1 : decide (n ≤ 16) = true := by simpa using h1
    have HN := Lib.hid (show needC n = 0 by rw [needC, if_pos (.inl h1)])
    go_enter Tryz.func177, Tryz.ntmps177
    go_wp2
    go_ret
    exact ⟨ret_int (by rw [HN.out]; rfl), rfl⟩
  · have d1 : decide (n ≤ 16) = false := by simpa using h1
    by_cases h2 : 400 < n
    · have d2 : decide (400 < n) = true := by simpa using h2
      have HN := Lib.hid (show needC n = 0 by rw [needC, if_pos (.inr h2)])
      go_enter Tryz.func177, Tryz.ntmps177
      go_wp2
      go_ret
      exact ⟨ret_int (by rw [HN.out]; rfl), rfl⟩
    · have d2 : decide (400 < n) = false := by simpa using h2
      have HN := Lib.hid (show needC n = ((n + 118) / 119).toNat by rw [needC, if_neg (by omega)])
      go_enter Tryz.func177, Tryz.ntmps177
      go_wp2
      go_ret
      exact ⟨ret_int (by rw [HN.out]; omega), rfl⟩
set_option maxRecDepth 100000 in
set_option maxHeartbeats 1000000 in
theorem crneed_any (n : Int) (w : World) :
    Calls Tryz.prog 89 #[.int .i64 n] w fun e w' => e = .returned (.int .i64 (needC n : Int)) ∧ w = w' := by
  have hle := needC_le n
  by_cases h1 : 16 < n ∧ n ≤ 400
  · have hq : ∀ k : Nat, ((k : Int) * 119 < n ↔ k < needC n) := by
      intro k
      unfold needC
      split <;> omega
    have d1 : decide (16 < n) = true := by simpa using h1.1
    have d2 : decide (n ≤ 400) = true := by simpa using h1.2
    have HQ := Lib.hid hq
    generalize hm : needC n = m at *
    have HM := Lib.hid hm
    clear hq hm
    go_enter Tryz.func89, Tryz.ntmps89
    go_wp2
    go_loop [3] (fun s => ∃ k : Nat, s = .int .i64 k ∧ k ≤ m) (fun s => m - (intOf s).toNat)
    case atStart => exact ⟨0, rfl, Nat.zero_le _⟩
    case round =>
      obtain ⟨k, rfl, hk⟩ := hrel
      have hq := HQ.out k
      by_cases hlt : k < m
      · have d3 : decide ((k : Int) * 119 < n) = true := by simpa using hq.2 hlt
        clear hq
        go_wp2_with fail
        go_round
        case rel => exact ⟨k + 1, by go_num, hlt⟩
        case measure => simp [intOf]; omega
      · have d3 : decide ((k : Int) * 119 < n) = false := by simpa using fun h => hlt (hq.1 h)
        obtain rfl : k = m := by omega
        clear hq
        go_wp2_with fail
        go_ret
        exact ⟨rfl, rfl⟩
  · have HN := Lib.hid (show needC n = 0 by rw [needC, if_pos (by omega)])
    have dd : decide (16 < n) = false ∨ (decide (16 < n) = true ∧ decide (n ≤ 400) = false) := by
      by_cases h : 16 < n
      · right; exact ⟨by simpa using h, by simp; omega⟩
      · left; simpa using h
    go_enter Tryz.func89, Tryz.ntmps89
    go_wp2
    go_loop [3] (fun s => s = .int .i64 0) (fun _ => 1)
    case atStart => rfl
    case round =>
      subst hrel
      rcases dd with d1 | ⟨d1, d2⟩
      · go_wp2_with fail
        go_ret
        exact ⟨ret_int (by rw [HN.out]; rfl), rfl⟩
      · go_wp2_with fail
        go_ret
        exact ⟨ret_int (by rw [HN.out]; rfl), rfl⟩
end Go.Proofs.YtpghlmcoajaiiaaGreatDoor

/- The walks of trees: cells' sizes. -/
namespace Go.Proofs.YtpghlmcoajaiiaaGreatDoor
open Go.RowKit

/-- How great a tree is at most. -/
def Bnd : Nat → Tr → Prop
  | 0, _ => True
  | _ + 1, .leaf _ l => l.length ≤ 1000 ∧ ∀ c ∈ l, c.1.length ≤ 200 ∧ c.2.data.length ≤ 1000
  | n + 1, .node _ l => l.length ≤ 1000 ∧ ∀ c ∈ l, c.1.length ≤ 200 ∧ Bnd n c.2
theorem Bnd.small {n : Nat} {t : Tr} (h : Bnd (n + 1) t) : Small (sizesT t) := by
  cases t with
  | leaf p l =>
    refine ⟨by simp [sizesT]; exact h.1, fun x hx => ?_⟩
    obtain ⟨c, hc, rfl⟩ := List.mem_map.1 hx
    have := (h.2 c hc).1
    have := vSz_le c.2
    omega
  | node p l =>
    refine ⟨by simp [sizesT]; exact h.1, fun x hx => ?_⟩
    obtain ⟨c, hc, rfl⟩ := List.mem_map.1 hx
    have := (h.2 c hc).1
    omega
theorem info_intT : (Tryz.prog.info? 3).map (fun i => (i.zero, i.size, i.bytes)) = some (some (.int .i64 0), 1, 8) := by kernel_rfl
theorem KeysIn.at {w : World} {a : Option Addr} {n c : Nat} {l : List (List UInt8)} (h : KeysIn w a n c l) {k : Nat} (hk : k < n) :
    ∃ b off, a = some ⟨b, off, none⟩ ∧ b < w.heap.size ∧ w.cell? ⟨b, off + k, none⟩ = some (.string (strOf (l[k]?.getD []))) := by
  obtain ⟨b, off, y, cs, e1, e2, e3, _, e5, e6⟩ := TabR.at h hk
  have e5 : cs = _ := e5
  subst e5
  have := e6 0 _ rfl
  refine ⟨b, off, e1, e2, ?_⟩
  rw [e3]; simpa using this
theorem ValsIn.at {w : World} {a : Option Addr} {n c : Nat} {l : List Tv} (h : ValsIn w a n c l) {k : Nat} (hk : k < n) :
    ∃ b off v pa pn pc, a = some ⟨b, off, none⟩ ∧ b < w.heap.size ∧ l[k]? = some v ∧ w.cell? ⟨b, off + k * 2, none⟩ = some (.string (strOf v.data)) ∧ w.cell? ⟨b, off + k * 2 + 1, none⟩ = some (.slice pa pn pc) ∧ Row .i64 w pa pn pc v.pages := by
  obtain ⟨b, off, y, cs, e1, e2, e3, _, ⟨pa, pn, pc, rfl, hr⟩, e6⟩ := TabR.at h hk
  exact ⟨b, off, y, pa, pn, pc, e1, e2, e3, e6 0 _ rfl, e6 1 _ rfl, hr⟩

def SizesPost (w : World) (S : List Int) (e : Ending) (w' : World) : Prop := ∃ v, e = .returned v ∧ w'.ownsRow w.heap.size 3 1 v S.length (S.map (Value.int .i64)) ∧ Below w.heap.size w w'
theorem tk_succ (l : List Int) (i : Nat) (h : i < l.length) : l.take (i + 1) = l.take i ++ [l[i]?.getD 0] := by
  rw [List.take_succ_eq_append_getElem h, List.getElem?_eq_getElem h]; rfl
set_option maxRecDepth 100000 in
set_option maxHeartbeats 4000000 in
theorem tsizes_node {n : Nat} {w : World} {cs : List Value} {p : Int} {l : List (List UInt8 × Tr)} (h : NodeIn (n + 1) w cs (.node p l)) (hb : Bnd (n + 1) (.node p l)) :
    Calls Tryz.prog 144 #[.agg cs.toArray] w (SizesPost w (sizesT (.node p l))) := by
  obtain ⟨ka, kn, kc, va, vc, ca, cn, cc, rfl, h1, h2, h3⟩ := h
  obtain ⟨g1, g2⟩ := hb
  obtain ⟨e1, e2, e3⟩ := h1.lens
  have hkl : (keysOf l).length = l.length := by simp [keysOf]
  have hsl : (sizesT (.node p l)).length = kn := by rw [sizes_len_node, ← hkl, e1]
  have HS : Hid (∀ i, i < kn → (sizesT (.node p l))[i]?.getD 0 = 4 + (((keysOf l)[i]?.getD []).length : Int) ∧ ((keysOf l)[i]?.getD []).length ≤ 200) := Lib.hid (fun i hi => by
    have hi' : i < l.length := by omega
    have := (g2 l[i] (List.getElem_mem hi')).1
    simp [sizesT, keysOf, hi', this])
  have HK := Lib.hid h1
  have HSL := Lib.hid hsl
  have hkn : kn ≤ 1000 := by omega
  obtain ⟨i0, hi0, hz0, hz1, hz2⟩ := info_parts info_intT
  have hA : Below w.heap.size w (w.alloc (.cells #[.int .i64 p, .bool false, .slice ka kn kc, .slice va 0 vc, .slice ca cn cc] 50)) := (Below.refl _ _).alloc (Nat.le_refl _) _
  have HBX := Lib.hid ((Boxes.nil w).alloc #[.int .i64 p, .bool false, .slice ka kn kc, .slice va 0 vc, .slice ca cn cc] 50 rfl)
  generalize sizesT (.node p l) = S at *
  generalize keysOf l = K at *
  clear h1 h2 h3 g1 g2 e1 hkl hsl
  go_enter Tryz.func144, Tryz.ntmps144
  go_wp2_with fail
  go_loopw [3, 11] (fun s3 s11 wr => ∃ i : Nat, i ≤ kn ∧ s11 = .int .i64 i ∧ wr.ownsRow w.heap.size 3 1 s3 i ((S.take i).map (Value.int .i64)) ∧ Below w.heap.size w wr ∧ Boxes wr [(w.heap.size, [.int .i64 p, .bool false, .slice ka kn kc, .slice va 0 vc, .slice ca cn cc])] ∧ s3.ownBlock ≠ some w.heap.size) (fun _ s _ => kn - (intOf s).toNat)
  case atStart => exact ⟨0, Nat.zero_le _, rfl, World.ownsRow_nil _ _ _ _, hA, HBX.out, by simp [Value.ownBlock]⟩
  case round =>
    clear HBX hA
    obtain ⟨i, hi, rfl, hown, hb, hbx, hnb⟩ := hrel
    by_cases hlt : i < kn
    · obtain ⟨b, off, rfl, hbb, hcell⟩ := HK.out.at hlt
      have c1 := (hb.cell (p := ⟨b, off + i, none⟩) hbb).trans hcell
      obtain ⟨q1, q2⟩ := HS.out i hlt
      have hst := Lib.hid (tk_succ S i (by rw [HSL.out]; exact hlt))
      have f1 := hbx.cell 0 1 rfl rfl
      have hsz := strOf_size (K[i]?.getD [])
      generalize K[i]?.getD [] = k at *
      obtain ⟨m, hm⟩ : ∃ m, k.length = m := ⟨_, rfl⟩
      rw [hm] at q1 q2 hsz
      have HM := Lib.hid hm
      clear hcell hm
      obtain ⟨v8, w8, hr8, ho8, hg8, hv8⟩ := run_append_new (P := Tryz.prog) (w := wr) w.heap.size 35 3 i0 _ 1 8 Tryz.underlying35 hi0 hz0 hz1 hz2 rfl (by decide) hown #[.int .i64 (4 + (m : Int))] rfl (by intro u hu; simp at hu; subst hu; rfl) (by unfold maxLen; omega) (by omega) hb.size
      have HB8 := Lib.hid (hb.grown hg8 hb.size (own_ge hown))
      have HX8 := Lib.hid (hbx.grown hg8 (by intro p hp; simp at hp; subst hp; exact hnb))
      have HN8 : Hid (v8.ownBlock ≠ some w.heap.size) := Lib.hid (by
        rcases hv8 with h | h
        · rw [h]; exact hnb
        · rw [h]; intro e; have := hb.size; have := Option.some.inj e; omega)
      have HO8 : Hid (w8.ownsRow w.heap.size 3 1 v8 (i + 1) ((S.take (i + 1)).map (Value.int .i64))) := Lib.hid (by
        rw [hst.out, q1, List.map_append]; exact ho8)
      clear hown hb hbx hnb ho8 hg8 hv8 q1 hst
      go_wp2_with (at_builtin; refine wpList_append_run rfl _ _ _ _ rfl rfl rfl hr8 ?_)
      go_roundw
      case rel => exact ⟨i + 1, hlt, by go_num, HO8.out, HB8.out, HX8.out, HN8.out⟩
      case measure => simp [intOf]; omega
    · obtain rfl : i = kn := by omega
      have HE : Hid (SizesPost w S (.returned u3) wr) := Lib.hid ⟨_, rfl, by rw [HSL.out]; rw [List.take_of_length_le (by rw [HSL.out]; exact Nat.le_refl _)] at hown; exact hown, hb⟩
      clear hown hb hbx hnb
      go_wp2_with fail
      go_ret
      exact HE.out
set_option maxRecDepth 100000 in
set_option maxHeartbeats 4000000 in
theorem tsizes_leaf {n : Nat} {w : World} {cs : List Value} {p : Int} {l : List (List UInt8 × Tv)} (h : NodeIn (n + 1) w cs (.leaf p l)) (hb : Bnd (n + 1) (.leaf p l)) :
    Calls Tryz.prog 144 #[.agg cs.toArray] w (SizesPost w (sizesT (.leaf p l))) := by
  obtain ⟨ka, kn, kc, va, vn, vc, ca, cc, rfl, h1, h2, h3⟩ := h
  obtain ⟨g1, g2⟩ := hb
  obtain ⟨e1, e2, e3⟩ := h1.lens
  obtain ⟨e4, e5, e6⟩ := h2.lens
  have hkl : (keysOf l).length = l.length := by simp [keysOf]
  have hsl : (sizesT (.leaf p l)).length = kn := by rw [sizes_len_leaf, ← hkl, e1]
  obtain rfl : kn = vn := by rw [List.length_map] at e4; omega
  have HS : Hid (∀ i, i < kn → ∃ v : Tv, (l.map (·.2))[i]? = some v ∧ (sizesT (.leaf p l))[i]?.getD 0 = 3 + (vSz v : Int) + (((keysOf l)[i]?.getD []).length : Int) ∧ ((keysOf l)[i]?.getD []).length ≤ 200 ∧ v.data.length ≤ 1000) := Lib.hid (fun i hi => by
    have hi' : i < l.length := by omega
    have h5 := g2 l[i] (List.getElem_mem hi')
    exact ⟨l[i].2, by simp [hi'], by simp [sizesT, keysOf, hi'], by simp [keysOf, hi', h5.1], h5.2⟩)
  have HK := Lib.hid h1
  have HV := Lib.hid h2
  have HSL := Lib.hid hsl
  have hkn : kn ≤ 1000 := by omega
  obtain ⟨i0, hi0, hz0, hz1, hz2⟩ := info_parts info_intT
  have hA : Below w.heap.size w (w.alloc (.cells #[.int .i64 p, .bool true, .slice ka kn kc, .slice va kn vc, .slice ca 0 cc] 50)) := (Below.refl _ _).alloc (Nat.le_refl _) _
  have HBX := Lib.hid ((Boxes.nil w).alloc #[.int .i64 p, .bool true, .slice ka kn kc, .slice va kn vc, .slice ca 0 cc] 50 rfl)
  generalize sizesT (.leaf p l) = S at *
  generalize keysOf l = K at *
  generalize l.map (·.2) = V at *
  clear h1 h2 h3 g1 g2 e1 e4 hkl hsl
  go_enter Tryz.func144, Tryz.ntmps144
  go_wp2_with fail
  go_loopw [3, 11] (fun s3 s11 wr => ∃ i : Nat, i ≤ kn ∧ s11 = .int .i64 i ∧ wr.ownsRow w.heap.size 3 1 s3 i ((S.take i).map (Value.int .i64)) ∧ Below w.heap.size w wr ∧ Boxes wr [(w.heap.size, [.int .i64 p, .bool true, .slice ka kn kc, .slice va kn vc, .slice ca 0 cc])] ∧ s3.ownBlock ≠ some w.heap.size) (fun _ s _ => kn - (intOf s).toNat)
  case atStart => exact ⟨0, Nat.zero_le _, rfl, World.ownsRow_nil _ _ _ _, hA, HBX.out, by simp [Value.ownBlock]⟩
  case round =>
    clear HBX hA
    obtain ⟨i, hi, rfl, hown, hb, hbx, hnb⟩ := hrel
    by_cases hlt : i < kn
    · obtain ⟨b, off, rfl, hbb, hcell⟩ := HK.out.at hlt
      have c1 := (hb.cell (p := ⟨b, off + i, none⟩) hbb).trans hcell
      obtain ⟨tv, q0, q1, q2, q3⟩ := HS.out i hlt
      have hst := Lib.hid (tk_succ S i (by rw [HSL.out]; exact hlt))
      have f1 := hbx.cell 0 1 rfl rfl
      have hsz := strOf_size (K[i]?.getD [])
      obtain ⟨b2, off2, tv2, pa, pn, pc, rfl, hbb2, e9, hc2, _, _⟩ := HV.out.at hlt
      rw [q0] at e9; cases e9
      have c2 := (hb.cell (p := ⟨b2, off2 + i * 2, none⟩) hbb2).trans hc2
      have f3 := hbx.cell 0 3 rfl rfl
      have hsz2 := strOf_size tv.data
      obtain ⟨dl, hdl⟩ : ∃ dl, tv.data.length = dl := ⟨_, rfl⟩
      have N := fun W => cneed_any (dl : Int) W
      have hvs : vSz tv = if dl ≤ 16 then dl else 4 := by unfold vSz; rw [hdl]
      rw [hdl] at hsz2 q3
      have HDL := Lib.hid hdl
      clear hc2 hdl q0
      generalize K[i]?.getD [] = k at *
      obtain ⟨m, hm⟩ : ∃ m, k.length = m := ⟨_, rfl⟩
      rw [hm] at q1 q2 hsz
      have HM := Lib.hid hm
      clear hcell hm
      by_cases hd : dl ≤ 16
      · rw [if_pos hd] at hvs
        rw [hvs] at q1
        rw [show needC (dl : Int) = 0 by unfold needC; rw [if_pos (.inl (by omega))]] at N
        have d4 : decide ((400 : Int) < dl) = false := by simp; omega
        have d4' : decide (400 < dl) = false := by simp; omega
        obtain ⟨v8, w8, hr8, ho8, hg8, hv8⟩ := run_append_new (P := Tryz.prog) (w := wr) w.heap.size 35 3 i0 _ 1 8 Tryz.underlying35 hi0 hz0 hz1 hz2 rfl (by decide) hown #[.int .i64 (3 + (dl : Int) + (m : Int))] rfl (by intro u hu; simp at hu; subst hu; rfl) (by unfold maxLen; omega) (by omega) hb.size
        have HB8 := Lib.hid (hb.grown hg8 hb.size (own_ge hown))
        have HX8 := Lib.hid (hbx.grown hg8 (by intro p hp; simp at hp; subst hp; exact hnb))
        have HN8 : Hid (v8.ownBlock ≠ some w.heap.size) := Lib.hid (by
          rcases hv8 with h | h
          · rw [h]; exact hnb
          · rw [h]; intro e; have := hb.size; have := Option.some.inj e; omega)
        have HO8 : Hid (w8.ownsRow w.heap.size 3 1 v8 (i + 1) ((S.take (i + 1)).map (Value.int .i64))) := Lib.hid (by
          rw [hst.out, q1, List.map_append]; exact ho8)
        clear hown hb hbx hnb ho8 hg8 hv8 q1 hst
        clear hvs
        go_wp2_with fail
        refine (N _).mono ?_
        rintro e w2 ⟨rfl, rfl⟩
        go_wp2_with (at_builtin; refine wpList_append_run rfl _ _ _ _ rfl rfl rfl hr8 ?_)
        go_roundw
        case rel => exact ⟨i + 1, hlt, by go_num, HO8.out, HB8.out, HX8.out, HN8.out⟩
        case measure => simp [intOf]; omega
      · rw [if_neg hd] at hvs
        rw [hvs] at q1
        obtain ⟨v8, w8, hr8, ho8, hg8, hv8⟩ := run_append_new (P := Tryz.prog) (w := wr) w.heap.size 35 3 i0 _ 1 8 Tryz.underlying35 hi0 hz0 hz1 hz2 rfl (by decide) hown #[.int .i64 (7 + (m : Int))] rfl (by intro u hu; simp at hu; subst hu; rfl) (by unfold maxLen; omega) (by omega) hb.size
        have HB8 := Lib.hid (hb.grown hg8 hb.size (own_ge hown))
        have HX8 := Lib.hid (hbx.grown hg8 (by intro p hp; simp at hp; subst hp; exact hnb))
        have HN8 : Hid (v8.ownBlock ≠ some w.heap.size) := Lib.hid (by
          rcases hv8 with h | h
          · rw [h]; exact hnb
          · rw [h]; intro e; have := hb.size; have := Option.some.inj e; omega)
        have HO8 : Hid (w8.ownsRow w.heap.size 3 1 v8 (i + 1) ((S.take (i + 1)).map (Value.int .i64))) := Lib.hid (by
          rw [hst.out, q1, List.map_append, show (3 : Int) + ((4 : Nat) : Int) + (m : Int) = 7 + (m : Int) by omega]; exact ho8)
        clear hown hb hbx hnb ho8 hg8 hv8 q1 hst
        have dd : (decide ((0 : Int) < (needC (dl : Int) : Int)) = true ∧ decide (0 < needC (dl : Int)) = true) ∨ (decide ((0 : Int) < (needC (dl : Int) : Int)) = false ∧ decide (0 < needC (dl : Int)) = false ∧ decide ((400 : Int) < dl) = true ∧ decide (400 < dl) = true) := by
          by_cases h4 : 400 < dl
          · right
            have : needC (dl : Int) = 0 := by unfold needC; rw [if_pos (.inr (by omega))]
            rw [this]; exact ⟨by simp, by simp, by simp; omega, by simp; omega⟩
          · left
            have : 0 < needC (dl : Int) := by unfold needC; rw [if_neg (by omega)]; omega
            exact ⟨by simp; omega, by simp; omega⟩
        generalize needC (dl : Int) = nq at *
        clear hvs
        rcases dd with ⟨d4, d4'⟩ | ⟨d4, d4', d5, d5'⟩
        · go_wp2_with fail
          refine (N _).mono ?_
          rintro e w2 ⟨rfl, rfl⟩
          go_wp2_with (at_builtin; refine wpList_append_run rfl _ _ _ _ rfl rfl rfl hr8 ?_)
          go_roundw
          case rel => exact ⟨i + 1, hlt, by go_num, HO8.out, HB8.out, HX8.out, HN8.out⟩
          case measure => simp [intOf]; omega
        · go_wp2_with fail
          refine (N _).mono ?_
          rintro e w2 ⟨rfl, rfl⟩
          go_wp2_with (at_builtin; refine wpList_append_run rfl _ _ _ _ rfl rfl rfl hr8 ?_)
          go_roundw
          case rel => exact ⟨i + 1, hlt, by go_num, HO8.out, HB8.out, HX8.out, HN8.out⟩
          case measure => simp [intOf]; omega
    · obtain rfl : i = kn := by omega
      have HE : Hid (SizesPost w S (.returned u3) wr) := Lib.hid ⟨_, rfl, by rw [HSL.out]; rw [List.take_of_length_le (by rw [HSL.out]; exact Nat.le_refl _)] at hown; exact hown, hb⟩
      clear hown hb hbx hnb
      go_wp2_with fail
      go_ret
      exact HE.out
theorem tsizes_any {n : Nat} {w : World} {cs : List Value} {t : Tr} (h : NodeIn n w cs t) (hb : Bnd n t) : Calls Tryz.prog 144 #[.agg cs.toArray] w (SizesPost w (sizesT t)) := by
  cases n with
  | zero => exact h.elim
  | succ n =>
    cases t with
    | leaf p l => exact tsizes_leaf h hb
    | node p l => exact tsizes_node h hb
end Go.Proofs.YtpghlmcoajaiiaaGreatDoor

/- A node of the program's, its rows as rows of raw cells. -/
namespace Go.Proofs.YtpghlmcoajaiiaaGreatDoor
open Go.RowKit

def NodeR (n : Nat) (w : World) (K : List (Cl 1)) (V : List (Cl 2)) (C : List (Cl 5)) : Tr → Prop
  | .leaf _ l => Tells IsKey K (keysOf l) ∧ Tells (IsTv w) V (l.map (·.2)) ∧ C = []
  | .node _ l => Tells IsKey K (keysOf l) ∧ V = [] ∧ Tells (NodeIn n w) C (l.map (·.2))
theorem IsKey.one {cs : List Value} {y : List UInt8} (h : IsKey cs y) : ∀ u ∈ cs, u.oneCell' = true := by
  have h : cs = _ := h
  subst h
  intro u hu; simp at hu; subst hu; rfl
theorem IsTv.one {w : World} {cs : List Value} {v : Tv} (h : IsTv w cs v) : ∀ u ∈ cs, u.oneCell' = true := by
  obtain ⟨a, n, c, rfl, _⟩ := h
  intro u hu; simp at hu; rcases hu with rfl | rfl <;> rfl
theorem NodeIn.one {n : Nat} {w : World} {cs : List Value} {t : Tr} (h : NodeIn n w cs t) : ∀ u ∈ cs, u.oneCell' = true := by
  cases n with
  | zero => exact h.elim
  | succ n =>
    cases t with
    | leaf p l =>
      obtain ⟨ka, kn, kc, va, vn, vc, ca, cc, rfl, _⟩ := h
      intro u hu; simp at hu; rcases hu with rfl | rfl | rfl | rfl | rfl <;> rfl
    | node p l =>
      obtain ⟨ka, kn, kc, va, vc, ca, cn, cc, rfl, _⟩ := h
      intro u hu; simp at hu; rcases hu with rfl | rfl | rfl | rfl | rfl <;> rfl
theorem NodeIn.len {n : Nat} {w : World} {cs : List Value} {t : Tr} (h : NodeIn n w cs t) : cs.length = 5 := by
  cases n with
  | zero => exact h.elim
  | succ n =>
    cases t with
    | leaf p l => obtain ⟨ka, kn, kc, va, vn, vc, ca, cc, rfl, _⟩ := h; rfl
    | node p l => obtain ⟨ka, kn, kc, va, vc, ca, cn, cc, rfl, _⟩ := h; rfl
theorem unit_nil {α : Type} {sz : Nat} {R : List Value → α → Prop} {w : World} {a : Option Addr} {c : Nat} (h : TabR sz R w a 0 c []) : Raw sz w a 0 c [] := ⟨rfl, h.2.1, h.2.2.1, h.2.2.2.1, .inl rfl⟩
theorem nil_unit {α : Type} {sz : Nat} {R : List Value → α → Prop} {w : World} {a : Option Addr} {c : Nat} (h : Raw sz w a 0 c []) : TabR sz R w a 0 c [] := ⟨rfl, h.2.1, h.2.2.1, h.2.2.2.1, .inl rfl⟩
/-- A node opened. -/
theorem NodeIn.open {n : Nat} {w : World} {cs : List Value} {t : Tr} (h : NodeIn (n + 1) w cs t) :
    ∃ ka kn kc va vn vc ca cn cc K V C, cs = [.int .i64 t.page, .bool t.isLeaf, .slice ka kn kc, .slice va vn vc, .slice ca cn cc] ∧ Raw 1 w ka kn kc K ∧ Raw 2 w va vn vc V ∧ Raw 5 w ca cn cc C ∧ NodeR n w K V C t := by
  cases t with
  | leaf p l =>
    obtain ⟨ka, kn, kc, va, vn, vc, ca, cc, e, h1, h2, h3⟩ := h
    obtain ⟨K, k1, k2⟩ := TabR.raw h1 (fun _ _ h => h.one)
    obtain ⟨V, v1, v2⟩ := TabR.raw h2 (fun _ _ h => h.one)
    exact ⟨ka, kn, kc, va, vn, vc, ca, 0, cc, K, V, [], e, k1, v1, unit_nil h3, k2, v2, rfl⟩
  | node p l =>
    obtain ⟨ka, kn, kc, va, vc, ca, cn, cc, e, h1, h2, h3⟩ := h
    obtain ⟨K, k1, k2⟩ := TabR.raw h1 (fun _ _ h => h.one)
    obtain ⟨C, c1, c2⟩ := TabR.raw h3 (fun _ _ h => h.one)
    exact ⟨ka, kn, kc, va, 0, vc, ca, cn, cc, K, [], C, e, k1, unit_nil h2, c1, k2, rfl, c2⟩
/-- A node shut. -/
theorem NodeIn.shut {n : Nat} {w : World} {t : Tr} {ka : Option Addr} {kn kc : Nat} {va : Option Addr} {vn vc : Nat} {ca : Option Addr} {cn cc : Nat} {K : List (Cl 1)} {V : List (Cl 2)} {C : List (Cl 5)}
    (h1 : Raw 1 w ka kn kc K) (h2 : Raw 2 w va vn vc V) (h3 : Raw 5 w ca cn cc C) (h : NodeR n w K V C t) :
    NodeIn (n + 1) w [.int .i64 t.page, .bool t.isLeaf, .slice ka kn kc, .slice va vn vc, .slice ca cn cc] t := by
  cases t with
  | leaf p l =>
    obtain ⟨g1, g2, rfl⟩ := h
    have := h3.1
    simp at this
    subst this
    exact ⟨ka, kn, kc, va, vn, vc, ca, cc, rfl, h1.tab g1, h2.tab g2, nil_unit h3⟩
  | node p l =>
    obtain ⟨g1, rfl, g2⟩ := h
    have := h2.1
    simp at this
    subst this
    exact ⟨ka, kn, kc, va, vc, ca, cn, cc, rfl, h1.tab g1, nil_unit h2, h3.tab g2⟩
theorem NodeR.below {n : Nat} {w w' : World} {K : List (Cl 1)} {V : List (Cl 2)} {C : List (Cl 5)} {t : Tr} (h : NodeR n w K V C t) (hb : Below w.heap.size w w') : NodeR n w' K V C t := by
  cases t with
  | leaf p l => exact ⟨h.1, h.2.1.mono (fun _ _ _ h => h.below hb), h.2.2⟩
  | node p l => exact ⟨h.1, h.2.1, h.2.2.mono (fun _ _ _ h => NodeIn.below h hb)⟩
theorem NodeR.keys {n : Nat} {w : World} {K : List (Cl 1)} {V : List (Cl 2)} {C : List (Cl 5)} {t : Tr} (h : NodeR n w K V C t) : Tells IsKey K t.keys := by
  cases t with
  | leaf p l => exact h.1
  | node p l => exact h.1
theorem keys_len (t : Tr) : t.keys.length = cntT t := by cases t <;> simp [Tr.keys, keysOf, cntT]
theorem NodeR.lens {n : Nat} {w : World} {K : List (Cl 1)} {V : List (Cl 2)} {C : List (Cl 5)} {t : Tr} (h : NodeR n w K V C t) : K.length = cntT t ∧ V.length = (if t.isLeaf then cntT t else 0) ∧ C.length = (if t.isLeaf then 0 else cntT t) := by
  refine ⟨by rw [h.keys.1, keys_len], ?_⟩
  cases t with
  | leaf p l => exact ⟨by rw [h.2.1.1]; simp [Tr.isLeaf, cntT], by rw [h.2.2]; simp [Tr.isLeaf]⟩
  | node p l => exact ⟨by rw [h.2.1]; simp [Tr.isLeaf], by rw [h.2.2.1]; simp [Tr.isLeaf, cntT]⟩
/-- A node that a call answers. -/
def NodePost (n : Nat) (w : World) (t : Tr) (e : Ending) (w' : World) : Prop := ∃ cs, e = .returned (.agg cs.toArray) ∧ NodeIn n w' cs t ∧ Below w.heap.size w w'
/-- A key as a raw cell. -/
def kCell (k : List UInt8) : Cl 1 := ⟨[.string (strOf k)], rfl, by intro u hu; simp at hu; subst hu; rfl⟩
theorem kCell_is (k : List UInt8) : IsKey (kCell k).1 k := rfl
theorem Tells.key {K : List (Cl 1)} {l : List (List UInt8)} (h : Tells IsKey K l) {i : Nat} (hi : i < l.length) : K[i]? = some (kCell (l[i]?.getD [])) := by
  have hk : i < K.length := by rw [h.1]; exact hi
  have hx : K[i]? = some K[i] := List.getElem?_eq_getElem hk
  have := h.2 i _ _ hx (List.getElem?_eq_getElem hi)
  rw [hx, List.getElem?_eq_getElem hi]
  congr 1
  exact Subtype.ext this
theorem Tells.keys {K : List (Cl 1)} {l : List (List UInt8)} (h : Tells IsKey K l) : K = l.map kCell := by
  apply List.ext_getElem?
  intro i
  by_cases hi : i < l.length
  · rw [h.key hi]; simp [hi]
  · rw [List.getElem?_eq_none (by rw [h.1]; omega), List.getElem?_eq_none (by simp; omega)]
theorem tells_keys (l : List (List UInt8)) : Tells IsKey (l.map kCell) l := ⟨by simp, fun i x y hx hy => by
  simp [hy] at hx; subst hx; rfl⟩
theorem Raw.key_at {w : World} {a : Option Addr} {n c : Nat} {l : List (List UInt8)} (h : Raw 1 w a n c (l.map kCell)) {k : Nat} (hk : k < n) :
    ∃ b off, a = some ⟨b, off, none⟩ ∧ b < w.heap.size ∧ w.cell? ⟨b, off + k, none⟩ = some (.string (strOf (l[k]?.getD []))) := by
  obtain ⟨b, off, y, cs, e1, e2, e3, _, e5, e6⟩ := TabR.at h hk
  have hl := h.1
  have hkl : k < l.length := by simpa using (show k < (l.map kCell).length by omega)
  simp [hkl] at e3
  subst e3
  have e5 : cs = _ := e5
  subst e5
  have := e6 0 _ rfl
  refine ⟨b, off, e1, e2, ?_⟩
  simpa [hkl] using this
end Go.Proofs.YtpghlmcoajaiiaaGreatDoor

/- Nodes that stand on some blocks alone. -/
namespace Go.Proofs.YtpghlmcoajaiiaaGreatDoor
open Go.RowKit

/-- A slice's block is one of some. -/
def Fa (F : Nat → Prop) (a : Option Addr) (n : Nat) : Prop := n = 0 ∨ ∀ b off, a = some ⟨b, off, none⟩ → F b
theorem Fa.mono {F G : Nat → Prop} {a : Option Addr} {n : Nat} (h : Fa F a n) (hFG : ∀ b, F b → G b) : Fa G a n := h.imp id fun h b off e => hFG b (h b off e)
theorem Fa.zero (F : Nat → Prop) (a : Option Addr) : Fa F a 0 := .inl rfl
theorem Fa.of_own {F : Nat → Prop} {w : World} {base : Nat} {e : TypeId} {sz : Nat} {a : Option Addr} {n c m : Nat} {xs : List Value} (h : w.ownsRow base e sz (.slice a n c) m xs) (hF : ∀ b, base ≤ b → F b) : Fa F a n := by
  right
  intro b off e
  subst e
  rcases h.2 with ⟨h, _⟩ | ⟨g, cap, cur, h, hb, _⟩
  · cases h
  · cases h; exact hF _ hb
/-- Worlds that have the same of some blocks. -/
def AgreeF (F : Nat → Prop) (w w' : World) : Prop := w.heap.size ≤ w'.heap.size ∧ ∀ b, F b → b < w.heap.size → w'.heap[b]? = w.heap[b]?
theorem AgreeF.of_below {F : Nat → Prop} {w w' : World} (h : Below w.heap.size w w') : AgreeF F w w' := ⟨h.size, fun b _ hb => h.block b hb⟩
theorem AgreeF.trans {F : Nat → Prop} {a b c : World} (h : AgreeF F a b) (g : AgreeF F b c) : AgreeF F a c := ⟨Nat.le_trans h.1 g.1, fun k hk hlt => (g.2 k hk (Nat.lt_of_lt_of_le hlt h.1)).trans (h.2 k hk hlt)⟩
theorem AgreeF.set {F : Nat → Prop} {a w : World} (h : AgreeF F a w) {p : Addr} {u : Value} (hp : ¬ F p.block ∨ a.heap.size ≤ p.block) : AgreeF F a (w.setCell p u) := by
  refine ⟨by simpa using h.1, fun b hF hb => ?_⟩
  rw [Below.heap_setCell w p u b (fun e => by subst e; rcases hp with hp | hp; exact hp hF; omega)]
  exact h.2 b hF hb
theorem AgreeF.cell {F : Nat → Prop} {w w' : World} (h : AgreeF F w w') {b o : Nat} (hF : F b) (hb : b < w.heap.size) : w'.cell? ⟨b, o, none⟩ = w.cell? ⟨b, o, none⟩ := World.cell?_of_block (h.2 b hF hb)
theorem TabR.agree {α : Type} {sz : Nat} {R R' : List Value → α → Prop} {F : Nat → Prop} {w w' : World} {a : Option Addr} {len cap : Nat} {l : List α} (h : TabR sz R w a len cap l) (hF : Fa F a len) (ha : AgreeF F w w') (hR : ∀ cs y, y ∈ l → R cs y → R' cs y) : TabR sz R' w' a len cap l := by
  obtain ⟨h1, h2, h3, hn, h4⟩ := h
  refine ⟨h1, h2, h3, hn, ?_⟩
  rcases h4 with h4 | ⟨b, off, h5, h6, h7⟩
  · exact .inl h4
  · rcases hF with hF | hF
    · exact .inl hF
    · exact .inr ⟨b, off, h5, Nat.lt_of_lt_of_le h6 ha.1, fun i y hy => by
        obtain ⟨cs, c1, c2, c3⟩ := h7 i y hy
        exact ⟨cs, c1, hR _ _ (List.mem_of_getElem? hy) c2, fun j v hv => (ha.cell (hF b off h5) h6).trans (c3 j v hv)⟩⟩
theorem Row.agree {k : IntKind} {F : Nat → Prop} {w w' : World} {a : Option Addr} {len cap : Nat} {l : List Int} (h : Row k w a len cap l) (hF : Fa F a len) (ha : AgreeF F w w') : Row k w' a len cap l := by
  obtain ⟨h1, h2, h3, hn, h4⟩ := h
  refine ⟨h1, h2, h3, hn, ?_⟩
  rcases h4 with h4 | ⟨b, off, h5, h6, h7⟩
  · exact .inl h4
  · rcases hF with hF | hF
    · exact .inl hF
    · exact .inr ⟨b, off, h5, Nat.lt_of_lt_of_le h6 ha.1, fun i hi => (ha.cell (hF b off h5) h6).trans (h7 i hi)⟩
theorem TabR.block {α : Type} {sz : Nat} {R : List Value → α → Prop} {w : World} {a : Option Addr} {len cap : Nat} {l : List α} (h : TabR sz R w a len cap l) : Fa (fun b => b < w.heap.size) a len := by
  rcases h.2.2.2.2 with h4 | ⟨b, off, h5, h6, _⟩
  · exact .inl h4
  · exact .inr fun b' off' e => by rw [h5] at e; cases e; exact h6
theorem Row.block {k : IntKind} {w : World} {a : Option Addr} {len cap : Nat} {l : List Int} (h : Row k w a len cap l) : Fa (fun b => b < w.heap.size) a len := by
  rcases h.2.2.2.2 with h4 | ⟨b, off, h5, h6, _⟩
  · exact .inl h4
  · exact .inr fun b' off' e => by rw [h5] at e; cases e; exact h6
theorem Fa.and {F G : Nat → Prop} {a : Option Addr} {n : Nat} (h : Fa F a n) (g : Fa G a n) : Fa (fun b => F b ∧ G b) a n := by
  rcases h with h | h
  · exact .inl h
  · rcases g with g | g
    · exact .inl g
    · exact .inr fun b off e => ⟨h b off e, g b off e⟩
theorem unit_any {α β : Type} {sz : Nat} {R : List Value → α → Prop} {R' : List Value → β → Prop} {w w' : World} {a : Option Addr} {c : Nat} (h : TabR sz R w a 0 c []) : TabR sz R' w' a 0 c [] := ⟨rfl, h.2.1, h.2.2.1, h.2.2.2.1, .inl rfl⟩
def TvOn (F : Nat → Prop) (w : World) (cs : List Value) (v : Tv) : Prop := ∃ a n c, cs = [.string (strOf v.data), .slice a n c] ∧ Row .i64 w a n c v.pages ∧ Fa F a n
theorem TvOn.toIn {F : Nat → Prop} {w : World} {cs : List Value} {v : Tv} (h : TvOn F w cs v) : IsTv w cs v := by
  obtain ⟨a, n, c, e, h1, _⟩ := h
  exact ⟨a, n, c, e, h1⟩
theorem TvOn.agree {F : Nat → Prop} {w w' : World} {cs : List Value} {v : Tv} (h : TvOn F w cs v) (ha : AgreeF F w w') : TvOn F w' cs v := by
  obtain ⟨a, n, c, e, h1, h2⟩ := h
  exact ⟨a, n, c, e, h1.agree h2 ha, h2⟩
theorem TvOn.mono {F G : Nat → Prop} {w : World} {cs : List Value} {v : Tv} (h : TvOn F w cs v) (hFG : ∀ b, F b → G b) : TvOn G w cs v := by
  obtain ⟨a, n, c, e, h1, h2⟩ := h
  exact ⟨a, n, c, e, h1, h2.mono hFG⟩
/-- A node's cells, all of it on some blocks. -/
def NodeOn (F : Nat → Prop) : Nat → World → List Value → Tr → Prop
  | 0, _, _, _ => False
  | _ + 1, w, cs, .leaf p l => ∃ ka kn kc va vn vc ca cc, cs = [.int .i64 p, .bool true, .slice ka kn kc, .slice va vn vc, .slice ca 0 cc] ∧ KeysIn w ka kn kc (keysOf l) ∧ Fa F ka kn ∧ TabR 2 (TvOn F w) w va vn vc (l.map (·.2)) ∧ Fa F va vn ∧ TabR 5 (fun _ (_ : Unit) => True) w ca 0 cc []
  | n + 1, w, cs, .node p l => ∃ ka kn kc va vc ca cn cc, cs = [.int .i64 p, .bool false, .slice ka kn kc, .slice va 0 vc, .slice ca cn cc] ∧ KeysIn w ka kn kc (keysOf l) ∧ Fa F ka kn ∧ TabR 2 (fun _ (_ : Unit) => True) w va 0 vc [] ∧ TabR 5 (NodeOn F n w) w ca cn cc (l.map (·.2)) ∧ Fa F ca cn
theorem NodeOn.toIn {F : Nat → Prop} : ∀ {n : Nat} {w : World} {cs : List Value} {t : Tr}, NodeOn F n w cs t → NodeIn n w cs t
  | 0, _, _, _, h => h.elim
  | _ + 1, _, _, .leaf p l, h => by
    obtain ⟨ka, kn, kc, va, vn, vc, ca, cc, e, h1, _, h2, _, h3⟩ := h
    exact ⟨ka, kn, kc, va, vn, vc, ca, cc, e, h1, TabR.mono h2 (fun _ _ h => h.toIn), h3⟩
  | n + 1, _, _, .node p l, h => by
    obtain ⟨ka, kn, kc, va, vc, ca, cn, cc, e, h1, _, h2, h3, _⟩ := h
    exact ⟨ka, kn, kc, va, vc, ca, cn, cc, e, h1, h2, TabR.mono h3 (fun _ _ h => NodeOn.toIn h)⟩
theorem NodeIn.on : ∀ {n : Nat} {w : World} {cs : List Value} {t : Tr}, NodeIn n w cs t → NodeOn (fun b => b < w.heap.size) n w cs t
  | 0, _, _, _, h => h.elim
  | _ + 1, _, _, .leaf p l, h => by
    obtain ⟨ka, kn, kc, va, vn, vc, ca, cc, e, h1, h2, h3⟩ := h
    exact ⟨ka, kn, kc, va, vn, vc, ca, cc, e, h1, TabR.block h1, TabR.mono h2 (fun _ _ h => by obtain ⟨a, n, c, e, h⟩ := h; exact ⟨a, n, c, e, h, h.block⟩), TabR.block h2, h3⟩
  | n + 1, _, _, .node p l, h => by
    obtain ⟨ka, kn, kc, va, vc, ca, cn, cc, e, h1, h2, h3⟩ := h
    exact ⟨ka, kn, kc, va, vc, ca, cn, cc, e, h1, TabR.block h1, h2, TabR.mono h3 (fun _ _ h => NodeIn.on h), TabR.block h3⟩
theorem NodeOn.agree {F : Nat → Prop} : ∀ {n : Nat} {w w' : World} {cs : List Value} {t : Tr}, NodeOn F n w cs t → AgreeF F w w' → NodeOn F n w' cs t
  | 0, _, _, _, _, h, _ => h.elim
  | _ + 1, _, _, _, .leaf p l, h, ha => by
    obtain ⟨ka, kn, kc, va, vn, vc, ca, cc, e, h1, f1, h2, f2, h3⟩ := h
    exact ⟨ka, kn, kc, va, vn, vc, ca, cc, e, TabR.agree h1 f1 ha (fun _ _ _ h => h), f1, TabR.agree h2 f2 ha (fun _ _ _ h => h.agree ha), f2, unit_any h3⟩
  | n + 1, _, _, _, .node p l, h, ha => by
    obtain ⟨ka, kn, kc, va, vc, ca, cn, cc, e, h1, f1, h2, h3, f3⟩ := h
    exact ⟨ka, kn, kc, va, vc, ca, cn, cc, e, TabR.agree h1 f1 ha (fun _ _ _ h => h), f1, unit_any h2, TabR.agree h3 f3 ha (fun _ _ _ h => NodeOn.agree h ha), f3⟩
theorem NodeOn.below {F : Nat → Prop} {n : Nat} {w w' : World} {cs : List Value} {t : Tr} (h : NodeOn F n w cs t) (hb : Below w.heap.size w w') : NodeOn F n w' cs t := h.agree (.of_below hb)
theorem NodeOn.mono {F G : Nat → Prop} (hFG : ∀ b, F b → G b) : ∀ {n : Nat} {w : World} {cs : List Value} {t : Tr}, NodeOn F n w cs t → NodeOn G n w cs t
  | 0, _, _, _, h => h.elim
  | _ + 1, _, _, .leaf p l, h => by
    obtain ⟨ka, kn, kc, va, vn, vc, ca, cc, e, h1, f1, h2, f2, h3⟩ := h
    exact ⟨ka, kn, kc, va, vn, vc, ca, cc, e, h1, f1.mono hFG, TabR.mono h2 (fun _ _ h => h.mono hFG), f2.mono hFG, h3⟩
  | n + 1, _, _, .node p l, h => by
    obtain ⟨ka, kn, kc, va, vc, ca, cn, cc, e, h1, f1, h2, h3, f3⟩ := h
    exact ⟨ka, kn, kc, va, vc, ca, cn, cc, e, h1, f1.mono hFG, h2, TabR.mono h3 (fun _ _ h => NodeOn.mono hFG h), f3.mono hFG⟩
theorem NodeOn.lt {F : Nat → Prop} : ∀ {n : Nat} {w : World} {cs : List Value} {t : Tr}, NodeOn F n w cs t → NodeOn (fun b => F b ∧ b < w.heap.size) n w cs t
  | 0, _, _, _, h => h.elim
  | _ + 1, _, _, .leaf p l, h => by
    obtain ⟨ka, kn, kc, va, vn, vc, ca, cc, e, h1, f1, h2, f2, h3⟩ := h
    exact ⟨ka, kn, kc, va, vn, vc, ca, cc, e, h1, f1.and (TabR.block h1), TabR.mono h2 (fun _ _ h => by obtain ⟨a, n, c, e, h, f⟩ := h; exact ⟨a, n, c, e, h, f.and h.block⟩), f2.and (TabR.block h2), h3⟩
  | n + 1, _, _, .node p l, h => by
    obtain ⟨ka, kn, kc, va, vc, ca, cn, cc, e, h1, f1, h2, h3, f3⟩ := h
    exact ⟨ka, kn, kc, va, vc, ca, cn, cc, e, h1, f1.and (TabR.block h1), h2, TabR.mono h3 (fun _ _ h => NodeOn.lt h), f3.and (TabR.block h3)⟩
theorem NodeOn.more {F : Nat → Prop} : ∀ {n m : Nat} {w : World} {cs : List Value} {t : Tr}, NodeOn F n w cs t → n ≤ m → NodeOn F m w cs t
  | 0, _, _, _, _, h, _ => h.elim
  | n + 1, 0, _, _, _, _, h => by omega
  | _ + 1, _ + 1, _, _, .leaf p l, h, _ => h
  | n + 1, m + 1, _, _, .node p l, h, hm => by
    obtain ⟨ka, kn, kc, va, vc, ca, cn, cc, e, h1, f1, h2, h3, f3⟩ := h
    exact ⟨ka, kn, kc, va, vc, ca, cn, cc, e, h1, f1, h2, TabR.mono h3 (fun _ _ h => NodeOn.more h (by omega)), f3⟩
def NodeRF (F : Nat → Prop) (n : Nat) (w : World) (K : List (Cl 1)) (V : List (Cl 2)) (C : List (Cl 5)) : Tr → Prop
  | .leaf _ l => Tells IsKey K (keysOf l) ∧ Tells (TvOn F w) V (l.map (·.2)) ∧ C = []
  | .node _ l => Tells IsKey K (keysOf l) ∧ V = [] ∧ Tells (NodeOn F n w) C (l.map (·.2))
theorem NodeRF.agree {F : Nat → Prop} {n : Nat} {w w' : World} {K : List (Cl 1)} {V : List (Cl 2)} {C : List (Cl 5)} {t : Tr} (h : NodeRF F n w K V C t) (ha : AgreeF F w w') : NodeRF F n w' K V C t := by
  cases t with
  | leaf p l => exact ⟨h.1, h.2.1.mono (fun _ _ _ h => h.agree ha), h.2.2⟩
  | node p l => exact ⟨h.1, h.2.1, h.2.2.mono (fun _ _ _ h => NodeOn.agree h ha)⟩
theorem NodeRF.below {F : Nat → Prop} {n : Nat} {w w' : World} {K : List (Cl 1)} {V : List (Cl 2)} {C : List (Cl 5)} {t : Tr} (h : NodeRF F n w K V C t) (hb : Below w.heap.size w w') : NodeRF F n w' K V C t := h.agree (.of_below hb)
theorem NodeRF.mono {F G : Nat → Prop} {n : Nat} {w : World} {K : List (Cl 1)} {V : List (Cl 2)} {C : List (Cl 5)} {t : Tr} (h : NodeRF F n w K V C t) (hFG : ∀ b, F b → G b) : NodeRF G n w K V C t := by
  cases t with
  | leaf p l => exact ⟨h.1, h.2.1.mono (fun _ _ _ h => h.mono hFG), h.2.2⟩
  | node p l => exact ⟨h.1, h.2.1, h.2.2.mono (fun _ _ _ h => NodeOn.mono hFG h)⟩
theorem NodeRF.toR {F : Nat → Prop} {n : Nat} {w : World} {K : List (Cl 1)} {V : List (Cl 2)} {C : List (Cl 5)} {t : Tr} (h : NodeRF F n w K V C t) : NodeR n w K V C t := by
  cases t with
  | leaf p l => exact ⟨h.1, h.2.1.mono (fun _ _ _ h => h.toIn), h.2.2⟩
  | node p l => exact ⟨h.1, h.2.1, h.2.2.mono (fun _ _ _ h => h.toIn)⟩
theorem NodeOn.one {F : Nat → Prop} {n : Nat} {w : World} {cs : List Value} {t : Tr} (h : NodeOn F n w cs t) : ∀ u ∈ cs, u.oneCell' = true := h.toIn.one
/-- A node opened. -/
theorem NodeOn.open {F : Nat → Prop} {n : Nat} {w : World} {cs : List Value} {t : Tr} (h : NodeOn F (n + 1) w cs t) :
    ∃ ka kc va vn vc ca cn cc V C, cs = [.int .i64 t.page, .bool t.isLeaf, .slice ka (cntT t) kc, .slice va vn vc, .slice ca cn cc] ∧ Raw 1 w ka (cntT t) kc (t.keys.map kCell) ∧ Raw 2 w va vn vc V ∧ Raw 5 w ca cn cc C ∧ NodeRF F n w (t.keys.map kCell) V C t ∧ Fa F ka (cntT t) ∧ Fa F va vn ∧ Fa F ca cn := by
  cases t with
  | leaf p l =>
    obtain ⟨ka, kn, kc, va, vn, vc, ca, cc, e, h1, f1, h2, f2, h3⟩ := h
    obtain ⟨K, k1, k2⟩ := TabR.raw h1 (fun _ _ h => h.one)
    obtain ⟨V, v1, v2⟩ := TabR.raw h2 (fun _ _ h => h.toIn.one)
    obtain rfl := k2.keys
    have hn := k1.1
    simp [keysOf] at hn
    subst hn
    exact ⟨ka, kc, va, vn, vc, ca, 0, cc, V, [], e, k1, v1, unit_nil h3, ⟨k2, v2, rfl⟩, f1, f2, Fa.zero _ _⟩
  | node p l =>
    obtain ⟨ka, kn, kc, va, vc, ca, cn, cc, e, h1, f1, h2, h3, f3⟩ := h
    obtain ⟨K, k1, k2⟩ := TabR.raw h1 (fun _ _ h => h.one)
    obtain ⟨C, c1, c2⟩ := TabR.raw h3 (fun _ _ h => h.one)
    obtain rfl := k2.keys
    have hn := k1.1
    simp [keysOf] at hn
    subst hn
    exact ⟨ka, kc, va, 0, vc, ca, cn, cc, [], C, e, k1, unit_nil h2, c1, ⟨k2, rfl, c2⟩, f1, Fa.zero _ _, f3⟩
/-- A node shut. -/
theorem NodeOn.shut {F : Nat → Prop} {n : Nat} {w : World} {t : Tr} {ka : Option Addr} {kn kc : Nat} {va : Option Addr} {vn vc : Nat} {ca : Option Addr} {cn cc : Nat} {V : List (Cl 2)} {C : List (Cl 5)} {p : Int} {lf : Bool} {K : List (Cl 1)}
    (hp : t.page = p) (hl : t.isLeaf = lf) (hk : t.keys.map kCell = K) (h1 : Raw 1 w ka kn kc K) (h2 : Raw 2 w va vn vc V) (h3 : Raw 5 w ca cn cc C) (f1 : Fa F ka kn) (f2 : Fa F va vn) (f3 : Fa F ca cn) (h : NodeRF F n w (t.keys.map kCell) V C t) :
    NodeOn F (n + 1) w [.int .i64 p, .bool lf, .slice ka kn kc, .slice va vn vc, .slice ca cn cc] t := by
  subst hp hl hk
  cases t with
  | leaf p l =>
    obtain ⟨g1, g2, rfl⟩ := h
    have := h3.1
    simp at this
    subst this
    exact ⟨ka, kn, kc, va, vn, vc, ca, cc, rfl, h1.tab g1, f1, h2.tab g2, f2, nil_unit h3⟩
  | node p l =>
    obtain ⟨g1, rfl, g2⟩ := h
    have := h2.1
    simp at this
    subst this
    exact ⟨ka, kn, kc, va, vc, ca, cn, cc, rfl, h1.tab g1, f1, nil_unit h2, h3.tab g2, f3⟩
/-- The blocks that were allowed, and those that have come since. -/
def Fr (F : Nat → Prop) (w : World) (b : Nat) : Prop := F b ∨ w.heap.size ≤ b
theorem Fr.old {F : Nat → Prop} {w : World} (b : Nat) (h : F b) : Fr F w b := .inl h
theorem Fr.new {F : Nat → Prop} {w : World} {B : Nat} (hB : w.heap.size ≤ B) (b : Nat) (h : B ≤ b) : Fr F w b := .inr (Nat.le_trans hB h)
/-- A node that a call answers. -/
def NodeTo (F : Nat → Prop) (n : Nat) (w : World) (t : Tr) (e : Ending) (w' : World) : Prop := ∃ cs, e = .returned (.agg cs.toArray) ∧ NodeOn (Fr F w) n w' cs t ∧ Below w.heap.size w w'
end Go.Proofs.YtpghlmcoajaiiaaGreatDoor

/- Keys, compared. -/
namespace Go.Proofs.YtpghlmcoajaiiaaGreatDoor
open Go.RowKit

theorem bytes_lessT : ∀ (x y : List UInt8), Op.bytesLess x y = decide (x < y)
  | [], [] => by simp [Op.bytesLess]
  | _ :: _, [] => by simp [Op.bytesLess]
  | [], _ :: _ => by simp [Op.bytesLess]
  | a :: x, b :: y => by
    rw [Op.bytesLess, bytes_lessT x y]
    simp only [List.cons_lt_cons_iff]
    by_cases h1 : a < b <;> by_cases h2 : a = b <;> by_cases h3 : x < y <;> simp [h1, h2, h3]
theorem leq_lt (a b : List UInt8) : (decide (a < b) || a == b) = !decide (b < a) := by
  rcases ktri a b with h | h | h
  · simp [h, klt_asymm h]
  · subst h; simp [klt_irrefl]
  · have hne : (a == b) = false := by rw [beq_eq_false_iff_ne]; intro e; subst e; exact klt_irrefl _ h
    simp [h, klt_asymm h, hne]
theorem run_leqT (a b : List UInt8) (w : World) : (binOp .leq 9 (.string (strOf a)) (.string (strOf b))).run Tryz.prog w = .ok (.bool (!decide (b < a))) w := by
  rw [← leq_lt]
  simp [binOp, Op.stringOp, strOf_toList, bytes_lessT]
theorem run_lssT (a b : List UInt8) (w : World) : (binOp .lss 9 (.string (strOf a)) (.string (strOf b))).run Tryz.prog w = .ok (.bool (decide (a < b))) w := by
  simp [binOp, Op.stringOp, strOf_toList, bytes_lessT]
theorem run_geqT (a b : List UInt8) (w : World) : (binOp .geq 9 (.string (strOf a)) (.string (strOf b))).run Tryz.prog w = .ok (.bool (!decide (a < b))) w := by
  simp [binOp, Op.stringOp, strOf_toList, bytes_lessT]
theorem run_gtrT (a b : List UInt8) (w : World) : (binOp .gtr 9 (.string (strOf a)) (.string (strOf b))).run Tryz.prog w = .ok (.bool (decide (b < a))) w := by
  have e : (!decide (a < b) && !a == b) = decide (b < a) := by
    have := leq_lt a b
    rw [← Bool.not_or, this]; simp
  rw [← e]
  simp [binOp, Op.stringOp, strOf_toList, bytes_lessT]
/-- What the walks ask of two keys. -/
theorem cmp_lt {a b : List UInt8} (h : a < b) : Op.bytesLess (strOf a).toList (strOf b).toList = true ∧ ((strOf a).toList == (strOf b).toList) = false ∧ Op.bytesLess (strOf b).toList (strOf a).toList = false ∧ ((strOf b).toList == (strOf a).toList) = false := by
  have hne : a ≠ b := fun e => by subst e; exact klt_irrefl _ h
  rw [strOf_toList, strOf_toList, bytes_lessT, bytes_lessT]
  exact ⟨by simpa using h, by simpa using hne, by simpa using klt_asymm h, by simpa using fun e => hne e.symm⟩
theorem cmp_eq (a : List UInt8) : Op.bytesLess (strOf a).toList (strOf a).toList = false ∧ ((strOf a).toList == (strOf a).toList) = true := by
  rw [strOf_toList, bytes_lessT]
  exact ⟨by simp, by simp⟩
theorem str_nil (k : List UInt8) : ((strOf k).toList = []) = (k = []) := by rw [strOf_toList]
/-- What the walks ask of a key that may be empty. -/
theorem str_empty {k : List UInt8} (h : k = []) : (strOf k).toList = [] ∧ (strOf k).toList.isEmpty = true := by rw [strOf_toList, h]; exact ⟨rfl, rfl⟩
theorem str_some {k : List UInt8} (h : k ≠ []) : ¬ (strOf k).toList = [] ∧ (strOf k).toList.isEmpty = false := by
  rw [strOf_toList]
  exact ⟨h, by cases k with
    | nil => exact absurd rfl h
    | cons a r => rfl⟩
theorem cmp_lt2 {a b : List UInt8} (h : a < b) : ¬ (strOf a).toList = (strOf b).toList ∧ ¬ (strOf b).toList = (strOf a).toList := by
  rw [strOf_toList, strOf_toList]
  exact ⟨fun e => by subst e; exact klt_irrefl _ h, fun e => by subst e; exact klt_irrefl _ h⟩
end Go.Proofs.YtpghlmcoajaiiaaGreatDoor

/- The walks of trees: which kid has a key; a key looked for in a row. -/
namespace Go.Proofs.YtpghlmcoajaiiaaGreatDoor
open Go.RowKit

/-- A node opened, its keys told. -/
theorem NodeIn.openK {n : Nat} {w : World} {cs : List Value} {t : Tr} (h : NodeIn (n + 1) w cs t) :
    ∃ ka kc va vn vc ca cn cc V C, cs = [.int .i64 t.page, .bool t.isLeaf, .slice ka (cntT t) kc, .slice va vn vc, .slice ca cn cc] ∧ Raw 1 w ka (cntT t) kc (t.keys.map kCell) ∧ Raw 2 w va vn vc V ∧ Raw 5 w ca cn cc C ∧ NodeR n w (t.keys.map kCell) V C t := by
  obtain ⟨ka, kn, kc, va, vn, vc, ca, cn, cc, K, V, C, e, h1, h2, h3, h4⟩ := h.open
  obtain rfl := h4.keys.keys
  have := h1.1
  rw [List.length_map, keys_len] at this
  subst this
  exact ⟨ka, kc, va, vn, vc, ca, cn, cc, V, C, e, h1, h2, h3, h4⟩

set_option maxRecDepth 100000 in
set_option maxHeartbeats 2000000 in
theorem tway_any {n : Nat} {w : World} {cs : List Value} {t : Tr} (h : NodeIn n w cs t) (key : List UInt8) (hc : cntT t ≤ 1000) :
    Calls Tryz.prog 157 #[.agg cs.toArray, .string (strOf key)] w fun e w' => e = .returned (.int .i64 (wayF t.keys key : Int)) ∧ Below w.heap.size w w' := by
  cases n with
  | zero => exact h.elim
  | succ n =>
  obtain ⟨a, c, va, vn, vc, ca, cn, cc, V, C, rfl, h1, _⟩ := h.openK
  obtain ⟨_, h2, h3⟩ := h1.lens
  have HC := Lib.hid h1
  have hA : Below w.heap.size w (w.alloc (.cells #[.int .i64 t.page, .bool t.isLeaf, .slice a (cntT t) c, .slice va vn vc, .slice ca cn cc] 50)) := (Below.refl _ _).alloc (Nat.le_refl _) _
  have HBX := Lib.hid ((Boxes.nil w).alloc #[.int .i64 t.page, .bool t.isLeaf, .slice a (cntT t) c, .slice va vn vc, .slice ca cn cc] 50 rfl)
  have HW : Hid (wayF t.keys key = wayD t.keys key (cntT t - 1)) := Lib.hid (by unfold wayF; rw [keys_len])
  generalize t.keys = K at *
  generalize cntT t = m at *
  generalize t.page = pg at *
  generalize t.isLeaf = lf at *
  obtain ⟨R, hR⟩ : ∃ R, wayF K key = R := ⟨_, rfl⟩
  rw [hR] at HW ⊢
  obtain ⟨wA, hwA⟩ : ∃ wA, w.alloc (.cells #[.int .i64 pg, .bool lf, .slice a m c, .slice va vn vc, .slice ca cn cc] 50) = wA := ⟨_, rfl⟩
  rw [hwA] at hA HBX
  have HA := Lib.hid hA
  have f2 := HBX.out.cell 0 2 rfl rfl
  clear h h1 hR hA
  go_enter Tryz.func157, Tryz.ntmps157
  go_wp2_with fail
  clear hwA
  go_loop [5] (fun s => (m = 0 ∧ s = .int .i64 (-1)) ∨ (0 < m ∧ ∃ i : Nat, i < m ∧ s = .int .i64 i ∧ R = wayD K key i)) (fun s => (intOf s).toNat)
  case atStart =>
    by_cases h0 : m = 0
    · exact .inl ⟨h0, by rw [h0]; rfl⟩
    · exact .inr ⟨by omega, m - 1, by omega, by congr 1; omega, HW.out⟩
  case round =>
    rcases hrel with ⟨rfl, rfl⟩ | ⟨hm, i, hi, rfl, hr⟩
    · go_wp2_with fail
      go_ret
      exact ⟨ret_int (by rw [HW.out]; rfl), HA.out⟩
    · cases i with
      | zero =>
        have HR := Lib.hid hr
        clear hr
        go_wp2_with fail
        go_ret
        exact ⟨ret_int (by rw [HR.out] <;> rfl), HA.out⟩
      | succ i =>
        have d0 : decide ((0 : Int) < ((i + 1 : Nat) : Int)) = true := by simp <;> omega
        obtain ⟨b, off, rfl, hb, hcell⟩ := HC.out.key_at hi
        have c1 := (HA.out.cell (p := ⟨b, off + (i + 1), none⟩) hb).trans hcell
        rw [show wayD K key (i + 1) = if key < K[i + 1]?.getD [] then wayD K key i else i + 1 from rfl] at hr
        generalize K[i + 1]?.getD [] = k at *
        clear hcell
        rcases ktri key k with hlt | rfl | hlt
        · rw [if_pos hlt] at hr
          obtain ⟨_, e3, e1, e2⟩ := cmp_lt hlt
          clear e3
          have HR := Lib.hid hr
          clear hr hlt
          go_wp2_with fail
          go_round
          case rel => exact .inr ⟨hm, i, by omega, by first | rfl | (congr 1; omega), HR.out⟩
          case measure => simp [intOf] <;> omega
        · rw [if_neg (klt_irrefl _)] at hr
          obtain ⟨e1, e2⟩ := cmp_eq key
          have HR := Lib.hid hr
          clear hr
          go_wp2_with fail
          go_ret
          exact ⟨ret_int (by rw [HR.out]; go_num), HA.out⟩
        · rw [if_neg (klt_asymm hlt)] at hr
          obtain ⟨e1, e2, e3, e4⟩ := cmp_lt hlt
          clear e3 e4
          have HR := Lib.hid hr
          clear hr hlt
          go_wp2_with fail
          go_ret
          exact ⟨ret_int (by rw [HR.out]; go_num), HA.out⟩
theorem cnan (s : ByteArray) (w : World) : Calls Tryz.prog 205 #[.string s] w fun e w' => e = .returned (.bool false) ∧ w = w' := by
  go_enter Tryz.func205, Tryz.ntmps205
  go_wp2_with fail
  go_ret
  exact ⟨by simp, rfl⟩
theorem snan (s : ByteArray) (w : World) : Calls Tryz.prog 195 #[.string s] w fun e w' => e = .returned (.bool false) ∧ w = w' := by
  go_enter Tryz.func195, Tryz.ntmps195
  go_wp2_with fail
  go_ret
  exact ⟨by simp, rfl⟩
theorem less_any (a b : List UInt8) (w : World) : Calls Tryz.prog 194 #[.string (strOf a), .string (strOf b)] w fun e w' => e = .returned (.bool (decide (a < b))) ∧ w = w' := by
  have hb : Op.bytesLess (strOf a).toList (strOf b).toList = decide (a < b) := by rw [strOf_toList, strOf_toList, bytes_lessT]
  have N := fun (s : ByteArray) (w : World) => cnan s w
  obtain ⟨d, hd⟩ : ∃ d, decide (a < b) = d := ⟨_, rfl⟩
  rw [hd] at hb ⊢
  clear hd
  go_enter Tryz.func194, Tryz.ntmps194
  go_wp2_with fail
  refine (N _ _).mono ?_
  rintro e w2 ⟨rfl, rfl⟩
  clear N
  go_wp2_with fail
  go_ret
  exact ⟨rfl, rfl⟩
set_option maxRecDepth 100000 in
set_option maxHeartbeats 4000000 in
theorem bsearch_any {w : World} {a : Option Addr} {n c : Nat} {ks : List (List UInt8)} (h : Raw 1 w a n c (ks.map kCell)) (hn : n ≤ 100000) (hs : ks.Pairwise (fun a b => a < b)) (key : List UInt8) :
    Calls Tryz.prog 159 #[.slice a n c, .string (strOf key)] w fun e w' => e = .returned (.tuple #[.int .i64 (posK key ks : Int), .bool (hasK key ks)]) ∧ w = w' := by
  obtain ⟨h1, h2, h3⟩ := h.lens
  rw [List.length_map] at h1
  have H := Lib.hid h
  have HL := Lib.hid h1
  have HS : Hid (∀ i j, i < j → j < n → ks[i]?.getD [] < ks[j]?.getD []) := Lib.hid (fun i j hij hj => pair_get hs hij (by omega))
  have L := fun (a b : List UInt8) (w : World) => less_any a b w
  clear h h1 hs
  go_enter Tryz.func159, Tryz.ntmps159
  go_wp2_with fail
  go_loop [7, 8, 9] (fun s7 s8 _ => ∃ i j : Nat, i ≤ j ∧ j ≤ n ∧ s7 = .int .i64 i ∧ s8 = .int .i64 j ∧ (∀ m, m < i → ks[m]?.getD [] < key) ∧ (∀ m, j ≤ m → m < n → ¬ ks[m]?.getD [] < key)) (fun s7 s8 _ => (intOf s8).toNat - (intOf s7).toNat)
  case atStart => exact ⟨0, n, Nat.zero_le _, Nat.le_refl _, rfl, rfl, fun m hm => by omega, fun m h1 h2 => by omega⟩
  case round =>
    obtain ⟨i, j, hij, hj, rfl, rfl, r1, r2⟩ := hrel
    have hs1 := HS.out
    have R1 := Lib.hid r1
    have R2 := Lib.hid r2
    clear r1 r2 hs1
    by_cases hlt : i < j
    · have hm : (i + j) / 2 < n := by omega
      obtain ⟨b, off, rfl, hb, hcell⟩ := H.out.key_at hm
      have d0 : decide ((i : Int) < j) = true := by simp; omega
      have d0' : decide (i < j) = true := by simp; omega
      have hb2 : 2 * ((i + j) / 2) ≤ i + j ∧ i + j ≤ 2 * ((i + j) / 2) + 1 := by omega
      have hcast : ((i : Int) + j) / 2 = ((i + j) / 2 : Nat) := by omega
      generalize (i + j) / 2 = m at *
      have HC := Lib.hid hcast
      clear hcast
      have hcm : ((i : Int) + j) / 2 = (m : Int) := HC.out
      obtain ⟨d, hd⟩ : ∃ d, decide (ks[m]?.getD [] < key) = d := ⟨_, rfl⟩
      have HD := Lib.hid hd
      obtain ⟨k, hk⟩ : ∃ k, ks[m]?.getD [] = k := ⟨_, rfl⟩
      rw [hk] at hcell HD
      have HK := Lib.hid hk
      clear hd hk
      go_wp2_with fail
      refine (L _ _ _).mono ?_
      rintro e w2 ⟨rfl, rfl⟩
      rw [HD.out]
      cases d with
      | true =>
        have HN : Hid (∀ q, q < m + 1 → ks[q]?.getD [] < key) := Lib.hid (fun q hq => by
          have hmk : ks[m]?.getD [] < key := by rw [HK.out]; exact of_decide_eq_true HD.out
          by_cases e : q = m
          · rw [e]; exact hmk
          · exact klt_trans (HS.out q m (by omega) hm) hmk)
        go_wp2_with fail
        go_round
        case rel => exact ⟨m + 1, j, by omega, hj, by go_num, rfl, HN.out, R2.out⟩
        case measure => simp [intOf]; omega
      | false =>
        have HN : Hid (∀ q, m ≤ q → q < n → ¬ ks[q]?.getD [] < key) := Lib.hid (fun q hq hqn hc => by
          have hmk : ¬ ks[m]?.getD [] < key := by rw [HK.out]; exact of_decide_eq_false HD.out
          by_cases e : q = m
          · rw [e] at hc; exact hmk hc
          · exact hmk (klt_trans (HS.out m q (by omega) hqn) hc))
        go_wp2_with fail
        go_round
        case rel => exact ⟨i, m, by omega, by omega, rfl, by go_num, R1.out, HN.out⟩
        case measure => simp [intOf]; omega
    · obtain rfl : i = j := by omega
      have hpos : posK key ks = i := posK_eq (by rw [HL.out]; exact hj) R1.out (fun h => R2.out i (Nat.le_refl _) (by rw [← HL.out]; exact h))
      have d0 : decide ((i : Int) < i) = false := by simp
      have N := fun (s : ByteArray) (w : World) => snan s w
      by_cases hin : i < n
      · obtain ⟨b, off, rfl, hb, hcell⟩ := H.out.key_at hin
        have d1 : decide ((i : Int) < n) = true := by simp; omega
        have d1' : decide (i < n) = true := by simp; omega
        have hhas : hasK key ks = (ks[i]?.getD [] == key) := by
          unfold hasK
          rw [hpos, List.getElem?_eq_getElem (by rw [HL.out]; exact hin)]
          simp
        obtain ⟨k, hk⟩ : ∃ k, ks[i]?.getD [] = k := ⟨_, rfl⟩
        rw [hk] at hcell hhas
        have HP := Lib.hid hpos
        have HH := Lib.hid hhas
        clear hk hpos hhas
        by_cases he : k = key
        · subst he
          obtain ⟨e1, e2⟩ := cmp_eq k
          go_wp2_with fail
          go_ret2
          exact ⟨by rw [HP.out, HH.out]; simp, rfl⟩
        · have e2 : ((strOf k).toList == (strOf key).toList) = false := by rw [strOf_toList, strOf_toList]; simpa using he
          have HE := Lib.hid he
          clear he
          go_wp2_with fail
          refine (N _ _).mono ?_
          rintro e w2 ⟨rfl, rfl⟩
          go_wp2_with fail
          go_ret2
          exact ⟨by rw [HP.out, HH.out]; simp [HE.out], rfl⟩
      · have d1 : decide ((i : Int) < n) = false := by simp; omega
        have d1' : decide (i < n) = false := by simp; omega
        have hhas : hasK key ks = false := by
          unfold hasK
          rw [hpos, List.getElem?_eq_none (by rw [HL.out]; omega)]
          rfl
        have HP := Lib.hid hpos
        have HH := Lib.hid hhas
        clear hpos hhas
        go_wp2_with fail
        go_ret2
        exact ⟨by rw [HP.out, HH.out]; simp, rfl⟩
end Go.Proofs.YtpghlmcoajaiiaaGreatDoor

/- Rows of keys, values and nodes: slices.Clone, Grow, Concat; tree.swap (printed by gen_rawK.py). -/
namespace Go.Proofs.YtpghlmcoajaiiaaGreatDoor
open Go.RowKit

theorem info_s : RowInfo Tryz.prog 9 1 16 := row_info (by kernel_rfl)
set_option maxRecDepth 100000 in
set_option maxHeartbeats 2000000 in
theorem clone_s {w : World} {a : Option Addr} {n c : Nat} {L : List (Cl 1)} (h : Raw 1 w a n c L) (hn : n ≤ 100000) :
    Calls Tryz.prog 203 #[.slice a n c] w (OwnRaw 9 1 w L) := by
  obtain ⟨i0, z0, hi, hz0, hz1, hz2, hz3⟩ := info_s
  obtain ⟨e1, e2, e3⟩ := h.lens
  cases a with
  | none =>
    have hc := h.2.2.2.1 rfl
    obtain rfl : n = 0 := by omega
    obtain rfl : c = 0 := by omega
    have hl0 : L = [] := List.eq_nil_of_length_eq_zero e1
    have HE : Hid (OwnRaw 9 1 w L (.returned (.slice none 0 0)) w) := Lib.hid ⟨_, rfl, by rw [hl0]; exact own_nil _ _ _ _, Below.refl _ _⟩
    clear hl0 e1 hc hz0 hz1 hz2 hz3
    have hq : ∀ W : World, (binOp .eql 46 (.slice none 0 0) (.slice none 0 0)).run Tryz.prog W = .ok (.bool true) W := fun W => Lib.run_eql_slice_nil W _ _ none 0 0 0 0 Tryz.underlying46
    go_enter Tryz.func203, Tryz.ntmps203
    go_wp2
    go_ret
    exact HE.out
  | some x =>
    have hq : ∀ W : World, (binOp .eql 46 (.slice (some x) n c) (.slice none 0 0)).run Tryz.prog W = .ok (.bool false) W := fun W => Lib.run_eql_slice_nil W _ _ (some x) n c 0 0 Tryz.underlying46
    have hB0 : Below w.heap.size w (w.alloc (.cells #[] 9)) := (Below.refl _ _).alloc (Nat.le_refl _) _
    obtain ⟨v', w', hr, ho, hg, _⟩ := run_append_raw (P := Tryz.prog) w.heap.size 46 9 i0 z0 1 16 Tryz.underlying46 hi hz0 hz1 hz2 hz3 (by decide) (L := []) (own_empty w 9 1 rfl (Nat.le_refl _)) (h.below hB0) (by unfold maxLen; omega) (by omega) hB0.size
    have HE : Hid (OwnRaw 9 1 w L (.returned v') w') := Lib.hid ⟨v', rfl, by rw [e1]; simpa using ho, hB0.grown hg hB0.size (own_ge (own_empty w 9 1 rfl (Nat.le_refl _)))⟩
    clear ho hg hB0 e1 hz0 hz1 hz2 hz3 h
    go_enter Tryz.func203, Tryz.ntmps203
    go_wp2_with (at_builtin; refine wpList_append_run rfl _ _ _ _ rfl rfl rfl hr ?_)
    go_ret
    exact HE.out
set_option maxRecDepth 100000 in
set_option maxHeartbeats 2000000 in
theorem grow_s (n : Nat) (h9 : n ≤ 100000) (w : World) :
    Calls Tryz.prog 206 #[.slice none 0 0, .int .i64 (n : Int)] w (OwnRaw 9 1 w []) := by
  have d0 : decide ((n : Int) < 0) = false := by simp
  by_cases h0 : 0 < n
  · obtain ⟨c, w', hr, hc1, hc2, ho, hb⟩ := run_grow (P := Tryz.prog) w 46 3 9 1 16 Tryz.underlying46 Tryz.underlying3 info_s (by decide) (by decide) n h0 h9
    have d1 : decide ((0 : Int) < n) = true := by simp; omega
    have d1' : decide (0 < n) = true := by simp; omega
    have HE : Hid (OwnRaw 9 1 w [] (.returned (.slice (some ⟨w.heap.size, 0, none⟩) 0 c)) w') := Lib.hid ⟨_, rfl, ho, hb⟩
    clear ho hb
    go_enter Tryz.func206, Tryz.ntmps206
    go_wp2_with (at_builtin; refine wpList_append_run rfl _ _ _ _ rfl rfl rfl hr ?_)
    go_ret
    exact HE.out
  · obtain rfl : n = 0 := by omega
    have HE : Hid (OwnRaw 9 1 w [] (.returned (.slice none 0 0)) w) := Lib.hid ⟨_, rfl, own_nil _ _ _ _, Below.refl _ _⟩
    go_enter Tryz.func206, Tryz.ntmps206
    go_wp2_with fail
    go_ret
    exact HE.out
set_option maxRecDepth 100000 in
set_option maxHeartbeats 4000000 in
theorem concat_s {w : World} {a : Option Addr} {n c : Nat} {LL : List (List (Cl 1))} (h : Raws 1 w a n c LL) (h9 : lenR LL ≤ 10000) :
    Calls Tryz.prog 196 #[.slice a n c] w (OwnRaw 9 1 w LL.flatten) := by
  obtain ⟨hl, hc, hm⟩ := TabR.lens h
  obtain ⟨i0, z0, hi, hz0, hz1, hz2, hz3⟩ := info_s
  have H := Lib.hid h
  have HL := Lib.hid hl
  have HZ := Lib.hid (show i0.zero = some z0 ∧ i0.size = 1 ∧ i0.bytes = 16 ∧ z0.cells.size = 1 from ⟨hz0, hz1, hz2, hz3⟩)
  have HI := Lib.hid hi
  clear h hl hz0 hz1 hz2 hz3 hi
  go_enter Tryz.func196, Tryz.ntmps196
  go_wp2_with fail
  go_loopw [3, 5, 11] (fun s3 s5 s11 wr => ∃ i : Nat, i ≤ n ∧ s11 = .int .i64 i ∧ s3 = .int .i64 (lenR (LL.take i) : Int) ∧ wr = w) (fun _ _ s _ => n - (intOf s).toNat)
  case atStart => exact ⟨0, Nat.zero_le _, rfl, rfl, rfl⟩
  case round =>
    obtain ⟨i, hi2, rfl, rfl, rfl⟩ := hrel
    have hle := lenR_take LL i
    by_cases hlt : i < n
    · obtain ⟨b, off, a', n', c', L, rfl, hbb, hcell, hL, hraw⟩ := H.out.at hlt
      obtain ⟨q1, q2, q3⟩ := hraw.lens
      have hsn := (lenR_succ hL).1
      have hle2 := lenR_take LL (i + 1)
      have HS := Lib.hid (show lenR (LL.take (i + 1)) = lenR (LL.take i) + n' by omega)
      have d0 : decide ((lenR (LL.take i) : Int) + (n' : Int) < 0) = false := by simp; omega
      have hle3 : lenR (LL.take i) + n' ≤ 10000 := by omega
      clear hsn hL hraw q1 hle2
      generalize lenR (LL.take i) = q at *
      go_wp2_with fail
      go_roundw
      case rel => exact ⟨i + 1, hlt, by go_num, by rw [HS.out]; go_num, by first | rfl | trivial⟩
      case measure => simp [intOf]; omega
    · obtain rfl : n = i := by omega
      obtain ⟨wB, rfl⟩ : ∃ wB, wB = wr := ⟨_, rfl⟩
      have htl : LL.take n = LL := List.take_of_length_le (by rw [HL.out]; exact Nat.le_refl _)
      rw [htl]
      have G := grow_s (lenR LL) (by omega) wB
      have HT := Lib.hid htl
      have HLE := Lib.hid h9
      clear htl hle
      obtain ⟨q, hq⟩ : ∃ q, lenR LL = q := ⟨_, rfl⟩
      rw [hq] at G ⊢
      have HQ := Lib.hid hq
      clear hq
      go_wp2_with fail
      refine G.mono ?_
      rintro e w2 ⟨v2, rfl, ho2, hb2⟩
      have HO2 := Lib.hid ho2
      have HB2 := Lib.hid hb2
      clear G ho2 hb2
      go_wp2_with fail
      go_loopw [6, 8, 27] (fun s6 s8 s27 wx => ∃ i : Nat, i ≤ n ∧ s27 = .int .i64 i ∧ wx.ownsRow wB.heap.size 9 1 s6 (lenR (LL.take i)) (flatC (LL.take i).flatten) ∧ Below wB.heap.size wB wx) (fun _ _ s _ => n - (intOf s).toNat)
      case atStart => exact ⟨0, Nat.zero_le _, rfl, HO2.out, HB2.out⟩
      case round =>
        clear HO2 HB2
        obtain ⟨i, hi2, rfl, hox, hbx⟩ := hrel
        have hle := lenR_take LL i
        by_cases hlt : i < n
        · obtain ⟨b, off, a', n', c', L, rfl, hbb, hcell, hL, hraw⟩ := (H.out.below hbx).at hlt
          obtain ⟨hs1, hs2⟩ := lenR_succ hL
          have hle2 := lenR_take LL (i + 1)
          obtain ⟨hnl, hcc, hcm⟩ := hraw.lens
          have hle9 := HLE.out
          obtain ⟨hz0, hz1, hz2, hz3⟩ := HZ.out
          obtain ⟨v10, w10, hr10, ho10, hg10, _⟩ := run_append_raw (P := Tryz.prog) wB.heap.size 46 9 i0 z0 1 16 Tryz.underlying46 HI.out hz0 hz1 hz2 hz3 (by decide) hox hraw (by unfold maxLen; omega) (by omega) hbx.size
          have HB10 := Lib.hid (hbx.grown hg10 hbx.size (own_ge hox))
          have HO10 : Hid (w10.ownsRow _ 9 1 v10 (lenR (LL.take (i + 1))) (flatC (LL.take (i + 1)).flatten)) := Lib.hid (by
            rw [hs1, hs2, hnl]; exact ho10)
          clear ho10 hg10 hox hbx hraw hs1 hs2 hnl hle hle2 hL hz0 hz1 hz2 hz3
          go_wp2_with (at_builtin; refine wpList_append_run rfl _ _ _ _ rfl rfl rfl hr10 ?_)
          go_roundw
          case rel => exact ⟨i + 1, hlt, by go_num, HO10.out, HB10.out⟩
          case measure => simp [intOf]; omega
        · obtain rfl : n = i := by omega
          rw [HT.out] at hox
          have HE : Hid (OwnRaw 9 1 _ LL.flatten (.returned u6) _) := Lib.hid ⟨_, rfl, by rw [lenR_flat]; exact hox, hbx⟩
          clear hox hbx hle
          go_wp2_with fail
          go_ret
          exact HE.out
theorem info_v : RowInfo Tryz.prog 101 2 40 := row_info (by kernel_rfl)
set_option maxRecDepth 100000 in
set_option maxHeartbeats 2000000 in
theorem clone_v {w : World} {a : Option Addr} {n c : Nat} {L : List (Cl 2)} (h : Raw 2 w a n c L) (hn : n ≤ 100000) :
    Calls Tryz.prog 209 #[.slice a n c] w (OwnRaw 101 2 w L) := by
  obtain ⟨i0, z0, hi, hz0, hz1, hz2, hz3⟩ := info_v
  obtain ⟨e1, e2, e3⟩ := h.lens
  cases a with
  | none =>
    have hc := h.2.2.2.1 rfl
    obtain rfl : n = 0 := by omega
    obtain rfl : c = 0 := by omega
    have hl0 : L = [] := List.eq_nil_of_length_eq_zero e1
    have HE : Hid (OwnRaw 101 2 w L (.returned (.slice none 0 0)) w) := Lib.hid ⟨_, rfl, by rw [hl0]; exact own_nil _ _ _ _, Below.refl _ _⟩
    clear hl0 e1 hc hz0 hz1 hz2 hz3
    have hq : ∀ W : World, (binOp .eql 47 (.slice none 0 0) (.slice none 0 0)).run Tryz.prog W = .ok (.bool true) W := fun W => Lib.run_eql_slice_nil W _ _ none 0 0 0 0 Tryz.underlying47
    go_enter Tryz.func209, Tryz.ntmps209
    go_wp2
    go_ret
    exact HE.out
  | some x =>
    have hq : ∀ W : World, (binOp .eql 47 (.slice (some x) n c) (.slice none 0 0)).run Tryz.prog W = .ok (.bool false) W := fun W => Lib.run_eql_slice_nil W _ _ (some x) n c 0 0 Tryz.underlying47
    have hB0 : Below w.heap.size w (w.alloc (.cells #[] 101)) := (Below.refl _ _).alloc (Nat.le_refl _) _
    obtain ⟨v', w', hr, ho, hg, _⟩ := run_append_raw (P := Tryz.prog) w.heap.size 47 101 i0 z0 2 40 Tryz.underlying47 hi hz0 hz1 hz2 hz3 (by decide) (L := []) (own_empty w 101 2 rfl (Nat.le_refl _)) (h.below hB0) (by unfold maxLen; omega) (by omega) hB0.size
    have HE : Hid (OwnRaw 101 2 w L (.returned v') w') := Lib.hid ⟨v', rfl, by rw [e1]; simpa using ho, hB0.grown hg hB0.size (own_ge (own_empty w 101 2 rfl (Nat.le_refl _)))⟩
    clear ho hg hB0 e1 hz0 hz1 hz2 hz3 h
    go_enter Tryz.func209, Tryz.ntmps209
    go_wp2_with (at_builtin; refine wpList_append_run rfl _ _ _ _ rfl rfl rfl hr ?_)
    go_ret
    exact HE.out
set_option maxRecDepth 100000 in
set_option maxHeartbeats 2000000 in
theorem grow_v (n : Nat) (h9 : n ≤ 100000) (w : World) :
    Calls Tryz.prog 207 #[.slice none 0 0, .int .i64 (n : Int)] w (OwnRaw 101 2 w []) := by
  have d0 : decide ((n : Int) < 0) = false := by simp
  by_cases h0 : 0 < n
  · obtain ⟨c, w', hr, hc1, hc2, ho, hb⟩ := run_grow (P := Tryz.prog) w 47 3 101 2 40 Tryz.underlying47 Tryz.underlying3 info_v (by decide) (by decide) n h0 h9
    have d1 : decide ((0 : Int) < n) = true := by simp; omega
    have d1' : decide (0 < n) = true := by simp; omega
    have HE : Hid (OwnRaw 101 2 w [] (.returned (.slice (some ⟨w.heap.size, 0, none⟩) 0 c)) w') := Lib.hid ⟨_, rfl, ho, hb⟩
    clear ho hb
    go_enter Tryz.func207, Tryz.ntmps207
    go_wp2_with (at_builtin; refine wpList_append_run rfl _ _ _ _ rfl rfl rfl hr ?_)
    go_ret
    exact HE.out
  · obtain rfl : n = 0 := by omega
    have HE : Hid (OwnRaw 101 2 w [] (.returned (.slice none 0 0)) w) := Lib.hid ⟨_, rfl, own_nil _ _ _ _, Below.refl _ _⟩
    go_enter Tryz.func207, Tryz.ntmps207
    go_wp2_with fail
    go_ret
    exact HE.out
set_option maxRecDepth 100000 in
set_option maxHeartbeats 4000000 in
theorem concat_v {w : World} {a : Option Addr} {n c : Nat} {LL : List (List (Cl 2))} (h : Raws 2 w a n c LL) (h9 : lenR LL ≤ 10000) :
    Calls Tryz.prog 197 #[.slice a n c] w (OwnRaw 101 2 w LL.flatten) := by
  obtain ⟨hl, hc, hm⟩ := TabR.lens h
  obtain ⟨i0, z0, hi, hz0, hz1, hz2, hz3⟩ := info_v
  have H := Lib.hid h
  have HL := Lib.hid hl
  have HZ := Lib.hid (show i0.zero = some z0 ∧ i0.size = 2 ∧ i0.bytes = 40 ∧ z0.cells.size = 2 from ⟨hz0, hz1, hz2, hz3⟩)
  have HI := Lib.hid hi
  clear h hl hz0 hz1 hz2 hz3 hi
  go_enter Tryz.func197, Tryz.ntmps197
  go_wp2_with fail
  go_loopw [3, 5, 11] (fun s3 s5 s11 wr => ∃ i : Nat, i ≤ n ∧ s11 = .int .i64 i ∧ s3 = .int .i64 (lenR (LL.take i) : Int) ∧ wr = w) (fun _ _ s _ => n - (intOf s).toNat)
  case atStart => exact ⟨0, Nat.zero_le _, rfl, rfl, rfl⟩
  case round =>
    obtain ⟨i, hi2, rfl, rfl, rfl⟩ := hrel
    have hle := lenR_take LL i
    by_cases hlt : i < n
    · obtain ⟨b, off, a', n', c', L, rfl, hbb, hcell, hL, hraw⟩ := H.out.at hlt
      obtain ⟨q1, q2, q3⟩ := hraw.lens
      have hsn := (lenR_succ hL).1
      have hle2 := lenR_take LL (i + 1)
      have HS := Lib.hid (show lenR (LL.take (i + 1)) = lenR (LL.take i) + n' by omega)
      have d0 : decide ((lenR (LL.take i) : Int) + (n' : Int) < 0) = false := by simp; omega
      have hle3 : lenR (LL.take i) + n' ≤ 10000 := by omega
      clear hsn hL hraw q1 hle2
      generalize lenR (LL.take i) = q at *
      go_wp2_with fail
      go_roundw
      case rel => exact ⟨i + 1, hlt, by go_num, by rw [HS.out]; go_num, by first | rfl | trivial⟩
      case measure => simp [intOf]; omega
    · obtain rfl : n = i := by omega
      obtain ⟨wB, rfl⟩ : ∃ wB, wB = wr := ⟨_, rfl⟩
      have htl : LL.take n = LL := List.take_of_length_le (by rw [HL.out]; exact Nat.le_refl _)
      rw [htl]
      have G := grow_v (lenR LL) (by omega) wB
      have HT := Lib.hid htl
      have HLE := Lib.hid h9
      clear htl hle
      obtain ⟨q, hq⟩ : ∃ q, lenR LL = q := ⟨_, rfl⟩
      rw [hq] at G ⊢
      have HQ := Lib.hid hq
      clear hq
      go_wp2_with fail
      refine G.mono ?_
      rintro e w2 ⟨v2, rfl, ho2, hb2⟩
      have HO2 := Lib.hid ho2
      have HB2 := Lib.hid hb2
      clear G ho2 hb2
      go_wp2_with fail
      go_loopw [6, 8, 27] (fun s6 s8 s27 wx => ∃ i : Nat, i ≤ n ∧ s27 = .int .i64 i ∧ wx.ownsRow wB.heap.size 101 2 s6 (lenR (LL.take i)) (flatC (LL.take i).flatten) ∧ Below wB.heap.size wB wx) (fun _ _ s _ => n - (intOf s).toNat)
      case atStart => exact ⟨0, Nat.zero_le _, rfl, HO2.out, HB2.out⟩
      case round =>
        clear HO2 HB2
        obtain ⟨i, hi2, rfl, hox, hbx⟩ := hrel
        have hle := lenR_take LL i
        by_cases hlt : i < n
        · obtain ⟨b, off, a', n', c', L, rfl, hbb, hcell, hL, hraw⟩ := (H.out.below hbx).at hlt
          obtain ⟨hs1, hs2⟩ := lenR_succ hL
          have hle2 := lenR_take LL (i + 1)
          obtain ⟨hnl, hcc, hcm⟩ := hraw.lens
          have hle9 := HLE.out
          obtain ⟨hz0, hz1, hz2, hz3⟩ := HZ.out
          obtain ⟨v10, w10, hr10, ho10, hg10, _⟩ := run_append_raw (P := Tryz.prog) wB.heap.size 47 101 i0 z0 2 40 Tryz.underlying47 HI.out hz0 hz1 hz2 hz3 (by decide) hox hraw (by unfold maxLen; omega) (by omega) hbx.size
          have HB10 := Lib.hid (hbx.grown hg10 hbx.size (own_ge hox))
          have HO10 : Hid (w10.ownsRow _ 101 2 v10 (lenR (LL.take (i + 1))) (flatC (LL.take (i + 1)).flatten)) := Lib.hid (by
            rw [hs1, hs2, hnl]; exact ho10)
          clear ho10 hg10 hox hbx hraw hs1 hs2 hnl hle hle2 hL hz0 hz1 hz2 hz3
          go_wp2_with (at_builtin; refine wpList_append_run rfl _ _ _ _ rfl rfl rfl hr10 ?_)
          go_roundw
          case rel => exact ⟨i + 1, hlt, by go_num, HO10.out, HB10.out⟩
          case measure => simp [intOf]; omega
        · obtain rfl : n = i := by omega
          rw [HT.out] at hox
          have HE : Hid (OwnRaw 101 2 _ LL.flatten (.returned u6) _) := Lib.hid ⟨_, rfl, by rw [lenR_flat]; exact hox, hbx⟩
          clear hox hbx hle
          go_wp2_with fail
          go_ret
          exact HE.out
theorem info_n : RowInfo Tryz.prog 50 5 88 := row_info (by kernel_rfl)
set_option maxRecDepth 100000 in
set_option maxHeartbeats 2000000 in
theorem clone_n {w : World} {a : Option Addr} {n c : Nat} {L : List (Cl 5)} (h : Raw 5 w a n c L) (hn : n ≤ 100000) :
    Calls Tryz.prog 210 #[.slice a n c] w (OwnRaw 50 5 w L) := by
  obtain ⟨i0, z0, hi, hz0, hz1, hz2, hz3⟩ := info_n
  obtain ⟨e1, e2, e3⟩ := h.lens
  cases a with
  | none =>
    have hc := h.2.2.2.1 rfl
    obtain rfl : n = 0 := by omega
    obtain rfl : c = 0 := by omega
    have hl0 : L = [] := List.eq_nil_of_length_eq_zero e1
    have HE : Hid (OwnRaw 50 5 w L (.returned (.slice none 0 0)) w) := Lib.hid ⟨_, rfl, by rw [hl0]; exact own_nil _ _ _ _, Below.refl _ _⟩
    clear hl0 e1 hc hz0 hz1 hz2 hz3
    have hq : ∀ W : World, (binOp .eql 48 (.slice none 0 0) (.slice none 0 0)).run Tryz.prog W = .ok (.bool true) W := fun W => Lib.run_eql_slice_nil W _ _ none 0 0 0 0 Tryz.underlying48
    go_enter Tryz.func210, Tryz.ntmps210
    go_wp2
    go_ret
    exact HE.out
  | some x =>
    have hq : ∀ W : World, (binOp .eql 48 (.slice (some x) n c) (.slice none 0 0)).run Tryz.prog W = .ok (.bool false) W := fun W => Lib.run_eql_slice_nil W _ _ (some x) n c 0 0 Tryz.underlying48
    have hB0 : Below w.heap.size w (w.alloc (.cells #[] 50)) := (Below.refl _ _).alloc (Nat.le_refl _) _
    obtain ⟨v', w', hr, ho, hg, _⟩ := run_append_raw (P := Tryz.prog) w.heap.size 48 50 i0 z0 5 88 Tryz.underlying48 hi hz0 hz1 hz2 hz3 (by decide) (L := []) (own_empty w 50 5 rfl (Nat.le_refl _)) (h.below hB0) (by unfold maxLen; omega) (by omega) hB0.size
    have HE : Hid (OwnRaw 50 5 w L (.returned v') w') := Lib.hid ⟨v', rfl, by rw [e1]; simpa using ho, hB0.grown hg hB0.size (own_ge (own_empty w 50 5 rfl (Nat.le_refl _)))⟩
    clear ho hg hB0 e1 hz0 hz1 hz2 hz3 h
    go_enter Tryz.func210, Tryz.ntmps210
    go_wp2_with (at_builtin; refine wpList_append_run rfl _ _ _ _ rfl rfl rfl hr ?_)
    go_ret
    exact HE.out
set_option maxRecDepth 100000 in
set_option maxHeartbeats 2000000 in
theorem grow_n (n : Nat) (h9 : n ≤ 100000) (w : World) :
    Calls Tryz.prog 204 #[.slice none 0 0, .int .i64 (n : Int)] w (OwnRaw 50 5 w []) := by
  have d0 : decide ((n : Int) < 0) = false := by simp
  by_cases h0 : 0 < n
  · obtain ⟨c, w', hr, hc1, hc2, ho, hb⟩ := run_grow (P := Tryz.prog) w 48 3 50 5 88 Tryz.underlying48 Tryz.underlying3 info_n (by decide) (by decide) n h0 h9
    have d1 : decide ((0 : Int) < n) = true := by simp; omega
    have d1' : decide (0 < n) = true := by simp; omega
    have HE : Hid (OwnRaw 50 5 w [] (.returned (.slice (some ⟨w.heap.size, 0, none⟩) 0 c)) w') := Lib.hid ⟨_, rfl, ho, hb⟩
    clear ho hb
    go_enter Tryz.func204, Tryz.ntmps204
    go_wp2_with (at_builtin; refine wpList_append_run rfl _ _ _ _ rfl rfl rfl hr ?_)
    go_ret
    exact HE.out
  · obtain rfl : n = 0 := by omega
    have HE : Hid (OwnRaw 50 5 w [] (.returned (.slice none 0 0)) w) := Lib.hid ⟨_, rfl, own_nil _ _ _ _, Below.refl _ _⟩
    go_enter Tryz.func204, Tryz.ntmps204
    go_wp2_with fail
    go_ret
    exact HE.out
set_option maxRecDepth 100000 in
set_option maxHeartbeats 4000000 in
theorem concat_n {w : World} {a : Option Addr} {n c : Nat} {LL : List (List (Cl 5))} (h : Raws 5 w a n c LL) (h9 : lenR LL ≤ 10000) :
    Calls Tryz.prog 193 #[.slice a n c] w (OwnRaw 50 5 w LL.flatten) := by
  obtain ⟨hl, hc, hm⟩ := TabR.lens h
  obtain ⟨i0, z0, hi, hz0, hz1, hz2, hz3⟩ := info_n
  have H := Lib.hid h
  have HL := Lib.hid hl
  have HZ := Lib.hid (show i0.zero = some z0 ∧ i0.size = 5 ∧ i0.bytes = 88 ∧ z0.cells.size = 5 from ⟨hz0, hz1, hz2, hz3⟩)
  have HI := Lib.hid hi
  clear h hl hz0 hz1 hz2 hz3 hi
  go_enter Tryz.func193, Tryz.ntmps193
  go_wp2_with fail
  go_loopw [3, 5, 11] (fun s3 s5 s11 wr => ∃ i : Nat, i ≤ n ∧ s11 = .int .i64 i ∧ s3 = .int .i64 (lenR (LL.take i) : Int) ∧ wr = w) (fun _ _ s _ => n - (intOf s).toNat)
  case atStart => exact ⟨0, Nat.zero_le _, rfl, rfl, rfl⟩
  case round =>
    obtain ⟨i, hi2, rfl, rfl, rfl⟩ := hrel
    have hle := lenR_take LL i
    by_cases hlt : i < n
    · obtain ⟨b, off, a', n', c', L, rfl, hbb, hcell, hL, hraw⟩ := H.out.at hlt
      obtain ⟨q1, q2, q3⟩ := hraw.lens
      have hsn := (lenR_succ hL).1
      have hle2 := lenR_take LL (i + 1)
      have HS := Lib.hid (show lenR (LL.take (i + 1)) = lenR (LL.take i) + n' by omega)
      have d0 : decide ((lenR (LL.take i) : Int) + (n' : Int) < 0) = false := by simp; omega
      have hle3 : lenR (LL.take i) + n' ≤ 10000 := by omega
      clear hsn hL hraw q1 hle2
      generalize lenR (LL.take i) = q at *
      go_wp2_with fail
      go_roundw
      case rel => exact ⟨i + 1, hlt, by go_num, by rw [HS.out]; go_num, by first | rfl | trivial⟩
      case measure => simp [intOf]; omega
    · obtain rfl : n = i := by omega
      obtain ⟨wB, rfl⟩ : ∃ wB, wB = wr := ⟨_, rfl⟩
      have htl : LL.take n = LL := List.take_of_length_le (by rw [HL.out]; exact Nat.le_refl _)
      rw [htl]
      have G := grow_n (lenR LL) (by omega) wB
      have HT := Lib.hid htl
      have HLE := Lib.hid h9
      clear htl hle
      obtain ⟨q, hq⟩ : ∃ q, lenR LL = q := ⟨_, rfl⟩
      rw [hq] at G ⊢
      have HQ := Lib.hid hq
      clear hq
      go_wp2_with fail
      refine G.mono ?_
      rintro e w2 ⟨v2, rfl, ho2, hb2⟩
      have HO2 := Lib.hid ho2
      have HB2 := Lib.hid hb2
      clear G ho2 hb2
      go_wp2_with fail
      go_loopw [6, 8, 27] (fun s6 s8 s27 wx => ∃ i : Nat, i ≤ n ∧ s27 = .int .i64 i ∧ wx.ownsRow wB.heap.size 50 5 s6 (lenR (LL.take i)) (flatC (LL.take i).flatten) ∧ Below wB.heap.size wB wx) (fun _ _ s _ => n - (intOf s).toNat)
      case atStart => exact ⟨0, Nat.zero_le _, rfl, HO2.out, HB2.out⟩
      case round =>
        clear HO2 HB2
        obtain ⟨i, hi2, rfl, hox, hbx⟩ := hrel
        have hle := lenR_take LL i
        by_cases hlt : i < n
        · obtain ⟨b, off, a', n', c', L, rfl, hbb, hcell, hL, hraw⟩ := (H.out.below hbx).at hlt
          obtain ⟨hs1, hs2⟩ := lenR_succ hL
          have hle2 := lenR_take LL (i + 1)
          obtain ⟨hnl, hcc, hcm⟩ := hraw.lens
          have hle9 := HLE.out
          obtain ⟨hz0, hz1, hz2, hz3⟩ := HZ.out
          obtain ⟨v10, w10, hr10, ho10, hg10, _⟩ := run_append_raw (P := Tryz.prog) wB.heap.size 48 50 i0 z0 5 88 Tryz.underlying48 HI.out hz0 hz1 hz2 hz3 (by decide) hox hraw (by unfold maxLen; omega) (by omega) hbx.size
          have HB10 := Lib.hid (hbx.grown hg10 hbx.size (own_ge hox))
          have HO10 : Hid (w10.ownsRow _ 50 5 v10 (lenR (LL.take (i + 1))) (flatC (LL.take (i + 1)).flatten)) := Lib.hid (by
            rw [hs1, hs2, hnl]; exact ho10)
          clear ho10 hg10 hox hbx hraw hs1 hs2 hnl hle hle2 hL hz0 hz1 hz2 hz3
          go_wp2_with (at_builtin; refine wpList_append_run rfl _ _ _ _ rfl rfl rfl hr10 ?_)
          go_roundw
          case rel => exact ⟨i + 1, hlt, by go_num, HO10.out, HB10.out⟩
          case measure => simp [intOf]; omega
        · obtain rfl : n = i := by omega
          rw [HT.out] at hox
          have HE : Hid (OwnRaw 50 5 _ LL.flatten (.returned u6) _) := Lib.hid ⟨_, rfl, by rw [lenR_flat]; exact hox, hbx⟩
          clear hox hbx hle
          go_wp2_with fail
          go_ret
          exact HE.out
end Go.Proofs.YtpghlmcoajaiiaaGreatDoor

/- tree.swap at rows of keys, values and nodes (printed by gen_rawS.py). -/
namespace Go.Proofs.YtpghlmcoajaiiaaGreatDoor
open Go.RowKit

/-- A row in which some, from a place on, are others. -/
def swapL {α : Type} (l : List α) (at_ many : Nat) (some_ : List α) : List α := l.take at_ ++ (some_ ++ l.drop (at_ + many))
theorem elem_s : Tryz.prog.underlying 46 = some (.slice (Tryz.prog.elem 46)) := by kernel_rfl
theorem size_s (w : World) : (sizeOf (Tryz.prog.elem 46)).run Tryz.prog w = .ok 1 w := by kernel_rfl
set_option maxRecDepth 100000 in
set_option maxHeartbeats 2000000 in
theorem swap_s {w : World} {a sa : Option Addr} {n c sn sc : Nat} {L S : List (Cl 1)} (h : Raw 1 w a n c L) (hs : Raw 1 w sa sn sc S) (k m : Nat) (hkm : k + m ≤ n) (h9 : n + sn ≤ 10000) :
    Calls Tryz.prog 160 #[.slice a n c, .int .i64 (k : Int), .int .i64 (m : Int), .slice sa sn sc] w (OwnRaw 9 1 w (swapL L k m S)) := by
  obtain ⟨e1, e2, e3⟩ := h.lens
  obtain ⟨f1, f2, f3⟩ := hs.lens
  obtain ⟨a2, ha2, hsl⟩ := slice_from elem_s size_s a n c (k + m) hkm
  have hkc : k ≤ c := by omega
  have hW : IntKind.i64.wrap ((k : Int) + (m : Int)) = ((k + m : Nat) : Int) := by rw [IntWalk.i64_in _ (by omega)]; omega
  have hd : Raw 1 w a2 (n - (k + m)) (c - (k + m)) (L.drop (k + m)) := by rw [ha2]; exact TabR.dp h hkm
  have HR := Lib.hid (Raws.made (W := w) (t := 46) [(a, k, c), (sa, sn, sc), (a2, n - (k + m), c - (k + m))] [L.take k, S, L.drop (k + m)] (fun i x y hx hy => by
    match i, hx, hy with
    | 0, hx, hy => cases hx; cases hy; exact TabR.tk h (show k ≤ n by omega)
    | 1, hx, hy => cases hx; cases hy; exact hs
    | 2, hx, hy => cases hx; cases hy; exact hd
    | i + 3, hx, hy => simp at hx) rfl (by simp) rfl)
  have hlen : lenR [L.take k, S, L.drop (k + m)] ≤ 10000 := by simp [lenR]; omega
  have C := concat_s (HR.out.below (Below.refl _ _).drew) hlen
  have HB : Hid (Below w.heap.size w (w.alloc (.cells ([(a, k, c), (sa, sn, sc), (a2, n - (k + m), c - (k + m))].map fun x => Value.slice x.1 x.2.1 x.2.2).toArray 46)).drew) := Lib.hid ((Below.refl _ _).alloc (Nat.le_refl _) _).drew
  have hF : [L.take k, S, L.drop (k + m)].flatten = swapL L k m S := by simp [swapL]
  rw [hF] at C
  clear hF ha2 h hs hd e1 f1 hlen HR
  simp only [List.map_cons, List.map_nil] at C HB
  obtain ⟨j, hj⟩ : ∃ j, k + m = j := ⟨_, rfl⟩
  rw [hj] at C HB hsl hW hkm
  have HJ := Lib.hid hj
  clear hj
  go_enter Tryz.func160, Tryz.ntmps160
  go_wp2_with fail
  go_region_with ((go_at_call 196; refine C.mono ?_; rintro e w2 ⟨v2, rfl, ho2, hb2⟩))
  all_goals
    have HE : Hid (OwnRaw 9 1 w (swapL L k m S) (.returned v2) w2) := Lib.hid (OwnRaw.after HB.out ⟨_, rfl, ho2, hb2⟩)
    clear ho2 hb2
    go_wp2_with fail
    go_ret
    exact HE.out
theorem elem_v : Tryz.prog.underlying 47 = some (.slice (Tryz.prog.elem 47)) := by kernel_rfl
theorem size_v (w : World) : (sizeOf (Tryz.prog.elem 47)).run Tryz.prog w = .ok 2 w := by kernel_rfl
set_option maxRecDepth 100000 in
set_option maxHeartbeats 2000000 in
theorem swap_v {w : World} {a sa : Option Addr} {n c sn sc : Nat} {L S : List (Cl 2)} (h : Raw 2 w a n c L) (hs : Raw 2 w sa sn sc S) (k m : Nat) (hkm : k + m ≤ n) (h9 : n + sn ≤ 10000) :
    Calls Tryz.prog 161 #[.slice a n c, .int .i64 (k : Int), .int .i64 (m : Int), .slice sa sn sc] w (OwnRaw 101 2 w (swapL L k m S)) := by
  obtain ⟨e1, e2, e3⟩ := h.lens
  obtain ⟨f1, f2, f3⟩ := hs.lens
  obtain ⟨a2, ha2, hsl⟩ := slice_from elem_v size_v a n c (k + m) hkm
  have hkc : k ≤ c := by omega
  have hW : IntKind.i64.wrap ((k : Int) + (m : Int)) = ((k + m : Nat) : Int) := by rw [IntWalk.i64_in _ (by omega)]; omega
  have hd : Raw 2 w a2 (n - (k + m)) (c - (k + m)) (L.drop (k + m)) := by rw [ha2]; exact TabR.dp h hkm
  have HR := Lib.hid (Raws.made (W := w) (t := 47) [(a, k, c), (sa, sn, sc), (a2, n - (k + m), c - (k + m))] [L.take k, S, L.drop (k + m)] (fun i x y hx hy => by
    match i, hx, hy with
    | 0, hx, hy => cases hx; cases hy; exact TabR.tk h (show k ≤ n by omega)
    | 1, hx, hy => cases hx; cases hy; exact hs
    | 2, hx, hy => cases hx; cases hy; exact hd
    | i + 3, hx, hy => simp at hx) rfl (by simp) rfl)
  have hlen : lenR [L.take k, S, L.drop (k + m)] ≤ 10000 := by simp [lenR]; omega
  have C := concat_v (HR.out.below (Below.refl _ _).drew) hlen
  have HB : Hid (Below w.heap.size w (w.alloc (.cells ([(a, k, c), (sa, sn, sc), (a2, n - (k + m), c - (k + m))].map fun x => Value.slice x.1 x.2.1 x.2.2).toArray 47)).drew) := Lib.hid ((Below.refl _ _).alloc (Nat.le_refl _) _).drew
  have hF : [L.take k, S, L.drop (k + m)].flatten = swapL L k m S := by simp [swapL]
  rw [hF] at C
  clear hF ha2 h hs hd e1 f1 hlen HR
  simp only [List.map_cons, List.map_nil] at C HB
  obtain ⟨j, hj⟩ : ∃ j, k + m = j := ⟨_, rfl⟩
  rw [hj] at C HB hsl hW hkm
  have HJ := Lib.hid hj
  clear hj
  go_enter Tryz.func161, Tryz.ntmps161
  go_wp2_with fail
  go_region_with ((go_at_call 197; refine C.mono ?_; rintro e w2 ⟨v2, rfl, ho2, hb2⟩))
  all_goals
    have HE : Hid (OwnRaw 101 2 w (swapL L k m S) (.returned v2) w2) := Lib.hid (OwnRaw.after HB.out ⟨_, rfl, ho2, hb2⟩)
    clear ho2 hb2
    go_wp2_with fail
    go_ret
    exact HE.out
theorem elem_n : Tryz.prog.underlying 48 = some (.slice (Tryz.prog.elem 48)) := by kernel_rfl
theorem size_n (w : World) : (sizeOf (Tryz.prog.elem 48)).run Tryz.prog w = .ok 5 w := by kernel_rfl
set_option maxRecDepth 100000 in
set_option maxHeartbeats 2000000 in
theorem swap_n {w : World} {a sa : Option Addr} {n c sn sc : Nat} {L S : List (Cl 5)} (h : Raw 5 w a n c L) (hs : Raw 5 w sa sn sc S) (k m : Nat) (hkm : k + m ≤ n) (h9 : n + sn ≤ 10000) :
    Calls Tryz.prog 158 #[.slice a n c, .int .i64 (k : Int), .int .i64 (m : Int), .slice sa sn sc] w (OwnRaw 50 5 w (swapL L k m S)) := by
  obtain ⟨e1, e2, e3⟩ := h.lens
  obtain ⟨f1, f2, f3⟩ := hs.lens
  obtain ⟨a2, ha2, hsl⟩ := slice_from elem_n size_n a n c (k + m) hkm
  have hkc : k ≤ c := by omega
  have hW : IntKind.i64.wrap ((k : Int) + (m : Int)) = ((k + m : Nat) : Int) := by rw [IntWalk.i64_in _ (by omega)]; omega
  have hd : Raw 5 w a2 (n - (k + m)) (c - (k + m)) (L.drop (k + m)) := by rw [ha2]; exact TabR.dp h hkm
  have HR := Lib.hid (Raws.made (W := w) (t := 48) [(a, k, c), (sa, sn, sc), (a2, n - (k + m), c - (k + m))] [L.take k, S, L.drop (k + m)] (fun i x y hx hy => by
    match i, hx, hy with
    | 0, hx, hy => cases hx; cases hy; exact TabR.tk h (show k ≤ n by omega)
    | 1, hx, hy => cases hx; cases hy; exact hs
    | 2, hx, hy => cases hx; cases hy; exact hd
    | i + 3, hx, hy => simp at hx) rfl (by simp) rfl)
  have hlen : lenR [L.take k, S, L.drop (k + m)] ≤ 10000 := by simp [lenR]; omega
  have C := concat_n (HR.out.below (Below.refl _ _).drew) hlen
  have HB : Hid (Below w.heap.size w (w.alloc (.cells ([(a, k, c), (sa, sn, sc), (a2, n - (k + m), c - (k + m))].map fun x => Value.slice x.1 x.2.1 x.2.2).toArray 48)).drew) := Lib.hid ((Below.refl _ _).alloc (Nat.le_refl _) _).drew
  have hF : [L.take k, S, L.drop (k + m)].flatten = swapL L k m S := by simp [swapL]
  rw [hF] at C
  clear hF ha2 h hs hd e1 f1 hlen HR
  simp only [List.map_cons, List.map_nil] at C HB
  obtain ⟨j, hj⟩ : ∃ j, k + m = j := ⟨_, rfl⟩
  rw [hj] at C HB hsl hW hkm
  have HJ := Lib.hid hj
  clear hj
  go_enter Tryz.func158, Tryz.ntmps158
  go_wp2_with fail
  go_region_with ((go_at_call 193; refine C.mono ?_; rintro e w2 ⟨v2, rfl, ho2, hb2⟩))
  all_goals
    have HE : Hid (OwnRaw 50 5 w (swapL L k m S) (.returned v2) w2) := Lib.hid (OwnRaw.after HB.out ⟨_, rfl, ho2, hb2⟩)
    clear ho2 hb2
    go_wp2_with fail
    go_ret
    exact HE.out
end Go.Proofs.YtpghlmcoajaiiaaGreatDoor
