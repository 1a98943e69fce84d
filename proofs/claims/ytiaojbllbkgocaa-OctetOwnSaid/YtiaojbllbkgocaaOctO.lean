/- The statement that what is taken is its own. -/
import Derived.Test.YtiaojbllbkgocaaOctL
namespace Go.Proofs.Ytiaojbllbkgocaa
open Go.RowKit

theorem own_at {w : World} {base : Nat} {e : TypeId} {g n cap : Nat} {zs : List Int} (h : w.ownsRow base e 1 (.slice (some ⟨g, 0, none⟩) n cap) n (zs.map (Value.int .u8))) {k : Nat} (hk : k < n) :
    w.cell? ⟨g, k, none⟩ = some (.int .u8 (zs[k]?.getD 0)) ∧ w.frozen? ⟨g, k, none⟩ = false := by
  refine ⟨?_, h.frozenAt k⟩
  have hl : zs.length = n := by have := h.1; simpa using this
  rw [h.cellAt k (by omega), List.getElem?_map, List.getElem?_eq_getElem (by omega)]; rfl
theorem own_store {w : World} {base : Nat} {e : TypeId} {g n cap : Nat} {zs : List Int} (h : w.ownsRow base e 1 (.slice (some ⟨g, 0, none⟩) n cap) n (zs.map (Value.int .u8))) (k : Nat) (m : Int) :
    (w.setCell ⟨g, k, none⟩ (.int .u8 m)).ownsRow base e 1 (.slice (some ⟨g, 0, none⟩) n cap) n ((zs.set k m).map (Value.int .u8)) ∧ w.grownBy (w.setCell ⟨g, k, none⟩ (.int .u8 m)) (some g) := by
  have := h.stored k (.int .u8 m)
  rw [List.map_set]; exact this

set_option maxRecDepth 100000 in
set_option maxHeartbeats 4000000 in
theorem owns_any (a : Option Addr) (len cap : Nat) (l : List UInt8) (s : List UInt8) (w : World) (hb : Bs w a len cap l) (hsl : s.length ≤ 9223372036854775807) :
    Calls Try.prog 7 #[.slice a len cap, .string (strOf s)] w fun e w' => e = .returned (.bool true) ∧ Below w.heap.size w w' := by
  obtain ⟨i0, hi, hz0, hz1, hz2⟩ := info_parts info_u8
  have hst := strOf_toList
  have hm := hb.cap
  unfold maxLen at hm
  have hss := strOf_size s
  by_cases hbig : 2000 < len
  · go_enter Try.func7, Try.ntmps7
    go_wp2_with fail
    refine (awake_any w).mono ?_
    rintro e w1 ⟨rfl, c1⟩
    go_wp2
    go_ret
    exact ⟨rfl, c1⟩
  by_cases hbig1 : 255 < s.length
  · go_enter Try.func7, Try.ntmps7
    go_wp2_with fail
    refine (awake_any w).mono ?_
    rintro e w1 ⟨rfl, c1⟩
    go_wp2
    go_ret
    exact ⟨rfl, c1⟩
  have hbA : decide ((2000 : Int) < (len : Int)) = false := by simp; omega
  have hbB : decide ((255 : Int) < (s.length : Int)) = false := by simp; omega
  have hbA' : decide (2000 < len) = false := by simp; omega
  have hbB' : decide (255 < s.length) = false := by simp; omega
  have hlen := Lib.hid hb.len
  have hll : l.length ≤ 2000 := by rw [hlen.out]; omega
  go_enter Try.func7, Try.ntmps7
  go_wp2_with fail
  refine (awake_any w).mono ?_
  rintro e w1 ⟨rfl, c1⟩
  have hb1 := hb.below (Nat.le_refl _) c1
  have hcv := conv_string Try.underlying24 Try.underlying5 Try.underlying9 hb1
  go_wp2_with (at_builtin; refine wpList_append_row rfl _ _ 24 rfl w1.heap.size 5 i0 _ 1 Try.underlying24 hi hz0 hz1 hz2 rfl (.slice none 0 0) 0 [] rfl ⟨rfl, .inl ⟨rfl, rfl⟩⟩ .u8 a len cap (toI l) rfl hb1 (by unfold maxLen; omega) (by omega) (Nat.le_refl _) ?_)
  intro vc w2 hownc hgc
  have c2 := c1.grown hgc c1.size (fun k e => by cases e)
  have hw12 := hgc.size
  clear hgc hcv hb1 hb
  have hownc : w2.ownsRow w1.heap.size 5 1 vc l.length ((toI l).map (Value.int .u8)) := by rw [hlen.out]; simpa using hownc
  obtain ⟨ac, capc, rfl, hcc1, hcc2, hcg⟩ := own_slice hownc
  go_wp2_with fail
  refine (take_own ac l.length capc l w2 (Bs.own hownc) (by omega)).mono ?_
  rintro e w3 ⟨at', capt, rfl, hT, hownt, ht1, ht2, hb3⟩
  obtain ⟨t, ht⟩ : ∃ t, t = w3.heap.size - 1 := ⟨_, rfl⟩
  rw [← ht] at hT ht1 ht2 ⊢
  clear ht
  have c3 := below_then c2 hb3
  have hownc3 := hownc.kept (grown_below hb3 none) (by cases Value.ownBlock (.slice ac l.length capc) <;> simp)
  go_wp2_with fail
  refine (take_own ac l.length capc l w3 (Bs.own hownc3) (by omega)).mono ?_
  rintro e w4 ⟨au, capu, rfl, hU, hownu, hu1, hu2, hb4⟩
  obtain ⟨u, hu⟩ : ∃ u, u = w4.heap.size - 1 := ⟨_, rfl⟩
  rw [← hu] at hU hu1 hu2 ⊢
  clear hu
  have c4 := below_then c3 hb4
  have hownc4 := hownc3.kept (grown_below hb4 none) (by cases Value.ownBlock (.slice ac l.length capc) <;> simp)
  have hownt4 := hownt.kept (grown_below hb4 none) (by cases Value.ownBlock (.slice at' l.length capt) <;> simp)
  have hT4 := (hb4.block t ht2).trans hT
  have hB1 := c1.size
  have hB2 := c2.size
  have hB3 := hb3.size
  have hB4 := hb4.size
  have hB12 : w1.heap.size ≤ w2.heap.size := hw12
  have hcl : ∀ k, Value.ownBlock (.slice ac l.length capc) = some k → k < w2.heap.size := own_lt hownc
  have htl : ∀ k, Value.ownBlock (.slice at' l.length capt) = some k → k < w3.heap.size := own_lt hownt
  have htg := own_ge hownt
  have hcg1 := own_ge hownc
  clear hownc hownc3 hownt hT c2 c3 hb3
  go_wp2_with fail
  refine (tRest_any u ⟨l, 0⟩ w4 ⟨au, capu, hU, Bs.own hownu⟩ (by simp; omega)).mono ?_
  rintro e w5 ⟨vx, rfl, hownx, hg5, htk5⟩
  have hrest : tRest ⟨l, 0⟩ = (l, ⟨[], 0⟩) := by simp [tRest, takeF]
  rw [hrest] at hownx
  dsimp only at hownx
  obtain ⟨ax, capx, rfl, hxc1, hxc2, hxg⟩ := own_slice hownx
  have c5 := below_take c4 (by omega) hg5
  have hownc5 := hownc4.kept hg5 (by cases hv : Value.ownBlock (.slice ac l.length capc) with | none => exact .inl rfl | some k => exact .inr (fun e => by cases e; have := hcl _ hv; omega))
  have hownt5 := hownt4.kept hg5 (by cases hv : Value.ownBlock (.slice at' l.length capt) with | none => exact .inl rfl | some k => exact .inr (fun e => by cases e; have := htl _ hv; omega))
  have hT5 := (hg5.block t (by omega) (fun e => by cases e; omega)).trans hT4
  have hB5 := hg5.size
  have hxg1 := own_ge hownx
  have hrx := own_lt hownx
  clear hownc4 hownt4 hT4 hrest hb4 hU hownu
  go_wp2
  obtain ⟨nl, hnl⟩ : ∃ nl, nl = l.length := ⟨_, rfl⟩
  rw [← hnl] at hll hxc1 hcc1 hxg hcg hownx hownc5 hownt5 hT5 hcl htl htg hcg1 hxg1 hrx ⊢
  have HNL := Lib.hid hnl
  clear hnl
  go_loopw [11] (fun i wr => ∃ (k : Nat) (zs : List Int), k ≤ nl ∧ i = .int .i64 k ∧ wr.ownsRow w4.heap.size 5 1 (.slice ax nl capx) nl (zs.map (Value.int .u8)) ∧ w5.grownBy wr (Value.ownBlock (.slice ax nl capx))) (fun i _ => nl - (intOf i).toNat)
  case atStart => exact ⟨0, _, Nat.zero_le _, rfl, hownx, grown_refl _ _⟩
  case round =>
   obtain ⟨k, zs, hk, rfl, hr, hgr⟩ := hrel
   by_cases hlt : k < nl
   · obtain ⟨g, rfl⟩ := hxg (by omega)
     have hcell := own_at hr hlt
     obtain ⟨hcell, hfrz⟩ := hcell
     generalize zs[k]?.getD 0 = x at *
     go_wp2
     go_roundw
     case rel => exact ⟨k + 1, _, by omega, by go_num, (own_store hr k _).1, grown_trans hgr (own_store hr k _).2⟩
     case measure => simp [intOf]; omega
   · obtain rfl : k = nl := by omega
     have hownc6 := hownc5.kept hgr (apart_of hcl (fun k e => by have := hxg1 k e; omega))
     have hownt6 := hownt5.kept hgr (apart_of htl (fun k e => by have := hxg1 k e; omega))
     have hT6 := (hgr.block t (by omega) (fun e => by have := hxg1 t e.symm; omega)).trans hT5
     have c6 := c5.grown hgr c5.size (fun k e => by have := hxg1 k e; omega)
     have hB6 := hgr.size
     have hcv6 : (convert 24 9 (.slice ac k capc)).run Try.prog wr = .ok (.string (strOf l)) wr := conv_string Try.underlying24 Try.underlying5 Try.underlying9 (Bs.own hownc6)
     obtain ⟨w6, rfl⟩ : ∃ w6, w6 = wr := ⟨_, rfl⟩
     clear hr hgr hownc5 hownt5 hT5 c5 hownx hg5 htk5
     go_wp2
     go_loopw [12] (fun i wr => ∃ (j : Nat) (zs : List Int), j ≤ k ∧ i = .int .i64 j ∧ wr.ownsRow w1.heap.size 5 1 (.slice ac k capc) k (zs.map (Value.int .u8)) ∧ w6.grownBy wr (Value.ownBlock (.slice ac k capc))) (fun i _ => k - (intOf i).toNat)
     case atStart => exact ⟨0, _, Nat.zero_le _, rfl, hownc6, grown_refl _ _⟩
     case round =>
      obtain ⟨j, zs2, hj, rfl, hr, hgr⟩ := hrel
      by_cases hlt : j < k
      · obtain ⟨g, rfl⟩ := hcg (by omega)
        have hcell := own_at hr hlt
        obtain ⟨hcell, hfrz⟩ := hcell
        generalize zs2[j]?.getD 0 = x at *
        go_wp2
        go_roundw
        case rel => exact ⟨j + 1, _, by omega, by go_num, (own_store hr j _).1, grown_trans hgr (own_store hr j _).2⟩
        case measure => simp [intOf]; omega
      · have hjk := Lib.hid (show j = k by omega)
        rw [hjk.out]
        have hownt7 := hownt6.kept hgr (apart_of' htg hcl)
        have hT7 := (hgr.block t (by omega) (fun e => by have := hcl t e.symm; omega)).trans hT6
        have c7 := c6.grown hgr c6.size (fun j e => by have := hcg1 j e; omega)
        have hB7 := hgr.size
        clear hr hgr hownc6 hownt6 hT6 c6 hcv6
        obtain ⟨w7, rfl⟩ : ∃ w7, w7 = wr := ⟨_, rfl⟩
        have htf : textF s = UInt8.ofNat s.length :: s := by
          rw [textF_eq, List.take_of_length_le (by omega)]; rfl
        go_wp2_with fail
        refine (text_any s w7 hsl).mono ?_
        rintro e w8 ⟨vy, rfl, howny, hb8⟩
        rw [htf] at howny
        obtain ⟨ay, capy, rfl, hyc1, hyc2, hyg⟩ := own_slice howny
        have hownt8 := hownt7.kept (grown_below hb8 none) (by cases Value.ownBlock (.slice at' k capt) <;> simp)
        have hT8 := (hb8.block t (by omega)).trans hT7
        have c8 := below_then c7 hb8
        have hB8 := hb8.size
        clear hb8 hownt7 hT7 c7
        go_wp2_with fail
        refine (text_any s w8 hsl).mono ?_
        rintro e w9 ⟨vz, rfl, hownz, hb9⟩
        rw [htf] at hownz
        obtain ⟨az, capz, rfl, hzc1, hzc2, hzg⟩ := own_slice hownz
        have hownt9 := hownt8.kept (grown_below hb9 none) (by cases Value.ownBlock (.slice at' k capt) <;> simp)
        have howny9 := howny.kept (grown_below hb9 none) (by cases Value.ownBlock (.slice ay (UInt8.ofNat s.length :: s).length capy) <;> simp)
        have hT9 := (hb9.block t (by omega)).trans hT8
        have c9 := below_then c8 hb9
        have hB9 := hb9.size
        have hyg1 := own_ge howny
        have hyl := own_lt howny
        have hzg1 := own_ge hownz
        clear hb9 hownt8 hT8 c8 howny htf
        have hns : (UInt8.ofNat s.length :: s).length = s.length + 1 := by simp
        rw [hns] at hownz howny9 hyc1 hyg hzc1 hzg hyg1 hyl hzg1
        have hHN := Lib.hid hns
        clear hns
        go_wp2
        go_loopw [15] (fun i wr => ∃ (j : Nat) (zs : List Int), j ≤ s.length + 1 ∧ i = .int .i64 j ∧ wr.ownsRow w7.heap.size 5 1 (.slice ay (s.length + 1) capy) (s.length + 1) (zs.map (Value.int .u8)) ∧ w9.grownBy wr (Value.ownBlock (.slice ay (s.length + 1) capy))) (fun i _ => s.length + 1 - (intOf i).toNat)
        case atStart => exact ⟨0, _, Nat.zero_le _, rfl, howny9, grown_refl _ _⟩
        case round =>
          obtain ⟨j, zs2, hj, rfl, hr, hgr⟩ := hrel
          by_cases hlt : j < s.length + 1
          · obtain ⟨g, rfl⟩ := hyg (by omega)
            have hcell := own_at hr hlt
            obtain ⟨hcell, hfrz⟩ := hcell
            generalize zs2[j]?.getD 0 = x at *
            go_wp2
            go_roundw
            case rel => exact ⟨j + 1, _, by omega, by go_num, (own_store hr j _).1, grown_trans hgr (own_store hr j _).2⟩
            case measure => simp [intOf]; omega
          · have hjn := Lib.hid (show j = s.length + 1 by omega)
            have hownt10 := hownt9.kept hgr (apart_of htl (fun k e => by have := hyg1 k e; omega))
            have hownz10 := hownz.kept hgr (apart_of' hzg1 hyl)
            have hT10 := (hgr.block t (by omega) (fun e => by have := hyg1 t e.symm; omega)).trans hT9
            have c10 := c9.grown hgr c9.size (fun j e => by have := hyg1 j e; omega)
            have hB10 := hgr.size
            have hTk : Tk wr t ⟨l, 0⟩ := by
              refine ⟨at', capt, ?_, ?_⟩
              · rw [hT10, ← HNL.out]
              · have := Bs.own hownt10
                rw [HNL.out] at this
                exact this
            clear hr hgr hownt9 hownz hT9 c9 howny9
            obtain ⟨w10, rfl⟩ : ∃ w10, w10 = wr := ⟨_, rfl⟩
            go_wp2_with fail
            refine (tRest_any t ⟨l, 0⟩ w10 hTk (by simp; rw [← HNL.out]; omega)).mono ?_
            rintro e w11 ⟨vr, rfl, hownr, hg11, htk11⟩
            have hrest : tRest ⟨l, 0⟩ = (l, ⟨[], 0⟩) := by simp [tRest, takeF]
            rw [hrest] at hownr htk11
            dsimp only at hownr htk11
            obtain ⟨ar, capr, rfl, _, _, _⟩ := own_slice hownr
            have hcv11 := conv_string Try.underlying24 Try.underlying5 Try.underlying9 (Bs.own hownr)
            have hownz11 := hownz10.kept hg11 (by cases hv : Value.ownBlock (.slice az (s.length + 1) capz) with | none => exact .inl rfl | some k => exact .inr (fun e => by cases e; have := hzg1 _ hv; omega))
            have hbz := Bs.own hownz11
            obtain ⟨a2, ha2, hsl2⟩ := slice_from elem_bytes size_bytes az (s.length + 1) capz 1 (by omega)
            have q2 := hbz.drop 1 (by omega)
            rw [← ha2] at q2
            clear ha2
            have q3 : Bs w11 a2 s.length (capz - 1) s := q2
            have hcvz := conv_string Try.underlying24 Try.underlying5 Try.underlying9 q3
            have hsl3 : ∀ (k : IntKind) w, (Instr.slice 24 (.slice az (s.length + 1) capz) (some (.int k 1)) none none).run Try.prog w = .ok (.slice a2 s.length (capz - 1)) w := hsl2
            have c11 := below_take c10 (by omega) hg11
            clear hownr hownz10 hownz11 hbz q2 hsl2 c10 hTk hrest hg11
            go_wp2_with fail
            refine (tDone_any t _ w11 htk11).mono ?_
            rintro e w12 ⟨rfl, rfl⟩
            rw [show tDone ⟨[], 0⟩ = 0 from by decide]
            go_wp2
            go_ret
            exact ⟨rfl, c11⟩
end Go.Proofs.Ytiaojbllbkgocaa
