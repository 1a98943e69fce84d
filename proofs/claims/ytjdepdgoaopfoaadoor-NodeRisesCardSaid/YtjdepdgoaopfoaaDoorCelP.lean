/- The walks of the chapter on pages of cells: a page is packed. -/
import Derived.Test.YtjdepdgoaopfoaaDoorCelW
import Derived.Deep.RegionLaw
import Derived.Deep.RegionWith
import Derived.Laws.CopyOwn
namespace Go.Proofs.YtjdepdgoaopfoaaDoor
open Go.RowKit

/-- A block of a page's bytes. -/
def Page (w : World) (g : Nat) (l : List UInt8) : Prop := w.heap[g]? = some (.cells ((toI l).map (Value.int .u8)).toArray 131 (0, 0))

theorem page_zero : ∃ Z : Array Value, Z = ((toI (List.replicate 128 (0 : UInt8))).map (Value.int .u8)).toArray ∧ ∀ w, (zeroValue 131).run Tryd.prog w = .ok (.agg Z) w :=
  ⟨_, rfl, fun w => by
    have h : (Tryd.prog.info? 131).map (·.zero) = some (some (.agg ((toI (List.replicate 128 (0 : UInt8))).map (Value.int .u8)).toArray)) := by kernel_rfl
    cases hq : Tryd.prog.info? 131 with
    | none => simp [hq] at h
    | some i =>
      have hz : i.zero = some (.agg ((toI (List.replicate 128 (0 : UInt8))).map (Value.int .u8)).toArray) := by simpa [hq] using h
      simp [zeroValue, typeInfo, hq, hz]⟩

theorem zero_cells : Tryd.zeroCells131 = ((toI (List.replicate 128 (0 : UInt8))).map (Value.int .u8)).toArray := by kernel_rfl
theorem Page.cell {w : World} {g : Nat} {l : List UInt8} (h : Page w g l) {i : Nat} (hi : i < l.length) : w.cell? ⟨g, i, none⟩ = some (.int .u8 ((l[i]?.getD 0).toNat : Int)) := by
  have e : (((toI l).map (Value.int .u8)).toArray)[i]? = some (.int .u8 ((l[i]?.getD 0).toNat : Int)) := by simp [toI, hi]
  simp only [World.cell?, show w.heap[g]? = _ from h]
  exact e
theorem Page.frozen {w : World} {g : Nat} {l : List UInt8} (h : Page w g l) (i : Nat) : w.frozen? ⟨g, i, none⟩ = false := by simp [World.frozen?, show w.heap[g]? = _ from h]
theorem Page.set {w : World} {g : Nat} {l : List UInt8} (h : Page w g l) (i : Nat) (n : Nat) (hn : n < 256) : Page (w.setCell ⟨g, i, none⟩ (.int .u8 (n : Int))) g (l.set i (UInt8.ofNat n)) := by
  have e1 := heap_setCell_at i (.int .u8 (n : Int)) h
  have e2 : (UInt8.ofNat n).toNat = n := by rw [UInt8.toNat_ofNat']; omega
  unfold Page
  rw [e1]
  simp [toI, List.map_set, e2]

theorem page_under : Tryd.prog.underlying 131 = some (.array (Tryd.prog.arrayLen 131) (Tryd.prog.elem 131)) := by kernel_rfl
theorem page_len : Tryd.prog.arrayLen 131 = 128 := by kernel_rfl
theorem page_size (w : World) : (sizeOf (Tryd.prog.elem 131)).run Tryd.prog w = .ok 1 w := by kernel_rfl
/-- The rest of a page from a place on. -/
theorem page_from (g e : Nat) (he : e ≤ 128) : ∃ a2 : Addr, (e < 128 → a2 = ⟨g, e, none⟩) ∧
    ∀ (k : IntKind) (w : World), (Instr.sliceAt 131 (.pointer (some ⟨g, 0, none⟩)) (some (.int k (e : Int))) none none).run Tryd.prog w = .ok (.slice (some a2) (128 - e) (128 - e)) w := by
  refine ⟨if 128 = e then ⟨g, 0, none⟩ else (⟨g, 0, none⟩ : Addr).add (e * 1), fun h => by rw [if_neg (by omega), add_none]; simp, fun k w => ?_⟩
  rw [run_sliceAt_array_l w _ _ page_under k e (by omega) (by rw [page_len]; omega), page_size, page_len]
  rfl
theorem page_all (g : Nat) (w : World) : (Instr.sliceAt 131 (.pointer (some ⟨g, 0, none⟩)) none none none).run Tryd.prog w = .ok (.slice (some ⟨g, 0, none⟩) 128 128) w := by
  rw [run_sliceAt_array_all w _ _ page_under, page_size, page_len]
  rfl
theorem Page.row {w : World} {g : Nat} {l : List UInt8} (h : Page w g l) (hl : l.length = 128) : Bs w (some ⟨g, 0, none⟩) 128 128 l :=
  ⟨by rw [toI_length, hl], Nat.le_refl _, by unfold maxLen; omega, (fun h => by cases h), .inr ⟨g, 0, rfl, (Array.getElem?_eq_some_iff.1 h).1, fun i hi => by rw [Nat.zero_add, h.cell (by omega), toI_get]⟩⟩
theorem Page.rest {w : World} {g e : Nat} {l : List UInt8} (h : Page w g l) (hl : l.length = 128) (he : e ≤ 128) {a2 : Addr} (ha : e < 128 → a2 = ⟨g, e, none⟩) : Bs w (some a2) (128 - e) (128 - e) (l.drop e) :=
  ⟨by rw [toI_length, List.length_drop, hl], Nat.le_refl _, by unfold maxLen; omega, (fun h => by cases h), by
    by_cases h0 : e < 128
    · obtain rfl := ha h0
      exact .inr ⟨g, e, rfl, (Array.getElem?_eq_some_iff.1 h).1, fun i hi => by rw [h.cell (by omega), toI_get, List.getElem?_drop]⟩
    · exact .inl (by omega)⟩

theorem splice_map {α β : Type} (f : α → β) (L : List α) (off : Nat) (cs : List α) : splice (L.map f) off (cs.map f) = (splice L off cs).map f := by simp [splice, List.map_take, List.map_drop]
theorem toI_splice (L : List UInt8) (off : Nat) (cs : List UInt8) : splice ((toI L).map (Value.int .u8)) off ((toI cs).map (Value.int .u8)) = (toI (splice L off cs)).map (Value.int .u8) := by
  rw [splice_map]; congr 1; exact splice_map _ _ _ _
/-- What is copied out of a row of bytes. -/
theorem Bs.source {w : World} {a : Option Addr} {n cap : Nat} {c : List UInt8} (h : Bs w a n cap c) (hpos : 0 < ((toI c).map (Value.int .u8)).length) :
    ∃ ad, a = some ad ∧ ∀ j v, ((toI c).map (Value.int .u8))[j]? = some v → w.cell? (ad.add j) = some v := by
  have hl := h.len
  have hp : 0 < n := by simpa [toI, hl] using hpos
  obtain ⟨b, off, e, _, hc⟩ := h.cell hp
  refine ⟨_, e, fun j v hj => ?_⟩
  have hjl : j < c.length := by
    have := (List.getElem?_eq_some_iff.1 hj).1
    simpa [toI] using this
  rw [add_none, hc j (by omega)]
  simp [toI, hjl] at hj ⊢
  exact hj
theorem one_cells (c : List UInt8) : ∀ v ∈ (toI c).map (Value.int .u8), v.oneCell' = true := fun v hv => by
  obtain ⟨y, _, rfl⟩ := List.mem_map.1 hv; rfl
theorem info_one : (Tryd.prog.info? 5).map (·.size) = some 1 := by kernel_rfl

/-- The sum is copied ahead of a page. -/
theorem copy_sum {w : World} {g n cap : Nat} {a : Option Addr} {raw s : List UInt8} (hp : Page w g raw) (hl : raw.length = 128) (h : Bs w a n cap s) (hn : 0 < n) (hn2 : n ≤ 128) :
    ∃ w4, (Builtin.copy_ #[26, 26] 3 #[.slice (some ⟨g, 0, none⟩) 128 128, .slice a n cap]).run Tryd.prog w = .ok (.int .i64 n) w4 ∧ Page w4 g (splice raw 0 s) ∧ ∀ B w0, Below B w0 w → B ≤ g → Below B w0 w4 := by
  have hsl := h.len
  have hlen : ((toI s).map (Value.int .u8)).length = n := by rw [List.length_map, toI_length, hsl]
  obtain ⟨ad, rfl, hsrc⟩ := h.source (by rw [hlen]; exact hn)
  have hr := run_copy_row (P := Tryd.prog) w 26 26 3 5 g 0 128 128 ad n cap _ _ ((toI s).map (Value.int .u8)) Tryd.underlying26 info_one hp
    (by rw [hlen]; exact (Nat.min_eq_left hn2).symm) hsrc (by rw [hlen, List.size_toArray, List.length_map, toI_length, hl]; omega) (one_cells s)
  rw [hlen] at hr
  refine ⟨_, hr, ?_, fun B w0 hb hB => below_setRow hb hB _⟩
  have h2 := setRow_heap w g _ ((((toI raw).map (Value.int .u8)).take 0 ++ (toI s).map (Value.int .u8) ++ ((toI raw).map (Value.int .u8)).drop (0 + n)).toArray) _ (0, 0) hp
  unfold Page
  rw [← toI_splice, splice, hlen, ← List.append_assoc]
  exact h2

/-- A page and no error; nothing that was there has turned. -/
def PackPost (w : World) (p : List UInt8) (e : Ending) (w' : World) : Prop :=
  ∃ v, e = .returned (.tuple #[v, .int .i64 0]) ∧ w'.ownsRow w.heap.size 5 1 v 128 ((toI p).map (Value.int .u8)) ∧ Below w.heap.size w w'

theorem pageOf_length (kind : UInt8) (l : List (List UInt8)) (h : l.length + lens l ≤ 122) : (pageOf kind l).length = 128 := by
  rw [pageOf, List.length_append, beBytes_length, bodyOf_length kind _ l h]

/-- Four bytes of a number: a row. -/
theorem num_four (x : Nat) (w : World) (hx : x < 18446744073709551616) :
    Calls Tryd.prog 40 #[.int .u64 x, .int .i64 4] w fun e w' => ∃ a cap, e = .returned (.slice a 4 cap) ∧ Bs w' a 4 cap (beBytes x 4) ∧ Below w.heap.size w w' := by
  refine (num_ok x 4 w hx (by omega) (by omega)).mono ?_
  rintro e w3 ⟨v, rfl, hown, hb3⟩
  rw [beBytes_length] at hown
  obtain ⟨a5, cap5, rfl, hbs5⟩ := Bs.of_own hown
  exact ⟨a5, cap5, rfl, hbs5, hb3⟩

theorem own_base {w : World} {base b0 : Nat} {e : TypeId} {size : Nat} {v : Value} {n : Nat} {xs : List Value} (h : w.ownsRow base e size v n xs) (hb : b0 ≤ base) : w.ownsRow b0 e size v n xs :=
  ⟨h.1, h.2.imp id fun ⟨g, cap, cur, e, hg, r⟩ => ⟨g, cap, cur, e, Nat.le_trans hb hg, r⟩⟩

set_option maxRecDepth 100000 in
set_option maxHeartbeats 1000000 in
theorem pack_ok (kind : UInt8) (a : Option Addr) (len cap : Nat) (l : List (List UInt8)) (w : World) (h : Bss w a len cap l) (hh : Half w) (hk : kind ≠ 0) (hfit : len + lens l ≤ 122) :
    Calls Tryd.prog 41 #[.int .u8 kind.toNat, .slice a len cap] w (PackPost w (pageOf kind l)) := by
  have hll := Lib.hid h.1
  have hk' : ((kind.toNat : Int) == 0) = false := by
    have : kind.toNat ≠ 0 := fun e => hk (UInt8.toNat_inj.1 e)
    simpa using this
  have hf2 : decide ((122 : Int) < (len : Int) + (lens l : Int)) = false := by simp; omega
  have hn8 : (len : Int) % 256 = (len : Int) := by omega
  have hk8 := kind.toNat_lt
  go_enter Tryd.func41, Tryd.ntmps41
  go_wp2_with fail
  refine (csize_any a len cap l w h (by omega)).mono ?_
  rintro e w' ⟨rfl, rfl⟩
  go_wp2_with fail
  have hp2 : Page (w.alloc (.cells ((Tryd.zeroCells131.setIfInBounds 4 (.int .u8 (kind.toNat : Int))).setIfInBounds 5 (.int .u8 (len : Int))) 131)) w.heap.size (rawOf kind len []) := by
    unfold Page
    rw [World.alloc_heap_new, rawOf_nil, zero_cells]
    have e4 : (UInt8.ofNat len).toNat = len := by rw [UInt8.toNat_ofNat']; omega
    simp only [toI, List.map_set, e4, List.setIfInBounds_toArray]
  have HP2 := Lib.hid hp2
  have hB2 := (Below.refl w.heap.size w).alloc (Nat.le_refl _) (.cells ((Tryd.zeroCells131.setIfInBounds 4 (.int .u8 (kind.toNat : Int))).setIfInBounds 5 (.int .u8 (len : Int))) 131)
  clear hp2
  generalize w.alloc (.cells ((Tryd.zeroCells131.setIfInBounds 4 (.int .u8 (kind.toNat : Int))).setIfInBounds 5 (.int .u8 (len : Int))) 131) = w2 at *
  go_loopw [7, 25] (fun e i wr => ∃ k : Nat, k ≤ len ∧ i = .int .i64 k ∧ e = .int .i64 ((128 - lens (l.take k) : Nat) : Int) ∧ Page wr w.heap.size (rawOf kind len (l.take k)) ∧ Below w.heap.size w wr) (fun _ i _ => len - (intOf i).toNat)
  case atStart => exact ⟨0, Nat.zero_le _, rfl, rfl, HP2.out, hB2⟩
  case round =>
    obtain ⟨k, hk, rfl, rfl, hp, hb⟩ := hrel
    by_cases hlt : k < len
    · obtain ⟨b, off, a', n', cap', rfl, hbb, hcell, hbs⟩ := (h.below (Nat.le_refl _) hb).at hlt
      have hm := lens_take_le l (k + 1)
      have hs := lens_take_succ l k (by rw [hll.out]; exact hlt)
      have hrl := rawOf_length kind len (l.take k) (by rw [List.length_take, hll.out]; have := lens_take_le l k; omega)
      have hst := raw_step kind len (l.take k) (l[k]?.getD []) (by rw [List.length_take, hll.out]; omega)
      rw [← take_snoc l k [] (by rw [hll.out]; exact hlt), List.length_take, hll.out, Nat.min_eq_left hk] at hst
      have hcl := hbs.len
      obtain ⟨c, hc⟩ : ∃ c, c = l[k]?.getD [] := ⟨_, rfl⟩
      rw [← hc] at hbs hst hs hcl
      obtain ⟨q, hq⟩ : ∃ q, q = 128 - lens (l.take k) := ⟨_, rfl⟩
      rw [← hq] at hst ⊢
      rw [hcl] at hst hs
      have HQ := Lib.hid hq
      have HC := Lib.hid hcl
      clear hc hq hcl
      have HST := Lib.hid hst
      have HRL := Lib.hid hrl
      have HM := Lib.hid hm
      have HS := Lib.hid hs
      have hsub : (q : Int) - (n' : Int) = ((q - n' : Nat) : Int) := by have := HQ.out; omega
      clear hst hrl hm hs
      have hqe : 6 ≤ q - n' ∧ q - n' < 9223372036854775808 ∧ q - n' ≤ 128 := by have := HQ.out; have := HM.out; have := HS.out; omega
      obtain ⟨e, he⟩ : ∃ e, e = q - n' := ⟨_, rfl⟩
      rw [← he] at hsub hqe HST
      obtain ⟨a2, ha2, hsl⟩ := page_from w.heap.size e hqe.2.2
      have HE := Lib.hid he
      have h256 : (e : Int) % 256 = (e : Int) := by omega
      clear he
      have hqn : e + n' ≤ 128 := by have := HQ.out; have := HM.out; have := HS.out; have := HE.out; omega
      have HP := Lib.hid hp
      have HMIN := Lib.hid (show ((toI c).map (Value.int .u8)).length = Nat.min n' (128 - e) by rw [List.length_map, toI_length, HC.out]; exact (Nat.min_eq_left (by omega)).symm)
      have HFIT := Lib.hid (show e + ((toI c).map (Value.int .u8)).length ≤ ((toI (rawOf kind len (l.take k))).map (Value.int .u8)).length by rw [List.length_map, toI_length, HC.out, List.length_map, toI_length, HRL.out]; exact hqn)
      have HPOS := Lib.hid (show 0 < ((toI c).map (Value.int .u8)).length → (some a2 : Option Addr) = some ⟨w.heap.size, e, none⟩ ∧ ∃ ad, a' = some ad ∧ ∀ j v, ((toI c).map (Value.int .u8))[j]? = some v → wr.cell? (ad.add j) = some v from fun hpos => ⟨congrArg some (ha2 (by rw [List.length_map, toI_length, HC.out] at hpos; omega)), hbs.source hpos⟩)
      clear hp
      go_wp2_with (refine wpList_copy_splice rfl _ _ 26 26 rfl 5 Tryd.underlying26 info_one (some a2) a' (128 - e) (128 - e) n' cap' rfl rfl w.heap.size e ((toI (rawOf kind len (l.take k))).map (Value.int .u8)) 131 HP.out ((toI c).map (Value.int .u8)) HMIN.out HPOS.out HFIT.out (one_cells c) w.heap.size w hb (Nat.le_refl _) ?_)
      intro w3 HG hB3
      have hg3 : Page w3 w.heap.size (splice (rawOf kind len (l.take k)) e c) := by
        have := HG.out; rw [toI_splice] at this; exact this
      clear HG
      have hlen3 : (splice (rawOf kind len (l.take k)) e c).length = 128 := by
        rw [length_splice _ _ _ (by rw [HRL.out, HC.out]; exact hqn), HRL.out]
      have hc6 := hg3.cell (i := 6 + k) (by rw [hlen3]; omega)
      have hf6 := hg3.frozen (6 + k)
      have hset := hg3.set (6 + k) e (by omega)
      rw [HST.out] at hset
      have HSET := Lib.hid hset
      have HB : Hid (Below w.heap.size w (w3.setCell ⟨w.heap.size, 6 + k, none⟩ (.int .u8 (e : Int)))) := Lib.hid (hB3.setCell (Nat.le_refl w.heap.size) _)
      clear hset hg3 hlen3
      go_wp2
      go_roundw
      case rel => exact ⟨k + 1, by omega, by go_num, by have := HQ.out; have := HE.out; have := HS.out; go_num, HSET.out, HB.out⟩
      case measure => simp [intOf]; omega
    · obtain rfl : k = len := by omega
      have hx : l.take k = l := List.take_of_length_le (by rw [hll.out]; exact Nat.le_refl _)
      rw [hx] at hp ⊢
      have hl := rawOf_length kind k l (by rw [hll.out]; exact hfit)
      have HW := hh.below (Nat.le_refl _) hb
      obtain ⟨a4, ha4, hs4'⟩ := page_from w.heap.size 4 (by omega)
      obtain rfl := ha4 (by omega)
      have hrow4 : Bs wr (some ⟨w.heap.size, 4, none⟩) 124 124 (bodyOf kind k l) := hp.rest hl (by omega) ha4
      have hsum := crcOn_lt 0 (bodyOf kind k l)
      have HPG := Lib.hid (show splice (rawOf kind k l) 0 (beBytes (crcOf (bodyOf kind k l)) 4) = pageOf kind l by rw [raw_sum _ _ _ _ (beBytes_length _ _), pageOf, hll.out])
      have HPL := Lib.hid (pageOf_length kind l (by rw [hll.out]; exact hfit))
      have hc := crcOf_any (some ⟨w.heap.size, 4, none⟩) 124 124 (bodyOf kind k l) wr.drew (hrow4.drewN 1) (show Half wr.drew from HW)
      change crcOf _ < _ at hsum
      generalize crcOf (bodyOf kind k l) = s at *
      have hw64 : (s : Int) % 18446744073709551616 = (s : Int) := by omega
      have hw64' : IntKind.u64.wrap (s : Int) = (s : Int) := by simp [IntKind.wrap, IntKind.signed, IntKind.bits]; omega
      have hn := num_four s wr.drew (by omega)
      have HP := Lib.hid (show Page wr.drew w.heap.size (rawOf kind k l) from hp)
      have HBB := Lib.hid (show Below w.heap.size w wr.drew from hb.drew)
      have HLT := Lib.hid (show w.heap.size < wr.drew.heap.size from (Array.getElem?_eq_some_iff.1 hp).1)
      clear hx hs4' hrow4 hh HW hp hb
      generalize 128 - lens l = e at *
      go_wp2_with fail
      go_region_with (first | (go_at_call 65; refine hc.mono ?_; rintro e w2 ⟨rfl, rfl⟩) | (go_at_call 40; refine hn.mono ?_; rintro e w3 ⟨a5, cap5, rfl, hbs5, hb3⟩; have hp3 : Page w3 w.heap.size (rawOf kind k l) := (hb3.block _ HLT.out).trans HP.out; obtain ⟨w4, hcp, hpg4, hB4⟩ := copy_sum hp3 hl hbs5 (by omega) (by omega)))
      all_goals
        have hB := hB4 _ _ (below_then HBB.out hb3) (Nat.le_refl _)
        rw [HPG.out] at hpg4
        have hrow := hpg4.row HPL.out
        have hz := hB.size
        go_wp2_with fail
        refine (bclone_any (some ⟨w.heap.size, 0, none⟩) 128 128 (pageOf kind l) w4 hrow (by omega)).mono ?_
        rintro e w5 ⟨v, rfl, hown, hb5⟩
        rw [HPL.out] at hown
        have hown := own_base hown hz
        go_wp2
        go_ret2
        exact ⟨v, rfl, hown, below_then hB hb5⟩

set_option maxRecDepth 100000 in
set_option maxHeartbeats 1000000 in
theorem pack_zero (a : Option Addr) (len cap : Nat) (w : World) :
    Calls Tryd.prog 41 #[.int .u8 0, .slice a len cap] w fun e w' => e = .returned (.tuple #[.slice none 0 0, .int .i64 1]) ∧ w = w' := by
  go_enter Tryd.func41, Tryd.ntmps41
  go_wp2
  go_ret2
  exact ⟨rfl, rfl⟩

set_option maxRecDepth 100000 in
set_option maxHeartbeats 1000000 in
theorem pack_big (kind : UInt8) (a : Option Addr) (len cap : Nat) (l : List (List UInt8)) (w : World) (h : Bss w a len cap l) (hk : kind ≠ 0) (hfit : 122 < len + lens l) (hb : len + lens l ≤ 9223372036854775807) :
    Calls Tryd.prog 41 #[.int .u8 kind.toNat, .slice a len cap] w fun e w' => e = .returned (.tuple #[.slice none 0 0, .int .i64 1]) ∧ w = w' := by
  have hk' : ((kind.toNat : Int) == 0) = false := by
    have : kind.toNat ≠ 0 := fun e => hk (UInt8.toNat_inj.1 e)
    simpa using this
  have hf2 : decide ((122 : Int) < (len : Int) + (lens l : Int)) = true := by simp; omega
  go_enter Tryd.func41, Tryd.ntmps41
  go_wp2_with fail
  refine (csize_any a len cap l w h hb).mono ?_
  rintro e w' ⟨rfl, rfl⟩
  go_wp2
  go_ret2
  exact ⟨rfl, rfl⟩

/-- May cells of a kind be a page? -/
def fits (kind : UInt8) (l : List (List UInt8)) : Bool := kind != 0 && decide (l.length + lens l ≤ 122)
/-- What 'Pack' hands back: a row of bytes, an error. -/
def packV (kind : UInt8) (l : List (List UInt8)) : List UInt8 := if fits kind l then pageOf kind l else []
def packE (kind : UInt8) (l : List (List UInt8)) : Int := if fits kind l then 0 else 1
def PackAny (w : World) (p : List UInt8) (er : Int) (e : Ending) (w' : World) : Prop :=
  ∃ v, e = .returned (.tuple #[v, .int .i64 er]) ∧ w'.ownsRow w.heap.size 5 1 v p.length ((toI p).map (Value.int .u8)) ∧ Below w.heap.size w w'

theorem pack_any (kind : UInt8) (a : Option Addr) (len cap : Nat) (l : List (List UInt8)) (w : World) (h : Bss w a len cap l) (hh : Half w) (hb : len + lens l ≤ 9223372036854775807) :
    Calls Tryd.prog 41 #[.int .u8 kind.toNat, .slice a len cap] w (PackAny w (packV kind l) (packE kind l)) := by
  have hl := h.1
  by_cases hk : kind = 0
  · subst hk
    refine (pack_zero a len cap w).mono ?_
    rintro e w' ⟨rfl, rfl⟩
    exact ⟨_, rfl, ⟨rfl, .inl ⟨rfl, rfl⟩⟩, Below.refl _ _⟩
  · by_cases hf : len + lens l ≤ 122
    · have hfit : fits kind l = true := by simp [fits, hk, hl, hf]
      refine (pack_ok kind a len cap l w h hh hk hf).mono ?_
      rintro e w' ⟨v, rfl, hown, hbw⟩
      refine ⟨v, by rw [packE, if_pos hfit], ?_, hbw⟩
      rw [packV, if_pos hfit, pageOf_length kind l (by omega)]
      exact hown
    · have hfit : fits kind l = false := by simp [fits, hl]; omega
      refine (pack_big kind a len cap l w h hk (by omega) hb).mono ?_
      rintro e w' ⟨rfl, rfl⟩
      refine ⟨_, by rw [packE, hfit]; rfl, ?_, Below.refl _ _⟩
      rw [packV, hfit]
      exact ⟨rfl, .inl ⟨rfl, rfl⟩⟩
end Go.Proofs.YtjdepdgoaopfoaaDoor
