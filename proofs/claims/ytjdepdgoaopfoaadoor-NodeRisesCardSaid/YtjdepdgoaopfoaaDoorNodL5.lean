/- The laws of the chapter on nodes: entries the other way round, twice, of the other kind. -/
import Derived.Test.YtjdepdgoaopfoaaDoorNodL3
import Derived.Test.YtjdepdgoaopfoaaDoorNodZ
import Derived.Test.YtjdepdgoaopfoaaDoorOwn2
namespace Go.Proofs.YtjdepdgoaopfoaaDoor
open Go.RowKit

theorem oneCell_en : ∀ (y : En), ∀ u ∈ ecells y, u.oneCell' = true := fun y u hu => by
  simp [ecells, vcells] at hu
  rcases hu with rfl | rfl | rfl | rfl | rfl <;> rfl
/-- 'append' of entries. -/
theorem append_ens {w : World} {base : Nat} {v : Value} {l : List En} (h : OwnEn w base v l) {a : Option Addr} {m c : Nat} {r : List En} (hr : Ents w a m c r) (hl : l.length + m ≤ 65536) (hbase : base ≤ w.heap.size) :
    ∃ v' w', (Builtin.append_ #[50, 50] 50 #[v, .slice a m c]).run Tryd.prog w = .ok v' w' ∧ OwnEn w' base v' (l ++ r) ∧ w.grownBy w' v.ownBlock := by
  obtain ⟨i0, hi, hz0, hz1, hz2⟩ := info_parts info_entry
  obtain ⟨v', w', hr', ho, hg, _⟩ := run_append_tab (P := Tryd.prog) base 50 76 i0 _ 5 56 Tryd.underlying50 hi hz0 hz1 hz2 rfl (by decide) h IsEn ecells (fun _ _ h => h) (fun _ => rfl) oneCell_en hr (by unfold maxLen; omega) (by omega) hbase
  refine ⟨v', w', hr', ?_, hg⟩
  unfold OwnEn
  rw [List.flatMap_append, List.length_append, hr.len]
  exact ho
/-- An entry of a row of the call's own is written over. -/
theorem OwnEn.put {w : World} {base g cap : Nat} {l : List En} (h : OwnEn w base (.slice (some ⟨g, 0, none⟩) l.length cap) l) (k : Nat) (x y : En) (hx : l[k]? = some x) {o : Nat} (ho : o = k * 5) :
    OwnEn (((((w.setCell ⟨g, o, none⟩ (.string (strOf y.key))).setCell ⟨g, o + 1, none⟩ (.string (strOf y.v.data))).setCell ⟨g, o + 2, none⟩ (.bool y.v.far)).setCell ⟨g, o + 3, none⟩ (.int .i64 y.v.size)).setCell ⟨g, o + 4, none⟩ (.int .i64 y.v.page)) base (.slice (some ⟨g, 0, none⟩) l.length cap) (l.set k y) := by
  subst ho
  have hk := (List.getElem?_eq_some_iff.1 hx).1
  obtain ⟨p, s, hp, h1, h2⟩ := flat_parts ecells 5 (fun _ => rfl) hx
  unfold OwnEn at h ⊢
  rw [List.length_set, h2, show ecells y = [.string (strOf y.key), .string (strOf y.v.data), .bool y.v.far, .int .i64 y.v.size, .int .i64 y.v.page] from rfl, ← set_five hp (.string (strOf x.key)) (.string (strOf x.v.data)) (.bool x.v.far) (.int .i64 x.v.size) (.int .i64 x.v.page) (.string (strOf y.key)) (.string (strOf y.v.data)) (.bool y.v.far) (.int .i64 y.v.size) (.int .i64 y.v.page)]
  have h1' : l.flatMap ecells = p ++ ([.string (strOf x.key), .string (strOf x.v.data), .bool x.v.far, .int .i64 x.v.size, .int .i64 x.v.page] ++ s) := h1
  rw [h1'] at h
  exact own_put (own_put (own_put (own_put (own_put h _ _ (by omega)) _ _ (by omega)) _ _ (by omega)) _ _ (by omega)) _ _ (by omega)
theorem OwnEn.cells {w : World} {base : Nat} {v : Value} {l : List En} (h : OwnEn w base v l) (hl : 0 < l.length) : ∃ g cap, v = .slice (some ⟨g, 0, none⟩) l.length cap ∧ base ≤ g ∧ g < w.heap.size ∧ l.length ≤ cap ∧ cap ≤ maxLen ∧ (∀ (k : Nat) (y : En), l[k]? = some y → w.cell? ⟨g, k * 5, none⟩ = some (.string (strOf y.key)) ∧ w.cell? ⟨g, k * 5 + 1, none⟩ = some (.string (strOf y.v.data)) ∧ w.cell? ⟨g, k * 5 + 2, none⟩ = some (.bool y.v.far) ∧ w.cell? ⟨g, k * 5 + 3, none⟩ = some (.int .i64 y.v.size) ∧ w.cell? ⟨g, k * 5 + 4, none⟩ = some (.int .i64 y.v.page)) ∧ ∀ j, w.frozen? ⟨g, j, none⟩ = false := by
  have hh := h
  obtain ⟨h1, h2⟩ := h
  rcases h2 with ⟨_, h0⟩ | ⟨g, cap, cur, rfl, hb, hg, hn, hm, hc, ht⟩
  · omega
  · refine ⟨g, cap, rfl, hb, (Array.getElem?_eq_some_iff.1 hg).1, hn, hm, fun k y hy => ?_, fun j => by simp [World.frozen?, hg]⟩
    have hk := (List.getElem?_eq_some_iff.1 hy).1
    have key : ∀ j v, (ecells y)[j]? = some v → w.cell? ⟨g, k * 5 + j, none⟩ = some v := fun j v hv => by
      have hj : j < 5 := (List.getElem?_eq_some_iff.1 hv).1
      have hx := flat_get ecells 5 (fun _ => rfl) l k y j v hy hv
      rw [← ht, List.getElem?_take_of_lt (by omega)] at hx
      simp only [World.cell?, hg]
      rw [← Array.getElem?_toList]; exact hx
    exact ⟨key 0 _ rfl, key 1 _ rfl, key 2 _ rfl, key 3 _ rfl, key 4 _ rfl⟩
theorem OwnEn.sees {w : World} {base g cap : Nat} {l : List En} (h : OwnEn w base (.slice (some ⟨g, 0, none⟩) l.length cap) l) (hl : 0 < l.length) : base ≤ g ∧ g < w.heap.size ∧ (∀ (k : Nat) (y : En), l[k]? = some y → w.cell? ⟨g, k * 5, none⟩ = some (.string (strOf y.key)) ∧ w.cell? ⟨g, k * 5 + 1, none⟩ = some (.string (strOf y.v.data)) ∧ w.cell? ⟨g, k * 5 + 2, none⟩ = some (.bool y.v.far) ∧ w.cell? ⟨g, k * 5 + 3, none⟩ = some (.int .i64 y.v.size) ∧ w.cell? ⟨g, k * 5 + 4, none⟩ = some (.int .i64 y.v.page)) ∧ ∀ j, w.frozen? ⟨g, j, none⟩ = false := by
  obtain ⟨g', cap', e, h1, h2, _, _, h3, h4⟩ := h.cells hl
  cases e
  exact ⟨h1, h2, h3, h4⟩
/-- Boxes stay when five cells of another block are written. -/
theorem Boxes.five {w : World} {bs : List (Nat × List Value)} (h : Boxes w bs) {g o : Nat} (hne : ∀ p ∈ bs, p.1 ≠ g) {B : Nat} {w0 : World} (hb : Below B w0 w) (hB : B ≤ g) (y0 y1 y2 y3 y4 : Value) :
    Boxes (((((w.setCell ⟨g, o, none⟩ y0).setCell ⟨g, o + 1, none⟩ y1).setCell ⟨g, o + 2, none⟩ y2).setCell ⟨g, o + 3, none⟩ y3).setCell ⟨g, o + 4, none⟩ y4) bs ∧ Below B w0 (((((w.setCell ⟨g, o, none⟩ y0).setCell ⟨g, o + 1, none⟩ y1).setCell ⟨g, o + 2, none⟩ y2).setCell ⟨g, o + 3, none⟩ y3).setCell ⟨g, o + 4, none⟩ y4) :=
  ⟨((((h.set _ _ hne).set _ _ hne).set _ _ hne).set _ _ hne).set _ _ hne, ((((hb.setCell hB _).setCell hB _).setCell hB _).setCell hB _).setCell hB _⟩

theorem small_false_rises (leaf : Bool) (a : Option Addr) (len cap : Nat) (l : List En) (at_ : Nat) (w : World) (h : Ents w a len cap l) (hh : Half w) (hs : smallN l = false) :
    Calls Tryd.prog 12 #[.agg #[.bool leaf, .slice a len cap], .int .u8 (at_ : Int)] w fun e w' => e = .returned (.bool true) ∧ Below w.heap.size w w' := by
  have hB := below_one w (.cells #[.bool leaf, .slice a len cap] 52)
  have BX := (Boxes.nil w).alloc #[.bool leaf, .slice a len cap] 52 rfl
  have AW : ∀ W, Below w.heap.size w W → Calls Tryd.prog 25 #[] W fun e w' => e = .returned (.bool true) ∧ Below W.heap.size W w' := fun W hW => nawake_any W (hh.below (Nat.le_refl _) hW)
  have SM : ∀ W, Below w.heap.size w W → Calls Tryd.prog 26 #[.agg #[.bool leaf, .slice a len cap]] W fun e w' => e = .returned (.bool false) ∧ Below W.heap.size W w' := fun W hW => by
    have := nsmall_any leaf a len cap l W (h.below (Nat.le_refl _) hW)
    rwa [hs] at this
  clear hs
  go_enter Tryd.func12, Tryd.ntmps12
  go_wp2_with fail
  refine (AW _ hB).mono ?_
  rintro e w1 ⟨rfl, hb1⟩
  have BX := BX.step hb1
  have hb := below_then hB hb1
  have d0 := BX.cell 0 0 rfl rfl
  have d1 := BX.cell 0 1 rfl rfl
  go_wp2_with fail
  refine (SM _ hb).mono ?_
  rintro e w2 ⟨rfl, hb2⟩
  have hb := below_then hb hb2
  go_wp2_with fail
  go_ret
  exact ⟨rfl, hb⟩
set_option maxRecDepth 100000 in
set_option maxHeartbeats 16000000 in
theorem lRises (leaf : Bool) (a : Option Addr) (len cap : Nat) (l : List En) (at_ : Nat) (w : World) (hat : at_ < 256) (h : Ents w a len cap l) (hh : Half w) :
    Calls Tryd.prog 12 #[.agg #[.bool leaf, .slice a len cap], .int .u8 (at_ : Int)] w fun e w' => e = .returned (.bool true) ∧ Below w.heap.size w w' := by
  cases hs : smallN l with
  | false => exact small_false_rises leaf a len cap l at_ w h hh hs
  | true =>
    have hB := below_one w (.cells #[.bool leaf, .slice a len cap] 52)
    have BX := (Boxes.nil w).alloc #[.bool leaf, .slice a len cap] 52 rfl
    have AW : ∀ W, Below w.heap.size w W → Calls Tryd.prog 25 #[] W fun e w' => e = .returned (.bool true) ∧ Below W.heap.size W w' := fun W hW => nawake_any W (hh.below (Nat.le_refl _) hW)
    have SM : ∀ W, Below w.heap.size w W → Calls Tryd.prog 26 #[.agg #[.bool leaf, .slice a len cap]] W fun e w' => e = .returned (.bool true) ∧ Below W.heap.size W w' := fun W hW => by
      have := nsmall_any leaf a len cap l W (h.below (Nat.le_refl _) hW)
      rwa [hs] at this
    obtain ⟨hl40, hsm⟩ := smallN_true hs
    have hll := h.len
    have hlen40 : len ≤ 40 := by omega
    have hlen : len ≤ 65536 := by omega
    have CK : ∀ W, Below w.heap.size w W → Calls Tryd.prog 34 #[.agg #[.bool leaf, .slice a len cap]] W fun e w' => e = .returned (.bool (nodeB leaf l)) ∧ Below W.heap.size W w' := fun W hW => check_any leaf a len cap l W (h.below (Nat.le_refl _) hW) hlen hsm
    have CG : ∀ W f a2 n c2 m, Ents W a2 n c2 m → n ≤ 65536 → (∀ e ∈ m, e ∈ l) → nodeB f m = false → Calls Tryd.prog 34 #[.agg #[.bool f, .slice a2 n c2]] W fun e w' => e = .returned (.bool false) ∧ Below W.heap.size W w' := fun W f a2 n c2 m h2 h3 h4 h5 => by
      have := check_any f a2 n c2 m W h2 h3 (fun e he => hsm e (h4 e he))
      rwa [h5] at this
    have HCK := Lib.hid CK
    have HCG := Lib.hid CG
    have HLL := Lib.hid hll
    have hcap := h.2.1
    have hcm := h.2.2.1
    unfold maxLen at hcm
    by_cases h2 : len < 2
    · clear hs hsm CK CG hll hh
      go_enter Tryd.func12, Tryd.ntmps12
      go_wp2_with fail
      refine (AW _ hB).mono ?_
      rintro e w1 ⟨rfl, hb1⟩
      have BX := BX.step hb1
      have hb := below_then hB hb1
      have d0 := BX.cell 0 0 rfl rfl
      have d1 := BX.cell 0 1 rfl rfl
      clear hB AW hb1
      go_wp2_with fail
      refine (SM _ hb).mono ?_
      rintro e w2 ⟨rfl, hb2⟩
      have BX := BX.step hb2
      have hb := below_then hb hb2
      clear d0 d1 SM hb2
      have d0 := BX.cell 0 0 rfl rfl
      have d1 := BX.cell 0 1 rfl rfl
      have q2 : decide ((len : Int) < 2) = true := by simp; omega
      go_wp2_with fail
      go_ret
      exact ⟨rfl, hb⟩
    · have q2 : decide ((len : Int) < 2) = false := by simp; omega
      cases hn : nodeB leaf l with
      | false =>
        rw [hn] at HCK
        clear hs hsm CK CG hll hh hn
        go_enter Tryd.func12, Tryd.ntmps12
        go_wp2_with fail
        refine (AW _ hB).mono ?_
        rintro e w1 ⟨rfl, hb1⟩
        have BX := BX.step hb1
        have hb := below_then hB hb1
        have d0 := BX.cell 0 0 rfl rfl
        have d1 := BX.cell 0 1 rfl rfl
        clear hB AW hb1
        go_wp2_with fail
        refine (SM _ hb).mono ?_
        rintro e w2 ⟨rfl, hb2⟩
        have BX := BX.step hb2
        have hb := below_then hb hb2
        clear d0 d1 SM hb2
        have d0 := BX.cell 0 0 rfl rfl
        have d1 := BX.cell 0 1 rfl rfl
        go_wp2_with fail
        refine (HCK.out _ hb).mono ?_
        rintro e w3 ⟨rfl, hb3⟩
        have hb := below_then hb hb3
        go_wp2_with fail
        go_ret
        exact ⟨rfl, hb⟩
      | true =>
        rw [hn] at HCK
        obtain ⟨k, hk⟩ : ∃ k, at_ % (len - 1) = k := ⟨_, rfl⟩
        have hkl : k < len - 1 := by rw [← hk]; exact Nat.mod_lt _ (by omega)
        have hrem : Int.tmod (at_ : Int) ((len : Int) - 1) = (k : Int) := by
          rw [← hk, show (len : Int) - 1 = ((len - 1 : Nat) : Int) by omega, ← Int.ofNat_tmod]
        obtain ⟨x, hx⟩ : ∃ x, l[k]? = some x := ⟨_, List.getElem?_eq_getElem (by omega)⟩
        obtain ⟨y, hy⟩ : ∃ y, l[k + 1]? = some y := ⟨_, List.getElem?_eq_getElem (by omega)⟩
        have n1 := Lib.hid (node_swapped hn hx hy)
        have n2 := Lib.hid (node_twice (leaf := leaf) hx)
        have n3 := Lib.hid (node_other hn (by omega))
        have HXK := Lib.hid hx
        have HYK := Lib.hid hy
        have HK := Lib.hid hk
        have HH := Lib.hid h
        clear hs hsm CK CG hll hh hn hx hy hk
        go_enter Tryd.func12, Tryd.ntmps12
        go_wp2_with fail
        refine (AW _ hB).mono ?_
        rintro e w1 ⟨rfl, hb1⟩
        have BX := BX.step hb1
        have hb := below_then hB hb1
        have d0 := BX.cell 0 0 rfl rfl
        have d1 := BX.cell 0 1 rfl rfl
        clear hB AW hb1
        go_wp2_with fail
        refine (SM _ hb).mono ?_
        rintro e w2 ⟨rfl, hb2⟩
        have BX := BX.step hb2
        have hb := below_then hb hb2
        clear d0 d1 SM hb2
        have d0 := BX.cell 0 0 rfl rfl
        have d1 := BX.cell 0 1 rfl rfl
        go_wp2_with fail
        refine (HCK.out _ hb).mono ?_
        rintro e w3 ⟨rfl, hb3⟩
        have BX := BX.step hb3
        have hb := below_then hb hb3
        clear d0 d1 hb3
        have d1 := BX.cell 0 1 rfl rfl
        have hlt3 := BX.lt 0 rfl
        obtain ⟨v4, w4, hr4, ho4, hg4⟩ := append_ens (OwnEn.nil w3 w3.heap.size) (HH.out.below (Nat.le_refl _) hb) (by simp; omega) (Nat.le_refl _)
        rw [List.nil_append] at ho4
        obtain ⟨g, cp, rfl, hg0, hg1, hg2, hg3, hce, hfr⟩ := ho4.cells (by have := HLL.out; omega)
        rw [HLL.out] at hr4 hg2
        have hb4 : Below w3.heap.size w3 w4 := (Below.refl _ _).grown hg4 (Nat.le_refl _) (fun j e => by cases e)
        obtain ⟨x0, x1, x2, x3, x4⟩ := hce k x HXK.out
        obtain ⟨y0, y1, y2, y3, y4⟩ := hce (k + 1) y HYK.out
        have HO4 := Lib.hid ho4
        have HFR := Lib.hid hfr
        have BX4 := BX.step hb4
        have hbb := below_then hb hb4
        have hk2 : (k : Int) + 1 < (len : Int) := by omega
        have hcl : len ≤ 9223372036854775807 := by omega
        clear hce hfr ho4 hg4 hb4 BX
        go_upto_region 11 with (at_builtin; refine wpList_append_run rfl _ _ _ _ rfl rfl rfl hr4 ?_)
        go_upto_region 12 with (fail)
        have hx5 := below_one w4 (.cells #[.string (strOf x.key), .string (strOf x.v.data), .bool x.v.far, .int .i64 x.v.size, .int .i64 x.v.page] 76)
        have BX5 := BX4.alloc #[.string (strOf x.key), .string (strOf x.v.data), .bool x.v.far, .int .i64 x.v.size, .int .i64 x.v.page] 76 rfl
        have HO5 := Lib.hid (HO4.out.below (Nat.le_refl _) hx5)
        have hb5 := below_then hbb hx5
        have hga : g < w4.heap.size := hg1
        clear BX4 hbb x0 x1 x2 x3 x4 y0 y1 y2 y3 y4 hx5 HFR
        generalize w4.alloc _ = W5 at *
        generalize w4.heap.size = ba at *
        have HNE := Lib.hid (show ∀ p ∈ [(ba, ([.string (strOf x.key), .string (strOf x.v.data), .bool x.v.far, .int .i64 x.v.size, .int .i64 x.v.page] : List Value)), (w.heap.size, [.bool leaf, .slice a len cap])], p.1 ≠ g from fun p hp => by simp at hp; rcases hp with rfl | rfl <;> simp <;> omega)
        obtain ⟨_, _, hce5, hfr5⟩ := HO5.out.sees (by have := HLL.out; omega)
        obtain ⟨x0, x1, x2, x3, x4⟩ := hce5 k x HXK.out
        obtain ⟨y0, y1, y2, y3, y4⟩ := hce5 (k + 1) y HYK.out
        have HB5 := Lib.hid hb5
        have HX5 := Lib.hid BX5
        clear hce5 hb5 BX5 HO4
        go_cut [] (fun wx => OwnEn wx w3.heap.size (.slice (some ⟨g, 0, none⟩) l.length cp) (l.set k y) ∧ Boxes wx [(ba, [.string (strOf x.key), .string (strOf x.v.data), .bool x.v.far, .int .i64 x.v.size, .int .i64 x.v.page]), (w.heap.size, [.bool leaf, .slice a len cap])] ∧ Below w.heap.size w wx)
        case first =>
          go_wp2_with fail
          go_meet
          obtain ⟨q1, q2⟩ := HX5.out.five (o := k * 5) HNE.out HB5.out (by omega) (.string (strOf y.key)) (.string (strOf y.v.data)) (.bool y.v.far) (.int .i64 y.v.size) (.int .i64 y.v.page)
          exact ⟨HO5.out.put k x y HXK.out rfl, q1, q2⟩
        case rest =>
        clear x0 x1 x2 x3 x4 y0 y1 y2 y3 y4 hfr5
        obtain ⟨ho6, BX6, hb6⟩ := hcut
        have ho6 : OwnEn wc w3.heap.size (.slice (some ⟨g, 0, none⟩) (l.set k y).length cp) (l.set k y) := by rw [List.length_set]; exact ho6
        have hy6 : (l.set k y)[k + 1]? = some y := by rw [List.getElem?_set_ne (by omega)]; exact HYK.out
        obtain ⟨_, _, hce6, hfr6⟩ := ho6.sees (by rw [List.length_set]; have := HLL.out; omega)
        obtain ⟨y0, y1, y2, y3, y4⟩ := hce6 (k + 1) y hy6
        have b0 := BX6.cell 0 0 rfl rfl
        have b1 := BX6.cell 0 1 rfl rfl
        have b2 := BX6.cell 0 2 rfl rfl
        have b3 := BX6.cell 0 3 rfl rfl
        have b4 := BX6.cell 0 4 rfl rfl
        have HO6 := Lib.hid ho6
        have HY6 := Lib.hid hy6
        have HX6 := Lib.hid BX6
        have HB6 := Lib.hid hb6
        clear hce6 ho6 hy6 BX6 hb6 HO5 HX5 HB5
        go_upto_region 13 with (fail)
        go_cut [] (fun wx => OwnEn wx w3.heap.size (.slice (some ⟨g, 0, none⟩) (l.set k y).length cp) ((l.set k y).set (k + 1) x) ∧ Boxes wx [(ba, [.string (strOf x.key), .string (strOf x.v.data), .bool x.v.far, .int .i64 x.v.size, .int .i64 x.v.page]), (w.heap.size, [.bool leaf, .slice a len cap])] ∧ Below w.heap.size w wx)
        case first =>
          go_wp2_with fail
          go_meet
          obtain ⟨q1, q2⟩ := HX6.out.five (o := (k + 1) * 5) HNE.out HB6.out (by omega) (.string (strOf x.key)) (.string (strOf x.v.data)) (.bool x.v.far) (.int .i64 x.v.size) (.int .i64 x.v.page)
          exact ⟨HO6.out.put (k + 1) y x HY6.out rfl, q1, q2⟩
        case rest =>
        clear y0 y1 y2 y3 y4 b0 b1 b2 b3 b4 hfr6 HO6 HY6 HX6 HB6
        obtain ⟨ho7, BX7, hb7⟩ := hcut
        obtain ⟨b0, off0, _, ha0, _⟩ := HH.out.at (k := 0) (by omega)
        have hsl1 : ∀ W, (Instr.slice 50 (.slice a len cap) none (some (.int .i64 ((k : Int) + 1))) none).run Tryd.prog W = .ok (.slice a (k + 1) cap) W := fun W => by
          rw [run_slice_h W 50 a len cap slice_entry .i64 ((k : Int) + 1) (by omega) (by omega), elem_entry]
          have e : ((k : Int) + 1).toNat = k + 1 := by omega
          simp [Result.andThen, sliced, e, ha0, add_none]
        obtain ⟨a2, ha2, hsl2⟩ := slice_from slice_entry elem_entry a len cap k (by omega)
        have E1 : ∀ W, Below w.heap.size w W → Ents W a (k + 1) cap (l.take (k + 1)) := fun W hW => (TabR.take (k + 1) (by omega) HH.out).below (Nat.le_refl _) hW
        have E2 : ∀ W, Below w.heap.size w W → Ents W a2 (len - k) (cap - k) (l.drop k) := fun W hW => by rw [ha2]; exact (TabR.drop k (by omega) HH.out).below (Nat.le_refl _) hW
        obtain ⟨v8, w8, hr8, ho8, hg8⟩ := append_ens (OwnEn.nil wc wc.heap.size) (E1 _ hb7) (by simp; omega) (Nat.le_refl _)
        obtain ⟨a7, k7, e7, hs7⟩ := ho7.ents
        have hlen7 : ((l.set k y).set (k + 1) x).length = len := by rw [List.length_set, List.length_set]; exact HLL.out
        rw [hlen7] at hs7
        have e7 : Value.slice (some ⟨g, 0, none⟩) (l.set k y).length cp = .slice a7 ((l.set k y).set (k + 1) x).length k7 := e7
        simp only [Value.slice.injEq] at e7
        obtain ⟨rfl, _, rfl⟩ := e7
        rw [List.nil_append] at ho8
        have hb8 : Below wc.heap.size wc w8 := (Below.refl _ _).grown hg8 (Nat.le_refl _) (fun j e => by cases e)
        have hbb8 := below_then hb7 hb8
        have hsz8 := hb8.size
        have htl : (l.take (k + 1)).length = k + 1 := by rw [List.length_take, HLL.out]; omega
        obtain ⟨v9, w9, hr9, ho9, hg9⟩ := append_ens ho8 (E2 _ hbb8) (by rw [htl]; omega) hsz8
        have hb9 : Below wc.heap.size wc w9 := hb8.grown hg9 hsz8 (own_ge ho8)
        obtain ⟨a9, k9, rfl, hs9⟩ := ho9.ents
        have hs7 := hs7.below (Nat.le_refl _) hb9
        have BX8 := BX7.step hb8
        have BX9 := BX7.step hb9
        have hbb9 := below_then hb7 hb9
        have hlM : (l.take (k + 1) ++ l.drop k).length ≤ 65536 := by rw [List.length_append, htl, List.length_drop, HLL.out]; omega
        obtain ⟨mM, hmM⟩ : ∃ mM, (l.take (k + 1) ++ l.drop k).length = mM := ⟨_, rfl⟩
        rw [hmM] at hr9 hs9 hlM
        have HMM := Lib.hid hmM
        clear hmM
        have c1 := BX7.cell 1 1 rfl rfl
        have M1 := Lib.hid (show ∀ e ∈ (l.set k y).set (k + 1) x, e ∈ l from fun e he => by
          rcases List.mem_or_eq_of_mem_set he with he | rfl
          · rcases List.mem_or_eq_of_mem_set he with he | rfl
            · exact he
            · exact List.mem_of_getElem? HYK.out
          · exact List.mem_of_getElem? HXK.out)
        have M2 := Lib.hid (show ∀ e ∈ l.take (k + 1) ++ l.drop k, e ∈ l from fun e he => by
          rcases List.mem_append.1 he with he | he
          · exact List.mem_of_mem_take he
          · exact List.mem_of_mem_drop he)
        have HT := Lib.hid htl
        have H7 := Lib.hid hlen7
        have HA2 := Lib.hid ha2
        clear ho9 ho8 hg9 hg8 hb8 htl hlen7 ha2 ha0 E1 E2
        go_upto_region 15 with (at_builtin; refine wpList_append_run rfl _ _ _ _ rfl rfl rfl hr8 ?_)
        clear c1 hsl1 hr8
        have c1 := BX8.cell 1 1 rfl rfl
        go_upto_region 16 with (at_builtin; refine wpList_append_run rfl _ _ _ _ rfl rfl rfl hr9 ?_)
        clear c1 hsl2 hr9
        have c0 := BX9.cell 1 0 rfl rfl
        have c1 := BX9.cell 1 1 rfl rfl
        go_wp2_with fail
        refine (HCG.out _ _ _ _ _ _ hs7 hlen M1.out n1.out).mono ?_
        rintro e w10 ⟨rfl, hb10⟩
        have BX10 := BX9.step hb10
        clear c0 c1
        have c0 := BX10.cell 1 0 rfl rfl
        have c1 := BX10.cell 1 1 rfl rfl
        go_wp2_with fail
        refine (HCG.out _ _ _ _ _ _ (hs9.below (Nat.le_refl _) hb10) hlM M2.out n2.out).mono ?_
        rintro e w11 ⟨rfl, hb11⟩
        have BX11 := BX10.step hb11
        have hbb11 := below_then (below_then hbb9 hb10) hb11
        clear c0 c1
        have c0 := BX11.cell 1 0 rfl rfl
        have c1 := BX11.cell 1 1 rfl rfl
        go_wp2_with fail
        refine (HCG.out _ _ _ _ _ _ (HH.out.below (Nat.le_refl _) hbb11) hlen (fun e he => he) n3.out).mono ?_
        rintro e w12 ⟨rfl, hb12⟩
        have hbb12 := below_then hbb11 hb12
        go_wp2_with fail
        go_ret
        exact ⟨rfl, hbb12⟩
end Go.Proofs.YtjdepdgoaopfoaaDoor