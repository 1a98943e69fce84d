/- The walks of the chapter on metas: a meta's page. -/
import Derived.Test.YtjdepdgoaopfoaaDoorMetC
import Derived.Test.YtjdepdgoaopfoaaDoorCelY
import Derived.Test.YtjdepdgoaopfoaaDoorCelG
import Derived.ArgAppend
import Derived.Lib.SlBytesConst
import Derived.Outline
namespace Go.Proofs.YtjdepdgoaopfoaaDoor
open Go.RowKit

theorem bss_single {w : World} (b : Nat) (hb : b < w.heap.size) {a : Option Addr} {n c : Nat} {l : List UInt8} (hg : w.cell? ⟨b, 0, none⟩ = some (.slice a n c)) (hl : Bs w a n c l) : Bss w (some ⟨b, 0, none⟩) 1 1 [l] := by
  refine ⟨rfl, Nat.le_refl _, by unfold maxLen; omega, (fun h => by cases h), .inr ⟨b, 0, rfl, hb, fun i y hy => ?_⟩⟩
  match i, hy with
  | 0, hy =>
    cases hy
    refine ⟨[.slice a n c], rfl, ⟨_, _, _, rfl, hl⟩, fun j v hv => ?_⟩
    match j, hv with
    | 0, hv => cases hv; simpa using hg
    | j + 1, hv => simp at hv
  | i + 1, hy => simp at hy

/-- '[]byte("..")' of a constant: a full row. -/
theorem const_bytes {P : Program} (w : World) (t e : TypeId) (C : Array Value) (l : List UInt8) (n : Nat) (hn : l.length = n) (hC : C = ((toI l).map (Value.int .u8)).toArray) (hl : l.length ≤ 1000) (ht : P.underlying t = some (.slice e)) (he : P.underlying e = some (.int .u8)) :
    ∃ W2, (convert t t (.slice (some ⟨w.heap.size, 0, none⟩) n n)).run P (w.alloc (.cells C e)) = .ok (.slice (some ⟨w.heap.size, 0, none⟩) n n) W2 ∧ Bs W2 (some ⟨w.heap.size, 0, none⟩) n n l ∧ Below w.heap.size w W2 ∧ W2.heap.size = w.heap.size + 1 := by
  subst hn
  refine ⟨_, Lib.run_convert_bytes_const w t e C _ _ ht he, ⟨by rw [toI_length], Nat.le_refl _, by unfold maxLen; omega, (fun h => by cases h), .inr ⟨_, 0, rfl, by simp, fun i hi => ?_⟩⟩, (Below.refl _ _).alloc (Nat.le_refl _) _, by simp⟩
  have := World.alloc_heap_new w (.cells C e (C.size, C.size + 1))
  simp only [World.cell?, this, Nat.zero_add]
  rw [hC, toI_get]
  simp [toI, hi]

/-- A row of the call's own, or a full one. -/
def Grow (w : World) (base : Nat) (v : Value) (l : List UInt8) : Prop :=
  w.ownsRow base 5 1 v l.length ((toI l).map (Value.int .u8)) ∨ ∃ ad, v = .slice (some ad) l.length l.length ∧ Bs w (some ad) l.length l.length l

theorem Grow.row {w : World} {base : Nat} {v : Value} {l : List UInt8} (h : Grow w base v l) : ∃ a c, v = .slice a l.length c ∧ Bs w a l.length c l := by
  rcases h with hv | ⟨ad, e, hv⟩
  · exact Bs.of_own hv
  · exact ⟨_, _, e, hv⟩

/-- 'append' of some bytes to such a row. -/
theorem wpList_append_grow {P : Program} {w : World} {ops : Array Oper} {rest : List Oper} {o : Oper} {act : Act} {Q : Exit → Act → World → Prop} (hgd : o.guard = none) (s x : Operand) (t : TypeId)
    (ho : o.op = .call { callee := .builtin .append, args := #[s, x], argTypes := #[t, t] })
    (base : Nat) (i : TypeInfo) (z : Value) (ht : P.underlying t = some (.slice 5)) (hi : P.info? 5 = some i) (hz : i.zero = some z)
    (hsize : i.size = 1) (hby : i.bytes = 1) (hzs : z.cells.size = 1)
    (v : Value) (l : List UInt8) (hs : act.eval s = v) (hown : Grow w base v l)
    (a : Option Addr) (m c : Nat) (r : List UInt8) (hx : act.eval x = .slice a m c) (hrow : Bs w a m c r) (hm : 0 < m)
    (h63 : l.length + m ≤ 140737488351232) (hbase : base ≤ w.heap.size)
    (h : ∀ v' w', w'.ownsRow base 5 1 v' (l ++ r).length ((toI (l ++ r)).map (Value.int .u8)) → Below base w w' → wpList P ops Q rest (act.put o.dst v') w') : wpList P ops Q (o :: rest) act w := by
  have hrl := hrow.len
  have hlen : (l ++ r).length = l.length + m := by rw [List.length_append, hrl]
  have hmap : (toI (l ++ r)).map (Value.int .u8) = (toI l).map (Value.int .u8) ++ (toI r).map (Value.int .u8) := by rw [← toI_append, List.map_append]
  rcases hown with hown | ⟨ad, rfl, hbs⟩
  · refine wpList_append_row hgd s x t ho base 5 i z 1 ht hi hz hsize hby hzs v l.length _ hs hown .u8 a m c (toI r) hx hrow (by unfold maxLen; omega) (by omega) hbase fun v' w' h5 h6 => h v' w' (by rw [hlen, hmap]; exact h5) ((Below.refl base w).grown h6 hbase (own_ge hown))
  · obtain ⟨b2, off2, rfl, _, hcell⟩ := hrow.cell hm
    refine wpList_append_grows w hgd s x t ho 5 i z 1 1 ht hi hz hsize hby hzs (by decide) (some ad) l.length l.length ((toI l).map (Value.int .u8)) hs (fun h => by cases h) (by simp [toI_length]) (fun b hb j u hu => ?_) ⟨b2, off2, none⟩ m c ((toI r).map (Value.int .u8)) hx (by simp [toI_length, hrl]) (fun j u hu => ?_) (fun u hu => by obtain ⟨y, _, rfl⟩ := List.mem_map.1 hu; rfl) (by omega) (by unfold maxLen; omega) (by omega) fun v' w' h5 h6 => h v' w' (by rw [hlen, hmap]; exact own_base h5 hbase) ((Below.refl base w).grown h6 hbase (fun k e => by cases e))
    · cases hb
      have hj : j < l.length := by have := (List.getElem?_eq_some_iff.1 hu).1; simpa [toI_length] using this
      obtain ⟨b3, off3, e3, _, hc3⟩ := hbs.cell hj
      cases e3
      rw [add_none, hc3 j hj]
      simp [toI, hj] at hu
      rw [← hu]; simp [hj]
    · have hj : j < m := by have := (List.getElem?_eq_some_iff.1 hu).1; simpa [toI_length, hrl] using this
      rw [add_none, hcell j hj]
      simp [toI, hrl, hj] at hu
      rw [← hu]; simp [hrl, hj]

/-- The numbers of a meta, and how many bytes each has. -/
def fieldsM (m : Mt) : List (Nat × Nat) := [(m.label.toNat, 1), (m.txn, 8), (m.root.toNat, 2), (m.list.toNat, 2), (m.high.toNat, 2)]
def encF (m : Mt) (k : Nat) : List UInt8 := markB ++ ((fieldsM m).take k).flatMap fun f => beBytes f.1 f.2
theorem encF_five (m : Mt) : encF m 5 = metaB m := by simp [encF, fieldsM, metaB, encM]
theorem encF_succ (m : Mt) (k : Nat) (h : k < 5) : encF m (k + 1) = encF m k ++ beBytes ((fieldsM m)[k]?.getD (0, 1)).1 ((fieldsM m)[k]?.getD (0, 1)).2 := by
  have hl : k < (fieldsM m).length := h
  rw [encF, encF, List.take_add_one, List.getElem?_eq_getElem hl]
  simp only [Option.toList_some, List.flatMap_append, Option.getD_some]
  simp
theorem fieldsM_ok (m : Mt) (hok : metaOk m = true) (ht : m.txn < 18446744073709551616) (k : Nat) (h : k < 5) : ((fieldsM m)[k]?.getD (0, 1)).1 < 18446744073709551616 ∧ 1 ≤ ((fieldsM m)[k]?.getD (0, 1)).2 ∧ ((fieldsM m)[k]?.getD (0, 1)).2 ≤ 8 := by
  rw [metaOk_iff, placeB_iff, placeB_iff] at hok
  obtain ⟨h1, h2, _, h4, h5, h6, h7, _⟩ := hok
  match k, h with
  | 0, _ => simp only [fieldsM]; simp; omega
  | 1, _ => simp only [fieldsM]; simp; omega
  | 2, _ => simp only [fieldsM]; simp; omega
  | 3, _ => simp only [fieldsM]; simp; omega
  | 4, _ => simp only [fieldsM]; simp; omega
theorem encF_length (m : Mt) (k : Nat) : (encF m k).length ≤ 19 := by
  have h : ∀ k, k ≤ 5 → (encF m k).length ≤ 19 := by
    intro k hk
    match k, hk with
    | 0, _ => simp [encF, markB]
    | 1, _ => simp [encF, fieldsM, markB, beBytes_length]
    | 2, _ => simp [encF, fieldsM, markB, beBytes_length]
    | 3, _ => simp [encF, fieldsM, markB, beBytes_length]
    | 4, _ => simp [encF, fieldsM, markB, beBytes_length]
    | 5, _ => simp [encF, fieldsM, markB, beBytes_length]
  by_cases hk : k ≤ 5
  · exact h k hk
  · have : encF m k = encF m 5 := by
      rw [encF, encF, List.take_of_length_le (by simp [fieldsM]; omega), List.take_of_length_le (by simp [fieldsM])]
    rw [this]; exact h 5 (Nat.le_refl _)
/-- The cells of the numbers. -/
def fcells (m : Mt) : Array Value := #[.int .u64 m.label, .int .i64 1, .int .u64 m.txn, .int .i64 8, .int .u64 m.root, .int .i64 2, .int .u64 m.list, .int .i64 2, .int .u64 m.high, .int .i64 2]
theorem fcells_at (m : Mt) (hok : metaOk m = true) (k : Nat) (h : k < 5) : (fcells m)[2 * k]? = some (.int .u64 (((fieldsM m)[k]?.getD (0, 1)).1 : Int)) ∧ (fcells m)[2 * k + 1]? = some (.int .i64 (((fieldsM m)[k]?.getD (0, 1)).2 : Int)) := by
  rw [metaOk_iff, placeB_iff, placeB_iff] at hok
  obtain ⟨h1, h2, _, h4, h5, h6, h7, _⟩ := hok
  match k, h with
  | 0, _ => simp [fcells, fieldsM]; omega
  | 1, _ => simp [fcells, fieldsM]
  | 2, _ => simp [fcells, fieldsM]; omega
  | 3, _ => simp [fcells, fieldsM]; omega
  | 4, _ => simp [fcells, fieldsM]; omega

set_option maxRecDepth 100000 in
set_option maxHeartbeats 4000000 in
theorem mput_bad (m : Mt) (w : World) (hok : metaOk m = false) :
    Calls Tryd.prog 14 #[mv m] w (PackAny w [] 1) := by
  have hB := below_box w (.cells (mcells m) 24)
  have hch := mcheck_any m (w.alloc (.cells (mcells m) 24))
  rw [hok] at hch
  unfold mv mcells at *
  clear hok
  go_enter Tryd.func14, Tryd.ntmps14
  go_wp2_with fail
  refine hch.mono ?_
  rintro e w1 ⟨rfl, hb1⟩
  have hb := below_then hB hb1
  go_wp2_with fail
  go_ret2
  exact ⟨_, rfl, ⟨rfl, .inl ⟨rfl, rfl⟩⟩, hb⟩

set_option maxRecDepth 100000 in
set_option maxHeartbeats 8000000 in
theorem mput_ok (m : Mt) (w : World) (hh : Half w) (hok : metaOk m = true) (ht : m.txn < 18446744073709551616) :
    Calls Tryd.prog 14 #[mv m] w (PackAny w (pageOf 5 [metaB m]) 0) := by
  have hB := below_box w (.cells (mcells m) 24)
  have hblk := World.alloc_heap_new w (.cells (mcells m) 24)
  have hlt : w.heap.size < (w.alloc (.cells (mcells m) 24)).heap.size := by simp
  have hch := mcheck_any m (w.alloc (.cells (mcells m) 24))
  rw [hok] at hch
  have HF := Lib.hid (fieldsM_ok m hok ht)
  have HFC := Lib.hid (fcells_at m hok)
  have hok' := hok
  rw [metaOk_iff, placeB_iff, placeB_iff] at hok'
  obtain ⟨h1, h2, h3, h4, h5, h6, h7, _⟩ := hok'
  have HBLK := Lib.hid hblk
  have HLT := Lib.hid hlt
  have r0 : 0 ≤ m.root ∧ m.root ≤ 1000 := by omega
  have r1 : 0 ≤ m.list ∧ m.list ≤ 1000 := by omega
  have w0 : m.label % 18446744073709551616 = m.label := by omega
  have w1 : m.root % 18446744073709551616 = m.root := by omega
  have w2 : m.list % 18446744073709551616 = m.list := by omega
  have w3 : m.high % 18446744073709551616 = m.high := by omega
  clear hblk hlt hok h1 h2 h3 h4 h5 h6 h7 r0 r1
  unfold mv mcells at *
  go_enter Tryd.func14, Tryd.ntmps14
  go_wp2_with fail
  refine hch.mono ?_
  rintro e w1 ⟨rfl, hb1⟩
  have hb := below_then hB hb1
  obtain ⟨g0, g1, g2, g3, g4⟩ := mbox_cells (m := m) ((hb1.block _ HLT.out).trans HBLK.out)
  clear hch hB
  obtain ⟨w2, hkc, hmk, hb2, hs2⟩ := const_bytes (P := Tryd.prog) w1 26 5 #[.int .u8 109, .int .u8 101, .int .u8 116, .int .u8 97] markB 4 rfl rfl (by decide) Tryd.underlying26 Tryd.underlying5
  have hb3 := below_then hb hb2
  have hg0 := fun (i : Nat) => hb2.cell (p := ⟨w.heap.size, i, none⟩) (by have := (hb1.block _ HLT.out).trans HBLK.out; exact (Array.getElem?_eq_some_iff.1 this).1)
  rw [← hg0 0] at g0
  rw [← hg0 1] at g1
  rw [← hg0 2] at g2
  rw [← hg0 3] at g3
  rw [← hg0 4] at g4
  have HMK := Lib.hid hmk
  have HS2 := Lib.hid hs2
  clear hg0 hmk hs2 hb1 hb2
  have hfb := World.alloc_heap_new w2 (.cells (fcells m) 79)
  have hfl : w2.heap.size < (w2.alloc (.cells (fcells m) 79)).heap.size := by simp
  have hb4 := hb3.alloc hb3.size (.cells (fcells m) 79)
  have hmk4 := HMK.out.below (Nat.le_refl _) (below_box w2 (.cells (fcells m) 79))
  have HFB := Lib.hid hfb
  have HFL := Lib.hid hfl
  have HB4 := Lib.hid hb4
  have HM4 := Lib.hid hmk4
  clear hfb hfl hb4 hmk4 HMK
  go_wp2_with fail
  unfold fcells at HFB HFL HB4 HM4
  generalize hW4 : w2.alloc (.cells #[.int .u64 m.label, .int .i64 1, .int .u64 m.txn, .int .i64 8, .int .u64 m.root, .int .i64 2, .int .u64 m.list, .int .i64 2, .int .u64 m.high, .int .i64 2] 79) = w4 at *
  clear hW4 g0 g1 g2 g3 g4 hkc HS2 hb3
  generalize w2.heap.size = bf at *
  obtain ⟨i0, hi, hz0, hz1, hz2⟩ := info_parts info_u8
  have HSZ := Lib.hid HB4.out.size
  go_loopw [4, 33] (fun c i wr => ∃ k : Nat, k ≤ 5 ∧ i = .int .i64 k ∧ Grow wr w4.heap.size c (encF m k) ∧ Below w4.heap.size w4 wr) (fun _ i _ => 5 - (intOf i).toNat)
  case atStart => exact ⟨0, Nat.zero_le _, rfl, .inr ⟨_, rfl, HM4.out⟩, Below.refl _ _⟩
  case round =>
    obtain ⟨k, hk, rfl, hgr, hbr⟩ := hrel
    by_cases hlt : k < 5
    · obtain ⟨hf1, hf2, hf3⟩ := HF.out k hlt
      obtain ⟨hc1, hc2⟩ := HFC.out k hlt
      have hq1 : wr.cell? ⟨bf, k * 2, none⟩ = some (.int .u64 (((fieldsM m)[k]?.getD (0, 1)).1 : Int)) := by
        rw [hbr.cell (p := ⟨bf, k * 2, none⟩) HFL.out, ← hc1, Nat.mul_comm 2 k]
        simp only [World.cell?, HFB.out]; rfl
      have hq2 : wr.cell? ⟨bf, k * 2 + 1, none⟩ = some (.int .i64 (((fieldsM m)[k]?.getD (0, 1)).2 : Int)) := by
        rw [hbr.cell (p := ⟨bf, k * 2 + 1, none⟩) HFL.out, ← hc2, Nat.mul_comm 2 k]
        simp only [World.cell?, HFB.out]; rfl
      have hen := Lib.hid (encF_succ m k hlt)
      have hel := encF_length m k
      generalize ((fieldsM m)[k]?.getD (0, 1)).1 = x at *
      generalize ((fieldsM m)[k]?.getD (0, 1)).2 = sz at *
      have hnum := num_ok x sz (wr.alloc (.cells #[.int .u64 x, .int .i64 sz] 79)) hf1 hf2 hf3
      have HBA := Lib.hid (hbr.alloc hbr.size (.cells #[.int .u64 x, .int .i64 sz] 79))
      have hbl := Lib.hid (beBytes_length x sz)
      generalize encF m k = pre at *
      have hnil : ∀ v : Value, Grow wr w4.heap.size v pre → ∃ a n c, v = .slice a n c := by
        intro v hv
        rcases hv with hv | ⟨ad, rfl, _⟩
        · obtain ⟨a, c, rfl, _⟩ := own_slice hv; exact ⟨_, _, _, rfl⟩
        · exact ⟨_, _, _, rfl⟩
      obtain ⟨ca, cn, cc, rfl⟩ := hnil _ hgr
      clear hnil
      go_wp2_with fail
      refine hnum.mono ?_
      rintro e w5 ⟨v5, rfl, hown5, hb5⟩
      obtain ⟨a5, c5, rfl, hbs5⟩ := Bs.of_own hown5
      rw [hbl.out] at hbs5
      have hb6 := below_then HBA.out hb5
      have hgr5 : Grow w5 w4.heap.size (.slice ca cn cc) pre := by
        have hbx := below_then (below_box wr (.cells #[.int .u64 x, .int .i64 sz] 79)) hb5
        rcases hgr with hv | ⟨ad, e, hv⟩
        · exact .inl (own_below hv (Nat.le_refl _) hbx)
        · exact .inr ⟨ad, e, hv.below (Nat.le_refl _) hbx⟩
      clear hown5 hb5 hgr hnum
      rw [hbl.out]
      go_wp2_with (at_builtin; refine wpList_append_grow rfl _ _ 26 rfl w4.heap.size i0 _ Tryd.underlying26 hi hz0 hz1 hz2 rfl _ pre rfl hgr5 a5 sz c5 (beBytes x sz) rfl hbs5 (by omega) (by omega) hb6.size ?_)
      intro v7 w7 hown7 hb7
      have HB7 := Lib.hid (hb6.trans hb7)
      have HG7 : Hid (Grow w7 w4.heap.size v7 (encF m (k + 1))) := Lib.hid (by rw [hen.out]; exact .inl (by rw [List.length_append]; exact hown7))
      clear hown7 hb7 hb6 hgr5 hbs5
      go_wp2
      go_roundw
      case rel => exact ⟨k + 1, by omega, by go_num, HG7.out, HB7.out⟩
      case measure => simp [intOf]; omega
    · obtain rfl : k = 5 := by omega
      rw [encF_five] at hgr
      obtain ⟨ca, cc, rfl, hbs⟩ := hgr.row
      rw [metaB_length] at hbs ⊢
      have hbw := below_then HB4.out hbr
      have hB5 := below_then hbw (below_box wr (.cells #[.slice ca 19 cc] 26))
      have hcl : (wr.alloc (.cells #[.slice ca 19 cc] 26)).cell? ⟨wr.heap.size, 0, none⟩ = some (.slice ca 19 cc) := by
        simp only [World.cell?, World.alloc_heap_new]; rfl
      have hbss := bss_single (w := wr.alloc (.cells #[.slice ca 19 cc] 26)) wr.heap.size (by simp) hcl (hbs.below (Nat.le_refl _) (below_box _ _))
      have hpk : Calls Tryd.prog 41 #[.int .u8 5, .slice (some ⟨wr.heap.size, 0, none⟩) 1 1] (wr.alloc (.cells #[.slice ca 19 cc] 26)) (PackPost (wr.alloc (.cells #[.slice ca 19 cc] 26)) (pageOf 5 [metaB m])) := pack_ok 5 _ 1 1 [metaB m] _ hbss (hh.below (Nat.le_refl _) hB5) (by decide) (by simp [lens, metaB_length])
      have HL := Lib.hid (pageOf_length 5 [metaB m] (by simp [lens, metaB_length]))
      clear hgr hbs hcl hbss hbr hbw
      generalize pageOf 5 [metaB m] = pg at *
      go_wp2_with fail
      refine hpk.mono ?_
      rintro e w6 ⟨v6, rfl, hown6, hb6⟩
      have hown6 := own_base hown6 hB5.size
      have hb7 := below_then hB5 hb6
      clear hpk hb6
      go_wp2_with fail
      go_ret2
      exact ⟨v6, rfl, by rw [HL.out]; exact hown6, hb7⟩

theorem mput_any (m : Mt) (w : World) (hh : Half w) (ht : m.txn < 18446744073709551616) :
    Calls Tryd.prog 14 #[mv m] w (PackAny w (putV m) (putE m)) := by
  cases hok : metaOk m
  · rw [putV, putE, hok]; exact mput_bad m w hok
  · rw [putV, putE, hok]; exact mput_ok m w hh hok ht
end Go.Proofs.YtjdepdgoaopfoaaDoor
