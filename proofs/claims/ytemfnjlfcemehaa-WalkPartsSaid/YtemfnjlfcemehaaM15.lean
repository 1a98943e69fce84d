/- Texts that other texts of this claim lean on, one behind the other. -/
import Derived.Test.YtemfnjlfcemehaaM7
import Derived.Test.YtemfnjlfcemehaaM14
import Derived.Test.YtemfnjlfcemehaaM11
import Derived.Test.YtemfnjlfcemehaaM12
import Derived.Test.YtemfnjlfcemehaaM1
import Derived.Deep.RegionHeld3
import Derived.RegionTactic
import Derived.Test.YtemfnjlfcemehaaM8
import Derived.Test.YtemfnjlfcemehaaM6
import Derived.ChangeArms
import Derived.OpenShut
/- jalousieref17: From and Far. -/
namespace Go.Proofs.Ytemfnjlfcemehaa
open Go.RowKit

theorem key_drop {key : List UInt8} {E : List (List UInt8 × Tv)} {i : Nat} (hi : i ≤ E.length) (h1 : ∀ j, j < i → (keysOf E)[j]?.getD [] < key) (h2 : i < E.length → ¬ (keysOf E)[i]?.getD [] < key) : posK key (keysOf E) = i :=
  posK_eq (by simpa [keysOf] using hi) h1 (fun h => h2 (by simpa [keysOf] using h))
/-- Entries in a row of the call's own. -/
def FromTo (W : World) (E : List (List UInt8 × Tv)) (e : Ending) (w' : World) : Prop :=
  ∃ a m c, e = .returned (.slice a m c) ∧ EntIn w' a m c E ∧ Fa (fun x => W.heap.size ≤ x) a m ∧ Below W.heap.size W w'
theorem ents_from {n : Nat} {F : Nat → Prop} {w : World} {cs : List Value} {t : Tr} (h : RNodeOn F n w cs t) (hb : Bnd n t) (he : (entsT n t).length ≤ 100000) : Calls Try.prog 27 #[.agg cs.toArray] w (FromTo w (entsT n t)) := by
  refine (entries_any h hb he).mono fun e w'' h => ?_
  obtain ⟨a, c, rfl, _, _, ho, hb⟩ := h.sl
  exact ⟨a, _, c, rfl, Raw.of_sl ho rfl, Fa.of_own ho (fun b hb => hb), hb⟩
set_option maxRecDepth 100000 in
set_option maxHeartbeats 2000000 in
theorem from_any {n : Nat} {F : Nat → Prop} {w : World} {cs : List Value} {t : Tr} (key : List UInt8) (h : RNodeOn F n w cs t) (hb : Bnd n t) (he : (entsT n t).length ≤ 100000) :
    Calls Try.prog 21 #[.agg cs.toArray, .string (strOf key)] w (FromTo w ((entsT n t).drop (posK key (keysOf (entsT n t))))) := by
  cases n with
  | zero => exact h.elim
  | succ n =>
  obtain ⟨a, c, rfl, _, _⟩ := h.at
  obtain ⟨lf, hlf⟩ : ∃ x, t.isLeaf = x := ⟨_, rfl⟩
  obtain ⟨p, hp⟩ : ∃ x, t.page = x := ⟨_, rfl⟩
  obtain ⟨m, hm⟩ : ∃ x, cntT t = x := ⟨_, rfl⟩
  rw [hlf, hp, hm] at h ⊢
  obtain ⟨W2, hW2⟩ : ∃ x, w.alloc (.cells #[.int .i64 p, .bool lf, .slice a m c] 26) = x := ⟨_, rfl⟩
  have hb2 : Below w.heap.size w W2 := by rw [← hW2]; exact Below.al (Below.refl _ _)
  have hx2 : Boxes W2 [(w.heap.size, [.int .i64 p, .bool lf, .slice a m c])] := by
    rw [← hW2]
    exact (Boxes.nil w).alloc #[.int .i64 p, .bool lf, .slice a m c] 26 (b := w.heap.size) rfl
  have CE : Calls Try.prog 27 #[.agg #[.int .i64 p, .bool lf, .slice a m c]] W2 (FromTo W2 (entsT (n + 1) t)) := ents_from (h.below hb2) hb he
  obtain ⟨E, hE⟩ : ∃ E, entsT (n + 1) t = E := ⟨_, rfl⟩
  rw [hE] at CE he ⊢
  have n0 := hx2.cell 0 0 rfl rfl
  have n1 := hx2.cell 0 1 rfl rfl
  have n2 := hx2.cell 0 2 rfl rfl
  have HB2 := Lib.hid hb2
  have HE9 := Lib.hid he
  clear h hb hx2 hb2 hE hlf hp hm he
  show Calls _ _ #[.agg #[.int .i64 p, .bool lf, .slice a m c], .string (strOf key)] _ _
  go_enter Try.func21, Try.ntmps21
  go_wp2_with fail
  refine CE.mono ?_
  rintro e w3 ⟨a3, m3, c3, rfl, hE3, hf3, hb3⟩
  have HF3 : Hid (Fa (fun x => w.heap.size ≤ x) a3 m3) := Lib.hid (hf3.mono fun b hb => Nat.le_trans HB2.out.size hb)
  obtain ⟨l1, l2, l3⟩ := hE3.len
  have hm9 : m3 ≤ 100000 := by rw [← l1]; exact HE9.out
  have HEN := Lib.hid hE3
  have HL := Lib.hid l1
  have HB3 := Lib.hid (below_via HB2.out hb3)
  clear CE hE3 hb3 hf3 l1 hW2
  go_wp2_with fail
  go_loop [6] (fun s => ∃ i : Nat, i ≤ m3 ∧ s = .int .i64 i ∧ Hid (∀ j, j < i → (keysOf E)[j]?.getD [] < key)) (fun s => m3 - (intOf s).toNat)
  case atStart => exact ⟨0, Nat.zero_le _, rfl, Lib.hid (fun j hj => by omega)⟩
  case round =>
    obtain ⟨i, hi, rfl, hpre⟩ := hrel
    by_cases him : i < m3
    · obtain ⟨b, off, x, rfl, hbb, hx1, e0, _⟩ := HEN.out.at him
      have him' : (i : Int) < (m3 : Int) := by omega
      have hic : i ≤ c3 := by omega
      have hkx : (keysOf E)[i]?.getD [] = x.1 := by simp [keysOf, hx1]
      by_cases hk : x.1 < key
      · obtain ⟨c1, c2, c4, c5⟩ := cmp_lt hk
        have hpre' : Hid (∀ j, j < i + 1 → (keysOf E)[j]?.getD [] < key) := Lib.hid (fun j hj => by
          by_cases h : j < i
          · exact hpre.out j h
          · obtain rfl : j = i := by omega
            rw [hkx]; exact hk)
        clear hx1 hk hkx
        go_wp2_with fail
        go_round
        case rel => exact ⟨i + 1, by omega, by go_num, hpre'⟩
        case measure => simp [intOf]; omega
      · have hpos : posK key (keysOf E) = i := key_drop (by have := HL.out; omega) hpre.out (fun _ => by rw [hkx]; exact hk)
        have HP := Lib.hid hpos
        have HE : Hid (FromTo w (E.drop (posK key (keysOf E))) (.returned (.slice (some ⟨b, off + i * 4, none⟩) (m3 - i) (c3 - i))) w3) := Lib.hid ⟨some ⟨b, off + i * 4, none⟩, m3 - i, c3 - i, rfl, by
          rw [HP.out]
          unfold EntIn
          rw [List.map_drop]
          have := TabR.dp HEN.out hi
          rw [if_neg (by omega), show (some (⟨b, off, none⟩ : Addr)).map (·.add (i * 4)) = some ⟨b, off + i * 4, none⟩ by simp [Addr.add]] at this
          exact this, by
            rcases HF3.out with hf | hf
            · omega
            · exact .inr fun b' off' e => by cases e; exact hf b off rfl, HB3.out⟩
        have h3 : Op.bytesLess (strOf x.1).toList (strOf key).toList = false := by
          rw [strOf_toList, strOf_toList, bytes_lessT]; simpa using hk
        clear hx1 hk hkx hpos
        go_wp2_with fail
        go_ret
        exact HE.out
    · have hpos : posK key (keysOf E) = i := key_drop (by have := HL.out; omega) hpre.out (fun h => by have := HL.out; omega)
      have HE : Hid (FromTo w (E.drop (posK key (keysOf E))) (.returned (.slice none 0 0)) w3) := Lib.hid ⟨none, 0, 0, rfl, by
        rw [hpos, List.drop_of_length_le (by have := HL.out; omega)]
        exact TabR.nil _, Fa.zero _ _, HB3.out⟩
      have him' : decide ((i : Int) < (m3 : Int)) = false := by simp; omega
      clear hpos
      go_wp2_with fail
      go_ret
      exact HE.out
set_option maxRecDepth 100000 in
set_option maxHeartbeats 2000000 in
theorem far_any {N : Nat} {F : Nat → Prop} {w : World} {cs : List Value} {t : Tr} {lo hi : List UInt8} (h : RNodeOn F N w cs t) (hs : Shape N lo hi t) (hN : N ≤ 1000) :
    Calls Try.prog 25 #[.agg cs.toArray] w fun e w' => e = .returned (.int .i64 (N : Int)) ∧ Below w.heap.size w w' := by
  cases N with
  | zero => exact h.elim
  | succ N0 =>
  obtain ⟨N, hNN⟩ : ∃ x, N0 + 1 = x := ⟨_, rfl⟩
  have h' := h
  obtain ⟨a, c, rfl, _, _⟩ := h'.at
  rw [hNN] at h hs hN ⊢
  obtain ⟨lf, hlf⟩ : ∃ x, t.isLeaf = x := ⟨_, rfl⟩
  obtain ⟨p, hp⟩ : ∃ x, t.page = x := ⟨_, rfl⟩
  obtain ⟨m, hm⟩ : ∃ x, cntT t = x := ⟨_, rfl⟩
  rw [hlf, hp, hm] at h ⊢
  have hx : Boxes (w.alloc (.cells #[.int .i64 p, .bool lf, .slice a m c] 26)) [(w.heap.size, [.int .i64 p, .bool lf, .slice a m c])] := (Boxes.nil w).alloc #[.int .i64 p, .bool lf, .slice a m c] 26 (b := w.heap.size) rfl
  have HX := Lib.hid hx
  have HB := Lib.hid (show Below w.heap.size w (w.alloc (.cells #[.int .i64 p, .bool lf, .slice a m c] 26)) from Below.al (Below.refl _ _))
  have HN := Lib.hid h
  have HSH := Lib.hid hs
  have hN1 : 1 ≤ N := by omega
  clear h h' hs hlf hp hm hx hNN
  show Calls _ _ #[.agg #[.int .i64 p, .bool lf, .slice a m c]] _ _
  go_enter Try.func25, Try.ntmps25
  go_wp2_with fail
  go_loopw [3] (fun s3 wr => ∃ (g d : Nat) (t' : Tr) (p' : Int) (lf' : Bool) (a' : Option Addr) (m' c' : Nat), d + g = N + 1 ∧ s3 = .int .i64 d ∧ Boxes wr [(w.heap.size, [.int .i64 p', .bool lf', .slice a' m' c'])] ∧ RNodeOn F g w [.int .i64 p', .bool lf', .slice a' m' c'] t' ∧ (∃ lo hi, Shape g lo hi t') ∧ Below w.heap.size w wr) (fun s _ => N + 1 - (intOf s).toNat)
  case atStart => exact ⟨N, 1, t, p, lf, a, m, c, by omega, rfl, HX.out, HN.out, ⟨_, _, HSH.out⟩, HB.out⟩
  case round =>
    clear HX HB HN HSH
    obtain ⟨g, d, t', p', lf', a', m', c', hd, rfl, hx, hn, ⟨lo', hi', hs⟩, hb⟩ := hrel
    have f1 := hx.cell 0 1 rfl rfl
    have f2 := hx.cell 0 2 rfl rfl
    cases g with
    | zero => exact hn.elim
    | succ g =>
    have hn' := hn
    obtain ⟨a9, c9, e9, h1, _⟩ := hn'.at
    simp only [List.cons.injEq, Value.int.injEq, Value.bool.injEq, Value.slice.injEq, and_true, true_and] at e9
    obtain ⟨_, el, ea, em, ec⟩ := e9
    cases t' with
    | leaf q l =>
      obtain rfl : lf' = true := el
      have hg : g = 0 := hs.1
      have hdN : d = N := by omega
      have HBB := Lib.hid hb
      clear hx hn hn' hs hb h1 ea em ec
      go_wp2_with fail
      go_ret
      exact ⟨ret_int (by rw [hdN]), HBB.out⟩
    | node q l =>
      obtain rfl : lf' = false := el
      have hkids := node_kids hs
      have hne : 0 < l.length := by
        have := kids_ne (shape_kids hs).1
        exact List.length_pos_iff.2 this
      obtain ⟨b, off, bk, ok, kcs, pa, pn, pc, kc, rfl, hbb, hbk, hon, d0, d1, d2, d3, hck, hkc1, hkc2⟩ := RNodeOn.kid h1 (show 0 < cntT (.node q l) from hne)
      subst ea
      obtain ⟨km, hkm, hkx⟩ := kid_mem (l := l) (k := 0) hne
      obtain ⟨_, lo2, hi2, hs2, _⟩ := hkids km hkm
      rw [hkx] at hs2
      cases g with
      | zero => exact hon.elim
      | succ g =>
      have hon' := hon
      obtain ⟨ak, ck, rfl, _, _⟩ := hon'.at
      generalize (kidAt l 0).page = kp at *
      generalize (kidAt l 0).isLeaf = kl at *
      generalize cntT (kidAt l 0) = kn at *
      have v3 : wr.cell? ⟨b, off + 3, none⟩ = some (.slice (some ⟨bk, ok, none⟩) 1 kc) := (hb.cell (p := ⟨b, off + 3, none⟩) hbb).trans (by simpa using d3)
      have k0 : wr.cell? ⟨bk, ok, none⟩ = some (.int .i64 kp) := (hb.cell (p := ⟨bk, ok, none⟩) hbk).trans (by simpa using hck 0 _ rfl)
      have k1 : wr.cell? ⟨bk, ok + 1, none⟩ = some (.bool kl) := (hb.cell (p := ⟨bk, ok + 1, none⟩) hbk).trans (by simpa using hck 1 _ rfl)
      have k2 : wr.cell? ⟨bk, ok + 2, none⟩ = some (.slice ak kn ck) := (hb.cell (p := ⟨bk, ok + 2, none⟩) hbk).trans (by simpa using hck 2 _ rfl)
      have f0 := hx.cell 0 0 rfl rfl
      have y0 := hx.frozen 0 0 rfl
      have y1 := hx.frozen 0 1 rfl
      have y2 := hx.frozen 0 2 rfl
      have hm0 : (0 : Int) < (m' : Int) := by rw [em]; show (0 : Int) < ((l.length : Nat) : Int); omega
      have HYtemfnjlfcemehaa := Lib.hid (((hx.put 0 (.int .i64 kp) (by simp)).put 1 (.bool kl) (by simp)).put 2 (.slice ak kn ck) (by simp))
      have HBB := Lib.hid (((hb.setCell (p := ⟨w.heap.size, 0, none⟩) (by simp) (.int .i64 kp)).setCell (p := ⟨w.heap.size, 1, none⟩) (by simp) (.bool kl)).setCell (p := ⟨w.heap.size, 2, none⟩) (by simp) (.slice ak kn ck))
      have HON := Lib.hid hon
      have HS2 := Lib.hid hs2
      clear hx hn hn' hs hb h1 em ec hon hon' hs2 hck d0 d1 d2 d3 hkids hkm hkx
      go_wp2_with fail
      go_roundw
      case rel => exact ⟨g + 1, d + 1, _, kp, kl, ak, kn, ck, by omega, by go_num, HYtemfnjlfcemehaa.out, HON.out, ⟨_, _, HS2.out⟩, HBB.out⟩
      case measure => simp [intOf]; omega
end Go.Proofs.Ytemfnjlfcemehaa

/- Rows of the document's cells on blocks of any kind: a kid written over; the node. -/
namespace Go.Proofs.Ytemfnjlfcemehaa
open Go.RowKit

theorem CellsF.mono {E : TypeId} {F G : Nat → Prop} {n B : Nat} {w : World} {v : Value} {l : List Rc} (h : CellsF E F n B w v l) (hFG : ∀ b, F b → G b) : CellsF E G n B w v l := by
  obtain ⟨L, h1, h2⟩ := h
  exact ⟨L, h1, h2.mono (fun _ _ _ h => h.mono hFG)⟩
theorem CellsF.sl {E : TypeId} {F : Nat → Prop} {n B : Nat} {w : World} {v : Value} {l : List Rc} (h : CellsF E F n B w v l) :
    ∃ a c, v = .slice a l.length c ∧ l.length ≤ c ∧ c ≤ 9223372036854775807 ∧ TabR 4 (RcOn F n w) w a l.length c l ∧ Fa (fun b => B ≤ b) a l.length ∧ (0 < l.length → ∃ g, a = some ⟨g, 0, none⟩ ∧ B ≤ g ∧ g < w.heap.size ∧ ∀ o, w.frozen? ⟨g, o, none⟩ = false) := by
  obtain ⟨L, h1, h2⟩ := h
  have hlen : L.length = l.length := h2.1
  rcases h1.2 with ⟨rfl, h0⟩ | ⟨g, cap, cur, rfl, hg, hh, hn, hm, hr⟩
  · have : l = [] := List.eq_nil_of_length_eq_zero h0
    subst this
    exact ⟨none, 0, rfl, by simp, by omega, ⟨rfl, by simp, by unfold maxLen; omega, fun _ => rfl, .inl rfl⟩, .inl rfl, fun h => by simp at h⟩
  · refine ⟨_, cap, rfl, hn, by unfold maxLen at hm; omega, ?_, Fa.of_own h1 (fun b hb => hb), fun _ => ⟨g, rfl, hg, (Array.getElem?_eq_some_iff.1 hh).1, fun o => by simp [World.frozen?, hh]⟩⟩
    obtain ⟨a', c', e, hr'⟩ := Raw.of_own h1 hlen
    cases e
    exact hr'.tab h2
/-- All cells: the node, on the row's block too. -/
theorem CellsF.nodeH {E : TypeId} {G H : Nat → Prop} {n B : Nat} {w : World} {v : Value} {t : Tr} (h : CellsF E G n B w v (cellsR t)) (hG : ∀ b, G b → H b) (hB : ∀ b, B ≤ b → H b) :
    RNodeOn H (n + 1) w [.int .i64 t.page, .bool t.isLeaf, v] t := by
  obtain ⟨a, c, rfl, _, _, h1, h2, _⟩ := h.sl
  rw [cellsR_len] at h1 h2 ⊢
  exact RNodeOn.mk (TabR.mono h1 (fun _ _ h => h.mono hG)) (h2.mono hB)
/-- A cell's kid written over. -/
theorem CellsF.kidPut {E : TypeId} {G : Nat → Prop} {n B : Nat} {w : World} {g m c : Nat} {l : List Rc} (h : CellsF E G n B w (.slice (some ⟨g, 0, none⟩) m c) l) {k : Nat} {y : Rc} (hk : l[k]? = some y) (hG : ¬ G g) {ka : Option Addr} {kn kc : Nat} {T : Tr} (hr : TabR 3 (RNodeOn G n w) w ka kn kc [T]) (hf : Fa G ka kn) :
    CellsF E G n B (w.setCell ⟨g, k * 4 + 3, none⟩ (.slice ka kn kc)) (.slice (some ⟨g, 0, none⟩) m c) (l.set k ⟨y.key, y.val, some T⟩) := by
  obtain ⟨L, h1, h2⟩ := h
  have hag : AgreeF G w (w.setCell ⟨g, k * 4 + 3, none⟩ (.slice ka kn kc)) := AgreeF.set ⟨Nat.le_refl _, fun _ _ _ => rfl⟩ (.inl hG)
  have hkl := (List.getElem?_eq_some_iff.1 hk).1
  have hlen : l.length = m := by
    rcases h1.2 with ⟨e, _⟩ | ⟨g', cap, cur, e, _⟩
    · cases e
    · cases e; rfl
  obtain ⟨x, hx⟩ : ∃ x, L[k]? = some x := ⟨_, List.getElem?_eq_getElem (by rw [h2.1]; exact hkl)⟩
  have hxy := h2.2 k x y hx hk
  obtain ⟨pa, pn, pc, ka0, kn0, kc0, ex, k1, k2, _, _⟩ := hxy
  have hx' : RcOn G n w [.string (strOf y.key), .string (strOf y.val.data), .slice pa pn pc, .slice ka kn kc] ⟨y.key, y.val, some T⟩ := ⟨pa, pn, pc, ka, kn, kc, rfl, k1, k2, hr, hf⟩
  obtain ⟨p, s, hp, q1, q2⟩ := flat_parts (fun y : Cl 4 => y.1) 4 (fun y => y.2.1) hx
  have g0 := own_put (by rw [hlen] at h1; exact h1) (k * 4 + 3) (.slice ka kn kc) (by omega)
  refine ⟨L.set k ⟨_, hx'.len, hx'.one⟩, ?_, (h2.mono (fun _ _ _ h => h.agree hag)).set k (hx'.agree hag)⟩
  have e1 : flatC L = p ++ ([.string (strOf y.key), .string (strOf y.val.data), .slice pa pn pc, .slice ka0 kn0 kc0] ++ s) := by rw [← ex]; exact q1
  have e2 : flatC (L.set k ⟨_, hx'.len, hx'.one⟩) = p ++ ([.string (strOf y.key), .string (strOf y.val.data), .slice pa pn pc, .slice ka kn kc] ++ s) := q2 ⟨_, hx'.len, hx'.one⟩
  rw [List.length_set, hlen, e2]
  rw [e1, ← hp] at g0
  rw [← hp]
  simpa using g0
theorem cells_set {p : Int} {l : List (List UInt8 × Tr)} {k : Nat} {y : Rc} (h : (cellsR (.node p l))[k]? = some y) (T : Tr) : (cellsR (.node p l)).set k ⟨y.key, y.val, some T⟩ = cellsR (.node 0 (l.set k (keyAt l k, T))) := by
  rw [cellsR_node] at h
  obtain ⟨x, hx1, hx2⟩ := Option.map_eq_some_iff.1 h
  subst hx2
  have hkey : keyAt l k = x.1 := by unfold keyAt; rw [hx1]; rfl
  simp [cellsR, List.map_set, hkey]
end Go.Proofs.Ytemfnjlfcemehaa

/- The document's without: the walk. -/
namespace Go.Proofs.Ytemfnjlfcemehaa
open Go.RowKit

theorem delL_snoc {key : List UInt8} {l : List (List UInt8 × Tv)} {i : Nat} {x : List UInt8 × Tv} (h : l[i]? = some x) : cellsR (.leaf 0 (delL key (l.take (i + 1)))) = cellsR (.leaf 0 (delL key (l.take i))) ++ (if x.1 = key then [] else [⟨x.1, x.2, none⟩]) := by
  rw [List.take_add_one, h]
  by_cases hk : x.1 = key <;> simp [delL, cellsR, List.filter_append, hk]
theorem delL_short (key : List UInt8) (l : List (List UInt8 × Tv)) (i : Nat) : (cellsR (.leaf 0 (delL key (l.take i)))).length ≤ i := by
  rw [cellsR_len]
  show (delL key (l.take i)).length ≤ i
  unfold delL
  have h1 := List.length_filter_le (fun c => c.1 != key) (l.take i)
  have h2 := List.length_take_le i l
  omega
set_option maxRecDepth 100000 in
set_option maxHeartbeats 3000000 in
theorem rwithout_leaf {n : Nat} {key : List UInt8} {F : Nat → Prop} {w : World} {cs : List Value} {p : Int} {l : List (List UInt8 × Tv)} (hF : ∀ b, F b → b < w.heap.size) (h : RNodeOn F (n + 1) w cs (.leaf p l)) (hl9 : l.length ≤ 900) :
    Calls Try.prog 83 #[.agg cs.toArray, .string (strOf key)] w (RNodeTo F (n + 1) w (.leaf 0 (delL key l))) := by
  obtain ⟨a, c, rfl, h1, hfa⟩ := h.at
  obtain ⟨e1, e2, e3⟩ := h1.lens
  obtain ⟨m, hml⟩ : ∃ m, cntT (.leaf p l) = m := ⟨_, rfl⟩
  have hlm : l.length = m := hml
  rw [hml] at h1 e1 e2 ⊢
  have hm9 : m ≤ 900 := by rw [← hlm]; exact hl9
  show Calls _ _ #[.agg #[.int .i64 p, .bool true, .slice a m c], .string (strOf key)] _ _
  obtain ⟨W2, hW2⟩ : ∃ x, (w.alloc (.cells #[.int .i64 p, .bool true, .slice a m c] 26)).alloc (.cells #[.int .i64 0, .bool false, .slice none 0 0] 26) = x := ⟨_, rfl⟩
  have hb2 : Below w.heap.size w W2 := by rw [← hW2]; exact Below.al (Below.al (Below.refl _ _))
  have hx2 : Boxes W2 [(w.heap.size + 1, [.int .i64 0, .bool false, .slice none 0 0]), (w.heap.size, [.int .i64 p, .bool true, .slice a m c])] := by
    rw [← hW2]
    exact ((Boxes.nil w).alloc #[.int .i64 p, .bool true, .slice a m c] 26 (b := w.heap.size) rfl).alloc #[.int .i64 0, .bool false, .slice none 0 0] 26 (b := w.heap.size + 1) (by simp)
  have hsz2 : W2.heap.size = w.heap.size + 2 := by rw [← hW2]; simp
  have n1 := hx2.cell 1 1 rfl rfl
  have HX2 := Lib.hid hx2
  have HB2 := Lib.hid hb2
  have HR := Lib.hid h1
  have HLM := Lib.hid hlm
  have HS2 := Lib.hid hsz2
  have hF2 : ∀ b, F b → b < W2.heap.size := fun b hb => by have := hF b hb; omega
  have HF2 := Lib.hid hF2
  clear hx2 hb2 h1 h hfa hml e1 hlm hl9 hsz2 hF2
  go_enter Try.func83, Try.ntmps83
  go_wp2_with fail
  clear hW2 n1
  go_loopw [5, 6] (fun s5 s6 wr => ∃ (i q : Nat) (av : Option Addr) (dv : Nat), i ≤ m ∧ q ≤ i ∧ s6 = .int .i64 i ∧ s5 = .slice av q dv ∧ CellsF 48 F n W2.heap.size wr s5 (cellsR (.leaf 0 (delL key (l.take i)))) ∧ Boxes wr [(w.heap.size + 1, [.int .i64 0, .bool false, .slice none 0 0]), (w.heap.size, [.int .i64 p, .bool true, .slice a m c])] ∧ Below w.heap.size w wr) (fun _ s _ => m - (intOf s).toNat)
  case atStart => exact ⟨0, 0, none, 0, Nat.zero_le _, Nat.le_refl _, rfl, rfl, CellsF.nil _ _ _ _ _, HX2.out, HB2.out⟩
  case round =>
    obtain ⟨i, q, av, dv, hi, hq, rfl, rfl, hc, hx, hb⟩ := hrel
    have f2 := hx.cell 1 2 rfl rfl
    have hge : ∀ g, (Value.slice av q dv).ownBlock = some g → W2.heap.size ≤ g ∧ g < wr.heap.size := fun g hg => hc.ge hg
    by_cases him : i < m
    · obtain ⟨b, off, y, pa1, pn1, pc1, ka1, kn1, kc1, rfl, hbb, hy, hyc, _, _, _, _, e0, e1, e2', e3'⟩ := RNodeOn.cell HR.out him
      rw [cellsR_leaf] at hy
      obtain ⟨x, hx1, hx2⟩ := Option.map_eq_some_iff.1 hy
      subst hx2
      have hsn := delL_snoc (key := key) hx1
      have l0 := (hb.cell (p := ⟨b, off + i * 4, none⟩) hbb).trans e0
      have l1 := (hb.cell (p := ⟨b, off + i * 4 + 1, none⟩) hbb).trans e1
      have l2 := (hb.cell (p := ⟨b, off + i * 4 + 2, none⟩) hbb).trans e2'
      have l3 := (hb.cell (p := ⟨b, off + i * 4 + 3, none⟩) hbb).trans e3'
      have him' : (i : Int) < (m : Int) := by omega
      by_cases hk : x.1 = key
      · rw [if_pos hk, List.append_nil] at hsn
        obtain ⟨c1, c2⟩ := cmp_eq key
        have c2' : ((strOf key).toList != (strOf key).toList) = false := by simp
        rw [hk] at l0
        rw [← hsn] at hc
        have HC := Lib.hid hc
        have HX := Lib.hid hx
        have HB := Lib.hid hb
        clear hc hx hb hsn hk e0 e1 e2' e3' hyc hy hx1
        go_wp2_with fail
        go_roundw
        case rel => exact ⟨i + 1, q, av, dv, by omega, by omega, by go_num, rfl, HC.out, HX.out, HB.out⟩
        case measure => simp [intOf]; omega
      · rw [if_neg hk] at hsn
        have hne : ((strOf x.1).toList == (strOf key).toList) = false := by
          rw [strOf_toList, strOf_toList]; simpa using hk
        have hne' : ((strOf x.1).toList != (strOf key).toList) = true := by
          rw [strOf_toList, strOf_toList]; simpa using hk
        obtain ⟨v8, w8, hr8, c8, hg8⟩ := hc.append Try.underlying24 info_Cw (by have := hx.lt 0 rfl; have := HS2.out; have := hb.size; exact Nat.le_trans (Nat.le_of_eq HS2.out) (by omega)) HF2.out (by have := delL_short key l i; omega) (RcOn.below hyc hb)
        have hx8 := hx.grown hg8 (by intro q' hq' e; have := hge _ e; have := HS2.out; simp at hq'; rcases hq' with rfl | rfl <;> omega)
        have hb8 := hb.grown hg8 hb.size (fun k hk => by have := hge k hk; have := HS2.out; omega)
        rw [← hsn] at c8
        obtain ⟨a8, d8, ev8, _, _, _, _, _⟩ := c8.sl
        obtain ⟨q8, hq8⟩ : ∃ q8, (cellsR (.leaf 0 (delL key (l.take (i + 1))))).length = q8 := ⟨_, rfl⟩
        have hq8i : q8 ≤ i + 1 := by rw [← hq8]; exact delL_short key l (i + 1)
        rw [hq8] at ev8
        subst ev8
        have HC := Lib.hid c8
        have HX := Lib.hid hx8
        have HB := Lib.hid hb8
        clear hc hx hb hsn hk e0 e1 e2' e3' hyc hy hx1 c8 hx8 hb8 hg8 hq8
        go_wp2_with (at_builtin; refine wpList_append_run rfl _ _ _ _ rfl rfl rfl hr8 ?_)
        go_roundw
        case rel => exact ⟨i + 1, q8, a8, d8, by omega, hq8i, by go_num, rfl, HC.out, HX.out, HB.out⟩
        case measure => simp [intOf]; omega
    · have him' : decide ((i : Int) < (m : Int)) = false := by simp; omega
      have hs2 := HS2.out
      rw [List.take_of_length_le (by rw [HLM.out]; omega)] at hc
      have hq' : (cellsR (.leaf 0 (delL key l))).length = q := by
        obtain ⟨_, _, e, _⟩ := hc.sl
        cases e; rfl
      have hn : RNodeOn (Fr F W2) (n + 1) wr [.int .i64 0, .bool true, .slice av q dv] (.leaf 0 (delL key l)) := hc.nodeH (fun b hb => .inl hb) (fun b hb => .inr hb)
      have z0 := hx.cell 0 0 rfl rfl
      have z1 := hx.cell 0 1 rfl rfl
      have z2 := hx.cell 0 2 rfl rfl
      have y0 := hx.frozen 0 0 rfl
      have y1 := hx.frozen 0 1 rfl
      have y2 := hx.frozen 0 2 rfl
      obtain ⟨t0, t1, t2, HE⟩ := rend (F := F) (w := w) (hx.sub (m := [(w.heap.size + 1, [.int .i64 0, .bool false, .slice none 0 0])]) (by simp)) (by omega) (fun hg => by
        rcases hg with hg | hg
        · have := hF _ hg; omega
        · omega) (fun b hb => by
        rcases hb with hb | hb
        · exact .inl hb
        · exact .inr (by omega)) hn hb
      clear hx hb hc hn hge hq' hs2
      go_wp2_with fail
      refine bodyPost_ret (v := .agg #[.int .i64 0, .bool true, .slice av q dv]) (by simp only [results, Try.results83]; simp [go_sem, t0, t1, t2]) rfl HE.out
set_option maxRecDepth 100000 in
set_option maxHeartbeats 3000000 in
theorem rwithout_node {N : Nat} {key : List UInt8} (IH : ∀ {F : Nat → Prop} {w : World} {cs : List Value} {t : Tr}, (∀ b, F b → b < w.heap.size) → RNodeOn F N w cs t → DelOk N t key → Calls Try.prog 83 #[.agg cs.toArray, .string (strOf key)] w (RNodeTo F N w (delT N t key)))
    {F : Nat → Prop} {w : World} {cs : List Value} {p : Int} {l : List (List UInt8 × Tr)} (hF : ∀ b, F b → b < w.heap.size) (h : RNodeOn F (N + 1) w cs (.node p l)) (ho : DelOk (N + 1) (.node p l) key) :
    Calls Try.prog 83 #[.agg cs.toArray, .string (strOf key)] w (RNodeTo F (N + 1) w (delT (N + 1) (.node p l) key)) := by
  obtain ⟨o1, o2, o3, M, rfl, o4⟩ := ho
  have H := Lib.hid h
  obtain ⟨a, c, rfl, h1, hfa⟩ := h.at
  obtain ⟨e1, e2, e3⟩ := h1.lens
  obtain ⟨m, hml⟩ : ∃ m, cntT (.node p l) = m := ⟨_, rfl⟩
  have hlm : l.length = m := hml
  rw [hml] at h1 hfa e1 e2 ⊢
  obtain ⟨k, hk⟩ : ∃ k, wayF (keysOf l) key = k := ⟨_, rfl⟩
  have hkm : k < m := by rw [← hk, ← hlm, ← show (keysOf l).length = l.length by simp [keysOf]]; exact wayF_lt key (by simpa [keysOf] using o1)
  have hput : delT (M + 1 + 1) (.node p l) key = mendT 0 (l.set k (keyAt l k, delT (M + 1) (kidAt l k) key)) k := by rw [← hk]; rfl
  rw [hk] at o3 o4
  rw [hput]
  obtain ⟨b, off, bk, ok, kcs, pa, pn, pc, kc, rfl, hbb, hbk, hon, d0, d1, d2, d3, hck, hkc1, hkc2⟩ := RNodeOn.kid h1 hkm
  have hm9 : m ≤ 1000 := by rw [← hlm]; exact o2
  obtain ⟨kid, hkd⟩ : ∃ x, kidAt l k = x := ⟨_, rfl⟩
  rw [hkd] at hon o3 o4 ⊢
  obtain ⟨T, hT⟩ : ∃ x, delT (M + 1) kid key = x := ⟨_, rfl⟩
  have IH := fun {F : Nat → Prop} {w : World} {cs : List Value} (h1 : ∀ b, F b → b < w.heap.size) (h2 : RNodeOn F (M + 1) w cs kid) => IH h1 h2 o3
  rw [hT] at IH o4 ⊢
  have q2 : ∀ y, (cellsR (.node p l))[k]? = some y → (cellsR (.node p l)).set k ⟨y.key, y.val, some T⟩ = cellsR (.node 0 (l.set k (keyAt l k, T))) := fun y hy => cells_set hy T
  obtain ⟨L2, hL2⟩ : ∃ x, l.set k (keyAt l k, T) = x := ⟨_, rfl⟩
  have q3 : L2.length = m := by rw [← hL2, List.length_set]; exact hlm
  rw [hL2] at o4 ⊢
  simp only [hL2] at q2
  obtain ⟨ak, ck, rfl, _, _⟩ := hon.at
  obtain ⟨km, hkm'⟩ : ∃ x, cntT kid = x := ⟨_, rfl⟩
  obtain ⟨kp, hkp⟩ : ∃ x, kid.page = x := ⟨_, rfl⟩
  obtain ⟨kl, hkl⟩ : ∃ x, kid.isLeaf = x := ⟨_, rfl⟩
  rw [hkm', hkp, hkl] at hon hck
  show Calls _ _ #[.agg #[.int .i64 p, .bool false, .slice (some ⟨b, off, none⟩) m c], .string (strOf key)] _ _
  obtain ⟨W2, hW2⟩ : ∃ x, (w.alloc (.cells #[.int .i64 p, .bool false, .slice (some ⟨b, off, none⟩) m c] 26)).alloc (.cells #[.int .i64 0, .bool false, .slice none 0 0] 26) = x := ⟨_, rfl⟩
  have hb2 : Below w.heap.size w W2 := by rw [← hW2]; exact Below.al (Below.al (Below.refl _ _))
  have hx2 : Boxes W2 [(w.heap.size + 1, [.int .i64 0, .bool false, .slice none 0 0]), (w.heap.size, [.int .i64 p, .bool false, .slice (some ⟨b, off, none⟩) m c])] := by
    rw [← hW2]
    exact ((Boxes.nil w).alloc #[.int .i64 p, .bool false, .slice (some ⟨b, off, none⟩) m c] 26 (b := w.heap.size) rfl).alloc #[.int .i64 0, .bool false, .slice none 0 0] 26 (b := w.heap.size + 1) (by simp)
  have hsz2 : W2.heap.size = w.heap.size + 2 := by rw [← hW2]; simp
  have n0 := hx2.cell 1 0 rfl rfl
  have n1 := hx2.cell 1 1 rfl rfl
  have n2 := hx2.cell 1 2 rfl rfl
  have CW := rway_any (H.out.below hb2).toRIn key (by rw [hml]; exact hm9)
  rw [show (Tr.node p l).keys = keysOf l from rfl, hk, hml] at CW
  have HX2 := Lib.hid hx2
  have HB2 := Lib.hid hb2
  have HR := Lib.hid h1
  have HON := Lib.hid hon
  have HD3 := Lib.hid d3
  have HCK := Lib.hid hck
  have HO4 := Lib.hid o4
  have Q2 := Lib.hid q2
  have HQ3 := Lib.hid q3
  have HML := Lib.hid hml
  have HS2 := Lib.hid hsz2
  clear hx2 hb2 h1 hon d0 d1 d2 d3 hck h hfa hml hkp hkm' hkl e1 hk hput hkd o3 o4 q2 q3 hL2 hT hlm o1 o2
  go_enter Try.func83, Try.ntmps83
  go_wp2_with fail
  refine CW.mono ?_
  rintro e w3 ⟨rfl, hb3⟩
  have hbw3 := below_via HB2.out hb3
  have hs3 : w.heap.size + 2 ≤ w3.heap.size := by have := hb3.size; omega
  have hx3 := HX2.out.step hb3
  have hF3 : ∀ b, F b → b < w3.heap.size := fun b hb => by have := hF b hb; omega
  have c0 : CellsF 48 F (M + 1) w3.heap.size w3 (.slice none 0 0) [] := CellsF.nil _ _ _ _ _
  obtain ⟨v4, w4, hr4, c4, hg4⟩ := c0.row Try.underlying24 info_Cw (Nat.le_refl _) hF3 (by simp) (TabR.mono (TabR.below (Nat.le_refl _) hbw3 HR.out) (fun _ _ hy => RcOn.below hy hbw3)) (by omega)
  rw [List.nil_append] at c4
  have hb34 : Below w3.heap.size w3 w4 := (Below.refl _ _).grown hg4 (Nat.le_refl _) (fun g hg => by cases hg)
  obtain ⟨a4, d4, ev4, hd4, hd4m, _, _, hg0⟩ := c4.sl
  rw [cellsR_len, HML.out] at ev4 hd4 hg0
  obtain ⟨g, rfl, hg3, hg4', _⟩ := hg0 (by omega)
  subst ev4
  have hbw4 := below_via hbw3 hb34
  have hx4 := hx3.step hb34
  have m2 := hx3.cell 1 2 rfl rfl
  have v2 := hx4.cell 1 2 rfl rfl
  have v3 := (hbw4.cell (p := ⟨b, off + k * 4 + 3, none⟩) hbb).trans HD3.out
  have k0 : w4.cell? ⟨bk, ok, none⟩ = some (.int .i64 kp) := (hbw4.cell (p := ⟨bk, ok, none⟩) hbk).trans (by simpa using HCK.out 0 _ rfl)
  have k1 : w4.cell? ⟨bk, ok + 1, none⟩ = some (.bool kl) := (hbw4.cell (p := ⟨bk, ok + 1, none⟩) hbk).trans (by simpa using HCK.out 1 _ rfl)
  have k2 : w4.cell? ⟨bk, ok + 2, none⟩ = some (.slice ak km ck) := (hbw4.cell (p := ⟨bk, ok + 2, none⟩) hbk).trans (by simpa using HCK.out 2 _ rfl)
  have CP := IH (fun b hb => by have := hF b hb; have := hb34.size; omega) (HON.out.below hbw4)
  have HX4 := Lib.hid hx4
  have HB4 := Lib.hid hbw4
  have HC4 := Lib.hid c4
  have h34 := hb34.size
  clear CW hx3 hx4 hbw3 hb3 n0 n1 n2 IH hW2 c0 c4 hg4 hb34 hbw4 hF3 hg0
  have hkm1 : (k : Int) < (m : Int) := by omega
  go_upto_region 10 with (fail)
  go_upto_region 11 with (at_builtin; refine wpList_append_run rfl _ _ _ _ rfl rfl rfl hr4 ?_)
  clear hr4 m2
  go_wp2_with fail
  refine CP.mono ?_
  rintro e w5 hq
  obtain ⟨p5, l5, a5, m5, d5, rfl, hn5, hb5⟩ := hq.split
  obtain ⟨W6, hW6⟩ : ∃ x, w5.alloc (.cells #[.int .i64 p5, .bool l5, .slice a5 m5 d5] 26) = x := ⟨_, rfl⟩
  have hb56 : Below w5.heap.size w5 W6 := by rw [← hW6]; exact Below.al (Below.refl _ _)
  have hA : BoxAt W6 w5.heap.size #[.int .i64 p5, .bool l5, .slice a5 m5 d5] := by rw [← hW6]; exact BoxAt.here
  have hb46 := below_via hb5 hb56
  have hs5 : w4.heap.size ≤ w5.heap.size := hb5.size
  have hGg : ¬ Fr F w4 g := fun hg => by
    rcases hg with hg | hg
    · have := hF _ hg; omega
    · omega
  have c6 := (HC4.out.below hb46).mono (G := Fr F w4) (fun b hb => .inl hb)
  obtain ⟨_, _, ee, _, _, t6, _, hg0⟩ := c6.sl
  rw [cellsR_len, HML.out] at ee t6 hg0
  cases ee
  obtain ⟨_, eg, _, _, hfz⟩ := hg0 (by omega)
  cases eg
  obtain ⟨_, _, y, _, _, _, _, _, _, eg, _, hy, _, _, _, _, _, _, _, _, z3⟩ := RNodeOn.cell t6 hkm
  cases eg
  rw [Nat.zero_add] at z3
  have hfz := hfz (k * 4 + 3)
  have c7 := c6.kidPut hy hGg (one_kid hA (hn5.below hb56)) (.inr fun b' off' e => by cases e; exact .inr hs5)
  rw [Q2.out y hy] at c7
  obtain ⟨W7, hW7⟩ : ∃ x, W6.setCell ⟨g, k * 4 + 3, none⟩ (.slice (some ⟨w5.heap.size, 0, none⟩) 1 1) = x := ⟨_, rfl⟩
  rw [hW7] at c7
  have hsz7 : W6.heap.size ≤ W7.heap.size := by rw [← hW7]; simp
  have n7 : RNodeOn (Fr F W2) (M + 2) W7 [.int .i64 0, .bool false, .slice (some ⟨g, 0, none⟩) m d4] (.node 0 L2) := c7.nodeH (fun b hb => by
    rcases hb with hb | hb
    · exact .inl hb
    · exact .inr (by omega)) (fun b hb => .inr (by omega))
  have CM := rmend_any (fun _ h => h.2) n7.lt HO4.out (by rw [HQ3.out]; exact hkm)
  have hb7 : Below w.heap.size w W7 := by rw [← hW7]; exact (below_via HB4.out hb46).setCell (by simp; omega) _
  have hx7 : Boxes W7 [(w.heap.size + 1, [.int .i64 0, .bool false, .slice none 0 0])] := by
    rw [← hW7]
    exact ((HX4.out.step hb46).sub (m := [(w.heap.size + 1, [.int .i64 0, .bool false, .slice none 0 0])]) (by simp)).set _ _ (by intro q hq; simp at hq; subst hq; simp; omega)
  have HX7 := Lib.hid hx7
  have HB7 := Lib.hid hb7
  have h7 : w.heap.size + 2 ≤ W7.heap.size := by have := hb56.size; omega
  clear hq hn5 hb5 hb56 hA hb46 hGg c6 t6 hg0 hy c7 n7 hb7 hx7 CP v2 v3 k0 k1 k2
  go_wp2_with fail
  refine CM.mono ?_
  rintro e w8 hq
  obtain ⟨p6, l6, a6, m6, d6, rfl, n6, hb6⟩ := hq.split
  have hx6 := HX7.out.step hb6
  have z0 := hx6.cell 0 0 rfl rfl
  have z1 := hx6.cell 0 1 rfl rfl
  have z2 := hx6.cell 0 2 rfl rfl
  have y0 := hx6.frozen 0 0 rfl
  have y1 := hx6.frozen 0 1 rfl
  have y2 := hx6.frozen 0 2 rfl
  obtain ⟨t0, t1, t2, HE⟩ := rend (F := F) (w := w) hx6 (by omega) (fun hg => by
    have := HS2.out
    rcases hg with hg | hg
    · rcases hg.1 with hg | hg
      · have := hF _ hg; omega
      · omega
    · omega) (fun b hb => by
    have := HS2.out
    rcases hb with hb | hb
    · rcases hb.1 with hb | hb
      · exact .inl hb
      · exact .inr (by omega)
    · exact .inr (by omega)) n6 (below_via HB7.out hb6)
  clear hx6 n6 hq CM hb6
  go_wp2_with fail
  refine bodyPost_ret (v := .agg #[.int .i64 p6, .bool l6, .slice a6 m6 d6]) (by simp only [results, Try.results83]; simp [go_sem, t0, t1, t2]) rfl HE.out
theorem rwithout_any : ∀ {N : Nat} {F : Nat → Prop} {w : World} {cs : List Value} {t : Tr} (key : List UInt8), (∀ b, F b → b < w.heap.size) → RNodeOn F N w cs t → DelOk N t key → Calls Try.prog 83 #[.agg cs.toArray, .string (strOf key)] w (RNodeTo F N w (delT N t key))
  | 0, _, _, _, _, _, _, h, _ => h.elim
  | _ + 1, _, _, _, .leaf _p _l, _key, hF, h, ho => rwithout_leaf hF h ho.1
  | _N + 1, _, _, _, .node _p _l, key, hF, h, ho => rwithout_node (fun h1 h2 h3 => rwithout_any key h1 h2 h3) hF h ho
end Go.Proofs.Ytemfnjlfcemehaa

/- The document's Delete. -/
namespace Go.Proofs.Ytemfnjlfcemehaa
open Go.RowKit

/-- What 'Delete' answers. -/
def RDelTo (F : Nat → Prop) (n : Nat) (w : World) (t : Tr) (key : List UInt8) (e : Ending) (w' : World) : Prop :=
  ∃ p l a m d, e = .returned (.tuple #[.agg #[.int .i64 p, .bool l, .slice a m d], .bool (findT n t key).isSome]) ∧ RNodeOn (Fr F w) (n + 1) w' [.int .i64 p, .bool l, .slice a m d] (delW n t key) ∧ Below w.heap.size w w'
theorem RDelTo.mk {F G : Nat → Prop} {n : Nat} {w w' : World} {t T : Tr} {key : List UInt8} {B : Bool} {r : Nat} {p : Int} {lf : Bool} {a : Option Addr} {m d : Nat} {x0 x1 x2 : Value} (hT : delW n t key = T) (hB : (findT n t key).isSome = B) (hx : Boxes w' [(r, [x0, x1, x2])]) (hr : w.heap.size ≤ r) (hG : ¬ G r) (hGF : ∀ b, G b → Fr F w b) (h : RNodeOn G (n + 1) w' [.int .i64 p, .bool lf, .slice a m d] T) (hb : Below w.heap.size w w') :
    (((w'.setCell ⟨r, 0, none⟩ (.int .i64 p)).setCell ⟨r, 1, none⟩ (.bool lf)).setCell ⟨r, 2, none⟩ (.slice a m d)).cell? ⟨r, 0, none⟩ = some (.int .i64 p) ∧
    (((w'.setCell ⟨r, 0, none⟩ (.int .i64 p)).setCell ⟨r, 1, none⟩ (.bool lf)).setCell ⟨r, 2, none⟩ (.slice a m d)).cell? ⟨r, 1, none⟩ = some (.bool lf) ∧
    (((w'.setCell ⟨r, 0, none⟩ (.int .i64 p)).setCell ⟨r, 1, none⟩ (.bool lf)).setCell ⟨r, 2, none⟩ (.slice a m d)).cell? ⟨r, 2, none⟩ = some (.slice a m d) ∧
    Hid (RDelTo F n w t key (.returned (.tuple #[.agg #[.int .i64 p, .bool lf, .slice a m d], .bool B])) (((w'.setCell ⟨r, 0, none⟩ (.int .i64 p)).setCell ⟨r, 1, none⟩ (.bool lf)).setCell ⟨r, 2, none⟩ (.slice a m d))) := by
  obtain ⟨t0, t1, t2, _⟩ := rend hx hr hG hGF h hb
  subst hB hT
  exact ⟨t0, t1, t2, Lib.hid ⟨_, _, _, _, _, rfl, (h.put3 hG _ _ _).mono hGF, ((hb.setCell (by simpa using hr) _).setCell (by simpa using hr) _).setCell (by simpa using hr) _⟩⟩
set_option maxRecDepth 100000 in
set_option maxHeartbeats 2000000 in
theorem rdel_any {N : Nat} {F : Nat → Prop} {w : World} {cs : List Value} {t : Tr} (key : List UInt8) (hF : ∀ b, F b → b < w.heap.size) (h : RNodeOn F N w cs t) (hw : Whole N t) :
    Calls Try.prog 52 #[.agg cs.toArray, .string (strOf key)] w (RDelTo F N w t key) := by
  have H := Lib.hid h
  cases N with
  | zero => exact h.elim
  | succ N =>
  obtain ⟨a, c, rfl, _, _⟩ := h.at
  obtain ⟨lf, hlf⟩ : ∃ x, t.isLeaf = x := ⟨_, rfl⟩
  obtain ⟨p, hp⟩ : ∃ x, t.page = x := ⟨_, rfl⟩
  obtain ⟨m, hm⟩ : ∃ x, cntT t = x := ⟨_, rfl⟩
  rw [hlf, hp, hm] at h H ⊢
  obtain ⟨W2, hW2⟩ : ∃ x, (w.alloc (.cells #[.int .i64 p, .bool lf, .slice a m c] 26)).alloc (.cells #[.int .i64 0, .bool false, .slice none 0 0] 26) = x := ⟨_, rfl⟩
  have hb2 : Below w.heap.size w W2 := by rw [← hW2]; exact Below.al (Below.al (Below.refl _ _))
  have hx2 : Boxes W2 [(w.heap.size + 1, [.int .i64 0, .bool false, .slice none 0 0]), (w.heap.size, [.int .i64 p, .bool lf, .slice a m c])] := by
    rw [← hW2]
    exact ((Boxes.nil w).alloc #[.int .i64 p, .bool lf, .slice a m c] 26 (b := w.heap.size) rfl).alloc #[.int .i64 0, .bool false, .slice none 0 0] 26 (b := w.heap.size + 1) (by simp)
  have hsz2 : W2.heap.size = w.heap.size + 2 := by rw [← hW2]; simp
  have CF := rfind_any key (h.below hb2) (hw.find key)
  unfold FoundPost at CF
  obtain ⟨s, hs⟩ : ∃ x, (findT (N + 1) t key).getD [] = x := ⟨_, rfl⟩
  obtain ⟨B, hB⟩ : ∃ x, (findT (N + 1) t key).isSome = x := ⟨_, rfl⟩
  rw [hs, hB] at CF
  have n0 := hx2.cell 1 0 rfl rfl
  have n1 := hx2.cell 1 1 rfl rfl
  have n2 := hx2.cell 1 2 rfl rfl
  have HX := Lib.hid hx2
  have HB := Lib.hid hb2
  have HW := Lib.hid hw
  have HBB := Lib.hid hB
  clear h hx2 hb2 hlf hp hm hs hB hw
  show Calls _ _ #[.agg #[.int .i64 p, .bool lf, .slice a m c], .string (strOf key)] _ _
  go_enter Try.func52, Try.ntmps52
  go_wp2_with fail
  refine CF.mono ?_
  rintro e w3 ⟨rfl, hb3⟩
  have hx3 := HX.out.step hb3
  have hbw3 := below_via HB.out hb3
  have hs3 : w.heap.size + 2 ≤ w3.heap.size := by have := hb3.size; omega
  have n0 := hx3.cell 1 0 rfl rfl
  have n1 := hx3.cell 1 1 rfl rfl
  have n2 := hx3.cell 1 2 rfl rfl
  cases B with
  | false =>
    have hT : delW (N + 1) t key = t := by
      unfold delW
      rw [if_pos (by cases hf : findT (N + 1) t key with
        | none => rfl
        | some x => have := HBB.out; rw [hf] at this; cases this)]
    have z0 := hx3.cell 0 0 rfl rfl
    have z1 := hx3.cell 0 1 rfl rfl
    have z2 := hx3.cell 0 2 rfl rfl
    have y0 := hx3.frozen 0 0 rfl
    have y1 := hx3.frozen 0 1 rfl
    have y2 := hx3.frozen 0 2 rfl
    obtain ⟨t0, t1, t2, HE⟩ := RDelTo.mk (F := F) (w := w) (G := F) hT HBB.out (hx3.sub (m := [(w.heap.size + 1, [.int .i64 0, .bool false, .slice none 0 0])]) (by simp)) (by omega) (fun hg => by have := hF _ hg; omega) (fun b hb => .inl hb) ((H.out.below hbw3).more (show N + 1 ≤ N + 1 + 1 by omega)) hbw3
    clear hx3 hbw3 hb3 hT CF hW2
    go_wp2_with fail
    refine bodyPost_ret (v := .tuple #[.agg #[.int .i64 p, .bool lf, .slice a m c], .bool false]) (by simp only [results, Try.results52]; simp [go_sem, t0, t1, t2]) rfl HE.out
  | true =>
  have hfn : findT (N + 1) t key ≠ none := fun e => by have := HBB.out; rw [e] at this; cases this
  obtain ⟨ho, ht⟩ := HW.out.del hfn
  have CWo := rwithout_any key (fun b hb => by have := hF b hb; omega) (H.out.below hbw3) ho
  obtain ⟨T, hT⟩ : ∃ x, delT (N + 1) t key = x := ⟨_, rfl⟩
  have HT : Hid (delW (N + 1) t key = topT (N + 1) T) := Lib.hid (by unfold delW; rw [if_neg hfn, hT])
  rw [hT] at CWo ht
  have HX3 := Lib.hid hx3
  have HB3 := Lib.hid hbw3
  have HTO := Lib.hid ht
  clear hx3 hbw3 hb3 ho ht hT CF hW2 hfn
  go_wp2_with fail
  refine CWo.mono ?_
  rintro e w4 hq
  obtain ⟨p1, l1, a1, m1, d1, rfl, hn1, hb1⟩ := hq.split
  have C2 := rtop_any (F := fun x => Fr F w3 x ∧ x < w4.heap.size) (fun _ h => h.2) hn1.lt HTO.out
  have HX4 := Lib.hid (HX3.out.step hb1)
  have HB4 := Lib.hid (below_via HB3.out hb1)
  have h34 := hb1.size
  clear hn1 hb1 hq CWo n0 n1 n2
  go_wp2_with fail
  refine C2.mono ?_
  rintro e w5 hq
  obtain ⟨p2, l2, a2, m2, d2, rfl, hn2, hb2⟩ := hq.split
  have hx2 := HX4.out.step hb2
  have z0 := hx2.cell 0 0 rfl rfl
  have z1 := hx2.cell 0 1 rfl rfl
  have z2 := hx2.cell 0 2 rfl rfl
  have y0 := hx2.frozen 0 0 rfl
  have y1 := hx2.frozen 0 1 rfl
  have y2 := hx2.frozen 0 2 rfl
  obtain ⟨t0, t1, t2, HE⟩ := RDelTo.mk (F := F) (w := w) HT.out HBB.out (hx2.sub (m := [(w.heap.size + 1, [.int .i64 0, .bool false, .slice none 0 0])]) (by simp)) (by omega) (fun hg => by
    rcases hg with hg | hg
    · rcases hg.1 with hg | hg
      · have := hF _ hg; omega
      · omega
    · omega) (fun b hb => by
    rcases hb with hb | hb
    · rcases hb.1 with hb | hb
      · exact .inl hb
      · exact .inr (by omega)
    · exact .inr (by omega)) hn2 (below_via HB4.out hb2)
  clear hx2 hn2 hb2 hq C2
  go_wp2_with fail
  refine bodyPost_ret (v := .tuple #[.agg #[.int .i64 p2, .bool l2, .slice a2 m2 d2], .bool true]) (by simp only [results, Try.results52]; simp [go_sem, t0, t1, t2]) rfl HE.out
end Go.Proofs.Ytemfnjlfcemehaa

/- The document's tree that a call answers, laid into a new box. -/
namespace Go.Proofs.Ytemfnjlfcemehaa
open Go.RowKit

/-- What a drawn 'y, was := jalousieref16.Delete(..)' leaves. -/
def RMid (B : Nat) (w2 : World) (M : Nat) (T : Tr) (s8 : Value) (wx : World) : Prop :=
  ∃ b8, s8 = .pointer (some ⟨b8, 0, none⟩) ∧ RBox B b8 wx M T ∧ Below w2.heap.size w2 wx ∧ w2.heap.size ≤ b8
theorem RMid.a {B : Nat} {w2 w9 : World} {M : Nat} {T : Tr} {G : Nat → Prop} {p : Int} {l : Bool} {a : Option Addr} {m d : Nat} (ty : TypeId) (hB : Below w2.heap.size w2 w9) (h : RNodeOn G M w9 [.int .i64 p, .bool l, .slice a m d] T) (hG : ∀ b, G b → B ≤ b) :
    RMid B w2 M T (.pointer (some ⟨w9.heap.size, 0, none⟩)) (w9.alloc (.cells #[.int .i64 p, .bool l, .slice a m d] ty)) :=
  ⟨_, rfl, ⟨p, l, a, m, d, (Boxes.nil w9).alloc #[.int .i64 p, .bool l, .slice a m d] ty rfl, (h.below (Below.al (Below.refl _ _))).mono hG⟩, Below.al hB, hB.size⟩
theorem RMid.b {B b : Nat} {w2 w9 : World} {M : Nat} {T : Tr} {G : Nat → Prop} {p : Int} {l : Bool} {a : Option Addr} {m d : Nat} (hB : Below w2.heap.size w2 w9) (hz : BoxAt w9 b #[.int .i64 0, .bool false, .slice none 0 0]) (hb2 : w2.heap.size ≤ b) (h : RNodeOn G M w9 [.int .i64 p, .bool l, .slice a m d] T) (hG : ∀ b, G b → B ≤ b) (hb : ¬ G b) :
    RMid B w2 M T (.pointer (some ⟨b, 0, none⟩)) (((w9.setCell ⟨b, 0, none⟩ (.int .i64 p)).setCell ⟨b, 1, none⟩ (.bool l)).setCell ⟨b, 2, none⟩ (.slice a m d)) :=
  ⟨_, rfl, ⟨p, l, a, m, d, ((hz.boxes.put 0 (.int .i64 p) (by simp)).put 1 (.bool l) (by simp)).put 2 (.slice a m d) (by simp), (h.put3 hb _ _ _).mono hG⟩, ((hB.setCell (by simpa using hb2) _).setCell (by simpa using hb2) _).setCell (by simpa using hb2) _, hb2⟩
/-- The box written over by a tree that stands elsewhere. -/
theorem RBox.put {B b : Nat} {w : World} {M : Nat} {T : Tr} {x0 x1 x2 : Value} {p : Int} {l : Bool} {a : Option Addr} {m d : Nat} (hx : Boxes w [(b, [x0, x1, x2])]) (h : RNodeOn (fun x => B ≤ x) M w [.int .i64 p, .bool l, .slice a m d] T) (hb : b < B) :
    RBox B b (((w.setCell ⟨b, 0, none⟩ (.int .i64 p)).setCell ⟨b, 1, none⟩ (.bool l)).setCell ⟨b, 2, none⟩ (.slice a m d)) M T :=
  ⟨p, l, a, m, d, ((hx.put 0 (.int .i64 p) (by simp)).put 1 (.bool l) (by simp)).put 2 (.slice a m d) (by simp), h.put3 (by omega) _ _ _⟩
/-- What 'Delete' answers, as deep as it is told. -/
theorem RDelTo.go {F G : Nat → Prop} {n M : Nat} {W w' : World} {t T : Tr} {key : List UInt8} {B : Bool} {e : Ending} {lo hi : List UInt8} (h : RDelTo F n W t key e w') (hT : delW n t key = T) (hB : (findT n t key).isSome = B) (hG : ∀ b, Fr F W b → G b) (hs : Shape M lo hi T) :
    ∃ p l a m d, e = .returned (.tuple #[.agg #[.int .i64 p, .bool l, .slice a m d], .bool B]) ∧ RNodeOn G M w' [.int .i64 p, .bool l, .slice a m d] T ∧ Below W.heap.size W w' := by
  obtain ⟨p, l, a, m, d, e, h1, h2⟩ := h
  subst hT hB
  exact ⟨p, l, a, m, d, e, (h1.mono hG).less hs, h2⟩
end Go.Proofs.Ytemfnjlfcemehaa

/- Operations whose run is known, inside a region that draws. -/
namespace Go.Proofs.Ytemfnjlfcemehaa
open Go.RowKit

section
variable {P : Program}
theorem step_make_run {ops : Array Oper} {o : Oper} {a : Act} {w : World} {K : Act → World → Prop} {Q : Exit → Act → World → Prop} {E : Prop} (hgd : o.guard = none) (t : TypeId) (x y : Operand) (ho : o.op = .makeSlice t x y) {v u r : Value} {w' : World} (hx : a.eval x = v) (hy : a.eval y = u)
    (hr : (Instr.makeSlice t v u).run P w = .ok r w') (h : K (a.put o.dst r) w') : if Region.wanted o (yielded ops a.tmps) = true then Oper.wp P o a w K Q else E := by
  have hw : Region.wanted o (yielded ops a.tmps) = true := by simp [Region.wanted, hgd]
  rw [if_pos hw]
  unfold Oper.wp execOp
  simp only [ho, Sem.run_bind, Sem.run_pure, Result.andThen_ok, hx, hy, hr]
  exact h
theorem step_convert_run {ops : Array Oper} {o : Oper} {a : Act} {w : World} {K : Act → World → Prop} {Q : Exit → Act → World → Prop} {E : Prop} (hgd : o.guard = none) (s t : TypeId) (x : Operand) (ho : o.op = .convert s t x) {v r : Value} {w' : World} (hx : a.eval x = v)
    (hr : (convert s t v).run P w = .ok r w') (h : K (a.put o.dst r) w') : if Region.wanted o (yielded ops a.tmps) = true then Oper.wp P o a w K Q else E := by
  have hw : Region.wanted o (yielded ops a.tmps) = true := by simp [Region.wanted, hgd]
  rw [if_pos hw]
  unfold Oper.wp execOp
  simp only [ho, Sem.run_bind, Sem.run_pure, Result.andThen_ok, hx, hr]
  exact h
end
end Go.Proofs.Ytemfnjlfcemehaa

/- jalousielaw17.built: the document's tree of some steps (printed by gen_treBu.py). -/
namespace Go.Proofs.Ytemfnjlfcemehaa
open Go.RowKit

/-- What 'built' answers. -/
def BuiltTo (w : World) (l : List St) (e : Ending) (w' : World) : Prop := Below w.heap.size w w' ∧
  ((smallS l = false ∧ ∃ p lf a m d, e = .returned (.tuple #[.agg #[.int .i64 p, .bool lf, .slice a m d], .bool false])) ∨
  (smallS l = true ∧ ∃ N T p lf a m d, e = .returned (.tuple #[.agg #[.int .i64 p, .bool lf, .slice a m d], .bool true]) ∧ RNodeOn (fun x => w.heap.size < x) N w' [.int .i64 p, .bool lf, .slice a m d] T ∧ Whole N T ∧ N ≤ l.length + 1 ∧ (entsT N T).length ≤ l.length))
theorem info_b17 : (Try.prog.info? 5).map (fun i => (i.zero, i.size, i.bytes)) = some (some (.int .u8 0), 1, 1) := by kernel_rfl
theorem make_fill (n : Nat) (hn : n ≤ 400) (w : World) : ∃ w1, (Instr.makeSlice 72 (.int .i64 (n : Int)) (.int .i64 (n : Int))).run Try.prog w = .ok (.slice (some ⟨w.heap.size, 0, none⟩) n n) w1 ∧ Below w.heap.size w w1 ∧ (convert 72 9 (.slice (some ⟨w.heap.size, 0, none⟩) n n)).run Try.prog w1 = .ok (.string (strOf (fillT 0 n))) w1 := by
  obtain ⟨i0, hi, hz0, hz1, hz2⟩ := info_parts info_b17
  obtain ⟨w1, hm, ho1, hg1⟩ := run_makeSlice_full (P := Try.prog) (w := w) w.heap.size 72 5 i0 _ 1 Try.underlying72 hi hz0 hz1 .i64 .i64 n (by omega) (by rw [hz2]; omega) (by unfold maxLen; omega) (Nat.le_refl _)
  refine ⟨w1, hm, (Below.refl _ _).grown hg1 (Nat.le_refl _) (fun j e => by cases e), ?_⟩
  have ho : w1.ownsRow w.heap.size 5 1 (.slice (some ⟨w.heap.size, 0, none⟩) n n) n ((toI (fillT 0 n)).map (Value.int .u8)) := by
    have hmade : (madeCells (Value.int .u8 0).cells (n * 1)).toList = List.replicate n (.int .u8 0) := by rw [Nat.mul_one]; exact made_list (.int .u8 0) n
    rw [hmade] at ho1
    have e : ((toI (fillT 0 n)).map (Value.int .u8)) = List.replicate n (.int .u8 0) := by simp [toI, fillT]
    rw [e]
    exact ho1
  exact conv_string Try.underlying72 Try.underlying5 Try.underlying9 (Bs.own ho)
theorem del_few {N M : Nat} {t T : Tr} {key : List UInt8} (h : entsT M T = delL key (entsT N t)) {k : Nat} (hk : (entsT N t).length ≤ k) : (entsT M T).length ≤ k + 1 := by
  rw [h]
  have : (delL key (entsT N t)).length ≤ (entsT N t).length := by unfold delL; exact List.length_filter_le _ _
  omega
set_option maxRecDepth 100000 in
set_option maxHeartbeats 8000000 in
theorem built_any {w : World} {a : Option Addr} {n c : Nat} {l : List St} (h : Sts w a n c l) : Calls Try.prog 18 #[.slice a n c] w (BuiltTo w l) := by
  obtain ⟨e1, e2, e3⟩ := TabR.lens h
  have HP := Lib.hid h
  have HL := Lib.hid e1
  obtain ⟨W0, hW0⟩ : ∃ x, w.alloc (.cells #[.int .i64 0, .bool false, .slice none 0 0] 26) = x := ⟨_, rfl⟩
  have hb0 : Below w.heap.size w W0 := by rw [← hW0]; exact Below.al (Below.refl _ _)
  have hx0 : Boxes W0 [(w.heap.size, [.int .i64 0, .bool false, .slice none 0 0])] := by
    rw [← hW0]
    exact (Boxes.nil w).alloc #[.int .i64 0, .bool false, .slice none 0 0] 26 (b := w.heap.size) rfl
  have hs0 : W0.heap.size = w.heap.size + 1 := by rw [← hW0]; simp
  have E2 := rempty_any W0 (fun _ => False)
  have HB0 := Lib.hid hb0
  have HX0 := Lib.hid hx0
  have HS0 := Lib.hid hs0
  clear h e1 hb0 hx0 hs0
  go_enter Try.func18, Try.ntmps18
  go_wp2_with fail
  refine E2.mono ?_
  rintro e w1 ⟨cs, rfl, hn5, hb5⟩
  obtain ⟨y1, j1, ecs, hn5⟩ := rempty_on (F := fun x => w1.heap.size + 1 ≤ x) hn5
  subst ecs
  have hs1 : w.heap.size < w1.heap.size := by have := HS0.out; have := hb5.size; omega
  have hb5a : Below w1.heap.size w1 (w1.alloc (.cells #[.int .i64 0, .bool true, .slice y1 0 j1] 26)) := Below.al (Below.refl _ _)
  have hbW := below_via hb5 hb5a
  have HR : Hid (RBox (w1.heap.size + 1) w1.heap.size (w1.alloc (.cells #[.int .i64 0, .bool true, .slice y1 0 j1] 26)) 1 (.leaf 0 [])) := Lib.hid
    ⟨_, _, _, _, _, (Boxes.nil w1).alloc #[.int .i64 0, .bool true, .slice y1 0 j1] 26 (b := w1.heap.size) rfl, hn5.below hb5a⟩
  have HZ := Lib.hid (HX0.out.step hbW)
  have HBEL := Lib.hid (below_via HB0.out hbW)
  clear E2 hn5 hb5 hb5a hbW hW0
  go_wp2_with fail
  go_loopw [5] (fun s5 wr => ∃ (i N : Nat) (t : Tr), i ≤ n ∧ s5 = .int .i64 i ∧ RBox (w1.heap.size + 1) w1.heap.size wr N t ∧ Whole N t ∧ N ≤ i + 1 ∧ (entsT N t).length ≤ i ∧ Boxes wr [(w.heap.size, [.int .i64 0, .bool false, .slice none 0 0])] ∧ Hid ((l.take i).all okS = true) ∧ (i = 0 ∨ n ≤ 120) ∧ Below w.heap.size w wr) (fun s _ => n - (intOf s).toNat)
  case atStart => exact ⟨0, 1, _, Nat.zero_le _, rfl, HR.out, whole_empty, Nat.le_refl _, Nat.le_refl _, HZ.out, Lib.hid rfl, .inl rfl, HBEL.out⟩
  case round =>
    clear HR HZ HBEL
    obtain ⟨i, N, t, hi, rfl, hrb, hw, hN, hen, hz0, hall, h120, hb⟩ := hrel
    obtain ⟨p, lf, a1, n1, c1, hx, hr⟩ := hrb
    have f0 := hx.cell 0 0 rfl rfl
    have f1 := hx.cell 0 1 rfl rfl
    have f2 := hx.cell 0 2 rfl rfl
    have hsz5 : w1.heap.size + 1 ≤ wr.heap.size := hx.lt 0 rfl
    by_cases hlt : i < n
    · obtain ⟨bl, ol, y, rfl, hbl, hy, c0, c1'⟩ := HP.out.at hlt
      have hlt' : (i : Int) < (n : Int) := by omega
      have hbl2 := Nat.lt_of_lt_of_le hbl hb.size
      have HGOOD : Hid (okS y = true → (l.take (i + 1)).all okS = true) := Lib.hid (fun hp => all_next hy hp hall.out)
      have HBAD : Hid (okS y = false ∨ 120 < n → smallS l = false) := Lib.hid (fun hp => by
        rcases hp with hp | hp
        · unfold smallS; rw [all_bad hy hp]; rfl
        · unfold smallS
          rw [show decide (l.length ≤ 120) = false by simp; have := HL.out; omega, Bool.and_false])
      obtain ⟨k, sz⟩ := y
      dsimp only at *
      have v0 := (hb.cell (p := ⟨bl, ol + i * 2, none⟩) hbl).trans c0
      have v1 := (hb.cell (p := ⟨bl, ol + i * 2 + 1, none⟩) hbl).trans c1'
      have hszk := strOf_size k
      obtain ⟨m, hm⟩ : ∃ m, k.length = m := ⟨_, rfl⟩
      rw [hm] at hszk
      have HM := Lib.hid hm
      clear hm hy
      by_cases kb : k = []
      · have g1 := str_empty kb
        have hs := HBAD.out (by left; unfold okS; simp [kb])
        have HE : Hid (BuiltTo w l (.returned (.tuple #[.agg #[.int .i64 p, .bool lf, .slice a1 n1 c1], .bool false])) (((wr.setCell ⟨w.heap.size, 0, none⟩ (.int .i64 p)).setCell ⟨w.heap.size, 1, none⟩ (.bool lf)).setCell ⟨w.heap.size, 2, none⟩ (.slice a1 n1 c1))) := Lib.hid ⟨((hb.setCell (by simp) _).setCell (by simp) _).setCell (by simp) _, .inl ⟨hs, _, _, _, _, _, rfl⟩⟩
        have hxe := ((hz0.put 0 (.int .i64 p) (by simp)).put 1 (.bool lf) (by simp)).put 2 (.slice a1 n1 c1) (by simp)
        have t0 := hxe.cell 0 0 rfl rfl
        have t1 := hxe.cell 0 1 rfl rfl
        have t2 := hxe.cell 0 2 rfl rfl
        have z0 := hz0.cell 0 0 rfl rfl
        have z1 := hz0.cell 0 1 rfl rfl
        have z2 := hz0.cell 0 2 rfl rfl
        have y0 := hz0.frozen 0 0 rfl
        have y1 := hz0.frozen 0 1 rfl
        have y2 := hz0.frozen 0 2 rfl
        clear HBAD HGOOD hs hxe hz0 hb kb
        go_wp2_with fail
        refine bodyPost_ret (v := .tuple #[.agg #[.int .i64 p, .bool lf, .slice a1 n1 c1], .bool false]) (by simp only [results, Try.results18]; simp [go_sem, t0, t1, t2]) rfl HE.out
      have g1 := str_some kb
      by_cases k16 : ¬ m ≤ 16
      · have d1 : decide ((16 : Int) < m) = true := by simp; omega
        have d1' : decide (16 < m) = true := by simp; omega
        have hs := HBAD.out (by left; unfold okS; simp [HM.out, k16])
        have HE : Hid (BuiltTo w l (.returned (.tuple #[.agg #[.int .i64 p, .bool lf, .slice a1 n1 c1], .bool false])) (((wr.setCell ⟨w.heap.size, 0, none⟩ (.int .i64 p)).setCell ⟨w.heap.size, 1, none⟩ (.bool lf)).setCell ⟨w.heap.size, 2, none⟩ (.slice a1 n1 c1))) := Lib.hid ⟨((hb.setCell (by simp) _).setCell (by simp) _).setCell (by simp) _, .inl ⟨hs, _, _, _, _, _, rfl⟩⟩
        have hxe := ((hz0.put 0 (.int .i64 p) (by simp)).put 1 (.bool lf) (by simp)).put 2 (.slice a1 n1 c1) (by simp)
        have t0 := hxe.cell 0 0 rfl rfl
        have t1 := hxe.cell 0 1 rfl rfl
        have t2 := hxe.cell 0 2 rfl rfl
        have z0 := hz0.cell 0 0 rfl rfl
        have z1 := hz0.cell 0 1 rfl rfl
        have z2 := hz0.cell 0 2 rfl rfl
        have y0 := hz0.frozen 0 0 rfl
        have y1 := hz0.frozen 0 1 rfl
        have y2 := hz0.frozen 0 2 rfl
        clear HBAD HGOOD hs hxe hz0 hb kb
        go_wp2_with fail
        refine bodyPost_ret (v := .tuple #[.agg #[.int .i64 p, .bool lf, .slice a1 n1 c1], .bool false]) (by simp only [results, Try.results18]; simp [go_sem, t0, t1, t2]) rfl HE.out
      have k16 : m ≤ 16 := by omega
      have d1 : decide ((16 : Int) < m) = false := by simp; omega
      have d1' : decide (16 < m) = false := by simp; omega
      by_cases s4 : ¬ sz ≤ 400
      · have d4 : decide ((400 : Int) < sz) = true := by simp; omega
        have hs := HBAD.out (by left; unfold okS; simp [s4])
        have HE : Hid (BuiltTo w l (.returned (.tuple #[.agg #[.int .i64 p, .bool lf, .slice a1 n1 c1], .bool false])) (((wr.setCell ⟨w.heap.size, 0, none⟩ (.int .i64 p)).setCell ⟨w.heap.size, 1, none⟩ (.bool lf)).setCell ⟨w.heap.size, 2, none⟩ (.slice a1 n1 c1))) := Lib.hid ⟨((hb.setCell (by simp) _).setCell (by simp) _).setCell (by simp) _, .inl ⟨hs, _, _, _, _, _, rfl⟩⟩
        have hxe := ((hz0.put 0 (.int .i64 p) (by simp)).put 1 (.bool lf) (by simp)).put 2 (.slice a1 n1 c1) (by simp)
        have t0 := hxe.cell 0 0 rfl rfl
        have t1 := hxe.cell 0 1 rfl rfl
        have t2 := hxe.cell 0 2 rfl rfl
        have z0 := hz0.cell 0 0 rfl rfl
        have z1 := hz0.cell 0 1 rfl rfl
        have z2 := hz0.cell 0 2 rfl rfl
        have y0 := hz0.frozen 0 0 rfl
        have y1 := hz0.frozen 0 1 rfl
        have y2 := hz0.frozen 0 2 rfl
        clear HBAD HGOOD hs hxe hz0 hb kb
        go_wp2_with fail
        refine bodyPost_ret (v := .tuple #[.agg #[.int .i64 p, .bool lf, .slice a1 n1 c1], .bool false]) (by simp only [results, Try.results18]; simp [go_sem, t0, t1, t2]) rfl HE.out
      have s4 : sz ≤ 400 := by omega
      have d4 : decide ((400 : Int) < sz) = false := by simp; omega
      by_cases n12 : ¬ n ≤ 120
      · have d5 : decide ((120 : Int) < n) = true := by simp; omega
        have d5' : decide (120 < n) = true := by simp; omega
        have hs := HBAD.out (by right; omega)
        have HE : Hid (BuiltTo w l (.returned (.tuple #[.agg #[.int .i64 p, .bool lf, .slice a1 n1 c1], .bool false])) (((wr.setCell ⟨w.heap.size, 0, none⟩ (.int .i64 p)).setCell ⟨w.heap.size, 1, none⟩ (.bool lf)).setCell ⟨w.heap.size, 2, none⟩ (.slice a1 n1 c1))) := Lib.hid ⟨((hb.setCell (by simp) _).setCell (by simp) _).setCell (by simp) _, .inl ⟨hs, _, _, _, _, _, rfl⟩⟩
        have hxe := ((hz0.put 0 (.int .i64 p) (by simp)).put 1 (.bool lf) (by simp)).put 2 (.slice a1 n1 c1) (by simp)
        have t0 := hxe.cell 0 0 rfl rfl
        have t1 := hxe.cell 0 1 rfl rfl
        have t2 := hxe.cell 0 2 rfl rfl
        have z0 := hz0.cell 0 0 rfl rfl
        have z1 := hz0.cell 0 1 rfl rfl
        have z2 := hz0.cell 0 2 rfl rfl
        have y0 := hz0.frozen 0 0 rfl
        have y1 := hz0.frozen 0 1 rfl
        have y2 := hz0.frozen 0 2 rfl
        clear HBAD HGOOD hs hxe hz0 hb kb
        go_wp2_with fail
        refine bodyPost_ret (v := .tuple #[.agg #[.int .i64 p, .bool lf, .slice a1 n1 c1], .bool false]) (by simp only [results, Try.results18]; simp [go_sem, t0, t1, t2]) rfl HE.out
      have n12 : n ≤ 120 := by omega
      have d5 : decide ((120 : Int) < n) = false := by simp; omega
      have d5' : decide (120 < n) = false := by simp; omega
      have hall' := HGOOD.out (by unfold okS; simp [kb, HM.out, k16, s4])
      have HALL := Lib.hid hall'
      have hyk : keyOk k := ⟨kb, by rw [HM.out]; exact k16⟩
      clear hall' HGOOD HBAD hall
      by_cases hneg : sz < 0
      · have hneg' : decide (sz < 0) = true := by simp; omega
        obtain ⟨M, hM, hwM, heM⟩ := whole_del (key := k) hw
        have hfM := del_few heM hen
        obtain ⟨T, hT⟩ : ∃ T, delW N t k = T := ⟨_, rfl⟩
        obtain ⟨o, ho⟩ : ∃ o, (findT N t k).isSome = o := ⟨_, rfl⟩
        rw [hT] at hwM hfM
        have CRc : ∀ W, Below wr.heap.size wr W → Calls Try.prog 52 #[.agg #[.int .i64 p, .bool lf, .slice a1 n1 c1], .string (strOf k)] W (fun e w' => ∃ p l a m d, e = .returned (.tuple #[.agg #[.int .i64 p, .bool l, .slice a m d], .bool o]) ∧ RNodeOn (Fr (fun x => w1.heap.size + 1 ≤ x ∧ x < wr.heap.size) W) M w' [.int .i64 p, .bool l, .slice a m d] T ∧ Below W.heap.size W w') := fun W hW =>
          (rdel_any (F := fun x => w1.heap.size + 1 ≤ x ∧ x < wr.heap.size) k (fun b h => Nat.lt_of_lt_of_le h.2 hW.size) (hr.lt.below hW) hw).mono fun e w' h => h.go hT ho (fun b hb => hb) hwM.1.1
        have F4 : ∀ (j : Nat) (v : Value), [.int .i64 p, .bool lf, .slice a1 n1 c1][j]? = some v → ∀ W, Below wr.heap.size wr W → W.cell? ⟨w1.heap.size, j, none⟩ = some v := fun j v hv W hW => (hx.step hW).cell 0 j rfl hv
        have g0 := F4 0 _ rfl
        have g1' := F4 1 _ rfl
        have g2 := F4 2 _ rfl
        have l0 : ∀ W, Below wr.heap.size wr W → W.cell? ⟨bl, ol + i * 2, none⟩ = some (.string (strOf k)) := fun W hW => (hW.cell (p := ⟨bl, ol + i * 2, none⟩) hbl2).trans v0
        have HX := Lib.hid hx
        have HZ := Lib.hid hz0
        have HB := Lib.hid hb
        have hC0 : Below wr.heap.size wr wr.drew := (Below.refl _ _).drew
        have hGB : ∀ W : World, wr.heap.size ≤ W.heap.size → ∀ b, Fr (fun x => w1.heap.size + 1 ≤ x ∧ x < wr.heap.size) W b → w1.heap.size + 1 ≤ b := fun W hW b h => fr_le (fun b h => h.1) hsz5 hW h
        clear hx hr hz0 hb hw hyk kb hT ho heM F4
        go_upto_region 8 with (fail)
        go_cut [6] (fun s6 wx => RMid (w1.heap.size + 1) wr M T s6 wx)
        case first =>
          clear v0 v1
          go_region_held3 (fun W => Below wr.heap.size wr W) (first | with_reducible assumption | (repeat (with_reducible first | assumption | exact Nat.le_refl _ | exact Below.refl _ _ | apply Below.al | apply Below.dr | apply Below.st))) (first | (go_at_call 52; (with_reducible refine (CRc _ ?_).mono ?_); (focus (repeat (with_reducible first | assumption | exact Below.refl _ _ | apply Below.al | apply Below.dr))); rintro e w9 hq9; obtain ⟨j0, j9, j1, j2, j3, rfl, hn9, hb9⟩ := hq9; have hB9 : Below wr.heap.size wr w9 := below_via (by (repeat (with_reducible first | assumption | exact Below.refl _ _ | apply Below.al | apply Below.dr))) hb9; (try (refine lay (P := BoxAt w9 wr.heap.size #[.int .i64 0, .bool false, .slice none 0 0]) (BoxAt.below ?_ hb9) ?_; (focus ((repeat (with_reducible first | assumption | exact BoxAt.here | apply BoxAt.dr | apply BoxAt.al)); done)); intro hz9; have z0 := hz9.cell (i := 0) rfl; have z1 := hz9.cell (i := 1) rfl; have z2 := hz9.cell (i := 2) rfl; have u0 := hz9.frozen 0; have u1 := hz9.frozen 1; have u2 := hz9.frozen 2))))
          all_goals
            go_wp2_with fail
            go_meet
            first
              | (have hA := RMid.a (B := w1.heap.size + 1) (w2 := wr) 26 hB9 hn9 (hGB _ (Nat.le_refl _))
                 with_reducible exact hA)
              | (have hA := RMid.b (B := w1.heap.size + 1) (w2 := wr) (b := wr.heap.size) hB9 hz9 (Nat.le_refl _) hn9 (hGB _ (le_alloc (Nat.le_refl _) _)) (fr_not (fun h => by omega) (lt_alloc _ _))
                 with_reducible exact hA)
        case rest =>
        obtain ⟨by8, rfl, hby, hbc, hley⟩ := hcut
        obtain ⟨p9, l9, a9, m9, d9, hy9, hr9⟩ := hby
        have hx4 := HX.out.step hbc
        have hz4 := HZ.out.step hbc
        have r0 := hy9.cell 0 0 rfl rfl
        have r1 := hy9.cell 0 1 rfl rfl
        have r2 := hy9.cell 0 2 rfl rfl
        have s0 := hx4.cell 0 0 rfl rfl
        have s1 := hx4.cell 0 1 rfl rfl
        have s2 := hx4.cell 0 2 rfl rfl
        have y0 := hx4.frozen 0 0 rfl
        have y1 := hx4.frozen 0 1 rfl
        have y2 := hx4.frozen 0 2 rfl
        have hb4 := below_via HB.out hbc
        have HRX := Lib.hid (RBox.put (B := w1.heap.size + 1) hx4 hr9 (Nat.lt_succ_self _))
        have HZX := Lib.hid (((hz4.set ⟨w1.heap.size, 0, none⟩ (.int .i64 p9) (by simp; omega)).set ⟨w1.heap.size, 1, none⟩ (.bool l9) (by simp; omega)).set ⟨w1.heap.size, 2, none⟩ (.slice a9 m9 d9) (by simp; omega))
        have HBX := Lib.hid (((hb4.setCell (p := ⟨w1.heap.size, 0, none⟩) (show w.heap.size ≤ w1.heap.size by omega) (.int .i64 p9)).setCell (p := ⟨w1.heap.size, 1, none⟩) (show w.heap.size ≤ w1.heap.size by omega) (.bool l9)).setCell (p := ⟨w1.heap.size, 2, none⟩) (show w.heap.size ≤ w1.heap.size by omega) (.slice a9 m9 d9))
        clear hx4 hz4 hy9 hr9 hbc hb4 CRc g0 g1' g2 l0 hGB hC0
        go_wp2_with fail
        go_roundw
        case rel => exact ⟨i + 1, M, T, hlt, by go_num, HRX.out, hwM, by omega, hfM, HZX.out, HALL, .inr n12, HBX.out⟩
        case measure => simp [intOf]; omega
      · have hneg' : decide (sz < 0) = false := by simp; omega
        obtain ⟨sn, rfl⟩ : ∃ sn : Nat, sz = (sn : Int) := ⟨sz.toNat, by omega⟩
        have hsn : sn ≤ 400 := by omega
        have hv : valOk ⟨fillT 0 sn, []⟩ := ⟨by rw [fillT_len]; exact hsn, fun h => absurd rfl h⟩
        obtain ⟨M, hM, hwM, heM⟩ := whole_put hw hyk hv
        have hfM := put_some heM hen hw.srt
        obtain ⟨T, hT⟩ : ∃ T, putW N t k ⟨fillT 0 sn, []⟩ = T := ⟨_, rfl⟩
        rw [hT] at hwM hfM
        obtain ⟨w6, hmk, hb6, hcv⟩ := make_fill sn hsn wr.drew
        have hB6 : Below wr.heap.size wr w6 := below_via (Below.dr (Below.refl _ _)) hb6
        have hA6 : AgreeF (fun x => x ≠ w1.heap.size) wr w6 := AgreeF.of_below hB6
        have CRc : ∀ W, Below wr.heap.size wr W → Calls Try.prog 35 #[.agg #[.int .i64 p, .bool lf, .slice a1 n1 c1], .string (strOf k), .string (strOf (fillT 0 sn))] W (RGo (fun x => w1.heap.size + 1 ≤ x) M W T) := fun W hW => by
          have := rPut_whole (F := fun x => w1.heap.size + 1 ≤ x ∧ x < wr.heap.size) (fun b h => Nat.lt_of_lt_of_le h.2 hW.size) (hr.lt.below hW) hw k (fillT 0 sn) hyk (by rw [fillT_len]; exact hsn)
          rw [hT] at this
          exact this.mono fun e w' h => h.go (fun b hb => fr_le (fun b h => h.1) hsz5 hW.size hb) hwM.1.1
        have l0 : ∀ W, AgreeF (fun x => x ≠ w1.heap.size) wr W → W.cell? ⟨bl, ol + i * 2, none⟩ = some (.string (strOf k)) := fun W hW => (hW.cell (by show bl ≠ w1.heap.size; omega) hbl2).trans v0
        have l1 : ∀ W, AgreeF (fun x => x ≠ w1.heap.size) wr W → W.cell? ⟨bl, ol + i * 2 + 1, none⟩ = some (.int .i64 (sn : Int)) := fun W hW => (hW.cell (by show bl ≠ w1.heap.size; omega) hbl2).trans v1
        have hx6 := hx.step hB6
        have m0 := hx6.cell 0 0 rfl rfl
        have m1 := hx6.cell 0 1 rfl rfl
        have m2 := hx6.cell 0 2 rfl rfl
        have HX := Lib.hid hx
        have HZ := Lib.hid hz0
        have HB := Lib.hid hb
        clear hx hr hz0 hb hw hyk kb hT heM hv hx6 hneg
        go_upto_region 10 with (fail)
        clear v0 v1
        refine wp_region_noPanic ?_
        refine wp_region_held_drew (S := (fun W => AgreeF (fun x => x ≠ w1.heap.size) wr W)) (by kernel_rfl) (by (repeat (with_reducible first | assumption | exact AgreeF.refl _ | apply AgreeF.al | apply AgreeF.dr | apply AgreeF.st))) (fun hHeld => ?_)
        refine wpAnyH_take (i := 1) (oi := { dst := some 62, op := Op.move (Operand.tmp 0), type := 22, pos := "law.go:43", after := #[], guard := none }) (v := ?_) rfl (by kernel_rfl) (by kernel_rfl) (by kernel_rfl) (fun _ _ _ h => h) (Or.inl ⟨by rfl, ?_⟩) (by assumption) ?_
        rotate_left
        · (intro W hW; (try dsimp only at hW); go_simp <;> (with_reducible rfl))
        try simp only [Act.put, List.setIfInBounds_toArray, List.set_cons_zero, List.set_cons_succ]
        refine wpAnyH_take (i := 2) (oi := { dst := some 63, op := Op.move (Operand.tmp 5), type := 3, pos := "law.go:43", after := #[], guard := none }) (v := ?_) rfl (by kernel_rfl) (by kernel_rfl) (by kernel_rfl) (fun _ _ _ h => h) (Or.inl ⟨by rfl, ?_⟩) (by assumption) ?_
        rotate_left
        · (intro W hW; (try dsimp only at hW); go_simp <;> (with_reducible rfl))
        try simp only [Act.put, List.setIfInBounds_toArray, List.set_cons_zero, List.set_cons_succ]
        refine wpAnyH_take (i := 3) (oi := { dst := some 64, op := Op.indexAddr 22 (Operand.tmp 62) (Operand.tmp 63), type := 0, pos := "law.go:43", after := #[{ on := 1, ground := Ground.data }, { on := 2, ground := Ground.data }], guard := none }) (v := ?_) rfl (by kernel_rfl) (by kernel_rfl) (by kernel_rfl) (fun _ _ _ h => h) (Or.inl ⟨by rfl, ?_⟩) (by assumption) ?_
        rotate_left
        · (intro W hW; (try dsimp only at hW); go_simp <;> (with_reducible rfl))
        try simp only [Act.put, List.setIfInBounds_toArray, List.set_cons_zero, List.set_cons_succ]
        refine wpAnyH_take (i := 4) (oi := { dst := some 65, op := Op.fieldAddr 99 (Operand.tmp 64) 0, type := 0, pos := "law.go:43", after := #[{ on := 3, ground := Ground.data }], guard := none }) (v := ?_) rfl (by kernel_rfl) (by kernel_rfl) (by kernel_rfl) (fun _ _ _ h => h) (Or.inl ⟨by rfl, ?_⟩) (by assumption) ?_
        rotate_left
        · (intro W hW; (try dsimp only at hW); go_simp <;> (with_reducible rfl))
        try simp only [Act.put, List.setIfInBounds_toArray, List.set_cons_zero, List.set_cons_succ]
        refine wpAnyH_take (i := 5) (oi := { dst := some 66, op := Op.load 9 (Operand.tmp 65), type := 9, pos := "law.go:43", after := #[{ on := 4, ground := Ground.data }], guard := none }) (v := ?_) rfl (by kernel_rfl) (by kernel_rfl) (by kernel_rfl) (fun _ _ _ h => h) (Or.inl ⟨by rfl, ?_⟩) (by assumption) ?_
        rotate_left
        · (intro W hW; (try dsimp only at hW); go_simp <;> (with_reducible rfl))
        try simp only [Act.put, List.setIfInBounds_toArray, List.set_cons_zero, List.set_cons_succ]
        refine wpAnyH_take (i := 6) (oi := { dst := some 67, op := Op.move (Operand.tmp 0), type := 22, pos := "law.go:43", after := #[], guard := none }) (v := ?_) rfl (by kernel_rfl) (by kernel_rfl) (by kernel_rfl) (fun _ _ _ h => h) (Or.inl ⟨by rfl, ?_⟩) (by assumption) ?_
        rotate_left
        · (intro W hW; (try dsimp only at hW); go_simp <;> (with_reducible rfl))
        try simp only [Act.put, List.setIfInBounds_toArray, List.set_cons_zero, List.set_cons_succ]
        refine wpAnyH_take (i := 7) (oi := { dst := some 68, op := Op.move (Operand.tmp 5), type := 3, pos := "law.go:43", after := #[], guard := none }) (v := ?_) rfl (by kernel_rfl) (by kernel_rfl) (by kernel_rfl) (fun _ _ _ h => h) (Or.inl ⟨by rfl, ?_⟩) (by assumption) ?_
        rotate_left
        · (intro W hW; (try dsimp only at hW); go_simp <;> (with_reducible rfl))
        try simp only [Act.put, List.setIfInBounds_toArray, List.set_cons_zero, List.set_cons_succ]
        refine wpAnyH_take (i := 8) (oi := { dst := some 69, op := Op.indexAddr 22 (Operand.tmp 67) (Operand.tmp 68), type := 0, pos := "law.go:43", after := #[{ on := 6, ground := Ground.data }, { on := 7, ground := Ground.data }], guard := none }) (v := ?_) rfl (by kernel_rfl) (by kernel_rfl) (by kernel_rfl) (fun _ _ _ h => h) (Or.inl ⟨by rfl, ?_⟩) (by assumption) ?_
        rotate_left
        · (intro W hW; (try dsimp only at hW); go_simp <;> (with_reducible rfl))
        try simp only [Act.put, List.setIfInBounds_toArray, List.set_cons_zero, List.set_cons_succ]
        refine wpAnyH_take (i := 9) (oi := { dst := some 70, op := Op.fieldAddr 99 (Operand.tmp 69) 1, type := 0, pos := "law.go:43", after := #[{ on := 8, ground := Ground.data }], guard := none }) (v := ?_) rfl (by kernel_rfl) (by kernel_rfl) (by kernel_rfl) (fun _ _ _ h => h) (Or.inl ⟨by rfl, ?_⟩) (by assumption) ?_
        rotate_left
        · (intro W hW; (try dsimp only at hW); go_simp <;> (with_reducible rfl))
        try simp only [Act.put, List.setIfInBounds_toArray, List.set_cons_zero, List.set_cons_succ]
        refine wpAnyH_take (i := 10) (oi := { dst := some 71, op := Op.load 3 (Operand.tmp 70), type := 3, pos := "law.go:43", after := #[{ on := 9, ground := Ground.data }], guard := none }) (v := ?_) rfl (by kernel_rfl) (by kernel_rfl) (by kernel_rfl) (fun _ _ _ h => h) (Or.inl ⟨by rfl, ?_⟩) (by assumption) ?_
        rotate_left
        · (intro W hW; (try dsimp only at hW); go_simp <;> (with_reducible rfl))
        try simp only [Act.put, List.setIfInBounds_toArray, List.set_cons_zero, List.set_cons_succ]
        refine wpAnyH_ready (rs := [0, 11]) (by kernel_rfl) (by simp) (AllReadyH.cons (o := { dst := some 61, op := Op.load 26 (Operand.tmp 4), type := 26, pos := "law.go:43", after := #[], guard := none }) rfl (fun K hK => ?_) (AllReadyH.cons (o := { dst := some 72, op := Op.makeSlice 72 (Operand.tmp 71) (Operand.tmp 71), type := 72, pos := "law.go:43", after := #[{ on := 10, ground := Ground.data }, { on := 10, ground := Ground.data }], guard := none }) rfl (fun K hK => ?_) AllReadyH.nil))
        · (rw [if_pos (by rfl)]; go_wp2_with (fail))
          refine hK.out _ _ (by (repeat (with_reducible first | assumption | exact AgreeF.refl _ | apply AgreeF.al | apply AgreeF.dr | apply AgreeF.st))) (fun hHeld => ?_)
          clear hK K
          try simp only [Act.put, List.setIfInBounds_toArray, List.set_cons_zero, List.set_cons_succ]
          refine wpAnyH_ready (rs := [11]) (by kernel_rfl) (by simp) (AllReadyH.cons (o := { dst := some 72, op := Op.makeSlice 72 (Operand.tmp 71) (Operand.tmp 71), type := 72, pos := "law.go:43", after := #[{ on := 10, ground := Ground.data }, { on := 10, ground := Ground.data }], guard := none }) rfl (fun K hK => ?_) AllReadyH.nil)
          refine step_make_run rfl _ _ _ rfl rfl rfl hmk ?_
          refine hK.out _ _ (by (repeat (with_reducible first | assumption | exact AgreeF.refl _ | apply AgreeF.al | apply AgreeF.dr | apply AgreeF.st))) (fun hHeld => ?_)
          clear hK K
          try simp only [Act.put, List.setIfInBounds_toArray, List.set_cons_zero, List.set_cons_succ]
          refine wpAnyH_ready (rs := [12]) (by kernel_rfl) (by simp) (AllReadyH.cons (o := { dst := some 73, op := Op.convert 72 9 (Operand.tmp 72), type := 9, pos := "law.go:43", after := #[{ on := 11, ground := Ground.data }], guard := none }) rfl (fun K hK => ?_) AllReadyH.nil)
          refine step_convert_run rfl _ _ _ rfl rfl hcv ?_
          refine hK.out _ _ (by (repeat (with_reducible first | assumption | exact AgreeF.refl _ | apply AgreeF.al | apply AgreeF.dr | apply AgreeF.st))) (fun hHeld => ?_)
          clear hK K
          try simp only [Act.put, List.setIfInBounds_toArray, List.set_cons_zero, List.set_cons_succ]
          refine wpAnyH_ready (rs := [13]) (by kernel_rfl) (by simp) (AllReadyH.cons (o := { dst := some 74, op := Op.call { callee := Callee.value (Operand.func 35), args := #[Operand.tmp 61, Operand.tmp 66, Operand.tmp 73], argTypes := #[26, 9, 9] }, type := 26, pos := "law.go:43", after := #[{ on := 0, ground := Ground.data }, { on := 5, ground := Ground.data }, { on := 12, ground := Ground.data }], guard := none }) rfl (fun K hK => ?_) AllReadyH.nil)
          (rw [if_pos (by rfl)]; go_simp; (with_reducible refine (CRc _ hB6).mono ?_); rintro e w9 ⟨p9, l9, a9, m9, d9, rfl, hn9, hb9⟩; have hB9 : Below wr.heap.size wr w9 := below_via hB6 hb9; have hA9 : AgreeF (fun x => x ≠ w1.heap.size) wr w9 := AgreeF.of_below hB9; have hx9 := HX.out.step hB9; have z0 := hx9.cell 0 0 rfl rfl; have u0 := hx9.frozen 0 0 rfl; have z1 := hx9.cell 0 1 rfl rfl; have u1 := hx9.frozen 0 1 rfl; have z2 := hx9.cell 0 2 rfl rfl; have u2 := hx9.frozen 0 2 rfl; go_wp2_with (fail))
          refine hK.out _ _ (by (repeat (with_reducible first | assumption | exact AgreeF.refl _ | apply AgreeF.al | apply AgreeF.dr | apply AgreeF.st))) (fun hHeld => ?_)
          clear hK K
          try simp only [Act.put, List.setIfInBounds_toArray, List.set_cons_zero, List.set_cons_succ]
          refine wpAnyH_ready (rs := [14]) (by kernel_rfl) (by simp) (AllReadyH.cons (o := { dst := none, op := Op.store 26 (Operand.tmp 4) (Operand.tmp 74), type := 0, pos := "law.go:43", after := #[{ on := 13, ground := Ground.data }, { on := 13, ground := Ground.chain }, { on := 0, ground := Ground.phase }, { on := 1, ground := Ground.phase }, { on := 2, ground := Ground.phase }, { on := 3, ground := Ground.phase }, { on := 4, ground := Ground.phase }, { on := 5, ground := Ground.phase }, { on := 6, ground := Ground.phase }, { on := 7, ground := Ground.phase }, { on := 8, ground := Ground.phase }, { on := 9, ground := Ground.phase }, { on := 10, ground := Ground.phase }, { on := 11, ground := Ground.phase }, { on := 12, ground := Ground.phase }, { on := 13, ground := Ground.phase }], guard := none }) rfl (fun K hK => ?_) AllReadyH.nil)
          (rw [if_pos (by rfl)]; go_wp2_with (fail))
          refine hK.out _ _ (by (repeat (with_reducible first | assumption | exact AgreeF.refl _ | apply AgreeF.al | apply AgreeF.dr | apply AgreeF.st))) (fun hHeld => ?_)
          clear hK K
          try simp only [Act.put, List.setIfInBounds_toArray, List.set_cons_zero, List.set_cons_succ]
          refine wpAnyH_done (by kernel_rfl) ?_ _
          refine NoPanic.normal ?_
          obtain ⟨hrx, hA, hbw⟩ := RStay.mk (B := w1.heap.size + 1) hx9 hn9 (Nat.lt_succ_self _) hA9 (below_via HB.out hB9) (Nat.le_of_lt hs1)
          have HZX := Lib.hid (HZ.out.agree hA (fun q hq => by simp at hq; subst hq; show w.heap.size ≠ w1.heap.size; omega))
          have HRX := Lib.hid hrx
          have HBX := Lib.hid hbw
          clear hrx hA hbw CRc l0 l1 m0 m1 m2 hmk hcv hb6 hB6 hA6 hx9 hn9 hA9 hB9 hb9 z0 z1 z2 u0 u1 u2
          go_wp2_with fail
          go_roundw
          case rel => exact ⟨i + 1, M, T, hlt, by go_num, HRX.out, hwM, by omega, hfM, HZX.out, HALL, .inr n12, HBX.out⟩
          case measure => simp [intOf]; omega
        · refine step_make_run rfl _ _ _ rfl rfl rfl hmk ?_
          refine hK.out _ _ (by (repeat (with_reducible first | assumption | exact AgreeF.refl _ | apply AgreeF.al | apply AgreeF.dr | apply AgreeF.st))) (fun hHeld => ?_)
          clear hK K
          try simp only [Act.put, List.setIfInBounds_toArray, List.set_cons_zero, List.set_cons_succ]
          refine wpAnyH_ready (rs := [0, 12]) (by kernel_rfl) (by simp) (AllReadyH.cons (o := { dst := some 61, op := Op.load 26 (Operand.tmp 4), type := 26, pos := "law.go:43", after := #[], guard := none }) rfl (fun K hK => ?_) (AllReadyH.cons (o := { dst := some 73, op := Op.convert 72 9 (Operand.tmp 72), type := 9, pos := "law.go:43", after := #[{ on := 11, ground := Ground.data }], guard := none }) rfl (fun K hK => ?_) AllReadyH.nil))
          · (rw [if_pos (by rfl)]; go_wp2_with (fail))
            refine hK.out _ _ (by (repeat (with_reducible first | assumption | exact AgreeF.refl _ | apply AgreeF.al | apply AgreeF.dr | apply AgreeF.st))) (fun hHeld => ?_)
            clear hK K
            try simp only [Act.put, List.setIfInBounds_toArray, List.set_cons_zero, List.set_cons_succ]
            refine wpAnyH_ready (rs := [12]) (by kernel_rfl) (by simp) (AllReadyH.cons (o := { dst := some 73, op := Op.convert 72 9 (Operand.tmp 72), type := 9, pos := "law.go:43", after := #[{ on := 11, ground := Ground.data }], guard := none }) rfl (fun K hK => ?_) AllReadyH.nil)
            refine step_convert_run rfl _ _ _ rfl rfl hcv ?_
            refine hK.out _ _ (by (repeat (with_reducible first | assumption | exact AgreeF.refl _ | apply AgreeF.al | apply AgreeF.dr | apply AgreeF.st))) (fun hHeld => ?_)
            clear hK K
            try simp only [Act.put, List.setIfInBounds_toArray, List.set_cons_zero, List.set_cons_succ]
            refine wpAnyH_ready (rs := [13]) (by kernel_rfl) (by simp) (AllReadyH.cons (o := { dst := some 74, op := Op.call { callee := Callee.value (Operand.func 35), args := #[Operand.tmp 61, Operand.tmp 66, Operand.tmp 73], argTypes := #[26, 9, 9] }, type := 26, pos := "law.go:43", after := #[{ on := 0, ground := Ground.data }, { on := 5, ground := Ground.data }, { on := 12, ground := Ground.data }], guard := none }) rfl (fun K hK => ?_) AllReadyH.nil)
            (rw [if_pos (by rfl)]; go_simp; (with_reducible refine (CRc _ hB6).mono ?_); rintro e w9 ⟨p9, l9, a9, m9, d9, rfl, hn9, hb9⟩; have hB9 : Below wr.heap.size wr w9 := below_via hB6 hb9; have hA9 : AgreeF (fun x => x ≠ w1.heap.size) wr w9 := AgreeF.of_below hB9; have hx9 := HX.out.step hB9; have z0 := hx9.cell 0 0 rfl rfl; have u0 := hx9.frozen 0 0 rfl; have z1 := hx9.cell 0 1 rfl rfl; have u1 := hx9.frozen 0 1 rfl; have z2 := hx9.cell 0 2 rfl rfl; have u2 := hx9.frozen 0 2 rfl; go_wp2_with (fail))
            refine hK.out _ _ (by (repeat (with_reducible first | assumption | exact AgreeF.refl _ | apply AgreeF.al | apply AgreeF.dr | apply AgreeF.st))) (fun hHeld => ?_)
            clear hK K
            try simp only [Act.put, List.setIfInBounds_toArray, List.set_cons_zero, List.set_cons_succ]
            refine wpAnyH_ready (rs := [14]) (by kernel_rfl) (by simp) (AllReadyH.cons (o := { dst := none, op := Op.store 26 (Operand.tmp 4) (Operand.tmp 74), type := 0, pos := "law.go:43", after := #[{ on := 13, ground := Ground.data }, { on := 13, ground := Ground.chain }, { on := 0, ground := Ground.phase }, { on := 1, ground := Ground.phase }, { on := 2, ground := Ground.phase }, { on := 3, ground := Ground.phase }, { on := 4, ground := Ground.phase }, { on := 5, ground := Ground.phase }, { on := 6, ground := Ground.phase }, { on := 7, ground := Ground.phase }, { on := 8, ground := Ground.phase }, { on := 9, ground := Ground.phase }, { on := 10, ground := Ground.phase }, { on := 11, ground := Ground.phase }, { on := 12, ground := Ground.phase }, { on := 13, ground := Ground.phase }], guard := none }) rfl (fun K hK => ?_) AllReadyH.nil)
            (rw [if_pos (by rfl)]; go_wp2_with (fail))
            refine hK.out _ _ (by (repeat (with_reducible first | assumption | exact AgreeF.refl _ | apply AgreeF.al | apply AgreeF.dr | apply AgreeF.st))) (fun hHeld => ?_)
            clear hK K
            try simp only [Act.put, List.setIfInBounds_toArray, List.set_cons_zero, List.set_cons_succ]
            refine wpAnyH_done (by kernel_rfl) ?_ _
            refine NoPanic.normal ?_
            obtain ⟨hrx, hA, hbw⟩ := RStay.mk (B := w1.heap.size + 1) hx9 hn9 (Nat.lt_succ_self _) hA9 (below_via HB.out hB9) (Nat.le_of_lt hs1)
            have HZX := Lib.hid (HZ.out.agree hA (fun q hq => by simp at hq; subst hq; show w.heap.size ≠ w1.heap.size; omega))
            have HRX := Lib.hid hrx
            have HBX := Lib.hid hbw
            clear hrx hA hbw CRc l0 l1 m0 m1 m2 hmk hcv hb6 hB6 hA6 hx9 hn9 hA9 hB9 hb9 z0 z1 z2 u0 u1 u2
            go_wp2_with fail
            go_roundw
            case rel => exact ⟨i + 1, M, T, hlt, by go_num, HRX.out, hwM, by omega, hfM, HZX.out, HALL, .inr n12, HBX.out⟩
            case measure => simp [intOf]; omega
          · refine step_convert_run rfl _ _ _ rfl rfl hcv ?_
            refine hK.out _ _ (by (repeat (with_reducible first | assumption | exact AgreeF.refl _ | apply AgreeF.al | apply AgreeF.dr | apply AgreeF.st))) (fun hHeld => ?_)
            clear hK K
            try simp only [Act.put, List.setIfInBounds_toArray, List.set_cons_zero, List.set_cons_succ]
            refine wpAnyH_ready (rs := [0]) (by kernel_rfl) (by simp) (AllReadyH.cons (o := { dst := some 61, op := Op.load 26 (Operand.tmp 4), type := 26, pos := "law.go:43", after := #[], guard := none }) rfl (fun K hK => ?_) AllReadyH.nil)
            (rw [if_pos (by rfl)]; go_wp2_with (fail))
            refine hK.out _ _ (by (repeat (with_reducible first | assumption | exact AgreeF.refl _ | apply AgreeF.al | apply AgreeF.dr | apply AgreeF.st))) (fun hHeld => ?_)
            clear hK K
            try simp only [Act.put, List.setIfInBounds_toArray, List.set_cons_zero, List.set_cons_succ]
            refine wpAnyH_ready (rs := [13]) (by kernel_rfl) (by simp) (AllReadyH.cons (o := { dst := some 74, op := Op.call { callee := Callee.value (Operand.func 35), args := #[Operand.tmp 61, Operand.tmp 66, Operand.tmp 73], argTypes := #[26, 9, 9] }, type := 26, pos := "law.go:43", after := #[{ on := 0, ground := Ground.data }, { on := 5, ground := Ground.data }, { on := 12, ground := Ground.data }], guard := none }) rfl (fun K hK => ?_) AllReadyH.nil)
            (rw [if_pos (by rfl)]; go_simp; (with_reducible refine (CRc _ hB6).mono ?_); rintro e w9 ⟨p9, l9, a9, m9, d9, rfl, hn9, hb9⟩; have hB9 : Below wr.heap.size wr w9 := below_via hB6 hb9; have hA9 : AgreeF (fun x => x ≠ w1.heap.size) wr w9 := AgreeF.of_below hB9; have hx9 := HX.out.step hB9; have z0 := hx9.cell 0 0 rfl rfl; have u0 := hx9.frozen 0 0 rfl; have z1 := hx9.cell 0 1 rfl rfl; have u1 := hx9.frozen 0 1 rfl; have z2 := hx9.cell 0 2 rfl rfl; have u2 := hx9.frozen 0 2 rfl; go_wp2_with (fail))
            refine hK.out _ _ (by (repeat (with_reducible first | assumption | exact AgreeF.refl _ | apply AgreeF.al | apply AgreeF.dr | apply AgreeF.st))) (fun hHeld => ?_)
            clear hK K
            try simp only [Act.put, List.setIfInBounds_toArray, List.set_cons_zero, List.set_cons_succ]
            refine wpAnyH_ready (rs := [14]) (by kernel_rfl) (by simp) (AllReadyH.cons (o := { dst := none, op := Op.store 26 (Operand.tmp 4) (Operand.tmp 74), type := 0, pos := "law.go:43", after := #[{ on := 13, ground := Ground.data }, { on := 13, ground := Ground.chain }, { on := 0, ground := Ground.phase }, { on := 1, ground := Ground.phase }, { on := 2, ground := Ground.phase }, { on := 3, ground := Ground.phase }, { on := 4, ground := Ground.phase }, { on := 5, ground := Ground.phase }, { on := 6, ground := Ground.phase }, { on := 7, ground := Ground.phase }, { on := 8, ground := Ground.phase }, { on := 9, ground := Ground.phase }, { on := 10, ground := Ground.phase }, { on := 11, ground := Ground.phase }, { on := 12, ground := Ground.phase }, { on := 13, ground := Ground.phase }], guard := none }) rfl (fun K hK => ?_) AllReadyH.nil)
            (rw [if_pos (by rfl)]; go_wp2_with (fail))
            refine hK.out _ _ (by (repeat (with_reducible first | assumption | exact AgreeF.refl _ | apply AgreeF.al | apply AgreeF.dr | apply AgreeF.st))) (fun hHeld => ?_)
            clear hK K
            try simp only [Act.put, List.setIfInBounds_toArray, List.set_cons_zero, List.set_cons_succ]
            refine wpAnyH_done (by kernel_rfl) ?_ _
            refine NoPanic.normal ?_
            obtain ⟨hrx, hA, hbw⟩ := RStay.mk (B := w1.heap.size + 1) hx9 hn9 (Nat.lt_succ_self _) hA9 (below_via HB.out hB9) (Nat.le_of_lt hs1)
            have HZX := Lib.hid (HZ.out.agree hA (fun q hq => by simp at hq; subst hq; show w.heap.size ≠ w1.heap.size; omega))
            have HRX := Lib.hid hrx
            have HBX := Lib.hid hbw
            clear hrx hA hbw CRc l0 l1 m0 m1 m2 hmk hcv hb6 hB6 hA6 hx9 hn9 hA9 hB9 hb9 z0 z1 z2 u0 u1 u2
            go_wp2_with fail
            go_roundw
            case rel => exact ⟨i + 1, M, T, hlt, by go_num, HRX.out, hwM, by omega, hfM, HZX.out, HALL, .inr n12, HBX.out⟩
            case measure => simp [intOf]; omega
    · obtain rfl : i = n := by omega
      have hlt' : decide ((i : Int) < (i : Int)) = false := by simp
      have hs : smallS l = true := by
        unfold smallS
        rw [all_whole (by rw [HL.out]; exact Nat.le_refl _) hall.out, HL.out, Bool.true_and]
        simp
        omega
      have HE : Hid (BuiltTo w l (.returned (.tuple #[.agg #[.int .i64 p, .bool lf, .slice a1 n1 c1], .bool true])) (((wr.setCell ⟨w.heap.size, 0, none⟩ (.int .i64 p)).setCell ⟨w.heap.size, 1, none⟩ (.bool lf)).setCell ⟨w.heap.size, 2, none⟩ (.slice a1 n1 c1))) := Lib.hid ⟨((hb.setCell (by simp) _).setCell (by simp) _).setCell (by simp) _, .inr ⟨hs, N, t, _, _, _, _, _, rfl, ((hr.put3 (by omega) _ _ _).mono (fun b hb => by omega)), hw, by rw [HL.out]; exact hN, by rw [HL.out]; exact hen⟩⟩
      have hxe := ((hz0.put 0 (.int .i64 p) (by simp)).put 1 (.bool lf) (by simp)).put 2 (.slice a1 n1 c1) (by simp)
      have t0 := hxe.cell 0 0 rfl rfl
      have t1 := hxe.cell 0 1 rfl rfl
      have t2 := hxe.cell 0 2 rfl rfl
      have z0 := hz0.cell 0 0 rfl rfl
      have z1 := hz0.cell 0 1 rfl rfl
      have z2 := hz0.cell 0 2 rfl rfl
      have y0 := hz0.frozen 0 0 rfl
      have y1 := hz0.frozen 0 1 rfl
      have y2 := hz0.frozen 0 2 rfl
      clear hs hxe hz0 hb hx hr hw hall
      go_wp2_with fail
      refine bodyPost_ret (v := .tuple #[.agg #[.int .i64 p, .bool lf, .slice a1 n1 c1], .bool true]) (by simp only [results, Try.results18]; simp [go_sem, t0, t1, t2]) rfl HE.out
end Go.Proofs.Ytemfnjlfcemehaa

/- jalousielaw17: awake. -/
namespace Go.Proofs.Ytemfnjlfcemehaa
open Go.RowKit

/-- A tree's root sought. -/
theorem seek_whole {F : Nat → Prop} {N : Nat} {w : World} {cs : List Value} {t : Tr} (hF : ∀ x, F x → x < w.heap.size) (h : NodeOn F N w cs t) (hw : Whole N t) (hN : N ≤ 200) (key : List UInt8) :
    Calls Try.prog 20 #[.agg cs.toArray, .string (strOf key)] w (SeekTo F N w ((entsT N t).drop (posK key (keysOf (entsT N t))))) :=
  seek_any hF h hw.1.1 (by have := hw.1.2.1; omega) hN key (knil key) (ltH_nil key)
theorem aw17_a : putW 1 (.leaf 0 []) [97] ⟨[49], []⟩ = .leaf 0 [([97], ⟨[49], []⟩)] := by
  unfold putW putT topT
  rw [if_pos (by decide)]; rfl
theorem aw17_c : putW 1 (.leaf 0 [([97], ⟨[49], []⟩)]) [99] ⟨[51], []⟩ = .leaf 0 [([97], ⟨[49], []⟩), ([99], ⟨[51], []⟩)] := by
  unfold putW putT topT
  rw [if_pos (by decide)]; rfl
theorem aw17_wa : Whole 1 (.leaf 0 [([97], ⟨[49], []⟩)]) := by
  obtain ⟨m, h1, h2, _⟩ := whole_put whole_empty (key := [97]) (v := ⟨[49], []⟩) ⟨by decide, by decide⟩ ⟨by decide, fun h => absurd rfl h⟩
  rw [aw17_a] at h2
  have : m = 1 := by
    cases m with
    | zero => exact h2.1.1.elim
    | succ m => have := h2.1.1.1; omega
  rw [this] at h2; exact h2
theorem aw17_wc : Whole 1 (.leaf 0 [([97], ⟨[49], []⟩), ([99], ⟨[51], []⟩)]) := by
  obtain ⟨m, h1, h2, _⟩ := whole_put aw17_wa (key := [99]) (v := ⟨[51], []⟩) ⟨by decide, by decide⟩ ⟨by decide, fun h => absurd rfl h⟩
  rw [aw17_c] at h2
  have : m = 1 := by
    cases m with
    | zero => exact h2.1.1.elim
    | succ m => have := h2.1.1.1; omega
  rw [this] at h2; exact h2
theorem aw17_seek : (entsT 1 (.leaf 0 [([97], ⟨[49], []⟩), ([99], ⟨[51], []⟩)])).drop (posK [98] (keysOf (entsT 1 (.leaf 0 [([97], ⟨[49], []⟩), ([99], ⟨[51], []⟩)])))) = [([99], (⟨[51], []⟩ : Tv))] := by
  rw [posK_eq (i := 1) (by simp [entsT, keysOf]) (fun j hj => by obtain rfl : j = 0 := by omega
                                                                 decide) (fun _ => by decide)]
  rfl
set_option maxRecDepth 100000 in
set_option maxHeartbeats 4000000 in
theorem awake17_any (w : World) : Calls Try.prog 17 #[] w fun e w' => e = .returned (.bool true) ∧ Below w.heap.size w w' := by
  have E := rempty_any w (fun _ => False)
  go_enter Try.func17, Try.ntmps17
  go_wp2_with fail
  refine E.mono ?_
  rintro e w1 hq
  obtain ⟨p1, l1, a1, m1, d1, rfl, hn1, hb1⟩ := hq.split
  have C1 := rPut_whole (F := fun x => x < w1.heap.size) (fun _ h => h) (hn1.lt.mono fun _ h => h.2) whole_empty [97] [49] ⟨by decide, by decide⟩ (by decide)
  rw [aw17_a] at C1
  have HB1 := Lib.hid hb1
  clear E hn1 hb1 hq
  go_wp2_with fail
  refine C1.mono ?_
  rintro e w2 hq
  obtain ⟨p2, l2, a2, m2, d2, rfl, hn2, hb2⟩ := hq.split
  have C2 := rPut_whole (F := fun x => x < w2.heap.size) (fun _ h => h) ((hn2.lt.mono fun _ h => h.2).less aw17_wa.1.1) aw17_wa [99] [51] ⟨by decide, by decide⟩ (by decide)
  rw [aw17_c] at C2
  have HB2 := Lib.hid (HB1.out.trans (hb2.mono HB1.out.size))
  clear C1 hn2 hb2 hq HB1
  go_wp2_with fail
  refine C2.mono ?_
  rintro e w3 hq
  obtain ⟨p3, l3, a3, m3, d3, rfl, hn3, hb3⟩ := hq.split
  have C3 := node17_any (F := fun x => x < w3.heap.size) (fun _ h => h) ((hn3.lt.mono fun _ h => h.2).less aw17_wc.1.1) aw17_wc.bnd
  have HB3 := Lib.hid (HB2.out.trans (hb3.mono HB2.out.size))
  clear C2 hn3 hb3 hq HB2
  go_wp2_with fail
  refine C3.mono ?_
  rintro e w4 ⟨cs, rfl, hn4, hb4⟩
  obtain ⟨x1, k1, x2, n2, k2, x3, n3, k3, ecs, _, _⟩ := hn4.words
  subst ecs
  have hX := (Boxes.nil w4).alloc #[.int .i64 0, .bool true, .slice x1 2 k1, .slice x2 n2 k2, .slice x3 n3 k3] 33 (b := w4.heap.size) rfl
  obtain ⟨W, hW⟩ : ∃ x, w4.alloc (.cells #[.int .i64 0, .bool true, .slice x1 2 k1, .slice x2 n2 k2, .slice x3 n3 k3] 33) = x := ⟨_, rfl⟩
  rw [hW] at hX
  have hBW : Below w4.heap.size w4 W := by rw [← hW]; exact Below.al (Below.refl _ _)
  have hnW := (hn4.lt.mono fun _ h => h.2).below hBW
  have C4 := seek_whole (fun x hx => Nat.lt_of_lt_of_le hx hBW.size) hnW aw17_wc (by omega) [98]
  rw [aw17_seek] at C4
  have HB4 := Lib.hid (HB3.out.trans ((hb4.trans (hBW.mono hb4.size)).mono HB3.out.size))
  have HX := Lib.hid hX
  have HN := Lib.hid hnW
  have n0 := hX.cell 0 0 rfl rfl
  have n1 := hX.cell 0 1 rfl rfl
  have n2 := hX.cell 0 2 rfl rfl
  have n3 := hX.cell 0 3 rfl rfl
  have n4 := hX.cell 0 4 rfl rfl
  clear C3 hn4 hb4 HB3 hX hnW hBW
  dsimp only [Tr.page, Tr.isLeaf, cntT, List.length_cons, List.length_nil] at *
  go_wp2_with fail
  refine C4.mono ?_
  rintro e w5 ⟨v5, rfl, hc5, hb5⟩
  have hge5 := hc5.ge
  clear C4 n0 n1 n2 n3 n4
  go_wp2_with fail
  refine (peek_cur hc5 (by omega)).mono ?_
  rintro e w6 ⟨rfl, hb6⟩
  have hc6 := hc5.below hb6
  dsimp only [keyH, someH]
  go_wp2_with fail
  refine (depth_cur hc6).mono ?_
  rintro e w7 ⟨rfl, rfl⟩
  dsimp only [deepC]
  go_wp2_with fail
  have hW6 := Nat.le_trans hb5.size hb6.size
  refine (next_cur hc6 (by have := hc6.lt9; omega) (by omega)).mono ?_
  rintro e w8 ⟨rfl, v8, hc8, hst8⟩
  dsimp only [keyH, someH, valH, List.tail_cons] at hc8 ⊢
  go_wp2_with fail
  refine (next_cur hc8 (by have := hc8.lt9; omega) (by omega)).mono ?_
  rintro e w9 ⟨rfl, v9, hc9, hst9⟩
  dsimp only [keyH, someH, valH, List.tail_nil] at hc9 ⊢
  have hb9 : Below W.heap.size W w9 := hb5.trans ((hb6.mono hb5.size).trans ((hst8.trans hst9).toBelow (by omega) (fun g hg => by have := hge5 g hg; omega) hW6))
  have hst := strOf_toList
  have hone : ((1 : Nat) : Int) = 1 := rfl
  have hX9 := HX.out.step hb9
  have n0 := hX9.cell 0 0 rfl rfl
  have n1 := hX9.cell 0 1 rfl rfl
  have n2 := hX9.cell 0 2 rfl rfl
  have n3 := hX9.cell 0 3 rfl rfl
  have n4 := hX9.cell 0 4 rfl rfl
  have CD := depth_cur hc9
  have CC := count_any (HN.out.below hb9).toIn (by simp [entsT])
  have HB9 := Lib.hid (HB4.out.trans (hb9.mono HB4.out.size))
  have EE := fun W => tempty_any W (fun _ => False)
  dsimp only [deepC] at CD
  dsimp only [entsT, List.length_cons, List.length_nil] at CC
  clear hc5 hc6 hc8 hc9 hst8 hst9 hb5 hb6 hge5 hW6 hX9 hb9
  go_wp2_with fail
  refine CD.mono ?_
  rintro e w10 ⟨rfl, rfl⟩
  go_wp2_with fail
  refine CC.mono ?_
  rintro e w11 ⟨rfl, hb11⟩
  have h2 : (((0 + 1 + 1 : Nat)) : Int) = 2 := rfl
  rw [h2]
  go_wp2_with fail
  refine (EE _).mono ?_
  rintro e w12 ⟨cs, rfl, hn12, hb12⟩
  have CZ := count_any hn12.toIn (by simp [entsT])
  dsimp only [entsT, List.length_nil] at CZ
  go_wp2_with fail
  refine CZ.mono ?_
  rintro e w13 ⟨rfl, hb13⟩
  have HE := Lib.hid (below_via (below_via (below_via HB9.out hb11) hb12) hb13)
  have h0 : ((0 : Nat) : Int) = 0 := rfl
  rw [h0]
  go_wp2_with fail
  go_ret
  exact ⟨rfl, HE.out⟩
end Go.Proofs.Ytemfnjlfcemehaa

/- What came in, opened: puts, steps. -/
namespace Go.Proofs.Ytemfnjlfcemehaa
open Go.RowKit Go.Deep Go.WideShapes Go.ChangeShapes

section
variable {H : Type} {enc : TypeId × Value → H} {P : Program} {w : World} {base : Nat}
theorem rd_pt {t : TypeId} {f0 f1 f2 : Field} (ht : P.underlying t = some (.struct #[f0, f1, f2])) (o0 : f0.offset = 0) (o1 : f1.offset = 1) (o2 : f2.offset = 2)
    (c0 : P.cellsOf f0.type = 1) (c1 : P.cellsOf f1.type = 1) (c2 : P.cellsOf f2.type = 1) (u0 : P.underlying f0.type = some .string) (u1 : P.underlying f1.type = some (.int .u8)) (u2 : P.underlying f2.type = some (.int .i64)) :
    ∀ n cs x, cs.length = 3 → DataW.trod enc P w 0 (fun _ => true) true n t cs = some x → ∃ y : Pt, IsPt cs y := by
  intro n cs x hlen h
  obtain ⟨xs, k, _, _, _, hxl, hf⟩ := DataW.trod_struct ht h
  match xs, hxl, cs, hlen with
  | [y0, y1, y2], _, [v0, v1, v2], _ =>
    have g0 := hf 0 f0 rfl
    have g1 := hf 1 f1 rfl
    have g2 := hf 2 f2 rfl
    simp [o0, o1, o2, c0, c1, c2] at g0 g1 g2
    obtain ⟨s, e0, _, _⟩ := DataW.trod_string u0 g0
    obtain ⟨n1, e1, _, w1⟩ := DataW.trod_int u1 g1
    obtain ⟨n2, e2, _, _⟩ := DataW.trod_int u2 g2
    simp at e0 e1 e2
    simp [Lit.wf, IntKind.min, IntKind.max, IntKind.signed, IntKind.bits] at w1
    refine ⟨⟨s.data.toList, UInt8.ofNat n1.toNat, n2⟩, ?_⟩
    have : ((UInt8.ofNat n1.toNat).toNat : Int) = n1 := by
      simp [UInt8.toNat_ofNat']; omega
    show _ = ptC _
    rw [e0, e1, e2]
    simp only [ptC, this]
    rfl
theorem rd_st {t : TypeId} {f0 f1 : Field} (ht : P.underlying t = some (.struct #[f0, f1])) (o0 : f0.offset = 0) (o1 : f1.offset = 1)
    (c0 : P.cellsOf f0.type = 1) (c1 : P.cellsOf f1.type = 1) (u0 : P.underlying f0.type = some .string) (u1 : P.underlying f1.type = some (.int .i64)) :
    ∀ n cs x, cs.length = 2 → DataW.trod enc P w 0 (fun _ => true) true n t cs = some x → ∃ y : St, IsSt cs y := by
  intro n cs x hlen h
  obtain ⟨xs, k, _, _, _, hxl, hf⟩ := DataW.trod_struct ht h
  match xs, hxl, cs, hlen with
  | [y0, y1], _, [v0, v1], _ =>
    have g0 := hf 0 f0 rfl
    have g1 := hf 1 f1 rfl
    simp [o0, o1, c0, c1] at g0 g1
    obtain ⟨s, e0, _, _⟩ := DataW.trod_string u0 g0
    obtain ⟨n1, e1, _, _⟩ := DataW.trod_int u1 g1
    simp at e0 e1
    refine ⟨⟨s.data.toList, n1⟩, ?_⟩
    show _ = stC _
    rw [e0, e1]
    rfl
end
set_option maxRecDepth 100000 in
theorem open_pts {H : Type} {enc : TypeId × Value → H} {w : World} {base : Nat} {v : Value} {d : DataW H} {p : List MemPlace} (hv : Value.okWide Try.prog w .any base 58 v) (h : DataW.Trod enc Try.prog w 0 (fun _ => true) true 58 v d p) :
    ∃ a len cap l, v = .slice a len cap ∧ Pts w a len cap l :=
  open_tab Try.underlying58 (show Try.prog.cellsOf 64 = 3 by kernel_rfl) (by decide) IsPt (rd_pt Try.underlying64 rfl rfl rfl (by kernel_rfl) (by kernel_rfl) (by kernel_rfl) Try.underlying9 Try.underlying5 Try.underlying3) hv h
set_option maxRecDepth 100000 in
theorem open_sts16 {H : Type} {enc : TypeId × Value → H} {w : World} {base : Nat} {v : Value} {d : DataW H} {p : List MemPlace} (hv : Value.okWide Try.prog w .any base 86 v) (h : DataW.Trod enc Try.prog w 0 (fun _ => true) true 86 v d p) :
    ∃ a len cap l, v = .slice a len cap ∧ Sts w a len cap l :=
  open_tab Try.underlying86 (show Try.prog.cellsOf 89 = 2 by kernel_rfl) (by decide) IsSt (rd_st Try.underlying89 rfl rfl (by kernel_rfl) (by kernel_rfl) Try.underlying9 Try.underlying3) hv h
set_option maxRecDepth 100000 in
theorem open_sts17 {H : Type} {enc : TypeId × Value → H} {w : World} {base : Nat} {v : Value} {d : DataW H} {p : List MemPlace} (hv : Value.okWide Try.prog w .any base 22 v) (h : DataW.Trod enc Try.prog w 0 (fun _ => true) true 22 v d p) :
    ∃ a len cap l, v = .slice a len cap ∧ Sts w a len cap l :=
  open_tab Try.underlying22 (show Try.prog.cellsOf 99 = 2 by kernel_rfl) (by decide) IsSt (rd_st Try.underlying99 rfl rfl (by kernel_rfl) (by kernel_rfl) Try.underlying9 Try.underlying3) hv h
end Go.Proofs.Ytemfnjlfcemehaa

/- What came in, opened: bytes; texts. -/
namespace Go.Proofs.Ytemfnjlfcemehaa
open Go.RowKit Go.Deep Go.WideShapes Go.ChangeShapes

theorem bs_frameT {w : World} {a : Option Addr} {len cap : Nat} {z : List Int}
    (h : (a = none ∧ len = 0 ∧ cap = 0 ∧ z = []) ∨ ∃ x, a = some x ∧ len ≤ cap ∧ cap ≤ maxLen ∧ z.length = cap ∧ (∀ i, i < z.length → w.cell? (x.add i) = some (.int .u8 (z.getD i 0))) ∧ ∀ n ∈ z, (Lit.int .u8 n).wf = true) :
    ∃ l, Bs w a len cap l := by
  have h := Row.of_frame h
  refine ⟨ofI (z.take len), ?_⟩
  show Row .u8 w a len cap (toI (ofI (z.take len)))
  rw [toI_ofI _ h.2]
  exact h.1

section
variable {H : Type} {enc : TypeId × Value → H} {P : Program} {w : World} {base : Nat}
theorem open_bsT {t e : TypeId} (ht : P.underlying t = some (.slice e)) (he : P.underlying e = some (.int .u8)) (hc : P.cellsOf e = 1)
    {v : Value} {d : DataW H} {p : List MemPlace} (hv : Value.okWide P w .any base t v) (h : DataW.Trod enc P w 0 (fun _ => true) true t v d p) :
    ∃ a len cap l, v = .slice a len cap ∧ Bs w a len cap l := by
  obtain ⟨a, len, cap, rfl⟩ := okWide_slice ht hv
  obtain ⟨fuel, hf⟩ := h
  rcases open_ints ht he hc hf with ⟨hcs, _⟩ | ⟨x, l, c, zs, hcs, _, hl, hm, hz, _, hcell, hwz⟩
  · simp [Value.cells] at hcs
    obtain ⟨rfl, rfl, rfl⟩ := hcs
    obtain ⟨y, hy⟩ := bs_frameT (a := none) (len := 0) (cap := 0) (z := []) (.inl ⟨rfl, rfl, rfl, rfl⟩)
    exact ⟨_, _, _, y, rfl, hy⟩
  · simp [Value.cells] at hcs
    obtain ⟨rfl, rfl, rfl⟩ := hcs
    obtain ⟨y, hy⟩ := bs_frameT (a := some x) (len := len) (cap := cap) (z := zs) (.inr ⟨_, rfl, hl, hm, by simpa using hz, hcell, hwz⟩)
    exact ⟨_, _, _, y, rfl, hy⟩
theorem rd_key {e : TypeId} (he : P.underlying e = some .string) : ∀ n cs x, cs.length = 1 → DataW.trod enc P w 0 (fun _ => true) true n e cs = some x → ∃ y, IsKey cs y := by
  intro n cs x _ h
  obtain ⟨s, e0, _, _⟩ := DataW.trod_string he h
  exact ⟨s.data.toList, by rw [e0]; rfl⟩
/-- A slice of texts that came in. -/
theorem open_keys {t e : TypeId} (ht : P.underlying t = some (.slice e)) (he : P.underlying e = some .string) (hc : P.cellsOf e = 1)
    {v : Value} {d : DataW H} {p : List MemPlace} (hv : Value.okWide P w .any base t v) (h : DataW.Trod enc P w 0 (fun _ => true) true t v d p) :
    ∃ a len cap l, v = .slice a len cap ∧ KeysIn w a len cap l :=
  open_tab ht hc (by decide) IsKey (rd_key he) hv h
end
end Go.Proofs.Ytemfnjlfcemehaa
