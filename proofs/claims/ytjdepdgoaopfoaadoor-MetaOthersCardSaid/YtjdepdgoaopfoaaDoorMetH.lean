/- The walks of the chapter on metas: a page's meta, the walk. -/
import Derived.Test.YtjdepdgoaopfoaaDoorMetG
namespace Go.Proofs.YtjdepdgoaopfoaaDoor
open Go.RowKit

/-- A meta, an error. -/
def GetPost (w : World) (m : Mt) (er : Int) (e : Ending) (w' : World) : Prop := e = .returned (.tuple #[mv m, .int .i64 er]) ∧ Below w.heap.size w w'
theorem mv_zero : mv Mt.zero = .agg #[.int .i64 0, .int .u64 0, .int .i64 0, .int .i64 0, .int .i64 0] := rfl

theorem mbox_frozen {w : World} {b : Nat} {m : Mt} {t : TypeId} (h : w.heap[b]? = some (.cells (mcells m) t (0, 0))) :
    w.frozen? ⟨b, 0, none⟩ = false ∧ w.frozen? ⟨b, 1, none⟩ = false ∧ w.frozen? ⟨b, 2, none⟩ = false ∧ w.frozen? ⟨b, 3, none⟩ = false ∧ w.frozen? ⟨b, 4, none⟩ = false := by
  simp [World.frozen?, h]

set_option maxRecDepth 100000 in
set_option maxHeartbeats 2000000 in
theorem mget_err (a : Option Addr) (n cap : Nat) (b : List UInt8) (w : World) (h : Bs w a n cap b) (hh : Half w) (hE : unpE b ≠ 0) :
    Calls Tryd.prog 21 #[.slice a n cap] w (GetPost w Mt.zero (unpE b)) := by
  have hB := below_box w (.cells (mcells Mt.zero) 24)
  have hun := unpack_any a n cap b _ (h.below (Nat.le_refl _) hB) (hh.below (Nat.le_refl _) hB)
  have hne : ((unpE b : Int) != 0) = true := by simpa using hE
  have hne2 : ((unpE b : Int) == 0) = false := by simpa using hE
  have hlt : w.heap.size < (w.alloc (.cells (mcells Mt.zero) 24)).heap.size := by simp
  have hblk := World.alloc_heap_new w (.cells (mcells Mt.zero) 24)
  generalize unpE b = er at *
  generalize unpK b = k at *
  generalize unpL b = l at *
  clear hE
  change Calls Tryd.prog 47 #[.slice a n cap] (w.alloc (.cells #[.int .i64 0, .int .u64 0, .int .i64 0, .int .i64 0, .int .i64 0] 24)) _ at hun
  go_enter Tryd.func21, Tryd.ntmps21
  go_wp2_with fail
  refine hun.mono ?_
  rintro e w1 ⟨v1, rfl, _, hb1⟩
  have hbl1 := (hb1.block _ hlt).trans hblk
  obtain ⟨g0, g1, g2, g3, g4⟩ := mbox_cells (m := Mt.zero) hbl1
  obtain ⟨f0, f1, f2, f3, f4⟩ := mbox_frozen (m := Mt.zero) hbl1
  go_wp2_with fail
  refine bodyPost_ret (v := .tuple #[mv Mt.zero, .int .i64 er]) (by simp [results, Tryd.results21, go_sem, mv, mcells, Mt.zero, g0, g1, g2, g3, g4]) rfl ⟨rfl, ?_⟩
  exact (((((below_then hB hb1).setCell (Nat.le_refl _) _).setCell (Nat.le_refl _) _).setCell (Nat.le_refl _) _).setCell (Nat.le_refl _) _).setCell (Nat.le_refl _) _

set_option maxRecDepth 100000 in
set_option maxHeartbeats 4000000 in
theorem mget_kind (a : Option Addr) (n cap : Nat) (b : List UInt8) (w : World) (h : Bs w a n cap b) (hh : Half w) (hE : unpE b = 0) (hk : ¬ (unpK b = 5 ∧ (unpL b).length = 1)) :
    Calls Tryd.prog 21 #[.slice a n cap] w (GetPost w Mt.zero 11) := by
  have hB := below_box w (.cells (mcells Mt.zero) 24)
  have hun := unpack_any a n cap b _ (h.below (Nat.le_refl _) hB) (hh.below (Nat.le_refl _) hB)
  have hlt : w.heap.size < (w.alloc (.cells (mcells Mt.zero) 24)).heap.size := by simp
  have hblk := World.alloc_heap_new w (.cells (mcells Mt.zero) 24)
  rw [hE] at hun
  have hll := unpL_length b
  generalize unpK b = k at *
  generalize unpL b = l at *
  clear hE
  have hcase : ((k.toNat : Int) != 5) = true ∨ (((k.toNat : Int) != 5) = false ∧ ((l.length : Int) != 1) = true) := by
    by_cases h5 : k = 5
    · subst h5
      right
      refine ⟨rfl, ?_⟩
      simp only [true_and] at hk
      simp; omega
    · left
      have : k.toNat ≠ 5 := fun e => h5 (UInt8.toNat_inj.1 e)
      simp; omega
  clear hk
  change Calls Tryd.prog 47 #[.slice a n cap] (w.alloc (.cells #[.int .i64 0, .int .u64 0, .int .i64 0, .int .i64 0, .int .i64 0] 24)) _ at hun
  rcases hcase with hc | ⟨hc, hc2⟩
  all_goals
    go_enter Tryd.func21, Tryd.ntmps21
    go_wp2_with fail
    refine hun.mono ?_
    rintro e w1 ⟨v1, rfl, hob, hb1⟩
    obtain ⟨av, cv, rfl, _⟩ := hob.bss
    have hbl1 := (hb1.block _ hlt).trans hblk
    obtain ⟨g0, g1, g2, g3, g4⟩ := mbox_cells (m := Mt.zero) hbl1
    obtain ⟨f0, f1, f2, f3, f4⟩ := mbox_frozen (m := Mt.zero) hbl1
    clear hob hun
    go_wp2_with fail
    refine bodyPost_ret (v := .tuple #[mv Mt.zero, .int .i64 11]) (by simp [results, Tryd.results21, go_sem, mv, mcells, Mt.zero, g0, g1, g2, g3, g4]) rfl ⟨rfl, ?_⟩
    exact (((((below_then hB hb1).setCell (Nat.le_refl _) _).setCell (Nat.le_refl _) _).setCell (Nat.le_refl _) _).setCell (Nat.le_refl _) _).setCell (Nat.le_refl _) _

/-- Bytes don't stand in a boxed meta. -/
theorem bs_ne_meta {w : World} {g : Nat} {a : Option Addr} {len cap : Nat} {m : Mt} {T : TypeId} {l : List UInt8} (h1 : w.heap[g]? = some (.cells (mcells m) T (0, 0))) (h2 : Bs w a len cap l) :
    ∀ b off, len ≠ 0 → a = some ⟨b, off, none⟩ → some g ≠ some b := by
  intro b off hl ha hb
  cases hb
  obtain ⟨b', off', e1, _, h7⟩ := h2.cell (k := 0) (by omega)
  rw [ha] at e1
  cases e1
  have := h7 0 (by omega)
  simp only [World.cell?, h1, Nat.add_zero, mcells] at this
  match off, this with
  | 0, this => simp at this
  | 1, this => simp at this
  | 2, this => simp at this
  | 3, this => simp at this
  | 4, this => simp at this
  | n + 5, this => simp at this
theorem Tk.set_meta {w : World} {t g i : Nat} {s : TSt} {m : Mt} {T : TypeId} {u : Value} (h : Tk w t s) (hg : w.heap[g]? = some (.cells (mcells m) T (0, 0))) (hne : g ≠ t) : Tk (w.setCell ⟨g, i, none⟩ u) t s := by
  have hT := h
  obtain ⟨a, cap, h1, h2⟩ := h
  refine hT.grown (grown_setCell w ⟨g, i, none⟩ u) (fun e => hne (by cases e; rfl)) fun a' n' m' b off hh hl ha => ?_
  rw [h1] at hh
  cases hh
  exact bs_ne_meta hg h2 b off hl ha

def ptrCells (g : Nat) : Array Value := #[.pointer (some ⟨g, 2, none⟩), .pointer (some ⟨g, 3, none⟩), .pointer (some ⟨g, 4, none⟩)]
theorem ptrCells_at (g k : Nat) (h : k < 3) : (ptrCells g)[k]? = some (.pointer (some ⟨g, k + 2, none⟩)) := by
  match k, h with
  | 0, _ => rfl
  | 1, _ => rfl
  | 2, _ => rfl
theorem mcells_some (m : Mt) (i : Nat) (h : i < 5) : ∃ v, (mcells m)[i]? = some v := by
  have : (mcells m).size = 5 := rfl
  exact ⟨_, Array.getElem?_eq_getElem (by omega)⟩

def GetForm (w : World) (c : List UInt8) (e : Ending) (w' : World) : Prop :=
  if decide (c.length = 19) && (c.take 4 == markB && metaOk (decM (c.drop 4))) then GetPost w (decM (c.drop 4)) 0 e w' else GetPost w Mt.zero 11 e w'

set_option maxRecDepth 100000 in
set_option maxHeartbeats 8000000 in
theorem mget_form (a : Option Addr) (n cap : Nat) (b : List UInt8) (w : World) (h : Bs w a n cap b) (hh : Half w) (hE : unpE b = 0) (hk : unpK b = 5) (c : List UInt8) (hl : unpL b = [c]) (hcl : c.length ≤ 128) :
    Calls Tryd.prog 21 #[.slice a n cap] w (GetForm w c) := by
  have hB := below_box w (.cells (mcells Mt.zero) 24)
  have hun := unpack_any a n cap b _ (h.below (Nat.le_refl _) hB) (hh.below (Nat.le_refl _) hB)
  have hlt : w.heap.size < (w.alloc (.cells (mcells Mt.zero) 24)).heap.size := by simp
  have hblk := World.alloc_heap_new w (.cells (mcells Mt.zero) 24)
  rw [hE, hk, hl] at hun
  change Calls Tryd.prog 47 #[.slice a n cap] (w.alloc (.cells #[.int .i64 0, .int .u64 0, .int .i64 0, .int .i64 0, .int .i64 0] 24)) _ at hun
  clear hE hk hl h hh
  go_enter Tryd.func21, Tryd.ntmps21
  go_wp2_with fail
  refine hun.mono ?_
  rintro e w1 ⟨v1, rfl, hob, hb1⟩
  obtain ⟨av, cv, rfl, hbss⟩ := hob.bss
  obtain ⟨bb, off, ac, nc, cc, rfl, hbb, hcell, hbc⟩ := hbss.at (k := 0) (by simp)
  have hbc : Bs w1 ac nc cc c := hbc
  rw [Nat.add_zero] at hcell
  have hnc := hbc.len
  have hn128 : nc ≤ 128 := by omega
  have hncap := hbc.cap
  unfold maxLen at hncap
  have hbl1 := (hb1.block _ hlt).trans hblk
  have hlt1 : w.heap.size < w1.heap.size := (Array.getElem?_eq_some_iff.1 hbl1).1
  have hbB := below_then hB hb1
  obtain ⟨w2, hkc, hmk, hb2, hs2⟩ := const_bytes (P := Tryd.prog) w1 26 5 #[.int .u8 109, .int .u8 101, .int .u8 116, .int .u8 97] markB 4 rfl rfl (by decide) Tryd.underlying26 Tryd.underlying5
  have hbc2 := hbc.below (Nat.le_refl _) hb2
  have hbl2 := (hb2.block _ hlt1).trans hbl1
  have hbB2 := below_then hbB hb2
  have hcell2 := (hb2.cell (p := ⟨bb, off, none⟩) hbb).trans hcell
  have hpre := prefix_any ac nc cc c _ 4 4 markB w2 hbc2 hmk
  have HBL2 := Lib.hid hbl2
  have HNC := Lib.hid hnc
  have HC2 := Lib.hid hcell2
  clear hob hun hbss hbc hbl1 hblk hlt hb1 hbB hb2 hs2 hnc hbl2 hcell2 hB
  generalize hq : (c.take 4 == markB) = q at *
  have HQ := Lib.hid hq
  clear hq
  have hll : (([c].length : Nat) : Int) = 1 := rfl
  cases q
  · go_wp2_with fail
    refine hpre.mono ?_
    rintro e w3 ⟨rfl, rfl⟩
    obtain ⟨g0, g1, g2, g3, g4⟩ := mbox_cells (m := Mt.zero) HBL2.out
    obtain ⟨f0, f1, f2, f3, f4⟩ := mbox_frozen (m := Mt.zero) HBL2.out
    go_wp2_with fail
    refine bodyPost_ret (v := .tuple #[mv Mt.zero, .int .i64 11]) (by simp [results, Tryd.results21, go_sem, mv, mcells, Mt.zero, g0, g1, g2, g3, g4]) rfl ?_
    rw [GetForm, HQ.out, Bool.false_and, Bool.and_false]
    exact ⟨rfl, ((((hbB2.setCell (Nat.le_refl _) _).setCell (Nat.le_refl _) _).setCell (Nat.le_refl _) _).setCell (Nat.le_refl _) _).setCell (Nat.le_refl _) _⟩
  · have h4 : 4 ≤ nc := by
      have h1 := HQ.out
      rw [beq_iff_eq] at h1
      have := congrArg List.length h1
      have h2 := HNC.out
      simp [markB] at this; omega
    have hd := hbc2.drop 4 h4
    obtain ⟨a4, ha4, hsl⟩ := slice_from elem_bytes size_bytes ac nc cc 4 h4
    rw [← ha4] at hd
    have hsl4 : ∀ W, (Instr.slice 26 (.slice ac nc cc) (some (.int .i64 4)) none none).run Tryd.prog W = .ok (.slice a4 (nc - 4) (cc - 4)) W := hsl .i64
    have hT := take_any a4 (nc - 4) (cc - 4) (c.drop 4) w2 hd (by have := HNC.out; omega)
    have hc2 := HC2.out
    have HRL := Lib.hid (show (c.drop 4).length = nc - 4 by rw [List.length_drop, HNC.out])
    have HFORM := Lib.hid (show (decide (c.length = 19) && (c.take 4 == markB && metaOk (decM (c.drop 4)))) = (decide ((c.drop 4).length = 15) && metaOk (decM (c.drop 4))) by
      rw [HQ.out, Bool.true_and, List.length_drop]
      congr 1
      apply decide_eq_decide.2
      have := HNC.out
      omega)
    have HD := Lib.hid (show GetForm w c = fun e w' => if decide ((c.drop 4).length = 15) && metaOk (decM (c.drop 4)) then GetPost w (decM (c.drop 4)) 0 e w' else GetPost w Mt.zero 11 e w' by
      funext e w'; rw [GetForm, HFORM.out])
    clear ha4 hsl hd hbc2 hmk HFORM
    generalize c.drop 4 = r at *
    go_wp2_with fail
    refine hpre.mono ?_
    rintro e w3 ⟨rfl, rfl⟩
    go_wp2_with fail
    refine hT.mono ?_
    rintro e w3 ⟨rfl, htk, htl, hb3⟩
    have hbB3 := below_then hbB2 hb3
    have hbl3 := (hb3.block _ (Array.getElem?_eq_some_iff.1 HBL2.out).1).trans HBL2.out
    have hlt2 : w.heap.size < w2.heap.size := (Array.getElem?_eq_some_iff.1 HBL2.out).1
    have htw : w3.heap.size - 1 < w3.heap.size := by omega
    generalize w3.heap.size - 1 = t at *
    have hN1 : Calls Tryd.prog 50 #[.pointer (some ⟨t, 0, none⟩), .int .i64 1] w3 (TkPost w3 t (fun _ v => v = .int .u64 ((tNum ⟨r, 0⟩ 1).1 : Int)) (tNum ⟨r, 0⟩ 1).2) := tNum_any t ⟨r, 0⟩ 1 w3 htk (by have := HRL.out; simp only; omega)
    have hN8 : ∀ W, Tk W t (tNum ⟨r, 0⟩ 1).2 → Calls Tryd.prog 50 #[.pointer (some ⟨t, 0, none⟩), .int .i64 8] W (TkPost W t (fun _ v => v = .int .u64 ((tNum (tNum ⟨r, 0⟩ 1).2 8).1 : Int)) (mSt r 0)) := fun W hW => tNum_any t (tNum ⟨r, 0⟩ 1).2 8 W hW (by have := tNum_len ⟨r, 0⟩ 1; have := HRL.out; simp only at *; omega)
    have hN2 : ∀ k W, Tk W t (mSt r k) → Calls Tryd.prog 50 #[.pointer (some ⟨t, 0, none⟩), .int .i64 2] W (TkPost W t (fun _ v => v = .int .u64 (mVl r k : Int)) (mSt r (k + 1))) := fun k W hW => tNum_any t (mSt r k) 2 W hW (by have := mSt_len r k; have := HRL.out; omega)
    have hp1 : (tNum ⟨r, 0⟩ 1).1 < 256 := tNum_lt ⟨r, 0⟩ 1
    have HP1 : Hid (mMt r 0 = ⟨(tNum ⟨r, 0⟩ 1).1, (tNum (tNum ⟨r, 0⟩ 1).2 8).1, 0, 0, 0⟩) := Lib.hid rfl
    generalize (tNum (tNum ⟨r, 0⟩ 1).2 8).1 = p2 at *
    generalize (tNum ⟨r, 0⟩ 1).1 = p1 at *
    generalize (tNum ⟨r, 0⟩ 1).2 = s1 at *
    clear hT hc2 hsl4 hkc hcell hbc hpre htk hb3
    go_wp2_with fail
    refine hN1.mono ?_
    rintro e w4 ⟨_, rfl, rfl, hg4, htk4⟩
    have hbB4 := below_take hbB3 (by omega) hg4
    have hbl4 := (hg4.block _ (by omega) (by intro e; cases e; omega)).trans hbl3
    have hz4 := hg4.size
    clear hN1 hg4
    go_wp2_with fail
    refine (hN8 _ htk4).mono ?_
    rintro e w5 ⟨_, rfl, rfl, hg5, htk5⟩
    have hbB5 := below_take hbB4 (by omega) hg5
    have hbl5 := (hg5.block _ (by omega) (by intro e; cases e; omega)).trans hbl4
    have hz5 := hg5.size
    clear hN8 hg5 htk4
    have htk6 := htk5.below (Nat.le_refl _) (below_two w5 (.cells #[.int .i64 p1, .int .u64 p2, .int .i64 0, .int .i64 0, .int .i64 0] 24) (.cells #[.pointer (some ⟨w5.heap.size, 2, none⟩), .pointer (some ⟨w5.heap.size, 3, none⟩), .pointer (some ⟨w5.heap.size, 4, none⟩)] 97))
    have hmb6 := alloc_two_old w5 (.cells #[.int .i64 p1, .int .u64 p2, .int .i64 0, .int .i64 0, .int .i64 0] 24) (.cells #[.pointer (some ⟨w5.heap.size, 2, none⟩), .pointer (some ⟨w5.heap.size, 3, none⟩), .pointer (some ⟨w5.heap.size, 4, none⟩)] 97)
    have hpb6 := alloc_two_new w5 (.cells #[.int .i64 p1, .int .u64 p2, .int .i64 0, .int .i64 0, .int .i64 0] 24) (.cells #[.pointer (some ⟨w5.heap.size, 2, none⟩), .pointer (some ⟨w5.heap.size, 3, none⟩), .pointer (some ⟨w5.heap.size, 4, none⟩)] 97)
    have hz6 := alloc_two_size w5 (.cells #[.int .i64 p1, .int .u64 p2, .int .i64 0, .int .i64 0, .int .i64 0] 24) (.cells #[.pointer (some ⟨w5.heap.size, 2, none⟩), .pointer (some ⟨w5.heap.size, 3, none⟩), .pointer (some ⟨w5.heap.size, 4, none⟩)] 97)
    have hbb6 := below_two w5 (.cells #[.int .i64 p1, .int .u64 p2, .int .i64 0, .int .i64 0, .int .i64 0] 24) (.cells #[.pointer (some ⟨w5.heap.size, 2, none⟩), .pointer (some ⟨w5.heap.size, 3, none⟩), .pointer (some ⟨w5.heap.size, 4, none⟩)] 97)
    have HTK6 := Lib.hid htk6
    have HMB6 := Lib.hid hmb6
    have HPB6 := Lib.hid hpb6
    have HZ6 := Lib.hid hz6
    have HB6 := Lib.hid hbb6
    clear htk6 hmb6 hpb6 hz6 hbb6
    go_wp2_with fail
    generalize (w5.alloc (.cells #[.int .i64 p1, .int .u64 p2, .int .i64 0, .int .i64 0, .int .i64 0] 24)).alloc (.cells #[.pointer (some ⟨w5.heap.size, 2, none⟩), .pointer (some ⟨w5.heap.size, 3, none⟩), .pointer (some ⟨w5.heap.size, 4, none⟩)] 97) = w6 at *
    have hbl6 := (HB6.out.block _ (by omega)).trans hbl5
    have hbB6 := below_then hbB5 HB6.out
    have htz : t < w5.heap.size := by omega
    have hwz : w.heap.size < t := by omega
    have hz66 := HZ6.out
    have HM0 : Hid (w6.heap[w5.heap.size]? = some (.cells (mcells (mMt r 0)) 24 (0, 0))) := Lib.hid (by rw [HP1.out]; exact HMB6.out)
    have HP6 : Hid (w6.heap[w5.heap.size + 1]? = some (.cells (ptrCells w5.heap.size) 97 (0, 0))) := HPB6
    clear HMB6 HPB6 HP1 HB6 HZ6 htk5 hbl3 hbl4 hbl5 hbB3 hbB4 hbB5 hz4 hz5 htw htl hlt2
    generalize w5.heap.size = g at *
    go_loopw [54] (fun i wr => ∃ k : Nat, k ≤ 3 ∧ i = .int .i64 k ∧ Tk wr t (mSt r k) ∧ wr.heap[g]? = some (.cells (mcells (mMt r k)) 24 (0, 0)) ∧ wr.heap[g + 1]? = some (.cells (ptrCells g) 97 (0, 0)) ∧ wr.heap[w.heap.size]? = some (.cells (mcells Mt.zero) 24 (0, 0)) ∧ Below w.heap.size w wr) (fun i _ => 3 - (intOf i).toNat)
    case atStart => exact ⟨0, Nat.zero_le _, rfl, HTK6.out, HM0.out, HP6.out, hbl6, hbB6⟩
    case round =>
      obtain ⟨k, hk, rfl, htk, hmb, hpb, hrb, hbr⟩ := hrel
      by_cases hlt : k < 3
      · have hgl : g + 1 < wr.heap.size := (Array.getElem?_eq_some_iff.1 hpb).1
        have hcp : wr.cell? ⟨g + 1, k, none⟩ = some (.pointer (some ⟨g, k + 2, none⟩)) := by
          simp only [World.cell?, hpb]; exact ptrCells_at g k hlt
        have hcall := hN2 k wr htk
        have hv := mVl_lt r k
        have hset := Lib.hid (mMt_set r k hlt)
        obtain ⟨v0, hv0⟩ := mcells_some (mMt r k) (k + 2) (by omega)
        generalize mVl r k = x at *
        clear htk
        go_wp2_with fail
        refine hcall.mono ?_
        rintro e w7 ⟨_, rfl, rfl, hg7, htk7⟩
        have hmb7 := (hg7.block g (by omega) (by intro e; cases e; omega)).trans hmb
        have hpb7 := (hg7.block (g + 1) (by omega) (by intro e; cases e; omega)).trans hpb
        have hrb7 := (hg7.block w.heap.size (by omega) (by intro e; cases e; omega)).trans hrb
        have hb7 := below_take hbr (by omega) hg7
        have hcm : w7.cell? ⟨g, k + 2, none⟩ = some v0 := by simp only [World.cell?, hmb7]; exact hv0
        have hfm : w7.frozen? ⟨g, k + 2, none⟩ = false := by simp [World.frozen?, hmb7]
        have h1 := htk7.set_meta (i := k + 2) (u := .int .i64 (x : Int)) hmb7 (by omega)
        have h2 := heap_setCell_at (k + 2) (.int .i64 (x : Int)) hmb7
        rw [← hset.out] at h2
        have h3 := (Below.heap_setCell w7 ⟨g, k + 2, none⟩ (.int .i64 (x : Int)) (g + 1) (by simp)).trans hpb7
        have h4 := (Below.heap_setCell w7 ⟨g, k + 2, none⟩ (.int .i64 (x : Int)) w.heap.size (by simp; omega)).trans hrb7
        have h5 := hb7.setCell (p := ⟨g, k + 2, none⟩) (by simp; omega) (.int .i64 (x : Int))
        have H1 := Lib.hid h1
        have H2 := Lib.hid h2
        have H3 := Lib.hid h3
        have H4 := Lib.hid h4
        have H5 := Lib.hid h5
        clear h1 h2 h3 h4 h5 htk7 hmb7 hpb7 hrb7 hb7 hg7 hcall hmb hpb hrb hcp hv0
        go_wp2_with fail
        go_roundw
        case rel => exact ⟨k + 1, by omega, by go_num, H1.out, H2.out, H3.out, H4.out, H5.out⟩
        case measure => simp [intOf]; omega
      · obtain rfl : k = 3 := by omega
        have hdn := tDone_any t (mSt r 3) wr htk
        have hiff := mSt_done r
        have hdec := mMt_dec r
        have hgl : g < wr.heap.size := (Array.getElem?_eq_some_iff.1 hmb).1
        by_cases h15 : r.length = 15
        · rw [hiff.2 h15] at hdn
          rw [hdec h15] at hmb
          have HD2 := Lib.hid (show GetForm w c = fun e w' => if metaOk (decM r) then GetPost w (decM r) 0 e w' else GetPost w Mt.zero 11 e w' by
            rw [HD.out]; simp [h15])
          have H15 := Lib.hid h15
          clear hiff hdec h15 hN2 htk hpb HTK6 HM0 HP6 hbl6 hbB6
          generalize decM r = m at *
          have hchk := mcheck_any m wr
          obtain ⟨g0, g1, g2, g3, g4⟩ := mbox_cells hmb
          unfold mv mcells at hchk
          cases hok : metaOk m
          · rw [hok] at hchk HD2
            go_wp2_with fail
            refine hdn.mono ?_
            rintro e w7 ⟨rfl, rfl⟩
            go_wp2_with fail
            refine hchk.mono ?_
            rintro e w8 ⟨rfl, hb8⟩
            have hrb8 := (hb8.block _ (by omega)).trans hrb
            have hb9 := below_then hbr hb8
            clear g0 g1 g2 g3 g4
            obtain ⟨g0, g1, g2, g3, g4⟩ := mbox_cells (m := Mt.zero) hrb8
            obtain ⟨f0, f1, f2, f3, f4⟩ := mbox_frozen (m := Mt.zero) hrb8
            clear hchk hdn hb8
            go_wp2_with fail
            refine bodyPost_ret (v := .tuple #[mv Mt.zero, .int .i64 11]) (by simp [results, Tryd.results21, go_sem, mv, mcells, Mt.zero, g0, g1, g2, g3, g4]) rfl ?_
            rw [HD2.out]
            exact ⟨rfl, ((((hb9.setCell (Nat.le_refl _) _).setCell (Nat.le_refl _) _).setCell (Nat.le_refl _) _).setCell (Nat.le_refl _) _).setCell (Nat.le_refl _) _⟩
          · rw [hok] at hchk HD2
            go_wp2_with fail
            refine hdn.mono ?_
            rintro e w7 ⟨rfl, rfl⟩
            go_wp2_with fail
            refine hchk.mono ?_
            rintro e w8 ⟨rfl, hb8⟩
            have hrb8 := (hb8.block _ (by omega)).trans hrb
            have hmb8 := (hb8.block _ hgl).trans hmb
            have hb9 := below_then hbr hb8
            clear g0 g1 g2 g3 g4
            obtain ⟨g0, g1, g2, g3, g4⟩ := mbox_cells hmb8
            obtain ⟨r0, r1, r2, r3, r4⟩ := mbox_cells (m := Mt.zero) hrb8
            obtain ⟨f0, f1, f2, f3, f4⟩ := mbox_frozen (m := Mt.zero) hrb8
            clear hchk hdn hb8
            go_wp2_with fail
            refine bodyPost_ret (v := .tuple #[mv m, .int .i64 0]) (by simp [results, Tryd.results21, go_sem, mv, mcells, r0, r1, r2, r3, r4]) rfl ?_
            rw [HD2.out]
            exact ⟨rfl, ((((hb9.setCell (Nat.le_refl _) _).setCell (Nat.le_refl _) _).setCell (Nat.le_refl _) _).setCell (Nat.le_refl _) _).setCell (Nat.le_refl _) _⟩
        · have hne : ((tDone (mSt r 3)) != 0) = true := by
            have : tDone (mSt r 3) ≠ 0 := fun e => h15 (hiff.1 e)
            simpa using this
          have hne2 : ((tDone (mSt r 3)) == 0) = false := by
            have : tDone (mSt r 3) ≠ 0 := fun e => h15 (hiff.1 e)
            simpa using this
          have HD2 := Lib.hid (show GetForm w c = GetPost w Mt.zero 11 by
            rw [HD.out]; funext e w'; simp [h15])
          clear hiff hdec h15 hN2 htk hpb HTK6 HM0 HP6 hbl6 hbB6
          generalize tDone (mSt r 3) = dn at *
          obtain ⟨g0, g1, g2, g3, g4⟩ := mbox_cells (m := Mt.zero) hrb
          obtain ⟨f0, f1, f2, f3, f4⟩ := mbox_frozen (m := Mt.zero) hrb
          go_wp2_with fail
          refine hdn.mono ?_
          rintro e w7 ⟨rfl, rfl⟩
          go_wp2_with fail
          refine bodyPost_ret (v := .tuple #[mv Mt.zero, .int .i64 11]) (by simp [results, Tryd.results21, go_sem, mv, mcells, Mt.zero, g0, g1, g2, g3, g4]) rfl ?_
          rw [HD2.out]
          exact ⟨rfl, ((((hbr.setCell (Nat.le_refl _) _).setCell (Nat.le_refl _) _).setCell (Nat.le_refl _) _).setCell (Nat.le_refl _) _).setCell (Nat.le_refl _) _⟩
end Go.Proofs.YtjdepdgoaopfoaaDoor
