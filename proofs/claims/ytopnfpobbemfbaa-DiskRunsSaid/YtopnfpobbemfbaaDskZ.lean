/- The walk of Crash. -/
import Derived.Test.YtopnfpobbemfbaaDskY
namespace Go.Proofs.Ytopnfpobbemfbaa
open Go.RowKit

theorem DskIn.reF {w : World} {F F' : List Nat} {db M : Nat} {bs : List (Nat × List Nat)} {d : List Rg} (h : DskIn w F db M bs d) (hs : ∀ k ∈ F, k ∈ F') (hlt : ∀ k ∈ F', k < w.heap.size) : DskIn w F' db M bs d := by
  obtain ⟨pv, h1, h2, h3⟩ := h.cells
  exact ⟨⟨pv, h1, h2, fun k hk => ⟨hs _ (h3 k hk).1, (h3 k hk).2⟩⟩, hs _ h.mem, h.off, h.len, h.reg, h.apart, fun q hq k hk => hs _ (h.sub q hq k hk), hlt⟩
/-- A region turns, its blocks stay. -/
theorem DskIn.turn_same {w w' : World} {F : List Nat} {db M : Nat} {bs : List (Nat × List Nat)} {d : List Rg} (h : DskIn w F db M bs d) {i : Nat} {q : Nat × List Nat} (hq : bs[i]? = some q) {x : Rg}
    (ho : Only q.2 w w') (hr : RegIn w' q.2 q.1 M x) : DskIn w' F db M bs (d.set i x) := by
  have ht := h.turn hq ho hr (fun k hk => .inl hk) (Nat.le_refl M)
  have hsub := h.sub q (List.mem_of_getElem? hq)
  have e : bs.set i (q.1, q.2) = bs := by
    apply List.ext_getElem?; intro j
    by_cases e : j = i
    · subst e
      rw [List.getElem?_set_self (List.getElem?_eq_some_iff.1 hq).1, hq]
    · rw [List.getElem?_set_ne (fun h => e h.symm)]
  rw [e] at ht
  exact ht.reF (fun k hk => (List.mem_append.1 hk).elim id (fun h => hsub k h)) (fun k hk => Nat.lt_of_lt_of_le (h.lt k hk) ho.size)
theorem Only.set2 {S : List Nat} {w w' : World} (h : Only S w w') (b i j : Nat) (u v : Value) (hb : b ∈ S) : Only S w ((w'.setCell ⟨b, i, none⟩ u).setCell ⟨b, j, none⟩ v) := (h.set ⟨b, i, none⟩ u hb).set ⟨b, j, none⟩ v hb
set_option maxRecDepth 100000 in
set_option maxHeartbeats 1000000 in
theorem dcrash_nil (a : Option Addr) (len cap : Nat) (w : World) : Calls Try.prog 13 #[.pointer none, .slice a len cap] w fun e w' => e = .returned (.tuple #[]) ∧ Below w.heap.size w w' := by
  go_enter Try.func13, Try.ntmps13
  go_wp2
  refine bodyPost_ret (results_none rfl _ _ _) rfl ?_
  exact ⟨rfl, (Below.refl _ _).alloc (Nat.le_refl _) _⟩
def CrRel (w1 : World) (F : List Nat) (db M : Nat) (bs : List (Nat × List Nat)) (d : List Rg) (ks : List (List UInt8)) (k : Nat) (wr : World) : Prop := DskIn wr F db M bs (crashK d ks k) ∧ Only (bs.flatMap (·.2)) w1 wr
set_option maxRecDepth 100000 in
set_option maxHeartbeats 8000000 in
theorem dcrash_any {w : World} {F : List Nat} {db M : Nat} {bs : List (Nat × List Nat)} {d : List Rg} (h : DskIn w F db M bs d) (hM : M ≤ 1000000) {a : Option Addr} {len cap : Nat} {ks : List (List UInt8)} (hks : Txs w a len cap ks) (hF : ∀ g off, len ≠ 0 → a = some ⟨g, off, none⟩ → g ∉ F) :
    Calls Try.prog 13 #[.pointer (some ⟨db, 0, none⟩), .slice a len cap] w (CrashPost w F db M (crashD d ks)) := by
  have hb0 : Below w.heap.size w (w.alloc (.cells #[.slice a len cap] 31)) := (Below.refl _ _).alloc (Nat.le_refl _) _
  have h1 := h.below hb0
  obtain ⟨ar, cr, c0, hc1, hc2, hrow⟩ := h1.row
  have hpk : (w.alloc (.cells #[.slice a len cap] 31)).cell? ⟨w.heap.size, 0, none⟩ = some (.slice a len cap) := by
    simp only [World.cell?, World.alloc_heap_new w (.cells #[.slice a len cap] 31)]; rfl
  have hks1 : Txs (w.alloc (.cells #[.slice a len cap] 31)) a len cap ks := TabR.below (Nat.le_refl _) hb0 hks
  have hsz1 : (w.alloc (.cells #[.slice a len cap] 31)).heap.size = w.heap.size + 1 := by simp
  have hmemF : ∀ k ∈ bs.flatMap (·.2), k ∈ F := fun k hk => by
    obtain ⟨q, hq, hk⟩ := List.mem_flatMap.1 hk
    exact h.sub q hq k hk
  have hpkF : w.heap.size ∉ F := fun hk => by have := h.lt _ hk; omega
  have hdb := h.lt db h.mem
  have hdbS : db ∉ bs.flatMap (·.2) := fun hk => by
    obtain ⟨q, hq, hk⟩ := List.mem_flatMap.1 hk
    exact h.off q hq hk
  have hrowS : ∀ g, ar = some ⟨g, 0, none⟩ → g ∉ bs.flatMap (·.2) ∧ g < (w.alloc (.cells #[.slice a len cap] 31)).heap.size := by
    intro g hg
    obtain ⟨pv, e1, e2, e3⟩ := h1.cells
    obtain ⟨a', cap', rfl, _⟩ := own_slice e2
    have : (w.alloc (.cells #[.slice a len cap] 31)).cell? ⟨db, 0, none⟩ = some (.slice a' d.length cap') := by simp [World.cell?, e1]
    rw [c0] at this
    simp only [Option.some.injEq, Value.slice.injEq] at this
    obtain ⟨rfl, _, rfl⟩ := this
    subst hg
    have := e3 g rfl
    refine ⟨fun hk => ?_, h1.lt g this.1⟩
    obtain ⟨q, hq, hk⟩ := List.mem_flatMap.1 hk
    exact this.2 q hq hk
  -- one round
  have ROUND : ∀ (k : Nat) (wr : World) (q : Nat × List Nat), bs[k]? = some q → CrRel (w.alloc (.cells #[.slice a len cap] 31)) F db M bs d ks k wr →
      Calls Try.prog 33 #[.pointer (some ⟨q.1, 0, none⟩), .func (.func 35) #[] #[.pointer (some ⟨wr.heap.size, 0, none⟩), .pointer (some ⟨w.heap.size, 0, none⟩)]] (wr.alloc (.cells #[.int .i64 (k : Int)] 3)) fun e w3 => e = .returned (.tuple #[]) ∧
        (∃ l3, w3.cell? ⟨q.1, 3, none⟩ = some l3) ∧ (∃ l4, w3.cell? ⟨q.1, 4, none⟩ = some l4) ∧ (∀ j, w3.frozen? ⟨q.1, j, none⟩ = false) ∧ CrRel (w.alloc (.cells #[.slice a len cap] 31)) F db M bs d ks (k + 1) ((w3.setCell ⟨q.1, 3, none⟩ (.int .i64 (-1))).setCell ⟨q.1, 4, none⟩ (.bool false)) := by
    rintro k wr q hq ⟨hd, ho⟩
    have hqm := List.mem_of_getElem? hq
    have hkb : k < d.length := by have := (List.getElem?_eq_some_iff.1 hq).1; have := h.len; omega
    obtain ⟨x, hx⟩ : ∃ x, d[k]? = some x := ⟨_, List.getElem?_eq_getElem hkb⟩
    have hb2 : Below wr.heap.size wr (wr.alloc (.cells #[.int .i64 (k : Int)] 3)) := (Below.refl _ _).alloc (Nat.le_refl _) _
    have hd2 := hd.below hb2
    have R := hd2.reg k q x hq (crashK_at d ks k x hx)
    have hpr : (wr.alloc (.cells #[.int .i64 (k : Int)] 3)).cell? ⟨wr.heap.size, 0, none⟩ = some (.int .i64 (k : Int)) := by
      simp only [World.cell?, World.alloc_heap_new wr (.cells #[.int .i64 (k : Int)] 3)]; rfl
    have hsub : ∀ j ∈ q.2, j ∈ bs.flatMap (·.2) := fun j hj => List.mem_flatMap.2 ⟨q, hqm, hj⟩
    have ho2 : Only (bs.flatMap (·.2)) (w.alloc (.cells #[.slice a len cap] 31)) (wr.alloc (.cells #[.int .i64 (k : Int)] 3)) := ho.then (S' := []) (Only.of_below hb2) (fun _ h => by simp at h)
    have hs2 := ho.size
    refine (settle_any R hM _ #[.pointer (some ⟨wr.heap.size, 0, none⟩), .pointer (some ⟨w.heap.size, 0, none⟩)] (keepB ks k) call_crash1 (fun i W hi hW => ?_)).mono ?_
    · have hprq : wr.heap.size ∉ q.2 := fun hk => by have := hd.lt _ (hd.sub q hqm _ hk); omega
      have hil : i ≤ 1000000 := by
        obtain ⟨_, _, _, _, _, _, e4, _⟩ := R; omega
      have hoW : Only (bs.flatMap (·.2)) (w.alloc (.cells #[.slice a len cap] 31)) W := ho2.trans (hW.mono hsub)
      exact crash1_any ((World.cell?_of_block (hW.block (by simp) hprq)).trans hpr) ((World.cell?_of_block (hoW.block (by simp) (fun hk => hpkF (hmemF _ hk)))).trans hpk)
        (hks1.only hoW (fun b off hne e hk => hF b off hne e (hmemF _ hk))) i hil
    · rintro e w3 ⟨rfl, o3, r3⟩
      obtain ⟨mb, a3, cap3, _, _, _, e3, e4, e5⟩ := r3.cells
      refine ⟨rfl, ⟨_, e3⟩, ⟨_, e4⟩, e5, ?_, ?_⟩
      · obtain ⟨r4, o4⟩ := r3.setLeft (-1) (by decide)
        obtain ⟨r5, o5⟩ := r4.setDown false
        have := hd2.turn_same hq ((o3.trans o4).trans o5) r5
        rw [← crashK_succ d ks k x hx]
        exact this
      · have hqb : q.1 ∈ q.2 := by obtain ⟨_, _, _, _, _, _, _, h5, _⟩ := R; exact h5
        exact ho2.trans ((o3.set2 q.1 3 4 _ _ hqb).mono hsub)
  have START : CrRel (w.alloc (.cells #[.slice a len cap] 31)) F db M bs d ks 0 (w.alloc (.cells #[.slice a len cap] 31)) := ⟨by rw [crashK_zero]; exact h1, Only.refl _ _⟩
  have END : ∀ wr, CrRel (w.alloc (.cells #[.slice a len cap] 31)) F db M bs d ks d.length wr → CrashPost w F db M (crashD d ks) (.returned (.tuple #[])) wr := by
    rintro wr ⟨hd, ho⟩
    rw [crashK_all] at hd
    have ho' : Only F w wr := (Only.of_below (S := F) hb0).trans (ho.mono hmemF)
    exact ⟨rfl, ho', F, bs, hd, fun k hk => .inl hk⟩
  have HROW : Hid (∀ (k : Nat) wr q, bs[k]? = some q → CrRel (w.alloc (.cells #[.slice a len cap] 31)) F db M bs d ks k wr → ∃ g, ar = some ⟨g, 0, none⟩ ∧ wr.cell? ⟨g, k, none⟩ = some (.pointer (some ⟨q.1, 0, none⟩))) := Lib.hid (by
    intro k wr q hq hrel
    obtain ⟨g, hg, hc⟩ := hrow k q hq
    obtain ⟨g1, g2⟩ := hrowS g hg
    exact ⟨g, hg, (World.cell?_of_block (hrel.2.block g2 g1)).trans hc⟩)
  have HB : Hid (∀ k : Nat, k < d.length → ∃ q, bs[k]? = some q) := Lib.hid (fun k hk => ⟨_, List.getElem?_eq_getElem (by rw [h.len]; exact hk)⟩)
  have HROUND := Lib.hid ROUND
  have HSTART := Lib.hid START
  have HEND := Lib.hid END
  clear ROUND START END hrow hrowS hmemF hpkF hdbS hks1 hpk h1 hb0 hsz1 hks hF h hdb hM
  go_enter Try.func13, Try.ntmps13
  go_wp2_with fail
  go_loopw [13] (fun s wr => ∃ (k : Nat), k ≤ d.length ∧ s = .int .i64 k ∧ CrRel (w.alloc (.cells #[.slice a len cap] 31)) F db M bs d ks k wr) (fun s _ => d.length - (intOf s).toNat)
  case atStart => exact ⟨0, Nat.zero_le _, rfl, HSTART.out⟩
  case round =>
    obtain ⟨k, hk, rfl, hrel⟩ := hrel
    by_cases hlt : k < d.length
    · obtain ⟨q, hq⟩ := HB.out k hlt
      obtain ⟨g, rfl, hcell⟩ := HROW.out k wr q hq hrel
      have C := HROUND.out k wr q hq hrel
      clear hrel hq
      go_wp2_with fail
      refine C.mono ?_
      rintro e w3 ⟨rfl, ⟨l3, c3⟩, ⟨l4, c4⟩, hf, hr3⟩
      have f3 := hf 3
      have f4 := hf 4
      have HR3 := Lib.hid hr3
      clear hf hr3 C
      go_wp2_with fail
      go_roundw
      case rel => exact ⟨k + 1, hlt, by go_num, HR3.out⟩
      case measure => simp [intOf]; omega
    · obtain rfl : k = d.length := by omega
      have END := Lib.hid (HEND.out wr hrel)
      clear hrel
      go_wp2_with fail
      (first | go_end0 | refine bodyPost_end (results_none rfl _ _ _) rfl ?_)
      exact END.out
end Go.Proofs.Ytopnfpobbemfbaa
