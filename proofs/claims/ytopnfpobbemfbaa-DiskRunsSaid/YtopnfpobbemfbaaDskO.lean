/- Disks of the call's own: one, two; what each call leaves of them. -/
import Derived.Test.YtopnfpobbemfbaaRd
namespace Go.Proofs.Ytopnfpobbemfbaa
open Go.RowKit

/-- A disk whose blocks lie from B on and below T; whatever turns in it leaves Q. -/
def Opens (B T : Nat) (w : World) (da M : Nat) (d : List Rg) (Q : World → Nat → List Rg → Prop) : Prop :=
  ∃ F bs, DskIn w F da M bs d ∧ (∀ k ∈ F, B ≤ k ∧ k < T) ∧ T ≤ w.heap.size ∧ B ≤ w.heap.size ∧ ∀ w' F' bs' d' M', M ≤ M' → Only F w w' → DskIn w' F' da M' bs' d' → (∀ k ∈ F', k ∈ F ∨ T ≤ k) → Q w' M' d'
theorem Opens.below {B T : Nat} {w w1 : World} {da M : Nat} {d : List Rg} {Q : World → Nat → List Rg → Prop} (h : Opens B T w da M d Q) (hb : Below w.heap.size w w1) : Opens B T w1 da M d Q := by
  obtain ⟨F, bs, h1, h2, h3, h4, h5⟩ := h
  have hs := hb.size
  refine ⟨F, bs, h1.below hb, h2, by omega, by omega, fun w' F' bs' d' M' hM ho hd hF => h5 w' F' bs' d' M' hM ((Only.of_below hb).trans ho) hd hF⟩
def One (B : Nat) (w : World) (da M : Nat) (d : List Rg) : Prop := ∃ F bs, DskIn w F da M bs d ∧ (∀ k ∈ F, B ≤ k) ∧ B ≤ w.heap.size
def Two (B : Nat) (w : World) (da db M : Nat) (d e : List Rg) : Prop := ∃ F G bs cs, DskIn w F da M bs d ∧ DskIn w G db M cs e ∧ (∀ k ∈ F, B ≤ k) ∧ (∀ k ∈ G, B ≤ k) ∧ (∀ k ∈ F, k ∉ G) ∧ B ≤ w.heap.size
theorem One.opens {B : Nat} {w : World} {da M : Nat} {d : List Rg} (h : One B w da M d) : Opens B w.heap.size w da M d (fun w' M' d' => One B w' da M' d' ∧ Below B w w') := by
  obtain ⟨F, bs, h1, h2, h3⟩ := h
  refine ⟨F, bs, h1, fun k hk => ⟨h2 k hk, h1.lt k hk⟩, Nat.le_refl _, h3, fun w' F' bs' d' M' _ ho hd hF => ⟨⟨F', bs', hd, fun k hk => (hF k hk).elim (h2 k) (fun h => by omega), by have := ho.size; omega⟩, ho.below h3 h2⟩⟩
theorem Two.swap {B : Nat} {w : World} {da db M : Nat} {d e : List Rg} (h : Two B w da db M d e) : Two B w db da M e d := by
  obtain ⟨F, G, bs, cs, h1, h2, h3, h4, h5, h6⟩ := h
  exact ⟨G, F, cs, bs, h2, h1, h4, h3, fun k hk hk2 => h5 k hk2 hk, h6⟩
theorem Two.opens {B : Nat} {w : World} {da db M : Nat} {d e : List Rg} (h : Two B w da db M d e) : Opens B w.heap.size w da M d (fun w' M' d' => Two B w' da db M' d' e ∧ Below B w w') := by
  obtain ⟨F, G, bs, cs, h1, h2, h3, h4, h5, h6⟩ := h
  refine ⟨F, bs, h1, fun k hk => ⟨h3 k hk, h1.lt k hk⟩, Nat.le_refl _, h6, fun w' F' bs' d' M' hM ho hd hF => ⟨⟨F', G, bs', cs, hd, (h2.only ho (fun k hk hk2 => h5 k hk2 hk)).more hM, fun k hk => (hF k hk).elim (h3 k) (fun h => by omega), h4, fun k hk hk2 => ?_, by have := ho.size; omega⟩, ho.below h6 h3⟩⟩
  rcases hF k hk with h7 | h7
  · exact h5 k h7 hk2
  · have := h2.lt k hk2; omega
theorem Two.left {B : Nat} {w : World} {da db M : Nat} {d e : List Rg} (h : Two B w da db M d e) : One B w da M d := by
  obtain ⟨F, G, bs, cs, h1, h2, h3, h4, h5, h6⟩ := h
  exact ⟨F, bs, h1, h3, h6⟩
theorem One.below {B : Nat} {w w' : World} {da M : Nat} {d : List Rg} (h : One B w da M d) (hb : Below w.heap.size w w') : One B w' da M d := by
  obtain ⟨F, bs, h1, h2, h3⟩ := h
  exact ⟨F, bs, h1.below hb, h2, by have := hb.size; omega⟩
theorem Two.below {B : Nat} {w w' : World} {da db M : Nat} {d e : List Rg} (h : Two B w da db M d e) (hb : Below w.heap.size w w') : Two B w' da db M d e := by
  obtain ⟨F, G, bs, cs, h1, h2, h3, h4, h5, h6⟩ := h
  exact ⟨F, G, bs, cs, h1.below hb, h2.below hb, h3, h4, h5, by have := hb.size; omega⟩
theorem One.more {B : Nat} {w : World} {da M M' : Nat} {d : List Rg} (h : One B w da M d) (hM : M ≤ M') : One B w da M' d := by
  obtain ⟨F, bs, h1, h2, h3⟩ := h
  exact ⟨F, bs, h1.more hM, h2, h3⟩
theorem Two.more {B : Nat} {w : World} {da db M M' : Nat} {d e : List Rg} (h : Two B w da db M d e) (hM : M ≤ M') : Two B w da db M' d e := by
  obtain ⟨F, G, bs, cs, h1, h2, h3⟩ := h
  exact ⟨F, G, bs, cs, h1.more hM, h2.more hM, h3⟩
/-- A second disk beside the first. -/
theorem Two.mk {B : Nat} {w w' : World} {da db M : Nat} {d e : List Rg} {F : List Nat} {bs : List (Nat × List Nat)} (h : One B w da M d) (hb : Below w.heap.size w w') (h2 : DskIn w' F db M bs e) (hF : ∀ k ∈ F, w.heap.size ≤ k) : Two B w' da db M d e := by
  obtain ⟨G, cs, h3, h4, h5⟩ := h
  exact ⟨G, F, cs, bs, h3.below hb, h2, h4, fun k hk => Nat.le_trans h5 (hF k hk), fun k hk hk2 => by have := h3.lt k hk; have := hF k hk2; omega, by have := hb.size; omega⟩

section
variable {B T : Nat} {w : World} {da M : Nat} {d : List Rg} {Q : World → Nat → List Rg → Prop}
theorem write_o (h : Opens B T w da M d Q) {a : Option Addr} {len cap : Nat} {l : List UInt8} (hb : Bs w a len cap l) (hF : ∀ g off, a = some ⟨g, off, none⟩ → g < B ∨ T ≤ g) (hM : M ≤ 900000) (r p : Int) :
    Calls Try.prog 10 #[.pointer (some ⟨da, 0, none⟩), .int .i64 r, .int .i64 p, .slice a len cap] w fun e w' => e = .returned (.int .i64 (writeE d r p l)) ∧ Q w' (M + 1) (writeD d r p l) := by
  obtain ⟨F, bs, h1, h2, h3, h4, h5⟩ := h
  refine (write_any h1 hb (fun g off hg hk => by have := h2 g hk; rcases hF g off hg with h | h <;> omega) hM r p).mono ?_
  rintro e w' ⟨rfl, ho, F', bs', hd, hF'⟩
  exact ⟨rfl, h5 w' F' bs' _ _ (Nat.le_succ M) ho hd (fun k hk => (hF' k hk).imp id (fun h => by omega))⟩
theorem write_o2 (h : Opens B T w da M d Q) {a : Option Addr} {len cap : Nat} {l : List UInt8} (hb : Bs w a len cap l) (hF : len = 128 → ∀ g off, a = some ⟨g, off, none⟩ → g < B ∨ T ≤ g) (hM : M ≤ 900000) (r p : Int) :
    Calls Try.prog 10 #[.pointer (some ⟨da, 0, none⟩), .int .i64 r, .int .i64 p, .slice a len cap] w fun e w' => e = .returned (.int .i64 (writeE d r p l)) ∧ Q w' (M + 1) (writeD d r p l) := by
  obtain ⟨F, bs, h1, h2, h3, h4, h5⟩ := h
  refine (write_wide h1 hb (fun hn g off hg hk => by have := h2 g hk; rcases hF hn g off hg with h | h <;> omega) hM r p).mono ?_
  rintro e w' ⟨rfl, ho, F', bs', hd, hF'⟩
  exact ⟨rfl, h5 w' F' bs' _ _ (Nat.le_succ M) ho hd (fun k hk => (hF' k hk).imp id (fun h => by omega))⟩
theorem sync_o (h : Opens B T w da M d Q) (hM : M ≤ 900000) (r : Int) :
    Calls Try.prog 12 #[.pointer (some ⟨da, 0, none⟩), .int .i64 r] w fun e w' => e = .returned (.int .i64 (syncE d r)) ∧ Q w' M (syncD d r) := by
  obtain ⟨F, bs, h1, h2, h3, h4, h5⟩ := h
  refine (dsync_any h1 (by omega) r).mono ?_
  rintro e w' ⟨rfl, ho, F', bs', hd, hF'⟩
  exact ⟨rfl, h5 w' F' bs' _ _ (Nat.le_refl M) ho hd (fun k hk => (hF' k hk).imp id (fun h => by omega))⟩
theorem stop_o (h : Opens B T w da M d Q) (r a : Int) (ha : a ≤ 9223372036854775807) :
    Calls Try.prog 18 #[.pointer (some ⟨da, 0, none⟩), .int .i64 r, .int .i64 a] w fun e w' => e = .returned (.tuple #[]) ∧ Q w' M (stopD d r a) := by
  obtain ⟨F, bs, h1, h2, h3, h4, h5⟩ := h
  refine (dstop_any h1 r a ha).mono ?_
  rintro e w' ⟨rfl, ho, F', bs', hd, hF'⟩
  exact ⟨rfl, h5 w' F' bs' _ _ (Nat.le_refl M) ho hd (fun k hk => (hF' k hk).imp id (fun h => by omega))⟩
theorem crash_o (h : Opens B T w da M d Q) (hM : M ≤ 900000) {a : Option Addr} {len cap : Nat} {ks : List (List UInt8)} (hks : Txs w a len cap ks) (hF : ∀ g off, len ≠ 0 → a = some ⟨g, off, none⟩ → g < B ∨ T ≤ g) :
    Calls Try.prog 13 #[.pointer (some ⟨da, 0, none⟩), .slice a len cap] w fun e w' => e = .returned (.tuple #[]) ∧ Q w' M (crashD d ks) := by
  obtain ⟨F, bs, h1, h2, h3, h4, h5⟩ := h
  refine (dcrash_any h1 (by omega) hks (fun g off hne hg hk => by have := h2 g hk; rcases hF g off hne hg with h | h <;> omega)).mono ?_
  rintro e w' ⟨rfl, ho, F', bs', hd, hF'⟩
  exact ⟨rfl, h5 w' F' bs' _ _ (Nat.le_refl M) ho hd (fun k hk => (hF' k hk).imp id (fun h => by omega))⟩
end
section
variable {B : Nat} {w : World} {da M : Nat} {d : List Rg}
theorem read_o (h : One B w da M d) (r p : Int) : Calls Try.prog 14 #[.pointer (some ⟨da, 0, none⟩), .int .i64 r, .int .i64 p] w (ReadPost w (readB d r p) (pagedE d r p)) := by
  obtain ⟨F, bs, h1, h2, h3⟩ := h
  exact dread_any h1 r p
theorem loose_o (h : One B w da M d) (hM : M ≤ 900000) (i : Nat) (x : Rg) (hx : d[i]? = some x) : Calls Try.prog 16 #[.pointer (some ⟨da, 0, none⟩), .int .i64 (i : Int)] w (LoosePost w (x.loose.map (·.1))) := by
  obtain ⟨F, bs, h1, h2, h3⟩ := h
  exact dloose_in h1 (by omega) i x hx
theorem down_o (h : One B w da M d) (r : Int) : Calls Try.prog 25 #[.pointer (some ⟨da, 0, none⟩), .int .i64 r] w fun e w' => e = .returned (.bool (downB d r)) ∧ w = w' := by
  obtain ⟨F, bs, h1, h2, h3⟩ := h
  exact ddown_any h1 r
theorem len_o (h : One B w da M d) (r : Int) : Calls Try.prog 28 #[.pointer (some ⟨da, 0, none⟩), .int .i64 r] w fun e w' => e = .returned (.int .i64 (sizeL d r : Int)) ∧ w = w' := by
  obtain ⟨F, bs, h1, h2, h3⟩ := h
  exact dlen_any h1 r
end
/-- What New leaves, when it goes. -/
def NewOk (w : World) (d : List Rg) (e : Ending) (w' : World) : Prop := ∃ db, e = .returned (.tuple #[.pointer (some ⟨db, 0, none⟩), .int .i64 0]) ∧ One w.heap.size w' db 0 d ∧ Below w.heap.size w w'
theorem new_ok {w : World} {a : Option Addr} {len cap : Nat} {l : List Int} (h : Row .i64 w a len cap l) (hl : newOk l = true) : Calls Try.prog 9 #[.slice a len cap] w (NewOk w (newD l)) := by
  refine (dnew_any h).mono ?_
  rintro e w' ⟨hb, hr⟩
  rw [hl, if_pos rfl] at hr
  obtain ⟨F, db, bs, rfl, hd, hF⟩ := hr
  exact ⟨db, rfl, ⟨F, bs, hd, hF, hb.size⟩, hb⟩
def NewTwo (B : Nat) (w : World) (da M : Nat) (d e : List Rg) (en : Ending) (w' : World) : Prop := ∃ db, en = .returned (.tuple #[.pointer (some ⟨db, 0, none⟩), .int .i64 0]) ∧ Two B w' da db M d e ∧ Below w.heap.size w w'
theorem new_two {B : Nat} {w : World} {da M : Nat} {d : List Rg} (h1 : One B w da M d) {a : Option Addr} {len cap : Nat} {l : List Int} (h : Row .i64 w a len cap l) (hl : newOk l = true) : Calls Try.prog 9 #[.slice a len cap] w (NewTwo B w da M d (newD l)) := by
  refine (dnew_any h).mono ?_
  rintro e w' ⟨hb, hr⟩
  rw [hl, if_pos rfl] at hr
  obtain ⟨F, db, bs, rfl, hd, hF⟩ := hr
  exact ⟨db, rfl, Two.mk h1 hb (hd.more (Nat.zero_le M)) hF, hb⟩
end Go.Proofs.Ytopnfpobbemfbaa
