/- What a crash asks of a text's bits; the walk of Crash. -/
import Derived.Test.YtopnfpobbemfbaaDskX
import Derived.Test.YtopnfpobbemfbaaTxs
namespace Go.Proofs.Ytopnfpobbemfbaa
open Go.RowKit

theorem bit_u8 : ∀ c : Fin 256, ∀ s : Fin 8, (bits .and .u8 ((c.val : Int) / 2 ^ s.val) 1 == 1) = (c.val / 2 ^ s.val % 2 == 1) := by decide +kernel
set_option maxRecDepth 100000 in
set_option maxHeartbeats 2000000 in
theorem crash1_any {W : World} {pr pk : Nat} {r : Nat} {a : Option Addr} {len cap : Nat} {ks : List (List UInt8)} (hpr : W.cell? ⟨pr, 0, none⟩ = some (.int .i64 (r : Int))) (hpk : W.cell? ⟨pk, 0, none⟩ = some (.slice a len cap)) (hks : Txs W a len cap ks) (i : Nat) (hi : i ≤ 1000000) :
    Calls Try.prog 35 #[.int .i64 (i : Int), .pointer (some ⟨pr, 0, none⟩), .pointer (some ⟨pk, 0, none⟩)] W fun e w' => e = .returned (.bool (keepB ks r i)) ∧ W = w' := by
  have hl : ks.length = len := hks.1
  have hm : cap ≤ 9223372036854775807 := by have := hks.2.2.1; unfold maxLen at this; omega
  have hlc := hks.2.1
  by_cases h1 : r < len
  · obtain ⟨b, off, s, rfl, hb, hs, hc⟩ := hks.at h1
    have hk : keepB ks r i = bitB s i := by rw [keepB, hs]
    have d1 : decide (r < len) = true := by simpa using h1
    have z1 := strOf_size s
    have hst := strOf_toList s
    rw [hk]
    by_cases h2 : i / 8 < s.length
    · have d2 : decide (i / 8 < s.length) = true := by simpa using h2
      have hb : bitB s i = (s[i / 8].toNat / 2 ^ (i % 8) % 2 == 1) := by rw [bitB, List.getElem?_eq_getElem h2]
      have hcl : s[i / 8].toNat < 256 := s[i / 8].toNat_lt
      have hbit := bit_u8 ⟨s[i / 8].toNat, hcl⟩ ⟨i % 8, by omega⟩
      have HB := Lib.hid hb
      have HBIT := Lib.hid hbit
      clear hb hbit hk hks hl
      go_enter Try.func35, Try.ntmps35
      go_wp2_with fail
      go_ret
      have e : (strOf s)[i / 8]'(by rw [strOf_size]; exact h2) = s[i / 8] := by rw [strOf_get s _ h2, List.getElem?_eq_getElem h2]; rfl
      exact ⟨ret_bool (by rw [HB.out, ← HBIT.out, e]), rfl⟩
    · have d2 : decide (i / 8 < s.length) = false := by simpa using h2
      have hb : bitB s i = false := by rw [bitB, List.getElem?_eq_none (by omega)]
      rw [hb]
      clear hb hk hks hl
      go_enter Try.func35, Try.ntmps35
      go_wp2_with fail
      go_ret
      exact ⟨rfl, rfl⟩
  · have hk : keepB ks r i = false := by rw [keepB, List.getElem?_eq_none (by omega)]
    have d1 : decide (r < len) = false := by simpa using h1
    rw [hk]
    clear hk hks hl
    go_enter Try.func35, Try.ntmps35
    go_wp2_with fail
    go_ret
    exact ⟨rfl, rfl⟩

def CrashPost (w : World) (F : List Nat) (db M : Nat) (d : List Rg) (e : Ending) (w' : World) : Prop :=
  e = .returned (.tuple #[]) ∧ Only F w w' ∧ ∃ F' bs', DskIn w' F' db M bs' d ∧ ∀ k ∈ F', k ∈ F ∨ w.heap.size ≤ k
theorem Txs.only {S : List Nat} {w w' : World} {a : Option Addr} {len cap : Nat} {l : List (List UInt8)} (h : Txs w a len cap l) (ho : Only S w w') (hS : ∀ b off, len ≠ 0 → a = some ⟨b, off, none⟩ → b ∉ S) : Txs w' a len cap l := by
  obtain ⟨h1, h2, h3, hn, h4⟩ := h
  refine ⟨h1, h2, h3, hn, ?_⟩
  rcases h4 with h4 | ⟨b, off, h5, h6, h7⟩
  · exact .inl h4
  · exact .inr ⟨b, off, h5, Nat.lt_of_lt_of_le h6 ho.size, fun i y hy => by
      obtain ⟨cs, c1, c2, c3⟩ := h7 i y hy
      exact ⟨cs, c1, c2, fun j v hv => (World.cell?_of_block (ho.block h6 (hS b off (by have := (List.getElem?_eq_some_iff.1 hy).1; omega) h5))).trans (c3 j v hv)⟩⟩
/-- The regions of which so many have begun anew. -/
def crashK (d : List Rg) (ks : List (List UInt8)) (k : Nat) : List Rg := d.mapIdx fun r x => if r < k then crashR x (keepB ks r) else x
theorem crashK_zero (d : List Rg) (ks : List (List UInt8)) : crashK d ks 0 = d := by
  unfold crashK; apply List.ext_getElem? ; intro i; simp [List.getElem?_mapIdx]
theorem crashK_all (d : List Rg) (ks : List (List UInt8)) : crashK d ks d.length = crashD d ks := by
  unfold crashK crashD; apply List.ext_getElem?; intro i
  simp only [List.getElem?_mapIdx]
  by_cases h : i < d.length
  · simp [h]
  · rw [List.getElem?_eq_none (by omega)]; rfl
theorem crashK_length (d : List Rg) (ks : List (List UInt8)) (k : Nat) : (crashK d ks k).length = d.length := by simp [crashK]
theorem crashK_at (d : List Rg) (ks : List (List UInt8)) (k : Nat) (x : Rg) (h : d[k]? = some x) : (crashK d ks k)[k]? = some x := by
  simp [crashK, List.getElem?_mapIdx, h]
theorem crashK_succ (d : List Rg) (ks : List (List UInt8)) (k : Nat) (x : Rg) (h : d[k]? = some x) : (crashK d ks k).set k (crashR x (keepB ks k)) = crashK d ks (k + 1) := by
  have hk := (List.getElem?_eq_some_iff.1 h).1
  apply List.ext_getElem?; intro i
  by_cases e : i = k
  · subst e
    rw [List.getElem?_set_self (by rw [crashK_length]; exact hk)]
    simp [crashK, List.getElem?_mapIdx, h]
  · rw [List.getElem?_set_ne (fun h => e h.symm)]
    simp only [crashK, List.getElem?_mapIdx]
    cases hd : d[i]? with
    | none => rfl
    | some y =>
      simp only [Option.map_some, Option.some.injEq]
      by_cases h1 : i < k
      · rw [if_pos h1, if_pos (by omega)]
      · rw [if_neg h1, if_neg (by omega)]
end Go.Proofs.Ytopnfpobbemfbaa
