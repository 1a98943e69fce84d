/- The walks of the chapter on pages of cells: rows of texts held against each other; the document's pages, unpacked. -/
import Derived.Test.YtjdepdgoaopfoaaDoorCelV
import Derived.Test.YtjdepdgoaopfoaaDoorOctB
namespace Go.Proofs.YtjdepdgoaopfoaaDoor
open Go.RowKit

theorem beBytes_beVal (t : List UInt8) : beBytes (beVal t) t.length = t := by
  have key : ∀ r : List UInt8, beBytes (beVal r.reverse) r.reverse.length = r.reverse := by
    intro r
    induction r with
    | nil => rfl
    | cons b r ih =>
      rw [List.reverse_cons, beVal_snoc, List.length_append]
      show beBytes _ (r.reverse.length + 1) = _
      rw [beBytes]
      have hb := b.toNat_lt
      have e1 : (beVal r.reverse * 256 + b.toNat) / 256 = beVal r.reverse := by omega
      have e2 : UInt8.ofNat (beVal r.reverse * 256 + b.toNat) = b := by
        apply UInt8.toNat_inj.1
        rw [UInt8.toNat_ofNat']; omega
      rw [e1, e2, ih]
  have := key t.reverse
  rwa [List.reverse_reverse] at this
theorem be_iff (t : List UInt8) (x : Nat) (hx : x < 256 ^ t.length) : (beBytes x t.length == t) = decide (beVal t = x) := by
  by_cases h : beVal t = x
  · subst h; rw [beBytes_beVal]; simp
  · have : beBytes x t.length ≠ t := by
      intro e
      apply h
      have h2 := beVal_beBytes x t.length
      rw [e, Nat.mod_eq_of_lt hx] at h2
      exact h2
    simp [h, this]

theorem unpack_any (a : Option Addr) (len cap : Nat) (l : List UInt8) (w : World) (h : Bs w a len cap l) (hh : Half w) :
    Calls Tryd.prog 47 #[.slice a len cap] w (UnpPost w (unpK l) (unpL l) (unpE l)) := by
  have hl := h.len
  by_cases h1 : len = 128
  · subst h1
    by_cases h2 : beVal (l.take 4) = crcOf (l.drop 4)
    · refine (unpack_ok a cap l w h hh h2 (min (numS l) 122) (by omega)).mono ?_
      intro e w' hp
      unfold UnpOk at hp
      have hE : unpE l = if unpB l then 0 else 11 := by rw [unpE, if_neg (by omega), if_neg (by simpa using h2)]
      by_cases hB : unpB l = true
      · rw [if_pos (show (okS l (min (numS l) 122) && (fits (kindS l) (cutS l (min (numS l) 122)) && pageOf (kindS l) (cutS l (min (numS l) 122)) == l)) = true from hB)] at hp
        rw [if_pos hB] at hE
        rw [unpK, unpL, hE]; exact hp
      · have hn : ¬ (okS l (min (numS l) 122) && (fits (kindS l) (cutS l (min (numS l) 122)) && pageOf (kindS l) (cutS l (min (numS l) 122)) == l)) = true := hB
        rw [if_neg hn] at hp
        rw [if_neg hB] at hE
        rw [unpK, unpL, hE]; exact hp
    · refine (unpack_sum a cap l w h hh h2).mono ?_
      intro e w' hp
      have hE : unpE l = 12 := by rw [unpE, if_neg (by omega), if_pos h2]
      rw [unpK, unpL, hE]; exact hp
  · refine (unpack_len a len cap l w h h1).mono ?_
    rintro e w' ⟨rfl, rfl⟩
    have hE : unpE l = 1 := by rw [unpE, if_pos (by omega)]
    rw [unpK, unpL, hE]
    exact ⟨_, rfl, OwnBss.nil _ _, Below.refl _ _⟩

/-- The call only reads; it hands back a bool. -/
def DrewB (w : World) (b : Bool) (e : Ending) (w' : World) : Prop := ∃ q : Nat, e = .returned (.bool b) ∧ w' = w.drewN q

set_option maxRecDepth 100000 in
set_option maxHeartbeats 1000000 in
theorem same_any (a b : Option Addr) (n cap m cap2 : Nat) (l r : List (List UInt8)) (w : World) (h : Strs w a n cap l) (h2 : Strs w b m cap2 r) :
    Calls Tryd.prog 30 #[.slice a n cap, .slice b m cap2] w (DrewB w (l == r)) := by
  have hl1 := h.1
  have hl2 := h2.1
  have hm := h.2.2.1
  have hc := h.2.1
  have hm2 := h2.2.2.1
  have hc2 := h2.2.1
  unfold maxLen at hm hm2
  by_cases hnm : n = m
  · subst hnm
    have HL1 := Lib.hid hl1
    have HL2 := Lib.hid hl2
    have hne : ((n : Int) != (n : Int)) = false := by simp
    clear hl1 hl2
    go_enter Tryd.func30, Tryd.ntmps30
    go_wp2
    go_loopw [4, 5] (fun r0 i wr => ∃ k q : Nat, k ≤ n ∧ i = .int .i64 k ∧ r0 = .bool false ∧ l.take k = r.take k ∧ wr = w.drewN q) (fun _ i _ => n - (intOf i).toNat)
    case atStart => exact ⟨0, 0, Nat.zero_le _, rfl, rfl, rfl, rfl⟩
    case round =>
      obtain ⟨k, q, hk, rfl, rfl, htk, rfl⟩ := hrel
      by_cases hlt : k < n
      · obtain ⟨b1, off1, rfl, _, hc1⟩ := h.at hlt
        obtain ⟨b2, off2, rfl, _, hc2⟩ := h2.at hlt
        have t1 := take_snoc l k [] (by rw [HL1.out]; exact hlt)
        have t2 := take_snoc r k [] (by rw [HL2.out]; exact hlt)
        have i1 : l[k]? = some (l[k]?.getD []) := by rw [List.getElem?_eq_getElem (by rw [HL1.out]; exact hlt)]; rfl
        have i2 : r[k]? = some (r[k]?.getD []) := by rw [List.getElem?_eq_getElem (by rw [HL2.out]; exact hlt)]; rfl
        generalize l[k]?.getD [] = x at *
        generalize r[k]?.getD [] = y at *
        have HT := Lib.hid htk
        have T1 := Lib.hid t1
        have T2 := Lib.hid t2
        have I1 := Lib.hid i1
        have I2 := Lib.hid i2
        clear htk t1 t2 i1 i2
        have hst := strOf_toList
        have hc1 : (w.drewN q).cell? ⟨b1, off1 + k, none⟩ = some (.string (strOf x)) := hc1
        have hc2 : (w.drewN q).cell? ⟨b2, off2 + k, none⟩ = some (.string (strOf y)) := hc2
        by_cases hxy : x = y
        · subst hxy
          have hq1 : (x != x) = false := by simp
          have hq2 : (x == x) = true := by simp
          go_wp2_with fail
          go_quiet (fail)
          go_wp2
          go_roundw
          case rel => exact ⟨k + 1, q + nq, by omega, by go_num, rfl, by rw [T1.out, T2.out, HT.out], rfl⟩
          case measure => simp [intOf]; omega
        · have hq1 : (x != y) = true := by simpa using hxy
          have hq2 : (x == y) = false := by simpa using hxy
          have HR : Hid ((l == r) = false) := Lib.hid (by
            rw [beq_eq_false_iff_ne]
            intro e
            have := I1.out
            rw [e, I2.out] at this
            exact hxy (Option.some.inj this).symm)
          clear hxy
          go_wp2_with fail
          go_quiet (fail)
          go_wp2
          go_ret
          exact ⟨q + nq, by rw [HR.out]; rfl, by simp [World.drewN, Nat.add_assoc]⟩
      · obtain rfl : k = n := by omega
        have x1 : l.take k = l := List.take_of_length_le (by rw [HL1.out]; exact Nat.le_refl _)
        have x2 : r.take k = r := List.take_of_length_le (by rw [HL2.out]; exact Nat.le_refl _)
        rw [x1, x2] at htk
        have HR : Hid ((l == r) = true) := Lib.hid (by simpa using htk)
        clear x1 x2 htk
        go_wp2
        go_ret
        exact ⟨q, by rw [HR.out]; rfl, rfl⟩
  · have hne : ((n : Int) != (m : Int)) = true := by simp; omega
    have hne2 : ((n : Int) == (m : Int)) = false := by simp; omega
    have HR : Hid ((l == r) = false) := Lib.hid (by
      rw [beq_eq_false_iff_ne]
      intro e; rw [e] at hl1; omega)
    clear hl1 hl2
    go_enter Tryd.func30, Tryd.ntmps30
    go_wp2
    go_ret
    exact ⟨0, by rw [HR.out]; rfl, rfl⟩

end Go.Proofs.YtjdepdgoaopfoaaDoor
