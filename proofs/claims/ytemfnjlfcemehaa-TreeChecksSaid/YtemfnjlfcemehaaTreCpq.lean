/- Whether a cell may stand there, bit by bit: plain. -/
import Derived.Test.YtemfnjlfcemehaaM2
namespace Go.Proofs.Ytemfnjlfcemehaa

theorem dec_len {n : Nat} {b : Nat} : decide (n ≤ b) = !decide ((b : Int) < (n : Int)) := by
  by_cases h : n ≤ b
  · rw [decide_eq_true h, decide_eq_false (by omega)]; rfl
  · rw [decide_eq_false h, decide_eq_true (by omega)]; rfl
theorem beq_nil (k : List UInt8) : (k == []) = decide (k = []) := by
  cases k <;> rfl
theorem fitAt_bools {lo hi k : List UInt8} {leaf : Bool} {ks : List (List UInt8)} {i : Nat} (hk : ks[i]?.getD [] = k) :
    fitAt lo hi leaf ks i = (((i == 0 && !leaf) == decide (k = [])) && (!decide ((16 : Int) < (k.length : Int)) && ((i == 0 || decide (ks[i - 1]?.getD [] < k)) && (((i == 0 && !leaf) || !decide (k < lo)) && (decide (hi = []) || decide (k < hi)))))) := by
  unfold fitAt
  rw [hk, beq_nil, beq_nil, dec_len]
  rfl
theorem fitAt_any {lo hi k kp : List UInt8} {leaf : Bool} {ks : List (List UInt8)} {i : Nat} {F P : Bool} (hk : ks[i]?.getD [] = k) (hp : ks[i - 1]?.getD [] = kp) (hF : (i == 0 && !leaf) = F) (hP : decide ((0 : Int) < (i : Int)) = P) :
    fitAt lo hi leaf ks i = ((F == decide (k = [])) && (!decide ((16 : Int) < (k.length : Int)) && ((!P || !(!decide (kp < k))) && ((F || !decide (k < lo)) && (!(!decide (hi = [])) || !(!decide (k < hi))))))) := by
  have e : (i == 0) = !P := by
    rw [← hP]
    by_cases h : i = 0
    · subst h; rfl
    · rw [decide_eq_true (by omega)]; simpa using h
  rw [fitAt_bools hk, hp, hF, e, Bool.not_not, Bool.not_not, Bool.not_not]
theorem valB_bools {v : Tv} {dl pn nd : Nat} (h1 : v.data.length = dl) (h2 : v.pages.length = pn) (h3 : needC (dl : Int) = nd) :
    valB v = (!decide ((400 : Int) < (dl : Int)) && !(decide ((0 : Int) < (pn : Int)) && decide (nd = 0))) := by
  unfold valB
  rw [h1, h2, h3, dec_len]
  have e : (pn == 0 || decide (nd ≠ 0)) = !(decide ((0 : Int) < (pn : Int)) && decide (nd = 0)) := by
    by_cases hp : pn = 0
    · subst hp; simp
    · have : decide ((0 : Int) < (pn : Int)) = true := decide_eq_true (by omega)
      rw [this]
      by_cases hn : nd = 0 <;> simp [hp, hn]
  rw [e]
  rfl
end Go.Proofs.Ytemfnjlfcemehaa
