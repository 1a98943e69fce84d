/- A disk that forgets: plain laws. -/
import Derived.Test.YtopnfpobbemfbaaPag
namespace Go.Proofs.Ytopnfpobbemfbaa

/-- A region. -/
structure Rg where
  size : Nat
  pages : Nat → P128
  loose : List (Nat × P128)
  left : Int
  down : Bool
def Rg.new (n : Nat) : Rg := ⟨n, fun _ => zpage, [], -1, false⟩
instance : Inhabited Rg := ⟨Rg.new 0⟩
/-- What may not be asked of a region. -/
def upE (d : List Rg) (r : Int) : Int :=
  if 0 ≤ r ∧ r < d.length then (if (d[r.toNat]?.getD default).down then 3 else 0) else 2
def atR (d : List Rg) (r : Int) : Rg := d[r.toNat]?.getD default
def pagedE (d : List Rg) (r p : Int) : Int :=
  if upE d r = 0 then (if 0 ≤ p ∧ p < (atR d r).size then 0 else 2) else upE d r
/-- A call that counts. -/
def cntE (x : Rg) : Int := if x.left = 0 then 3 else 0
def cntR (x : Rg) : Rg := if x.left = 0 then { x with down := true } else if 0 < x.left then { x with left := x.left - 1 } else x
/-- A page as it was written last. -/
def lastW (p : Nat) (b : P128) (l : List (Nat × P128)) : P128 := l.foldl (fun b w => if w.1 = p then w.2 else b) b
def seen (x : Rg) (p : Nat) : P128 := lastW p (x.pages p) x.loose
def readB (d : List Rg) (r p : Int) : List UInt8 := if pagedE d r p = 0 then (seen (atR d r) p.toNat).1 else []
def writeE (d : List Rg) (r p : Int) (b : List UInt8) : Int :=
  if pagedE d r p = 0 then (if b.length = 128 then cntE (atR d r) else 1) else pagedE d r p
def wroteR (x : Rg) (p : Nat) (b : P128) : Rg := if cntE x = 0 then { cntR x with loose := x.loose ++ [(p, b)] } else cntR x
def writeD (d : List Rg) (r p : Int) (b : List UInt8) : List Rg :=
  if pagedE d r p = 0 ∧ b.length = 128 then d.set r.toNat (wroteR (atR d r) p.toNat (toP b)) else d
/-- Pages behind some writes. -/
def laid (keep : Nat → Bool) : Nat → List (Nat × P128) → (Nat → P128) → Nat → P128
  | _, [], f => f
  | i, w :: l, f => laid keep (i + 1) l (if keep i then fun q => if q = w.1 then w.2 else f q else f)
def settled (x : Rg) (keep : Nat → Bool) : Rg := { x with pages := laid keep 0 x.loose x.pages, loose := [] }
def syncE (d : List Rg) (r : Int) : Int := if upE d r = 0 then cntE (atR d r) else upE d r
def syncR (x : Rg) : Rg := if cntE x = 0 then settled (cntR x) (fun _ => true) else cntR x
def syncD (d : List Rg) (r : Int) : List Rg := if upE d r = 0 then d.set r.toNat (syncR (atR d r)) else d
def looseL (d : List Rg) (r : Int) : List Nat := if 0 ≤ r ∧ r < d.length then (atR d r).loose.map (·.1) else []
def stopD (d : List Rg) (r after : Int) : List Rg := if 0 ≤ r ∧ r < d.length then d.set r.toNat { atR d r with left := max after (-1) } else d
def downB (d : List Rg) (r : Int) : Bool := if 0 ≤ r ∧ r < d.length then (atR d r).down else false
def sizeL (d : List Rg) (r : Int) : Nat := if 0 ≤ r ∧ r < d.length then (atR d r).size else 0
/-- Is a bit 1? -/
def bitB (s : List UInt8) (i : Nat) : Bool := match s[i / 8]? with | some c => c.toNat / 2 ^ (i % 8) % 2 == 1 | none => false
def keepB (keep : List (List UInt8)) (r i : Nat) : Bool := match keep[r]? with | some s => bitB s i | none => false
def crashR (x : Rg) (keep : Nat → Bool) : Rg := { settled x keep with left := -1, down := false }
def crashD (d : List Rg) (keep : List (List UInt8)) : List Rg := d.mapIdx fun r x => crashR x (keepB keep r)

theorem lastW_snoc (p : Nat) (b : P128) (l : List (Nat × P128)) (w : Nat × P128) : lastW p b (l ++ [w]) = if w.1 = p then w.2 else lastW p b l := by
  simp [lastW]
theorem laid_snoc (keep : Nat → Bool) (i : Nat) (l : List (Nat × P128)) (w : Nat × P128) (f : Nat → P128) :
    laid keep i (l ++ [w]) f = if keep (i + l.length) then (fun q => if q = w.1 then w.2 else laid keep i l f q) else laid keep i l f := by
  induction l generalizing i f with
  | nil => simp [laid]
  | cons x l ih =>
    simp only [List.cons_append, laid, ih, List.length_cons]
    rw [show i + 1 + l.length = i + (l.length + 1) by omega]
end Go.Proofs.Ytopnfpobbemfbaa
