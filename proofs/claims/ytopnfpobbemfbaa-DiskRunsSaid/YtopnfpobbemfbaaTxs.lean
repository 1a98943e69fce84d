/- Slices of texts. -/
import Derived.Test.YtopnfpobbemfbaaRec
import Derived.Test.YtopnfpobbemfbaaDskSpec
import Derived.Test.YtopnfpobbemfbaaOwn
namespace Go.Proofs.Ytopnfpobbemfbaa
open Go.RowKit

/-- A slice of texts. -/
def IsTx (cs : List Value) (s : List UInt8) : Prop := cs = [.string (strOf s)]
def Txs (w : World) (a : Option Addr) (len cap : Nat) (l : List (List UInt8)) : Prop := TabR 1 IsTx w a len cap l
theorem Txs.at {w : World} {a : Option Addr} {len cap : Nat} {l : List (List UInt8)} (h : Txs w a len cap l) {k : Nat} (hk : k < len) :
    ∃ b off s, a = some ⟨b, off, none⟩ ∧ b < w.heap.size ∧ l[k]? = some s ∧ w.cell? ⟨b, off + k, none⟩ = some (.string (strOf s)) := by
  obtain ⟨b, off, y, cs, e1, e2, e3, _, e5, e6⟩ := TabR.at h hk
  have e5' : cs = [.string (strOf y)] := e5
  subst e5'
  have := e6 0 _ rfl
  exact ⟨b, off, y, e1, e2, e3, by simpa using this⟩
def strV (s : List UInt8) : Value := .string (strOf s)
theorem fm_sing : ∀ P : List (List UInt8), P.flatMap (fun y => [strV y]) = P.map strV
  | [] => rfl
  | y :: l => by rw [List.flatMap_cons, fm_sing l]; rfl
/-- A row of texts of the call's own reads as one. -/
theorem txs_own2 {w : World} {base : Nat} {v : Value} {ks : List (List UInt8)} (h : w.ownsRow base 9 1 v ks.length (ks.map strV)) : ∃ a cap, v = .slice a ks.length cap ∧ Txs w a ks.length cap ks := by
  obtain ⟨a, cap, e, ht⟩ := TabR.of_own (fun s => [strV s]) (fun _ => rfl) (R := fun cs s => cs = [strV s]) (fun _ => rfl) (l := ks) (by rw [fm_sing]; exact h)
  exact ⟨a, cap, e, ht⟩
theorem info_str2 : (Try.prog.info? 9).map (fun i => (i.zero, i.size, i.bytes)) = some (some (.string ByteArray.empty), 1, 16) := by kernel_rfl
theorem cntR_loose (x : Rg) : (cntR x).loose = x.loose := by unfold cntR; split <;> (try split) <;> rfl
end Go.Proofs.Ytopnfpobbemfbaa
