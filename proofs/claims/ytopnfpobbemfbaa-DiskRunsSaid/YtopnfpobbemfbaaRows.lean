/-
  No cell of these rows narrows 'for every input' (looked for: loops, veiled, ifaces, maps, wideKeys, modest, calm, conditions, laid).
  DERIVED. THE GIVEN ROWS OF THIS SEAT. 5 by the template 'for every input the law returns true; each argument reads behind the call as it read before'; 0 by the template 'total and deterministic' (their statements: YtopnfpobbemfbaaTotals.lean).
  GIVEN WITH THE SEED: the statements are not yours to turn. If you find one false, say at which input.
  Laid BY PROGRAM, IN A SANDBOX (cutbox-rows.mjs): the forced cells as the released guide's own fill.sh prints them over the translation 21d533665efc0083… (all of the seat's roots in one cut). By AI agents, Wed Nov 11 2026. No macro, syntax, notation, axiom, sorry.
-/
import Derived.Test.YtopnfpobbemfbaaChecked
import GoSem.Claim
import GoSem.ClaimJoined
import GoSem.ClaimMapViews
import Derived.JoinedTies
import Derived.KernelRfl
namespace Go.Proofs.Ytopnfpobbemfbaa
/- THE CELL 'sum', in the pinned program and in every row, IS THE sha256 OF THE DUMP (.gsa) THAT YtopnfpobbemfbaaProg.lean LOADS. Nothing in Lean hashes anything: it is a label: what it is worth is what the hold of that sum in a sandbox is worth. -/
noncomputable def Try.pinned : Pinned := { name := "ytopnfpobbemfbaa", sum := "21d533665efc00839b882ceb20f0be93601b456a23fc0839ade7670926ac8523", checked := Try.checked }
namespace Rows
def none {H : Type} : Left H := { results := [], args := [] }

/-- 'jalousielaw06.DiskStays': WHATEVER THE INPUT: true; the input reads as it did. -/
def diskStaysSpec : ChangeSpec := { name := "diskStays", fn := fun _ => fun
  | [d1, d2, d3] => { results := [.lit (.bool true)], args := [d1, d2, d3] }
  | _ => none }
def diskStaysRow : OpenClaim := { program := "ytopnfpobbemfbaa", sum := "21d533665efc00839b882ceb20f0be93601b456a23fc0839ade7670926ac8523", func := "jalousie/jalousielaw06.DiskStays", spec := "diskStays", unfollowed := true, recurses := true, apart := false }
def DiskStaysSaid : Prop := diskStaysRow.holds Try.pinned (OpenSpec.ofChange diskStaysSpec)

/-- ITS FALSE NEIGHBOUR: 'it returns false'. Refute it at one input. -/
def diskStaysWrong : ChangeSpec := { name := "diskStays", fn := fun _ => fun
  | [d1, d2, d3] => { results := [.lit (.bool false)], args := [d1, d2, d3] }
  | _ => none }
def DiskStaysWrongFalsely : Prop := diskStaysRow.holds Try.pinned (OpenSpec.ofChange diskStaysWrong)

/-- 'jalousielaw06.DiskSyncs': WHATEVER THE INPUT: true; the input reads as it did. -/
def diskSyncsSpec : ChangeSpec := { name := "diskSyncs", fn := fun _ => fun
  | [d] => { results := [.lit (.bool true)], args := [d] }
  | _ => none }
def diskSyncsRow : OpenClaim := { program := "ytopnfpobbemfbaa", sum := "21d533665efc00839b882ceb20f0be93601b456a23fc0839ade7670926ac8523", func := "jalousie/jalousielaw06.DiskSyncs", spec := "diskSyncs", unfollowed := true, recurses := true, apart := false }
def DiskSyncsSaid : Prop := diskSyncsRow.holds Try.pinned (OpenSpec.ofChange diskSyncsSpec)

/-- ITS FALSE NEIGHBOUR: 'it returns false'. Refute it at one input. -/
def diskSyncsWrong : ChangeSpec := { name := "diskSyncs", fn := fun _ => fun
  | [d] => { results := [.lit (.bool false)], args := [d] }
  | _ => none }
def DiskSyncsWrongFalsely : Prop := diskSyncsRow.holds Try.pinned (OpenSpec.ofChange diskSyncsWrong)

/-- 'jalousielaw06.DiskRefuses': WHATEVER THE INPUT: true; the input reads as it did. -/
def diskRefusesSpec : ChangeSpec := { name := "diskRefuses", fn := fun _ => fun
  | [d1, d2] => { results := [.lit (.bool true)], args := [d1, d2] }
  | _ => none }
def diskRefusesRow : OpenClaim := { program := "ytopnfpobbemfbaa", sum := "21d533665efc00839b882ceb20f0be93601b456a23fc0839ade7670926ac8523", func := "jalousie/jalousielaw06.DiskRefuses", spec := "diskRefuses", unfollowed := true, recurses := true, apart := false }
def DiskRefusesSaid : Prop := diskRefusesRow.holds Try.pinned (OpenSpec.ofChange diskRefusesSpec)

/-- ITS FALSE NEIGHBOUR: 'it returns false'. Refute it at one input. -/
def diskRefusesWrong : ChangeSpec := { name := "diskRefuses", fn := fun _ => fun
  | [d1, d2] => { results := [.lit (.bool false)], args := [d1, d2] }
  | _ => none }
def DiskRefusesWrongFalsely : Prop := diskRefusesRow.holds Try.pinned (OpenSpec.ofChange diskRefusesWrong)

/-- 'jalousielaw06.DiskRuns': WHATEVER THE INPUT: true; the input reads as it did. -/
def diskRunsSpec : ChangeSpec := { name := "diskRuns", fn := fun _ => fun
  | [d1, d2] => { results := [.lit (.bool true)], args := [d1, d2] }
  | _ => none }
def diskRunsRow : OpenClaim := { program := "ytopnfpobbemfbaa", sum := "21d533665efc00839b882ceb20f0be93601b456a23fc0839ade7670926ac8523", func := "jalousie/jalousielaw06.DiskRuns", spec := "diskRuns", unfollowed := true, recurses := true, apart := false }
def DiskRunsSaid : Prop := diskRunsRow.holds Try.pinned (OpenSpec.ofChange diskRunsSpec)

/-- ITS FALSE NEIGHBOUR: 'it returns false'. Refute it at one input. -/
def diskRunsWrong : ChangeSpec := { name := "diskRuns", fn := fun _ => fun
  | [d1, d2] => { results := [.lit (.bool false)], args := [d1, d2] }
  | _ => none }
def DiskRunsWrongFalsely : Prop := diskRunsRow.holds Try.pinned (OpenSpec.ofChange diskRunsWrong)

/-- 'jalousielaw06.DiskApart': WHATEVER THE INPUT: true; the input reads as it did. -/
def diskApartSpec : ChangeSpec := { name := "diskApart", fn := fun _ => fun
  | [d1, d2] => { results := [.lit (.bool true)], args := [d1, d2] }
  | _ => none }
def diskApartRow : OpenClaim := { program := "ytopnfpobbemfbaa", sum := "21d533665efc00839b882ceb20f0be93601b456a23fc0839ade7670926ac8523", func := "jalousie/jalousielaw06.DiskApart", spec := "diskApart", unfollowed := true, recurses := true, apart := false }
def DiskApartSaid : Prop := diskApartRow.holds Try.pinned (OpenSpec.ofChange diskApartSpec)

/-- ITS FALSE NEIGHBOUR: 'it returns false'. Refute it at one input. -/
def diskApartWrong : ChangeSpec := { name := "diskApart", fn := fun _ => fun
  | [d1, d2] => { results := [.lit (.bool false)], args := [d1, d2] }
  | _ => none }
def DiskApartWrongFalsely : Prop := diskApartRow.holds Try.pinned (OpenSpec.ofChange diskApartWrong)

/- THE SECOND FORM. 'bulk': how many values and letters a reading holds, each counted each time it is reached (what is shared counts as often as it is met; a slice's spare places count too). A statement '..UptoSaid' is the law's where the arguments, and the package variables that the reading takes, are together of bulk at most 1048576: NARROWER than '..Said'. Prove '..Said' where nothing that the law and all that it calls make is longer than what came in: it says more and counts as full. Else prove '..UptoSaid'. A law counts once. -/
mutual
def uptoBulk {H : Type} : DataW H → Nat
  | .lit (.string bytes) => bytes.length + 1
  | .lit _ => 1
  | .nil => 1
  | .ptr d => uptoBulk d + 1
  | .slice elems spare => uptoBulkAll elems + uptoBulkAll spare + 1
  | .agg parts => uptoBulkAll parts + 1
  | .iface _ d => uptoBulk d + 1
  | .map entries => uptoBulkEntries entries + 1
  | .held _ => 1
def uptoBulkAll {H : Type} : List (DataW H) → Nat
  | [] => 0
  | d :: r => uptoBulk d + uptoBulkAll r
def uptoBulkEntries {H : Type} : List (Lit × DataW H) → Nat
  | [] => 0
  | x :: r => uptoBulkEntry x + uptoBulkEntries r
def uptoBulkEntry {H : Type} : Lit × DataW H → Nat
  | (.string bytes, d) => bytes.length + uptoBulk d + 1
  | (_, d) => uptoBulk d + 1
 end
def uptoSmall : (H : Type) → List (DataW H) → Bool := fun _ ds => decide (uptoBulkAll ds ≤ 1048576)
def OpenSpec.upto (s : _root_.Go.ChangeSpec) : _root_.Go.OpenSpec := { _root_.Go.OpenSpec.ofChange s with cond := some uptoSmall }

/-- 'jalousielaw06.DiskStays', WHERE WHAT IT READS IS OF BULK AT MOST 1048576: true; the input reads as it did. -/
def diskStaysUptoRow : OpenClaim := { program := "ytopnfpobbemfbaa", sum := "21d533665efc00839b882ceb20f0be93601b456a23fc0839ade7670926ac8523", func := "jalousie/jalousielaw06.DiskStays", spec := "diskStays", unfollowed := true, recurses := true, apart := false, narrowed := true }
def DiskStaysUptoSaid : Prop := diskStaysUptoRow.holds Try.pinned (OpenSpec.upto diskStaysSpec)

/-- 'jalousielaw06.DiskSyncs', WHERE WHAT IT READS IS OF BULK AT MOST 1048576: true; the input reads as it did. -/
def diskSyncsUptoRow : OpenClaim := { program := "ytopnfpobbemfbaa", sum := "21d533665efc00839b882ceb20f0be93601b456a23fc0839ade7670926ac8523", func := "jalousie/jalousielaw06.DiskSyncs", spec := "diskSyncs", unfollowed := true, recurses := true, apart := false, narrowed := true }
def DiskSyncsUptoSaid : Prop := diskSyncsUptoRow.holds Try.pinned (OpenSpec.upto diskSyncsSpec)

/-- 'jalousielaw06.DiskRefuses', WHERE WHAT IT READS IS OF BULK AT MOST 1048576: true; the input reads as it did. -/
def diskRefusesUptoRow : OpenClaim := { program := "ytopnfpobbemfbaa", sum := "21d533665efc00839b882ceb20f0be93601b456a23fc0839ade7670926ac8523", func := "jalousie/jalousielaw06.DiskRefuses", spec := "diskRefuses", unfollowed := true, recurses := true, apart := false, narrowed := true }
def DiskRefusesUptoSaid : Prop := diskRefusesUptoRow.holds Try.pinned (OpenSpec.upto diskRefusesSpec)

/-- 'jalousielaw06.DiskRuns', WHERE WHAT IT READS IS OF BULK AT MOST 1048576: true; the input reads as it did. -/
def diskRunsUptoRow : OpenClaim := { program := "ytopnfpobbemfbaa", sum := "21d533665efc00839b882ceb20f0be93601b456a23fc0839ade7670926ac8523", func := "jalousie/jalousielaw06.DiskRuns", spec := "diskRuns", unfollowed := true, recurses := true, apart := false, narrowed := true }
def DiskRunsUptoSaid : Prop := diskRunsUptoRow.holds Try.pinned (OpenSpec.upto diskRunsSpec)

/-- 'jalousielaw06.DiskApart', WHERE WHAT IT READS IS OF BULK AT MOST 1048576: true; the input reads as it did. -/
def diskApartUptoRow : OpenClaim := { program := "ytopnfpobbemfbaa", sum := "21d533665efc00839b882ceb20f0be93601b456a23fc0839ade7670926ac8523", func := "jalousie/jalousielaw06.DiskApart", spec := "diskApart", unfollowed := true, recurses := true, apart := false, narrowed := true }
def DiskApartUptoSaid : Prop := diskApartUptoRow.holds Try.pinned (OpenSpec.upto diskApartSpec)

end Rows
end Go.Proofs.Ytopnfpobbemfbaa
