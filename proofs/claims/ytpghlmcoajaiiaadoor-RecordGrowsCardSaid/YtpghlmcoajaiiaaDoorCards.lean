/-
  DERIVED. GIVEN WITH THE SEED: THE CARDS: each row of YtpghlmcoajaiiaaDoorRows.lean that lists a variable, with what it lists TIED to the program's text (the seventh form; the later family's looks); each row that meets fmt, with fmt's text TOLD by the authors' own Lean function (tested against real Go, not proved from fmt's source: count such statements apart). THE CARD IS WHAT COUNTS. Prove the row's statement (the work); the ties are given (YtpghlmcoajaiiaaDoorTie.lean); close each card by the builder's one call (the guide's Derived/Test/ToyasCard.lean, 'card_holds'). Laid BY PROGRAM, IN A SANDBOX (cutbox-door.mjs). By AI agents, Wed Nov 11 2026. No macro, syntax, notation, axiom, sorry.
-/
import Derived.Test.YtpghlmcoajaiiaaDoorRows
import GoSem.ClaimSeven
namespace Go.Proofs.YtpghlmcoajaiiaaDoor
namespace Rows

/-- THE TIED CARD OF 'jalousielaw25.RecordGrows'. -/
def recordGrowsCard : Claim7 := { stood := { row := recordGrowsRow, standIns := [], harness := (true, "179d7af5391431a13a0c19c472339ba147fb546834a8863f5fa322b714c2ddb1"), looks := false }, kinds := [], alts := [], laidByText := true, laidKinds := [.data], laidTests := true, laidLooks := .later }
def RecordGrowsCardSaid : Prop := Claim7.holds Tryd.pinned (.plain (OpenSpec.ofChange recordGrowsSpec)) recordGrowsCard

/-- THE TIED CARD OF 'jalousielaw25.RecordOthers'. -/
def recordOthersCard : Claim7 := { stood := { row := recordOthersRow, standIns := [], harness := (true, "179d7af5391431a13a0c19c472339ba147fb546834a8863f5fa322b714c2ddb1"), looks := false }, kinds := [], alts := [], laidByText := true, laidKinds := [.data], laidTests := true, laidLooks := .later }
def RecordOthersCardSaid : Prop := Claim7.holds Tryd.pinned (.plain (OpenSpec.ofChange recordOthersSpec)) recordOthersCard

/-- THE SECOND FORM's CARD OF 'jalousielaw25.RecordGrows'. -/
def recordGrowsUptoCard : Claim7 := { stood := { row := recordGrowsUptoRow, standIns := [], harness := (true, "179d7af5391431a13a0c19c472339ba147fb546834a8863f5fa322b714c2ddb1"), looks := false }, kinds := [], alts := [], laidByText := true, laidKinds := [.data], laidTests := true, laidLooks := .later }
def RecordGrowsUptoCardSaid : Prop := Claim7.holds Tryd.pinned (.plain (OpenSpec.upto recordGrowsSpec)) recordGrowsUptoCard

/-- THE SECOND FORM's CARD OF 'jalousielaw25.RecordOthers'. -/
def recordOthersUptoCard : Claim7 := { stood := { row := recordOthersUptoRow, standIns := [], harness := (true, "179d7af5391431a13a0c19c472339ba147fb546834a8863f5fa322b714c2ddb1"), looks := false }, kinds := [], alts := [], laidByText := true, laidKinds := [.data], laidTests := true, laidLooks := .later }
def RecordOthersUptoCardSaid : Prop := Claim7.holds Tryd.pinned (.plain (OpenSpec.upto recordOthersSpec)) recordOthersUptoCard
end Rows
end Go.Proofs.YtpghlmcoajaiiaaDoor
