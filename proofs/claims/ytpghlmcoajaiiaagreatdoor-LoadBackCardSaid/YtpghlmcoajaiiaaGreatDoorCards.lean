/-
  DERIVED. GIVEN WITH THE SEED: THE CARDS: each row of YtpghlmcoajaiiaaGreatDoorRows.lean that lists a variable, with what it lists TIED to the program's text (the seventh form; the later family's looks); each row that meets fmt, with fmt's text TOLD by the authors' own Lean function (tested against real Go, not proved from fmt's source: count such statements apart). THE CARD IS WHAT COUNTS. Prove the row's statement (the work); the ties are given (YtpghlmcoajaiiaaGreatDoorTie.lean); close each card by the builder's one call (the guide's Derived/Test/ToyasCard.lean, 'card_holds'). Laid BY PROGRAM, IN A SANDBOX (cutbox-door.mjs). By AI agents, Wed Nov 11 2026. No macro, syntax, notation, axiom, sorry.
-/
import Derived.Test.YtpghlmcoajaiiaaGreatDoorRows
import GoSem.ClaimSeven
namespace Go.Proofs.YtpghlmcoajaiiaaGreatDoor
namespace Rows

/-- THE TIED CARD OF 'jalousielaw20.LoadLoads'. -/
def loadLoadsCard : Claim7 := { stood := { row := loadLoadsRow, standIns := [], harness := (true, "1d92b733ec10fd5d0932df464588e1036434d5fc3566f335ae9ea97d4c666c37"), looks := true }, kinds := [], alts := [], laidByText := true, laidKinds := [.data], laidTests := true, laidLooks := .later }
def LoadLoadsCardSaid : Prop := Claim7.holds Tryz.pinned (.plain (OpenSpec.ofChange loadLoadsSpec)) loadLoadsCard

/-- THE TIED CARD OF 'jalousielaw20.LoadBack'. -/
def loadBackCard : Claim7 := { stood := { row := loadBackRow, standIns := [], harness := (true, "1d92b733ec10fd5d0932df464588e1036434d5fc3566f335ae9ea97d4c666c37"), looks := true }, kinds := [], alts := [], laidByText := true, laidKinds := [.data], laidTests := true, laidLooks := .later }
def LoadBackCardSaid : Prop := Claim7.holds Tryz.pinned (.plain (OpenSpec.ofChange loadBackSpec)) loadBackCard

/-- THE TIED CARD OF 'jalousielaw20.LoadKids'. -/
def loadKidsCard : Claim7 := { stood := { row := loadKidsRow, standIns := [], harness := (true, "1d92b733ec10fd5d0932df464588e1036434d5fc3566f335ae9ea97d4c666c37"), looks := true }, kinds := [], alts := [], laidByText := true, laidKinds := [.data], laidTests := true, laidLooks := .later }
def LoadKidsCardSaid : Prop := Claim7.holds Tryz.pinned (.plain (OpenSpec.ofChange loadKidsSpec)) loadKidsCard

/-- THE TIED CARD OF 'jalousielaw20.LoadOnly'. -/
def loadOnlyCard : Claim7 := { stood := { row := loadOnlyRow, standIns := [], harness := (true, "1d92b733ec10fd5d0932df464588e1036434d5fc3566f335ae9ea97d4c666c37"), looks := true }, kinds := [], alts := [], laidByText := true, laidKinds := [.data], laidTests := true, laidLooks := .later }
def LoadOnlyCardSaid : Prop := Claim7.holds Tryz.pinned (.plain (OpenSpec.ofChange loadOnlySpec)) loadOnlyCard

/-- THE TIED CARD OF 'jalousielaw25.RecordBytes'. -/
def recordBytesCard : Claim7 := { stood := { row := recordBytesRow, standIns := [], harness := (true, "1d92b733ec10fd5d0932df464588e1036434d5fc3566f335ae9ea97d4c666c37"), looks := true }, kinds := [], alts := [], laidByText := true, laidKinds := [.data], laidTests := true, laidLooks := .later }
def RecordBytesCardSaid : Prop := Claim7.holds Tryz.pinned (.plain (OpenSpec.ofChange recordBytesSpec)) recordBytesCard

/-- THE TIED CARD OF 'jalousielaw25.RecordLists'. -/
def recordListsCard : Claim7 := { stood := { row := recordListsRow, standIns := [], harness := (true, "1d92b733ec10fd5d0932df464588e1036434d5fc3566f335ae9ea97d4c666c37"), looks := true }, kinds := [], alts := [], laidByText := true, laidKinds := [.data], laidTests := true, laidLooks := .later }
def RecordListsCardSaid : Prop := Claim7.holds Tryz.pinned (.plain (OpenSpec.ofChange recordListsSpec)) recordListsCard

/-- THE SECOND FORM's CARD OF 'jalousielaw20.LoadLoads'. -/
def loadLoadsUptoCard : Claim7 := { stood := { row := loadLoadsUptoRow, standIns := [], harness := (true, "1d92b733ec10fd5d0932df464588e1036434d5fc3566f335ae9ea97d4c666c37"), looks := true }, kinds := [], alts := [], laidByText := true, laidKinds := [.data], laidTests := true, laidLooks := .later }
def LoadLoadsUptoCardSaid : Prop := Claim7.holds Tryz.pinned (.plain (OpenSpec.upto loadLoadsSpec)) loadLoadsUptoCard

/-- THE SECOND FORM's CARD OF 'jalousielaw20.LoadBack'. -/
def loadBackUptoCard : Claim7 := { stood := { row := loadBackUptoRow, standIns := [], harness := (true, "1d92b733ec10fd5d0932df464588e1036434d5fc3566f335ae9ea97d4c666c37"), looks := true }, kinds := [], alts := [], laidByText := true, laidKinds := [.data], laidTests := true, laidLooks := .later }
def LoadBackUptoCardSaid : Prop := Claim7.holds Tryz.pinned (.plain (OpenSpec.upto loadBackSpec)) loadBackUptoCard

/-- THE SECOND FORM's CARD OF 'jalousielaw20.LoadKids'. -/
def loadKidsUptoCard : Claim7 := { stood := { row := loadKidsUptoRow, standIns := [], harness := (true, "1d92b733ec10fd5d0932df464588e1036434d5fc3566f335ae9ea97d4c666c37"), looks := true }, kinds := [], alts := [], laidByText := true, laidKinds := [.data], laidTests := true, laidLooks := .later }
def LoadKidsUptoCardSaid : Prop := Claim7.holds Tryz.pinned (.plain (OpenSpec.upto loadKidsSpec)) loadKidsUptoCard

/-- THE SECOND FORM's CARD OF 'jalousielaw20.LoadOnly'. -/
def loadOnlyUptoCard : Claim7 := { stood := { row := loadOnlyUptoRow, standIns := [], harness := (true, "1d92b733ec10fd5d0932df464588e1036434d5fc3566f335ae9ea97d4c666c37"), looks := true }, kinds := [], alts := [], laidByText := true, laidKinds := [.data], laidTests := true, laidLooks := .later }
def LoadOnlyUptoCardSaid : Prop := Claim7.holds Tryz.pinned (.plain (OpenSpec.upto loadOnlySpec)) loadOnlyUptoCard

/-- THE SECOND FORM's CARD OF 'jalousielaw25.RecordBytes'. -/
def recordBytesUptoCard : Claim7 := { stood := { row := recordBytesUptoRow, standIns := [], harness := (true, "1d92b733ec10fd5d0932df464588e1036434d5fc3566f335ae9ea97d4c666c37"), looks := true }, kinds := [], alts := [], laidByText := true, laidKinds := [.data], laidTests := true, laidLooks := .later }
def RecordBytesUptoCardSaid : Prop := Claim7.holds Tryz.pinned (.plain (OpenSpec.upto recordBytesSpec)) recordBytesUptoCard

/-- THE SECOND FORM's CARD OF 'jalousielaw25.RecordLists'. -/
def recordListsUptoCard : Claim7 := { stood := { row := recordListsUptoRow, standIns := [], harness := (true, "1d92b733ec10fd5d0932df464588e1036434d5fc3566f335ae9ea97d4c666c37"), looks := true }, kinds := [], alts := [], laidByText := true, laidKinds := [.data], laidTests := true, laidLooks := .later }
def RecordListsUptoCardSaid : Prop := Claim7.holds Tryz.pinned (.plain (OpenSpec.upto recordListsSpec)) recordListsUptoCard
end Rows
end Go.Proofs.YtpghlmcoajaiiaaGreatDoor
