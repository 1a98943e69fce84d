/-
  NARROWER THAN 'FOR EVERY INPUT', by the rows' own cells (each row's printed sentence says how): LoadLoads: laid · LoadBack: laid · LoadKids: laid · LoadOnly: laid · RecordBytes: laid · RecordLists: laid.
  DERIVED. THE GIVEN ROWS OF THIS SEAT. 6 by the template 'for every input the law returns true; each argument reads behind the call as it read before'; 0 by the template 'total and deterministic' (their statements: YtpghlmcoajaiiaaGreatDoorTotals.lean).
  GIVEN WITH THE SEED: the statements are not yours to turn. If you find one false, say at which input.
  Laid BY PROGRAM, IN A SANDBOX (cutbox-rows.mjs): the forced cells as the released guide's own fill.sh prints them over the translation 030ce2c355efa118… (all of the seat's roots in one cut). By AI agents, Wed Nov 11 2026. No macro, syntax, notation, axiom, sorry.
-/
import Derived.Test.YtpghlmcoajaiiaaGreatDoorChecked
import GoSem.Claim
import GoSem.ClaimJoined
import GoSem.ClaimMapViews
import Derived.JoinedTies
import Derived.KernelRfl
namespace Go.Proofs.YtpghlmcoajaiiaaGreatDoor
/- THE CELL 'sum', in the pinned program and in every row, IS THE sha256 OF THE DUMP (.gsa) THAT YtpghlmcoajaiiaaGreatDoorProg.lean LOADS. Nothing in Lean hashes anything: it is a label: what it is worth is what the hold of that sum in a sandbox is worth. -/
noncomputable def Tryz.pinned : Pinned := { name := "ytpghlmcoajaiiaagreatdoor", sum := "030ce2c355efa11891f289484df131056510647762afe93db7726833b56fbf34", checked := Tryz.checked }
namespace Rows
def none {H : Type} : Left H := { results := [], args := [] }

/- WHAT THE LISTED PACKAGE-LEVEL VARIABLES READ AS WHEN THE CALL BEGINS. Each datum BY PROGRAM (the guide's laid-datum.mjs) off the statement by which the dump's own 'gosem.cut.vars' lays the variable. In a bare row this is a premise. The card (YtpghlmcoajaiiaaGreatDoorCards.lean) ties it to the program's text. -/
def laid_jalousie_crc_half {H : Type} : DataW H := .agg [.lit (.int .u32 0), .lit (.int .u32 498536548), .lit (.int .u32 997073096), .lit (.int .u32 651767980), .lit (.int .u32 1994146192), .lit (.int .u32 1802195444), .lit (.int .u32 1303535960), .lit (.int .u32 1342533948), .lit (.int .u32 3988292384), .lit (.int .u32 4027552580), .lit (.int .u32 3604390888), .lit (.int .u32 3412177804), .lit (.int .u32 2607071920), .lit (.int .u32 2262029012), .lit (.int .u32 2685067896), .lit (.int .u32 3183342108)]

/-- 'jalousielaw20.LoadLoads': WHATEVER THE INPUT: true; the input reads as it did. -/
def loadLoadsSpec : ChangeSpec := { name := "loadLoads", fn := fun _ => fun
  | [d1, d2, d3] => { results := [.lit (.bool true)], args := [d1, d2, d3] }
  | _ => none }
def loadLoadsRow : OpenClaim := { program := "ytpghlmcoajaiiaagreatdoor", sum := "030ce2c355efa11891f289484df131056510647762afe93db7726833b56fbf34", func := "jalousie/jalousielaw20.LoadLoads", spec := "loadLoads", unfollowed := true, recurses := true, named := ["jalousie/crc.half"], apart := false, laid := [("jalousie/crc.half", laid_jalousie_crc_half)] }
def LoadLoadsSaid : Prop := loadLoadsRow.holds Tryz.pinned (OpenSpec.ofChange loadLoadsSpec)

/-- ITS FALSE NEIGHBOUR: 'it returns false'. Refute it at one input. -/
def loadLoadsWrong : ChangeSpec := { name := "loadLoads", fn := fun _ => fun
  | [d1, d2, d3] => { results := [.lit (.bool false)], args := [d1, d2, d3] }
  | _ => none }
def LoadLoadsWrongFalsely : Prop := loadLoadsRow.holds Tryz.pinned (OpenSpec.ofChange loadLoadsWrong)

/-- 'jalousielaw20.LoadBack': WHATEVER THE INPUT: true; the input reads as it did. -/
def loadBackSpec : ChangeSpec := { name := "loadBack", fn := fun _ => fun
  | [d1, d2, d3] => { results := [.lit (.bool true)], args := [d1, d2, d3] }
  | _ => none }
def loadBackRow : OpenClaim := { program := "ytpghlmcoajaiiaagreatdoor", sum := "030ce2c355efa11891f289484df131056510647762afe93db7726833b56fbf34", func := "jalousie/jalousielaw20.LoadBack", spec := "loadBack", unfollowed := true, recurses := true, named := ["jalousie/crc.half"], apart := false, laid := [("jalousie/crc.half", laid_jalousie_crc_half)] }
def LoadBackSaid : Prop := loadBackRow.holds Tryz.pinned (OpenSpec.ofChange loadBackSpec)

/-- ITS FALSE NEIGHBOUR: 'it returns false'. Refute it at one input. -/
def loadBackWrong : ChangeSpec := { name := "loadBack", fn := fun _ => fun
  | [d1, d2, d3] => { results := [.lit (.bool false)], args := [d1, d2, d3] }
  | _ => none }
def LoadBackWrongFalsely : Prop := loadBackRow.holds Tryz.pinned (OpenSpec.ofChange loadBackWrong)

/-- 'jalousielaw20.LoadKids': WHATEVER THE INPUT: true; the input reads as it did. -/
def loadKidsSpec : ChangeSpec := { name := "loadKids", fn := fun _ => fun
  | [d1, d2] => { results := [.lit (.bool true)], args := [d1, d2] }
  | _ => none }
def loadKidsRow : OpenClaim := { program := "ytpghlmcoajaiiaagreatdoor", sum := "030ce2c355efa11891f289484df131056510647762afe93db7726833b56fbf34", func := "jalousie/jalousielaw20.LoadKids", spec := "loadKids", unfollowed := true, recurses := true, named := ["jalousie/crc.half"], apart := false, laid := [("jalousie/crc.half", laid_jalousie_crc_half)] }
def LoadKidsSaid : Prop := loadKidsRow.holds Tryz.pinned (OpenSpec.ofChange loadKidsSpec)

/-- ITS FALSE NEIGHBOUR: 'it returns false'. Refute it at one input. -/
def loadKidsWrong : ChangeSpec := { name := "loadKids", fn := fun _ => fun
  | [d1, d2] => { results := [.lit (.bool false)], args := [d1, d2] }
  | _ => none }
def LoadKidsWrongFalsely : Prop := loadKidsRow.holds Tryz.pinned (OpenSpec.ofChange loadKidsWrong)

/-- 'jalousielaw20.LoadOnly': WHATEVER THE INPUT: true; the input reads as it did. -/
def loadOnlySpec : ChangeSpec := { name := "loadOnly", fn := fun _ => fun
  | [d1, d2, d3] => { results := [.lit (.bool true)], args := [d1, d2, d3] }
  | _ => none }
def loadOnlyRow : OpenClaim := { program := "ytpghlmcoajaiiaagreatdoor", sum := "030ce2c355efa11891f289484df131056510647762afe93db7726833b56fbf34", func := "jalousie/jalousielaw20.LoadOnly", spec := "loadOnly", unfollowed := true, recurses := true, named := ["jalousie/crc.half"], apart := false, laid := [("jalousie/crc.half", laid_jalousie_crc_half)] }
def LoadOnlySaid : Prop := loadOnlyRow.holds Tryz.pinned (OpenSpec.ofChange loadOnlySpec)

/-- ITS FALSE NEIGHBOUR: 'it returns false'. Refute it at one input. -/
def loadOnlyWrong : ChangeSpec := { name := "loadOnly", fn := fun _ => fun
  | [d1, d2, d3] => { results := [.lit (.bool false)], args := [d1, d2, d3] }
  | _ => none }
def LoadOnlyWrongFalsely : Prop := loadOnlyRow.holds Tryz.pinned (OpenSpec.ofChange loadOnlyWrong)

/-- 'jalousielaw25.RecordBytes': WHATEVER THE INPUT: true; the input reads as it did. -/
def recordBytesSpec : ChangeSpec := { name := "recordBytes", fn := fun _ => fun
  | [d1, d2, d3] => { results := [.lit (.bool true)], args := [d1, d2, d3] }
  | _ => none }
def recordBytesRow : OpenClaim := { program := "ytpghlmcoajaiiaagreatdoor", sum := "030ce2c355efa11891f289484df131056510647762afe93db7726833b56fbf34", func := "jalousie/jalousielaw25.RecordBytes", spec := "recordBytes", inPlace := ["internal/abi.NoEscape", "internal/bytealg.abigen_runtime_cmpstring", "slices.overlaps[jalousie/view.Bucket]"], unfollowed := true, recurses := true, named := ["jalousie/crc.half"], apart := false, laid := [("jalousie/crc.half", laid_jalousie_crc_half)] }
def RecordBytesSaid : Prop := recordBytesRow.holds Tryz.pinned (OpenSpec.ofChange recordBytesSpec)

/-- ITS FALSE NEIGHBOUR: 'it returns false'. Refute it at one input. -/
def recordBytesWrong : ChangeSpec := { name := "recordBytes", fn := fun _ => fun
  | [d1, d2, d3] => { results := [.lit (.bool false)], args := [d1, d2, d3] }
  | _ => none }
def RecordBytesWrongFalsely : Prop := recordBytesRow.holds Tryz.pinned (OpenSpec.ofChange recordBytesWrong)

/-- 'jalousielaw25.RecordLists': WHATEVER THE INPUT: true; the input reads as it did. -/
def recordListsSpec : ChangeSpec := { name := "recordLists", fn := fun _ => fun
  | [d1, d2, d3] => { results := [.lit (.bool true)], args := [d1, d2, d3] }
  | _ => none }
def recordListsRow : OpenClaim := { program := "ytpghlmcoajaiiaagreatdoor", sum := "030ce2c355efa11891f289484df131056510647762afe93db7726833b56fbf34", func := "jalousie/jalousielaw25.RecordLists", spec := "recordLists", inPlace := ["internal/abi.NoEscape", "internal/bytealg.abigen_runtime_cmpstring", "slices.overlaps[jalousie/view.Bucket]"], unfollowed := true, recurses := true, named := ["jalousie/crc.half"], apart := false, laid := [("jalousie/crc.half", laid_jalousie_crc_half)] }
def RecordListsSaid : Prop := recordListsRow.holds Tryz.pinned (OpenSpec.ofChange recordListsSpec)

/-- ITS FALSE NEIGHBOUR: 'it returns false'. Refute it at one input. -/
def recordListsWrong : ChangeSpec := { name := "recordLists", fn := fun _ => fun
  | [d1, d2, d3] => { results := [.lit (.bool false)], args := [d1, d2, d3] }
  | _ => none }
def RecordListsWrongFalsely : Prop := recordListsRow.holds Tryz.pinned (OpenSpec.ofChange recordListsWrong)

/- THE SECOND FORM. 'bulk': how many values and letters a reading holds, each counted each time it is reached (what is shared counts as often as it is met; a slice's spare places count too). A statement '..UptoSaid' is the law's where the arguments, and the package variables that the reading takes, are together of bulk at most 1048576: NARROWER than '..Said'. Prove '..Said' where nothing that the law and all that it calls make is longer than what came in: it says more and counts as full. Else prove '..UptoSaid'. A law counts once. -/
mutual
def uptoBulk {H : Type} : DataW H → Nat
  | .lit (.string bytes) => bytes.length + 1
  | .lit _ => 1
  | .nil => 1
  | .ptr d => uptoBulk d + 1
  | .slice elems spare => uptoBulkAll elems + uptoBulkAll spare + 1
  | .agg parts => uptoBulkAll parts + 1
  | .iface _ d => uptoBulk d + 1
  | .map entries => uptoBulkEntries entries + 1
  | .held _ => 1
def uptoBulkAll {H : Type} : List (DataW H) → Nat
  | [] => 0
  | d :: r => uptoBulk d + uptoBulkAll r
def uptoBulkEntries {H : Type} : List (Lit × DataW H) → Nat
  | [] => 0
  | x :: r => uptoBulkEntry x + uptoBulkEntries r
def uptoBulkEntry {H : Type} : Lit × DataW H → Nat
  | (.string bytes, d) => bytes.length + uptoBulk d + 1
  | (_, d) => uptoBulk d + 1
 end
def uptoSmall : (H : Type) → List (DataW H) → Bool := fun _ ds => decide (uptoBulkAll ds ≤ 1048576)
def OpenSpec.upto (s : _root_.Go.ChangeSpec) : _root_.Go.OpenSpec := { _root_.Go.OpenSpec.ofChange s with cond := some uptoSmall }

/-- 'jalousielaw20.LoadLoads', WHERE WHAT IT READS IS OF BULK AT MOST 1048576: true; the input reads as it did. -/
def loadLoadsUptoRow : OpenClaim := { program := "ytpghlmcoajaiiaagreatdoor", sum := "030ce2c355efa11891f289484df131056510647762afe93db7726833b56fbf34", func := "jalousie/jalousielaw20.LoadLoads", spec := "loadLoads", unfollowed := true, recurses := true, named := ["jalousie/crc.half"], apart := false, laid := [("jalousie/crc.half", laid_jalousie_crc_half)], narrowed := true }
def LoadLoadsUptoSaid : Prop := loadLoadsUptoRow.holds Tryz.pinned (OpenSpec.upto loadLoadsSpec)

/-- 'jalousielaw20.LoadBack', WHERE WHAT IT READS IS OF BULK AT MOST 1048576: true; the input reads as it did. -/
def loadBackUptoRow : OpenClaim := { program := "ytpghlmcoajaiiaagreatdoor", sum := "030ce2c355efa11891f289484df131056510647762afe93db7726833b56fbf34", func := "jalousie/jalousielaw20.LoadBack", spec := "loadBack", unfollowed := true, recurses := true, named := ["jalousie/crc.half"], apart := false, laid := [("jalousie/crc.half", laid_jalousie_crc_half)], narrowed := true }
def LoadBackUptoSaid : Prop := loadBackUptoRow.holds Tryz.pinned (OpenSpec.upto loadBackSpec)

/-- 'jalousielaw20.LoadKids', WHERE WHAT IT READS IS OF BULK AT MOST 1048576: true; the input reads as it did. -/
def loadKidsUptoRow : OpenClaim := { program := "ytpghlmcoajaiiaagreatdoor", sum := "030ce2c355efa11891f289484df131056510647762afe93db7726833b56fbf34", func := "jalousie/jalousielaw20.LoadKids", spec := "loadKids", unfollowed := true, recurses := true, named := ["jalousie/crc.half"], apart := false, laid := [("jalousie/crc.half", laid_jalousie_crc_half)], narrowed := true }
def LoadKidsUptoSaid : Prop := loadKidsUptoRow.holds Tryz.pinned (OpenSpec.upto loadKidsSpec)

/-- 'jalousielaw20.LoadOnly', WHERE WHAT IT READS IS OF BULK AT MOST 1048576: true; the input reads as it did. -/
def loadOnlyUptoRow : OpenClaim := { program := "ytpghlmcoajaiiaagreatdoor", sum := "030ce2c355efa11891f289484df131056510647762afe93db7726833b56fbf34", func := "jalousie/jalousielaw20.LoadOnly", spec := "loadOnly", unfollowed := true, recurses := true, named := ["jalousie/crc.half"], apart := false, laid := [("jalousie/crc.half", laid_jalousie_crc_half)], narrowed := true }
def LoadOnlyUptoSaid : Prop := loadOnlyUptoRow.holds Tryz.pinned (OpenSpec.upto loadOnlySpec)

/-- 'jalousielaw25.RecordBytes', WHERE WHAT IT READS IS OF BULK AT MOST 1048576: true; the input reads as it did. -/
def recordBytesUptoRow : OpenClaim := { program := "ytpghlmcoajaiiaagreatdoor", sum := "030ce2c355efa11891f289484df131056510647762afe93db7726833b56fbf34", func := "jalousie/jalousielaw25.RecordBytes", spec := "recordBytes", inPlace := ["internal/abi.NoEscape", "internal/bytealg.abigen_runtime_cmpstring", "slices.overlaps[jalousie/view.Bucket]"], unfollowed := true, recurses := true, named := ["jalousie/crc.half"], apart := false, laid := [("jalousie/crc.half", laid_jalousie_crc_half)], narrowed := true }
def RecordBytesUptoSaid : Prop := recordBytesUptoRow.holds Tryz.pinned (OpenSpec.upto recordBytesSpec)

/-- 'jalousielaw25.RecordLists', WHERE WHAT IT READS IS OF BULK AT MOST 1048576: true; the input reads as it did. -/
def recordListsUptoRow : OpenClaim := { program := "ytpghlmcoajaiiaagreatdoor", sum := "030ce2c355efa11891f289484df131056510647762afe93db7726833b56fbf34", func := "jalousie/jalousielaw25.RecordLists", spec := "recordLists", inPlace := ["internal/abi.NoEscape", "internal/bytealg.abigen_runtime_cmpstring", "slices.overlaps[jalousie/view.Bucket]"], unfollowed := true, recurses := true, named := ["jalousie/crc.half"], apart := false, laid := [("jalousie/crc.half", laid_jalousie_crc_half)], narrowed := true }
def RecordListsUptoSaid : Prop := recordListsUptoRow.holds Tryz.pinned (OpenSpec.upto recordListsSpec)

end Rows
end Go.Proofs.YtpghlmcoajaiiaaGreatDoor
