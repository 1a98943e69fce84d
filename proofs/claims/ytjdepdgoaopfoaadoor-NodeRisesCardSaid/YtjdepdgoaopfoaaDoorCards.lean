/-
  DERIVED. GIVEN WITH THE SEED: THE CARDS: each row of YtjdepdgoaopfoaaDoorRows.lean that lists a variable, with what it lists TIED to the program's text (the seventh form; the later family's looks); each row that meets fmt, with fmt's text TOLD by the authors' own Lean function (tested against real Go, not proved from fmt's source: count such statements apart). THE CARD IS WHAT COUNTS. Prove the row's statement (the work); the ties are given (YtjdepdgoaopfoaaDoorTie.lean); close each card by the builder's one call (the guide's Derived/Test/ToyasCard.lean, 'card_holds'). Laid BY PROGRAM, IN A SANDBOX (cutbox-door.mjs). By AI agents, Wed Nov 11 2026. No macro, syntax, notation, axiom, sorry.
-/
import Derived.Test.YtjdepdgoaopfoaaDoorRows
import GoSem.ClaimSeven
namespace Go.Proofs.YtjdepdgoaopfoaaDoor
namespace Rows

/-- THE TIED CARD OF 'jalousielaw10.MetaPuts'. -/
def metaPutsCard : Claim7 := { stood := { row := metaPutsRow, standIns := [], harness := (true, "9d35d9db5018a82bb974df6f3f875fcaa9b0f620edf23d4e277ba0a87c424d27"), looks := true }, kinds := [], alts := [], laidByText := true, laidKinds := [.data], laidTests := true, laidLooks := .later }
def MetaPutsCardSaid : Prop := Claim7.holds Tryd.pinned (.plain (OpenSpec.ofChange metaPutsSpec)) metaPutsCard

/-- THE TIED CARD OF 'jalousielaw10.MetaNewest'. -/
def metaNewestCard : Claim7 := { stood := { row := metaNewestRow, standIns := [], harness := (true, "9d35d9db5018a82bb974df6f3f875fcaa9b0f620edf23d4e277ba0a87c424d27"), looks := true }, kinds := [], alts := [], laidByText := true, laidKinds := [.data], laidTests := true, laidLooks := .later }
def MetaNewestCardSaid : Prop := Claim7.holds Tryd.pinned (.plain (OpenSpec.ofChange metaNewestSpec)) metaNewestCard

/-- THE TIED CARD OF 'jalousielaw10.MetaFalls'. -/
def metaFallsCard : Claim7 := { stood := { row := metaFallsRow, standIns := [], harness := (true, "9d35d9db5018a82bb974df6f3f875fcaa9b0f620edf23d4e277ba0a87c424d27"), looks := true }, kinds := [], alts := [], laidByText := true, laidKinds := [.data], laidTests := true, laidLooks := .later }
def MetaFallsCardSaid : Prop := Claim7.holds Tryd.pinned (.plain (OpenSpec.ofChange metaFallsSpec)) metaFallsCard

/-- THE TIED CARD OF 'jalousielaw10.MetaOthers'. -/
def metaOthersCard : Claim7 := { stood := { row := metaOthersRow, standIns := [], harness := (true, "9d35d9db5018a82bb974df6f3f875fcaa9b0f620edf23d4e277ba0a87c424d27"), looks := true }, kinds := [], alts := [], laidByText := true, laidKinds := [.data], laidTests := true, laidLooks := .later }
def MetaOthersCardSaid : Prop := Claim7.holds Tryd.pinned (.plain (OpenSpec.ofChange metaOthersSpec)) metaOthersCard

/-- THE TIED CARD OF 'jalousielaw10.MetaDiffers'. -/
def metaDiffersCard : Claim7 := { stood := { row := metaDiffersRow, standIns := [], harness := (true, "9d35d9db5018a82bb974df6f3f875fcaa9b0f620edf23d4e277ba0a87c424d27"), looks := true }, kinds := [], alts := [], laidByText := true, laidKinds := [.data], laidTests := true, laidLooks := .later }
def MetaDiffersCardSaid : Prop := Claim7.holds Tryd.pinned (.plain (OpenSpec.ofChange metaDiffersSpec)) metaDiffersCard

/-- THE TIED CARD OF 'jalousielaw08.NodePuts'. -/
def nodePutsCard : Claim7 := { stood := { row := nodePutsRow, standIns := [], harness := (true, "9d35d9db5018a82bb974df6f3f875fcaa9b0f620edf23d4e277ba0a87c424d27"), looks := true }, kinds := [], alts := [], laidByText := true, laidKinds := [.data], laidTests := true, laidLooks := .later }
def NodePutsCardSaid : Prop := Claim7.holds Tryd.pinned (.plain (OpenSpec.ofChange nodePutsSpec)) nodePutsCard

/-- THE TIED CARD OF 'jalousielaw08.NodeGets'. -/
def nodeGetsCard : Claim7 := { stood := { row := nodeGetsRow, standIns := [], harness := (true, "9d35d9db5018a82bb974df6f3f875fcaa9b0f620edf23d4e277ba0a87c424d27"), looks := true }, kinds := [], alts := [], laidByText := true, laidKinds := [.data], laidTests := true, laidLooks := .later }
def NodeGetsCardSaid : Prop := Claim7.holds Tryd.pinned (.plain (OpenSpec.ofChange nodeGetsSpec)) nodeGetsCard

/-- THE TIED CARD OF 'jalousielaw08.NodeBack'. -/
def nodeBackCard : Claim7 := { stood := { row := nodeBackRow, standIns := [], harness := (true, "9d35d9db5018a82bb974df6f3f875fcaa9b0f620edf23d4e277ba0a87c424d27"), looks := true }, kinds := [], alts := [], laidByText := true, laidKinds := [.data], laidTests := true, laidLooks := .later }
def NodeBackCardSaid : Prop := Claim7.holds Tryd.pinned (.plain (OpenSpec.ofChange nodeBackSpec)) nodeBackCard

/-- THE TIED CARD OF 'jalousielaw08.NodeSizes'. -/
def nodeSizesCard : Claim7 := { stood := { row := nodeSizesRow, standIns := [], harness := (true, "9d35d9db5018a82bb974df6f3f875fcaa9b0f620edf23d4e277ba0a87c424d27"), looks := true }, kinds := [], alts := [], laidByText := true, laidKinds := [.data], laidTests := true, laidLooks := .later }
def NodeSizesCardSaid : Prop := Claim7.holds Tryd.pinned (.plain (OpenSpec.ofChange nodeSizesSpec)) nodeSizesCard

/-- THE TIED CARD OF 'jalousielaw08.NodeRises'. -/
def nodeRisesCard : Claim7 := { stood := { row := nodeRisesRow, standIns := [], harness := (true, "9d35d9db5018a82bb974df6f3f875fcaa9b0f620edf23d4e277ba0a87c424d27"), looks := true }, kinds := [], alts := [], laidByText := true, laidKinds := [.data], laidTests := true, laidLooks := .later }
def NodeRisesCardSaid : Prop := Claim7.holds Tryd.pinned (.plain (OpenSpec.ofChange nodeRisesSpec)) nodeRisesCard

/-- THE SECOND FORM's CARD OF 'jalousielaw10.MetaPuts'. -/
def metaPutsUptoCard : Claim7 := { stood := { row := metaPutsUptoRow, standIns := [], harness := (true, "9d35d9db5018a82bb974df6f3f875fcaa9b0f620edf23d4e277ba0a87c424d27"), looks := true }, kinds := [], alts := [], laidByText := true, laidKinds := [.data], laidTests := true, laidLooks := .later }
def MetaPutsUptoCardSaid : Prop := Claim7.holds Tryd.pinned (.plain (OpenSpec.upto metaPutsSpec)) metaPutsUptoCard

/-- THE SECOND FORM's CARD OF 'jalousielaw10.MetaNewest'. -/
def metaNewestUptoCard : Claim7 := { stood := { row := metaNewestUptoRow, standIns := [], harness := (true, "9d35d9db5018a82bb974df6f3f875fcaa9b0f620edf23d4e277ba0a87c424d27"), looks := true }, kinds := [], alts := [], laidByText := true, laidKinds := [.data], laidTests := true, laidLooks := .later }
def MetaNewestUptoCardSaid : Prop := Claim7.holds Tryd.pinned (.plain (OpenSpec.upto metaNewestSpec)) metaNewestUptoCard

/-- THE SECOND FORM's CARD OF 'jalousielaw10.MetaFalls'. -/
def metaFallsUptoCard : Claim7 := { stood := { row := metaFallsUptoRow, standIns := [], harness := (true, "9d35d9db5018a82bb974df6f3f875fcaa9b0f620edf23d4e277ba0a87c424d27"), looks := true }, kinds := [], alts := [], laidByText := true, laidKinds := [.data], laidTests := true, laidLooks := .later }
def MetaFallsUptoCardSaid : Prop := Claim7.holds Tryd.pinned (.plain (OpenSpec.upto metaFallsSpec)) metaFallsUptoCard

/-- THE SECOND FORM's CARD OF 'jalousielaw10.MetaOthers'. -/
def metaOthersUptoCard : Claim7 := { stood := { row := metaOthersUptoRow, standIns := [], harness := (true, "9d35d9db5018a82bb974df6f3f875fcaa9b0f620edf23d4e277ba0a87c424d27"), looks := true }, kinds := [], alts := [], laidByText := true, laidKinds := [.data], laidTests := true, laidLooks := .later }
def MetaOthersUptoCardSaid : Prop := Claim7.holds Tryd.pinned (.plain (OpenSpec.upto metaOthersSpec)) metaOthersUptoCard

/-- THE SECOND FORM's CARD OF 'jalousielaw10.MetaDiffers'. -/
def metaDiffersUptoCard : Claim7 := { stood := { row := metaDiffersUptoRow, standIns := [], harness := (true, "9d35d9db5018a82bb974df6f3f875fcaa9b0f620edf23d4e277ba0a87c424d27"), looks := true }, kinds := [], alts := [], laidByText := true, laidKinds := [.data], laidTests := true, laidLooks := .later }
def MetaDiffersUptoCardSaid : Prop := Claim7.holds Tryd.pinned (.plain (OpenSpec.upto metaDiffersSpec)) metaDiffersUptoCard

/-- THE SECOND FORM's CARD OF 'jalousielaw08.NodePuts'. -/
def nodePutsUptoCard : Claim7 := { stood := { row := nodePutsUptoRow, standIns := [], harness := (true, "9d35d9db5018a82bb974df6f3f875fcaa9b0f620edf23d4e277ba0a87c424d27"), looks := true }, kinds := [], alts := [], laidByText := true, laidKinds := [.data], laidTests := true, laidLooks := .later }
def NodePutsUptoCardSaid : Prop := Claim7.holds Tryd.pinned (.plain (OpenSpec.upto nodePutsSpec)) nodePutsUptoCard

/-- THE SECOND FORM's CARD OF 'jalousielaw08.NodeGets'. -/
def nodeGetsUptoCard : Claim7 := { stood := { row := nodeGetsUptoRow, standIns := [], harness := (true, "9d35d9db5018a82bb974df6f3f875fcaa9b0f620edf23d4e277ba0a87c424d27"), looks := true }, kinds := [], alts := [], laidByText := true, laidKinds := [.data], laidTests := true, laidLooks := .later }
def NodeGetsUptoCardSaid : Prop := Claim7.holds Tryd.pinned (.plain (OpenSpec.upto nodeGetsSpec)) nodeGetsUptoCard

/-- THE SECOND FORM's CARD OF 'jalousielaw08.NodeBack'. -/
def nodeBackUptoCard : Claim7 := { stood := { row := nodeBackUptoRow, standIns := [], harness := (true, "9d35d9db5018a82bb974df6f3f875fcaa9b0f620edf23d4e277ba0a87c424d27"), looks := true }, kinds := [], alts := [], laidByText := true, laidKinds := [.data], laidTests := true, laidLooks := .later }
def NodeBackUptoCardSaid : Prop := Claim7.holds Tryd.pinned (.plain (OpenSpec.upto nodeBackSpec)) nodeBackUptoCard

/-- THE SECOND FORM's CARD OF 'jalousielaw08.NodeSizes'. -/
def nodeSizesUptoCard : Claim7 := { stood := { row := nodeSizesUptoRow, standIns := [], harness := (true, "9d35d9db5018a82bb974df6f3f875fcaa9b0f620edf23d4e277ba0a87c424d27"), looks := true }, kinds := [], alts := [], laidByText := true, laidKinds := [.data], laidTests := true, laidLooks := .later }
def NodeSizesUptoCardSaid : Prop := Claim7.holds Tryd.pinned (.plain (OpenSpec.upto nodeSizesSpec)) nodeSizesUptoCard

/-- THE SECOND FORM's CARD OF 'jalousielaw08.NodeRises'. -/
def nodeRisesUptoCard : Claim7 := { stood := { row := nodeRisesUptoRow, standIns := [], harness := (true, "9d35d9db5018a82bb974df6f3f875fcaa9b0f620edf23d4e277ba0a87c424d27"), looks := true }, kinds := [], alts := [], laidByText := true, laidKinds := [.data], laidTests := true, laidLooks := .later }
def NodeRisesUptoCardSaid : Prop := Claim7.holds Tryd.pinned (.plain (OpenSpec.upto nodeRisesSpec)) nodeRisesUptoCard
end Rows
end Go.Proofs.YtjdepdgoaopfoaaDoor
