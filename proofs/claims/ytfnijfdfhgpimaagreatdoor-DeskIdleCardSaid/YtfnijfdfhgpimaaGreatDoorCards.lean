/-
  DERIVED. GIVEN WITH THE SEED: THE CARDS: each row of YtfnijfdfhgpimaaGreatDoorRows.lean that lists a variable, with what it lists TIED to the program's text (the seventh form; the later family's looks); each row that meets fmt, with fmt's text TOLD by the authors' own Lean function (tested against real Go, not proved from fmt's source: count such statements apart). THE CARD IS WHAT COUNTS. Prove the row's statement (the work); the ties are given (YtfnijfdfhgpimaaGreatDoorTie.lean); close each card by the builder's one call (the guide's Derived/Test/ToyasCard.lean, 'card_holds'). Laid BY PROGRAM, IN A SANDBOX (cutbox-door.mjs). By AI agents, Wed Nov 11 2026. No macro, syntax, notation, axiom, sorry.
-/
import Derived.Test.YtfnijfdfhgpimaaGreatDoorRows
import GoSem.ClaimSeven
namespace Go.Proofs.YtfnijfdfhgpimaaGreatDoor
namespace Rows

/-- THE TIED CARD OF 'lockkeeperlaw22.DeskGoes'. -/
def deskGoesCard : Claim7 := { stood := { row := deskGoesRow, standIns := [], harness := (true, "43a77d81664a00aed95f56a3acf144a7d237df1bd2783f42c5568906e9d873eb"), looks := false }, kinds := [], alts := [], goes := true, laidByText := true, laidKinds := [.data, .data, .data, .data, .pinned], laidTests := true, laidLooks := .later }
def DeskGoesCardSaid : Prop := Claim7.holds Tryz.pinned (.plain (OpenSpec.ofChange deskGoesSpec)) deskGoesCard

/-- THE TIED CARD OF 'lockkeeperlaw22.DeskLines'. -/
def deskLinesCard : Claim7 := { stood := { row := deskLinesRow, standIns := [], harness := (true, "43a77d81664a00aed95f56a3acf144a7d237df1bd2783f42c5568906e9d873eb"), looks := false }, kinds := [], alts := [], goes := true, laidByText := true, laidKinds := [.data, .data, .data, .data, .pinned], laidTests := true, laidLooks := .later }
def DeskLinesCardSaid : Prop := Claim7.holds Tryz.pinned (.plain (OpenSpec.ofChange deskLinesSpec)) deskLinesCard

/-- THE TIED CARD OF 'lockkeeperlaw22.DeskWrites'. -/
def deskWritesCard : Claim7 := { stood := { row := deskWritesRow, standIns := [], harness := (true, "43a77d81664a00aed95f56a3acf144a7d237df1bd2783f42c5568906e9d873eb"), looks := false }, kinds := [], alts := [], goes := true, laidByText := true, laidKinds := [.data, .data, .data, .data, .pinned], laidTests := true, laidLooks := .later }
def DeskWritesCardSaid : Prop := Claim7.holds Tryz.pinned (.plain (OpenSpec.ofChange deskWritesSpec)) deskWritesCard

/-- THE TIED CARD OF 'lockkeeperlaw22.DeskWrong'. -/
def deskWrongCard : Claim7 := { stood := { row := deskWrongRow, standIns := [], harness := (true, "43a77d81664a00aed95f56a3acf144a7d237df1bd2783f42c5568906e9d873eb"), looks := false }, kinds := [], alts := [], goes := true, laidByText := true, laidKinds := [.data, .data, .data, .data, .pinned], laidTests := true, laidLooks := .later }
def DeskWrongCardSaid : Prop := Claim7.holds Tryz.pinned (.plain (OpenSpec.ofChange deskWrongSpec)) deskWrongCard

/-- THE TIED CARD OF 'lockkeeperlaw22.DeskLists'. -/
def deskListsCard : Claim7 := { stood := { row := deskListsRow, standIns := [], harness := (true, "43a77d81664a00aed95f56a3acf144a7d237df1bd2783f42c5568906e9d873eb"), looks := false }, kinds := [], alts := [], goes := true, laidByText := true, laidKinds := [.data, .data, .data, .data, .pinned], laidTests := true, laidLooks := .later }
def DeskListsCardSaid : Prop := Claim7.holds Tryz.pinned (.plain (OpenSpec.ofChange deskListsSpec)) deskListsCard

/-- THE TIED CARD OF 'lockkeeperlaw22.DeskLasts'. -/
def deskLastsCard : Claim7 := { stood := { row := deskLastsRow, standIns := [], harness := (true, "43a77d81664a00aed95f56a3acf144a7d237df1bd2783f42c5568906e9d873eb"), looks := false }, kinds := [], alts := [], goes := true, laidByText := true, laidKinds := [.data, .data, .data, .data, .pinned], laidTests := true, laidLooks := .later }
def DeskLastsCardSaid : Prop := Claim7.holds Tryz.pinned (.plain (OpenSpec.ofChange deskLastsSpec)) deskLastsCard

/-- THE TIED CARD OF 'lockkeeperlaw22.DeskIdle'. -/
def deskIdleCard : Claim7 := { stood := { row := deskIdleRow, standIns := [], harness := (true, "43a77d81664a00aed95f56a3acf144a7d237df1bd2783f42c5568906e9d873eb"), looks := false }, kinds := [], alts := [], goes := true, laidByText := true, laidKinds := [.data, .data, .data, .data, .pinned], laidTests := true, laidLooks := .later }
def DeskIdleCardSaid : Prop := Claim7.holds Tryz.pinned (.plain (OpenSpec.ofChange deskIdleSpec)) deskIdleCard

/-- THE SECOND FORM's CARD OF 'lockkeeperlaw22.DeskGoes'. -/
def deskGoesUptoCard : Claim7 := { stood := { row := deskGoesUptoRow, standIns := [], harness := (true, "43a77d81664a00aed95f56a3acf144a7d237df1bd2783f42c5568906e9d873eb"), looks := false }, kinds := [], alts := [], goes := true, laidByText := true, laidKinds := [.data, .data, .data, .data, .pinned], laidTests := true, laidLooks := .later }
def DeskGoesUptoCardSaid : Prop := Claim7.holds Tryz.pinned (.plain (OpenSpec.upto deskGoesSpec)) deskGoesUptoCard

/-- THE SECOND FORM's CARD OF 'lockkeeperlaw22.DeskLines'. -/
def deskLinesUptoCard : Claim7 := { stood := { row := deskLinesUptoRow, standIns := [], harness := (true, "43a77d81664a00aed95f56a3acf144a7d237df1bd2783f42c5568906e9d873eb"), looks := false }, kinds := [], alts := [], goes := true, laidByText := true, laidKinds := [.data, .data, .data, .data, .pinned], laidTests := true, laidLooks := .later }
def DeskLinesUptoCardSaid : Prop := Claim7.holds Tryz.pinned (.plain (OpenSpec.upto deskLinesSpec)) deskLinesUptoCard

/-- THE SECOND FORM's CARD OF 'lockkeeperlaw22.DeskWrites'. -/
def deskWritesUptoCard : Claim7 := { stood := { row := deskWritesUptoRow, standIns := [], harness := (true, "43a77d81664a00aed95f56a3acf144a7d237df1bd2783f42c5568906e9d873eb"), looks := false }, kinds := [], alts := [], goes := true, laidByText := true, laidKinds := [.data, .data, .data, .data, .pinned], laidTests := true, laidLooks := .later }
def DeskWritesUptoCardSaid : Prop := Claim7.holds Tryz.pinned (.plain (OpenSpec.upto deskWritesSpec)) deskWritesUptoCard

/-- THE SECOND FORM's CARD OF 'lockkeeperlaw22.DeskWrong'. -/
def deskWrongUptoCard : Claim7 := { stood := { row := deskWrongUptoRow, standIns := [], harness := (true, "43a77d81664a00aed95f56a3acf144a7d237df1bd2783f42c5568906e9d873eb"), looks := false }, kinds := [], alts := [], goes := true, laidByText := true, laidKinds := [.data, .data, .data, .data, .pinned], laidTests := true, laidLooks := .later }
def DeskWrongUptoCardSaid : Prop := Claim7.holds Tryz.pinned (.plain (OpenSpec.upto deskWrongSpec)) deskWrongUptoCard

/-- THE SECOND FORM's CARD OF 'lockkeeperlaw22.DeskLists'. -/
def deskListsUptoCard : Claim7 := { stood := { row := deskListsUptoRow, standIns := [], harness := (true, "43a77d81664a00aed95f56a3acf144a7d237df1bd2783f42c5568906e9d873eb"), looks := false }, kinds := [], alts := [], goes := true, laidByText := true, laidKinds := [.data, .data, .data, .data, .pinned], laidTests := true, laidLooks := .later }
def DeskListsUptoCardSaid : Prop := Claim7.holds Tryz.pinned (.plain (OpenSpec.upto deskListsSpec)) deskListsUptoCard

/-- THE SECOND FORM's CARD OF 'lockkeeperlaw22.DeskLasts'. -/
def deskLastsUptoCard : Claim7 := { stood := { row := deskLastsUptoRow, standIns := [], harness := (true, "43a77d81664a00aed95f56a3acf144a7d237df1bd2783f42c5568906e9d873eb"), looks := false }, kinds := [], alts := [], goes := true, laidByText := true, laidKinds := [.data, .data, .data, .data, .pinned], laidTests := true, laidLooks := .later }
def DeskLastsUptoCardSaid : Prop := Claim7.holds Tryz.pinned (.plain (OpenSpec.upto deskLastsSpec)) deskLastsUptoCard

/-- THE SECOND FORM's CARD OF 'lockkeeperlaw22.DeskIdle'. -/
def deskIdleUptoCard : Claim7 := { stood := { row := deskIdleUptoRow, standIns := [], harness := (true, "43a77d81664a00aed95f56a3acf144a7d237df1bd2783f42c5568906e9d873eb"), looks := false }, kinds := [], alts := [], goes := true, laidByText := true, laidKinds := [.data, .data, .data, .data, .pinned], laidTests := true, laidLooks := .later }
def DeskIdleUptoCardSaid : Prop := Claim7.holds Tryz.pinned (.plain (OpenSpec.upto deskIdleSpec)) deskIdleUptoCard
end Rows
end Go.Proofs.YtfnijfdfhgpimaaGreatDoor
