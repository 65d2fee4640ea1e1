/-
  DERIVED. GIVEN WITH THE SEED: THE CARDS: each row of YtblbdgepocfngaaGreatDoorRows.lean that lists a variable, with what it lists TIED to the program's text (the seventh form; the later family's looks); each row that meets fmt, with fmt's text TOLD by the authors' own Lean function (tested against real Go, not proved from fmt's source: count such statements apart). THE CARD IS WHAT COUNTS. Prove the row's statement (the work); the ties are given (YtblbdgepocfngaaGreatDoorTie.lean); close each card by the builder's one call (the guide's Derived/Test/ToyasCard.lean, 'card_holds'). Laid BY PROGRAM, IN A SANDBOX (cutbox-door.mjs). By AI agents, Wed Nov 11 2026. No macro, syntax, notation, axiom, sorry.
-/
import Derived.Test.YtblbdgepocfngaaGreatDoorRows
import GoSem.ClaimSeven
namespace Go.Proofs.YtblbdgepocfngaaGreatDoor
namespace Rows

/-- THE TIED CARD OF 'tocsinlaw09.RoomNames'. -/
def roomNamesCard : Claim7 := { stood := { row := roomNamesRow, standIns := [], harness := (true, "7f35e60e7fe5c32dff9d69e8626af7d62266f897881573aa3330240d40032349"), looks := true }, kinds := [], alts := [], laidByText := true, laidKinds := [.data, .data, .data, .data, .sentinel, .sentinel, .pinned], laidTests := true, laidLooks := .later }
def RoomNamesCardSaid : Prop := Claim7.holds Tryz.pinned (.plain (OpenSpec.ofChange roomNamesSpec)) roomNamesCard

/-- THE TIED CARD OF 'tocsinlaw09.RoomCreates'. -/
def roomCreatesCard : Claim7 := { stood := { row := roomCreatesRow, standIns := [], harness := (true, "7f35e60e7fe5c32dff9d69e8626af7d62266f897881573aa3330240d40032349"), looks := true }, kinds := [], alts := [], laidByText := true, laidKinds := [.data, .data, .data, .data, .sentinel, .sentinel, .pinned], laidTests := true, laidLooks := .later }
def RoomCreatesCardSaid : Prop := Claim7.holds Tryz.pinned (.plain (OpenSpec.ofChange roomCreatesSpec)) roomCreatesCard

/-- THE TIED CARD OF 'tocsinlaw09.RoomReads'. -/
def roomReadsCard : Claim7 := { stood := { row := roomReadsRow, standIns := [], harness := (true, "7f35e60e7fe5c32dff9d69e8626af7d62266f897881573aa3330240d40032349"), looks := true }, kinds := [], alts := [], laidByText := true, laidKinds := [.data, .data, .data, .data, .sentinel, .sentinel, .pinned], laidTests := true, laidLooks := .later }
def RoomReadsCardSaid : Prop := Claim7.holds Tryz.pinned (.plain (OpenSpec.ofChange roomReadsSpec)) roomReadsCard

/-- THE TIED CARD OF 'tocsinlaw09.RoomMembers'. -/
def roomMembersCard : Claim7 := { stood := { row := roomMembersRow, standIns := [], harness := (true, "7f35e60e7fe5c32dff9d69e8626af7d62266f897881573aa3330240d40032349"), looks := true }, kinds := [], alts := [], laidByText := true, laidKinds := [.data, .data, .data, .data, .sentinel, .sentinel, .pinned], laidTests := true, laidLooks := .later }
def RoomMembersCardSaid : Prop := Claim7.holds Tryz.pinned (.plain (OpenSpec.ofChange roomMembersSpec)) roomMembersCard

/-- THE TIED CARD OF 'tocsinlaw09.RoomLoads'. -/
def roomLoadsCard : Claim7 := { stood := { row := roomLoadsRow, standIns := [], harness := (true, "7f35e60e7fe5c32dff9d69e8626af7d62266f897881573aa3330240d40032349"), looks := true }, kinds := [], alts := [], laidByText := true, laidKinds := [.data, .data, .data, .data, .sentinel, .sentinel, .pinned], laidTests := true, laidLooks := .later }
def RoomLoadsCardSaid : Prop := Claim7.holds Tryz.pinned (.plain (OpenSpec.ofChange roomLoadsSpec)) roomLoadsCard

/-- THE TIED CARD OF 'tocsinlaw09.RoomApplies'. -/
def roomAppliesCard : Claim7 := { stood := { row := roomAppliesRow, standIns := [], harness := (true, "7f35e60e7fe5c32dff9d69e8626af7d62266f897881573aa3330240d40032349"), looks := true }, kinds := [], alts := [], laidByText := true, laidKinds := [.data, .data, .data, .data, .sentinel, .sentinel, .pinned], laidTests := true, laidLooks := .later }
def RoomAppliesCardSaid : Prop := Claim7.holds Tryz.pinned (.plain (OpenSpec.ofChange roomAppliesSpec)) roomAppliesCard

/-- THE SECOND FORM's CARD OF 'tocsinlaw09.RoomNames'. -/
def roomNamesUptoCard : Claim7 := { stood := { row := roomNamesUptoRow, standIns := [], harness := (true, "7f35e60e7fe5c32dff9d69e8626af7d62266f897881573aa3330240d40032349"), looks := true }, kinds := [], alts := [], laidByText := true, laidKinds := [.data, .data, .data, .data, .sentinel, .sentinel, .pinned], laidTests := true, laidLooks := .later }
def RoomNamesUptoCardSaid : Prop := Claim7.holds Tryz.pinned (.plain (OpenSpec.upto roomNamesSpec)) roomNamesUptoCard

/-- THE SECOND FORM's CARD OF 'tocsinlaw09.RoomCreates'. -/
def roomCreatesUptoCard : Claim7 := { stood := { row := roomCreatesUptoRow, standIns := [], harness := (true, "7f35e60e7fe5c32dff9d69e8626af7d62266f897881573aa3330240d40032349"), looks := true }, kinds := [], alts := [], laidByText := true, laidKinds := [.data, .data, .data, .data, .sentinel, .sentinel, .pinned], laidTests := true, laidLooks := .later }
def RoomCreatesUptoCardSaid : Prop := Claim7.holds Tryz.pinned (.plain (OpenSpec.upto roomCreatesSpec)) roomCreatesUptoCard

/-- THE SECOND FORM's CARD OF 'tocsinlaw09.RoomReads'. -/
def roomReadsUptoCard : Claim7 := { stood := { row := roomReadsUptoRow, standIns := [], harness := (true, "7f35e60e7fe5c32dff9d69e8626af7d62266f897881573aa3330240d40032349"), looks := true }, kinds := [], alts := [], laidByText := true, laidKinds := [.data, .data, .data, .data, .sentinel, .sentinel, .pinned], laidTests := true, laidLooks := .later }
def RoomReadsUptoCardSaid : Prop := Claim7.holds Tryz.pinned (.plain (OpenSpec.upto roomReadsSpec)) roomReadsUptoCard

/-- THE SECOND FORM's CARD OF 'tocsinlaw09.RoomMembers'. -/
def roomMembersUptoCard : Claim7 := { stood := { row := roomMembersUptoRow, standIns := [], harness := (true, "7f35e60e7fe5c32dff9d69e8626af7d62266f897881573aa3330240d40032349"), looks := true }, kinds := [], alts := [], laidByText := true, laidKinds := [.data, .data, .data, .data, .sentinel, .sentinel, .pinned], laidTests := true, laidLooks := .later }
def RoomMembersUptoCardSaid : Prop := Claim7.holds Tryz.pinned (.plain (OpenSpec.upto roomMembersSpec)) roomMembersUptoCard

/-- THE SECOND FORM's CARD OF 'tocsinlaw09.RoomLoads'. -/
def roomLoadsUptoCard : Claim7 := { stood := { row := roomLoadsUptoRow, standIns := [], harness := (true, "7f35e60e7fe5c32dff9d69e8626af7d62266f897881573aa3330240d40032349"), looks := true }, kinds := [], alts := [], laidByText := true, laidKinds := [.data, .data, .data, .data, .sentinel, .sentinel, .pinned], laidTests := true, laidLooks := .later }
def RoomLoadsUptoCardSaid : Prop := Claim7.holds Tryz.pinned (.plain (OpenSpec.upto roomLoadsSpec)) roomLoadsUptoCard

/-- THE SECOND FORM's CARD OF 'tocsinlaw09.RoomApplies'. -/
def roomAppliesUptoCard : Claim7 := { stood := { row := roomAppliesUptoRow, standIns := [], harness := (true, "7f35e60e7fe5c32dff9d69e8626af7d62266f897881573aa3330240d40032349"), looks := true }, kinds := [], alts := [], laidByText := true, laidKinds := [.data, .data, .data, .data, .sentinel, .sentinel, .pinned], laidTests := true, laidLooks := .later }
def RoomAppliesUptoCardSaid : Prop := Claim7.holds Tryz.pinned (.plain (OpenSpec.upto roomAppliesSpec)) roomAppliesUptoCard
end Rows
end Go.Proofs.YtblbdgepocfngaaGreatDoor
