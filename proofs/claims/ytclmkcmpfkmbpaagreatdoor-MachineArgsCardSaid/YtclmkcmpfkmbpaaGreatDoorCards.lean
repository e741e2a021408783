/-
  DERIVED. GIVEN WITH THE SEED: THE CARDS: each row of YtclmkcmpfkmbpaaGreatDoorRows.lean that lists a variable, with what it lists TIED to the program's text (the seventh form; the later family's looks); each row that meets fmt, with fmt's text TOLD by the authors' own Lean function (tested against real Go, not proved from fmt's source: count such statements apart). THE CARD IS WHAT COUNTS. Prove the row's statement (the work); the ties are given (YtclmkcmpfkmbpaaGreatDoorTie.lean); close each card by the builder's one call (the guide's Derived/Test/ToyasCard.lean, 'card_holds'). Laid BY PROGRAM, IN A SANDBOX (cutbox-door.mjs). By AI agents, Wed Nov 11 2026. No macro, syntax, notation, axiom, sorry.
-/
import Derived.Test.YtclmkcmpfkmbpaaGreatDoorRows
import GoSem.ClaimSeven
namespace Go.Proofs.YtclmkcmpfkmbpaaGreatDoor
namespace Rows

/-- THE TIED CARD OF 'reverielaw21.MachineArgs'. -/
def machineArgsCard : Claim7 := { stood := { row := machineArgsRow, standIns := [], harness := (true, "e011b1ecbf6f7f1caf2acc16fefd0105746ca5c9382fe7b907b023625410ea32"), looks := true }, kinds := [], alts := [], laidByText := true, laidKinds := [.data, .data, .data], laidTests := true, laidLooks := .later }
def MachineArgsCardSaid : Prop := Claim7.holds Tryz.pinned (.plain (OpenSpec.ofChange machineArgsSpec)) machineArgsCard

/-- THE SECOND FORM's CARD OF 'reverielaw21.MachineArgs'. -/
def machineArgsUptoCard : Claim7 := { stood := { row := machineArgsUptoRow, standIns := [], harness := (true, "e011b1ecbf6f7f1caf2acc16fefd0105746ca5c9382fe7b907b023625410ea32"), looks := true }, kinds := [], alts := [], laidByText := true, laidKinds := [.data, .data, .data], laidTests := true, laidLooks := .later }
def MachineArgsUptoCardSaid : Prop := Claim7.holds Tryz.pinned (.plain (OpenSpec.upto machineArgsSpec)) machineArgsUptoCard
end Rows
end Go.Proofs.YtclmkcmpfkmbpaaGreatDoor
