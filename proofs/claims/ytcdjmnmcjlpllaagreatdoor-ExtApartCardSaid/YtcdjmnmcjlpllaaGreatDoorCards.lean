/-
  DERIVED. GIVEN WITH THE SEED: THE CARDS: each row of YtcdjmnmcjlpllaaGreatDoorRows.lean that lists a variable, with what it lists TIED to the program's text (the seventh form; the later family's looks); each row that meets fmt, with fmt's text TOLD by the authors' own Lean function (tested against real Go, not proved from fmt's source: count such statements apart). THE CARD IS WHAT COUNTS. Prove the row's statement (the work); the ties are given (YtcdjmnmcjlpllaaGreatDoorTie.lean); close each card by the builder's one call (the guide's Derived/Test/ToyasCard.lean, 'card_holds'). Laid BY PROGRAM, IN A SANDBOX (cutbox-door.mjs). By AI agents, Wed Nov 11 2026. No macro, syntax, notation, axiom, sorry.
-/
import Derived.Test.YtcdjmnmcjlpllaaGreatDoorRows
import GoSem.ClaimSeven
namespace Go.Proofs.YtcdjmnmcjlpllaaGreatDoor
namespace Rows

/-- THE TIED CARD OF 'postriderlaw14.ExtApart'. -/
def extApartCard : Claim7 := { stood := { row := extApartRow, standIns := [], harness := (true, "ebb0a7dfa9c8ae638036b268638e74dcd20e090fefeea21317aefbefaf512b4e"), looks := true }, kinds := [], alts := [], laidByText := true, laidKinds := [.data, .data, .data, .handle, .sentinel, .sentinel, .sentinel, .sentinel, .sentinel, .sentinel, .sentinel, .data, .sentinel, .sentinel, .sentinel, .sentinel, .sentinel, .sentinel, .sentinel, .sentinel, .sentinel, .data], laidTests := true, laidLooks := .later }
def ExtApartCardSaid : Prop := Claim7.holds Tryz.pinned (.plain (OpenSpec.ofChange extApartSpec)) extApartCard

/-- THE SECOND FORM's CARD OF 'postriderlaw14.ExtApart'. -/
def extApartUptoCard : Claim7 := { stood := { row := extApartUptoRow, standIns := [], harness := (true, "ebb0a7dfa9c8ae638036b268638e74dcd20e090fefeea21317aefbefaf512b4e"), looks := true }, kinds := [], alts := [], laidByText := true, laidKinds := [.data, .data, .data, .handle, .sentinel, .sentinel, .sentinel, .sentinel, .sentinel, .sentinel, .sentinel, .data, .sentinel, .sentinel, .sentinel, .sentinel, .sentinel, .sentinel, .sentinel, .sentinel, .sentinel, .data], laidTests := true, laidLooks := .later }
def ExtApartUptoCardSaid : Prop := Claim7.holds Tryz.pinned (.plain (OpenSpec.upto extApartSpec)) extApartUptoCard
end Rows
end Go.Proofs.YtcdjmnmcjlpllaaGreatDoor
