/-
  DERIVED. GIVEN WITH THE SEED: THE CARDS: each row of YtcljcgapkojgnaaGreatDoorRows.lean that lists a variable, with what it lists TIED to the program's text (the seventh form; the later family's looks); each row that meets fmt, with fmt's text TOLD by the authors' own Lean function (tested against real Go, not proved from fmt's source: count such statements apart). THE CARD IS WHAT COUNTS. Prove the row's statement (the work); the ties are given (YtcljcgapkojgnaaGreatDoorTie.lean); close each card by the builder's one call (the guide's Derived/Test/ToyasCard.lean, 'card_holds'). Laid BY PROGRAM, IN A SANDBOX (cutbox-door.mjs). By AI agents, Wed Nov 11 2026. No macro, syntax, notation, axiom, sorry.
-/
import Derived.Test.YtcljcgapkojgnaaGreatDoorRows
import GoSem.ClaimSeven
namespace Go.Proofs.YtcljcgapkojgnaaGreatDoor
namespace Rows

/-- THE TIED CARD OF 'postriderlaw12.Adm7Apart'. -/
def adm7ApartCard : Claim7 := { stood := { row := adm7ApartRow, standIns := [], harness := (true, "aaabb3b08f9f984b4a08ec571a5cd80a1fc56b48212170802b566a434027a45f"), looks := true }, kinds := [], alts := [], laidByText := true, laidKinds := [.data, .data, .data, .handle, .sentinel, .sentinel, .sentinel, .sentinel, .sentinel, .sentinel, .sentinel, .data, .sentinel, .sentinel, .sentinel, .data], laidTests := true, laidLooks := .later }
def Adm7ApartCardSaid : Prop := Claim7.holds Tryz.pinned (.plain (OpenSpec.ofChange adm7ApartSpec)) adm7ApartCard

/-- THE SECOND FORM's CARD OF 'postriderlaw12.Adm7Apart'. -/
def adm7ApartUptoCard : Claim7 := { stood := { row := adm7ApartUptoRow, standIns := [], harness := (true, "aaabb3b08f9f984b4a08ec571a5cd80a1fc56b48212170802b566a434027a45f"), looks := true }, kinds := [], alts := [], laidByText := true, laidKinds := [.data, .data, .data, .handle, .sentinel, .sentinel, .sentinel, .sentinel, .sentinel, .sentinel, .sentinel, .data, .sentinel, .sentinel, .sentinel, .data], laidTests := true, laidLooks := .later }
def Adm7ApartUptoCardSaid : Prop := Claim7.holds Tryz.pinned (.plain (OpenSpec.upto adm7ApartSpec)) adm7ApartUptoCard
end Rows
end Go.Proofs.YtcljcgapkojgnaaGreatDoor
