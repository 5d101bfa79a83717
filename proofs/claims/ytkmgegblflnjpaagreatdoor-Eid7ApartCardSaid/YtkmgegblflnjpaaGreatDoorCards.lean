/-
  DERIVED. GIVEN WITH THE SEED: THE CARDS: each row of YtkmgegblflnjpaaGreatDoorRows.lean that lists a variable, with what it lists TIED to the program's text (the seventh form; the later family's looks); each row that meets fmt, with fmt's text TOLD by the authors' own Lean function (tested against real Go, not proved from fmt's source: count such statements apart). THE CARD IS WHAT COUNTS. Prove the row's statement (the work); the ties are given (YtkmgegblflnjpaaGreatDoorTie.lean); close each card by the builder's one call (the guide's Derived/Test/ToyasCard.lean, 'card_holds'). Laid BY PROGRAM, IN A SANDBOX (cutbox-door.mjs). By AI agents, Wed Nov 11 2026. No macro, syntax, notation, axiom, sorry.
-/
import Derived.Test.YtkmgegblflnjpaaGreatDoorRows
import GoSem.ClaimSeven
namespace Go.Proofs.YtkmgegblflnjpaaGreatDoor
namespace Rows

/-- THE TIED CARD OF 'postriderlaw10.Eid7Back'. -/
def eid7BackCard : Claim7 := { stood := { row := eid7BackRow, standIns := [], harness := (true, "c1de17ab3aee7bd6e46fcfc0241a0be035fc76c17976168f0fc6f3365330a5ac"), looks := true }, kinds := [], alts := [], laidByText := true, laidKinds := [.data, .data, .data, .handle, .sentinel, .sentinel, .sentinel, .sentinel, .sentinel, .sentinel, .sentinel, .data, .sentinel, .sentinel], laidTests := true, laidLooks := .later }
def Eid7BackCardSaid : Prop := Claim7.holds Tryz.pinned (.plain (OpenSpec.ofChange eid7BackSpec)) eid7BackCard

/-- THE TIED CARD OF 'postriderlaw10.Eid7Apart'. -/
def eid7ApartCard : Claim7 := { stood := { row := eid7ApartRow, standIns := [], harness := (true, "c1de17ab3aee7bd6e46fcfc0241a0be035fc76c17976168f0fc6f3365330a5ac"), looks := true }, kinds := [], alts := [], laidByText := true, laidKinds := [.data, .data, .data, .handle, .sentinel, .sentinel, .sentinel, .sentinel, .sentinel, .sentinel, .sentinel, .data, .sentinel, .sentinel], laidTests := true, laidLooks := .later }
def Eid7ApartCardSaid : Prop := Claim7.holds Tryz.pinned (.plain (OpenSpec.ofChange eid7ApartSpec)) eid7ApartCard

/-- THE TIED CARD OF 'postriderlaw10.Eid7Bytes'. -/
def eid7BytesCard : Claim7 := { stood := { row := eid7BytesRow, standIns := [], harness := (true, "c1de17ab3aee7bd6e46fcfc0241a0be035fc76c17976168f0fc6f3365330a5ac"), looks := true }, kinds := [], alts := [], laidByText := true, laidKinds := [.data, .data, .data, .handle, .sentinel, .sentinel, .sentinel, .sentinel, .sentinel, .sentinel, .sentinel, .data, .sentinel, .sentinel], laidTests := true, laidLooks := .later }
def Eid7BytesCardSaid : Prop := Claim7.holds Tryz.pinned (.plain (OpenSpec.ofChange eid7BytesSpec)) eid7BytesCard

/-- THE SECOND FORM's CARD OF 'postriderlaw10.Eid7Back'. -/
def eid7BackUptoCard : Claim7 := { stood := { row := eid7BackUptoRow, standIns := [], harness := (true, "c1de17ab3aee7bd6e46fcfc0241a0be035fc76c17976168f0fc6f3365330a5ac"), looks := true }, kinds := [], alts := [], laidByText := true, laidKinds := [.data, .data, .data, .handle, .sentinel, .sentinel, .sentinel, .sentinel, .sentinel, .sentinel, .sentinel, .data, .sentinel, .sentinel], laidTests := true, laidLooks := .later }
def Eid7BackUptoCardSaid : Prop := Claim7.holds Tryz.pinned (.plain (OpenSpec.upto eid7BackSpec)) eid7BackUptoCard

/-- THE SECOND FORM's CARD OF 'postriderlaw10.Eid7Apart'. -/
def eid7ApartUptoCard : Claim7 := { stood := { row := eid7ApartUptoRow, standIns := [], harness := (true, "c1de17ab3aee7bd6e46fcfc0241a0be035fc76c17976168f0fc6f3365330a5ac"), looks := true }, kinds := [], alts := [], laidByText := true, laidKinds := [.data, .data, .data, .handle, .sentinel, .sentinel, .sentinel, .sentinel, .sentinel, .sentinel, .sentinel, .data, .sentinel, .sentinel], laidTests := true, laidLooks := .later }
def Eid7ApartUptoCardSaid : Prop := Claim7.holds Tryz.pinned (.plain (OpenSpec.upto eid7ApartSpec)) eid7ApartUptoCard

/-- THE SECOND FORM's CARD OF 'postriderlaw10.Eid7Bytes'. -/
def eid7BytesUptoCard : Claim7 := { stood := { row := eid7BytesUptoRow, standIns := [], harness := (true, "c1de17ab3aee7bd6e46fcfc0241a0be035fc76c17976168f0fc6f3365330a5ac"), looks := true }, kinds := [], alts := [], laidByText := true, laidKinds := [.data, .data, .data, .handle, .sentinel, .sentinel, .sentinel, .sentinel, .sentinel, .sentinel, .sentinel, .data, .sentinel, .sentinel], laidTests := true, laidLooks := .later }
def Eid7BytesUptoCardSaid : Prop := Claim7.holds Tryz.pinned (.plain (OpenSpec.upto eid7BytesSpec)) eid7BytesUptoCard
end Rows
end Go.Proofs.YtkmgegblflnjpaaGreatDoor
