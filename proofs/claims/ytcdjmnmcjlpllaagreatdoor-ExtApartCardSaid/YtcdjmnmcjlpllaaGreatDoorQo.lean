/- The law ExtApart of chapter 14 returns true for every two 64-bit numbers, and its arguments read afterwards as before: no two types go up to one, and none down to one. Conditions: those of the given row alone (the listed package-level variables read, when the call begins, as the program's text lays them, which the card ties; the row's own cells unfollowed and recurses). -/
import Derived.Test.YtcdjmnmcjlpllaaGreatDoorQn
set_option linter.unusedSimpArgs false
set_option linter.unusedVariables false
namespace Go.Proofs.YtcdjmnmcjlpllaaGreatDoor
open Go

/-- ████ THE STATEMENT ████ -/
theorem proved : Rows.ExtApartCardSaid :=
  Claim7.holds_tied_plain_at .later [] [.data, .data, .data, .handle, .sentinel, .sentinel, .sentinel, .sentinel, .sentinel, .sentinel, .sentinel, .data, .sentinel, .sentinel, .sentinel, .sentinel, .sentinel, .sentinel, .sentinel, .sentinel, .sentinel, .data] true (true, "ebb0a7dfa9c8ae638036b268638e74dcd20e090fefeea21317aefbefaf512b4e") true
    over (fun _ h => by cases h) (by kernel_rfl) (fun _ h => by cases h) extApart_row_tie rfl ⟨rfl, rfl⟩ (by kernel_rfl) rfl
    (fun f fn hf hfn => by
      obtain rfl : f = 3 := Option.some.inj ((show Tryz.prog.funcNamed "postrider/postriderlaw14.ExtApart" = some 3 by kernel_rfl).symm.trans hf) |>.symm
      obtain rfl : fn = Tryz.f3 := (Option.some.inj (Tryz.func3.symm.trans hfn)).symm
      exact ⟨by kernel_rfl, fun j t ht => by
        rw [Tryz.params3] at ht
        have hm : t ∈ [3] := by
          have := Array.mem_of_getElem? ht
          simpa using this
        have hall : ([3].all fun u => !Tryz.prog.wantsStandIn u) = true := by kernel_rfl
        exact (show Tryz.prog.wantsStandIn t = false by simpa using List.all_eq_true.1 hall t hm)⟩)
    (by kernel_rfl)
#print axioms proved
end Go.Proofs.YtcdjmnmcjlpllaaGreatDoor
