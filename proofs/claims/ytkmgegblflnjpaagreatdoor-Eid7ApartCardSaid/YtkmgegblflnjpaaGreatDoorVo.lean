/- The law Eid7Apart of chapter 10 returns true for every two names, and its arguments read afterwards as before: no two names have the same bytes, and none's begin another one's. Conditions: those of the given row alone (the listed package-level variables read, when the call begins, as the program's text lays them, which the card ties; the row's own cells unfollowed and recurses). -/
import Derived.Test.YtkmgegblflnjpaaGreatDoorVn
set_option linter.unusedSimpArgs false
set_option linter.unusedVariables false
namespace Go.Proofs.YtkmgegblflnjpaaGreatDoor
open Go

/-- ████ THE STATEMENT ████ -/
theorem proved : Rows.Eid7ApartCardSaid :=
  Claim7.holds_tied_plain_at .later [] [.data, .data, .data, .handle, .sentinel, .sentinel, .sentinel, .sentinel, .sentinel, .sentinel, .sentinel, .data, .sentinel, .sentinel] true (true, "c1de17ab3aee7bd6e46fcfc0241a0be035fc76c17976168f0fc6f3365330a5ac") true
    over (fun _ h => by cases h) (by kernel_rfl) (fun _ h => by cases h) eid7Apart_row_tie rfl ⟨rfl, rfl⟩ (by kernel_rfl) rfl
    (fun f fn hf hfn => by
      obtain rfl : f = 4 := Option.some.inj ((show Tryz.prog.funcNamed "postrider/postriderlaw10.Eid7Apart" = some 4 by kernel_rfl).symm.trans hf) |>.symm
      obtain rfl : fn = Tryz.f4 := (Option.some.inj (Tryz.func4.symm.trans hfn)).symm
      exact ⟨by kernel_rfl, fun j t ht => by
        rw [Tryz.params4] at ht
        have hm : t ∈ [23] := by
          have := Array.mem_of_getElem? ht
          simpa using this
        have hall : ([23].all fun u => !Tryz.prog.wantsStandIn u) = true := by kernel_rfl
        exact (show Tryz.prog.wantsStandIn t = false by simpa using List.all_eq_true.1 hall t hm)⟩)
    (by kernel_rfl)
#print axioms proved
end Go.Proofs.YtkmgegblflnjpaaGreatDoor
