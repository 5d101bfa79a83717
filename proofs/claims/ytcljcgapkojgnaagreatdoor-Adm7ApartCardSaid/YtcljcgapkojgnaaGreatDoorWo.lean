/- The law Adm7Apart of chapter 12 returns true for every two pdus and every two acks, and its arguments read afterwards as before: two right pdus, or acks, have the same bytes just if they are the same. Conditions: those of the given row alone (the listed package-level variables read, when the call begins, as the program's text lays them, which the card ties; the row's own cells unfollowed and recurses). -/
import Derived.Test.YtcljcgapkojgnaaGreatDoorWn
set_option linter.unusedSimpArgs false
set_option linter.unusedVariables false
namespace Go.Proofs.YtcljcgapkojgnaaGreatDoor
open Go

/-- ████ THE STATEMENT ████ -/
theorem proved : Rows.Adm7ApartCardSaid :=
  Claim7.holds_tied_plain_at .later [] [.data, .data, .data, .handle, .sentinel, .sentinel, .sentinel, .sentinel, .sentinel, .sentinel, .sentinel, .data, .sentinel, .sentinel, .sentinel, .data] true (true, "aaabb3b08f9f984b4a08ec571a5cd80a1fc56b48212170802b566a434027a45f") true
    over (fun _ h => by cases h) (by kernel_rfl) (fun _ h => by cases h) adm7Apart_row_tie rfl ⟨rfl, rfl⟩ (by kernel_rfl) rfl
    (fun f fn hf hfn => by
      obtain rfl : f = 3 := Option.some.inj ((show Tryz.prog.funcNamed "postrider/postriderlaw12.Adm7Apart" = some 3 by kernel_rfl).symm.trans hf) |>.symm
      obtain rfl : fn = Tryz.f3 := (Option.some.inj (Tryz.func3.symm.trans hfn)).symm
      exact ⟨by kernel_rfl, fun j t ht => by
        rw [Tryz.params3] at ht
        have hm : t ∈ [23, 23, 26, 26] := by
          have := Array.mem_of_getElem? ht
          simpa using this
        have hall : ([23, 23, 26, 26].all fun u => !Tryz.prog.wantsStandIn u) = true := by kernel_rfl
        exact (show Tryz.prog.wantsStandIn t = false by simpa using List.all_eq_true.1 hall t hm)⟩)
    (by kernel_rfl)
#print axioms proved
end Go.Proofs.YtcljcgapkojgnaaGreatDoor
