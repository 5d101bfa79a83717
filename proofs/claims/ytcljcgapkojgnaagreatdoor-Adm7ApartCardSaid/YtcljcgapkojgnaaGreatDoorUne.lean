/- Chapter 12: acks' trees, 18 to 20. -/
import Derived.Test.YtcljcgapkojgnaaGreatDoorUm
set_option linter.unusedSimpArgs false
set_option linter.unusedVariables false
namespace Go.Sx
open Go.Proofs Go.RowKit
theorem acks_tree18 : (acksRun 18).strip { i := 18 + 1, v := 1 } (pcA 18) = SmA 18 := by kernel_rfl
theorem acks_tree19 : (acksRun 19).strip { i := 19 + 1, v := 1 } (pcA 19) = SmA 19 := by kernel_rfl
theorem acks_tree20 : (acksRun 20).strip { i := 20 + 1, v := 1 } (pcA 20) = SmA 20 := by kernel_rfl
end Go.Sx
