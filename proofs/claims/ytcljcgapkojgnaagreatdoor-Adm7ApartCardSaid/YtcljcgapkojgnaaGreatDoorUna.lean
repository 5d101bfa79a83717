/- Chapter 12: acks' trees, 0 to 4. -/
import Derived.Test.YtcljcgapkojgnaaGreatDoorUm
set_option linter.unusedSimpArgs false
set_option linter.unusedVariables false
namespace Go.Sx
open Go.Proofs Go.RowKit
theorem acks_tree0 : (acksRun 0).strip { i := 0 + 1, v := 1 } (pcA 0) = SmA 0 := by kernel_rfl
theorem acks_tree1 : (acksRun 1).strip { i := 1 + 1, v := 1 } (pcA 1) = SmA 1 := by kernel_rfl
theorem acks_tree2 : (acksRun 2).strip { i := 2 + 1, v := 1 } (pcA 2) = SmA 2 := by kernel_rfl
theorem acks_tree3 : (acksRun 3).strip { i := 3 + 1, v := 1 } (pcA 3) = SmA 3 := by kernel_rfl
theorem acks_tree4 : (acksRun 4).strip { i := 4 + 1, v := 1 } (pcA 4) = SmA 4 := by kernel_rfl
end Go.Sx
