/- Chapter 12: acks' trees, 15 to 17. -/
import Derived.Test.YtcljcgapkojgnaaGreatDoorUm
set_option linter.unusedSimpArgs false
set_option linter.unusedVariables false
namespace Go.Sx
open Go.Proofs Go.RowKit
theorem acks_tree15 : (acksRun 15).strip { i := 15 + 1, v := 1 } (pcA 15) = SmA 15 := by kernel_rfl
theorem acks_tree16 : (acksRun 16).strip { i := 16 + 1, v := 1 } (pcA 16) = SmA 16 := by kernel_rfl
theorem acks_tree17 : (acksRun 17).strip { i := 17 + 1, v := 1 } (pcA 17) = SmA 17 := by kernel_rfl
end Go.Sx
