/- Chapter 12: acks' trees, 21 to 22. -/
import Derived.Test.YtcljcgapkojgnaaGreatDoorUm
set_option linter.unusedSimpArgs false
set_option linter.unusedVariables false
namespace Go.Sx
open Go.Proofs Go.RowKit
theorem acks_tree21 : (acksRun 21).strip { i := 21 + 1, v := 1 } (pcA 21) = SmA 21 := by kernel_rfl
theorem acks_tree22 : (acksRun 22).strip { i := 22 + 1, v := 1 } (pcA 22) = SmA 22 := by kernel_rfl
end Go.Sx
