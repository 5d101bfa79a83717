/- Chapter 12: acks' trees, 11 to 14. -/
import Derived.Test.YtcljcgapkojgnaaGreatDoorUm
set_option linter.unusedSimpArgs false
set_option linter.unusedVariables false
namespace Go.Sx
open Go.Proofs Go.RowKit
theorem acks_tree11 : (acksRun 11).strip { i := 11 + 1, v := 1 } (pcA 11) = SmA 11 := by kernel_rfl
theorem acks_tree12 : (acksRun 12).strip { i := 12 + 1, v := 1 } (pcA 12) = SmA 12 := by kernel_rfl
theorem acks_tree13 : (acksRun 13).strip { i := 13 + 1, v := 1 } (pcA 13) = SmA 13 := by kernel_rfl
theorem acks_tree14 : (acksRun 14).strip { i := 14 + 1, v := 1 } (pcA 14) = SmA 14 := by kernel_rfl
end Go.Sx
