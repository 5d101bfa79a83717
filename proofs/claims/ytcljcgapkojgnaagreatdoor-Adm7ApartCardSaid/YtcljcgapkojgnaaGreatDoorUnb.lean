/- Chapter 12: acks' trees, 5 to 10. -/
import Derived.Test.YtcljcgapkojgnaaGreatDoorUm
set_option linter.unusedSimpArgs false
set_option linter.unusedVariables false
namespace Go.Sx
open Go.Proofs Go.RowKit
theorem acks_tree5 : (acksRun 5).strip { i := 5 + 1, v := 1 } (pcA 5) = SmA 5 := by kernel_rfl
theorem acks_tree6 : (acksRun 6).strip { i := 6 + 1, v := 1 } (pcA 6) = SmA 6 := by kernel_rfl
theorem acks_tree7 : (acksRun 7).strip { i := 7 + 1, v := 1 } (pcA 7) = SmA 7 := by kernel_rfl
theorem acks_tree8 : (acksRun 8).strip { i := 8 + 1, v := 1 } (pcA 8) = SmA 8 := by kernel_rfl
theorem acks_tree9 : (acksRun 9).strip { i := 9 + 1, v := 1 } (pcA 9) = SmA 9 := by kernel_rfl
theorem acks_tree10 : (acksRun 10).strip { i := 10 + 1, v := 1 } (pcA 10) = SmA 10 := by kernel_rfl
end Go.Sx
