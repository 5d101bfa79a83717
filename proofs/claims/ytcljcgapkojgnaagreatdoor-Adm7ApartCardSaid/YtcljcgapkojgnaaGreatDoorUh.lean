/- Chapter 12: the first words say 'true', all of them. -/
import Derived.Test.YtcljcgapkojgnaaGreatDoorUg
set_option linter.unusedSimpArgs false
set_option linter.unusedVariables false
namespace Go.Sx
open Go.Proofs Go.RowKit

def rS12 : Row := ⟨4, [], .bool (.bl true)⟩
theorem cS12 : rowChk C12 [rKt, rK0, rPdu] rS12 = true := by kernel_rfl
noncomputable def C12s : Cfg := C12.tab [rS12, rKt, rK0, rPdu]
theorem C12sok : CfgOK C12s := tab_cons (fun _ h => gl12_any h) fKt (rowFact fKt cS12)
end Go.Sx
