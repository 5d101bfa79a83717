/- Chapter 12: the first words say 'true'. -/
import Derived.Test.YtcljcgapkojgnaaGreatDoorUf
set_option linter.unusedSimpArgs false
set_option linter.unusedVariables false
namespace Go.Sx
open Go.Proofs Go.RowKit

def rK0 : Row := ⟨11, [.str (.sl [])], .int .i64 (.lit 0)⟩
def rKt : Row := ⟨11, [.str (.sl [130, 3, 131, 3, 9, 65, 97])], .int .i64 (.lit 3)⟩
theorem cK0 : rowChk C12 [rPdu] rK0 = true := by kernel_rfl
theorem fK0 : CfgOK (C12.tab [rK0, rPdu]) := tab_cons (fun _ h => gl12_any h) fPdu (rowFact fPdu cK0)
theorem cKt : rowChk C12 [rK0, rPdu] rKt = true := by kernel_rfl
theorem fKt : CfgOK (C12.tab [rKt, rK0, rPdu]) := tab_cons (fun _ h => gl12_any h) fK0 (rowFact fK0 cKt)
end Go.Sx
