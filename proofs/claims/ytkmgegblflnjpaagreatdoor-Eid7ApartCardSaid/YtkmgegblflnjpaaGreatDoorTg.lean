/- Chapter 10: the first words say 'true'. -/
import Derived.Test.YtkmgegblflnjpaaGreatDoorTf
set_option linter.unusedSimpArgs false
set_option linter.unusedVariables false
namespace Go.Sx
open Go.Proofs Go.RowKit

def rS7 : Row := ⟨6, [], .bool (.bl true)⟩
theorem cS7 : rowChk C7 [] rS7 = true := by kernel_rfl
noncomputable def C7s : Cfg := C7.tab [rS7]
theorem C7sok : CfgOK C7s := tab_cons (fun _ h => gl7_any h) (tab_nil C7ok) (rowFact (tab_nil C7ok) cS7)
end Go.Sx
