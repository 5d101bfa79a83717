/- Chapter 14: the settings of the runs. -/
import Derived.Test.YtcdjmnmcjlpllaaGreatDoorSl
import Derived.Test.YtcdjmnmcjlpllaaGreatDoorProg
import Derived.KernelRfl
set_option linter.unusedSimpArgs false
set_option linter.unusedVariables false
namespace Go.Sx
open Go.Proofs Go.RowKit

def errG : List Nat := [1, 2, 3, 4, 5, 6, 7, 10, 11, 12, 13, 14, 15, 16, 19, 20]
def intsD (l : List Int) : List DV := l.map fun n => .int .i64 (.lit n)
def gl0 : Glob := { l := (8, [DV.iface 226 (.agg [.ptr ⟨.at_ ⟨23, 96, none⟩, .lit 0⟩])]) :: (0, intsD [206, 6, 207, 7, 210, 10]) :: (9, intsD [0, 24, 0, 1, 256, 24, 2, 65536, 25, 4, 4294967296, 26, 8, 281474976710656, 27]) :: errG.map fun i => (i, [DV.iface 275 (.ptr ⟨.av i, .lit 0⟩)]), sep := errG }

/-- What errors.Is and errors.As answer, what bytealg's IndexByteString and abi's NoEscape give. -/
def prim0 (f : FuncId) (ds : List DV) (s : St) : Option (DV × St) :=
  if f == 101 then (match ds with | [d] => some (d, s) | _ => none)
  else if f == 166 then (match ds with | [.str a, .int .u8 b] => some (.int .i64 (mk2 .idx a b), s) | _ => none)
  else if f == 97 then (match ds with
    | [.iface t (.ptr ⟨.av i, .lit 0⟩), .iface u (.ptr ⟨.av j, .lit 0⟩)] => if t == 275 && u == 275 && errG.contains i && errG.contains j then some (.bool (.bl (i == j)), s) else none
    | _ => none)
  else if f == 82 then (match ds with
    | [.iface t (.agg [.int .i64 e]), .iface pt (.ptr ⟨.id i, .lit 0⟩)] => if t == 114 && pt == 151 then (match heapGet s.heap i with
      | some (.cells [_] u (.lit 1)) => if u == 114 then some (.bool (.bl true), { s with heap := (i, .cells [.int .i64 e] 114 (.lit 1)) :: s.heap }) else none
      | _ => none) else none
    | _ => none)
  else none

noncomputable def C0 : Cfg := { P := Tryz.prog, gl := gl0, unroll := 40, prim := prim0 }

def isTrueD : DV → Bool
  | .bool (.bl b) => b
  | _ => false
end Go.Sx
