/- Chapter 14: errors.As at an error of the package item (after the worked proof Toyas). -/
import Derived.Test.YtcdjmnmcjlpllaaGreatDoorQi
set_option linter.unusedSimpArgs false
set_option linter.unusedVariables false
namespace Go.Sx
open Go.Proofs Go.RowKit Go.Extern.Stop Go.Stop Go.Extern

abbrev X.h (t : Nat) : Value := .pointer (some ⟨23, t, none⟩)
theorem X.valueOf151 (t : Addr) (w : World) : (X.entry 107 #[.iface 151 (.pointer (some t))]).run Tryz.prog w
    = .ok (.agg #[.pointer (some ⟨23, 151, none⟩), .pointer (some ⟨w.heap.size, 0, none⟩), .int .u64 150]) (w.alloc (.cells #[.pointer (some t)] 151)) := by kernel_rfl
theorem X.type151 (a : Addr) (w : World) : (X.entry 108 #[.agg #[.pointer (some ⟨23, 151, none⟩), .pointer (some a), .int .u64 150]]).run Tryz.prog w = .ok (.iface 226 (.agg #[.pointer (some ⟨23, 151, none⟩)])) w := by kernel_rfl
theorem X.methodKind (h : Value) (w : World) : (Go.method 407 226 (.agg #[h]) "Kind").run Tryz.prog w = .ok (187, h) w := by kernel_rfl
theorem X.kind151 (w : World) : (X.entry 187 #[.pointer (some ⟨23, 151, none⟩)]).run Tryz.prog w = .ok (.int .u8 22) w := by kernel_rfl
theorem X.kind114 (w : World) : (X.entry 187 #[.pointer (some ⟨23, 114, none⟩)]).run Tryz.prog w = .ok (.int .u8 25) w := by kernel_rfl
theorem X.e109 : X.entry 109 = ReflectliteValue.method (ReflectliteValue.valueError "reflectlite.Value.IsNil" 0) ReflectliteValue.isNil := by kernel_rfl
theorem X.e133 : X.entry 133 = ReflectliteValue.method (ReflectliteValue.valueError "reflectlite.Value.Elem" 0) ReflectliteValue.elem := by kernel_rfl
theorem X.e134 : X.entry 134 = ReflectliteValue.set := by kernel_rfl
theorem X.rlm (z : Sem Value) (f : TypeId → Addr → Nat → Nat → Sem Value) (v : Value) :
    ReflectliteValue.method z f #[v] = (do match ← ReflectliteValue.parts v with | none => z | some (t, a, fl) => f t a fl (fl % 32)) := rfl
theorem X.parts151 (a : Addr) (w : World) : (ReflectliteValue.parts (.agg #[.pointer (some ⟨23, 151, none⟩), .pointer (some a), .int .u64 150])).run Tryz.prog w = .ok (some (151, a, 150)) w := by kernel_rfl
theorem X.isNil151 (a p : Addr) (W : World) (ha : W.cell? a = some (.pointer (some p))) :
    (X.entry 109 #[.agg #[.pointer (some ⟨23, 151, none⟩), .pointer (some a), .int .u64 150]]).run Tryz.prog W = .ok (.bool false) W := by
  rw [X.e109, X.rlm]
  simp only [Sem.run_bind, X.parts151, Result.andThen]
  simp [ReflectliteValue.isNil, loadVar, isAgg, underlying, Tryz.underlying151, ha, Result.andThen]
theorem X.methodElem (h : Value) (w : World) : (Go.method 407 226 (.agg #[h]) "Elem").run Tryz.prog w = .ok (198, .agg #[h]) w := by kernel_rfl
theorem X.methodImplements (h : Value) (w : World) : (Go.method 407 226 (.agg #[h]) "Implements").run Tryz.prog w = .ok (199, .agg #[h]) w := by kernel_rfl
theorem X.methodAssignableTo (h : Value) (w : World) : (Go.method 407 226 (.agg #[h]) "AssignableTo").run Tryz.prog w = .ok (196, .agg #[h]) w := by kernel_rfl
theorem X.elem151 (w : World) : (X.entry 198 #[.agg #[.pointer (some ⟨23, 151, none⟩)]]).run Tryz.prog w = .ok (.iface 226 (.agg #[.pointer (some ⟨23, 114, none⟩)])) w := by kernel_rfl
theorem X.implements114 (w : World) : (X.entry 199 #[.agg #[.pointer (some ⟨23, 114, none⟩)], .iface 226 (.agg #[.pointer (some ⟨23, 96, none⟩)])]).run Tryz.prog w = .ok (.bool true) w := by kernel_rfl
theorem X.typeOf114 (v : Value) (w : World) : (X.entry 120 #[.iface 114 v]).run Tryz.prog w = .ok (.iface 226 (.agg #[.pointer (some ⟨23, 114, none⟩)])) w := by kernel_rfl
theorem X.assignable114 (w : World) : (X.entry 196 #[.agg #[.pointer (some ⟨23, 114, none⟩)], .iface 226 (.agg #[.pointer (some ⟨23, 114, none⟩)])]).run Tryz.prog w = .ok (.bool true) w := by kernel_rfl
theorem X.valueOf114 (e : Int) (w : World) : (X.entry 107 #[.iface 114 (.agg #[.int .i64 e])]).run Tryz.prog w
    = .ok (.agg #[.pointer (some ⟨23, 114, none⟩), .pointer (some ⟨w.heap.size, 0, none⟩), .int .u64 153]) (w.alloc (.cells #[.int .i64 e] 114)) := by kernel_rfl
theorem X.elemOf151 (w : World) : (Rtype.elem? 151).run Tryz.prog w = .ok (some 114) w := by kernel_rfl
theorem X.mk114 (p : Addr) (w : World) : (ReflectliteValue.mk 114 p ReflectliteValue.flagAddr).run Tryz.prog w = .ok (.agg #[.pointer (some ⟨23, 114, none⟩), .pointer (some p), .int .u64 409]) w := by kernel_rfl
theorem X.elemV151 (a p : Addr) (W : World) (ha : W.cell? a = some (.pointer (some p))) :
    (X.entry 133 #[.agg #[.pointer (some ⟨23, 151, none⟩), .pointer (some a), .int .u64 150]]).run Tryz.prog W = .ok (.agg #[.pointer (some ⟨23, 114, none⟩), .pointer (some p), .int .u64 409]) W := by
  rw [X.e133, X.rlm]
  simp only [Sem.run_bind, X.parts151, Result.andThen]
  simp [ReflectliteValue.elem, loadVar, isAgg, underlying, Tryz.underlying151, ha, Result.andThen, X.elemOf151, X.mk114]
theorem X.parts114a (a : Addr) (w : World) : (ReflectliteValue.parts (.agg #[.pointer (some ⟨23, 114, none⟩), .pointer (some a), .int .u64 409])).run Tryz.prog w = .ok (some (114, a, 409)) w := by kernel_rfl
theorem X.parts114 (a : Addr) (w : World) : (ReflectliteValue.parts (.agg #[.pointer (some ⟨23, 114, none⟩), .pointer (some a), .int .u64 153])).run Tryz.prog w = .ok (some (114, a, 153)) w := by kernel_rfl
theorem X.direct114 (w : World) : (Rtype.directlyAssignable 114 114).run Tryz.prog w = .ok true w := by kernel_rfl
theorem X.size114 : (Tryz.prog.info? 114).map (·.size) = some 1 := by kernel_rfl
theorem X.isAgg114 (w : World) : (isAgg 114).run Tryz.prog w = .ok true w := by kernel_rfl
theorem X.sizeOf114 (w : World) : (sizeOf 114).run Tryz.prog w = .ok 1 w := by kernel_rfl
end Go.Sx
