/- Chapter 12: errors.As at an error of the package item (after the worked proof Toyas). -/
import Derived.Test.YtcljcgapkojgnaaGreatDoorUi
set_option linter.unusedSimpArgs false
set_option linter.unusedVariables false
namespace Go.Sx
open Go.Proofs Go.RowKit Go.Extern.Stop Go.Stop Go.Extern

abbrev X.h (t : Nat) : Value := .pointer (some ⟨17, t, none⟩)
theorem X.valueOf151 (t : Addr) (w : World) : (X.entry 97 #[.iface 161 (.pointer (some t))]).run Tryz.prog w
    = .ok (.agg #[.pointer (some ⟨17, 161, none⟩), .pointer (some ⟨w.heap.size, 0, none⟩), .int .u64 150]) (w.alloc (.cells #[.pointer (some t)] 161)) := by kernel_rfl
theorem X.type151 (a : Addr) (w : World) : (X.entry 98 #[.agg #[.pointer (some ⟨17, 161, none⟩), .pointer (some a), .int .u64 150]]).run Tryz.prog w = .ok (.iface 138 (.agg #[.pointer (some ⟨17, 161, none⟩)])) w := by kernel_rfl
theorem X.methodKind (h : Value) (w : World) : (Go.method 409 138 (.agg #[h]) "Kind").run Tryz.prog w = .ok (186, h) w := by kernel_rfl
theorem X.kind151 (w : World) : (X.entry 186 #[.pointer (some ⟨17, 161, none⟩)]).run Tryz.prog w = .ok (.int .u8 22) w := by kernel_rfl
theorem X.kind114 (w : World) : (X.entry 186 #[.pointer (some ⟨17, 113, none⟩)]).run Tryz.prog w = .ok (.int .u8 25) w := by kernel_rfl
theorem X.e109 : X.entry 99 = ReflectliteValue.method (ReflectliteValue.valueError "reflectlite.Value.IsNil" 0) ReflectliteValue.isNil := by kernel_rfl
theorem X.e133 : X.entry 125 = ReflectliteValue.method (ReflectliteValue.valueError "reflectlite.Value.Elem" 0) ReflectliteValue.elem := by kernel_rfl
theorem X.e134 : X.entry 126 = ReflectliteValue.set := by kernel_rfl
theorem X.rlm (z : Sem Value) (f : TypeId → Addr → Nat → Nat → Sem Value) (v : Value) :
    ReflectliteValue.method z f #[v] = (do match ← ReflectliteValue.parts v with | none => z | some (t, a, fl) => f t a fl (fl % 32)) := rfl
theorem X.parts151 (a : Addr) (w : World) : (ReflectliteValue.parts (.agg #[.pointer (some ⟨17, 161, none⟩), .pointer (some a), .int .u64 150])).run Tryz.prog w = .ok (some (161, a, 150)) w := by kernel_rfl
theorem X.isNil151 (a p : Addr) (W : World) (ha : W.cell? a = some (.pointer (some p))) :
    (X.entry 99 #[.agg #[.pointer (some ⟨17, 161, none⟩), .pointer (some a), .int .u64 150]]).run Tryz.prog W = .ok (.bool false) W := by
  rw [X.e109, X.rlm]
  simp only [Sem.run_bind, X.parts151, Result.andThen]
  simp [ReflectliteValue.isNil, loadVar, isAgg, underlying, Tryz.underlying161, ha, Result.andThen]
theorem X.methodElem (h : Value) (w : World) : (Go.method 409 138 (.agg #[h]) "Elem").run Tryz.prog w = .ok (194, .agg #[h]) w := by kernel_rfl
theorem X.methodImplements (h : Value) (w : World) : (Go.method 409 138 (.agg #[h]) "Implements").run Tryz.prog w = .ok (195, .agg #[h]) w := by kernel_rfl
theorem X.methodAssignableTo (h : Value) (w : World) : (Go.method 409 138 (.agg #[h]) "AssignableTo").run Tryz.prog w = .ok (192, .agg #[h]) w := by kernel_rfl
theorem X.elem151 (w : World) : (X.entry 194 #[.agg #[.pointer (some ⟨17, 161, none⟩)]]).run Tryz.prog w = .ok (.iface 138 (.agg #[.pointer (some ⟨17, 113, none⟩)])) w := by kernel_rfl
theorem X.implements114 (w : World) : (X.entry 195 #[.agg #[.pointer (some ⟨17, 113, none⟩)], .iface 138 (.agg #[.pointer (some ⟨17, 46, none⟩)])]).run Tryz.prog w = .ok (.bool true) w := by kernel_rfl
theorem X.typeOf114 (v : Value) (w : World) : (X.entry 44 #[.iface 113 v]).run Tryz.prog w = .ok (.iface 138 (.agg #[.pointer (some ⟨17, 113, none⟩)])) w := by kernel_rfl
theorem X.assignable114 (w : World) : (X.entry 192 #[.agg #[.pointer (some ⟨17, 113, none⟩)], .iface 138 (.agg #[.pointer (some ⟨17, 113, none⟩)])]).run Tryz.prog w = .ok (.bool true) w := by kernel_rfl
theorem X.valueOf114 (e : Int) (w : World) : (X.entry 97 #[.iface 113 (.agg #[.int .i64 e])]).run Tryz.prog w
    = .ok (.agg #[.pointer (some ⟨17, 113, none⟩), .pointer (some ⟨w.heap.size, 0, none⟩), .int .u64 153]) (w.alloc (.cells #[.int .i64 e] 113)) := by kernel_rfl
theorem X.elemOf151 (w : World) : (Rtype.elem? 161).run Tryz.prog w = .ok (some 113) w := by kernel_rfl
theorem X.mk114 (p : Addr) (w : World) : (ReflectliteValue.mk 113 p ReflectliteValue.flagAddr).run Tryz.prog w = .ok (.agg #[.pointer (some ⟨17, 113, none⟩), .pointer (some p), .int .u64 409]) w := by kernel_rfl
theorem X.elemV151 (a p : Addr) (W : World) (ha : W.cell? a = some (.pointer (some p))) :
    (X.entry 125 #[.agg #[.pointer (some ⟨17, 161, none⟩), .pointer (some a), .int .u64 150]]).run Tryz.prog W = .ok (.agg #[.pointer (some ⟨17, 113, none⟩), .pointer (some p), .int .u64 409]) W := by
  rw [X.e133, X.rlm]
  simp only [Sem.run_bind, X.parts151, Result.andThen]
  simp [ReflectliteValue.elem, loadVar, isAgg, underlying, Tryz.underlying161, ha, Result.andThen, X.elemOf151, X.mk114]
theorem X.parts114a (a : Addr) (w : World) : (ReflectliteValue.parts (.agg #[.pointer (some ⟨17, 113, none⟩), .pointer (some a), .int .u64 409])).run Tryz.prog w = .ok (some (113, a, 409)) w := by kernel_rfl
theorem X.parts114 (a : Addr) (w : World) : (ReflectliteValue.parts (.agg #[.pointer (some ⟨17, 113, none⟩), .pointer (some a), .int .u64 153])).run Tryz.prog w = .ok (some (113, a, 153)) w := by kernel_rfl
theorem X.direct114 (w : World) : (Rtype.directlyAssignable 113 113).run Tryz.prog w = .ok true w := by kernel_rfl
theorem X.size114 : (Tryz.prog.info? 113).map (·.size) = some 1 := by kernel_rfl
theorem X.isAgg114 (w : World) : (isAgg 113).run Tryz.prog w = .ok true w := by kernel_rfl
theorem X.sizeOf114 (w : World) : (sizeOf 113).run Tryz.prog w = .ok 1 w := by kernel_rfl
end Go.Sx
