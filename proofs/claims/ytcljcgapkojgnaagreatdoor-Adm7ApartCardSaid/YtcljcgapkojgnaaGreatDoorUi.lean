/- Chapter 12: errors.Is at two sentinels (after the worked proof Sentry). -/
import Derived.Test.YtcljcgapkojgnaaGreatDoorProg
import Derived.WalkKit
import Derived.LaidEql
import Derived.Stop.Asserts
import Derived.RowKitTokens
set_option linter.unusedSimpArgs false
set_option linter.unusedVariables false
namespace Go.Sx
open Go.Proofs Go.RowKit Go.Extern.Stop Go.Stop Go.Extern

/-- The model's own entry for a function without a body. -/
noncomputable def X.entry (g : Nat) : Array Value → Sem Value := ((Tryz.prog.funcs[g]?).bind Extern.find).getD fun _ => stuck ""

theorem X.isTypeOf (v : Value) (w : World) : (X.entry 44 #[.iface 277 v]).run Tryz.prog w = .ok (.iface 138 (.agg #[.pointer (some ⟨17, 277, none⟩)])) w := by kernel_rfl
theorem X.isComparable (w : World) : (X.entry 193 #[.agg #[.pointer (some ⟨17, 277, none⟩)]]).run Tryz.prog w = .ok (.bool true) w := by kernel_rfl
theorem X.isMethodComparable (v : Value) (w : World) : (Go.method 409 138 v "Comparable").run Tryz.prog w = .ok (193, v) w := by kernel_rfl
theorem X.isComp : (Tryz.prog.info? 277).map (·.comparable) = some true := by kernel_rfl
theorem X.isSize : (Tryz.prog.info? 279).map (·.size) = some 1 := by kernel_rfl
theorem X.noIsE (v : Value) (xT : TypeId) (w : World) : (Instr.typeAssert (.iface 277 v) xT 140 true).run Tryz.prog w = .ok (.tuple #[.nilIface, .bool false]) w := run_typeAssert_lacksB Tryz.underlying140 (by kernel_rfl) (by kernel_rfl) v xT w
theorem X.noUnwrapE (v : Value) (xT : TypeId) (w : World) : (Instr.typeAssert (.iface 277 v) xT 143 true).run Tryz.prog w = .ok (.tuple #[.nilIface, .bool false]) w := run_typeAssert_lacksB Tryz.underlying143 (by kernel_rfl) (by kernel_rfl) v xT w
theorem X.noUnwrapsE (v : Value) (xT : TypeId) (w : World) : (Instr.typeAssert (.iface 277 v) xT 145 true).run Tryz.prog w = .ok (.tuple #[.nilIface, .bool false]) w := run_typeAssert_lacksB Tryz.underlying145 (by kernel_rfl) (by kernel_rfl) v xT w

/-- errors.Is(x, x), x a pointer to an errors.errorString. -/
theorem is_same (a : Addr) (w : World) :
    Calls Tryz.prog 28 #[.iface 277 (.pointer (some a)), .iface 277 (.pointer (some a))] w fun e w' => e = .returned (.bool true) ∧ w' = w := by
  obtain ⟨i, hi, hcmp⟩ := Option.map_eq_some_iff.1 X.isComp
  obtain ⟨j, hj, hjs⟩ := Option.map_eq_some_iff.1 X.isSize
  have h8 := @run_callFunc_extern Tryz.prog 44 _ (X.entry 44) Tryz.func44 (by kernel_rfl) (by kernel_rfl) (by kernel_rfl) (by kernel_rfl)
  have h32 := @run_callFunc_extern Tryz.prog 193 _ (X.entry 193) Tryz.func193 (by kernel_rfl) (by kernel_rfl) (by kernel_rfl) (by kernel_rfl)
  have tT := X.isTypeOf
  have cT := X.isComparable
  have mR := X.isMethodComparable
  have heq := run_eql_iface_ptr_same (P := Tryz.prog) w a Tryz.underlying46 Tryz.underlying277 hi hcmp hj
  go_enter Tryz.func28, Tryz.ntmps28
  go_wp2
  refine wp_loop_rounds 1 ?_
  rw [rounds_succ]
  go_wp2
  go_ret
  exact ⟨rfl, rfl⟩

/-- errors.Is(x, y), two different pointers to errors.errorString. -/
theorem is_other (a b : Addr) (ca cb : Array Value) (ta tb : TypeId) (w : World) (hne : a ≠ b) (ha : w.heap[a.block]? = some (.cells ca ta (0, 0))) (hb : w.heap[b.block]? = some (.cells cb tb (0, 0))) :
    Calls Tryz.prog 28 #[.iface 277 (.pointer (some a)), .iface 277 (.pointer (some b))] w fun e w' => e = .returned (.bool false) ∧ w' = w := by
  obtain ⟨i, hi, hcmp⟩ := Option.map_eq_some_iff.1 X.isComp
  obtain ⟨j, hj, hjs⟩ := Option.map_eq_some_iff.1 X.isSize
  have h8 := @run_callFunc_extern Tryz.prog 44 _ (X.entry 44) Tryz.func44 (by kernel_rfl) (by kernel_rfl) (by kernel_rfl) (by kernel_rfl)
  have h32 := @run_callFunc_extern Tryz.prog 193 _ (X.entry 193) Tryz.func193 (by kernel_rfl) (by kernel_rfl) (by kernel_rfl) (by kernel_rfl)
  have tT := X.isTypeOf
  have cT := X.isComparable
  have mR := X.isMethodComparable
  have nE := X.noIsE
  have uE := X.noUnwrapE
  have vE := X.noUnwrapsE
  have heq := run_eql_iface_ptr_other (P := Tryz.prog) w Tryz.underlying46 Tryz.underlying277 hi hcmp hj (by rw [hjs]; decide) hne ha hb
  go_enter Tryz.func28, Tryz.ntmps28
  go_wp2
  refine wp_loop_rounds 1 ?_
  rw [rounds_succ]
  go_wp2
  go_ret
  exact ⟨rfl, rfl⟩
end Go.Sx
