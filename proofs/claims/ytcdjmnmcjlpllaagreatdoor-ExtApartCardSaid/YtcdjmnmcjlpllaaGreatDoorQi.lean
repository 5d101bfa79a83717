/- Chapter 14: errors.Is at two sentinels (after the worked proof Sentry). -/
import Derived.Test.YtcdjmnmcjlpllaaGreatDoorProg
import Derived.WalkKit
import Derived.LaidEql
import Derived.Stop.Asserts
import Derived.RowKitTokens
set_option linter.unusedSimpArgs false
set_option linter.unusedVariables false
namespace Go.Sx
open Go.Proofs Go.RowKit Go.Extern.Stop Go.Stop Go.Extern

/-- The model's own entry for a function without a body. -/
noncomputable def X.entry (g : Nat) : Array Value → Sem Value := ((Tryz.prog.funcs[g]?).bind Extern.find).getD fun _ => stuck ""

theorem X.isTypeOf (v : Value) (w : World) : (X.entry 120 #[.iface 275 v]).run Tryz.prog w = .ok (.iface 226 (.agg #[.pointer (some ⟨23, 275, none⟩)])) w := by kernel_rfl
theorem X.isComparable (w : World) : (X.entry 197 #[.agg #[.pointer (some ⟨23, 275, none⟩)]]).run Tryz.prog w = .ok (.bool true) w := by kernel_rfl
theorem X.isMethodComparable (v : Value) (w : World) : (Go.method 407 226 v "Comparable").run Tryz.prog w = .ok (197, v) w := by kernel_rfl
theorem X.isComp : (Tryz.prog.info? 275).map (·.comparable) = some true := by kernel_rfl
theorem X.isSize : (Tryz.prog.info? 277).map (·.size) = some 1 := by kernel_rfl
theorem X.noIsE (v : Value) (xT : TypeId) (w : World) : (Instr.typeAssert (.iface 275 v) xT 251 true).run Tryz.prog w = .ok (.tuple #[.nilIface, .bool false]) w := run_typeAssert_lacksB Tryz.underlying251 (by kernel_rfl) (by kernel_rfl) v xT w
theorem X.noUnwrapE (v : Value) (xT : TypeId) (w : World) : (Instr.typeAssert (.iface 275 v) xT 233 true).run Tryz.prog w = .ok (.tuple #[.nilIface, .bool false]) w := run_typeAssert_lacksB Tryz.underlying233 (by kernel_rfl) (by kernel_rfl) v xT w
theorem X.noUnwrapsE (v : Value) (xT : TypeId) (w : World) : (Instr.typeAssert (.iface 275 v) xT 234 true).run Tryz.prog w = .ok (.tuple #[.nilIface, .bool false]) w := run_typeAssert_lacksB Tryz.underlying234 (by kernel_rfl) (by kernel_rfl) v xT w

/-- errors.Is(x, x), x a pointer to an errors.errorString. -/
theorem is_same (a : Addr) (w : World) :
    Calls Tryz.prog 97 #[.iface 275 (.pointer (some a)), .iface 275 (.pointer (some a))] w fun e w' => e = .returned (.bool true) ∧ w' = w := by
  obtain ⟨i, hi, hcmp⟩ := Option.map_eq_some_iff.1 X.isComp
  obtain ⟨j, hj, hjs⟩ := Option.map_eq_some_iff.1 X.isSize
  have h8 := @run_callFunc_extern Tryz.prog 120 _ (X.entry 120) Tryz.func120 (by kernel_rfl) (by kernel_rfl) (by kernel_rfl) (by kernel_rfl)
  have h32 := @run_callFunc_extern Tryz.prog 197 _ (X.entry 197) Tryz.func197 (by kernel_rfl) (by kernel_rfl) (by kernel_rfl) (by kernel_rfl)
  have tT := X.isTypeOf
  have cT := X.isComparable
  have mR := X.isMethodComparable
  have heq := run_eql_iface_ptr_same (P := Tryz.prog) w a Tryz.underlying96 Tryz.underlying275 hi hcmp hj
  go_enter Tryz.func97, Tryz.ntmps97
  go_wp2
  refine wp_loop_rounds 1 ?_
  rw [rounds_succ]
  go_wp2
  go_ret
  exact ⟨rfl, rfl⟩

/-- errors.Is(x, y), two different pointers to errors.errorString. -/
theorem is_other (a b : Addr) (ca cb : Array Value) (ta tb : TypeId) (w : World) (hne : a ≠ b) (ha : w.heap[a.block]? = some (.cells ca ta (0, 0))) (hb : w.heap[b.block]? = some (.cells cb tb (0, 0))) :
    Calls Tryz.prog 97 #[.iface 275 (.pointer (some a)), .iface 275 (.pointer (some b))] w fun e w' => e = .returned (.bool false) ∧ w' = w := by
  obtain ⟨i, hi, hcmp⟩ := Option.map_eq_some_iff.1 X.isComp
  obtain ⟨j, hj, hjs⟩ := Option.map_eq_some_iff.1 X.isSize
  have h8 := @run_callFunc_extern Tryz.prog 120 _ (X.entry 120) Tryz.func120 (by kernel_rfl) (by kernel_rfl) (by kernel_rfl) (by kernel_rfl)
  have h32 := @run_callFunc_extern Tryz.prog 197 _ (X.entry 197) Tryz.func197 (by kernel_rfl) (by kernel_rfl) (by kernel_rfl) (by kernel_rfl)
  have tT := X.isTypeOf
  have cT := X.isComparable
  have mR := X.isMethodComparable
  have nE := X.noIsE
  have uE := X.noUnwrapE
  have vE := X.noUnwrapsE
  have heq := run_eql_iface_ptr_other (P := Tryz.prog) w Tryz.underlying96 Tryz.underlying275 hi hcmp hj (by rw [hjs]; decide) hne ha hb
  go_enter Tryz.func97, Tryz.ntmps97
  go_wp2
  refine wp_loop_rounds 1 ?_
  rw [rounds_succ]
  go_wp2
  go_ret
  exact ⟨rfl, rfl⟩
end Go.Sx
