/- Chapter 10: abi.NoEscape and bytealg.IndexByteString, answered in place. -/
import Derived.Test.YtkmgegblflnjpaaGreatDoorTa
import Derived.WalkKit
import Derived.Stop.Asserts
import Derived.RowKitTokens
set_option linter.unusedSimpArgs false
set_option linter.unusedVariables false
namespace Go.Sx
open Go.Proofs Go.RowKit Go.Extern.Stop Go.Stop Go.Extern

/-- The model's own entry for a function without a body. -/
noncomputable def X.entry (g : Nat) : Array Value → Sem Value := ((Tryz.prog.funcs[g]?).bind Extern.find).getD fun _ => stuck ""
theorem nonum : (Tryz.prog.funcs.toList.all fun fn => !(fn.name == "runtime.NumGoroutine")) = true := by kernel_rfl
theorem nonum' (f : FuncId) (fn : Func) (h : Tryz.prog.funcs[f]? = some fn) : (fn.name == "runtime.NumGoroutine") = false := by
  have := List.all_eq_true.1 nonum fn (Array.mem_toList_iff.2 (Array.mem_of_getElem? h))
  simpa using this
theorem orders : Tryz.prog.follows .mixedOrders = true := by kernel_rfl
theorem X.noEsc (v : Value) (w : World) : (X.entry 74 #[v]).run Tryz.prog w = .ok v w := by kernel_rfl
theorem X.e134 : X.entry 134 = BytealgIndexByte.indexByte := by kernel_rfl

section
variable {gl : Glob} {w0 : Fr} {ro : Option Nat} {k : K} {s s' : St} {a : Act} {w : World}

set_option maxRecDepth 100000 in
theorem prim7_74 (args : List DV) (vs : List Value) (d : DV) (hs : StR w0 gl ro k s a w) (hv : DV.iss k args vs) (h : prim7 74 args s = some (d, s')) (m : Nat) :
    CallRes ro m Tryz.prog (fun v w' => ∃ k', k.le k' ∧ k'.ρ = k.ρ ∧ k'.G = k.G ∧ StR w0 gl ro k' s' a w' ∧ d.is k' v) ((callFunc 74 vs.toArray).run Tryz.prog w) := by
  simp only [prim7, beq_self_eq_true, if_true] at h
  split at h
  · rename_i d'
    simp only [Option.some.injEq, Prod.mk.injEq] at h
    obtain ⟨rfl, rfl⟩ := h
    obtain ⟨v, vs', rfl, hx, hv'⟩ := DV.iss_cons_inv hv
    have := hv'.length; simp at this; subst this
    have hrun := @run_callFunc_extern Tryz.prog 74 _ (X.entry 74) Tryz.func74 (by kernel_rfl) (by kernel_rfl) (by kernel_rfl) (by kernel_rfl) #[v] w
    rw [X.noEsc] at hrun
    have : (callFunc 74 [v].toArray).run Tryz.prog w = .ok (.value v) w := hrun
    rw [this]
    exact ⟨k, K.le.refl k, rfl, rfl, hs, hx⟩
  · cases h

set_option maxRecDepth 100000 in
theorem prim7_134 (args : List DV) (vs : List Value) (d : DV) (hs : StR w0 gl ro k s a w) (hv : DV.iss k args vs) (h : prim7 134 args s = some (d, s')) (m : Nat) :
    CallRes ro m Tryz.prog (fun v w' => ∃ k', k.le k' ∧ k'.ρ = k.ρ ∧ k'.G = k.G ∧ StR w0 gl ro k' s' a w' ∧ d.is k' v) ((callFunc 134 vs.toArray).run Tryz.prog w) := by
  simp only [prim7, show ((134 : Nat) == 74) = false by decide, Bool.false_eq_true, if_false, beq_self_eq_true, if_true] at h
  split at h
  · rename_i x y
    simp only [Option.some.injEq, Prod.mk.injEq] at h
    obtain ⟨rfl, rfl⟩ := h
    obtain ⟨v, vs', rfl, hx, hv'⟩ := DV.iss_cons_inv hv
    obtain ⟨u, vs'', rfl, hy, hv''⟩ := DV.iss_cons_inv hv'
    have := hv''.length; simp at this; subst this
    obtain ⟨sv, rfl, hsv⟩ := is_str hx
    obtain ⟨n, rfl, hn⟩ := is_int hy
    have hrun := @run_callFunc_extern Tryz.prog 134 _ (X.entry 134) Tryz.func134 (by kernel_rfl) (by kernel_rfl) (by kernel_rfl) (by kernel_rfl) #[.string sv, .int .u8 n] w
    rw [X.e134, run_indexByte_string] at hrun
    have : (callFunc 134 [Value.string sv, Value.int .u8 n].toArray).run Tryz.prog w = .ok (.value (.int .i64 (firstIdx sv n.toNat.toUInt8))) w := hrun
    rw [this]
    refine ⟨k, K.le.refl k, rfl, rfl, hs, mk_int fun k' hle => ?_⟩
    rw [mk2_ii _ _ _ _ (by simp) (by simp)]
    simp only [E.ii, hsv k' hle, hn k' hle]
  · cases h

set_option maxRecDepth 100000 in
theorem prim7a_ok (g : FuncId) (args : List DV) (vs : List Value) (d : DV) (hs : StR w0 gl ro k s a w) (hv : DV.iss k args vs) (h : prim7a g args s = some (d, s')) (m : Nat) :
    CallRes ro m Tryz.prog (fun v w' => ∃ k', k.le k' ∧ k'.ρ = k.ρ ∧ k'.G = k.G ∧ StR w0 gl ro k' s' a w' ∧ d.is k' v) ((callFunc g vs.toArray).run Tryz.prog w) := by
  unfold prim7a at h
  split at h
  · rename_i hg
    simp only [Bool.or_eq_true, beq_iff_eq] at hg
    rcases hg with rfl | rfl
    · exact prim7_74 args vs d hs hv h m
    · exact prim7_134 args vs d hs hv h m
  · cases h
end

set_option maxRecDepth 100000 in
theorem C7aok : CfgOK C7a := cfgOK nonum' (fun _ _ _ _ _ _ _ g args vs d hs hv h m => prim7a_ok g args vs d hs hv h m) orders
end Go.Sx
