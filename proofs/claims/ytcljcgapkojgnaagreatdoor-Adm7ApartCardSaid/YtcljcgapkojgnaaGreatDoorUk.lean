/- Chapter 12: errors.As, the walk. -/
import Derived.Test.YtcljcgapkojgnaaGreatDoorUj
set_option linter.unusedSimpArgs false
set_option linter.unusedVariables false
namespace Go.Sx
open Go.Proofs Go.RowKit Go.Extern.Stop Go.Stop Go.Extern

theorem X.rls (v x : Value) : ReflectliteValue.set #[v, x] = (do
    let (some (dst, a, fl), some (src, b, _)) := (← ReflectliteValue.parts v, ← ReflectliteValue.parts x)
      | unsupported (.noEntry "extern/(internal/reflectlite.Value).Set.zeroValue")
    if fl / ReflectliteValue.flagAddr % 2 == 0 then unsupported (.noEntry "extern/(internal/reflectlite.Value).Set.unaddressable")
    let val ← loadVar src b
    if ← Rtype.directlyAssignable dst src then storeVar dst a val
    else if ← Rtype.implements dst src then
      if (← Rtype.kind src) == 20 then
        match val with
        | .nilIface => unsupported (.noEntry "extern/reflectlite: a nil value of one interface type handed on as a value of another")
        | _ => storeVar dst a val
      else storeVar dst a (.iface src val)
    else panicString ("reflectlite.Set: value of type " ++ (← Rtype.spelt src) ++ " is not assignable to type " ++ (← Rtype.spelt dst))
    pure (.tuple #[])) := rfl

theorem X.set114 (ta b : Addr) (e : Int) (old : Value) (W : World) (hb : W.cell? b = some (.int .i64 e)) (ht : W.cell? ta = some old) (hf : W.frozen? ta = false) :
    (X.entry 126 #[.agg #[.pointer (some ⟨17, 113, none⟩), .pointer (some ta), .int .u64 409], .agg #[.pointer (some ⟨17, 113, none⟩), .pointer (some b), .int .u64 153]]).run Tryz.prog W
      = .ok (.tuple #[]) (W.setCell ta (.int .i64 e)) := by
  rw [X.e134, X.rls]
  have h0 : b.add 0 = b := by simp [Addr.add]
  have h1 : ta.add 0 = ta := by simp [Addr.add]
  simp only [Sem.run_bind, X.parts114a, X.parts114, Result.andThen]
  simp [ReflectliteValue.flagAddr, loadVar, X.isAgg114, X.sizeOf114, loadCells, loadCellsFrom, h0, hb, Result.andThen, X.direct114, storeVar, Value.cells, storeCells, h1]
  rw [run_store Tryz.prog W ta _ _ (by rfl)]
  simp [ht, hf]

set_option maxHeartbeats 4000000 in
theorem as_hit (e : Int) (t : Addr) (old : Value) (w : World) (hg : w.cell? ⟨6, 0, none⟩ = some (.iface 138 (.agg #[.pointer (some ⟨17, 46, none⟩)]))) (ht0 : w.cell? t = some old) (hf0 : w.frozen? t = false) :
    Calls Tryz.prog 74 #[.iface 113 (.agg #[.int .i64 e]), .iface 161 (.pointer (some t))] w fun ev w' => ev = .returned (.bool true) ∧ w' = ((((w.alloc (.cells #[.pointer (some t)] 161)).alloc (.cells #[.pointer (some ⟨17, 161, none⟩), .pointer (some ⟨w.heap.size, 0, none⟩), .int .u64 150] 189)).alloc (.cells #[.pointer (some ⟨17, 161, none⟩), .pointer (some ⟨w.heap.size, 0, none⟩), .int .u64 150] 189)).alloc (.cells #[.int .i64 e] 113)).setCell t (.int .i64 e) := by
  have h6 := @run_callFunc_extern Tryz.prog 97 _ (X.entry 97) Tryz.func97 (by kernel_rfl) (by kernel_rfl) (by kernel_rfl) (by kernel_rfl)
  have h7 := @run_callFunc_extern Tryz.prog 98 _ (X.entry 98) Tryz.func98 (by kernel_rfl) (by kernel_rfl) (by kernel_rfl) (by kernel_rfl)
  have h8 := @run_callFunc_extern Tryz.prog 99 _ (X.entry 99) Tryz.func99 (by kernel_rfl) (by kernel_rfl) (by kernel_rfl) (by kernel_rfl)
  have h27 := @run_callFunc_extern Tryz.prog 186 _ (X.entry 186) Tryz.func186 (by kernel_rfl) (by kernel_rfl) (by kernel_rfl) (by kernel_rfl)
  have h37 := @run_callFunc_extern Tryz.prog 194 _ (X.entry 194) Tryz.func194 (by kernel_rfl) (by kernel_rfl) (by kernel_rfl) (by kernel_rfl)
  have h38 := @run_callFunc_extern Tryz.prog 195 _ (X.entry 195) Tryz.func195 (by kernel_rfl) (by kernel_rfl) (by kernel_rfl) (by kernel_rfl)
  have h10 := @run_callFunc_extern Tryz.prog 44 _ (X.entry 44) Tryz.func44 (by kernel_rfl) (by kernel_rfl) (by kernel_rfl) (by kernel_rfl)
  have h35 := @run_callFunc_extern Tryz.prog 192 _ (X.entry 192) Tryz.func192 (by kernel_rfl) (by kernel_rfl) (by kernel_rfl) (by kernel_rfl)
  have h11 := @run_callFunc_extern Tryz.prog 125 _ (X.entry 125) Tryz.func125 (by kernel_rfl) (by kernel_rfl) (by kernel_rfl) (by kernel_rfl)
  have h12 := @run_callFunc_extern Tryz.prog 126 _ (X.entry 126) Tryz.func126 (by kernel_rfl) (by kernel_rfl) (by kernel_rfl) (by kernel_rfl)
  have tO := X.typeOf114
  have mA := X.methodAssignableTo
  have a25 := X.assignable114
  have v25 := X.valueOf114
  have f6 := X.valueOf151
  have f7 := X.type151
  have mK := X.methodKind
  have mE := X.methodElem
  have mI := X.methodImplements
  have k27 := X.kind151
  have k25 := X.kind114
  have e27 := X.elem151
  have i25 := X.implements114
  have n8 := X.isNil151 ⟨w.heap.size, 0, none⟩ t ((w.alloc (.cells #[.pointer (some t)] 161)).alloc (.cells #[.pointer (some ⟨17, 161, none⟩), .pointer (some ⟨w.heap.size, 0, none⟩), .int .u64 150] 189)) (by simp)
  have hlt : 6 < w.heap.size := by
    rcases Nat.lt_or_ge 6 w.heap.size with h | h
    · exact h
    · simp [World.cell?, Array.getElem?_eq_none h] at hg
  have hg2 : ((w.alloc (.cells #[.pointer (some t)] 161)).alloc (.cells #[.pointer (some ⟨17, 161, none⟩), .pointer (some ⟨w.heap.size, 0, none⟩), .int .u64 150] 189)).cell? ⟨6, 0, none⟩ = some (.iface 138 (.agg #[.pointer (some ⟨17, 46, none⟩)])) := by
    rw [World.cell?_alloc_lt _ _ ⟨6, 0, none⟩ (by simp; omega), World.cell?_alloc_lt _ _ ⟨6, 0, none⟩ hlt]; exact hg
  have htl : t.block < w.heap.size := by
    rcases Nat.lt_or_ge t.block w.heap.size with h | h
    · exact h
    · simp [World.cell?, Array.getElem?_eq_none h] at ht0
  have el := X.elemV151 ⟨w.heap.size, 0, none⟩ t (((w.alloc (.cells #[.pointer (some t)] 161)).alloc (.cells #[.pointer (some ⟨17, 161, none⟩), .pointer (some ⟨w.heap.size, 0, none⟩), .int .u64 150] 189)).alloc (.cells #[.pointer (some ⟨17, 161, none⟩), .pointer (some ⟨w.heap.size, 0, none⟩), .int .u64 150] 189)) (by rw [World.cell?_alloc_lt _ _ ⟨w.heap.size, 0, none⟩ (by simp; omega)]; simp)
  have st := X.set114 t ⟨w.heap.size + 1 + 1 + 1, 0, none⟩ e old ((((w.alloc (.cells #[.pointer (some t)] 161)).alloc (.cells #[.pointer (some ⟨17, 161, none⟩), .pointer (some ⟨w.heap.size, 0, none⟩), .int .u64 150] 189)).alloc (.cells #[.pointer (some ⟨17, 161, none⟩), .pointer (some ⟨w.heap.size, 0, none⟩), .int .u64 150] 189)).alloc (.cells #[.int .i64 e] 113))
    (by rw [World.cell?_alloc_at _ _ _ _ (by simp)]; rfl)
    (by rw [World.cell?_alloc_lt _ _ t (by simp; omega), World.cell?_alloc_lt _ _ t (by simp; omega), World.cell?_alloc_lt _ _ t (by simp; omega), World.cell?_alloc_lt _ _ t htl]; exact ht0)
    (by rw [World.frozen?_alloc_old _ _ t (by simp; omega), World.frozen?_alloc_old _ _ t (by simp; omega), World.frozen?_alloc_old _ _ t (by simp; omega), World.frozen?_alloc_old _ _ t (Nat.ne_of_lt htl)]; exact hf0)
  go_enter Tryz.func74, Tryz.ntmps74
  go_wp2
  refine wp_loop_rounds 1 ?_
  rw [rounds_succ]
  go_wp2
  go_ret
  exact ⟨rfl, rfl⟩
end Go.Sx
