/- Chapter 12: the settings are right. -/
import Derived.Test.YtcljcgapkojgnaaGreatDoorUk
import Derived.Test.YtcljcgapkojgnaaGreatDoorUa
import Derived.Test.YtcljcgapkojgnaaGreatDoorSl
set_option linter.unusedSimpArgs false
set_option linter.unusedVariables false
namespace Go.Sx
open Go.Proofs Go.RowKit Go.Extern.Stop Go.Stop Go.Extern

theorem nonum : (Tryz.prog.funcs.toList.all fun fn => !(fn.name == "runtime.NumGoroutine")) = true := by kernel_rfl
theorem nonum' (f : FuncId) (fn : Func) (h : Tryz.prog.funcs[f]? = some fn) : (fn.name == "runtime.NumGoroutine") = false := by
  have := List.all_eq_true.1 nonum fn (Array.mem_toList_iff.2 (Array.mem_of_getElem? h))
  simpa using this
theorem orders : Tryz.prog.follows .mixedOrders = true := by kernel_rfl
theorem X.noEsc (v : Value) (w : World) : (X.entry 94 #[v]).run Tryz.prog w = .ok v w := by kernel_rfl
theorem X.e166 : X.entry 166 = BytealgIndexByte.indexByte := by kernel_rfl

section
variable {w0 : Fr} {ro : Option Nat} {k : K} {s s' : St} {a : Act} {w : World}

theorem prim_calls2 {P : Program} {gl : Glob} (hnum : ∀ (f : FuncId) (fn : Func), P.funcs[f]? = some fn → (fn.name == "runtime.NumGoroutine") = false) {g : FuncId} {vs : Array Value} {d : DV} {v : Value} {N : World → Prop}
    (hfn : ∃ fn, P.funcs[g]? = some fn ∧ fn.body.isSome = true) (hd : d.is k v) (h : Calls P g vs w fun e w' => e = .returned v ∧ N w') (hN : ∀ w', N w' → StR w0 gl ro k s' a w') (m : Nat) :
    CallRes ro m P (fun v w' => ∃ k', k.le k' ∧ k'.ρ = k.ρ ∧ k'.G = k.G ∧ StR w0 gl ro k' s' a w' ∧ d.is k' v) ((callFunc g vs).run P w) := by
  obtain ⟨fn, hf, hb⟩ := hfn
  rw [run_callFunc hf (hnum _ _ hf) hb]
  refine CallsIn.mono (callsIn_round (callsIn_wide.2 h)) ?_
  rintro e w' ⟨rfl, hn⟩
  exact ⟨k, K.le.refl k, rfl, rfl, hN w' hn, hd⟩

theorem StR.grown {gl : Glob} (hs : StR w0 gl ro k s a w) {w' : World} (hb : Below w.heap.size w w') : StR w0 gl ro k s a w' := by
  have hh := hs.heap.later (x := {}) (G' := k.G) (w' := w') (fun _ _ h => h) (fun b o hb' => by
    obtain ⟨h1, _⟩ := hs.heap.g b o hb'
    rw [hb.block b (Array.getElem?_eq_some_iff.1 h1).1]; exact h1) (fun b o hb => .inl hb) hb
  rw [K.app_nil] at hh
  exact ⟨hs.nx, hs.ct, hs.pc, hs.env, hh, hs.gl, hs.marks, hs.marksLt, hs.rnd, hs.rndLt, hs.memo⟩

theorem body97 : ∃ fn, Tryz.prog.funcs[28]? = some fn ∧ fn.body.isSome = true := ⟨_, Tryz.func28, by kernel_rfl⟩
theorem body82 : ∃ fn, Tryz.prog.funcs[74]? = some fn ∧ fn.body.isSome = true := ⟨_, Tryz.func74, by kernel_rfl⟩

theorem av_den {gl : Glob} (hs : StR w0 gl ro k s a w) {i : Nat} (hi : i ∈ gl.sep) {ad : Option Addr} (hr : (Ref.mk (.av i) (.lit 0)).is k ad) : ∃ b c e, ad = some b ∧ k.ρ.a[i]? = some b ∧ w.heap[b.block]? = some (.cells c e (0, 0)) := by
  obtain ⟨b, c, e, h1, h2⟩ := hs.gl.sep i hi
  refine ⟨b, c, e, ?_, h1, (hs.heap.g _ _ h2).1⟩
  rw [← hr k (K.le.refl k)]
  simp [Ref.den, Base.den, h1, E.ii, Addr.add]

set_option maxRecDepth 100000 in
theorem prim12a_ok (g : FuncId) (args : List DV) (vs : List Value) (d : DV) (hs : StR w0 gl12 ro k s a w) (hv : DV.iss k args vs) (h : prim12a g args s = some (d, s')) (m : Nat) :
    CallRes ro m Tryz.prog (fun v w' => ∃ k', k.le k' ∧ k'.ρ = k.ρ ∧ k'.G = k.G ∧ StR w0 gl12 ro k' s' a w' ∧ d.is k' v) ((callFunc g vs.toArray).run Tryz.prog w) := by
  unfold prim12a at h
  split at h
  · rename_i hg
    have hg := beq_iff_eq.1 hg
    subst hg
    split at h
    · rename_i d'
      simp only [Option.some.injEq, Prod.mk.injEq] at h
      obtain ⟨rfl, rfl⟩ := h
      obtain ⟨v, vs', rfl, hx, hv'⟩ := DV.iss_cons_inv hv
      have := hv'.length; simp at this; subst this
      have hrun := @run_callFunc_extern Tryz.prog 94 _ (X.entry 94) Tryz.func94 (by kernel_rfl) (by kernel_rfl) (by kernel_rfl) (by kernel_rfl) #[v] w
      rw [X.noEsc] at hrun
      have : (callFunc 94 [v].toArray).run Tryz.prog w = .ok (.value v) w := hrun
      rw [this]
      exact ⟨k, K.le.refl k, rfl, rfl, hs, hx⟩
    · cases h
  split at h
  · rename_i hg
    have hg := beq_iff_eq.1 hg
    subst hg
    split at h
    · rename_i x y
      simp only [Option.some.injEq, Prod.mk.injEq] at h
      obtain ⟨rfl, rfl⟩ := h
      obtain ⟨v, vs', rfl, hx, hv'⟩ := DV.iss_cons_inv hv
      obtain ⟨u, vs'', rfl, hy, hv''⟩ := DV.iss_cons_inv hv'
      have := hv''.length; simp at this; subst this
      obtain ⟨sv, rfl, hsv⟩ := is_str hx
      obtain ⟨n, rfl, hn⟩ := is_int hy
      have hrun := @run_callFunc_extern Tryz.prog 166 _ (X.entry 166) Tryz.func166 (by kernel_rfl) (by kernel_rfl) (by kernel_rfl) (by kernel_rfl) #[.string sv, .int .u8 n] w
      rw [X.e166, run_indexByte_string] at hrun
      have : (callFunc 166 [Value.string sv, Value.int .u8 n].toArray).run Tryz.prog w = .ok (.value (.int .i64 (firstIdx sv n.toNat.toUInt8))) w := hrun
      rw [this]
      refine ⟨k, K.le.refl k, rfl, rfl, hs, mk_int fun k' hle => ?_⟩
      rw [mk2_ii _ _ _ _ (by simp) (by simp)]
      simp only [E.ii, hsv k' hle, hn k' hle]
    · cases h
  split at h
  · rename_i hg
    have hg := beq_iff_eq.1 hg
    subst hg
    split at h
    · rename_i t i u j
      split at h
      · rename_i hc
        simp only [Bool.and_eq_true, beq_iff_eq, List.contains_iff_mem] at hc
        obtain ⟨⟨⟨rfl, rfl⟩, hi⟩, hj⟩ := hc
        simp only [Option.some.injEq, Prod.mk.injEq] at h
        obtain ⟨rfl, rfl⟩ := h
        obtain ⟨v, vs', rfl, hx, hv'⟩ := DV.iss_cons_inv hv
        obtain ⟨u, vs'', rfl, hy, hv''⟩ := DV.iss_cons_inv hv'
        have := hv''.length; simp at this; subst this
        obtain ⟨v, rfl, hx2⟩ := is_iface hx
        obtain ⟨u, rfl, hy2⟩ := is_iface hy
        obtain ⟨ad, rfl, hr⟩ := is_ptr hx2
        obtain ⟨bd, rfl, hq⟩ := is_ptr hy2
        obtain ⟨b1, c1, e1, rfl, g1, m1⟩ := av_den hs (gl := gl12) hi hr
        obtain ⟨b2, c2, e2, rfl, g2, m2⟩ := av_den hs (gl := gl12) hj hq
        by_cases hij : i = j
        · subst hij
          rw [g1] at g2
          cases g2
          refine prim_calls2 (v := .bool true) (N := fun w' => w' = w) nonum' body97 (mk_bool ?_) (is_same b1 w) (fun w' hw => hw ▸ hs) m
          have : (i == i) = true := beq_self_eq_true i
          rw [this]; exact isB_lit _
        · have hne : b1 ≠ b2 := fun e => hs.gl.ne i hi j hj hij (by rw [g1, g2, e])
          refine prim_calls2 (v := .bool false) (N := fun w' => w' = w) nonum' body97 (mk_bool ?_) (is_other b1 b2 c1 c2 e1 e2 w hne m1 m2) (fun w' hw => hw ▸ hs) m
          have : (i == j) = false := by simpa using hij
          rw [this]; exact isB_lit _
      · cases h
    · cases h
  split at h
  · rename_i hg
    have hg := beq_iff_eq.1 hg
    subst hg
    split at h
    · rename_i t e pt i
      split at h
      · rename_i hc
        simp only [Bool.and_eq_true, beq_iff_eq] at hc
        obtain ⟨rfl, rfl⟩ := hc
        split at h
        · rename_i c0 u hl
          split at h
          · rename_i hu
            have hu := beq_iff_eq.1 hu
            subst hu
            simp only [Option.some.injEq, Prod.mk.injEq] at h
            obtain ⟨rfl, rfl⟩ := h
            obtain ⟨v, vs', rfl, hx, hv'⟩ := DV.iss_cons_inv hv
            obtain ⟨u, vs'', rfl, hy, hv''⟩ := DV.iss_cons_inv hv'
            have := hv''.length; simp at this; subst this
            obtain ⟨v, rfl, hx2⟩ := is_iface hx
            obtain ⟨u, rfl, hy2⟩ := is_iface hy
            obtain ⟨xs, rfl, hxs⟩ := is_agg hx2
            obtain ⟨x, xs', rfl, hx1, hxs'⟩ := DV.iss_cons_inv hxs
            have := hxs'.length; simp at this; subst this
            obtain ⟨n, rfl, hn⟩ := is_int hx1
            obtain ⟨ad, rfl, hr⟩ := is_ptr hy2
            obtain ⟨hid, ob, hob, ws, rfl, hle, hws, hm, hone⟩ := hs.heap.obj _ _ hl
            have had : ad = some ⟨k.β i, 0, none⟩ := by
              rw [← hr k (K.le.refl k)]
              simp [Ref.den, Base.den, E.ii, add_plain]
            subst had
            have hlen : ws.length = 1 := by
              have := hm.here
              simp only [E.ii] at this
              omega
            obtain ⟨old, rfl⟩ : ∃ o, ws = [o] := by
              match ws, hlen with
              | [o], _ => exact ⟨o, rfl⟩
            have hg8 : w.cell? ⟨6, 0, none⟩ = some (.iface 138 (.agg #[.pointer (some ⟨17, 46, none⟩)])) := by
              obtain ⟨vs8, e8, fr8, hG, hget⟩ := hs.gl.l 6 [DV.iface 138 (.agg [.ptr ⟨.at_ ⟨17, 46, none⟩, .lit 0⟩])] (by rfl)
              obtain ⟨v8, hv8, hd8⟩ := hget 0 _ rfl
              have h1 := hd8.here
              simp only [DV.den, DV.dens, Ref.den, Base.den, E.ii, Option.map_some] at h1
              have hmem := (hs.heap.g _ _ hG).1
              simp only [World.cell?, hmem]
              rw [← h1] at hv8
              simpa [Addr.add] using hv8
            refine prim_calls2 (v := .bool true) nonum' body82 (mk_bool (isB_lit true)) (as_hit n ⟨k.β i, 0, none⟩ old w hg8 (by simp [World.cell?, hob]) (by simp [World.frozen?, hob])) (fun w' hw => ?_) m
            subst hw
            generalize hw4 : ((((w.alloc (.cells #[.pointer (some ⟨k.β i, 0, none⟩)] 161)).alloc (.cells #[.pointer (some ⟨17, 161, none⟩), .pointer (some ⟨w.heap.size, 0, none⟩), .int .u64 150] 189)).alloc (.cells #[.pointer (some ⟨17, 161, none⟩), .pointer (some ⟨w.heap.size, 0, none⟩), .int .u64 150] 189)).alloc (.cells #[.int .i64 n] 113)) = w4
            have hb4 : Below w.heap.size w w4 := by
              rw [← hw4]
              refine Below.alloc (Below.alloc (Below.alloc (Below.alloc (Below.refl _ _) (Nat.le_refl _) _) ?_ _) ?_ _) ?_ _ <;> simp <;> omega
            have hs4 := hs.grown hb4
            have hob4 : w4.heap[k.β i]? = some (.cells [old].toArray 113 (0, 0)) := by rw [hb4.block _ (hs.heap.lt i hid)]; exact hob
            refine hs4.upd (hs4.heap.upd ⟨_, hl, rfl⟩ (o := .cells [.int .i64 e] 113 (.lit 1)) (ob := .cells #[.int .i64 n] 113 (0, 0)) ?_ ?_ ?_ ?_ rfl rfl rfl)
            · refine ⟨[.int .i64 n], rfl, by simp, ?_, isI_lit _, ?_⟩
              · exact DV.iss_cons (mk_int hn) DV.iss_nil
              · intro v hv
                simp at hv
                subst hv; rfl
            · simp [World.setCell, Array.getElem?_modify, hob4]
            · intro b hb
              simp only [World.setCell, Array.getElem?_modify]
              rw [if_neg (fun e => hb e.symm)]
            · simp [World.setCell]
          · cases h
        · cases h
      · cases h
    · cases h
  · cases h
end

noncomputable def C12a : Cfg := { P := Tryz.prog, gl := gl12, unroll := 40, prim := prim12a }
set_option maxRecDepth 100000 in
theorem C12aok : CfgOK C12a := cfgOK nonum' (fun _ _ _ _ _ _ _ g args vs d hs hv h m => prim12a_ok g args vs d hs hv h m) orders
end Go.Sx
