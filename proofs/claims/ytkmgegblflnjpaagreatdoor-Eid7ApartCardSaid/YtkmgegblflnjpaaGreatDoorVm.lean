/- Chapter 10: a name as it is read: opened, shut. -/
import Derived.Test.YtkmgegblflnjpaaGreatDoorVh
import Derived.WalkKit
import Derived.ChangeSame
import Derived.ChangeVars
import Derived.ChangeMaps5
import Derived.WideShapes
set_option linter.unusedSimpArgs false
set_option linter.unusedVariables false
namespace Go.Proofs.YtkmgegblflnjpaaGreatDoor
open Go.ChangeShapes Go.WideShapes Go.ChangeAt Go.RowKit Go.Sx

theorem X.c23 : Tryz.prog.cellsOf 23 = 5 := by kernel_rfl
theorem X.c3 : Tryz.prog.cellsOf 3 = 1 := by kernel_rfl
theorem X.c9 : Tryz.prog.cellsOf 9 = 1 := by kernel_rfl

section
variable {H : Type} {enc : TypeId × Value → H} {w : World} {base : Nat} {spare : Nat → Bool} {held : Bool}

def nameV (c : Int) (n s : ByteArray) (a b : Int) : Value := .agg #[.int .i64 c, .string n, .string s, .int .i64 a, .int .i64 b]
def nameD {H : Type} (c : Int) (n s : ByteArray) (a b : Int) : DataW H := .agg [.lit (.int .i64 c), .lit (.string n.data.toList), .lit (.string s.data.toList), .lit (.int .i64 a), .lit (.int .i64 b)]
/-- A name's parts fit. -/
def nameOK (c : Int) (n s : ByteArray) (a b : Int) : Prop := (Lit.int .i64 c).wf = true ∧ n.size ≤ maxLen ∧ s.size ≤ maxLen ∧ (Lit.int .i64 a).wf = true ∧ (Lit.int .i64 b).wf = true

set_option maxRecDepth 100000 in
theorem open_name {r : Reach} {b0 : Nat} {v : Value} {d : DataW H} {ps : List MemPlace} (hv : Value.okWide Tryz.prog w r b0 23 v) (hd : DataW.Trod enc Tryz.prog w base spare held 23 v d ps) :
    ∃ c n s a b, v = nameV c n s a b ∧ d = nameD c n s a b ∧ ps = [] ∧ nameOK c n s a b := by
  obtain ⟨cs, rfl, hsz⟩ := okWide_struct Tryz.underlying23 hv
  rw [X.c23] at hsz
  obtain ⟨fuel, hf⟩ := hd
  obtain ⟨xs, m, _, hx, hl, hn, hel⟩ := DataW.trod_struct Tryz.underlying23 hf
  obtain ⟨cl⟩ := cs
  have hn5 : xs.length = 5 := hn
  have hc5 : cl.length = 5 := hsz
  match xs, hn5 with
  | [x0, x1, x2, x3, x4], _ =>
    match cl, hc5 with
    | [c0, c1, c2, c3, c4], _ =>
      have h0 : DataW.trod enc Tryz.prog w base spare held m 3 [c0] = some x0 := by
        have := hel 0 _ rfl
        simpa [Value.cells, X.c3, X.c9] using this
      have h1 : DataW.trod enc Tryz.prog w base spare held m 9 [c1] = some x1 := by
        have := hel 1 _ rfl
        simpa [Value.cells, X.c3, X.c9] using this
      have h2 : DataW.trod enc Tryz.prog w base spare held m 9 [c2] = some x2 := by
        have := hel 2 _ rfl
        simpa [Value.cells, X.c3, X.c9] using this
      have h3 : DataW.trod enc Tryz.prog w base spare held m 3 [c3] = some x3 := by
        have := hel 3 _ rfl
        simpa [Value.cells, X.c3, X.c9] using this
      have h4 : DataW.trod enc Tryz.prog w base spare held m 3 [c4] = some x4 := by
        have := hel 4 _ rfl
        simpa [Value.cells, X.c3, X.c9] using this
      obtain ⟨i0, e0, d0, w0⟩ := DataW.trod_int Tryz.underlying3 h0
      obtain ⟨i1, e1, d1, w1⟩ := DataW.trod_string Tryz.underlying9 h1
      obtain ⟨i2, e2, d2, w2⟩ := DataW.trod_string Tryz.underlying9 h2
      obtain ⟨i3, e3, d3, w3⟩ := DataW.trod_int Tryz.underlying3 h3
      obtain ⟨i4, e4, d4, w4⟩ := DataW.trod_int Tryz.underlying3 h4
      simp only [List.cons.injEq, and_true] at e0 e1 e2 e3 e4
      subst e0; subst e1; subst e2; subst e3; subst e4
      simp only [Prod.mk.injEq] at hx
      refine ⟨i0, i1, i2, i3, i4, rfl, ?_, ?_, w0, w1, w2, w3, w4⟩
      · rw [hx.1, d0, d1, d2, d3, d4]; rfl
      · rw [hx.2, d0, d1, d2, d3, d4]; rfl

set_option maxRecDepth 100000 in
theorem shut_name {c : Int} {n s : ByteArray} {a b : Int} (h : nameOK c n s a b) : DataW.Trod enc Tryz.prog w base spare held 23 (nameV c n s a b) (nameD c n s a b) [] := by
  obtain ⟨h0, h1, h2, h3, h4⟩ := h
  refine ⟨2, ?_⟩
  have hu3 := Tryz.underlying3
  have hu9 := Tryz.underlying9
  have := trod_struct_mk (enc := enc) (P := Tryz.prog) (w := w) (base := base) (spare := spare) (held := held) (n := 1) (cs := [.int .i64 c, .string n, .string s, .int .i64 a, .int .i64 b])
    (xs := [(.lit (.int .i64 c), []), (.lit (.string n.data.toList), []), (.lit (.string s.data.toList), []), (.lit (.int .i64 a), []), (.lit (.int .i64 b), [])]) Tryz.underlying23 (by rw [X.c23]; rfl) ?_
  · exact this
  · simp [X.c3, X.c9, DataW.trod, hu3, hu9, h0, h1, h2, h3, h4]
end
end Go.Proofs.YtkmgegblflnjpaaGreatDoor
