/- Chapter 12: pdus and acks as they are read: opened, shut. -/
import Derived.Test.YtcljcgapkojgnaaGreatDoorWh
import Derived.WalkKit
import Derived.ChangeSame
import Derived.ChangeVars
import Derived.ChangeMaps5
import Derived.ChangeSlices
import Derived.WideShapes
import Derived.Below
set_option linter.unusedSimpArgs false
set_option linter.unusedVariables false
namespace Go.Proofs.YtcljcgapkojgnaaGreatDoor
open Go.ChangeShapes Go.WideShapes Go.ChangeAt Go.RowKit Go.Sx

theorem X.c23 : Tryz.prog.cellsOf 23 = 3 := by kernel_rfl
theorem X.c26 : Tryz.prog.cellsOf 26 = 2 := by kernel_rfl
theorem X.c3 : Tryz.prog.cellsOf 3 = 1 := by kernel_rfl
theorem X.c9 : Tryz.prog.cellsOf 9 = 1 := by kernel_rfl
theorem X.c24 : Tryz.prog.cellsOf 24 = 1 := by kernel_rfl

section
variable {H : Type} {enc : TypeId × Value → H} {w : World} {base : Nat} {spare : Nat → Bool} {held : Bool}

def pduVal (i d : Int) (s : ByteArray) : Value := .agg #[.int .i64 i, .int .i64 d, .string s]
def pduD {H : Type} (i d : Int) (s : ByteArray) : DataW H := .agg [.lit (.int .i64 i), .lit (.int .i64 d), .lit (.string s.data.toList)]
def pduOK (i d : Int) (s : ByteArray) : Prop := (Lit.int .i64 i).wf = true ∧ (Lit.int .i64 d).wf = true ∧ s.size ≤ maxLen

set_option maxRecDepth 100000 in
theorem open_pdu {r : Reach} {b0 : Nat} {v : Value} {d : DataW H} {ps : List MemPlace} (hv : Value.okWide Tryz.prog w r b0 23 v) (hd : DataW.Trod enc Tryz.prog w base spare held 23 v d ps) :
    ∃ i j s, v = pduVal i j s ∧ d = pduD i j s ∧ ps = [] ∧ pduOK i j s := by
  obtain ⟨cs, rfl, hsz⟩ := okWide_struct Tryz.underlying23 hv
  rw [X.c23] at hsz
  obtain ⟨fuel, hf⟩ := hd
  obtain ⟨xs, m, _, hx, hl, hn, hel⟩ := DataW.trod_struct Tryz.underlying23 hf
  obtain ⟨cl⟩ := cs
  have hn3 : xs.length = 3 := hn
  have hc3 : cl.length = 3 := hsz
  match xs, hn3 with
  | [x0, x1, x2], _ =>
    match cl, hc3 with
    | [c0, c1, c2], _ =>
      have h0 : DataW.trod enc Tryz.prog w base spare held m 3 [c0] = some x0 := by
        have := hel 0 _ rfl
        simpa [Value.cells, X.c3, X.c9] using this
      have h1 : DataW.trod enc Tryz.prog w base spare held m 3 [c1] = some x1 := by
        have := hel 1 _ rfl
        simpa [Value.cells, X.c3, X.c9] using this
      have h2 : DataW.trod enc Tryz.prog w base spare held m 9 [c2] = some x2 := by
        have := hel 2 _ rfl
        simpa [Value.cells, X.c3, X.c9] using this
      obtain ⟨i0, e0, d0, w0⟩ := DataW.trod_int Tryz.underlying3 h0
      obtain ⟨i1, e1, d1, w1⟩ := DataW.trod_int Tryz.underlying3 h1
      obtain ⟨i2, e2, d2, w2⟩ := DataW.trod_string Tryz.underlying9 h2
      simp only [List.cons.injEq, and_true] at e0 e1 e2
      subst e0; subst e1; subst e2
      simp only [Prod.mk.injEq] at hx
      refine ⟨i0, i1, i2, rfl, ?_, ?_, w0, w1, w2⟩
      · rw [hx.1, d0, d1, d2]; rfl
      · rw [hx.2, d0, d1, d2]; rfl

set_option maxRecDepth 100000 in
theorem shut_pdu {i d : Int} {s : ByteArray} (h : pduOK i d s) : DataW.Trod enc Tryz.prog w base spare held 23 (pduVal i d s) (pduD i d s) [] := by
  obtain ⟨h0, h1, h2⟩ := h
  refine ⟨2, ?_⟩
  have hu3 := Tryz.underlying3
  have hu9 := Tryz.underlying9
  have := trod_struct_mk (enc := enc) (P := Tryz.prog) (w := w) (base := base) (spare := spare) (held := held) (n := 1) (cs := [.int .i64 i, .int .i64 d, .string s])
    (xs := [(.lit (.int .i64 i), []), (.lit (.int .i64 d), []), (.lit (.string s.data.toList), [])]) Tryz.underlying23 (by rw [X.c23]; rfl) ?_
  · exact this
  · simp [X.c3, X.c9, DataW.trod, hu3, hu9, h0, h1, h2]

/-- Cells that are read lie in what is held. -/
theorem gcells_of {a : Addr} {zs : List Int} (h : ∀ i, i < zs.length → w.cell? (a.add i) = some (.int .i64 (zs.getD i 0))) {L : List Int} (hL : ∃ t, zs = L ++ t) : GCells (fun b => w.heap[b]?) a (L.map fun n => .int .i64 n) := by
  obtain ⟨t, rfl⟩ := hL
  intro i v hv
  rw [List.getElem?_map] at hv
  cases hi : L[i]? with
  | none => rw [hi] at hv; cases hv
  | some n =>
    rw [hi] at hv
    simp only [Option.map_some, Option.some.injEq] at hv
    subst hv
    have hlt := (List.getElem?_eq_some_iff.1 hi).1
    have h1 := h i (by simp; omega)
    have h2 : (L ++ t).getD i 0 = n := by rw [List.getD_eq_getElem?_getD, List.getElem?_append_left hlt, hi]; rfl
    rw [h2] at h1
    unfold World.cell? at h1
    split at h1
    · rename_i c e fr hh
      split at h1
      · cases h1
      · rename_i hsp
        exact ⟨c, e, fr, hh, h1, by simpa using hsp⟩
    · cases h1

set_option maxRecDepth 100000 in
theorem open_acks {r : Reach} {b0 : Nat} {v : Value} {d : DataW H} {ps : List MemPlace} (hv : Value.okWide Tryz.prog w r b0 26 v) (hd : DataW.Trod enc Tryz.prog w 0 (fun _ => true) held 26 v d ps) :
    ∃ i u L, v = .agg #[.int .i64 i, u] ∧ IsInts u (fun b => w.heap[b]?) L ∧ ∀ w', Below w.heap.size w w' → DataW.Trod enc Tryz.prog w' 0 (fun b => decide (b < w.heap.size)) held 26 v d ps := by
  obtain ⟨cs, rfl, hsz⟩ := okWide_struct Tryz.underlying26 hv
  rw [X.c26] at hsz
  obtain ⟨fuel, hf⟩ := hd
  obtain ⟨xs, m, _, hx, hl, hn, hel⟩ := DataW.trod_struct Tryz.underlying26 hf
  obtain ⟨cl⟩ := cs
  have hn2 : xs.length = 2 := hn
  have hc2 : cl.length = 2 := hsz
  match xs, hn2 with
  | [x0, x1], _ =>
    match cl, hc2 with
    | [c0, c1], _ =>
      have h0 : DataW.trod enc Tryz.prog w 0 (fun _ => true) held m 3 [c0] = some x0 := by
        have := hel 0 _ rfl
        simpa [Value.cells, X.c3, X.c24] using this
      have h1 : DataW.trod enc Tryz.prog w 0 (fun _ => true) held m 24 [c1] = some x1 := by
        have := hel 1 _ rfl
        simpa [Value.cells, X.c3, X.c24] using this
      obtain ⟨i0, e0, d0, w0⟩ := DataW.trod_int Tryz.underlying3 h0
      simp only [List.cons.injEq, and_true] at e0
      subst e0
      simp only [Prod.mk.injEq] at hx
      have mk : ∀ {w' : World}, (∃ q, DataW.trod enc Tryz.prog w' 0 (fun b => decide (b < w.heap.size)) held (q + 2) 24 [c1] = some x1) → DataW.Trod enc Tryz.prog w' 0 (fun b => decide (b < w.heap.size)) held 26 (.agg #[.int .i64 i0, c1]) d ps := by
        rintro w' ⟨q, hq⟩
        refine ⟨q + 3, ?_⟩
        have := trod_struct_mk (enc := enc) (P := Tryz.prog) (w := w') (base := 0) (spare := fun b => decide (b < w.heap.size)) (held := held) (n := q + 2) (cs := [.int .i64 i0, c1]) (xs := [(.lit (.int .i64 i0), []), x1]) Tryz.underlying26 (by rw [X.c26]; rfl) (by
          have h3 := trod_int_mk (enc := enc) (P := Tryz.prog) (w := w') (base := 0) (spare := fun b => decide (b < w.heap.size)) (held := held) (q + 1) Tryz.underlying3 w0
          simp [X.c3, X.c24, h3, hq])
        rw [hx.1, hx.2, d0]
        exact this
      rcases open_ints Tryz.underlying24 Tryz.underlying3 X.c3 h1 with ⟨e1, hx1⟩ | ⟨a, len, cap, zs, e1, hb, hlc, hcm, hz, hx1, hcell, hwf⟩
      · simp only [List.cons.injEq, and_true] at e1
        subst e1
        refine ⟨i0, _, [], rfl, ⟨none, 0, rfl, by simp, .inl rfl⟩, fun w' hbel => mk ⟨0, ?_⟩⟩
        have hu := Tryz.underlying24
        rw [hx1]
        simp [DataW.trod, hu]
      · simp only [List.cons.injEq, and_true] at e1
        subst e1
        have hlz : len ≤ zs.length := by rw [hz]; simp; omega
        refine ⟨i0, _, zs.take len, rfl, ⟨some a, cap, by simp [Nat.min_eq_left hlz], by simp; omega, .inr ⟨a, rfl, gcells_of hcell ⟨zs.drop len, by simp⟩⟩⟩, fun w' hbel => mk ⟨0, ?_⟩⟩
        have hcell' : ∀ i, i < zs.length → w'.cell? (a.add i) = some (.int .i64 (zs.getD i 0)) := fun i hi => by
          have h2 := hcell i hi
          have hlt : (a.add i).block < w.heap.size := by
            rcases Nat.lt_or_ge (a.add i).block w.heap.size with h | h
            · exact h
            · simp [World.cell?, Array.getElem?_eq_none h] at h2
          rw [hbel.cell hlt]
          exact h2
        rw [hx1]
        refine shut_ints 0 Tryz.underlying24 Tryz.underlying3 X.c3 hb hlc hcm ?_ hcell' hwf
        have hz : zs.length = cap := hz
        by_cases h0z : zs.length = 0
        · split <;> omega
        · have h2 := hcell 0 (by omega)
          have hz0 : a.add 0 = a := by simp [Addr.add]
          rw [hz0] at h2
          have hlt : a.block < w.heap.size := by
            rcases Nat.lt_or_ge a.block w.heap.size with h | h
            · exact h
            · simp [World.cell?, Array.getElem?_eq_none h] at h2
          simp [hlt, hz]
end
end Go.Proofs.YtcljcgapkojgnaaGreatDoor
