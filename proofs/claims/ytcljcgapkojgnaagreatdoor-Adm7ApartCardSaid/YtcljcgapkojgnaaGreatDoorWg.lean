/- Chapter 12: from the row's condition on the package-level variables to what the runs lean on. -/
import Derived.Test.YtcljcgapkojgnaaGreatDoorUu
import Derived.Test.YtcljcgapkojgnaaGreatDoorRows
import Derived.LaidLaws
import Derived.LaidHandle
import Derived.LaidMore
import Derived.ProofKit
import Derived.OpenShut
import Derived.Deep.Strs
set_option linter.unusedSimpArgs false
set_option linter.unusedVariables false
namespace Go.Sx
open Go.Proofs Go.RowKit Go.Proofs.YtcljcgapkojgnaaGreatDoor

/-- The condition's variables but the handle. -/
def laidD : List (String × DataW Unit) := Rows.adm7ApartRow.laid.filter fun x => x.2.handleName?.isNone

section
variable {P : Program} {w : World}

/-- What the condition tells of one variable. -/
def LaidAt (P : Program) (w : World) (x : String × DataW Unit) (g : Nat) (cs : Array Value) (p : List MemPlace) : Prop :=
  ∃ t fuel, P.globalNamed x.1 = some g ∧ (P.globals[g]?).map (·.type) = some t ∧ w.var? P x.1 = some cs ∧ DataW.trod (fun _ => ()) P w 0 (fun _ => true) false fuel t cs.toList = some (x.2, p)

theorem laid_at : ∀ {l : List (String × DataW Unit)} {ps : List MemPlace}, DataW.LaidVars P w l ps → ∀ {x}, x ∈ l → ∃ g cs p, LaidAt P w x g cs p ∧ ∀ y ∈ MemPlace.row ⟨g, 0, none⟩ cs.size ++ p, y ∈ ps
  | [], _, _, _, hx => by cases hx
  | (n, d) :: l, ps, h, x, hx => by
    obtain ⟨g, t, cs, fuel, p, q, h1, h2, h3, h4, h5, rfl⟩ := h
    rcases List.mem_cons.1 hx with rfl | hx
    · exact ⟨g, cs, p, ⟨t, fuel, h1, h2, h3, h4⟩, fun y hy => by simp only [List.mem_append] at hy ⊢; exact .inl hy⟩
    · obtain ⟨g', cs', p', h6, h7⟩ := laid_at h5 hx
      exact ⟨g', cs', p', h6, fun y hy => List.mem_append_right _ (h7 y hy)⟩

theorem laid_two : ∀ {l : List (String × DataW Unit)} {ps : List MemPlace}, DataW.LaidVars P w l ps → ps.Nodup → ∀ {i j : Nat} {x y}, i < j → l[i]? = some x → l[j]? = some y →
    ∃ g cs p g' cs' p', LaidAt P w x g cs p ∧ LaidAt P w y g' cs' p' ∧ (∀ z ∈ p, z ∉ p') ∧ (∀ z ∈ MemPlace.row ⟨g, 0, none⟩ cs.size ++ p, z ∈ ps) ∧ (∀ z ∈ MemPlace.row ⟨g', 0, none⟩ cs'.size ++ p', z ∈ ps)
  | [], _, _, _, i, j, x, y, _, hx, _ => by simp at hx
  | (n, d) :: l, ps, h, hnd, i, j, x, y, hij, hx, hy => by
    obtain ⟨g, t, cs, fuel, p, q, h1, h2, h3, h4, h5, rfl⟩ := h
    obtain ⟨j, rfl⟩ : ∃ m, j = m + 1 := ⟨j - 1, by omega⟩
    have hy : l[j]? = some y := by simpa using hy
    have hnq := (List.nodup_append.1 hnd)
    cases i with
    | zero =>
      have hx : (n, d) = x := by simpa using hx
      subst hx
      obtain ⟨g', cs', p', h6, h7⟩ := laid_at h5 (List.mem_of_getElem? hy)
      refine ⟨g, cs, p, g', cs', p', ⟨t, fuel, h1, h2, h3, h4⟩, h6, fun z hz hz' => ?_, fun z hz => List.mem_append_left _ hz, fun z hz => List.mem_append_right _ (h7 z hz)⟩
      exact hnq.2.2 z (List.mem_append_right _ hz) z (h7 z (List.mem_append_right _ hz')) rfl
    | succ i =>
      have hx : l[i]? = some x := by simpa using hx
      obtain ⟨g1, c1, p1, g2, c2, p2, a1, a2, a3, a4, a5⟩ := laid_two h5 hnq.2.1 (by omega) hx hy
      exact ⟨g1, c1, p1, g2, c2, p2, a1, a2, a3, fun z hz => List.mem_append_right _ (a4 z hz), fun z hz => List.mem_append_right _ (a5 z hz)⟩
end

theorem X.star : "*" ++ "errors.errorString" = "*errors.errorString" := by decide
set_option maxRecDepth 100000 in
theorem X.rowES (u : TypeId) (h : Tryz.prog.typeName? 3 u = some "*errors.errorString") : u = 277 :=
  typeName_ptr_named (nm := "errors.errorString") (by rw [X.star]; kernel_rfl) (by kernel_rfl) (by decide) u (by rw [X.star]; exact h)
theorem X.cellsES : Tryz.prog.cellsOf 279 = 1 := by kernel_rfl
theorem X.cells9 : Tryz.prog.cellsOf 9 = 1 := by kernel_rfl
theorem X.cells3 : Tryz.prog.cellsOf 3 = 1 := by kernel_rfl

/-- What is told of one sentinel. -/
def SentAt (w : World) (g : Nat) (a : Addr) (p : List MemPlace) : Prop :=
  (∃ c t, w.heap[g]? = some (.cells c t (0, 0)) ∧ c[0]? = some (.iface 277 (.pointer (some a)))) ∧ (∃ c t, w.heap[a.block]? = some (.cells c t (0, 0))) ∧ a.spot = none ∧ p = MemPlace.row a 1

set_option maxRecDepth 100000 in
theorem sent_of {w : World} {ps : List MemPlace} (hps : ∀ b off, MemPlace.cell b off ∈ ps →
    (∃ c t, w.heap[b]? = some (.cells c t (0, 0))) ∧ ∀ u v, w.cell? ⟨b, off, none⟩ = some (.iface u v) → Value.okWide Tryz.prog w .any 0 u v) {n : String} {text : List UInt8} {g : Nat} {cs : Array Value} {p : List MemPlace}
    (h : LaidAt Tryz.prog w (n, .iface "*errors.errorString" (.ptr (.agg [.lit (.string text)]))) g cs p) (hmem : ∀ y ∈ MemPlace.row ⟨g, 0, none⟩ cs.size ++ p, y ∈ ps)
    (ht : (Tryz.prog.globals[g]?).map (·.type) = some 46) : ∃ a, SentAt w g a p := by
  obtain ⟨t, fuel, h1, h2, h3, h4⟩ := h
  obtain rfl := Option.some.inj (h2.symm.trans ht)
  obtain ⟨l⟩ := cs
  have hcell : ∀ i, w.cell? ⟨g, i, none⟩ = l[i]? := fun i => by simpa using World.var?_cell h1 h3 i
  have hok : ∀ u v, l = [.iface u v] → Value.okWide Tryz.prog w .any 0 u v := fun u v e => by
    subst e
    exact (hps g 0 (hmem _ (by simp [MemPlace.row]))).2 u v (by simpa using hcell 0)
  obtain ⟨a, s, rfl, hc, _, _, rfl⟩ := errorString_of_trod Tryz.underlying46 X.rowES Tryz.underlying277 Tryz.underlying279 rfl rfl Tryz.underlying9 X.cellsES X.cells9 h4 hok
  obtain ⟨c0, t0, hb0⟩ := (hps g 0 (hmem _ (by simp [MemPlace.row]))).1
  obtain ⟨c1, t1, hb1⟩ := (hps a.block a.off (hmem _ (by simp [MemPlace.row]))).1
  refine ⟨a, ⟨c0, t0, hb0, ?_⟩, ⟨c1, t1, hb1⟩, ?_, rfl⟩
  · have := hcell 0
    simpa [World.cell?, hb0] using this
  · cases hsp : a.spot with
    | none => rfl
    | some sp =>
      obtain ⟨ab, ao, asp⟩ := a
      simp only at hsp
      subst hsp
      simp [World.cell?, hb1] at hc

/-- The cells of a table of structs of whole numbers. -/
theorem table_cell {P : Program} {w : World} {t e : TypeId} {n fuel : Nat} {fs : Array Field} {cs : List Value} {p : List MemPlace} {rows : List (List Int)} (ht : P.underlying t = some (.array n e)) (he : P.underlying e = some (.struct fs))
    (h3 : P.underlying 3 = some (.int .i64)) (c3 : P.cellsOf 3 = 1) (hf3 : ∀ f ∈ fs, f.type = 3)
    (h : DataW.trod (fun _ => ()) P w 0 (fun _ => true) false fuel t cs = some (.agg (rows.map fun r => .agg (r.map fun m => .lit (.int .i64 m))), p)) :
    ∀ (i : Nat) (r : List Int) (j : Nat) (f : Field) (m : Int), rows[i]? = some r → fs[j]? = some f → r[j]? = some m → f.offset < P.cellsOf e → cs[i * P.cellsOf e + f.offset]? = some (.int .i64 m) := by
  intro i r j f m hi hj hm hlt
  obtain ⟨xs, m', _, hx, hl, hn, hel⟩ := DataW.trod_array ht h
  simp only [Prod.mk.injEq, DataW.agg.injEq] at hx
  have hlen : rows.length = xs.length := by have := congrArg List.length hx.1; simpa using this
  have hin : i < n := by rw [← hn, ← hlen]; exact (List.getElem?_eq_some_iff.1 hi).1
  have hxi : ∃ y, xs[i]? = some y ∧ y.1 = .agg (r.map fun m => .lit (.int .i64 m)) := by
    have := congrArg (·[i]?) hx.1
    simp only [List.getElem?_map, hi, Option.map_some] at this
    cases hxx : xs[i]? with
    | none => rw [hxx] at this; simp at this
    | some y => rw [hxx] at this; simp at this; exact ⟨y, rfl, this.symm⟩
  obtain ⟨y, hy, hy1⟩ := hxi
  have h1 := hel i hin
  rw [hy] at h1
  obtain ⟨ys, n', _, hye, hl2, hn2, hf⟩ := DataW.trod_struct he h1
  rw [hye] at hy1
  simp only [DataW.agg.injEq] at hy1
  have h2 := hf j f hj
  rw [hf3 f (Array.mem_of_getElem? hj), c3] at h2
  have hyj : ∃ z, ys[j]? = some z ∧ z.1 = .lit (.int .i64 m) := by
    have := congrArg (·[j]?) hy1
    simp only [List.getElem?_map, hm, Option.map_some] at this
    cases hzz : ys[j]? with
    | none => rw [hzz] at this; simp at this
    | some z => rw [hzz] at this; simp at this; exact ⟨z, rfl, this⟩
  obtain ⟨z, hz, hz1⟩ := hyj
  rw [hz] at h2
  obtain ⟨q, e1, e2, _⟩ := DataW.trod_int h3 h2
  have hq : q = m := by
    rw [e2] at hz1
    simpa using hz1
  subst hq
  have := congrArg (·[0]?) e1
  simp only [List.getElem?_take, List.getElem?_drop] at this
  simpa [hlt] using this
end Go.Sx
