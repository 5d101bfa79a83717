/- Chapter 14: the condition gives what the runs lean on. -/
import Derived.Test.YtcdjmnmcjlpllaaGreatDoorQh
set_option linter.unusedSimpArgs false
set_option linter.unusedVariables false
namespace Go.Sx
open Go.Proofs Go.RowKit Go.Proofs.YtcdjmnmcjlpllaaGreatDoor

theorem handle_part : (Rows.extApartRow.laid.filter fun x => x.2.handleName?.isSome) = [("errors.errorType", Rows.laid_errors_errorType)] := by kernel_rfl
theorem X.et : Tryz.prog.globalNamed "errors.errorType" = some 8 := by kernel_rfl
theorem X.rt : (Tryz.prog.cutTypes.find? (·.1 == "internal/reflectlite.rtype")).map (·.2) = some 226 := by kernel_rfl
theorem X.oneRow : ((List.range 307).filter fun t => Tryz.prog.rowNamed t [101, 114, 114, 111, 114]) = [96] := by kernel_rfl
theorem X.size : Tryz.prog.types.size = 307 := by kernel_rfl
theorem X.hh : typeHandle Tryz.prog 96 = .pointer (some ⟨23, 96, none⟩) := by kernel_rfl

section
variable {W : World}

set_option maxRecDepth 100000 in
theorem handle_of_laid (h : handlesMet Tryz.prog [("errors.errorType", Rows.laid_errors_errorType)] W) : ∃ t fr, W.heap[8]? = some (.cells #[.iface 226 (.agg #[.pointer (some ⟨23, 96, none⟩)])] t fr) := by
  obtain ⟨name, u, ty, e1, e2, e3, e4, e5⟩ := h _ (List.mem_singleton.2 rfl)
  have en : name = [101, 114, 114, 111, 114] := (Option.some.inj e1).symm
  subst en
  obtain rfl := Option.some.inj (X.rt.symm.trans e2)
  have hm : ty ∈ (List.range 307).filter fun t => Tryz.prog.rowNamed t [101, 114, 114, 111, 114] := List.mem_filter.2 ⟨List.mem_range.2 (by rw [← X.size]; exact e3), e4⟩
  rw [X.oneRow] at hm
  obtain rfl := List.mem_singleton.1 hm
  rw [X.hh] at e5
  exact var_heap X.et e5

theorem laid_parts (h : laidMetH Tryz.prog Rows.extApartRow.laid W) : laidMet Tryz.prog laidD W ∧ handlesMet Tryz.prog [("errors.errorType", Rows.laid_errors_errorType)] W := by
  unfold laidMetH at h
  rw [handle_part] at h
  exact h

theorem intsD_get {L : List Int} {i : Nat} {d : DV} (h : (intsD L)[i]? = some d) : ∃ m, L[i]? = some m ∧ d = .int .i64 (.lit m) := by
  unfold intsD at h
  rw [List.getElem?_map] at h
  cases hl : L[i]? with
  | none => rw [hl] at h; simp at h
  | some m => rw [hl] at h; simp at h; exact ⟨m, rfl, h.symm⟩

/-- Places that are told of apart are two. -/
theorem sent_ne {ps : List MemPlace} (hl : DataW.LaidVars Tryz.prog W laidD ps) (hnd : ps.Nodup) (hps : ∀ b off, MemPlace.cell b off ∈ ps →
    (∃ c t, W.heap[b]? = some (.cells c t (0, 0))) ∧ ∀ u v, W.cell? ⟨b, off, none⟩ = some (.iface u v) → Value.okWide Tryz.prog W .any 0 u v) {i j : Nat} (hi : i ∈ errG) (hj : j ∈ errG) (hij : i ≠ j) : sAddr W i ≠ sAddr W j := by
  obtain ⟨p, n, s, h1, h2, h3⟩ := sent_get hi
  obtain ⟨q, m, r, g1, g2, g3⟩ := sent_get hj
  have key : ∀ {p q : Nat} {n m : String} {s r : List UInt8} {i j : Nat}, p < q → laidD[p]? = some (n, DataW.iface "*errors.errorString" (.ptr (.agg [.lit (.string s)]))) → Tryz.prog.globalNamed n = some i → (Tryz.prog.globals[i]?).map (·.type) = some 96 →
      laidD[q]? = some (m, DataW.iface "*errors.errorString" (.ptr (.agg [.lit (.string r)]))) → Tryz.prog.globalNamed m = some j → (Tryz.prog.globals[j]?).map (·.type) = some 96 → sAddr W i ≠ sAddr W j := by
    intro p q n m s r i j hpq h1 h2 h3 g1 g2 g3
    obtain ⟨a1, c1, p1, a2, c2, p2, l1, l2, hd, m1, m2⟩ := laid_two hl hnd hpq h1 g1
    have e1 : a1 = i := by obtain ⟨_, _, x, _⟩ := l1; exact Option.some.inj (x.symm.trans h2)
    have e2 : a2 = j := by obtain ⟨_, _, x, _⟩ := l2; exact Option.some.inj (x.symm.trans g2)
    subst e1; subst e2
    obtain ⟨x, hx⟩ := sent_of hps l1 m1 h3
    obtain ⟨y, hy⟩ := sent_of hps l2 m2 g3
    rw [sAddr_of hx, sAddr_of hy]
    obtain ⟨_, _, hx1, rfl⟩ := hx
    obtain ⟨_, _, hy1, rfl⟩ := hy
    intro e
    subst e
    exact hd (.cell x.block x.off) (by simp [MemPlace.row]) (by simp [MemPlace.row])
  rcases Nat.lt_trichotomy p q with h | h | h
  · exact key h h1 h2 h3 g1 g2 g3
  · subst h
    rw [h1] at g1
    cases g1
    exact absurd (Option.some.inj (h2.symm.trans g2)) hij
  · exact fun e => key h g1 g2 g3 h1 h2 h3 e.symm

theorem errG_lt : (errG.all fun i => decide (i < 21)) = true := by decide

set_option maxRecDepth 100000 in
theorem glob_of_laid (h : laidMetH Tryz.prog Rows.extApartRow.laid W) (is : List Int) : ∃ a, GlobR ⟨{ i := is, a := a }, fun _ => 0, 0, fun b => W.heap[b]?⟩ gl0 := by
  obtain ⟨hd, hh⟩ := laid_parts h
  obtain ⟨ps, hl, hnd, hps⟩ := hd
  let a : List Addr := (List.range 21).map (sAddr W)
  have ha : ∀ i ∈ errG, a[i]? = some (sAddr W i) := fun i hi => by
    have := of_decide_eq_true (List.all_eq_true.1 errG_lt i hi)
    simp [a, this]
  have hsent : ∀ i ∈ errG, ∃ p, SentAt W i (sAddr W i) p := fun i hi => by
    obtain ⟨p, n, s, h1, h2, h3⟩ := sent_get hi
    obtain ⟨g, cs, q, l1, m1⟩ := laid_at hl (List.mem_of_getElem? h1)
    have e1 : g = i := by obtain ⟨_, _, x, _⟩ := l1; exact Option.some.inj (x.symm.trans h2)
    subst e1
    obtain ⟨x, hx⟩ := sent_of hps l1 m1 h3
    exact ⟨q, by rw [sAddr_of hx]; exact hx⟩
  refine ⟨a, ?_, ?_, ?_⟩
  · intro g cs hlk
    have hm := look_mem hlk
    simp only [gl0, List.mem_cons, Prod.mk.injEq, List.mem_map] at hm
    rcases hm with ⟨rfl, rfl⟩ | ⟨rfl, rfl⟩ | ⟨rfl, rfl⟩ | ⟨i, hi, rfl, rfl⟩
    · obtain ⟨t, fr, h8⟩ := handle_of_laid hh
      refine ⟨_, _, _, h8, fun i d hi => ?_⟩
      cases i with
      | zero =>
        simp at hi
        subst hi
        exact ⟨_, rfl, fun k' _ => by simp [DV.den, DV.dens, Ref.den, Base.den, E.ii, Addr.add]⟩
      | succ i => simp at hi
    · obtain ⟨c, t, fr, h0, hc⟩ := pairs_cells hl
      refine ⟨c, t, fr, h0, fun i d hi => ?_⟩
      obtain ⟨m, hm, rfl⟩ := intsD_get hi
      exact ⟨_, hc i m hm, mk_int (isI_lit _)⟩
    · obtain ⟨c, t, fr, h0, hc⟩ := rooms_cells hl
      refine ⟨c, t, fr, h0, fun i d hi => ?_⟩
      obtain ⟨m, hm, rfl⟩ := intsD_get hi
      exact ⟨_, hc i m hm, mk_int (isI_lit _)⟩
    · obtain ⟨p, ⟨c, t, h1, h2⟩, _, hsp, _⟩ := hsent i hi
      refine ⟨c, t, (0, 0), h1, fun j d hj => ?_⟩
      cases j with
      | zero =>
        simp at hj
        subst hj
        refine ⟨_, h2, fun k' hle => ?_⟩
        obtain ⟨r, hr⟩ := hle.ρ.a
        have : k'.ρ.a[i]? = some (sAddr W i) := by
          rw [← hr]
          show (a ++ r)[i]? = _
          rw [List.getElem?_append_left (List.getElem?_eq_some_iff.1 (ha i hi)).1]
          exact ha i hi
        simp [DV.den, Ref.den, Base.den, E.ii, this, Addr.add]
      | succ j => simp at hj
  · intro i hi
    obtain ⟨p, _, ⟨c, t, h2⟩, _⟩ := hsent i hi
    exact ⟨_, c, t, ha i hi, h2⟩
  · intro i hi j hj hij e
    have hi' : i ∈ errG := hi
    have hj' : j ∈ errG := hj
    have e : a[i]? = a[j]? := e
    rw [ha i hi', ha j hj'] at e
    exact sent_ne hl hnd hps hi' hj' hij (Option.some.inj e)
end
end Go.Sx
