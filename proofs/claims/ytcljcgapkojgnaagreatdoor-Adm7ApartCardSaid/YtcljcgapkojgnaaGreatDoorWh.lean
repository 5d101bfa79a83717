/- Chapter 12: what the condition gives the runs; the law's row. -/
import Derived.Test.YtcljcgapkojgnaaGreatDoorWg
import Derived.Lib.LaidTab
set_option linter.unusedSimpArgs false
set_option linter.unusedVariables false
namespace Go.Sx
open Go.Proofs Go.RowKit Go.Proofs.YtcljcgapkojgnaaGreatDoor

def sentOf? : String × DataW Unit → Option (String × List UInt8)
  | (n, .iface t (.ptr (.agg [.lit (.string s)]))) => if t = "*errors.errorString" then some (n, s) else none
  | _ => none

theorem sentOf_spec {x : String × DataW Unit} {n : String} {s : List UInt8} (h : sentOf? x = some (n, s)) : x = (n, .iface "*errors.errorString" (.ptr (.agg [.lit (.string s)]))) := by
  unfold sentOf? at h
  split at h
  · split at h
    · rename_i ht
      subst ht
      simp only [Option.some.injEq, Prod.mk.injEq] at h
      obtain ⟨rfl, rfl⟩ := h
      rfl
    · cases h
  · cases h

/-- The sentinels: their numbers, their places in the condition, their names. -/
def sents : List (Nat × Nat × String) := [(0, 13, "postrider/adm7.errRecord"), (2, 6, "postrider/head.errMajor"), (3, 7, "postrider/head.errNum"), (4, 8, "postrider/head.errShort"), (5, 9, "postrider/head.errForm"), (8, 4, "postrider/nums.errNum"), (9, 3, "postrider/nums.errWidth"), (10, 5, "postrider/nums.errShort"), (13, 12, "strconv.ErrSyntax"), (14, 11, "strconv.ErrRange")]
theorem sents_ok : (sents.all fun x => (((laidD[x.2.1]?).bind sentOf?).map (·.1) == some x.2.2) && (Tryz.prog.globalNamed x.2.2 == some x.1) && ((Tryz.prog.globals[x.1]?).map (·.type) == some 46)) = true := by kernel_rfl
theorem sents_all : (err12.all fun i => sents.any fun x => x.1 == i) = true := by kernel_rfl

theorem sent_get {i : Nat} (hi : i ∈ err12) : ∃ (p : Nat) (n : String) (s : List UInt8), laidD[p]? = some (n, DataW.iface "*errors.errorString" (.ptr (.agg [.lit (.string s)]))) ∧ Tryz.prog.globalNamed n = some i ∧ (Tryz.prog.globals[i]?).map (·.type) = some 46 := by
  have h1 := List.all_eq_true.1 sents_all i hi
  obtain ⟨⟨g, p, n⟩, hx, he⟩ := List.any_eq_true.1 h1
  have he := beq_iff_eq.1 he
  simp only at he
  subst he
  have h2 := List.all_eq_true.1 sents_ok _ hx
  simp only [Bool.and_eq_true, beq_iff_eq] at h2
  obtain ⟨⟨h3, h4⟩, h5⟩ := h2
  cases hl : laidD[p]? with
  | none => rw [hl] at h3; simp at h3
  | some y =>
    rw [hl] at h3
    simp only [Option.bind_some] at h3
    cases hs : sentOf? y with
    | none => rw [hs] at h3; simp at h3
    | some z =>
      obtain ⟨m, s⟩ := z
      rw [hs] at h3
      simp only [Option.map_some, Option.some.injEq] at h3
      subst h3
      exact ⟨p, m, s, by rw [hl, sentOf_spec hs], h4, h5⟩

/-- Where a sentinel's variable points to. -/
def sAddr (W : World) (g : Nat) : Addr := match W.heap[g]? with
  | some (.cells c _ _) => (match (c[0]? : Option Value) with | some (.iface _ (.pointer (some a))) => a | _ => ⟨0, 0, none⟩)
  | _ => ⟨0, 0, none⟩
theorem sAddr_of {W : World} {g : Nat} {a : Addr} {p : List MemPlace} (h : SentAt W g a p) : sAddr W g = a := by
  obtain ⟨⟨c, t, h1, h2⟩, _⟩ := h
  simp [sAddr, h1, h2]

theorem var_heap {P : Program} {w : World} {n : String} {g : Nat} {cs : Array Value} (hg : P.globalNamed n = some g) (h : w.var? P n = some cs) : ∃ t fr, w.heap[g]? = some (.cells cs t fr) := by
  unfold World.var? at h
  rw [hg] at h
  simp only [Option.bind_some] at h
  split at h
  · rename_i c t fr hh
    cases h
    exact ⟨t, fr, hh⟩
  · cases h

theorem c180 : Tryz.prog.cellsOf 180 = 3 := by kernel_rfl
theorem rooms_at : laidD[10]? = some ("postrider/head.rooms", .agg (([[0, 24, 0], [1, 256, 24], [2, 65536, 25], [4, 4294967296, 26], [8, 281474976710656, 27]] : List (List Int)).map fun r => .agg (r.map fun m => .lit (.int .i64 m)))) := by kernel_rfl
theorem rooms_g : Tryz.prog.globalNamed "postrider/head.rooms" = some 7 := by kernel_rfl
theorem rooms_t : (Tryz.prog.globals[7]?).map (·.type) = some 212 := by kernel_rfl

section
variable {W : World} {ps : List MemPlace}

set_option maxRecDepth 100000 in
theorem rooms_cells (hl : DataW.LaidVars Tryz.prog W laidD ps) : ∃ cs t fr, W.heap[7]? = some (.cells cs t fr) ∧ ∀ (i : Nat) (m : Int), ([0, 24, 0, 1, 256, 24, 2, 65536, 25, 4, 4294967296, 26, 8, 281474976710656, 27] : List Int)[i]? = some m → cs[i]? = some (.int .i64 m) := by
  obtain ⟨g, cs, p, ⟨t, fuel, h1, h2, h3, h4⟩, _⟩ := laid_at hl (List.mem_of_getElem? rooms_at)
  obtain rfl := Option.some.inj (h1.symm.trans rooms_g)
  obtain rfl := Option.some.inj (h2.symm.trans rooms_t)
  obtain ⟨t', fr, hh⟩ := var_heap h1 h3
  refine ⟨cs, t', fr, hh, ?_⟩
  have hce := c180
  have T := table_cell Tryz.underlying212 Tryz.underlying180 Tryz.underlying3 X.cells3 (by intro f hf; simp at hf; rcases hf with rfl | rfl | rfl <;> rfl) h4
  simp only [Array.getElem?_toList] at T
  intro i m hm
  exact match i, m, hm with
    | 0, _, rfl => by simpa [hce] using T 0 _ 0 _ _ rfl rfl rfl (by rw [hce]; decide)
    | 1, _, rfl => by simpa [hce] using T 0 _ 1 _ _ rfl rfl rfl (by rw [hce]; decide)
    | 2, _, rfl => by simpa [hce] using T 0 _ 2 _ _ rfl rfl rfl (by rw [hce]; decide)
    | 3, _, rfl => by simpa [hce] using T 1 _ 0 _ _ rfl rfl rfl (by rw [hce]; decide)
    | 4, _, rfl => by simpa [hce] using T 1 _ 1 _ _ rfl rfl rfl (by rw [hce]; decide)
    | 5, _, rfl => by simpa [hce] using T 1 _ 2 _ _ rfl rfl rfl (by rw [hce]; decide)
    | 6, _, rfl => by simpa [hce] using T 2 _ 0 _ _ rfl rfl rfl (by rw [hce]; decide)
    | 7, _, rfl => by simpa [hce] using T 2 _ 1 _ _ rfl rfl rfl (by rw [hce]; decide)
    | 8, _, rfl => by simpa [hce] using T 2 _ 2 _ _ rfl rfl rfl (by rw [hce]; decide)
    | 9, _, rfl => by simpa [hce] using T 3 _ 0 _ _ rfl rfl rfl (by rw [hce]; decide)
    | 10, _, rfl => by simpa [hce] using T 3 _ 1 _ _ rfl rfl rfl (by rw [hce]; decide)
    | 11, _, rfl => by simpa [hce] using T 3 _ 2 _ _ rfl rfl rfl (by rw [hce]; decide)
    | 12, _, rfl => by simpa [hce] using T 4 _ 0 _ _ rfl rfl rfl (by rw [hce]; decide)
    | 13, _, rfl => by simpa [hce] using T 4 _ 1 _ _ rfl rfl rfl (by rw [hce]; decide)
    | 14, _, rfl => by simpa [hce] using T 4 _ 2 _ _ rfl rfl rfl (by rw [hce]; decide)
    | n + 15, _, hm => by simp at hm

theorem bits_at : laidD[14]? = some ("postrider/adm7.bits", Lib.tabData .i64 [1, 4, 8, 16]) := by kernel_rfl
theorem bits_g : Tryz.prog.globalNamed "postrider/adm7.bits" = some 1 := by kernel_rfl
theorem bits_t : (Tryz.prog.globals[1]?).map (·.type) = some 79 := by kernel_rfl
theorem c79 : Tryz.prog.cellsOf 79 = 4 := by kernel_rfl
set_option maxRecDepth 100000 in
theorem bits_cells (hl : DataW.LaidVars Tryz.prog W laidD ps) : ∃ cs t fr, W.heap[1]? = some (.cells cs t fr) ∧ ∀ (i : Nat) (m : Int), ([1, 4, 8, 16] : List Int)[i]? = some m → cs[i]? = some (.int .i64 m) := by
  obtain ⟨g, cs, p, ⟨t, fuel, h1, h2, h3, h4⟩, _⟩ := laid_at hl (List.mem_of_getElem? bits_at)
  obtain rfl := Option.some.inj (h1.symm.trans bits_g)
  obtain rfl := Option.some.inj (h2.symm.trans bits_t)
  obtain ⟨t', fr, hh⟩ := var_heap h1 h3
  have := Lib.cells_of_tab Tryz.underlying79 Tryz.underlying3 X.cells3 c79 h4
  refine ⟨cs, t', fr, hh, fun i m hm => ?_⟩
  rw [← Array.getElem?_toList, this, List.getElem?_map, hm]
  rfl
end
end Go.Sx
/- Chapter 12: the condition gives what the runs lean on. -/
namespace Go.Sx
open Go.Proofs Go.RowKit Go.Proofs.YtcljcgapkojgnaaGreatDoor

theorem handle_part : (Rows.adm7ApartRow.laid.filter fun x => x.2.handleName?.isSome) = [("errors.errorType", Rows.laid_errors_errorType)] := by kernel_rfl
theorem X.et : Tryz.prog.globalNamed "errors.errorType" = some 6 := by kernel_rfl
theorem X.rt : (Tryz.prog.cutTypes.find? (·.1 == "internal/reflectlite.rtype")).map (·.2) = some 138 := by kernel_rfl
theorem X.oneRow : ((List.range 309).filter fun t => Tryz.prog.rowNamed t [101, 114, 114, 111, 114]) = [46] := by kernel_rfl
theorem X.size : Tryz.prog.types.size = 309 := by kernel_rfl
theorem X.hh : typeHandle Tryz.prog 46 = .pointer (some ⟨17, 46, none⟩) := by kernel_rfl

section
variable {W : World}

set_option maxRecDepth 100000 in
theorem handle_of_laid (h : handlesMet Tryz.prog [("errors.errorType", Rows.laid_errors_errorType)] W) : ∃ t fr, W.heap[6]? = some (.cells #[.iface 138 (.agg #[.pointer (some ⟨17, 46, none⟩)])] t fr) := by
  obtain ⟨name, u, ty, e1, e2, e3, e4, e5⟩ := h _ (List.mem_singleton.2 rfl)
  have en : name = [101, 114, 114, 111, 114] := (Option.some.inj e1).symm
  subst en
  obtain rfl := Option.some.inj (X.rt.symm.trans e2)
  have hm : ty ∈ (List.range 309).filter fun t => Tryz.prog.rowNamed t [101, 114, 114, 111, 114] := List.mem_filter.2 ⟨List.mem_range.2 (by rw [← X.size]; exact e3), e4⟩
  rw [X.oneRow] at hm
  obtain rfl := List.mem_singleton.1 hm
  rw [X.hh] at e5
  exact var_heap X.et e5

theorem laid_parts (h : laidMetH Tryz.prog Rows.adm7ApartRow.laid W) : laidMet Tryz.prog laidD W ∧ handlesMet Tryz.prog [("errors.errorType", Rows.laid_errors_errorType)] W := by
  unfold laidMetH at h
  rw [handle_part] at h
  exact h

theorem ints12_get {L : List Int} {i : Nat} {d : DV} (h : (ints12 L)[i]? = some d) : ∃ m, L[i]? = some m ∧ d = .int .i64 (.lit m) := by
  unfold ints12 at h
  rw [List.getElem?_map] at h
  cases hl : L[i]? with
  | none => rw [hl] at h; simp at h
  | some m => rw [hl] at h; simp at h; exact ⟨m, rfl, h.symm⟩

/-- Places that are told of apart are two. -/
theorem sent_ne {ps : List MemPlace} (hl : DataW.LaidVars Tryz.prog W laidD ps) (hnd : ps.Nodup) (hps : ∀ b off, MemPlace.cell b off ∈ ps →
    (∃ c t, W.heap[b]? = some (.cells c t (0, 0))) ∧ ∀ u v, W.cell? ⟨b, off, none⟩ = some (.iface u v) → Value.okWide Tryz.prog W .any 0 u v) {i j : Nat} (hi : i ∈ err12) (hj : j ∈ err12) (hij : i ≠ j) : sAddr W i ≠ sAddr W j := by
  obtain ⟨p, n, s, h1, h2, h3⟩ := sent_get hi
  obtain ⟨q, m, r, g1, g2, g3⟩ := sent_get hj
  have key : ∀ {p q : Nat} {n m : String} {s r : List UInt8} {i j : Nat}, p < q → laidD[p]? = some (n, DataW.iface "*errors.errorString" (.ptr (.agg [.lit (.string s)]))) → Tryz.prog.globalNamed n = some i → (Tryz.prog.globals[i]?).map (·.type) = some 46 →
      laidD[q]? = some (m, DataW.iface "*errors.errorString" (.ptr (.agg [.lit (.string r)]))) → Tryz.prog.globalNamed m = some j → (Tryz.prog.globals[j]?).map (·.type) = some 46 → sAddr W i ≠ sAddr W j := by
    intro p q n m s r i j hpq h1 h2 h3 g1 g2 g3
    obtain ⟨a1, c1, p1, a2, c2, p2, l1, l2, hd, m1, m2⟩ := laid_two hl hnd hpq h1 g1
    have e1 : a1 = i := by obtain ⟨_, _, x, _⟩ := l1; exact Option.some.inj (x.symm.trans h2)
    have e2 : a2 = j := by obtain ⟨_, _, x, _⟩ := l2; exact Option.some.inj (x.symm.trans g2)
    subst e1; subst e2
    obtain ⟨x, hx⟩ := sent_of hps l1 m1 h3
    obtain ⟨y, hy⟩ := sent_of hps l2 m2 g3
    rw [sAddr_of hx, sAddr_of hy]
    obtain ⟨_, _, hx1, rfl⟩ := hx
    obtain ⟨_, _, hy1, rfl⟩ := hy
    intro e
    subst e
    exact hd (.cell x.block x.off) (by simp [MemPlace.row]) (by simp [MemPlace.row])
  rcases Nat.lt_trichotomy p q with h | h | h
  · exact key h h1 h2 h3 g1 g2 g3
  · subst h
    rw [h1] at g1
    cases g1
    exact absurd (Option.some.inj (h2.symm.trans g2)) hij
  · exact fun e => key h g1 g2 g3 h1 h2 h3 e.symm

theorem err12_lt : (err12.all fun i => decide (i < 15)) = true := by decide

set_option maxRecDepth 100000 in
theorem glob_of_laid (h : laidMetH Tryz.prog Rows.adm7ApartRow.laid W) : ∃ a, GlobR ⟨{ a := a }, fun _ => 0, 0, fun b => W.heap[b]?⟩ gl12 := by
  obtain ⟨hd, hh⟩ := laid_parts h
  obtain ⟨ps, hl, hnd, hps⟩ := hd
  let a : List Addr := (List.range 15).map (sAddr W)
  have ha : ∀ i ∈ err12, a[i]? = some (sAddr W i) := fun i hi => by
    have := of_decide_eq_true (List.all_eq_true.1 err12_lt i hi)
    simp [a, this]
  have hsent : ∀ i ∈ err12, ∃ p, SentAt W i (sAddr W i) p := fun i hi => by
    obtain ⟨p, n, s, h1, h2, h3⟩ := sent_get hi
    obtain ⟨g, cs, q, l1, m1⟩ := laid_at hl (List.mem_of_getElem? h1)
    have e1 : g = i := by obtain ⟨_, _, x, _⟩ := l1; exact Option.some.inj (x.symm.trans h2)
    subst e1
    obtain ⟨x, hx⟩ := sent_of hps l1 m1 h3
    exact ⟨q, by rw [sAddr_of hx]; exact hx⟩
  refine ⟨a, ?_, ?_, ?_⟩
  · intro g cs hlk
    have hm := look_mem hlk
    simp only [gl12, List.mem_cons, Prod.mk.injEq, List.mem_map] at hm
    rcases hm with ⟨rfl, rfl⟩ | ⟨rfl, rfl⟩ | ⟨rfl, rfl⟩ | ⟨i, hi, rfl, rfl⟩
    · obtain ⟨t, fr, h6⟩ := handle_of_laid hh
      refine ⟨_, _, _, h6, fun i d hi => ?_⟩
      cases i with
      | zero =>
        simp at hi
        subst hi
        exact ⟨_, rfl, fun k' _ => by simp [DV.den, DV.dens, Ref.den, Base.den, E.ii, Addr.add]⟩
      | succ i => simp at hi
    · obtain ⟨c, t, fr, h0, hc⟩ := bits_cells hl
      refine ⟨c, t, fr, h0, fun i d hi => ?_⟩
      obtain ⟨m, hm, rfl⟩ := ints12_get hi
      exact ⟨_, hc i m hm, mk_int (isI_lit _)⟩
    · obtain ⟨c, t, fr, h0, hc⟩ := rooms_cells hl
      refine ⟨c, t, fr, h0, fun i d hi => ?_⟩
      obtain ⟨m, hm, rfl⟩ := ints12_get hi
      exact ⟨_, hc i m hm, mk_int (isI_lit _)⟩
    · obtain ⟨p, ⟨c, t, h1, h2⟩, _, hsp, _⟩ := hsent i hi
      refine ⟨c, t, (0, 0), h1, fun j d hj => ?_⟩
      cases j with
      | zero =>
        simp at hj
        subst hj
        refine ⟨_, h2, fun k' hle => ?_⟩
        obtain ⟨r, hr⟩ := hle.ρ.a
        have : k'.ρ.a[i]? = some (sAddr W i) := by
          rw [← hr]
          show (a ++ r)[i]? = _
          rw [List.getElem?_append_left (List.getElem?_eq_some_iff.1 (ha i hi)).1]
          exact ha i hi
        simp [DV.den, Ref.den, Base.den, E.ii, this, Addr.add]
      | succ j => simp at hj
  · intro i hi
    obtain ⟨p, _, ⟨c, t, h2⟩, _⟩ := hsent i hi
    exact ⟨_, c, t, ha i hi, h2⟩
  · intro i hi j hj hij e
    have hi' : i ∈ err12 := hi
    have hj' : j ∈ err12 := hj
    have e : a[i]? = a[j]? := e
    rw [ha i hi', ha j hj'] at e
    exact sent_ne hl hnd hps hi' hj' hij (Option.some.inj e)
end
end Go.Sx
