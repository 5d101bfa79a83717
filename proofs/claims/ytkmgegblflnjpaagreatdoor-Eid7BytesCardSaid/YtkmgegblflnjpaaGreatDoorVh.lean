/- Chapter 10: what the condition gives the runs; the law's row. -/
import Derived.Test.YtkmgegblflnjpaaGreatDoorVg
import Derived.Lib.LaidTab
set_option linter.unusedSimpArgs false
set_option linter.unusedVariables false
namespace Go.Sx
open Go.Proofs Go.RowKit Go.Proofs.YtkmgegblflnjpaaGreatDoor

def sentOf? : String × DataW Unit → Option (String × List UInt8)
  | (n, .iface t (.ptr (.agg [.lit (.string s)]))) => if t = "*errors.errorString" then some (n, s) else none
  | _ => none

theorem sentOf_spec {x : String × DataW Unit} {n : String} {s : List UInt8} (h : sentOf? x = some (n, s)) : x = (n, .iface "*errors.errorString" (.ptr (.agg [.lit (.string s)]))) := by
  unfold sentOf? at h
  split at h
  · split at h
    · rename_i ht
      subst ht
      simp only [Option.some.injEq, Prod.mk.injEq] at h
      obtain ⟨rfl, rfl⟩ := h
      rfl
    · cases h
  · cases h

/-- The sentinels: their numbers, their places in the condition, their names. -/
def sents : List (Nat × Nat × String) := [(0, 6, "postrider/head.errMajor"), (1, 7, "postrider/head.errNum"), (2, 8, "postrider/head.errShort"), (3, 9, "postrider/head.errForm"), (6, 4, "postrider/nums.errNum"), (7, 3, "postrider/nums.errWidth"), (8, 5, "postrider/nums.errShort")]
theorem sents_ok : (sents.all fun x => (((laidD[x.2.1]?).bind sentOf?).map (·.1) == some x.2.2) && (Tryz.prog.globalNamed x.2.2 == some x.1) && ((Tryz.prog.globals[x.1]?).map (·.type) == some 75)) = true := by kernel_rfl
theorem sents_all : (err7.all fun i => sents.any fun x => x.1 == i) = true := by kernel_rfl

theorem sent_get {i : Nat} (hi : i ∈ err7) : ∃ (p : Nat) (n : String) (s : List UInt8), laidD[p]? = some (n, DataW.iface "*errors.errorString" (.ptr (.agg [.lit (.string s)]))) ∧ Tryz.prog.globalNamed n = some i ∧ (Tryz.prog.globals[i]?).map (·.type) = some 75 := by
  have h1 := List.all_eq_true.1 sents_all i hi
  obtain ⟨⟨g, p, n⟩, hx, he⟩ := List.any_eq_true.1 h1
  have he := beq_iff_eq.1 he
  simp only at he
  subst he
  have h2 := List.all_eq_true.1 sents_ok _ hx
  simp only [Bool.and_eq_true, beq_iff_eq] at h2
  obtain ⟨⟨h3, h4⟩, h5⟩ := h2
  cases hl : laidD[p]? with
  | none => rw [hl] at h3; simp at h3
  | some y =>
    rw [hl] at h3
    simp only [Option.bind_some] at h3
    cases hs : sentOf? y with
    | none => rw [hs] at h3; simp at h3
    | some z =>
      obtain ⟨m, s⟩ := z
      rw [hs] at h3
      simp only [Option.map_some, Option.some.injEq] at h3
      subst h3
      exact ⟨p, m, s, by rw [hl, sentOf_spec hs], h4, h5⟩

/-- Where a sentinel's variable points to. -/
def sAddr (W : World) (g : Nat) : Addr := match W.heap[g]? with
  | some (.cells c _ _) => (match (c[0]? : Option Value) with | some (.iface _ (.pointer (some a))) => a | _ => ⟨0, 0, none⟩)
  | _ => ⟨0, 0, none⟩
theorem sAddr_of {W : World} {g : Nat} {a : Addr} {p : List MemPlace} (h : SentAt W g a p) : sAddr W g = a := by
  obtain ⟨⟨c, t, h1, h2⟩, _⟩ := h
  simp [sAddr, h1, h2]

theorem var_heap {P : Program} {w : World} {n : String} {g : Nat} {cs : Array Value} (hg : P.globalNamed n = some g) (h : w.var? P n = some cs) : ∃ t fr, w.heap[g]? = some (.cells cs t fr) := by
  unfold World.var? at h
  rw [hg] at h
  simp only [Option.bind_some] at h
  split at h
  · rename_i c t fr hh
    cases h
    exact ⟨t, fr, hh⟩
  · cases h

theorem c129 : Tryz.prog.cellsOf 129 = 3 := by kernel_rfl
theorem rooms_at : laidD[10]? = some ("postrider/head.rooms", .agg (([[0, 24, 0], [1, 256, 24], [2, 65536, 25], [4, 4294967296, 26], [8, 281474976710656, 27]] : List (List Int)).map fun r => .agg (r.map fun m => .lit (.int .i64 m)))) := by kernel_rfl
theorem rooms_g : Tryz.prog.globalNamed "postrider/head.rooms" = some 5 := by kernel_rfl
theorem rooms_t : (Tryz.prog.globals[5]?).map (·.type) = some 158 := by kernel_rfl

section
variable {W : World} {ps : List MemPlace}

set_option maxRecDepth 100000 in
theorem rooms_cells (hl : DataW.LaidVars Tryz.prog W laidD ps) : ∃ cs t fr, W.heap[5]? = some (.cells cs t fr) ∧ ∀ (i : Nat) (m : Int), ([0, 24, 0, 1, 256, 24, 2, 65536, 25, 4, 4294967296, 26, 8, 281474976710656, 27] : List Int)[i]? = some m → cs[i]? = some (.int .i64 m) := by
  obtain ⟨g, cs, p, ⟨t, fuel, h1, h2, h3, h4⟩, _⟩ := laid_at hl (List.mem_of_getElem? rooms_at)
  obtain rfl := Option.some.inj (h1.symm.trans rooms_g)
  obtain rfl := Option.some.inj (h2.symm.trans rooms_t)
  obtain ⟨t', fr, hh⟩ := var_heap h1 h3
  refine ⟨cs, t', fr, hh, ?_⟩
  have hce := c129
  have T := table_cell Tryz.underlying158 Tryz.underlying129 Tryz.underlying3 X.cells3 (by intro f hf; simp at hf; rcases hf with rfl | rfl | rfl <;> rfl) h4
  simp only [Array.getElem?_toList] at T
  intro i m hm
  exact match i, m, hm with
    | 0, _, rfl => by simpa [hce] using T 0 _ 0 _ _ rfl rfl rfl (by rw [hce]; decide)
    | 1, _, rfl => by simpa [hce] using T 0 _ 1 _ _ rfl rfl rfl (by rw [hce]; decide)
    | 2, _, rfl => by simpa [hce] using T 0 _ 2 _ _ rfl rfl rfl (by rw [hce]; decide)
    | 3, _, rfl => by simpa [hce] using T 1 _ 0 _ _ rfl rfl rfl (by rw [hce]; decide)
    | 4, _, rfl => by simpa [hce] using T 1 _ 1 _ _ rfl rfl rfl (by rw [hce]; decide)
    | 5, _, rfl => by simpa [hce] using T 1 _ 2 _ _ rfl rfl rfl (by rw [hce]; decide)
    | 6, _, rfl => by simpa [hce] using T 2 _ 0 _ _ rfl rfl rfl (by rw [hce]; decide)
    | 7, _, rfl => by simpa [hce] using T 2 _ 1 _ _ rfl rfl rfl (by rw [hce]; decide)
    | 8, _, rfl => by simpa [hce] using T 2 _ 2 _ _ rfl rfl rfl (by rw [hce]; decide)
    | 9, _, rfl => by simpa [hce] using T 3 _ 0 _ _ rfl rfl rfl (by rw [hce]; decide)
    | 10, _, rfl => by simpa [hce] using T 3 _ 1 _ _ rfl rfl rfl (by rw [hce]; decide)
    | 11, _, rfl => by simpa [hce] using T 3 _ 2 _ _ rfl rfl rfl (by rw [hce]; decide)
    | 12, _, rfl => by simpa [hce] using T 4 _ 0 _ _ rfl rfl rfl (by rw [hce]; decide)
    | 13, _, rfl => by simpa [hce] using T 4 _ 1 _ _ rfl rfl rfl (by rw [hce]; decide)
    | 14, _, rfl => by simpa [hce] using T 4 _ 2 _ _ rfl rfl rfl (by rw [hce]; decide)
    | n + 15, _, hm => by simp at hm

theorem tens_at : laidD[2]? = some ("internal/strconv.uint64pow10", Lib.tabData .u64 Lib.pow10Tab) := by kernel_rfl
theorem tens_t : (Tryz.prog.globals[10]?).map (·.type) = some 214 := by kernel_rfl
theorem c192 : Tryz.prog.cellsOf 192 = 1 := by kernel_rfl
theorem c214 : Tryz.prog.cellsOf 214 = 20 := by kernel_rfl
set_option maxRecDepth 100000 in
theorem tens_cells (hl : DataW.LaidVars Tryz.prog W laidD ps) : Tens fun b => W.heap[b]? := by
  obtain ⟨g, cs, p, ⟨t, fuel, h1, h2, h3, h4⟩, _⟩ := laid_at hl (List.mem_of_getElem? tens_at)
  obtain rfl := Option.some.inj (h1.symm.trans X.tens)
  obtain rfl := Option.some.inj (h2.symm.trans tens_t)
  obtain ⟨t', fr, hh⟩ := var_heap h1 h3
  have := Lib.cells_of_tab Tryz.underlying214 Tryz.underlying192 c192 c214 h4
  refine ⟨t', fr, ?_⟩
  rw [← this]
  simpa using hh
end
end Go.Sx
/- Chapter 10: the condition gives what the runs lean on. -/
namespace Go.Sx
open Go.Proofs Go.RowKit Go.Proofs.YtkmgegblflnjpaaGreatDoor

section
variable {W : World}

theorem laid_parts (h : laidMetH Tryz.prog Rows.eid7ApartRow.laid W) : laidMet Tryz.prog laidD W := h.1

theorem ints7_get {L : List Int} {i : Nat} {d : DV} (h : (ints7 L)[i]? = some d) : ∃ m, L[i]? = some m ∧ d = .int .i64 (.lit m) := by
  unfold ints7 at h
  rw [List.getElem?_map] at h
  cases hl : L[i]? with
  | none => rw [hl] at h; simp at h
  | some m => rw [hl] at h; simp at h; exact ⟨m, rfl, h.symm⟩

/-- Places that are told of apart are two. -/
theorem sent_ne {ps : List MemPlace} (hl : DataW.LaidVars Tryz.prog W laidD ps) (hnd : ps.Nodup) (hps : ∀ b off, MemPlace.cell b off ∈ ps →
    (∃ c t, W.heap[b]? = some (.cells c t (0, 0))) ∧ ∀ u v, W.cell? ⟨b, off, none⟩ = some (.iface u v) → Value.okWide Tryz.prog W .any 0 u v) {i j : Nat} (hi : i ∈ err7) (hj : j ∈ err7) (hij : i ≠ j) : sAddr W i ≠ sAddr W j := by
  obtain ⟨p, n, s, h1, h2, h3⟩ := sent_get hi
  obtain ⟨q, m, r, g1, g2, g3⟩ := sent_get hj
  have key : ∀ {p q : Nat} {n m : String} {s r : List UInt8} {i j : Nat}, p < q → laidD[p]? = some (n, DataW.iface "*errors.errorString" (.ptr (.agg [.lit (.string s)]))) → Tryz.prog.globalNamed n = some i → (Tryz.prog.globals[i]?).map (·.type) = some 75 →
      laidD[q]? = some (m, DataW.iface "*errors.errorString" (.ptr (.agg [.lit (.string r)]))) → Tryz.prog.globalNamed m = some j → (Tryz.prog.globals[j]?).map (·.type) = some 75 → sAddr W i ≠ sAddr W j := by
    intro p q n m s r i j hpq h1 h2 h3 g1 g2 g3
    obtain ⟨a1, c1, p1, a2, c2, p2, l1, l2, hd, m1, m2⟩ := laid_two hl hnd hpq h1 g1
    have e1 : a1 = i := by obtain ⟨_, _, x, _⟩ := l1; exact Option.some.inj (x.symm.trans h2)
    have e2 : a2 = j := by obtain ⟨_, _, x, _⟩ := l2; exact Option.some.inj (x.symm.trans g2)
    subst e1; subst e2
    obtain ⟨x, hx⟩ := sent_of hps l1 m1 h3
    obtain ⟨y, hy⟩ := sent_of hps l2 m2 g3
    rw [sAddr_of hx, sAddr_of hy]
    obtain ⟨_, _, hx1, rfl⟩ := hx
    obtain ⟨_, _, hy1, rfl⟩ := hy
    intro e
    subst e
    exact hd (.cell x.block x.off) (by simp [MemPlace.row]) (by simp [MemPlace.row])
  rcases Nat.lt_trichotomy p q with h | h | h
  · exact key h h1 h2 h3 g1 g2 g3
  · subst h
    rw [h1] at g1
    cases g1
    exact absurd (Option.some.inj (h2.symm.trans g2)) hij
  · exact fun e => key h g1 g2 g3 h1 h2 h3 e.symm

theorem err7_lt : (err7.all fun i => decide (i < 13)) = true := by decide

set_option maxRecDepth 100000 in
theorem glob_of_laid (h : laidMetH Tryz.prog Rows.eid7ApartRow.laid W) : ∃ a, GlobR ⟨{ a := a }, fun _ => 0, 0, fun b => W.heap[b]?⟩ gl7 ∧ Tens fun b => W.heap[b]? := by
  obtain ⟨ps, hl, hnd, hps⟩ := laid_parts h
  let a : List Addr := (List.range 13).map (sAddr W)
  have ha : ∀ i ∈ err7, a[i]? = some (sAddr W i) := fun i hi => by
    have := of_decide_eq_true (List.all_eq_true.1 err7_lt i hi)
    simp [a, this]
  have hsent : ∀ i ∈ err7, ∃ p, SentAt W i (sAddr W i) p := fun i hi => by
    obtain ⟨p, n, s, h1, h2, h3⟩ := sent_get hi
    obtain ⟨g, cs, q, l1, m1⟩ := laid_at hl (List.mem_of_getElem? h1)
    have e1 : g = i := by obtain ⟨_, _, x, _⟩ := l1; exact Option.some.inj (x.symm.trans h2)
    subst e1
    obtain ⟨x, hx⟩ := sent_of hps l1 m1 h3
    exact ⟨q, by rw [sAddr_of hx]; exact hx⟩
  refine ⟨a, ⟨?_, ?_, ?_⟩, tens_cells hl⟩
  · intro g cs hlk
    have hm := look_mem hlk
    simp only [gl7, List.mem_cons, Prod.mk.injEq, List.mem_map] at hm
    rcases hm with ⟨rfl, rfl⟩ | ⟨i, hi, rfl, rfl⟩
    · obtain ⟨c, t, fr, h0, hc⟩ := rooms_cells hl
      refine ⟨c, t, fr, h0, fun i d hi => ?_⟩
      obtain ⟨m, hm, rfl⟩ := ints7_get hi
      exact ⟨_, hc i m hm, mk_int (isI_lit _)⟩
    · obtain ⟨p, ⟨c, t, h1, h2⟩, _, hsp, _⟩ := hsent i hi
      refine ⟨c, t, (0, 0), h1, fun j d hj => ?_⟩
      cases j with
      | zero =>
        simp at hj
        subst hj
        refine ⟨_, h2, fun k' hle => ?_⟩
        obtain ⟨r, hr⟩ := hle.ρ.a
        have : k'.ρ.a[i]? = some (sAddr W i) := by
          rw [← hr]
          show (a ++ r)[i]? = _
          rw [List.getElem?_append_left (List.getElem?_eq_some_iff.1 (ha i hi)).1]
          exact ha i hi
        simp [DV.den, Ref.den, Base.den, E.ii, this, Addr.add]
      | succ j => simp at hj
  · intro i hi
    obtain ⟨p, _, ⟨c, t, h2⟩, _⟩ := hsent i hi
    exact ⟨_, c, t, ha i hi, h2⟩
  · intro i hi j hj hij e
    have hi' : i ∈ err7 := hi
    have hj' : j ∈ err7 := hj
    have e : a[i]? = a[j]? := e
    rw [ha i hi', ha j hj'] at e
    exact sent_ne hl hnd hps hi' hj' hij (Option.some.inj e)
end
end Go.Sx
