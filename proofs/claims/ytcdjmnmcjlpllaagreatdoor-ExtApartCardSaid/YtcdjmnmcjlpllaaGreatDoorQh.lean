/- Chapter 14: what the condition gives the runs; the law's row. -/
import Derived.Test.YtcdjmnmcjlpllaaGreatDoorQg
set_option linter.unusedSimpArgs false
set_option linter.unusedVariables false
namespace Go.Sx
open Go.Proofs Go.RowKit Go.Proofs.YtcdjmnmcjlpllaaGreatDoor

def sentOf? : String × DataW Unit → Option (String × List UInt8)
  | (n, .iface t (.ptr (.agg [.lit (.string s)]))) => if t = "*errors.errorString" then some (n, s) else none
  | _ => none

theorem sentOf_spec {x : String × DataW Unit} {n : String} {s : List UInt8} (h : sentOf? x = some (n, s)) : x = (n, .iface "*errors.errorString" (.ptr (.agg [.lit (.string s)]))) := by
  unfold sentOf? at h
  split at h
  · split at h
    · rename_i ht
      subst ht
      simp only [Option.some.injEq, Prod.mk.injEq] at h
      obtain ⟨rfl, rfl⟩ := h
      rfl
    · cases h
  · cases h

/-- The sentinels: their numbers, their places in the condition, their names. -/
def sents : List (Nat × Nat × String) := [(1, 11, "postrider/signs.errArg"), (2, 16, "postrider/signs.errPassed"), (3, 17, "postrider/signs.errNamed"), (4, 6, "postrider/head.errMajor"), (5, 7, "postrider/head.errNum"), (6, 8, "postrider/head.errShort"), (7, 9, "postrider/head.errForm"), (10, 4, "postrider/nums.errNum"), (11, 12, "postrider/signs.errNum"), (12, 13, "postrider/signs.errAccepted"), (13, 14, "postrider/signs.errSingle"), (14, 15, "postrider/signs.errTimed"), (15, 3, "postrider/nums.errWidth"), (16, 5, "postrider/nums.errShort"), (19, 19, "strconv.ErrSyntax"), (20, 18, "strconv.ErrRange")]
theorem sents_ok : (sents.all fun x => (((laidD[x.2.1]?).bind sentOf?).map (·.1) == some x.2.2) && (Tryz.prog.globalNamed x.2.2 == some x.1) && ((Tryz.prog.globals[x.1]?).map (·.type) == some 96)) = true := by kernel_rfl
theorem sents_all : (errG.all fun i => sents.any fun x => x.1 == i) = true := by kernel_rfl

theorem sent_get {i : Nat} (hi : i ∈ errG) : ∃ (p : Nat) (n : String) (s : List UInt8), laidD[p]? = some (n, DataW.iface "*errors.errorString" (.ptr (.agg [.lit (.string s)]))) ∧ Tryz.prog.globalNamed n = some i ∧ (Tryz.prog.globals[i]?).map (·.type) = some 96 := by
  have h1 := List.all_eq_true.1 sents_all i hi
  obtain ⟨⟨g, p, n⟩, hx, he⟩ := List.any_eq_true.1 h1
  have he := beq_iff_eq.1 he
  simp only at he
  subst he
  have h2 := List.all_eq_true.1 sents_ok _ hx
  simp only [Bool.and_eq_true, beq_iff_eq] at h2
  obtain ⟨⟨h3, h4⟩, h5⟩ := h2
  cases hl : laidD[p]? with
  | none => rw [hl] at h3; simp at h3
  | some y =>
    rw [hl] at h3
    simp only [Option.bind_some] at h3
    cases hs : sentOf? y with
    | none => rw [hs] at h3; simp at h3
    | some z =>
      obtain ⟨m, s⟩ := z
      rw [hs] at h3
      simp only [Option.map_some, Option.some.injEq] at h3
      subst h3
      exact ⟨p, m, s, by rw [hl, sentOf_spec hs], h4, h5⟩

/-- Where a sentinel's variable points to. -/
def sAddr (W : World) (g : Nat) : Addr := match W.heap[g]? with
  | some (.cells c _ _) => (match (c[0]? : Option Value) with | some (.iface _ (.pointer (some a))) => a | _ => ⟨0, 0, none⟩)
  | _ => ⟨0, 0, none⟩
theorem sAddr_of {W : World} {g : Nat} {a : Addr} {p : List MemPlace} (h : SentAt W g a p) : sAddr W g = a := by
  obtain ⟨⟨c, t, h1, h2⟩, _⟩ := h
  simp [sAddr, h1, h2]

theorem var_heap {P : Program} {w : World} {n : String} {g : Nat} {cs : Array Value} (hg : P.globalNamed n = some g) (h : w.var? P n = some cs) : ∃ t fr, w.heap[g]? = some (.cells cs t fr) := by
  unfold World.var? at h
  rw [hg] at h
  simp only [Option.bind_some] at h
  split at h
  · rename_i c t fr hh
    cases h
    exact ⟨t, fr, hh⟩
  · cases h

theorem c46 : Tryz.prog.cellsOf 46 = 2 := by kernel_rfl
theorem c173 : Tryz.prog.cellsOf 173 = 3 := by kernel_rfl
theorem pairs_at : laidD[20]? = some ("postrider/ext.pairs", .agg (([[206, 6], [207, 7], [210, 10]] : List (List Int)).map fun r => .agg (r.map fun m => .lit (.int .i64 m)))) := by kernel_rfl
theorem rooms_at : laidD[10]? = some ("postrider/head.rooms", .agg (([[0, 24, 0], [1, 256, 24], [2, 65536, 25], [4, 4294967296, 26], [8, 281474976710656, 27]] : List (List Int)).map fun r => .agg (r.map fun m => .lit (.int .i64 m)))) := by kernel_rfl
theorem pairs_g : Tryz.prog.globalNamed "postrider/ext.pairs" = some 0 := by kernel_rfl
theorem rooms_g : Tryz.prog.globalNamed "postrider/head.rooms" = some 9 := by kernel_rfl
theorem pairs_t : (Tryz.prog.globals[0]?).map (·.type) = some 75 := by kernel_rfl
theorem rooms_t : (Tryz.prog.globals[9]?).map (·.type) = some 207 := by kernel_rfl

section
variable {W : World} {ps : List MemPlace}

set_option maxRecDepth 100000 in
theorem pairs_cells (hl : DataW.LaidVars Tryz.prog W laidD ps) : ∃ cs t fr, W.heap[0]? = some (.cells cs t fr) ∧ ∀ (i : Nat) (m : Int), ([206, 6, 207, 7, 210, 10] : List Int)[i]? = some m → cs[i]? = some (.int .i64 m) := by
  obtain ⟨g, cs, p, ⟨t, fuel, h1, h2, h3, h4⟩, _⟩ := laid_at hl (List.mem_of_getElem? pairs_at)
  obtain rfl := Option.some.inj (h1.symm.trans pairs_g)
  obtain rfl := Option.some.inj (h2.symm.trans pairs_t)
  obtain ⟨t', fr, hh⟩ := var_heap h1 h3
  refine ⟨cs, t', fr, hh, ?_⟩
  have hce := c46
  have T := table_cell Tryz.underlying75 Tryz.underlying46 Tryz.underlying3 X.cells3 (by intro f hf; simp at hf; rcases hf with rfl | rfl <;> rfl) h4
  simp only [Array.getElem?_toList] at T
  intro i m hm
  exact match i, m, hm with
    | 0, _, rfl => by simpa [hce] using T 0 _ 0 _ _ rfl rfl rfl (by rw [hce]; decide)
    | 1, _, rfl => by simpa [hce] using T 0 _ 1 _ _ rfl rfl rfl (by rw [hce]; decide)
    | 2, _, rfl => by simpa [hce] using T 1 _ 0 _ _ rfl rfl rfl (by rw [hce]; decide)
    | 3, _, rfl => by simpa [hce] using T 1 _ 1 _ _ rfl rfl rfl (by rw [hce]; decide)
    | 4, _, rfl => by simpa [hce] using T 2 _ 0 _ _ rfl rfl rfl (by rw [hce]; decide)
    | 5, _, rfl => by simpa [hce] using T 2 _ 1 _ _ rfl rfl rfl (by rw [hce]; decide)
    | n + 6, _, hm => by simp at hm

set_option maxRecDepth 100000 in
theorem rooms_cells (hl : DataW.LaidVars Tryz.prog W laidD ps) : ∃ cs t fr, W.heap[9]? = some (.cells cs t fr) ∧ ∀ (i : Nat) (m : Int), ([0, 24, 0, 1, 256, 24, 2, 65536, 25, 4, 4294967296, 26, 8, 281474976710656, 27] : List Int)[i]? = some m → cs[i]? = some (.int .i64 m) := by
  obtain ⟨g, cs, p, ⟨t, fuel, h1, h2, h3, h4⟩, _⟩ := laid_at hl (List.mem_of_getElem? rooms_at)
  obtain rfl := Option.some.inj (h1.symm.trans rooms_g)
  obtain rfl := Option.some.inj (h2.symm.trans rooms_t)
  obtain ⟨t', fr, hh⟩ := var_heap h1 h3
  refine ⟨cs, t', fr, hh, ?_⟩
  have hce := c173
  have T := table_cell Tryz.underlying207 Tryz.underlying173 Tryz.underlying3 X.cells3 (by intro f hf; simp at hf; rcases hf with rfl | rfl | rfl <;> rfl) h4
  simp only [Array.getElem?_toList] at T
  intro i m hm
  exact match i, m, hm with
    | 0, _, rfl => by simpa [hce] using T 0 _ 0 _ _ rfl rfl rfl (by rw [hce]; decide)
    | 1, _, rfl => by simpa [hce] using T 0 _ 1 _ _ rfl rfl rfl (by rw [hce]; decide)
    | 2, _, rfl => by simpa [hce] using T 0 _ 2 _ _ rfl rfl rfl (by rw [hce]; decide)
    | 3, _, rfl => by simpa [hce] using T 1 _ 0 _ _ rfl rfl rfl (by rw [hce]; decide)
    | 4, _, rfl => by simpa [hce] using T 1 _ 1 _ _ rfl rfl rfl (by rw [hce]; decide)
    | 5, _, rfl => by simpa [hce] using T 1 _ 2 _ _ rfl rfl rfl (by rw [hce]; decide)
    | 6, _, rfl => by simpa [hce] using T 2 _ 0 _ _ rfl rfl rfl (by rw [hce]; decide)
    | 7, _, rfl => by simpa [hce] using T 2 _ 1 _ _ rfl rfl rfl (by rw [hce]; decide)
    | 8, _, rfl => by simpa [hce] using T 2 _ 2 _ _ rfl rfl rfl (by rw [hce]; decide)
    | 9, _, rfl => by simpa [hce] using T 3 _ 0 _ _ rfl rfl rfl (by rw [hce]; decide)
    | 10, _, rfl => by simpa [hce] using T 3 _ 1 _ _ rfl rfl rfl (by rw [hce]; decide)
    | 11, _, rfl => by simpa [hce] using T 3 _ 2 _ _ rfl rfl rfl (by rw [hce]; decide)
    | 12, _, rfl => by simpa [hce] using T 4 _ 0 _ _ rfl rfl rfl (by rw [hce]; decide)
    | 13, _, rfl => by simpa [hce] using T 4 _ 1 _ _ rfl rfl rfl (by rw [hce]; decide)
    | 14, _, rfl => by simpa [hce] using T 4 _ 2 _ _ rfl rfl rfl (by rw [hce]; decide)
    | n + 15, _, hm => by simp at hm

end
end Go.Sx
