/- Chapter 12: the first twenty-two numbers of a list. -/
import Derived.Test.YtcljcgapkojgnaaGreatDoorUf
import Derived.Test.YtcljcgapkojgnaaGreatDoorUa
set_option linter.unusedSimpArgs false
set_option linter.unusedVariables false
namespace Go.Sx
open Go.Proofs Go.RowKit

/-- A list of numbers as a value. -/
def IsInts (v : Value) (G : GS) (L : List Int) : Prop :=
  ∃ (ad : Option Addr) (cap : Nat), v = .slice ad L.length cap ∧ L.length ≤ cap ∧ (L = [] ∨ ∃ a, ad = some a ∧ GCells G a (L.map fun n => .int .i64 n))

def rowI (k i0 : Nat) : List DV := (List.range k).map fun i => .int .i64 (.iv (i0 + i))
def rowM (j k i0 : Nat) : List (TypeId × Ref × DV) := if k == 0 then [] else [(3, ⟨.rv j, .lit 0⟩, .agg (rowI k i0))]
def slcD (j k : Nat) : DV := .slice ⟨.rv j, .lit 0⟩ (.lit k) (.vv .scap j)
def capP (j k : Nat) : List (E × Bool) := [(.o2 .le (.lit k) (.vv .scap j), true)]

theorem rowI_len (k i0 : Nat) : (rowI k i0).length = k := by simp [rowI]
theorem rowI_dens (k : K) {L : List Int} {pre : List Int} (h : ∃ t, k.ρ.i = pre ++ L ++ t) : DV.dens k (rowI L.length pre.length) = L.map fun n => .int .i64 n := by
  obtain ⟨t, ht⟩ := h
  rw [DV.dens_eq_map, rowI, List.map_map]
  apply List.ext_getElem?
  intro i
  simp only [List.getElem?_map]
  by_cases hi : i < L.length
  · rw [List.getElem?_range hi]
    have h1 : (pre ++ (L ++ t))[pre.length + i]? = L[i]? := by rw [List.getElem?_append_right (by omega), List.getElem?_append_left (by omega)]; congr 1; omega
    simp [DV.den, E.ii, ht, List.getD_eq_getElem?_getD, h1, hi]
  · rw [List.getElem?_eq_none (by simpa using hi), List.getElem?_eq_none (by omega)]
    rfl

theorem ints_one {v : Value} {G : GS} {L : List Int} (h : IsInts v G L) : v.oneCell' = true := by
  obtain ⟨ad, cap, rfl, _⟩ := h; rfl
theorem IsInts.le {v : Value} {G G' : GS} {L : List Int} (h : IsInts v G L) (hle : GLe G G') : IsInts v G' L := by
  obtain ⟨ad, cap, h1, h2, h3⟩ := h
  refine ⟨ad, cap, h1, h2, ?_⟩
  rcases h3 with h3 | ⟨a, h3, h4⟩
  · exact .inl h3
  · refine .inr ⟨a, h3, fun i u hu => ?_⟩
    obtain ⟨c, e, fr, h5, h6⟩ := h4 i u hu
    exact ⟨c, e, fr, hle _ _ h5, h6⟩

/-- A list of numbers, as the runs are told of it. -/
theorem ints_slc {v : Value} {G : GS} {L : List Int} {k : K} {j : Nat} (h : IsInts v G L) (hv : ∃ t, k.ρ.v = t) (hj : ∀ k', k.le k' → k'.ρ.v[j]? = some v) : (slcD j L.length).is k v := by
  obtain ⟨ad, cap, rfl, hc, h3⟩ := h
  intro k' hle
  have hvj := hj k' hle
  simp only [slcD, DV.den, Ref.den, Base.den, hvj, E.ii, List.getD_eq_getElem?_getD, Option.getD_some, ovI]
  cases ad with
  | none => simp
  | some a => simp [Addr.add]
theorem ints_cap {v : Value} {G : GS} {L : List Int} {k : K} {j : Nat} (h : IsInts v G L) (hj : ∀ k', k.le k' → k'.ρ.v[j]? = some v) : PcR k (capP j L.length) := by
  obtain ⟨ad, cap, rfl, hc, h3⟩ := h
  intro c b hm k' hle
  simp only [capP, List.mem_singleton, Prod.mk.injEq] at hm
  obtain ⟨rfl, rfl⟩ := hm
  simp only [E.bb, E.ii, List.getD_eq_getElem?_getD, hj k' hle, Option.getD_some, ovI]
  exact decide_eq_true (by omega)
theorem ints_memo {v : Value} {G : GS} {L pre : List Int} {k : K} {j : Nat} (hkG : k.G = G) (h : IsInts v G L) (hj : ∀ k', k.le k' → k'.ρ.v[j]? = some v) (hi : ∃ t, k.ρ.i = pre ++ L ++ t) : MemoR k (rowM j L.length pre.length) := by
  subst hkG
  intro t r d hm
  unfold rowM at hm
  split at hm
  · cases hm
  rename_i h0
  simp only [List.mem_singleton, Prod.mk.injEq] at hm
  obtain ⟨rfl, rfl, rfl⟩ := hm
  obtain ⟨ad, cap, rfl, hc, h3⟩ := h
  rcases h3 with h3 | ⟨a, rfl, hcells⟩
  · subst h3; simp at h0
  · refine ⟨a, .agg (L.map fun n => .int .i64 n).toArray, fun k' hle => ?_, fun k' hle => ?_, by simpa [Value.cells] using hcells⟩
    · simp [Ref.den, Base.den, hj k' hle, E.ii, Addr.add]
    · obtain ⟨t, ht⟩ := hi
      obtain ⟨t2, ht2⟩ := hle.ρ.i
      have := rowI_dens k' (L := L) (pre := pre) ⟨t ++ t2, by rw [← ht2, ht]; simp⟩
      simp only [DV.den, this]

theorem cellsOnly_look : ∀ {h : List (Id × DO)} {seen : List Id} {i : Id} {cs : List DV}, (i, cs) ∈ cellsOnly h seen → seen.contains i = false ∧ ∃ e r, look i h = some (.cells cs e r)
  | [], _, _, _, h => by simp [cellsOnly] at h
  | (j, o) :: l, seen, i, cs, h => by
    simp only [cellsOnly] at h
    split at h
    · rename_i hs
      obtain ⟨h1, e, r, h2⟩ := cellsOnly_look h
      have : j ≠ i := fun e => by subst e; rw [h1] at hs; cases hs
      exact ⟨h1, e, r, by simp [look, this, h2]⟩
    · rename_i hs
      have rest : (i, cs) ∈ cellsOnly l (j :: seen) → seen.contains i = false ∧ ∃ e r, look i ((j, o) :: l) = some (.cells cs e r) := fun h => by
        obtain ⟨h1, e, r, h2⟩ := cellsOnly_look h
        simp only [List.contains_cons, Bool.or_eq_false_iff, beq_eq_false_iff_ne, ne_eq] at h1
        have : ¬ (j == i) = true := by simpa using fun e => h1.1 e.symm
        exact ⟨h1.2, e, r, by simp only [look, this]; exact h2⟩
      split at h
      · rename_i cs' e r
        rcases List.mem_cons.1 h with h | h
        · cases h
          exact ⟨by simpa using hs, e, r, by simp [look]⟩
        · exact rest h
      · exact rest h

/-- What a run has made. -/
def newG (w w' : World) : GS := fun b => if w.heap.size ≤ b then w'.heap[b]? else none

/-- What is told of a list that a run makes. -/
def MadeQ (L : List Int) (ρ : Env) (G : GS) (d : DV) (hh : List (Id × List DV)) : Prop :=
  (L = [] ∧ d = .nilslice) ∨ ∃ id cE cells, d = .slice ⟨.id id, .lit 0⟩ (.lit (L.length : Nat)) cE ∧ (id, cells) ∈ hh ∧ cells.length = L.length ∧ (∀ β nx, DV.dens ⟨ρ, β, nx, G⟩ cells = L.map fun n => .int .i64 n) ∧ (L.length : Int) ≤ cE.ii ρ

theorem made_ints {w w' : World} {k : K} {heap : List (Id × DO)} {d : DV} {v : Value} {L : List Int} (hh : HeapR ⟨w, fun _ => none⟩ k heap w') (hd : d.is k v) (hq : MadeQ L k.ρ k.G d (cellsOnly heap [])) : IsInts v (newG w w') L := by
  rcases hq with ⟨rfl, rfl⟩ | ⟨id, cE, cells, rfl, hm, hl, hden, hcap⟩
  · rw [← hd.here]
    exact ⟨none, 0, rfl, by simp, .inl rfl⟩
  · obtain ⟨_, e, r, hlk⟩ := cellsOnly_look hm
    obtain ⟨hid, ob, hob, vs, rfl, hle, hvs, _, _⟩ := hh.obj _ _ hlk
    have hown : w.heap.size ≤ k.β id := hh.own id hid
    rw [← hd.here]
    refine ⟨some ⟨k.β id, 0, none⟩, (cE.ii k.ρ).toNat, ?_, by omega, ?_⟩
    · simp [DV.den, Ref.den, Base.den, E.ii, add_plain]
    · by_cases h0 : L = []
      · exact .inl h0
      · refine .inr ⟨_, rfl, fun i u hu => ?_⟩
        have h1 := hvs k (K.le.refl k)
        have h2 := hden k.β k.nx
        have hk : (⟨k.ρ, k.β, k.nx, k.G⟩ : K) = k := rfl
        rw [hk] at h2
        rw [h2] at h1
        rw [h1, List.getElem?_take] at hu
        split at hu
        · refine ⟨vs.toArray, e, (0, 0), ?_, ?_, ?_⟩
          · rw [add_plain]
            show newG w w' (k.β id) = _
            unfold newG
            rw [if_pos hown]
            exact hob
          · rw [add_plain]; simpa using hu
          · rw [add_plain]
        · cases hu

def FewT (k : Nat) : Ts := if k == 0 then .val .nilslice [] else
  .any (.int .i64) (.o2 .and (.o2 .le (.lit k) (.iv k)) (.o2 .le (.iv k) (.lit 9223372036854775807))) { i := k, v := 1 } (.val (.slice ⟨.id 0, .lit 0⟩ (.lit k) (.iv k)) [(0, rowI k 0)])
noncomputable def fewRun (k : Nat) : Ts := (ev C12 3000 (.enter 5 [slcD 0 k]) (init { i := k, v := 1 } (capP 0 k) (rowM 0 k 0))).slim true
theorem few_tree0 : fewRun 0 = FewT 0 := by kernel_rfl
theorem few_tree1 : fewRun 1 = FewT 1 := by kernel_rfl
theorem few_tree2 : fewRun 2 = FewT 2 := by kernel_rfl
theorem few_tree3 : fewRun 3 = FewT 3 := by kernel_rfl
theorem few_tree4 : fewRun 4 = FewT 4 := by kernel_rfl
theorem few_tree5 : fewRun 5 = FewT 5 := by kernel_rfl
theorem few_tree6 : fewRun 6 = FewT 6 := by kernel_rfl
theorem few_tree7 : fewRun 7 = FewT 7 := by kernel_rfl
theorem few_tree8 : fewRun 8 = FewT 8 := by kernel_rfl
theorem few_tree9 : fewRun 9 = FewT 9 := by kernel_rfl
theorem few_tree10 : fewRun 10 = FewT 10 := by kernel_rfl
theorem few_tree11 : fewRun 11 = FewT 11 := by kernel_rfl
theorem few_tree12 : fewRun 12 = FewT 12 := by kernel_rfl
theorem few_tree13 : fewRun 13 = FewT 13 := by kernel_rfl
theorem few_tree14 : fewRun 14 = FewT 14 := by kernel_rfl
theorem few_tree15 : fewRun 15 = FewT 15 := by kernel_rfl
theorem few_tree16 : fewRun 16 = FewT 16 := by kernel_rfl
theorem few_tree17 : fewRun 17 = FewT 17 := by kernel_rfl
theorem few_tree18 : fewRun 18 = FewT 18 := by kernel_rfl
theorem few_tree19 : fewRun 19 = FewT 19 := by kernel_rfl
theorem few_tree20 : fewRun 20 = FewT 20 := by kernel_rfl
theorem few_tree21 : fewRun 21 = FewT 21 := by kernel_rfl
theorem few_tree : ∀ k, k < 22 → fewRun k = FewT k
  | 0, _ => few_tree0
  | 1, _ => few_tree1
  | 2, _ => few_tree2
  | 3, _ => few_tree3
  | 4, _ => few_tree4
  | 5, _ => few_tree5
  | 6, _ => few_tree6
  | 7, _ => few_tree7
  | 8, _ => few_tree8
  | 9, _ => few_tree9
  | 10, _ => few_tree10
  | 11, _ => few_tree11
  | 12, _ => few_tree12
  | 13, _ => few_tree13
  | 14, _ => few_tree14
  | 15, _ => few_tree15
  | 16, _ => few_tree16
  | 17, _ => few_tree17
  | 18, _ => few_tree18
  | 19, _ => few_tree19
  | 20, _ => few_tree20
  | 21, _ => few_tree21
  | n + 22, h => by omega
theorem few_treeM : (ev C12 3000 (.enter 5 [.slice ⟨.rv 0, .lit 0⟩ (.vv .slen 0) (.vv .scap 0)]) (init { i := 22, v := 1 } [(.o2 .le (.lit 22) (.vv .slen 0), true), (.o2 .le (.lit 22) (.vv .scap 0), true)] (rowM 0 22 0))).slim true = FewT 22 := by kernel_rfl
end Go.Sx
