/- Drawn regions (I): an operation, whatever has been put ahead of it. -/
import Derived.Test.YtcljcgapkojgnaaGreatDoorSc
import Derived.Test.YtcljcgapkojgnaaGreatDoorSb
import Derived.Laws.Append
import Derived.Laws.CopyRow
import Derived.Laws.AppendOwn
import Derived.RangeFuncLeaves
set_option linter.unusedSimpArgs false
set_option linter.unusedVariables false
namespace Go.Sx
open Go.RowKit

/-- Values put into temporaries. -/
def puts (a : Act) : List (Tmp × Value) → Act
  | [] => a
  | (t, v) :: l => puts (a.put (some t) v) l

/-- An operation that has nothing to do with some temporaries. -/
def ApartFrom (ops : Array Oper) (o : Oper) (l : List (Tmp × Value)) : Prop := ∀ t v, (t, v) ∈ l → t ∉ o.looksAt ops ∧ o.dst ≠ some t

theorem wpOpIn_put1 {F : Fence} {n : Nat} {P : Program} {ops : Array Oper} {Q : Exit → Act → World → Prop} {j : Nat} {oj : Oper} {t : Tmp} {v : Value}
    (hj : ops[j]? = some oj) (h1 : t ∉ oj.looksAt ops) (h2 : oj.dst ≠ some t) (hsj : ∀ cs b, oj.op ≠ .select cs b) (hdj : ∀ c, oj.op ≠ .defer c)
    (hQ : ∀ c a w, ¬ Q (.panic c) a w) {K : Act → World → Prop} {a : Act} {w : World}
    (h : wpOpIn F n P ops Q j K (a.put (some t) v) w) : wpOpIn F n P ops Q j (fun a' w' => K (a'.put (some t) v) w') a w := by
  have h1' : ∀ d, (some t : Option Tmp) = some d → d ∉ oj.looksAt ops := by rintro d ⟨⟩; exact h1
  have h2' : ∀ d, (some t : Option Tmp) = some d → oj.dst ≠ some d := by rintro d ⟨⟩; exact h2
  unfold wpOpIn at *
  simp only [hj] at *
  rw [wanted_put oj a (some t) v h1', about_put oj w a (some t) v h1'] at h
  split
  · rename_i hw
    simp only [hw, if_true] at h
    unfold Oper.wpIn at *
    rw [about_put oj w a (some t) v h1'] at h
    refine ⟨h.1, ?_⟩
    have h := h.2
    rw [Oper.semAt_eq _ _ _ hdj, execOp_put oj hsj a (some t) v h1'] at h
    rw [Oper.semAt_eq _ _ _ hdj]
    generalize (execOp a.eval oj).run P w = r at *
    cases r with
    | ok x w' =>
      cases x <;> simp only [Oper.uponIn] at h ⊢
      case value u => rw [← Act.put_comm a v u h2']; exact h
      case skip => rw [← Act.put_comm a v undef h2']; exact h
      case defer d =>
        have hc := Act.put_comm a v undef h2'
        obtain ⟨tm, df⟩ := a
        cases hd : oj.dst with
        | none => rw [hd] at h; exact h
        | some d' =>
          rw [hd] at h hc
          simp only [Act.put, Act.mk.injEq, and_true] at h hc ⊢
          rw [← hc]; exact h
      case enter f args =>
        refine ⟨h.1, CallsIn.mono h.2 fun e w'' he => ?_⟩
        cases e with
        | returned u => show K _ w''; rw [← Act.put_comm a v u h2']; exact he
        | panicked c => exact absurd he (hQ _ _ _)
        | outgrown => exact he
      case row row args => exact ⟨h.1, RowsIn.mono h.2 fun u w'' he => by rw [← Act.put_comm a v u h2']; exact he⟩
      case round l f tmps assign body =>
        refine ⟨h.1, RoundIn.mono h.2 fun e w'' he => ?_⟩
        cases e with
        | returned u => show K _ w''; rw [← Act.put_comm a v u h2']; exact he
        | panicked c => exact absurd he (hQ _ _ _)
        | outgrown => exact he
    | halt x w' =>
      cases x <;> simp only [Oper.uponIn] at h ⊢
      case panic u => exact absurd h (hQ _ _ _)
  · rename_i hw
    simp only [hw] at h
    exact ⟨h.1, by rw [← Act.put_comm a v undef h2']; exact h.2⟩

theorem wpOpIn_puts {F : Fence} {n : Nat} {P : Program} {ops : Array Oper} {Q : Exit → Act → World → Prop} {j : Nat} {oj : Oper}
    (hj : ops[j]? = some oj) (hsj : ∀ cs b, oj.op ≠ .select cs b) (hdj : ∀ c, oj.op ≠ .defer c) (hQ : ∀ c a w, ¬ Q (.panic c) a w) :
    ∀ {l : List (Tmp × Value)} {K : Act → World → Prop} {a : Act} {w : World}, ApartFrom ops oj l →
    wpOpIn F n P ops Q j K (puts a l) w → wpOpIn F n P ops Q j (fun a' w' => K (puts a' l) w') a w
  | [], K, a, w, _, h => h
  | (t, v) :: l, K, a, w, hap, h => by
    have h1 := wpOpIn_puts hj hsj hdj hQ (l := l) (K := K) (a := a.put (some t) v) (fun t' v' hm => hap t' v' (by simp [hm])) h
    exact wpOpIn_put1 hj (hap t v (by simp)).1 (hap t v (by simp)).2 hsj hdj hQ h1

/-- The same values put, in another order: an entry taken out of the middle. -/
theorem puts_take : ∀ (l1 l2 : List (Tmp × Value)) (t : Tmp) (v : Value) (a : Act), (∀ u x, (u, x) ∈ l1 → u ≠ t) → puts a (l1 ++ (t, v) :: l2) = puts (a.put (some t) v) (l1 ++ l2)
  | [], l2, t, v, a, _ => rfl
  | (u, x) :: l1, l2, t, v, a, h => by
    simp only [List.cons_append, puts]
    rw [puts_take l1 l2 t v _ (fun u x hm => h u x (by simp [hm]))]
    congr 1
    exact Act.put_comm a x v (by rintro d ⟨⟩ he; cases he; exact h _ x (by simp) rfl)
end Go.Sx
/- Drawn regions (II): one order tells of all. -/
namespace Go.Sx
open Go.RowKit

/-- A reader, canonically carried out: its place, its dst, its value. -/
abbrev Rd := Nat × Tmp × Value

section
variable (ro : Option Nat) (m : Nat) (P : Program) (md : Region.Mode) (ops : Array Oper) (Q : Exit → Act → World → Prop)

/-- An operation that yields a value and leaves the world, or is passed over. -/
def Yl (i : Nat) (v : Value) (a : Act) (w : World) : Prop :=
  ∃ o, ops[i]? = some o ∧ ((Region.wanted o (yielded ops a.tmps) = true ∧ (execOp a.eval o).run P w = .ok (.value v) w) ∨ (Region.wanted o (yielded ops a.tmps) = false ∧ v = undef))

def Can : Nat → Array Bool → List Rd → Act → World → Prop
  | 0, done, _, a, w => Region.ready md ops done = [] ∧ Q .normal a w
  | n + 1, done, rd, a, w =>
    (Region.ready md ops done = [] ∧ Q .normal a w) ∨
    (∃ i t v, i ∈ Region.ready md ops done ∧ mayLate md ops i t = true ∧ Yl P ops i v a w ∧ Can n (done.setIfInBounds i true) ((i, t, v) :: rd) (a.put (some t) v) w) ∨
    ((∃ j, j ∈ Region.ready md ops done) ∧ ∀ j ∈ Region.ready md ops done, (∀ o, ops[j]? = some o → (∀ c, o.op ≠ .defer c) ∧ ∀ cs b, o.op ≠ .select cs b) ∧
      wpOpIn (WF ro) m P ops Q j (fun a' w' => (∀ r ∈ rd, forced md ops j r.1 = false → Yl P ops r.1 r.2.2 a' w') ∧
        Can n (done.setIfInBounds j true) (rd.filter fun r => !forced md ops j r.1) a' w') a w)
end

section
variable {ro : Option Nat} {m : Nat} {P : Program} {md : Region.Mode} {ops : Array Oper} {Q : Exit → Act → World → Prop}

/-- How an order under way stands to the canonical one: some readers are late. -/
structure Lag (P : Program) (md : Region.Mode) (ops : Array Oper) (listed done : Array Bool) (late rd : List Rd) (a b : Act) (w : World) : Prop where
  sizeL : listed.size = ops.size
  sizeD : done.size = ops.size
  eq : ∀ i, i < ops.size → (done.getD i true = true ↔ listed.getD i true = true ∨ ∃ r ∈ late, r.1 = i)
  notl : ∀ r ∈ late, listed.getD r.1 true = false
  nodup : (late.map (·.1)).Nodup
  sub : ∀ r ∈ late, r ∈ rd
  yl : ∀ r ∈ rd, Yl P ops r.1 r.2.2 b w
  ml : ∀ r ∈ rd, mayLate md ops r.1 r.2.1 = true
  deps : ∀ l1 r l2, late = l1 ++ r :: l2 → ∀ o, ops[r.1]? = some o → ∀ e ∈ o.after, Region.binds md e = true → listed.getD e.on false = true ∨ ∃ q ∈ l1, q.1 = e.on
  act : b = puts a (late.map (·.2))
  rdd : ∀ r ∈ rd, ∀ o, ops[r.1]? = some o → ∀ e ∈ o.after, Region.binds md e = true → done.getD e.on false = true

theorem mayLate_spec {i : Nat} {t : Tmp} (h : mayLate md ops i t = true) : ∃ oi, ops[i]? = some oi ∧ oi.dst = some t ∧ t ∉ oi.looksAt ops ∧ (∀ cs b, oi.op ≠ .select cs b) ∧ (∀ c, oi.op ≠ .defer c) ∧
    ∀ j oj, ops[j]? = some oj → j ≠ i → forced md ops j i = false → (t ∉ oj.looksAt ops ∧ oj.dst ≠ some t) ∧ (∀ cs b, oj.op ≠ .select cs b) ∧ ∀ c, oj.op ≠ .defer c := by
  unfold mayLate at h
  split at h
  · rename_i oi hi
    simp only [Bool.and_eq_true, beq_iff_eq, Bool.not_eq_true', List.all_eq_true, List.mem_range, Bool.or_eq_true] at h
    obtain ⟨⟨⟨⟨h1, h2⟩, h3⟩, h4⟩, h5⟩ := h
    refine ⟨oi, hi, h1, by simpa using h2, fun cs b he => by rw [he] at h3; simp at h3, fun c he => by rw [he] at h4; simp at h4, fun j oj hj hne hf => ?_⟩
    have hlt : j < ops.size := (Array.getElem?_eq_some_iff.1 hj).1
    rcases h5 j hlt with (h | h) | h
    · exact absurd h hne
    · rw [hf] at h; cases h
    · rw [hj] at h
      simp only [Bool.and_eq_true, Bool.not_eq_true'] at h
      exact ⟨⟨by simpa using h.1.1.1, by simpa using h.1.1.2⟩, fun cs b he => by rw [he] at h; simp at h, fun c he => by rw [he] at h; simp at h⟩
  · simp at h

/-- A late reader comes ahead of no operation that is ready. -/
theorem notForced {listed : Array Bool} {j i : Nat} (hj : j ∈ Region.ready md ops listed) (hi : listed.getD i true = false) : forced md ops j i = false := by
  obtain ⟨_, o, ho, hall⟩ := mem_ready.1 hj
  unfold forced
  rw [ho]
  simp only
  rw [Array.any_eq_false']
  intro e he
  by_cases hb : Region.binds md e = true
  · have h1 := hall e he hb
    by_cases hei : e.on = i
    · rw [hei] at h1
      rcases Nat.lt_or_ge i listed.size with h' | h'
      · simp [h'] at hi h1; rw [hi] at h1; cases h1
      · simp [Array.getElem?_eq_none h'] at h1
    · simp [hei]
  · simp [hb]

theorem puts_append : ∀ (l m : List (Tmp × Value)) (a : Act), puts a (l ++ m) = puts (puts a l) m
  | [], _, _ => rfl
  | (t, v) :: l, m, a => by simp only [List.cons_append, puts]; exact puts_append l m _

theorem Yl_put {i : Nat} {v : Value} {a : Act} {w : World} {t : Tmp} {x : Value} (h0 : ∀ o, ops[i]? = some o → t ∉ o.looksAt ops ∧ ∀ cs b, o.op ≠ .select cs b) :
    Yl P ops i v (a.put (some t) x) w ↔ Yl P ops i v a w := by
  have key : ∀ o, ops[i]? = some o → Region.wanted o (yielded ops (a.put (some t) x).tmps) = Region.wanted o (yielded ops a.tmps) ∧ execOp (a.put (some t) x).eval o = execOp a.eval o := fun o ho => by
    obtain ⟨h1, h2⟩ := h0 o ho
    exact ⟨wanted_put o a (some t) x (by rintro d ⟨⟩; exact h1), execOp_put o h2 a (some t) x (by rintro d ⟨⟩; exact h1)⟩
  constructor
  · rintro ⟨o, ho, h⟩
    obtain ⟨k1, k2⟩ := key o ho
    rw [k1, k2] at h
    exact ⟨o, ho, h⟩
  · rintro ⟨o, ho, h⟩
    obtain ⟨k1, k2⟩ := key o ho
    exact ⟨o, ho, by rw [k1, k2]; exact h⟩

theorem Yl_puts {i : Nat} {v : Value} {w : World} : ∀ {l : List (Tmp × Value)} {a : Act}, (∀ o, ops[i]? = some o → (∀ t x, (t, x) ∈ l → t ∉ o.looksAt ops) ∧ ∀ cs b, o.op ≠ .select cs b) →
    (Yl P ops i v (puts a l) w ↔ Yl P ops i v a w)
  | [], a, _ => Iff.rfl
  | (t, x) :: l, a, h0 => by
    rw [puts, Yl_puts (l := l) (fun o ho => ⟨fun t' x' hm => (h0 o ho).1 t' x' (by simp [hm]), (h0 o ho).2⟩)]
    exact Yl_put fun o ho => ⟨(h0 o ho).1 t x (by simp), (h0 o ho).2⟩

theorem Yl.wpOpIn {i : Nat} {v : Value} {a : Act} {w : World} {t : Tmp} (h : Yl P ops i v a w) (hd : ∀ o, ops[i]? = some o → o.dst = some t ∧ ∀ c, o.op ≠ .defer c) {K : Act → World → Prop}
    (hk : K (a.put (some t) v) w) : wpOpIn (WF ro) m P ops Q i K a w := by
  obtain ⟨o, ho, h⟩ := h
  obtain ⟨h1, h2⟩ := hd o ho
  unfold Go.wpOpIn
  simp only [ho]
  rcases h with ⟨hw, hr⟩ | ⟨hw, rfl⟩
  · simp only [hw, if_true, Oper.wpIn, Oper.semAt_eq _ _ _ h2, hr, Oper.uponIn, h1]
    exact ⟨fun f _ => WF_fn ro f, hk⟩
  · simp only [hw, Bool.false_eq_true, if_false, h1]
    exact ⟨fun f _ => WF_fn ro f, hk⟩
end
end Go.Sx
/- Drawn regions (III): one order tells of all: the theorem. -/
namespace Go.Sx
open Go.RowKit

section
variable {ro : Option Nat} {m : Nat} {P : Program} {md : Region.Mode} {ops : Array Oper} {Q : Exit → Act → World → Prop}
variable {listed done : Array Bool} {late rd : List Rd} {a b : Act} {w : World}

/-- A late reader's dst is no business of an operation that is ready. -/
theorem Lag.apart (h : Lag P md ops listed done late rd a b w) {j : Nat} {oj : Oper} (hj : j ∈ Region.ready md ops listed) (hoj : ops[j]? = some oj) {r : Rd} (hr : r ∈ late) :
    r.2.1 ∉ oj.looksAt ops ∧ (r.1 ≠ j → oj.dst ≠ some r.2.1) := by
  obtain ⟨oi, hi, hd, hself, hs, hdf, hall⟩ := mayLate_spec (h.ml r (h.sub r hr))
  by_cases hji : j = r.1
  · subst hji
    rw [hi] at hoj; cases hoj
    exact ⟨hself, fun hne => absurd rfl hne⟩
  · have hf := notForced hj (h.notl r hr)
    obtain ⟨⟨h1, h2⟩, _, _⟩ := hall j oj hoj hji hf
    exact ⟨h1, fun _ => h2⟩

theorem Lag.ready_done (h : Lag P md ops listed done late rd a b w) {j : Nat} (hj : j ∈ Region.ready md ops listed) : (∃ r ∈ late, r.1 = j) ∨ j ∈ Region.ready md ops done := by
  obtain ⟨h0, o, ho, hall⟩ := mem_ready.1 hj
  have hlt : j < ops.size := (Array.getElem?_eq_some_iff.1 ho).1
  by_cases hl : ∃ r ∈ late, r.1 = j
  · exact .inl hl
  · refine .inr (mem_ready.2 ⟨?_, o, ho, fun e he hb => ?_⟩)
    · cases hd : done.getD j true with
      | false => rfl
      | true =>
        rcases (h.eq j hlt).1 hd with h1 | h1
        · rw [h0] at h1; cases h1
        · exact absurd h1 hl
    · have h1 := hall e he hb
      have hlt' : e.on < listed.size := by
        rcases Nat.lt_or_ge e.on listed.size with h' | h'
        · exact h'
        · simp [Array.getElem?_eq_none h'] at h1
      have hlt2 : e.on < ops.size := by rw [← h.sizeL]; exact hlt'
      have h2 := (h.eq e.on hlt2).2 (.inl (by simp [hlt'] at h1 ⊢; exact h1))
      have hd' : e.on < done.size := by rw [h.sizeD]; exact hlt2
      simp [hd'] at h2 ⊢
      exact h2

/-- Where a reader is late, the first of them is ready. -/
theorem Lag.first (h : Lag P md ops listed done late rd a b w) (hne : Region.ready md ops listed = []) : late = [] := by
  cases hl : late with
  | nil => rfl
  | cons r l =>
    exfalso
    have hr : r ∈ late := by simp [hl]
    obtain ⟨oi, hi, _⟩ := mayLate_spec (h.ml r (h.sub r hr))
    have : r.1 ∈ Region.ready md ops listed := mem_ready.2 ⟨h.notl r hr, oi, hi, fun e he hb => by
      rcases h.deps [] r l (by simp [hl]) oi hi e he hb with h1 | ⟨q, hq, _⟩
      · exact h1
      · cases hq⟩
    rw [hne] at this
    cases this

theorem getD_set {l : Array Bool} {i j : Nat} (hi : i < l.size) (d : Bool) : (l.setIfInBounds i true).getD j d = if j = i then true else l.getD j d := by
  simp only [Array.getD_eq_getD_getElem?, Array.getElem?_setIfInBounds]
  by_cases h : i = j
  · subst h; simp [hi]
  · rw [if_neg h, if_neg (fun e => h e.symm)]

/-- A reader that is late is carried out. -/
theorem Lag.late_step (h : Lag P md ops listed done late rd a b w) {r : Rd} {l1 l2 : List Rd} (hl : late = l1 ++ r :: l2) (hj : r.1 ∈ Region.ready md ops listed) :
    Yl P ops r.1 r.2.2 a w ∧ Lag P md ops (listed.setIfInBounds r.1 true) done (l1 ++ l2) rd (a.put (some r.2.1) r.2.2) b w := by
  have hr : r ∈ late := by simp [hl]
  obtain ⟨oi, hi, hd, hself, hs, hdf, hall⟩ := mayLate_spec (h.ml r (h.sub r hr))
  have hlt : r.1 < ops.size := (Array.getElem?_eq_some_iff.1 hi).1
  have hltL : r.1 < listed.size := by rw [h.sizeL]; exact hlt
  have hnd := h.nodup
  rw [hl, List.map_append, List.map_cons, List.nodup_append] at hnd
  obtain ⟨n1, n2, n3⟩ := hnd
  have n2' := List.nodup_cons.1 n2
  have hne : ∀ q ∈ l1 ++ l2, q.1 ≠ r.1 := by
    intro q hq e
    rcases List.mem_append.1 hq with hq | hq
    · exact n3 q.1 (List.mem_map_of_mem hq) r.1 (by simp) e
    · exact n2'.1 (by rw [← e]; exact List.mem_map_of_mem hq)
  have hsub : ∀ q ∈ l1 ++ l2, q ∈ late := by
    intro q hq
    rw [hl]
    rcases List.mem_append.1 hq with hq | hq <;> simp [hq]
  refine ⟨?_, ?_⟩
  · have hy := h.yl r (h.sub r hr)
    rw [h.act] at hy
    refine (Yl_puts fun o ho => ⟨fun t x hm => ?_, ?_⟩).1 hy
    · obtain ⟨q, hq, he⟩ := List.mem_map.1 hm
      have := (h.apart hj ho hq).1
      rw [he] at this; exact this
    · rw [hi] at ho; cases ho; exact hs
  · refine ⟨by simp [h.sizeL], h.sizeD, ?_, ?_, ?_, fun q hq => h.sub q (hsub q hq), h.yl, h.ml, ?_, ?_, h.rdd⟩
    · intro i hilt
      rw [getD_set hltL, h.eq i hilt]
      by_cases hir : i = r.1
      · subst hir; simp [hr]
        exact .inr ⟨r.2.1, r.2.2, hr⟩
      · simp only [if_neg hir]
        constructor
        · rintro (h1 | ⟨q, hq, rfl⟩)
          · exact .inl h1
          · refine .inr ⟨q, ?_, rfl⟩
            rw [hl] at hq
            rcases List.mem_append.1 hq with hq | hq
            · simp [hq]
            · rcases List.mem_cons.1 hq with rfl | hq
              · exact absurd rfl hir
              · simp [hq]
        · rintro (h1 | ⟨q, hq, rfl⟩)
          · exact .inl h1
          · exact .inr ⟨q, hsub q hq, rfl⟩
    · intro q hq
      rw [getD_set hltL, if_neg (hne q hq)]
      exact h.notl q (hsub q hq)
    · rw [List.map_append, List.nodup_append]
      exact ⟨n1, n2'.2, fun x hx y hy => n3 x hx y (by simp [hy])⟩
    · intro k1 q k2 hk o ho e he hb
      have hltE : ∀ x : Nat, listed.getD x false = true → (listed.setIfInBounds r.1 true).getD x false = true := fun x hx => by
        rw [getD_set hltL]; split <;> simp_all
      have hq : q ∈ l1 ++ l2 := by rw [hk]; simp
      have hcase : ∃ p1 p2, late = p1 ++ q :: p2 ∧ ∀ x ∈ p1, x ∈ k1 ∨ x = r := by
        rcases List.append_eq_append_iff.1 hk with ⟨c, h1, h2⟩ | ⟨c, h1, h2⟩
        · refine ⟨l1 ++ r :: c, k2, ?_, ?_⟩
          · rw [hl, h2]; simp
          · intro x hx
            rcases List.mem_append.1 hx with hx | hx
            · left; rw [h1]; simp [hx]
            · rcases List.mem_cons.1 hx with rfl | hx
              · exact .inr rfl
              · left; rw [h1]; simp [hx]
        · cases c with
          | nil =>
            simp only [List.append_nil] at h1
            simp only [List.nil_append] at h2
            refine ⟨l1 ++ [r], k2, ?_, ?_⟩
            · rw [hl, ← h2]; simp
            · intro x hx
              rcases List.mem_append.1 hx with hx | hx
              · left; rw [← h1]; exact hx
              · simp at hx; exact .inr hx
          | cons y c =>
            simp only [List.cons_append, List.cons.injEq] at h2
            obtain ⟨rfl, h2⟩ := h2
            refine ⟨k1, c ++ r :: l2, ?_, fun x hx => .inl hx⟩
            rw [hl, h1]; simp
      obtain ⟨p1, p2, hp, hmem⟩ := hcase
      rcases h.deps p1 q p2 hp o ho e he hb with h1 | ⟨x, hx, he'⟩
      · exact .inl (hltE _ h1)
      · rcases hmem x hx with hx | rfl
        · exact .inr ⟨x, hx, he'⟩
        · left; rw [← he', getD_set hltL, if_pos rfl]
    · rw [h.act, hl]
      simp only [List.map_append, List.map_cons]
      refine puts_take _ _ _ _ _ fun u x hm e => ?_
      obtain ⟨q, hq, he⟩ := List.mem_map.1 hm
      have hq' : q ∈ late := hsub q (by simp [hq])
      have h2 := (h.apart hj hi hq').2 (hne q (by simp [hq]))
      rw [he] at h2
      exact h2 (by rw [hd, ← e])

/-- The canonical order takes a reader: it is late. -/
theorem Lag.advance (h : Lag P md ops listed done late rd a b w) {i : Nat} {t : Tmp} {v : Value} (hi : i ∈ Region.ready md ops done) (hm : mayLate md ops i t = true) (hy : Yl P ops i v b w) :
    Lag P md ops listed (done.setIfInBounds i true) (late ++ [(i, t, v)]) ((i, t, v) :: rd) a (b.put (some t) v) w := by
  obtain ⟨oi, ho, hd, hself, hs, hdf, hall⟩ := mayLate_spec hm
  obtain ⟨hun, o', ho', hdeps⟩ := mem_ready.1 hi
  rw [ho] at ho'; cases ho'
  have hlt : i < ops.size := (Array.getElem?_eq_some_iff.1 ho).1
  have hltD : i < done.size := by rw [h.sizeD]; exact hlt
  have hnot : ¬ (listed.getD i true = true ∨ ∃ r ∈ late, r.1 = i) := fun hc => by rw [(h.eq i hlt).2 hc] at hun; cases hun
  refine ⟨h.sizeL, by simp [h.sizeD], ?_, ?_, ?_, ?_, ?_, ?_, ?_, ?_, ?_⟩
  · intro j hj
    rw [getD_set hltD]
    by_cases hji : j = i
    · subst hji; simp
    · rw [if_neg hji, h.eq j hj]
      constructor
      · rintro (h1 | ⟨r, hr, rfl⟩)
        · exact .inl h1
        · exact .inr ⟨r, by simp [hr], rfl⟩
      · rintro (h1 | ⟨r, hr, rfl⟩)
        · exact .inl h1
        · rcases List.mem_append.1 hr with hr | hr
          · exact .inr ⟨r, hr, rfl⟩
          · simp at hr; subst hr; exact absurd rfl hji
  · intro r hr
    rcases List.mem_append.1 hr with hr | hr
    · exact h.notl r hr
    · simp at hr; subst hr
      cases hl : listed.getD i true with
      | false => rfl
      | true => exact absurd (.inl hl) hnot
  · rw [List.map_append, List.nodup_append]
    refine ⟨h.nodup, by simp, fun x hx y hy e => ?_⟩
    simp at hy
    subst hy; subst e
    obtain ⟨r, hr, he⟩ := List.mem_map.1 hx
    exact hnot (.inr ⟨r, hr, he⟩)
  · intro r hr
    rcases List.mem_append.1 hr with hr | hr
    · exact List.mem_cons_of_mem _ (h.sub r hr)
    · simp at hr; subst hr; simp
  · intro r hr
    rcases List.mem_cons.1 hr with rfl | hr
    · exact (Yl_put fun o ho2 => by rw [ho] at ho2; cases ho2; exact ⟨hself, hs⟩).2 hy
    · refine (Yl_put fun o ho2 => ?_).2 (h.yl r hr)
      obtain ⟨oi', ho3, _, _, hs', _, _⟩ := mayLate_spec (h.ml r hr)
      rw [ho2] at ho3; cases ho3
      refine ⟨?_, hs'⟩
      by_cases hri : r.1 = i
      · rw [hri, ho] at ho2; cases ho2; exact hself
      · have hf : forced md ops r.1 i = false := by
          unfold forced
          rw [ho2]
          simp only
          rw [Array.any_eq_false']
          intro e he
          by_cases hb : Region.binds md e = true
          · have h1 := h.rdd r hr o ho2 e he hb
            by_cases hei : e.on = i
            · rw [hei] at h1
              simp [hltD] at h1 hun; rw [hun] at h1; cases h1
            · simp [hei]
          · simp [hb]
        exact (hall r.1 o ho2 hri hf).1.1
  · intro r hr
    rcases List.mem_cons.1 hr with rfl | hr
    · exact hm
    · exact h.ml r hr
  · intro l1 r l2 hl o ho2 e he hb
    rcases List.append_eq_append_iff.1 hl with ⟨c, h1, h2⟩ | ⟨c, h1, h2⟩
    · cases c with
      | nil =>
        simp only [List.append_nil] at h1
        simp only [List.nil_append, List.cons.injEq] at h2
        obtain ⟨rfl, _⟩ := h2
        rw [ho] at ho2; cases ho2
        have h3 := hdeps e he hb
        have hle : e.on < ops.size := by
          rw [← h.sizeD]
          rcases Nat.lt_or_ge e.on done.size with h' | h'
          · exact h'
          · simp [Array.getElem?_eq_none h'] at h3
        have hleD : e.on < done.size := by rw [h.sizeD]; exact hle
        have hleL : e.on < listed.size := by rw [h.sizeL]; exact hle
        rcases (h.eq e.on hle).1 (by simp [hleD] at h3 ⊢; exact h3) with h4 | ⟨q, hq, h4⟩
        · left; simp [hleL] at h4 ⊢; exact h4
        · right; exact ⟨q, by rw [h1]; exact hq, h4⟩
      | cons y c =>
        exfalso
        simp only [List.cons_append, List.cons.injEq] at h2
        have := h2.2
        cases c <;> simp at this
    · cases c with
      | nil =>
        simp only [List.append_nil] at h1
        simp only [List.nil_append, List.cons.injEq] at h2
        obtain ⟨rfl, _⟩ := h2
        rw [ho] at ho2; cases ho2
        have h3 := hdeps e he hb
        have hle : e.on < ops.size := by
          rw [← h.sizeD]
          rcases Nat.lt_or_ge e.on done.size with h' | h'
          · exact h'
          · simp [Array.getElem?_eq_none h'] at h3
        have hleD : e.on < done.size := by rw [h.sizeD]; exact hle
        have hleL : e.on < listed.size := by rw [h.sizeL]; exact hle
        rcases (h.eq e.on hle).1 (by simp [hleD] at h3 ⊢; exact h3) with h4 | ⟨q, hq, h4⟩
        · left; simp [hleL] at h4 ⊢; exact h4
        · right; exact ⟨q, by rw [← h1]; exact hq, h4⟩
      | cons y c =>
        simp only [List.cons_append, List.cons.injEq] at h2
        obtain ⟨rfl, h2⟩ := h2
        exact h.deps l1 r c h1 o ho2 e he hb
  · rw [h.act, List.map_append, puts_append]; rfl
  · intro r hr o ho2 e he hb
    have hle : ∀ x : Nat, done.getD x false = true → (done.setIfInBounds i true).getD x false = true := fun x hx => by
      rw [getD_set hltD]; split <;> simp_all
    rcases List.mem_cons.1 hr with rfl | hr
    · rw [ho] at ho2; cases ho2; exact hle _ (hdeps e he hb)
    · exact hle _ (h.rdd r hr o ho2 e he hb)

theorem Lag.effect (h : Lag P md ops listed done late rd a b w) {j : Nat} (hj : j ∈ Region.ready md ops listed) (hd : j ∈ Region.ready md ops done) {a' : Act} {w' : World}
    (hy : ∀ r ∈ rd, forced md ops j r.1 = false → Yl P ops r.1 r.2.2 (puts a' (late.map (·.2))) w') :
    Lag P md ops (listed.setIfInBounds j true) (done.setIfInBounds j true) late (rd.filter fun r => !forced md ops j r.1) a' (puts a' (late.map (·.2))) w' := by
  obtain ⟨hun, o, ho, hdeps⟩ := mem_ready.1 hd
  have hlt : j < ops.size := (Array.getElem?_eq_some_iff.1 ho).1
  have hltD : j < done.size := by rw [h.sizeD]; exact hlt
  have hltL : j < listed.size := by rw [h.sizeL]; exact hlt
  have hne : ∀ r ∈ late, r.1 ≠ j := fun r hr e => by
    have := (h.eq j hlt).2 (.inr ⟨r, hr, e⟩)
    rw [hun] at this; cases this
  refine ⟨by simp [h.sizeL], by simp [h.sizeD], ?_, ?_, h.nodup, ?_, ?_, ?_, ?_, rfl, ?_⟩
  · intro i hi
    rw [getD_set hltD, getD_set hltL]
    by_cases hij : i = j
    · simp [hij]
    · simp only [if_neg hij]; exact h.eq i hi
  · intro r hr
    rw [getD_set hltL, if_neg (hne r hr)]
    exact h.notl r hr
  · intro r hr
    exact List.mem_filter.2 ⟨h.sub r hr, by simp [notForced hj (h.notl r hr)]⟩
  · intro r hr
    obtain ⟨h1, h2⟩ := List.mem_filter.1 hr
    exact hy r h1 (by simpa using h2)
  · intro r hr
    exact h.ml r (List.mem_filter.1 hr).1
  · intro l1 r l2 hl o' ho' e he hb
    rcases h.deps l1 r l2 hl o' ho' e he hb with h1 | h1
    · left; rw [getD_set hltL]; split <;> simp_all
    · exact .inr h1
  · intro r hr o' ho' e he hb
    have h1 := h.rdd r (List.mem_filter.1 hr).1 o' ho' e he hb
    rw [getD_set hltD]; split <;> simp_all

/-- How many operations are not listed yet. -/
def unl (listed : Array Bool) : Nat := listed.toList.count false

theorem unl_set {l : Array Bool} {i : Nat} (hi : l.getD i true = false) : unl (l.setIfInBounds i true) + 1 = unl l := by
  unfold unl
  have hlt : i < l.size := by
    rcases Nat.lt_or_ge i l.size with h | h
    · exact h
    · simp [Array.getElem?_eq_none h] at hi
  rw [Array.toList_setIfInBounds, List.set_eq_take_append_cons_drop, if_pos (by simpa using hlt)]
  have hv : l.toList[i]'(by simpa using hlt) = false := by simpa [hlt] using hi
  have : l.toList = l.toList.take i ++ false :: l.toList.drop (i + 1) := by
    conv => lhs; rw [← List.take_append_drop i l.toList]
    rw [← hv, List.getElem_cons_drop]
  conv => rhs; rw [this]
  simp [List.count_append, List.count_cons]
  omega

theorem can_any (hQ : ∀ c a w, ¬ Q (.panic c) a w) : ∀ (fuel n : Nat) {listed done : Array Bool} {late rd : List Rd} {a b : Act} {w : World}, Lag P md ops listed done late rd a b w →
    Can ro m P md ops Q n done rd b w → unl listed ≤ fuel → wpAnyIn (WF ro) m P md ops Q fuel listed a w := by
  intro fuel
  induction fuel with
  | zero =>
    intro n
    induction n with
    | zero =>
      intro listed done late rd a b w h hc hu
      have hr : Region.ready md ops listed = [] := by
        cases hr : Region.ready md ops listed with
        | nil => rfl
        | cons j l =>
          have := unl_set (mem_ready.1 (show j ∈ Region.ready md ops listed by simp [hr])).1
          omega
      have hl := h.first hr
      have hb := h.act
      subst hl
      simp only [List.map_nil, puts] at hb
      subst hb
      exact ⟨hr, hc.2⟩
    | succ n ih =>
      intro listed done late rd a b w h hc hu
      have hr : Region.ready md ops listed = [] := by
        cases hr : Region.ready md ops listed with
        | nil => rfl
        | cons j l =>
          have := unl_set (mem_ready.1 (show j ∈ Region.ready md ops listed by simp [hr])).1
          omega
      rcases hc with ⟨_, hq⟩ | ⟨i, t, v, hi, hm, hy, hc⟩ | ⟨⟨j, hj⟩, _⟩
      · have hl := h.first hr
        have hb := h.act
        subst hl
        simp only [List.map_nil, puts] at hb
        subst hb
        exact ⟨hr, hq⟩
      · exact ih (h.advance hi hm hy) hc hu
      · exfalso
        have hl := h.first hr
        subst hl
        obtain ⟨h0, o, ho, hall⟩ := mem_ready.1 hj
        have hlt : j < ops.size := (Array.getElem?_eq_some_iff.1 ho).1
        have hu0 : unl listed = 0 := by omega
        cases hlj : listed.getD j true with
        | false => have := unl_set hlj; omega
        | true =>
          have := (h.eq j hlt).2 (.inl hlj)
          rw [h0] at this; cases this
  | succ fuel ihF =>
    intro n
    have late_case : ∀ {n : Nat} {listed done : Array Bool} {late rd : List Rd} {a b : Act} {w : World}, Lag P md ops listed done late rd a b w → Can ro m P md ops Q n done rd b w → unl listed ≤ fuel + 1 →
        ∀ j ∈ Region.ready md ops listed, (∃ r ∈ late, r.1 = j) → wpOpIn (WF ro) m P ops Q j (wpAnyIn (WF ro) m P md ops Q fuel (listed.setIfInBounds j true)) a w := by
      rintro n listed done late rd a b w h hc hu j hj ⟨r, hr, rfl⟩
      obtain ⟨l1, l2, hl⟩ := List.append_of_mem hr
      obtain ⟨hy, hlag⟩ := h.late_step hl hj
      obtain ⟨oi, hi, hd, _, _, hdf, _⟩ := mayLate_spec (h.ml r (h.sub r hr))
      refine hy.wpOpIn (t := r.2.1) (fun o ho => by rw [hi] at ho; cases ho; exact ⟨hd, hdf⟩) ?_
      exact ihF n hlag hc (by have := unl_set (mem_ready.1 hj).1; omega)
    induction n with
    | zero =>
      intro listed done late rd a b w h hc hu
      refine ⟨fun hr => ?_, fun j hj => ?_⟩
      · have hl := h.first hr
        have hb := h.act
        subst hl
        simp only [List.map_nil, puts] at hb
        subst hb
        exact hc.2
      · rcases h.ready_done hj with hl | hd
        · exact late_case h hc hu j hj hl
        · rw [hc.1] at hd; cases hd
    | succ n ih =>
      intro listed done late rd a b w h hc hu
      rcases hc with ⟨hrd, hq⟩ | ⟨i, t, v, hi, hm, hy, hc⟩ | ⟨⟨j0, hj0⟩, hal0⟩
      · refine ⟨fun hr => ?_, fun j hj => ?_⟩
        · have hl := h.first hr
          have hb := h.act
          subst hl
          simp only [List.map_nil, puts] at hb
          subst hb
          exact hq
        · rcases h.ready_done hj with hl | hd
          · exact late_case (n := n + 1) h (.inl ⟨hrd, hq⟩) hu j hj hl
          · rw [hrd] at hd; cases hd
      · exact ih (h.advance hi hm hy) hc hu
      · refine ⟨fun hr => ?_, fun j hj => ?_⟩
        · exfalso
          have hl := h.first hr
          subst hl
          obtain ⟨h0, o, ho, hall⟩ := mem_ready.1 hj0
          have hlt : j0 < ops.size := (Array.getElem?_eq_some_iff.1 ho).1
          have hun : listed.getD j0 true = false := by
            cases hlj : listed.getD j0 true with
            | false => rfl
            | true => have := (h.eq j0 hlt).2 (.inl hlj); rw [h0] at this; cases this
          have : j0 ∈ Region.ready md ops listed := mem_ready.2 ⟨hun, o, ho, fun e he hb => by
            have h3 := hall e he hb
            have hleD : e.on < done.size := by
              rcases Nat.lt_or_ge e.on done.size with h' | h'
              · exact h'
              · simp [Array.getElem?_eq_none h'] at h3
            have hle : e.on < ops.size := by rw [← h.sizeD]; exact hleD
            have hleL : e.on < listed.size := by rw [h.sizeL]; exact hle
            rcases (h.eq e.on hle).1 (by simp [hleD] at h3 ⊢; exact h3) with h4 | ⟨q, hq, _⟩
            · simp [hleL] at h4 ⊢; exact h4
            · cases hq⟩
          rw [hr] at this; cases this
        · rcases h.ready_done hj with hl | hd
          · exact late_case (n := n + 1) h (.inr (.inr ⟨⟨j0, hj0⟩, hal0⟩)) hu j hj hl
          · obtain ⟨hop, hc⟩ := hal0 j hd
            obtain ⟨_, oj, hoj, _⟩ := mem_ready.1 hj
            obtain ⟨hdf, hsl⟩ := hop oj hoj
            rw [h.act] at hc
            have hap : ApartFrom ops oj (late.map (·.2)) := by
              intro t v hm
              obtain ⟨q, hq, he⟩ := List.mem_map.1 hm
              have h1 := h.apart hj hoj hq
              rw [he] at h1
              refine ⟨h1.1, h1.2 fun e => ?_⟩
              obtain ⟨h0, _⟩ := mem_ready.1 hd
              obtain ⟨oq, hoq, _⟩ := mayLate_spec (h.ml q (h.sub q hq))
              have := (h.eq q.1 (Array.getElem?_eq_some_iff.1 hoq).1).2 (.inr ⟨q, hq, rfl⟩)
              rw [e, h0] at this; cases this
            refine wpOpIn_mono ?_ (wpOpIn_puts hoj hsl hdf hQ hap hc)
            rintro a' w' ⟨hy, hc'⟩
            exact ihF n (h.effect hj hd hy) hc' (by have := unl_set (mem_ready.1 hj).1; omega)
end
end Go.Sx
/- Operations (I): making variables, values of parts, reading and writing. -/
namespace Go.Sx
open Go.RowKit

section
variable {P : Program} {w0 : Fr} {gl : Glob} {ro : Option Nat} {k : K} {s : St} {a : Act} {w : World} {Q : Env → GS → Out → St → Prop} {B : Backs}

theorem cells_one {v : Value} (h : v.oneCell' = true) : v.cells = #[v] := by
  cases v <;> first | rfl | simp [Value.oneCell'] at h

theorem getD_one {k : K} (hc : ∀ u ∈ k.ρ.v, u.oneCell' = true) (j : Nat) : (k.ρ.v.getD j .nilIface).oneCell' = true := by
  rw [List.getD_eq_getElem?_getD]
  cases h : k.ρ.v[j]? with
  | none => rfl
  | some v => exact hc v (List.mem_of_getElem? h)

theorem oneD_one {k : K} (hc : ∀ u ∈ k.ρ.v, u.oneCell' = true) {d : DV} (h : d.oneD = true) : (d.den k).oneCell' = true := by
  cases d <;> simp [DV.oneD] at h <;> simp only [DV.den] <;> first | rfl | exact getD_one hc _

theorem allOne_one {k : K} (hc : ∀ u ∈ k.ρ.v, u.oneCell' = true) {l : List DV} (h : allOne l = true) {vs : List Value} (hv : DV.iss k l vs) : ∀ v ∈ vs, v.oneCell' = true := by
  intro v hm
  rw [← hv.here, DV.dens_eq_map] at hm
  simp only [List.mem_map] at hm
  obtain ⟨d, hd, rfl⟩ := hm
  exact oneD_one hc (by simp only [allOne, List.all_eq_true] at h; exact h d hd)

theorem cellsL_sound {k : K} (hc : ∀ u ∈ k.ρ.v, u.oneCell' = true) {d : DV} (h : allOne d.cellsL = true) {v : Value} (hv : d.is k v) : DV.iss k d.cellsL v.cells.toList := by
  by_cases hd : d.oneD = true
  · have h1 : v.oneCell' = true := by rw [← hv.here]; exact oneD_one hc hd
    rw [cells_one h1]
    have : d.cellsL = [d] := by cases d <;> first | rfl | simp [DV.oneD] at hd
    rw [this]
    exact DV.iss_cons hv DV.iss_nil
  · cases d <;> simp [DV.oneD] at hd
    · obtain ⟨vs, rfl, hl⟩ := is_agg hv
      simpa [DV.cellsL, Value.cells] using hl
    · simp [DV.cellsL, allOne, DV.oneD] at h
    · simp [DV.cellsL, allOne, DV.oneD] at h

theorem allOne_len {d : DV} : d.cellsL.length = d.cellsL.length := rfl

theorem zeroD_spec {t : TypeId} {l : List DV} (h : zeroD P t = some l) : ∃ i v, P.info? t = some i ∧ i.zero = some v ∧ allOne l = true ∧ (∀ k, DV.iss k l v.cells.toList) ∧ l.length = v.cells.size := by
  unfold zeroD at h
  split at h
  · rename_i i hi
    split at h
    · rename_i v hv
      split at h
      · rename_i l' hl
        split at h
        · rename_i ho
          simp only [Option.some.injEq] at h; subst h
          refine ⟨i, v, hi, hv, ho, fun k k' _ => ofValues_sound k' _ _ hl, ?_⟩
          have := congrArg List.length (ofValues_sound ⟨{}, fun _ => 0, 0, fun _ => none⟩ _ _ hl)
          rw [DV.dens_length] at this
          simpa using this
        · simp at h
      · simp at h
    · simp at h
  · simp at h

theorem run_zeroD {t : TypeId} {i : TypeInfo} {v : Value} (hi : P.info? t = some i) (hv : i.zero = some v) : (zeroValue t).run P w = .ok v w := by
  simp [zeroValue, run_typeInfo hi, hv]

/-- A block just made. -/
theorem post_row (hs : StR w0 gl ro k s a w) {cs : List DV} {vs : List Value} {e : TypeId} (hv : ∀ k', k.le k' → DV.iss k' cs vs) (ho : allOne cs = true) :
    StR w0 gl ro (k.grow w.heap.size) { s with heap := (s.nx, .row cs e) :: s.heap, nx := s.nx + 1 } a { w with heap := w.heap.push (.cells vs.toArray e) } := by
  have hle := K.le_grow k w.heap.size
  have hl := (hv k (K.le.refl k)).length
  refine hs.new (o := .row cs e) ⟨vs, rfl, by omega, ?_, ?_, ?_⟩ rfl
  · rw [← hl, List.take_length]; exact hv _ hle
  · rw [hl]; exact isI_lit _
  · rw [← hl, List.take_length]; exact allOne_one hs.ct.one ho (hv k (K.le.refl k))

theorem is_new (k : K) (n : Nat) : (Ref.mk (.id k.nx) (.lit 0)).is (k.grow n) (some ⟨n, 0, none⟩) := by
  intro k' hle
  have hb := hle.β k.nx (Nat.lt_succ_self _)
  simp only [Ref.den, Base.den, hb]
  simp [K.grow, E.ii, add_plain]

theorem allocD_sound (hs : StR w0 gl ro k s a w) {t : TypeId} {z : List DV} (hz : zeroD P t = some z)
    (h : (retv { s with heap := (s.nx, .row z t) :: s.heap, nx := s.nx + 1 } (.ptr ⟨.id s.nx, .lit 0⟩)).sat P Q B k.ρ k.G) :
    OpPost w0 gl ro a Q k ((Instr.alloc t true (.tuple #[])).run P w) := by
  obtain ⟨i, v, hi, hv, ho, hl, hn⟩ := zeroD_spec hz
  have := post_row hs (e := t) (fun k' _ => hl k') ho
  refine ⟨k.grow w.heap.size, .pointer (some ⟨w.heap.size, 0, none⟩), .ptr ⟨.id s.nx, .lit 0⟩, _, _, ?_, K.le_grow _ _, this, ?_, h⟩
  · simp [Instr.alloc, run_zeroD hi hv, newVar, newRow]
  · rw [← hs.nx]; exact mk_ptr (is_new k _)

theorem boxD_sound (hs : StR w0 gl ro k s a w) {t : TypeId} {d : DV} {v : Value} (hd : d.is k v) (ho : allOne d.cellsL = true)
    (h : (retv { s with heap := (s.nx, .row d.cellsL t) :: s.heap, nx := s.nx + 1 } (.ptr ⟨.id s.nx, .lit 0⟩)).sat P Q B k.ρ k.G) :
    OpPost w0 gl ro a Q k ((Instr.box t v).run P w) := by
  have := post_row hs (e := t) (fun k' hle => (cellsL_sound hs.ct.one ho hd).mono hle) ho
  refine ⟨k.grow w.heap.size, .pointer (some ⟨w.heap.size, 0, none⟩), .ptr ⟨.id s.nx, .lit 0⟩, _, _, ?_, K.le_grow _ _, this, ?_, h⟩
  · simp [Instr.box, newVar, newRow]
  · rw [← hs.nx]; exact mk_ptr (is_new k _)

theorem setAt_spec {α : Type} {l new l' : List α} {off : Nat} (h : setAt l off new = some l') : off + new.length ≤ l.length ∧ l' = l.take off ++ new ++ l.drop (off + new.length) := by
  unfold setAt at h
  split at h
  · simp only [Option.some.injEq] at h; exact ⟨‹_›, h.symm⟩
  · simp at h

theorem foldl_set (new : List Value) : ∀ (off j : Nat) (cs : Array Value), off + j + new.length ≤ cs.size →
    (new.zipIdx j).foldl (fun cs (x : Value × Nat) => cs.setIfInBounds (off + x.2) x.1) cs = (cs.toList.take (off + j) ++ new ++ cs.toList.drop (off + j + new.length)).toArray := by
  induction new with
  | nil => intro off j cs h; simp
  | cons v new ih =>
    intro off j cs h
    simp only [List.length_cons] at h
    simp only [List.zipIdx_cons, List.foldl_cons]
    rw [ih off (j + 1) _ (by simp; omega)]
    congr 1
    have hl : off + j < cs.toList.length := by simp; omega
    have h2 : (List.take (off + j) cs.toList).length = off + j := by simp; omega
    rw [Array.toList_setIfInBounds, List.set_eq_take_append_cons_drop, if_pos hl]
    have e1 : off + (j + 1) = (List.take (off + j) cs.toList).length + 1 := by rw [h2]; omega
    rw [e1, List.take_length_add_append, show (List.take (off + j) cs.toList).length + 1 + new.length = (List.take (off + j) cs.toList).length + (1 + new.length) by omega, List.drop_length_add_append]
    simp only [List.take_succ_cons, List.take_zero, List.append_assoc, List.cons_append, List.nil_append, List.length_cons]
    rw [show 1 + new.length = new.length + 1 from Nat.add_comm _ _, List.drop_succ_cons, List.drop_drop]
    congr 4
    omega

theorem fillD_sound {place : Nat → Option (Nat × Nat)} (hc : ∀ u ∈ k.ρ.v, u.oneCell' = true) : ∀ {ps : List (Nat × DV)} {vs : List Value} {cells cells' : List DV} {cv : Array Value},
    DV.iss k (ps.map (·.2)) vs → DV.iss k cells cv.toList → fillD place cells ps = some cells' → allOne (ps.flatMap fun p => p.2.cellsL) = true →
    ∃ cv', Instr.fill place cv ((ps.map (·.1)).zip vs) = some cv' ∧ DV.iss k cells' cv'.toList
  | [], vs, cells, cells', cv, hv, hcv, h, _ => by
    simp only [fillD, Option.some.injEq] at h; subst h
    exact ⟨cv, rfl, hcv⟩
  | (i, d) :: ps, vs, cells, cells', cv, hv, hcv, h, ho => by
    simp only [List.map_cons] at hv
    obtain ⟨v, vs', rfl, hd, hv'⟩ := DV.iss_cons_inv hv
    simp only [List.flatMap_cons, allOne, List.all_append, Bool.and_eq_true] at ho
    simp only [fillD] at h
    split at h
    · simp at h
    · rename_i off size hp
      split at h
      · simp at h
      · rename_i hsz
        split at h
        · rename_i cells1 hset
          obtain ⟨hb, rfl⟩ := setAt_spec hset
          have hcl := cellsL_sound hc ho.1 hd
          have hlen := hcl.length
          have hclen := hcv.length
          have hsz : d.cellsL.length = size := by simpa using hsz
          have hvs : v.cells.size = size := by have := hcl.length; simp at this; omega
          have hin : off + v.cells.size ≤ cv.size := by have : cv.toList.length = cv.size := rfl; omega
          have hfold := foldl_set v.cells.toList off 0 cv (by simpa using hin)
          obtain ⟨cv', h1, h2⟩ := fillD_sound (cv := (cv.toList.take off ++ v.cells.toList ++ cv.toList.drop (off + v.cells.toList.length)).toArray) hc hv' (by
            simp only [hlen]
            exact DV.iss_append (DV.iss_append (DV.iss_take hcv _) hcl) (DV.iss_drop hcv _)) h ho.2
          refine ⟨cv', ?_, h2⟩
          simp only [List.map_cons, List.zip_cons_cons, Instr.fill, hp]
          rw [if_neg (by simp only [Bool.or_eq_true, decide_eq_true_eq]; omega)]
          rw [← h1]
          congr 1
          simp only [Nat.add_zero] at hfold
          rw [← hfold, ← Array.foldl_toList]
          simp [Array.toList_zipIdx]
        · simp at h
end
end Go.Sx
/- The run of code: functions entered, calls, rounds (IV). -/
namespace Go.Sx
open Go.RowKit

section
variable {P : Program} {w0 : Fr} {gl : Glob} {ro ro' : Option Nat} {k k' : K} {s s' : St} {a a' : Act} {w w' : World} {Q : Env → GS → Out → St → Prop} {B : Backs} {n m : Nat}

theorem look_append {α : Type} (n : Nat) : ∀ (l m : List (Nat × α)), look n (l ++ m) = (look n l).or (look n m)
  | [], m => by simp [look]
  | (x, v) :: l, m => by
    simp only [List.cons_append, look]
    split
    · simp
    · exact look_append n l m

theorem look_argEnv (t : Nat) : ∀ (i : Nat) (l : List DV), look t (argEnv i l) = if i ≤ t then l[t - i]? else none
  | i, [] => by simp [argEnv, look]
  | i, d :: l => by
    simp only [argEnv, look_cons, look_argEnv t (i + 1) l]
    by_cases h : i = t
    · subst h; simp
    · rw [if_neg h]
      by_cases h1 : i ≤ t
      · rw [if_pos (by omega), if_pos h1]
        obtain ⟨j, rfl⟩ : ∃ j, t = i + 1 + j := ⟨t - (i + 1), by omega⟩
        have e1 : i + 1 + j - (i + 1) = j := by omega
        have e2 : i + 1 + j - i = j + 1 := by omega
        rw [e1, e2]; simp
      · rw [if_neg (by omega), if_neg h1]

theorem look_undefs (t : Nat) : ∀ (c i : Nat), look t (undefs i c) = if i ≤ t ∧ t < i + c then some undefD else none
  | 0, i => by simp only [undefs, look]; rw [if_neg (by omega)]
  | c + 1, i => by
    simp only [undefs, look_cons, look_undefs t c (i + 1)]
    by_cases h : i = t
    · subst h; rw [if_pos rfl, if_pos (by omega)]
    · rw [if_neg h]
      by_cases h1 : i + 1 ≤ t ∧ t < i + 1 + c
      · rw [if_pos h1, if_pos (by omega)]
      · rw [if_neg h1, if_neg (by omega)]

theorem EnvR.enter {args : List DV} {vs : List Value} (h : DV.iss k args vs) (nt : Nat) :
    EnvR k (argEnv 0 args ++ undefs args.length (nt - args.length)) (max nt args.length) (vs.toArray ++ Array.replicate (nt - vs.toArray.size) undef) := by
  have hlen := h.length
  refine ⟨by simp; omega, fun t d hl ht => ?_⟩
  rw [look_append, look_argEnv, look_undefs] at hl
  simp only [Nat.zero_le, if_true, Nat.sub_zero] at hl
  rw [Array.getD_eq_getD_getElem?]
  rcases Nat.lt_or_ge t args.length with hlt | hge
  · have hd : args[t]? = some args[t] := List.getElem?_eq_getElem hlt
    rw [hd] at hl
    simp only [Option.some_or, Option.some.injEq] at hl
    subst hl
    obtain ⟨v, hv, hdv⟩ := h.get hd
    rw [Array.getElem?_append_left (by simp; omega)]
    simpa [hv] using hdv
  · rw [List.getElem?_eq_none hge, Option.none_or] at hl
    split at hl
    · simp only [Option.some.injEq] at hl; subst hl
      rw [Array.getElem?_append_right (by simp; omega)]
      rename_i hc
      have : (Array.replicate (nt - vs.toArray.size) undef)[t - vs.toArray.size]? = some undef := by
        rw [Array.getElem?_replicate, if_pos (by simp; omega)]
      rw [this]; exact mk_undef
    · simp at hl

/-- The caller's state, in the store of the callee's end. -/
theorem StR.back {w2 : World} (hs : StR w0 gl ro k s a w) (hle : k.le k') {h' : List (Id × DO)} (hs' : StR w0 gl ro' k' s' a' w') (hh : HeapR w0 k' h' w2) :
    StR w0 gl ro k' { s' with heap := h', fn := s.fn, env := s.env, nt := s.nt, rnd := s.rnd, marks := s.marks } a w2 := by
  refine ⟨hs'.nx, hs'.ct, hs'.pc, hs.env.mono hle, hh, hs'.gl, ?_, ?_, ?_, ?_, hs'.memo⟩
  · rw [hs.marks]
    exact List.map_congr_left fun i hi => by simp [markOf, hle.β i (hs.marksLt i hi)]
  · exact fun i hi => Nat.lt_of_lt_of_le (hs.marksLt i hi) hle.nx
  · rw [hs.rnd]
    cases hr : s.rnd with
    | none => simp
    | some i => simp [hle.β i (hs.rndLt i hr)]
  · exact fun i hi => Nat.lt_of_lt_of_le (hs.rndLt i hi) hle.nx

def resSem (tmps : Array Value) (r : ResultVar) : Sem Value :=
  match r with
  | .tmp t => pure (tmps.getD t undef)
  | .cell ad t => do loadVar t (← asAddr (tmps.getD ad undef))

theorem resultOf_sound (hs : StR w0 gl ro k s a w) {r : ResultVar} {d : DV} (h : resultOf P gl s r = some d) :
    ∃ v, d.is k v ∧ (resSem a.tmps r).run P w = .ok v w := by
  cases r with
  | tmp t =>
    exact ⟨_, (St.get_sound hs h).2, rfl⟩
  | cell ad t =>
    simp only [resultOf] at h
    split at h
    · rename_i r hg
      simp only [Option.bind_eq_some_iff] at h
      obtain ⟨cs, hcs, hone⟩ := h
      obtain ⟨b, o, vs, hr, hvs, hlen, hcell⟩ := readCells_sound hs hcs
      obtain ⟨ad', hv, hra⟩ := is_ptr (St.get_sound hs hg).2
      have : ad' = some ⟨b, o, none⟩ := by rw [← hra k (K.le.refl k), hr k (K.le.refl k)]
      subst this
      obtain ⟨v, hrun, hd⟩ := run_loadVar (P := P) hone hvs hlen hcell
      refine ⟨v, hd, ?_⟩
      simp [resSem, hv, asAddr, hrun]
    · simp at h

theorem run_results (hs : StR w0 gl ro k s a w) : ∀ {rs : List ResultVar} {ds : List DV}, resultsOf P gl s rs = some ds →
    ∃ vs, DV.iss k ds vs ∧ (rs.mapM (resSem a.tmps)).run P w = .ok vs w
  | [], ds, h => by simp [resultsOf] at h; subst h; exact ⟨[], DV.iss_nil, by simp⟩
  | r :: rs, ds, h => by
    simp only [resultsOf] at h
    split at h
    · rename_i d ds' h1 h2
      simp only [Option.some.injEq] at h; subst h
      obtain ⟨v, hd, hrun⟩ := resultOf_sound hs h1
      obtain ⟨vs, hvs, hruns⟩ := run_results hs h2
      refine ⟨v :: vs, DV.iss_cons hd hvs, ?_⟩
      rw [List.mapM_cons]
      simp only [Sem.run_bind, hrun, Result.andThen_ok, hruns, Sem.run_pure]
    · simp at h

theorem retOf_sound {ds : List DV} {vs : List Value} (h : DV.iss k ds vs) : (retOf ds).is k (if h : vs.toArray.size = 1 then vs.toArray[0] else .tuple vs.toArray) := by
  match ds, vs, h, h.length with
  | [], [], h, _ => simpa [retOf] using mk_tup (k := k) DV.iss_nil
  | [d], [v], h, _ =>
    obtain ⟨v', vs', he, hd, _⟩ := DV.iss_cons_inv h
    injection he with he1 he2; subst he1
    simpa [retOf] using hd
  | d :: e :: l, v :: u :: m, h, _ => simpa [retOf] using mk_tup h
  | [], _ :: _, _, hl => simp at hl
  | _ :: _, [], _, hl => simp at hl
  | [_], _ :: _ :: _, _, hl => simp at hl
  | _ :: _ :: _, [_], _, hl => simp at hl

theorem results_sound (hs : StR w0 gl ro k s a w) {fn : Func} {ds : List DV} (h : resultsOf P gl s fn.results.toList = some ds) :
    ∃ v, (retOf ds).is k v ∧ (results fn a.tmps).run P w = .ok v w := by
  obtain ⟨vs, hvs, hrun⟩ := run_results hs h
  refine ⟨_, retOf_sound hvs, ?_⟩
  have he : results fn a.tmps = (do let vs ← fn.results.mapM (resSem a.tmps); pure (if h : vs.size = 1 then vs[0] else .tuple vs)) := rfl
  rw [he, Array.mapM_eq_mapM_toList]
  simp only [Sem.run_bind, Sem.run_map, hrun, Result.andThen_ok, Sem.run_pure]

/-- A function's way out: its marks, then its results. -/
theorem leaves_marks {F : Fence} {fn : Func} {tmps : Array Value} {R : Ending → World → Prop} : ∀ {l : List Id} {h h' : List (Id × DO)} {w : World},
    killMarks h l = some h' → HeapR w0 k h w →
    (∀ w', HeapR w0 k h' w' → ∃ v, (results fn tmps).run P w' = .ok v w' ∧ R (.returned v) w') →
    LeavesInM F n P fn tmps R (l.map (markOf k)) .returning w
  | [], h, h', w, hk, hh, hR => by
    simp [killMarks] at hk; subst hk
    simp only [List.map_nil, LeavesInM, LeavesIn]
    exact hR w hh
  | i :: l, h, h', w, hk, hh, hR => by
    simp only [killMarks] at hk
    split at hk
    · rename_i hl
      obtain ⟨hi, ob, hob, ho⟩ := hh.obj _ _ hl
      simp only [DO.is, if_true] at ho
      subst ho
      simp only [List.map_cons, LeavesInM]
      refine ⟨by simp, .inl ⟨k.β i, { w with heap := w.heap.setIfInBounds (k.β i) (.deferred none) }, rfl, ?_, ?_⟩⟩
      · simp only [Instr.takeDeferred, Sem.run_bind, run_getObj hob (by simp), Result.andThen_ok, run_setObj hob (by simp), Sem.run_pure]
      · exact leaves_marks hk (hh.set ⟨_, hl, rfl⟩ (o := .dfr false) (by simp [DO.is])) hR
    · simp at hk
end
end Go.Sx
/- The run of code: functions entered, calls, rounds (V). -/
namespace Go.Sx
open Go.RowKit

section
variable {C : Cfg} {w0 : Fr} {ro : Option Nat} {k : K} {s : St} {a : Act} {w : World} {Q : Env → GS → Out → St → Prop} {B : Backs} {n : Nat}

theorem enter_step (hc : CodeOK C w0 n) : EnterOK C w0 (n + 1) := by
  intro g args vs s k a w Q B ro m hs hv h
  simp only [ev] at h
  cases hf : C.P.funcs[g]? with
  | none => rw [hf] at h; simp [Tr.sat] at h
  | some fn =>
    rw [hf] at h
    simp only at h
    cases hb : fn.body with
    | none => rw [hb] at h; simp [Tr.sat] at h
    | some c =>
      rw [hb] at h
      simp only at h
      refine ⟨?_, fn, rfl, by simp [hb]⟩
      rw [Tr.sat_bind] at h
      have hs1 : StR w0 C.gl none k { s with fn := g, env := argEnv 0 args ++ undefs args.length (fn.ntmps - args.length), nt := max fn.ntmps args.length, rnd := none, marks := [] }
          { tmps := vs.toArray ++ Array.replicate (fn.ntmps - vs.toArray.size) undef, defers := [] } w :=
        ⟨hs.nx, hs.ct, hs.pc, EnvR.enter hv fn.ntmps, hs.heap, hs.gl, rfl, by simp, rfl, by simp, hs.memo⟩
      refine callsIn_of_wp_marks hf hb trivial (wpIn_mono (hc _ _ _ _ _ _ _ _ m hs1 h) ?_) rfl
      rintro e a' w' ⟨k', o, s', hle, hs', hq, he⟩
      have key : (match killMarks s'.heap s'.marks with
              | some h => match resultsOf C.P C.gl { s' with heap := h } fn.results.toList with
                | some ds => Tr.leaf (.val (retOf ds)) { s' with heap := h, fn := s.fn, env := s.env, nt := s.nt, rnd := s.rnd, marks := s.marks }
                | none => .fail "results"
              | none => .fail "marks" : Tr).sat C.P Q B k'.ρ k'.G →
          LeavesInM (WF none) m C.P fn a'.tmps (RetTo (ValPost w0 C.gl ro a Q k)) a'.defers .returning w' := by
        intro h
        cases hk : killMarks s'.heap s'.marks with
        | none => rw [hk] at h; simp [Tr.sat] at h
        | some hp =>
          rw [hk] at h
          simp only at h
          cases hres : resultsOf C.P C.gl { s' with heap := hp } fn.results.toList with
          | none => rw [hres] at h; simp [Tr.sat] at h
          | some ds =>
            rw [hres] at h
            simp only [Tr.sat] at h
            rw [hs'.marks]
            refine leaves_marks hk hs'.heap fun w2 hh => ?_
            obtain ⟨v, hd, hrun⟩ := results_sound (P := C.P) (hs'.upd hh) hres
            exact ⟨v, hrun, k', _, _, hle, hs.back hle hs' hh, hd, h⟩
      cases o with
      | norm => simp only [exitOf, Option.some.injEq] at he; subst he; exact key hq
      | ret => simp only [exitOf, Option.some.injEq] at he; subst he; exact key hq
      | exit i => exact hq.elim
      | goto i => exact hq.elim
      | val d => simp [exitOf] at he

structure CtrLe (c c' : Ctr) : Prop where
  i : c.i ≤ c'.i
  b : c.b ≤ c'.b
  s : c.s ≤ c'.s
  v : c.v ≤ c'.v

theorem CtrLe.refl (c : Ctr) : CtrLe c c := ⟨Nat.le_refl _, Nat.le_refl _, Nat.le_refl _, Nat.le_refl _⟩
theorem CtrLe.trans {a b c : Ctr} (h : CtrLe a b) (g : CtrLe b c) : CtrLe a c := ⟨Nat.le_trans h.i g.i, Nat.le_trans h.b g.b, Nat.le_trans h.s g.s, Nat.le_trans h.v g.v⟩

mutual
theorem fresh_mono : ∀ (sh : Sh) (c : Ctr), CtrLe c (sh.fresh c).2
  | .int _, c => ⟨Nat.le_succ _, Nat.le_refl _, Nat.le_refl _, Nat.le_refl _⟩
  | .bool, c => ⟨Nat.le_refl _, Nat.le_succ _, Nat.le_refl _, Nat.le_refl _⟩
  | .str, c => ⟨Nat.le_refl _, Nat.le_refl _, Nat.le_succ _, Nat.le_refl _⟩
  | .raw, c => ⟨Nat.le_refl _, Nat.le_refl _, Nat.le_refl _, Nat.le_succ _⟩
  | .tup l, c => by simpa only [Sh.fresh] using freshL_mono l c
  | .agg l, c => by simpa only [Sh.fresh] using freshL_mono l c
theorem freshL_mono : ∀ (l : List Sh) (c : Ctr), CtrLe c (Sh.freshL l c).2
  | [], c => by simpa only [Sh.freshL] using CtrLe.refl c
  | sh :: l, c => by simpa only [Sh.freshL] using (fresh_mono sh c).trans (freshL_mono l _)
end

structure CtrIn (c : Ctr) (k : K) : Prop where
  i : c.i ≤ k.ρ.i.length
  b : c.b ≤ k.ρ.b.length
  s : c.s ≤ k.ρ.s.length
  v : c.v ≤ k.ρ.v.length

theorem CtrLe.inK {c c' : Ctr} {k : K} (h : CtrLe c c') (g : CtrIn c' k) : CtrIn c k := ⟨Nat.le_trans h.i g.i, Nat.le_trans h.b g.b, Nat.le_trans h.s g.s, Nat.le_trans h.v g.v⟩

theorem getD_prefix {α : Type} {l m : List α} (h : l <+: m) {i : Nat} (hi : i < l.length) (d : α) : m.getD i d = l.getD i d := by
  obtain ⟨t, rfl⟩ := h
  simp [List.getElem?_append_left hi]

mutual
theorem fresh_den {k1 k2 : K} (hle : k1.le k2) : ∀ (sh : Sh) (c : Ctr), CtrIn (sh.fresh c).2 k1 → (sh.fresh c).1.den k2 = (sh.fresh c).1.den k1
  | .int t, c, h => by simp only [Sh.fresh, DV.den, E.ii]; rw [getD_prefix hle.ρ.i (by have := h.i; simp only [Sh.fresh] at this; omega)]
  | .bool, c, h => by simp only [Sh.fresh, DV.den, E.bb]; rw [getD_prefix hle.ρ.b (by have := h.b; simp only [Sh.fresh] at this; omega)]
  | .str, c, h => by simp only [Sh.fresh, DV.den, E.ss]; rw [getD_prefix hle.ρ.s (by have := h.s; simp only [Sh.fresh] at this; omega)]
  | .raw, c, h => by simp only [Sh.fresh, DV.den]; rw [getD_prefix hle.ρ.v (by have := h.v; simp only [Sh.fresh] at this; omega)]
  | .tup l, c, h => by simp only [Sh.fresh, DV.den]; rw [freshL_den hle l c (by simpa only [Sh.fresh] using h)]
  | .agg l, c, h => by simp only [Sh.fresh, DV.den]; rw [freshL_den hle l c (by simpa only [Sh.fresh] using h)]
theorem freshL_den {k1 k2 : K} (hle : k1.le k2) : ∀ (l : List Sh) (c : Ctr), CtrIn (Sh.freshL l c).2 k1 → DV.dens k2 (Sh.freshL l c).1 = DV.dens k1 (Sh.freshL l c).1
  | [], c, _ => by simp only [Sh.freshL, DV.dens]
  | sh :: l, c, h => by
    simp only [Sh.freshL] at h ⊢
    simp only [DV.dens]
    rw [fresh_den hle sh c ((freshL_mono l _).inK h), freshL_den hle l _ h]
end

theorem Fits.inK {x : Ext} {c c' : Ctr} (h : Fits x c c') (hc : CtR k c) (G : Nat → Option Obj) : CtrIn c' (k.app x G) :=
  ⟨by simp [K.app, Env.app, hc.i, h.i], by simp [K.app, Env.app, hc.b, h.b], by simp [K.app, Env.app, hc.s, h.s], by simp [K.app, Env.app, hc.v, h.v]⟩

theorem Fits.ctR {x : Ext} {c c' : Ctr} (h : Fits x c c') (hc : CtR k c) (G : Nat → Option Obj) : CtR (k.app x G) c' :=
  ⟨by simp [K.app, Env.app, hc.i, h.i], by simp [K.app, Env.app, hc.b, h.b], by simp [K.app, Env.app, hc.s, h.s], by simp [K.app, Env.app, hc.v, h.v], by
    intro u hu
    simp only [K.app, Env.app, List.mem_append] at hu
    rcases hu with hu | hu
    · exact hc.one u hu
    · exact h.one u hu⟩

theorem fresh_is {x : Ext} {sh : Sh} {c : Ctr} (h : Fits x c (sh.fresh c).2) (hc : CtR k c) (G : Nat → Option Obj) :
    (sh.fresh c).1.is (k.app x G) ((sh.fresh c).1.den (k.app x G)) := fun _ hle => fresh_den hle sh c (h.inK hc G)

/-- A world that has grown behind the store's back. -/
theorem HeapR.later {heap : List (Id × DO)} {w' : World} (h : HeapR w0 k heap w) {x : Ext} {G' : Nat → Option Obj} (hG : GLe k.G G') (hGw : GHeap G' w')
    (hfresh : ∀ b o, G' b = some o → k.G b = some o ∨ w.heap.size ≤ b) (hb : Below w.heap.size w w') : HeapR w0 (k.app x G') heap w' := by
  have hle := K.le_app k x hG
  refine ⟨?_, h.inj, fun i hi => Nat.lt_of_lt_of_le (h.lt i hi) hb.size, h.own, ?_, ?_, ?_⟩
  · intro i o hl
    obtain ⟨hi, ob, hob, ho⟩ := h.obj i o hl
    exact ⟨hi, ob, by rw [show (k.app x G').β i = k.β i from rfl, hb.block _ (h.lt i hi)]; exact hob, ho.mono hle⟩
  · intro b o hbo
    refine ⟨hGw b o hbo, fun i hlv => ?_⟩
    have hi : i < k.nx := by obtain ⟨p, hp, _⟩ := hlv; exact (h.obj i p hp).1
    rcases hfresh b o hbo with hk | hge
    · exact (h.g b o hk).2 i hlv
    · have := h.lt i hi
      show k.β i ≠ b
      omega
  · intro b o hbo
    obtain ⟨g1, g2, g3⟩ := h.ex b o hbo
    have hlt := (Array.getElem?_eq_some_iff.1 g1).1
    refine ⟨by rw [hb.block _ hlt]; exact g1, g2, fun p hp => ?_⟩
    rcases hfresh b p hp with hk | hge
    · exact g3 p hk
    · omega
  · exact h.frame.trans (hb.mono h.frame.size)

/-- What a contract gives a caller. -/
theorem contract_use {P : Program} {gl : Glob} (hs : StR w0 gl ro k s a w) {f : FuncId} {args : List DV} {vs : List Value} (hv : DV.iss k args vs) {sh : Sh}
    {R : Ext → GS → Prop} (hR : CallOK P k.ρ k.G f args sh s.ct R)
    (hq : ∀ x G', Fits x s.ct (sh.fresh s.ct).2 → GLe k.G G' → R x G' → Q (k.ρ.app x) G' (.val (sh.fresh s.ct).1) { s with ct := (sh.fresh s.ct).2 }) :
    Calls P f vs.toArray w (RetTo (ValPost w0 gl ro a Q k)) := by
  rw [← hv.here]
  refine (hR k.β k.nx w fun b o hb => (hs.heap.g b o hb).1).mono ?_
  rintro e w' ⟨x, G', hfit, hx, rfl, hG, hGw, hfresh, hbelow⟩
  have hle : k.le (k.app x G') := K.le_app k x hG
  exact ⟨k.app x G', _, { s with ct := (sh.fresh s.ct).2 }, hle, ⟨hs.nx, hfit.ctR hs.ct G', hs.pc.mono hle, hs.env.mono hle, hs.heap.later hG hGw hfresh hbelow, hs.gl.mono hle, hs.marks, hs.marksLt, hs.rnd, hs.rndLt, hs.memo.mono hle⟩,
    fresh_is hfit hs.ct G', hq x G' hfit hG hx⟩

theorem EnvR.params {nt : Nat} : ∀ {ps : List Tmp} {args : List DV} {vs : List Value} {env : List (Nat × DV)} {tmps : Array Value},
    EnvR k env nt tmps → DV.iss k args vs → ps.length = args.length →
    EnvR k (zipParams ps args env) nt ((ps.zip vs).foldl (fun tmps x => tmps.setIfInBounds x.1 x.2) tmps)
  | [], [], vs, env, tmps, h, hv, _ => by
    have := hv.length; simp at this; subst this; simpa [zipParams] using h
  | p :: ps, d :: args, vs, env, tmps, h, hv, hl => by
    obtain ⟨v, vs', rfl, hd, hv'⟩ := DV.iss_cons_inv hv
    simp only [zipParams, List.zip_cons_cons, List.foldl_cons]
    refine EnvR.params (env := (p, d) :: env) ⟨by simp [h.size], ?_⟩ hv' (by simpa using hl)
    intro t d' hlk ht
    rw [look_cons] at hlk
    split at hlk
    · rename_i hpt; subst hpt
      simp only [Option.some.injEq] at hlk; subst hlk
      simp only [Array.getD_eq_getD_getElem?, Array.getElem?_setIfInBounds]
      simpa [h.size, ht] using hd
    · rename_i hpt
      have := h.get t d' hlk ht
      simp only [Array.getD_eq_getD_getElem?, Array.getElem?_setIfInBounds] at this ⊢
      simpa [hpt] using this
  | [], _ :: _, _, _, _, _, _, hl => by simp at hl
  | _ :: _, [], _, _, _, _, _, hl => by simp at hl

theorem run_callFunc {P : Program} {f : FuncId} {fn : Func} (hf : P.funcs[f]? = some fn) (hn : (fn.name == "runtime.NumGoroutine") = false) (hb : fn.body.isSome = true) (args : Array Value) :
    (callFunc f args).run P w = .ok (.enter f args) w := by
  have h2 : fn.body.isNone = false := by cases h : fn.body <;> simp_all
  simp only [callFunc, Sem.run_bind, run_program, Result.andThen_ok, hf, hn, h2, Bool.false_eq_true, if_false, Sem.run_pure]


theorem run_getLoop {P : Program} {l : Nat} {r : Loop} (h : w.heap[l]? = some (.loop r)) : (Instr.getLoop l).run P w = .ok r w := by
  simp only [Instr.getLoop, Sem.run_bind, run_getObj h (by simp), Result.andThen_ok, Sem.run_pure]

theorem run_beginRound {P : Program} {l : Nat} {r : Loop} (h : w.heap[l]? = some (.loop r)) (hr : r.state = .ready) :
    (Instr.beginRound l).run P w = .ok () { w with heap := w.heap.setIfInBounds l (.loop { r with state := .busy }) } := by
  simp only [Instr.beginRound, Sem.run_bind, run_getLoop h, Result.andThen_ok, run_setObj h (by simp), hr, Sem.run_pure]

theorem run_endRound {P : Program} {l : Nat} {r : Loop} (h : w.heap[l]? = some (.loop r)) (jump : Option Code) :
    (Instr.endRound l jump).run P w = .ok (.bool jump.isNone) { w with heap := w.heap.setIfInBounds l (.loop { r with state := if jump.isNone then .ready else .done, pending := jump }) } := by
  simp only [Instr.endRound, Sem.run_bind, run_getLoop h, Result.andThen_ok, run_setObj h (by simp), Sem.run_pure]

theorem call_step (hC : CfgOK C) (hc : CodeOK C w0 n) (he : EnterOK C w0 n) : CallOKn C w0 (n + 1) := by
  intro f args fv vs s k a w Q B ro m hs hf hv h
  simp only [ev] at h
  split at h
  · -- a function
    rename_i g first caps
    obtain ⟨fs, cs, rfl, hfs, hcs⟩ := is_fn hf
    have hall : DV.iss k (first ++ args ++ caps) (fs ++ vs ++ cs) := DV.iss_append (DV.iss_append hfs hv) hcs
    have hrun : (do let d ← Deferred.ofValue (.func (.func g) fs.toArray cs.toArray) vs.toArray; invoke d.target d.args : Sem Next) = callFunc g (fs ++ vs ++ cs).toArray := by
      simp [Deferred.ofValue, invoke]
    rw [hrun]
    split at h
    · rename_i d s' hd
      refine callRes_mono (hC.prim _ _ _ _ _ _ _ _ _ _ _ hs hall hd m) ?_
      rintro v w' ⟨k', hle, hρ, hG, hs', hdv⟩
      exact ⟨k', d, s', hle, hs', hdv, by rw [hρ, hG]; exact h⟩
    · split at h
      · rename_i sh hsh
        split at h
        · simp [Tr.sat] at h
        · rename_i hbody
          simp only [Tr.sat, retv] at h
          obtain ⟨R, hR, hq⟩ := h
          obtain ⟨fn, hfn, hb⟩ : ∃ fn, C.P.funcs[g]? = some fn ∧ fn.body.isSome = true := by
            cases hfn : C.P.funcs[g]? with
            | none => simp [hfn] at hbody
            | some fn => exact ⟨fn, rfl, by cases hb : fn.body <;> simp_all⟩
          rw [run_callFunc hfn (hC.num _ _ hfn) hb]
          exact callsIn_round (ro := none) (callsIn_wide.2 (contract_use hs hall hR hq))
      · obtain ⟨h1, fn, hfn, hb⟩ := he _ _ _ _ _ a _ _ _ ro m hs hall h
        rw [run_callFunc hfn (hC.num _ _ hfn) hb]
        exact callsIn_round h1
  · -- a round
    rename_i l
    have hfv := is_yld hf
    subst hfv
    split at h
    · rename_i fn env nt ps asg body dfs hl
      split at h
      · simp [Tr.sat] at h
      · rename_i hlen
        have hlen : ps.length = args.length := by simpa using hlen
        obtain ⟨hli, ob, hob, fn', tmps, rfl, henv, hdfs⟩ := hs.heap.obj _ _ hl
        have hrun : (do let d ← Deferred.ofValue (.func (.yield (k.β l)) #[] #[]) vs.toArray; invoke d.target d.args : Sem Next) = Instr.yield (k.β l) vs.toArray := by
          simp [Deferred.ofValue, invoke]
        have hsz : ¬ vs.toArray.size ≠ ps.toArray.size := by have := hv.length; simp; omega
        have hy : (Instr.yield (k.β l) vs.toArray).run C.P w = .ok (.round (k.β l) fn' ((ps.zip vs).foldl (fun tmps x => tmps.setIfInBounds x.1 x.2) tmps) asg body) w := by
          simp only [Instr.yield, Sem.run_bind, run_getLoop hob, Result.andThen_ok, if_neg hsz, Sem.run_pure]
          simp
        rw [hrun, hy]
        rw [Tr.sat_bind] at h
        refine roundIn_of_wpIn trivial ?_
        have hs1 : StR w0 C.gl (some (k.β l)) k { s with fn := fn, env := zipParams ps args env, nt := nt, rnd := some l, marks := [] }
            { tmps := (ps.zip vs).foldl (fun tmps x => tmps.setIfInBounds x.1 x.2) tmps, defers := [] } w :=
          ⟨hs.nx, hs.ct, hs.pc, henv.params hv hlen, hs.heap, hs.gl, rfl, by simp, rfl, by rintro i ⟨⟩; exact hli, hs.memo⟩
        refine wpIn_mono (hc _ _ _ _ _ _ _ _ m hs1 h) ?_
        rintro e a2 w2 ⟨k2, o, s2, hle2, hs2, hq, heo⟩
        cases o with
        | norm =>
          simp only [exitOf, Option.some.injEq] at heo; subst heo
          simp only at hq
          split at hq
          · rename_i p2 f2 e2 n2 ps2 a2' b2 d2 hl2
            obtain ⟨hli2, ob2, hob2, hho2⟩ := hs2.heap.obj _ _ hl2
            obtain ⟨fn2, tmps2, rfl, henv2, hdfs2⟩ := hho2
            have hβ : k2.β l = k.β l := hle2.β l hli
            have hbr := run_beginRound (P := C.P) hob2 rfl
            rw [hβ] at hbr
            refine ⟨_, hbr, ?_⟩
            have hh2 := hs2.heap.set ⟨_, by assumption, rfl⟩ (o := .loop .busy p2 f2 e2 n2 ps2 a2' b2 d2) (ob := .loop { state := .busy, pending := p2, fn := fn2, tmps := tmps2, params := ps2.toArray, assign := a2', body := b2, defers := k2.β d2 }) ⟨fn2, tmps2, rfl, henv2, hdfs2⟩
            rw [hβ] at hh2
            rw [Tr.sat_bind] at hq
            refine wpIn_mono (hc _ _ _ _ _ _ _ _ m (hs2.upd hh2) hq) ?_
            rintro e3 a3 w3 ⟨k3, o3, s3, hle3, hs3, hq3, heo3⟩
            split at hq3
            · rename_i st3 pend3 f3 e3' n3 ps3 a3' b3 d3 hl3
              obtain ⟨hli3, ob3, hob3, hho3⟩ := hs3.heap.obj _ _ hl3
              obtain ⟨fn3, tmps3, rfl, henv3, hdfs3⟩ := hho3
              have hβ3 : k3.β l = k.β l := (hle2.trans hle3).β l hli
              have hend : ∀ jump : Option Code,
                  (Tr.leaf (.val (.bool (.bl jump.isNone))) { s3 with fn := s.fn, env := s.env, nt := s.nt, rnd := s.rnd, marks := s.marks, heap := (l, .loop (if jump.isNone then .ready else .done) jump f3 e3' n3 ps3 a3' b3 d3) :: s3.heap }).sat C.P Q B k3.ρ k3.G →
                  ∃ v w', (Instr.endRound (k.β l) jump).run C.P w3 = .ok v w' ∧ RetTo (ValPost w0 C.gl ro a Q k) (.returned v) w' := by
                intro jump hsat
                have hr := run_endRound (P := C.P) hob3 jump
                rw [hβ3] at hr
                refine ⟨_, _, hr, k3, .bool (.bl jump.isNone), _, hle2.trans hle3, ?_, mk_bool (isB_lit _), hsat⟩
                have hh3 := hs3.heap.set ⟨_, by assumption, rfl⟩ (o := .loop (if jump.isNone then .ready else .done) jump f3 e3' n3 ps3 a3' b3 d3)
                  (ob := .loop { state := if jump.isNone then .ready else .done, pending := jump, fn := fn3, tmps := tmps3, params := ps3.toArray, assign := a3', body := b3, defers := k3.β d3 }) ⟨fn3, tmps3, rfl, henv3, hdfs3⟩
                rw [hβ3] at hh3
                exact hs.back (hle2.trans hle3) hs3 hh3
              cases o3 with
              | norm => simp only [exitOf, Option.some.injEq] at heo3; subst heo3; exact hend none hq3
              | ret => simp only [exitOf, Option.some.injEq] at heo3; subst heo3; exact hend (some .ret) hq3
              | exit id => simp only [exitOf, Option.some.injEq] at heo3; subst heo3; exact hend (some (.exit id)) hq3
              | goto t => simp only [exitOf, Option.some.injEq] at heo3; subst heo3; exact hend (some (.goto t)) hq3
              | val d => exact hq3.elim
            · exact hq3.elim
          · exact hq.elim
        | ret => exact hq.elim
        | exit i => exact hq.elim
        | goto i => exact hq.elim
        | val d => exact hq.elim
    · simp [Tr.sat] at h
  · simp [Tr.sat] at h
end
end Go.Sx
/- Drawn regions (IV): what a shown tree gives. -/
namespace Go.Sx
open Go.RowKit

mutual
theorem DV.beq_eq : ∀ (a b : DV), a.beq b = true → a = b
  | .int k e, b, h => by cases b <;> simp [DV.beq] at h; rw [h.1, E.beq_eq h.2]
  | .bool e, b, h => by cases b <;> simp [DV.beq] at h; rw [E.beq_eq h]
  | .str e, b, h => by cases b <;> simp [DV.beq] at h; rw [E.beq_eq h]
  | .ptr ⟨x, y⟩, b, h => by cases b <;> simp [DV.beq] at h; rename_i r; cases r; simp only at h; rw [h.1, E.beq_eq h.2]
  | .nilptr, b, h => by cases b <;> simp [DV.beq] at h; rfl
  | .slice ⟨x, y⟩ n c, b, h => by
    cases b <;> simp [DV.beq] at h
    rename_i r n' c'; cases r; simp only at h
    rw [h.1.1.1, E.beq_eq h.1.1.2, E.beq_eq h.1.2, E.beq_eq h.2]
  | .nilslice, b, h => by cases b <;> simp [DV.beq] at h; rfl
  | .map i, b, h => by cases b <;> simp [DV.beq] at h; rw [h]
  | .nilmap, b, h => by cases b <;> simp [DV.beq] at h; rfl
  | .fn f l m, b, h => by
    cases b <;> simp [DV.beq] at h
    rename_i f' l' m'
    rw [DV.beqs_eq l l' h.1.2, DV.beqs_eq m m' h.2]
    have h1 := h.1.1
    split at h1
    · rw [beq_iff_eq.1 h1]
    · cases h1
  | .yld i, b, h => by cases b <;> simp [DV.beq] at h; rw [h]
  | .nilfn, b, h => by cases b <;> simp [DV.beq] at h; rfl
  | .iface t v, b, h => by cases b <;> simp [DV.beq] at h; rw [h.1, DV.beq_eq v _ h.2]
  | .nilif, b, h => by cases b <;> simp [DV.beq] at h; rfl
  | .agg l, b, h => by cases b <;> simp [DV.beq] at h; rw [DV.beqs_eq l _ h]
  | .tup l, b, h => by cases b <;> simp [DV.beq] at h; rw [DV.beqs_eq l _ h]
  | .raw i, b, h => by cases b <;> simp [DV.beq] at h; rw [h]
  | .gd c v, b, h => by cases b <;> simp [DV.beq] at h; rw [E.beq_eq h.1, DV.beq_eq v _ h.2]
theorem DV.beqs_eq : ∀ (l m : List DV), DV.beqs l m = true → l = m
  | [], m, h => by cases m <;> simp [DV.beqs] at h; rfl
  | a :: l, m, h => by cases m <;> simp [DV.beqs] at h; rw [DV.beq_eq a _ h.1, DV.beqs_eq l _ h.2]
end

section
variable {ro : Option Nat} {m : Nat} {P : Program} {md : Region.Mode} {ops : Array Oper} {Q Q' : Exit → Act → World → Prop}

theorem Can.mono (h : ∀ e a w, Q e a w → Q' e a w) : ∀ (n : Nat) {done : Array Bool} {rd : List Rd} {a : Act} {w : World}, Can ro m P md ops Q n done rd a w → Can ro m P md ops Q' n done rd a w
  | 0, _, _, _, _, g => ⟨g.1, h _ _ _ g.2⟩
  | n + 1, _, _, _, _, g => by
    rcases g with ⟨g1, g2⟩ | ⟨i, t, v, g1, g2, g3, g4⟩ | ⟨g1, g2⟩
    · exact .inl ⟨g1, h _ _ _ g2⟩
    · exact .inr (.inl ⟨i, t, v, g1, g2, g3, Can.mono h n g4⟩)
    · refine .inr (.inr ⟨g1, fun j hj => ⟨(g2 j hj).1, ?_⟩⟩)
      have g3 := (g2 j hj).2
      unfold wpOpIn at *
      split at g3
      · exact ⟨g3.1, Can.mono h n g3.2⟩
      · split
        · rename_i hw
          simp only [hw, if_true] at g3
          exact Oper.wpIn_mono2 (fun a w x => ⟨x.1, Can.mono h n x.2⟩) h g3
        · rename_i hw
          simp only [hw] at g3
          exact ⟨g3.1, g3.2.1, Can.mono h n g3.2.2⟩

theorem Can.lift : ∀ (n : Nat) {done : Array Bool} {rd : List Rd} {a : Act} {w : World}, Can ro m P md ops Q n done rd a w → Can ro m P md ops Q (n + 1) done rd a w
  | 0, _, _, _, _, g => .inl g
  | n + 1, _, _, _, _, g => by
    rcases g with g | ⟨i, t, v, g1, g2, g3, g4⟩ | ⟨g1, g2⟩
    · exact .inl g
    · exact .inr (.inl ⟨i, t, v, g1, g2, g3, Can.lift n g4⟩)
    · exact .inr (.inr ⟨g1, fun j hj => ⟨(g2 j hj).1, wpOpIn_mono (fun a w x => ⟨x.1, Can.lift n x.2⟩) (g2 j hj).2⟩⟩)
end

section
variable {C : Cfg} {w0 : Fr} {ro : Option Nat} {k : K} {s : St} {a : Act} {w : World} {Q : Env → GS → Out → St → Prop} {B : Backs} {n m : Nat}

theorem sat_guardTr (hs : StR w0 C.gl ro k s a w) {all : Array Oper} {o : Oper} {f g : St → Tr} (h : (guardTr s all o f g).sat C.P Q B k.ρ k.G) :
    (Region.wanted o (yielded all a.tmps) = true ∧ ∃ p, PcR k p ∧ (f { s with pc := p }).sat C.P Q B k.ρ k.G) ∨
    (Region.wanted o (yielded all a.tmps) = false ∧ ∃ p, PcR k p ∧ (g { s with pc := p }).sat C.P Q B k.ρ k.G) := by
  unfold guardTr at h
  cases hg : o.guard with
  | none =>
    simp only [hg] at h
    exact .inl ⟨by simp [Region.wanted, hg], s.pc, hs.pc, h⟩
  | some jw =>
    obtain ⟨j, want⟩ := jw
    simp only [hg] at h
    have hw : Region.wanted o (yielded all a.tmps) = (yielded all a.tmps j == some want) := by simp [Region.wanted, hg]
    rw [hw]
    cases hge : ((dstOf all j).bind (s.get ·)).bind fun d => guardE (strip s.pc d) want with
    | none => rw [hge] at h; simp [Tr.sat] at h
    | some g =>
      rw [hge] at h
      simp only [Option.bind_eq_some_iff] at hge
      obtain ⟨d, hd, hge⟩ := hge
      obtain ⟨v, hv, hy⟩ := yielded_sound hs (all := all) (j := j) (d := d) (by simpa [Option.bind_eq_some_iff] using hd)
      have hgB : g.isB k (yielded all a.tmps j == some want) := fun k' hle => by
        rw [guardE_den k' want hge, hy want, strip_sound hs.pc hv k' hle]
      obtain ⟨p, hp, hbr⟩ := sat_branch hs ⟨_, hgB⟩ h
      rcases hbr with ⟨h1, h2⟩ | ⟨h1, h2⟩
      · exact .inl ⟨isB_true hgB h1, p, hp, h2⟩
      · exact .inr ⟨by rw [← hgB.here, h1.here], p, hp, h2⟩

theorem readTr_sound (hC : CfgOK C) (hs : StR w0 C.gl ro k s a w) {all : Array Oper} {i : Nat} {o : Oper} (hi : all[i]? = some o) (ho : readOp o.op = true)
    (h : (readTr C.P C.gl all o s).sat C.P Q B k.ρ k.G) : ∃ k' v d s', Yl C.P all i v a w ∧ k.le k' ∧ StR w0 C.gl ro k' s' a w ∧ d.is k' v ∧ Q k'.ρ k'.G (.val d) s' := by
  rcases sat_guardTr hs h with ⟨hw, p, hp, h⟩ | ⟨hw, p, hp, h⟩
  · obtain ⟨k', x, v, d, s', w', hr, hv, hle, hs', hd, hq, hrd⟩ := hC.op _ _ _ _ _ _ _ _ _ (hs.withPc hp) h
    obtain ⟨rfl, rfl⟩ := hrd ho
    exact ⟨k', v, d, s', ⟨o, hi, .inl ⟨hw, hr⟩⟩, hle, hs', hd, hq⟩
  · exact ⟨k, undef, undefD, _, ⟨o, hi, .inr ⟨hw, rfl⟩⟩, K.le.refl k, hs.withPc hp, mk_undef, h⟩

def Stable (k : K) (d : DV) : Prop := d.is k (d.den k)

theorem Stable.mono {k' : K} {d : DV} (h : Stable k d) (g : k.le k') : Stable k' d ∧ d.den k' = d.den k := by
  have := h k' g
  exact ⟨by unfold Stable; rw [this]; exact DV.is.mono h g, this⟩

def rdOf (k : K) (rd : List (Nat × Tmp × DV)) : List Rd := rd.map fun r => (r.1, r.2.1, r.2.2.den k)

theorem rdOf_mono {k' : K} {rd : List (Nat × Tmp × DV)} (h : ∀ r ∈ rd, Stable k r.2.2) (g : k.le k') : rdOf k' rd = rdOf k rd :=
  List.map_congr_left fun r hr => by rw [((h r hr).mono g).2]

theorem recheck_sound (hC : CfgOK C) {all : Array Oper} : ∀ {rd : List (Nat × Tmp × DV)} {k : K} {s : St}, StR w0 C.gl ro k s a w → (∀ r ∈ rd, Stable k r.2.2) →
    (∀ r ∈ rd, ∀ o, all[r.1]? = some o → readOp o.op = true) → (recheck C.P C.gl all rd s).sat C.P Q B k.ρ k.G →
    ∃ k' s', k.le k' ∧ StR w0 C.gl ro k' s' a w ∧ (∀ r ∈ rdOf k rd, Yl C.P all r.1 r.2.2 a w) ∧ Q k'.ρ k'.G .norm s'
  | [], k, s, hs, _, _, h => ⟨k, s, K.le.refl k, hs, by simp [rdOf], by simpa [recheck, Tr.sat] using h⟩
  | (i, t, d) :: rd, k, s, hs, hst, hrd, h => by
    simp only [recheck] at h
    split at h
    · rename_i o ho
      rw [Tr.sat_bind] at h
      obtain ⟨k', v, d', s', hy, hle, hs', hd', hq⟩ := readTr_sound hC hs ho (hrd (i, t, d) (by simp) o ho) h
      simp only at hq
      split at hq
      · rename_i heq
        cases DV.beq_eq _ _ heq
        obtain ⟨k2, s2, hle2, hs2, hy2, hq2⟩ := recheck_sound hC hs' (fun r hr => ((hst r (by simp [hr])).mono hle).1) (fun r hr => hrd r (by simp [hr])) hq
        rw [rdOf_mono (fun r hr => hst r (by simp [hr])) hle] at hy2
        refine ⟨k2, s2, hle.trans hle2, hs2, ?_, hq2⟩
        intro r hr
        simp only [rdOf, List.map_cons, List.mem_cons] at hr
        rcases hr with rfl | hr
        · have : d.den k = v := by rw [← hd'.here, ((hst (i, t, d) (by simp)).mono hle).2]
          simp only [this]; exact hy
        · exact hy2 r (by simpa [rdOf] using hr)
      · exact hq.elim
    · exact h.elim

theorem pickRd_spec {ops : Array Oper} : ∀ {l : List Nat} {i : Nat} {t : Tmp} {o : Oper}, pickRd ops l = some (i, t, o) → i ∈ l ∧ ops[i]? = some o ∧ readOp o.op = true ∧ o.dst = some t ∧ mayLate .any ops i t = true
  | [], _, _, _, h => by simp [pickRd] at h
  | j :: l, i, t, o, h => by
    have hrec : pickRd ops l = some (i, t, o) → i ∈ j :: l ∧ ops[i]? = some o ∧ readOp o.op = true ∧ o.dst = some t ∧ mayLate .any ops i t = true := fun h => by
      obtain ⟨h1, h2⟩ := pickRd_spec h
      exact ⟨by simp [h1], h2⟩
    simp only [pickRd] at h
    split at h
    · rename_i o' ho
      split at h
      · rename_i hr
        split at h
        · rename_i t' ht
          split at h
          · rename_i hm
            simp only [Option.some.injEq, Prod.mk.injEq] at h
            obtain ⟨rfl, rfl, rfl⟩ := h
            exact ⟨by simp, ho, hr, ht, hm⟩
          · exact hrec h
        · exact hrec h
      · exact hrec h
    · exact hrec h

/-- The effect of one operation, the readers read once more, and what comes then. -/
def effTr (C : Cfg) (n : Nat) (ops : Array Oper) (rd : List (Nat × Tmp × DV)) (next : Nat → St → Tr) (j : Nat) (s : St) : Tr :=
  match ops[j]? with
  | some o => if noDraw o.op then .fail "draw: op" else
    (guardTr s ops o (fun s => opTr C n o s) fun s => retv s undefD).bind fun out s' => match out with
    | .val d => (recheck C.P C.gl ops (rd.filter fun r => !forced .any ops j r.1) (s'.put o.dst d)).bind fun out s2 => match out with
      | .norm => next j s2
      | _ => .fail "draw"
    | _ => .fail "draw"
  | none => .fail "draw"

def nextTr (C : Cfg) (n : Nat) (ops : Array Oper) (done : Array Bool) (rd : List (Nat × Tmp × DV)) (j : Nat) (s2 : St) : Tr :=
  ev C n (.draw ops (done.setIfInBounds j true) (rd.filter fun r => !forced .any ops j r.1)) s2

theorem ev_draw (C : Cfg) (n : Nat) (ops : Array Oper) (done : Array Bool) (rd : List (Nat × Tmp × DV)) (s : St) :
    ev C (n + 1) (.draw ops done rd) s = match pickRd ops (Region.ready .any ops done) with
      | some (i, t, o) => (readTr C.P C.gl ops o s).bind fun out s' => match out with
        | .val d => ev C n (.draw ops (done.setIfInBounds i true) ((i, t, d) :: rd)) (s'.put (some t) d)
        | _ => .fail "draw"
      | none => match Region.ready .any ops done with
        | [] => .leaf .norm s
        | [j] => effTr C n ops rd (nextTr C n ops done rd) j s
        | r => match pickM C.P C.gl s ops done r r with
          | some (ts, j) => (recheck C.P C.gl ops rd (s.drops ts)).bind fun out s1 => match out with
            | .norm => effTr C n ops rd (nextTr C n ops done rd) j s1
            | _ => .fail "draw"
          | none => match r with
            | [x, y] => match pairAt C.P C.gl s ops done rd x y with
              | some s' => ev C n (.draw ops ((done.setIfInBounds x true).setIfInBounds y true) []) s'
              | none => if (floatT ops x).isNone && (floatT ops y).isNone then .any .bool (.bl true) s (.br (.bv s.ct.b) (effTr C n ops rd (nextTr C n ops done rd) x (forkS s)) (effTr C n ops rd (nextTr C n ops done rd) y (forkS s))) else .fail "draw: two"
            | _ => .fail "draw: more than one" := rfl

theorem rdOf_filter {ops : Array Oper} {rd : List (Nat × Tmp × DV)} {j : Nat} :
    rdOf k (rd.filter fun r => !forced .any ops j r.1) = (rdOf k rd).filter fun r => !forced .any ops j r.1 := by
  simp only [rdOf, List.filter_map]
  rfl

theorem eff_sound (hC : CfgOK C) (hcall : CallOKn C w0 n) (hs : StR w0 C.gl ro k s a w) {ops : Array Oper} {rd : List (Nat × Tmp × DV)} (hst : ∀ r ∈ rd, Stable k r.2.2)
    (hrd : ∀ r ∈ rd, ∀ o, ops[r.1]? = some o → readOp o.op = true) {next : Nat → St → Tr} {j : Nat} (h : (effTr C n ops rd next j s).sat C.P Q B k.ρ k.G) {R : Act → World → Prop} {Q' : Exit → Act → World → Prop}
    (hR : ∀ o v k2 s2 w2, ops[j]? = some o → k.le k2 → StR w0 C.gl ro k2 s2 (a.put o.dst v) w2 → (∀ r ∈ rd.filter (fun r => !forced .any ops j r.1), Stable k2 r.2.2) →
      (next j s2).sat C.P Q B k2.ρ k2.G → R (a.put o.dst v) w2) :
    (∀ o, ops[j]? = some o → (∀ c, o.op ≠ .defer c) ∧ ∀ cs b, o.op ≠ .select cs b) ∧
      wpOpIn (WF ro) m C.P ops Q' j (fun a' w' => (∀ r ∈ rdOf k rd, forced .any ops j r.1 = false → Yl C.P ops r.1 r.2.2 a' w') ∧ R a' w') a w := by
  unfold effTr at h
  split at h
  · rename_i o ho
    split at h
    · exact h.elim
    · rename_i hnd
      have hnd : noDraw o.op = false := by simpa using hnd
      refine ⟨fun o' ho' => ?_, ?_⟩
      · rw [ho] at ho'; cases ho'
        exact ⟨fun c hc => by rw [hc] at hnd; simp [noDraw] at hnd, fun cs b hc => by rw [hc] at hnd; simp [noDraw] at hnd⟩
      · rw [Tr.sat_bind] at h
        have post : ∀ v w', ValPost w0 C.gl ro a (fun ρ' G' out s' => (match out with
            | .val d => (recheck C.P C.gl ops (rd.filter fun r => !forced .any ops j r.1) (s'.put o.dst d)).bind fun out s2 => match out with
              | .norm => next j s2
              | _ => .fail "draw"
            | _ => .fail "draw" : Tr).sat C.P Q B ρ' G') k v w' →
            (∀ r ∈ rdOf k rd, forced .any ops j r.1 = false → Yl C.P ops r.1 r.2.2 (a.put o.dst v) w') ∧ R (a.put o.dst v) w' := by
          rintro v w' ⟨k', d, s', hle, hs', hdv, hq⟩
          simp only at hq
          rw [Tr.sat_bind] at hq
          have hst' : ∀ r ∈ rd.filter (fun r => !forced .any ops j r.1), Stable k' r.2.2 := fun r hr => ((hst r (List.mem_filter.1 hr).1).mono hle).1
          have hrd' : ∀ r ∈ rd.filter (fun r => !forced .any ops j r.1), ∀ o, ops[r.1]? = some o → readOp o.op = true := fun r hr => hrd r (List.mem_filter.1 hr).1
          obtain ⟨k2, s2, hle2, hs2, hy, hq2⟩ := recheck_sound hC (hs'.put hdv o.dst) hst' hrd' hq
          simp only at hq2
          have e2 : rdOf k' (rd.filter fun r => !forced .any ops j r.1) = (rdOf k rd).filter fun r => !forced .any ops j r.1 := by
            rw [rdOf_filter, rdOf_mono hst hle]
          rw [e2] at hy
          exact ⟨fun r hr hf => hy r (List.mem_filter.2 ⟨hr, by simp [hf]⟩),
            hR o v k2 s2 w' ho (hle.trans hle2) hs2 (fun r hr => ((hst' r hr).mono hle2).1) hq2⟩
        unfold wpOpIn
        simp only [ho]
        rcases sat_guardTr hs h with ⟨hw, p, hp, h⟩ | ⟨hw, p, hp, h⟩
        · rw [if_pos hw]
          exact opTr_sound hC hcall (hs.withPc hp) (o := o) h fun v w' hv => post v w' hv
        · rw [if_neg (by simp [hw])]
          exact ⟨fun f _ => WF_fn ro f, post undef w ⟨k, undefD, _, K.le.refl k, hs.withPc hp, mk_undef, h⟩⟩
  · exact h.elim

/-! ### A block made early -/
def Fr.with (w0 : Fr) (b : Nat) (ob : Obj) : Fr := { w0 with ex := fun c => if c = b then some ob else w0.ex c }

theorem look_filter {α : Type} (t u : Nat) : ∀ (l : List (Nat × α)), look u (l.filter fun p => p.1 != t) = if u = t then none else look u l
  | [] => by simp [look]
  | (m, v) :: l => by
    have ih := look_filter t u l
    by_cases hm : m = t
    · subst hm
      simp only [List.filter_cons, bne_self_eq_false, Bool.false_eq_true, if_false, ih, look]
      by_cases hu : u = m
      · simp [hu]
      · have : (m == u) = false := by simpa using fun e => hu e.symm
        simp [hu, this]
    · have h1 : (m != t) = true := by simpa using hm
      simp only [List.filter_cons, h1, if_true, look, ih]
      by_cases hu : u = t
      · subst hu
        have : (m == u) = false := by simpa using hm
        simp [this]
      · simp [hu]

theorem StR.drop (hs : StR w0 C.gl ro k s a w) (t : Tmp) : StR w0 C.gl ro k (s.drop t) a w := by
  refine ⟨hs.nx, hs.ct, hs.pc, ⟨hs.env.size, fun u d hl hu => ?_⟩, hs.heap, hs.gl, hs.marks, hs.marksLt, hs.rnd, hs.rndLt, hs.memo⟩
  simp only [St.drop, look_filter] at hl
  split at hl
  · cases hl
  · exact hs.env.get u d hl hu

theorem St.drop_drop (s : St) (t : Tmp) : (s.drop t).drop t = s.drop t := by simp [St.drop]

/-- The act with a value in a temporary that the state tells nothing of. -/
theorem StR.putE {t : Tmp} (hs : StR w0 C.gl ro k (s.drop t) a w) (v : Value) : StR w0 C.gl ro k (s.drop t) (a.put (some t) v) w := by
  refine ⟨hs.nx, hs.ct, hs.pc, ⟨by simpa [Act.put] using hs.env.size, fun u d hl hu => ?_⟩, hs.heap, hs.gl, hs.marks, hs.marksLt, hs.rnd, hs.rndLt, hs.memo⟩
  have hne : u ≠ t := by
    intro e
    simp [St.drop, look_filter, e] at hl
  have := hs.env.get u d hl hu
  simp only [Act.put, Array.getD_eq_getD_getElem?, Array.getElem?_setIfInBounds] at this ⊢
  rw [if_neg (fun e : t = u => hne e.symm)]
  exact this

theorem StR.early (hs : StR w0 C.gl ro k s a w) (ob : Obj) : StR (w0.with w.heap.size ob) C.gl ro k s a { w with heap := w.heap.push ob } := by
  have hh := hs.heap
  refine ⟨hs.nx, hs.ct, hs.pc, hs.env, ?_, hs.gl, hs.marks, hs.marksLt, hs.rnd, hs.rndLt, hs.memo⟩
  have old : ∀ b p, w.heap[b]? = some p → (w.heap.push ob)[b]? = some p := fun b p h => by
    have := (Array.getElem?_eq_some_iff.1 h).1
    rw [Array.getElem?_push, if_neg (by omega)]; exact h
  refine ⟨fun i o hl => ?_, hh.inj, fun i hi => by have := hh.lt i hi; simp; omega, hh.own, fun b o hb => ⟨old _ _ (hh.g b o hb).1, (hh.g b o hb).2⟩, fun b o hb => ?_, ?_⟩
  · obtain ⟨h1, p, h2, h3⟩ := hh.obj i o hl
    exact ⟨h1, p, old _ _ h2, h3⟩
  · simp only [Fr.with] at hb
    split at hb
    · rename_i e
      subst e
      simp only [Option.some.injEq] at hb
      subst hb
      refine ⟨by simp, fun i ⟨p, hp, _⟩ e => ?_, fun p hp => ?_⟩
      · have := hh.lt i (hh.obj i p hp).1; omega
      · have := (Array.getElem?_eq_some_iff.1 (hh.g _ _ hp).1).1; omega
    · obtain ⟨h1, h2, h3⟩ := hh.ex b o hb
      exact ⟨old _ _ h1, h2, h3⟩
  · refine ⟨hh.frame.os, hh.frame.tape, hh.frame.output, by have := hh.frame.size; simp only [Array.size_push, Fr.with]; omega, fun b hb => ?_⟩
    have h1 := hh.frame.size
    have hb' : b < w0.heap.size := hb
    have := hh.frame.block b hb'
    show (w.heap.push ob)[b]? = w0.heap[b]?
    rw [← this]
    simp only [Array.getElem?_push]; rw [if_neg (by omega)]

/-- A block that was made early comes to be the store's. -/
theorem StR.adopt {b : Nat} {z : List DV} {vs : List Value} {T : TypeId} (hs : StR (w0.with b (.cells vs.toArray T)) C.gl ro k s a w) (hb : w0.ex b = none) (hb0 : w0.heap.size ≤ b)
    (hz : DV.iss k z vs) (hone : allOne z = true) :
    StR w0 C.gl ro (k.grow b) { s with heap := (s.nx, .row z T) :: s.heap, nx := s.nx + 1 } a w := by
  have hh := hs.heap
  obtain ⟨e1, e2, e3⟩ := hh.ex b _ (show (w0.with b (.cells vs.toArray T)).ex b = some (.cells vs.toArray T) by simp [Fr.with])
  have hh0 : HeapR w0 k s.heap w := ⟨hh.obj, hh.inj, hh.lt, hh.own, hh.g, fun c o hc => hh.ex c o (by
    simp only [Fr.with]; rw [if_neg (fun e => by subst e; rw [hb] at hc; cases hc)]; exact hc), hh.frame⟩
  have hl := hz.length
  have ho : (DO.row z T).is (k.grow b) (.cells vs.toArray T) := by
    refine ⟨vs, rfl, by omega, ?_, ?_, ?_⟩
    · rw [← hl, List.take_length]; exact hz.mono (K.le_grow k b)
    · rw [hl]; exact isI_lit _
    · rw [← hl, List.take_length]; exact allOne_one hs.ct.one hone hz
  have hadd := hh0.add ho e1 hb0 e2 e3 (fun o ho => by rw [hb] at ho; cases ho) (Nat.le_refl _) (fun _ _ _ => rfl) rfl rfl rfl
  have hle := K.le_grow k b
  refine ⟨by simp [K.grow, hs.nx], hs.ct.grow _, hs.pc.mono hle, hs.env.mono hle, by rw [← hs.nx]; exact hadd, hs.gl.mono hle, ?_, fun i hi => Nat.lt_of_lt_of_le (hs.marksLt i hi) hle.nx, ?_,
    fun i hi => Nat.lt_of_lt_of_le (hs.rndLt i hi) hle.nx, hs.memo.mono hle⟩
  · rw [hs.marks]
    exact List.map_congr_left fun i hi => by simp [markOf, hle.β i (hs.marksLt i hi)]
  · rw [hs.rnd]
    cases hr : s.rnd with
    | none => rfl
    | some i => simp [hle.β i (hs.rndLt i hr)]

end
end Go.Sx
