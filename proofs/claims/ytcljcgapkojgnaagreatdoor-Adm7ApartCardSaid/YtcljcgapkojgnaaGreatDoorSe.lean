/- Loops that are cut. -/
import Derived.Test.YtcljcgapkojgnaaGreatDoorSd
import Derived.Test.YtcljcgapkojgnaaGreatDoorSq
set_option linter.unusedSimpArgs false
set_option linter.unusedVariables false
namespace Go.Sx
open Go.RowKit

theorem least {p : Nat → Prop} (h : ∃ n, p n) : ∃ n, p n ∧ ∀ m, p m → n ≤ m := by
  obtain ⟨n, hn⟩ := h
  induction n using Nat.strongRecOn with
  | _ n ih =>
    by_cases hm : ∃ m, m < n ∧ p m
    · obtain ⟨m, hlt, hp⟩ := hm
      exact ih m hlt hp
    · exact ⟨n, hn, fun m hp => Nat.le_of_not_lt fun h => hm ⟨m, h, hp⟩⟩

open Classical in
theorem wpIn_loop_rel {F : Fence} {n : Nat} {P : Program} {Q : Exit → Act → World → Prop} {c : Code} (I : Nat → Act → World → Prop) {j : Nat} {a : Act} {w : World} (h0 : I j a w)
    (round : ∀ j a w, I j a w → c.wpIn F n P (Exit.then (fun a' w' => ∃ j', j' < j ∧ I j' a' w') Q) a w) : (Code.loop c).wpIn F n P Q a w := by
  refine wpIn_loop (fun a w => ∃ j, I j a w) (fun a w => if h : ∃ j, I j a w then (least h).choose else 0) ⟨j, h0⟩ fun a w hI => ?_
  obtain ⟨h1, h2⟩ := (least hI).choose_spec
  rw [dif_pos hI]
  refine Code.wpIn_mono ?_ (round _ a w h1)
  intro e a' w' hq
  cases e with
  | normal =>
    obtain ⟨j', hlt, hj⟩ := hq
    have hex : ∃ j, I j a' w' := ⟨j', hj⟩
    refine ⟨hex, ?_⟩
    rw [dif_pos hex]
    exact Nat.lt_of_le_of_lt ((least hex).choose_spec.2 j' hj) hlt
  | _ => exact hq

/-! ### What goes round, as new variables -/
def extOf (k : K) : List DV → Ext
  | [] => {}
  | .int _ e :: l => { extOf k l with i := e.ii k.ρ :: (extOf k l).i }
  | .bool e :: l => { extOf k l with b := e.bb k.ρ :: (extOf k l).b }
  | .str e :: l => { extOf k l with s := e.ss k.ρ :: (extOf k l).s }
  | _ :: l => extOf k l

def hasShs : List Sh → List DV → Bool
  | [], [] => true
  | sh :: l, d :: ds => hasSh sh d && hasShs l ds
  | _, _ => false

theorem extOf_v (k : K) : ∀ (l : List DV), (extOf k l).v = []
  | [] => rfl
  | d :: l => by cases d <;> simp [extOf, extOf_v k l]

theorem extOf_fits (k : K) : ∀ {shs : List Sh} {us : List DV} {c : Ctr}, hasShs shs us = true → Fits (extOf k us) c (Sh.freshL shs c).2
  | [], [], c, _ => ⟨rfl, rfl, rfl, rfl, by simp [extOf]⟩
  | sh :: shs, d :: us, c, h => by
    simp only [hasShs, Bool.and_eq_true] at h
    have one : ∀ u ∈ (extOf k (d :: us)).v, u.oneCell' = true := by rw [extOf_v]; simp
    cases sh <;> cases d <;> simp [hasSh] at h
    · have f := extOf_fits k (c := { c with i := c.i + 1 }) h.2
      exact ⟨by have := f.i; simp [extOf, Sh.freshL, Sh.fresh] at this ⊢; omega, f.b, f.s, f.v, one⟩
    · have f := extOf_fits k (c := { c with b := c.b + 1 }) h
      exact ⟨f.i, by have := f.b; simp [extOf, Sh.freshL, Sh.fresh] at this ⊢; omega, f.s, f.v, one⟩
    · have f := extOf_fits k (c := { c with s := c.s + 1 }) h
      exact ⟨f.i, f.b, by have := f.s; simp [extOf, Sh.freshL, Sh.fresh] at this ⊢; omega, f.v, one⟩
  | [], _ :: _, _, h => by simp [hasShs] at h
  | _ :: _, [], _, h => by simp [hasShs] at h

theorem getD_mid {α : Type} (l m : List α) (x d : α) {n : Nat} (hn : l.length = n) : (l ++ x :: m).getD n d = x := by
  subst hn
  simp [List.getD_eq_getElem?_getD]

theorem extOf_den (k : K) : ∀ {shs : List Sh} {us : List DV} {c : Ctr} {ρ : Env} (β : Nat → Nat) (nx : Nat) (G : GS), hasShs shs us = true → ρ.i.length = c.i → ρ.b.length = c.b → ρ.s.length = c.s →
    DV.dens ⟨ρ.app (extOf k us), β, nx, G⟩ (Sh.freshL shs c).1 = DV.dens k us
  | [], [], c, ρ, β, nx, G, _, _, _, _ => by simp only [Sh.freshL, DV.dens]
  | sh :: shs, d :: us, c, ρ, β, nx, G, h, hi, hb, hs => by
    simp only [hasShs, Bool.and_eq_true] at h
    cases sh <;> cases d <;> simp [hasSh] at h
    · rename_i t t' e
      obtain ⟨rfl, h⟩ := h
      have ih := extOf_den k (c := { c with i := c.i + 1 }) (ρ := { ρ with i := ρ.i ++ [e.ii k.ρ] }) β nx G h (by simp [hi]) hb hs
      have e1 : ρ.app (extOf k (.int t e :: us)) = Env.app { ρ with i := ρ.i ++ [e.ii k.ρ] } (extOf k us) := by simp [Env.app, extOf]
      rw [e1]
      simp only [Sh.freshL, Sh.fresh, DV.dens, DV.den, E.ii]
      rw [ih]
      congr 2
      simp only [Env.app, List.append_assoc, List.singleton_append]
      exact getD_mid _ _ _ _ hi
    · rename_i e
      have ih := extOf_den k (c := { c with b := c.b + 1 }) (ρ := { ρ with b := ρ.b ++ [e.bb k.ρ] }) β nx G h hi (by simp [hb]) hs
      have e1 : ρ.app (extOf k (.bool e :: us)) = Env.app { ρ with b := ρ.b ++ [e.bb k.ρ] } (extOf k us) := by simp [Env.app, extOf]
      rw [e1]
      simp only [Sh.freshL, Sh.fresh, DV.dens, DV.den, E.bb]
      rw [ih]
      congr 2
      simp only [Env.app, List.append_assoc, List.singleton_append]
      exact getD_mid _ _ _ _ hb
    · rename_i e
      have ih := extOf_den k (c := { c with s := c.s + 1 }) (ρ := { ρ with s := ρ.s ++ [e.ss k.ρ] }) β nx G h hi hb (by simp [hs])
      have e1 : ρ.app (extOf k (.str e :: us)) = Env.app { ρ with s := ρ.s ++ [e.ss k.ρ] } (extOf k us) := by simp [Env.app, extOf]
      rw [e1]
      simp only [Sh.freshL, Sh.fresh, DV.dens, DV.den, E.ss]
      rw [ih]
      congr 2
      simp only [Env.app, List.append_assoc, List.singleton_append]
      exact getD_mid _ _ _ _ hs
  | [], _ :: _, _, _, _, _, _, h, _, _, _ => by simp [hasShs] at h
  | _ :: _, [], _, _, _, _, _, h, _, _, _ => by simp [hasShs] at h

/-- What goes round hangs on the variables alone. -/
theorem hasShs_den {k k' : K} (hρ : k.ρ = k'.ρ) : ∀ {shs : List Sh} {us : List DV}, hasShs shs us = true → DV.dens k us = DV.dens k' us
  | [], [], _ => by simp only [DV.dens]
  | sh :: shs, d :: us, h => by
    simp only [hasShs, Bool.and_eq_true] at h
    have ih := hasShs_den hρ h.2
    have h1 := h.1
    cases sh <;> cases d <;> simp [hasSh] at h1 <;> simp only [DV.dens, DV.den, ih, hρ]
  | [], _ :: _, h => by simp [hasShs] at h
  | _ :: _, [], h => by simp [hasShs] at h
end Go.Sx
/- Loops that are cut (II): a state at any round. -/
namespace Go.Sx
open Go.RowKit

theorem DO.same {k k2 k' : K} {o o2 : DO} {ob0 ob2 : Obj} (hb : o.beq o2 = true) (h0 : o.is k ob0) (h2 : o2.is k2 ob2) (hle2 : k.le k2) (hle' : k.le k') : o.is k' ob2 := by
  have iss : ∀ {cs : List DV} {vs ws : List Value}, DV.iss k cs vs → DV.iss k2 cs ws → DV.iss k' cs ws := fun {cs vs ws} a b => by
    have e : vs = ws := by rw [← a k2 hle2, b.here]
    subst e; exact a.mono hle'
  have isI : ∀ {e : E} {m n : Int}, e.isI k m → e.isI k2 n → e.isI k' n := fun {e m n} a b => by
    have h : m = n := by rw [← a k2 hle2, b.here]
    subst h; exact a.mono hle'
  have isS : ∀ {e : E} {m n : ByteArray}, e.isS k m → e.isS k2 n → e.isS k' n := fun {e m n} a b => by
    have h : m = n := by rw [← a k2 hle2, b.here]
    subst h; exact a.mono hle'
  cases o with
  | cells cs e m =>
    cases o2 <;> simp [DO.beq] at hb
    obtain ⟨⟨h1, rfl⟩, h3⟩ := hb
    cases DV.beqs_eq _ _ h1
    cases E.beq_eq h3
    obtain ⟨vs, rfl, a1, a2, a3, a4⟩ := h0
    obtain ⟨ws, rfl, b1, b2, b3, b4⟩ := h2
    exact ⟨ws, rfl, b1, iss a2 b2, isI a3 b3, b4⟩
  | bytes e t m =>
    cases o2 <;> simp [DO.beq] at hb
    obtain ⟨⟨h1, rfl⟩, h3⟩ := hb
    cases E.beq_eq h1
    cases E.beq_eq h3
    obtain ⟨vs, s, rfl, a1, a2, a3, a4⟩ := h0
    obtain ⟨ws, s', rfl, b1, b2, b3, b4⟩ := h2
    exact ⟨ws, s', rfl, isS a1 b1, b2, isI a3 b3, b4⟩
  | map l =>
    cases o2 <;> simp [DO.beq] at hb
    rename_i l2
    have e1 := DV.beqs_eq _ _ hb.1
    have e2 := DV.beqs_eq _ _ hb.2
    obtain ⟨en, cl, rfl, a1, a2⟩ := h0
    obtain ⟨en', cl', rfl, b1, b2⟩ := h2
    rw [← e1] at b1
    rw [← e2] at b2
    exact ⟨en', cl', rfl, iss a1 b1, iss a2 b2⟩
  | siter e p =>
    cases o2 <;> simp [DO.beq] at hb
    cases E.beq_eq hb.1
    cases E.beq_eq hb.2
    obtain ⟨sv, n, rfl, a1, a2⟩ := h0
    obtain ⟨sv', n', rfl, b1, b2⟩ := h2
    exact ⟨sv', n', rfl, isS a1 b1, isI a2 b2⟩
  | loop st pend fn env nt ps asg body dfs => cases o2 <;> simp [DO.beq] at hb
  | dfr b =>
    cases o2 <;> simp [DO.beq] at hb
    subst hb
    exact h2
  | dead => trivial

theorem DO.beq_live {o o2 : DO} (hb : o.beq o2 = true) (h : o.live = true) : o2.live = true := by
  cases o <;> cases o2 <;> simp [DO.beq, DO.live] at hb h ⊢

theorem carried_spec {s2 : St} : ∀ {l : List (Tmp × Sh)} {us : List DV}, carried s2 l = some us → hasShs (l.map (·.2)) us = true ∧ us.length = l.length ∧ ∀ (j : Nat) (t : Tmp) (sh : Sh), l[j]? = some (t, sh) → ∃ d, us[j]? = some d ∧ s2.get t = some d
  | [], us, h => by simp [carried] at h; subst h; exact ⟨rfl, rfl, by simp⟩
  | (t, sh) :: l, us, h => by
    simp only [carried] at h
    split at h
    · rename_i d ds h1 h2
      split at h
      · rename_i hs
        simp only [Option.some.injEq] at h; subst h
        obtain ⟨i1, i2, i3⟩ := carried_spec h2
        refine ⟨by simp [hasShs, hs, i1], by simp [i2], fun j t' sh' hj => ?_⟩
        cases j with
        | zero => simp at hj; obtain ⟨rfl, rfl⟩ := hj; exact ⟨d, rfl, h1⟩
        | succ j => simpa using i3 j t' sh' (by simpa using hj)
      · cases h
    · cases h

theorem carriedIt_spec {s s2 : St} : ∀ {l : List Tmp} {us : List DV}, carriedIt s s2 l = some us → hasShs (l.map fun _ => Sh.int .i64) us = true ∧ us.length = l.length ∧
    ∀ (j : Nat) (t : Tmp), l[j]? = some t → ∃ i e p p', iterAt s t = some (i, e, p) ∧ heapGet s2.heap i = some (.siter e p') ∧ us[j]? = some (.int .i64 p')
  | [], us, h => by simp [carriedIt] at h; subst h; exact ⟨rfl, rfl, by simp⟩
  | t :: l, us, h => by
    simp only [carriedIt] at h
    split at h
    · rename_i i e p ds h1 h2
      split at h
      · rename_i e' p' h3
        split at h
        · rename_i he
          cases E.beq_eq he
          simp only [Option.some.injEq] at h; subst h
          obtain ⟨i1, i2, i3⟩ := carriedIt_spec h2
          refine ⟨by simp [hasShs, hasSh, i1], by simp [i2], fun j t' hj => ?_⟩
          cases j with
          | zero => simp at hj; subst hj; exact ⟨i, _, p, p', h1, h3, rfl⟩
          | succ j => simpa using i3 j t' (by simpa using hj)
        · cases h
      · cases h
    · cases h

theorem hasShs_append : ∀ {a b : List Sh} {us vs : List DV}, hasShs a us = true → hasShs b vs = true → hasShs (a ++ b) (us ++ vs) = true
  | [], _, [], _, _, h => h
  | sh :: a, b, d :: us, vs, h, g => by
    simp only [hasShs, Bool.and_eq_true] at h
    simp [hasShs, h.1, hasShs_append h.2 g]
  | [], _, _ :: _, _, h, _ => by simp [hasShs] at h
  | _ :: _, _, [], _, h, _ => by simp [hasShs] at h

theorem look_filter' {α : Type} (p : Nat → Bool) (u : Nat) : ∀ (l : List (Nat × α)), look u (l.filter fun x => p x.1) = if p u then look u l else none
  | [] => by simp [look]
  | (m, v) :: l => by
    have ih := look_filter' p u l
    by_cases hp : p m = true
    · simp only [List.filter_cons, hp, if_true, look, ih]
      by_cases hm : m = u
      · subst hm; simp [hp]
      · have : (m == u) = false := by simpa using hm
        simp [this]
    · have hp : p m = false := by simpa using hp
      simp only [List.filter_cons, hp, Bool.false_eq_true, if_false, ih, look]
      by_cases hm : m = u
      · subst hm; simp [hp]
      · have : (m == u) = false := by simpa using hm
        simp [this]

theorem look_zip {α : Type} (u : Nat) (v : α) : ∀ (l : List Nat) (ds : List α) (m : List (Nat × α)), look u (l.zip ds ++ m) = some v → (∃ j : Nat, l[j]? = some u ∧ ds[j]? = some v) ∨ ((l.length ≤ ds.length → u ∉ l) ∧ look u m = some v)
  | [], ds, m, h => .inr ⟨by simp, by simpa using h⟩
  | t :: l, [], m, h => .inr ⟨by simp, by simpa using h⟩
  | t :: l, d :: ds, m, h => by
    simp only [List.zip_cons_cons, List.cons_append, look] at h
    split at h
    · rename_i ht
      have := beq_iff_eq.1 ht
      subst this
      cases h
      exact .inl ⟨0, rfl, rfl⟩
    · rename_i ht
      have ht : t ≠ u := by simpa using ht
      rcases look_zip u v l ds m h with ⟨j, h1, h2⟩ | ⟨h1, h2⟩
      · exact .inl ⟨j + 1, by simpa using h1, by simpa using h2⟩
      · refine .inr ⟨fun hl => ?_, h2⟩
        simp only [List.mem_cons, not_or]
        exact ⟨fun e => ht e.symm, h1 (by simpa using hl)⟩

theorem look_setIts {s : St} {i : Id} {o : DO} {h : List (Id × DO)} : ∀ {l : List Tmp} {ds : List DV}, look i (setIts s l ds h) = some o →
    (∃ (j : Nat) (t : Tmp) (e p0 : E) (k : IntKind) (p : E), l[j]? = some t ∧ iterAt s t = some (i, e, p0) ∧ ds[j]? = some (.int k p) ∧ o = .siter e p) ∨ ((l.length ≤ ds.length → (∀ d ∈ ds, ∃ k p, d = DV.int k p) → i ∉ itIds s l) ∧ look i h = some o)
  | [], ds, hl => .inr ⟨by simp [itIds], by simpa [setIts] using hl⟩
  | t :: l, [], hl => .inr ⟨by simp, by simpa [setIts] using hl⟩
  | t :: l, d :: ds, hl => by
    have rest : look i (setIts s l ds h) = some o → (iterAt s t = none ∨ (∃ i' e p, iterAt s t = some (i', e, p) ∧ i' ≠ i) ∨ ¬ ∃ k p, d = DV.int k p) →
        (∃ (j : Nat) (t' : Tmp) (e p0 : E) (k : IntKind) (p : E), (t :: l)[j]? = some t' ∧ iterAt s t' = some (i, e, p0) ∧ (d :: ds)[j]? = some (.int k p) ∧ o = .siter e p) ∨
        (((t :: l).length ≤ (d :: ds).length → (∀ x ∈ d :: ds, ∃ k p, x = DV.int k p) → i ∉ itIds s (t :: l)) ∧ look i h = some o) := by
      intro hl hw
      rcases look_setIts hl with ⟨j, t', e, p0, k, p, h1, h2, h3, h4⟩ | ⟨h1, h2⟩
      · exact .inl ⟨j + 1, t', e, p0, k, p, by simpa using h1, h2, by simpa using h3, h4⟩
      · refine .inr ⟨fun hlen hd => ?_, h2⟩
        have h1 := h1 (by simpa using hlen) (fun x hx => hd x (by simp [hx]))
        rcases hw with hw | ⟨i', e, p, hw, hne⟩ | hw
        · simpa [itIds, hw] using h1
        · simp only [itIds, List.filterMap_cons, hw, Option.map_some, List.mem_cons, not_or]
          exact ⟨fun e => hne e.symm, h1⟩
        · exact absurd (hd d (by simp)) hw
    unfold setIts at hl
    split at hl
    · rename_i i' e p0 k p hit
      simp only [look] at hl
      split at hl
      · rename_i hi
        have := beq_iff_eq.1 hi
        subst this
        cases hl
        exact .inl ⟨0, t, e, p0, k, p, rfl, hit, rfl, rfl⟩
      · rename_i hi
        exact rest hl (.inr (.inl ⟨i', e, p0, hit, by simpa using hi⟩))
    · rename_i hne
      refine rest hl ?_
      cases hit : iterAt s t with
      | none => exact .inl rfl
      | some x =>
        obtain ⟨i', e, p⟩ := x
        refine .inr (.inr fun ⟨k, p', hd⟩ => ?_)
        subst hd
        exact hne i' e p k p' hit rfl
end Go.Sx
/- Loops that are cut (III): the step. -/
namespace Go.Sx
open Go.RowKit

theorem look_in {α : Type} {n : Nat} {v : α} : ∀ {l : List (Nat × α)}, look n l = some v → (n, v) ∈ l
  | [], h => by simp [look] at h
  | (m, x) :: l, h => by
    simp only [look] at h
    split at h
    · rename_i hm
      have := beq_iff_eq.1 hm
      subst this
      cases h; simp
    · simp [look_in h]

theorem freshL_length : ∀ (l : List Sh) (c : Ctr), (Sh.freshL l c).1.length = l.length
  | [], c => by simp [Sh.freshL]
  | sh :: l, c => by simp [Sh.freshL, freshL_length l]

theorem freshL_drop : ∀ (l m : List Sh) (c : Ctr), (Sh.freshL (l ++ m) c).1.drop l.length = (Sh.freshL m (Sh.freshL l c).2).1
  | [], m, c => by simp [Sh.freshL]
  | sh :: l, m, c => by simp [Sh.freshL, freshL_drop l m]

theorem freshL_ints : ∀ (n : List Tmp) (c : Ctr), ∀ d ∈ (Sh.freshL (n.map fun _ => Sh.int .i64) c).1, ∃ k p, d = DV.int k p
  | [], c, d, hd => by simp [Sh.freshL] at hd
  | _ :: n, c, d, hd => by
    simp only [List.map_cons, Sh.freshL, Sh.fresh, List.mem_cons] at hd
    rcases hd with rfl | hd
    · exact ⟨_, _, rfl⟩
    · exact freshL_ints n _ d hd

section
variable {C : Cfg} {w0 : Fr} {gl : Glob} {ro : Option Nat} {k k2 : K} {s s2 : St} {a a2 : Act} {w w2 : World} {Q : Env → GS → Out → St → Prop} {B : Backs} {n m : Nat}

/-- The stage of a round. -/
def K.round (k k2 : K) (us : List DV) : K := ⟨k.ρ.app (extOf k2 us), k.β, k.nx, k2.G⟩

theorem K.le_round (hle : k.le k2) (us : List DV) : k.le (k.round k2 us) := ⟨Env.le_app _ _, Nat.le_refl _, fun _ _ => rfl, hle.G⟩

theorem gen_of (hs : StR w0 gl ro k s a w) (hs2 : StR w0 gl ro k2 s2 a2 w2) (hle : k.le k2) {sp : LoopSpec} {mods : List Tmp} {us : List DV} (hv : roundVals s s2 sp mods = some us) :
    hasShs sp.shs us = true ∧ StR w0 gl ro (k.round k2 us) (genState s sp mods) a2 w2 := by
  unfold roundVals at hv
  split at hv
  rotate_left
  · cases hv
  rename_i hsame
  split at hv
  rotate_left
  · cases hv
  rename_i us1 us2 h1 h2
  simp only [Option.some.injEq] at hv
  obtain ⟨c1, c2, c3⟩ := carried_spec h1
  obtain ⟨d1, d2, d3⟩ := carriedIt_spec h2
  have hsh : hasShs sp.shs us = true := by rw [← hv]; exact hasShs_append c1 d1
  refine ⟨hsh, ?_⟩
  unfold sameBut at hsame
  simp only [Bool.and_eq_true, beq_iff_eq, List.all_eq_true, decide_eq_true_eq] at hsame
  obtain ⟨⟨⟨⟨⟨⟨e1, e2⟩, e3⟩, e4⟩, e5⟩, e6⟩, e7⟩ := hsame
  have hle' := K.le_round hle us
  have hfit : Fits (extOf k2 us) s.ct (Sh.freshL sp.shs s.ct).2 := extOf_fits k2 hsh
  have hct : CtR (k.round k2 us) (Sh.freshL sp.shs s.ct).2 := hfit.ctR hs.ct k2.G
  have hin : CtrIn (Sh.freshL sp.shs s.ct).2 (k.round k2 us) := hfit.inK hs.ct k2.G
  have hden : DV.dens (k.round k2 us) (Sh.freshL sp.shs s.ct).1 = DV.dens k2 us := extOf_den k2 _ _ _ hsh hs.ct.i hs.ct.b hs.ct.s
  have hfresh : ∀ (j : Nat) (d u : DV), (Sh.freshL sp.shs s.ct).1[j]? = some d → us[j]? = some u → d.is (k.round k2 us) (u.den k2) := by
    intro j d u hd hu k' hk'
    have h3 := freshL_den hk' sp.shs s.ct hin
    rw [hden, DV.dens_eq_map, DV.dens_eq_map] at h3
    have := congrArg (·[j]?) h3
    simpa [hd, hu] using this
  have hlen1 : sp.tmps.length = us1.length := c2.symm
  have hl0 : (Sh.freshL sp.shs s.ct).1.length = sp.tmps.length + sp.its.length := by rw [freshL_length]; simp [LoopSpec.shs]
  have hdrop : (Sh.freshL sp.shs s.ct).1.drop sp.tmps.length = (Sh.freshL (sp.its.map fun _ => Sh.int .i64) (Sh.freshL (sp.tmps.map (·.2)) s.ct).2).1 := by
    have := freshL_drop (sp.tmps.map (·.2)) (sp.its.map fun _ => Sh.int .i64) s.ct
    simpa [LoopSpec.shs] using this
  -- the objects
  have hobj : ∀ i o, look i (genState s sp mods).heap = some o → (∃ o1, look i s.heap = some o1 ∧ (o.live = true → o1.live = true)) ∧ (∃ o2, look i s2.heap = some o2 ∧ (o.live = true → o2.live = true)) ∧
      i < k.nx ∧ ∃ ob, w2.heap[k.β i]? = some ob ∧ o.is (k.round k2 us) ob := by
    intro i o hl
    rcases look_setIts hl with ⟨j, t, e, p0, kk, p, g1, g2, g3, rfl⟩ | ⟨g1, g2⟩
    · obtain ⟨i', e', q0, p', f1, f2, f3⟩ := d3 j t g1
      rw [g2] at f1
      simp only [Option.some.injEq, Prod.mk.injEq] at f1
      obtain ⟨rfl, rfl, rfl⟩ := f1
      have hit : heapGet s.heap i = some (.siter e p0) := by
        unfold iterAt at g2
        split at g2
        · split at g2
          · rename_i hh
            simp only [Option.some.injEq, Prod.mk.injEq] at g2
            obtain ⟨rfl, rfl, rfl⟩ := g2
            exact hh
          · cases g2
        · cases g2
      obtain ⟨hi, ob, hob, sv, n0, rfl, hsv, _⟩ := hs.heap.obj _ _ hit
      obtain ⟨hi2, ob2, hob2, sv2, n2, rfl, hsv2, hn2⟩ := hs2.heap.obj _ _ f2
      refine ⟨⟨_, hit, fun _ => rfl⟩, ⟨_, f2, fun _ => rfl⟩, hi, _, by rw [← hle.β i hi]; exact hob2, sv2, n2, rfl, ?_, ?_⟩
      · have : sv = sv2 := by rw [← hsv k2 hle, hsv2.here]
        subst this
        exact hsv.mono hle'
      · have hd : (Sh.freshL sp.shs s.ct).1[sp.tmps.length + j]? = some (.int kk p) := by rw [List.getElem?_drop] at g3; exact g3
        have hu : us[sp.tmps.length + j]? = some (.int .i64 p') := by
          rw [← hv, hlen1, List.getElem?_append_right (by omega)]
          simpa using f3
        obtain ⟨n', hn', hp'⟩ := is_int (hfresh _ _ _ hd hu)
        simp only [DV.den, Value.int.injEq] at hn'
        have : n' = (n2 : Nat) := by rw [← hn'.2, hn2.here]
        rw [← this]; exact hp'
    · have hni := g1 (by rw [List.length_drop, hl0]; omega) (by rw [hdrop]; exact freshL_ints _ _)
      have h8 := e7 _ (look_in g2)
      simp only [Bool.or_eq_true, List.contains_iff_mem] at h8
      rcases h8 with h8 | h8
      · exact absurd h8 hni
      · rw [g2] at h8
        split at h8
        · rename_i o1 o2 hx hy
          cases hx
          obtain ⟨hi, ob, hob, ho⟩ := hs.heap.obj _ _ g2
          obtain ⟨hi2, ob2, hob2, ho2⟩ := hs2.heap.obj _ _ hy
          exact ⟨⟨o, g2, fun h => h⟩, ⟨o2, hy, DO.beq_live h8⟩, hi, ob2, by rw [← hle.β i hi]; exact hob2, DO.same h8 ho ho2 hle hle'⟩
        · cases h8
  have live1 : ∀ i, Live (genState s sp mods).heap i → Live s.heap i := fun i ⟨o, h, hl⟩ => by
    obtain ⟨⟨o1, g1, g2⟩, _⟩ := hobj i o h
    exact ⟨o1, g1, g2 hl⟩
  have live2 : ∀ i, Live (genState s sp mods).heap i → Live s2.heap i ∧ i < k.nx := fun i ⟨o, h, hl⟩ => by
    obtain ⟨_, ⟨o2, g1, g2⟩, hi, _⟩ := hobj i o h
    exact ⟨⟨o2, g1, g2 hl⟩, hi⟩
  refine ⟨hs.nx, hct, hs.pc.mono hle', ⟨by show a2.tmps.size = s.nt; rw [hs2.env.size, e1], ?_⟩, ?_, hs.gl.mono hle', ?_, hs.marksLt, ?_, hs.rndLt, hs.memo.mono hle'⟩
  · -- temporaries
    intro t d hl ht
    rcases look_zip t d _ _ _ hl with ⟨j, g1, g2⟩ | ⟨_, g2⟩
    · rw [List.getElem?_map] at g1
      cases hj : sp.tmps[j]? with
      | none => rw [hj] at g1; simp at g1
      | some x =>
        obtain ⟨t', sh⟩ := x
        rw [hj] at g1
        simp only [Option.map_some, Option.some.injEq] at g1
        subst g1
        obtain ⟨u, hu, hg⟩ := c3 j t' sh hj
        have hlt := (List.getElem?_eq_some_iff.1 hu).1
        have hu' : us[j]? = some u := by rw [← hv, List.getElem?_append_left hlt]; exact hu
        have := hfresh j d u g2 hu'
        rw [(St.get_sound hs2 hg).2.here] at this
        exact this
    · rw [look_filter' (fun x => !mods.contains x)] at g2
      split at g2
      · rename_i hm
        have h8 := e6 _ (look_in g2)
        simp only [Bool.or_eq_true] at h8
        have hm : mods.contains t = false := by simpa using hm
        rcases h8 with h8 | h8
        · rw [hm] at h8; cases h8
        · rw [g2] at h8
          split at h8
          · rename_i d1 d2 hx hy
            cases hx
            cases DV.beq_eq _ _ h8
            have v1 := hs.env.get t _ g2 ht
            have v2 := hs2.env.get t _ hy (by rw [e1]; exact ht)
            have hve : a.tmps.getD t undef = a2.tmps.getD t undef := by rw [← v1 k2 hle, v2.here]
            rw [← hve]
            exact v1.mono hle'
          · cases h8
      · cases g2
  · -- the store
    refine ⟨fun i o hl => (hobj i o hl).2.2, fun i j hi hj => hs.heap.inj i j (live1 i hi) (live1 j hj), fun i hi => ?_, hs.heap.own, fun b o hb => ⟨(hs2.heap.g b o hb).1, fun i hi => ?_⟩, fun b o hb => ⟨(hs2.heap.ex b o hb).1, fun i hi => ?_, (hs2.heap.ex b o hb).2.2⟩, hs2.heap.frame⟩
    · show k.β i < w2.heap.size
      rw [← hle.β i hi]; exact hs2.heap.lt i (Nat.lt_of_lt_of_le hi hle.nx)
    · obtain ⟨l2, hi'⟩ := live2 i hi
      show k.β i ≠ b
      rw [← hle.β i hi']; exact (hs2.heap.g b o hb).2 i l2
    · obtain ⟨l2, hi'⟩ := live2 i hi
      show k.β i ≠ b
      rw [← hle.β i hi']; exact (hs2.heap.ex b o hb).2.1 i l2
  · show a2.defers = s.marks.map _
    rw [hs2.marks, e2]
    exact List.map_congr_left fun i hi => by simp [markOf, K.round, hle.β i (hs.marksLt i hi)]
  · show ro = s.rnd.map k.β
    exact hs.rnd

theorem loop_cut (hc : CodeOK C w0 n) (hl : LoopOK C w0 n) : ∀ x s k a w Q B ro m, StR w0 C.gl ro k s a w → (ev C (n + 1) (.code (.loop x)) s).sat C.P Q B k.ρ k.G → (Code.loop x).wpIn (WF ro) m C.P (CodePost w0 C.gl ro Q k) a w := by
  intro x s k a w Q B ro m hs h
  simp only [ev] at h
  split at h
  · exact wpIn_loop_rounds C.unroll (hl _ _ _ _ _ _ _ _ _ m hs h)
  · rename_i sp hsp
    split at h
    · exact h.elim
    split at h
    rotate_left
    · exact h.elim
    rename_i vals hvals
    simp only [Tr.sat] at h
    obtain ⟨I, μ, h0, hbody⟩ := h
    obtain ⟨hsh0, hg0⟩ := gen_of hs hs (K.le.refl k) hvals
    let fresh := (Sh.freshL sp.shs s.ct).1
    let Inv : Nat → Act → World → Prop := fun j a' w' => ∃ k2 us, k.le k2 ∧ hasShs sp.shs us = true ∧ StR w0 C.gl ro (k.round k2 us) (genState s sp (setBy x)) a' w' ∧
      (∀ β nx, I (DV.dens ⟨(k.round k2 us).ρ, β, nx, k2.G⟩ fresh) k2.G) ∧ μ (DV.dens (k.round k2 us) fresh) = j
    have hden : ∀ {k2 : K} {us : List DV}, hasShs sp.shs us = true → ∀ β nx (G : GS), DV.dens ⟨(k.round k2 us).ρ, β, nx, G⟩ fresh = DV.dens k2 us := fun hsh β nx G => extOf_den _ β nx G hsh hs.ct.i hs.ct.b hs.ct.s
    refine wpIn_loop_rel Inv (j := μ (DV.dens (k.round k vals) fresh)) ⟨k, vals, K.le.refl k, hsh0, hg0, fun β nx => ?_, rfl⟩ ?_
    · rw [hden hsh0]
      have := h0 k.β k.nx
      exact this
    · rintro j a' w' ⟨k2, us, hle, hsh, hst, hI, rfl⟩
      have hb := hbody (extOf k2 us) k2.G (extOf_fits k2 hsh) hle.G hI
      rw [Tr.sat_bind] at hb
      refine wpIn_mono (hc _ _ _ _ _ _ _ _ m hst hb) ?_
      rintro e a3 w3 ⟨k3, o, s3, hle3, hs3, hq, he⟩
      have hle0 := (K.le_round hle us).trans hle3
      cases o with
      | norm =>
        simp only [exitOf, Option.some.injEq] at he; subst he
        simp only at hq
        split at hq
        rotate_left
        · exact hq.elim
        rename_i us3 hv3
        simp only [Tr.sat, List.getElem?_cons_zero] at hq
        obtain ⟨hsh3, hg3⟩ := gen_of hs hs3 hle0 hv3
        refine ⟨μ (DV.dens (k.round k3 us3) fresh), ?_, k3, us3, hle0, hsh3, hg3, fun β nx => ?_, rfl⟩
        · have := (hq k3.β k3.nx).2
          have e1 : DV.dens (k.round k3 us3) fresh = DV.dens k3 us3 := hden hsh3 _ _ _
          have e2 : DV.dens (k.round k2 us) fresh = DV.dens k2 us := hden hsh _ _ _
          have e3 : DV.dens ⟨k.ρ.app (extOf k2 us), k3.β, k3.nx, k2.G⟩ (Sh.freshL sp.shs s.ct).1 = DV.dens k2 us := hden hsh _ _ _
          rw [e3] at this
          rw [e1, e2]
          exact this
        · rw [hden hsh3]
          have := (hq k3.β k3.nx).1
          exact this
      | _ =>
        simp only [exitOf, Option.some.injEq, reduceCtorEq] at he
        try (subst he; exact ⟨k3, _, s3, hle0, hs3, by
          have hq : (Tr.leaf _ s3).sat C.P Q _ k3.ρ k3.G := hq
          exact hq, rfl⟩)
end
end Go.Sx
/- The run of code: a range over a function; the whole (VI). -/
namespace Go.Sx
open Go.RowKit

section
variable {C : Cfg} {w0 : Fr} {ro : Option Nat} {k : K} {s : St} {a : Act} {w : World} {Q : Env → GS → Out → St → Prop} {B : Backs} {n : Nat}

theorem run_endLoop {P : Program} {l : Nat} {r : Loop} (h : w.heap[l]? = some (.loop r)) (hr : r.state ≠ .busy) :
    (Instr.endLoop l).run P w = .ok r.pending { w with heap := w.heap.setIfInBounds l (.loop { r with state := .exhausted }) } := by
  simp only [Instr.endLoop, Sem.run_bind, run_getLoop h, Result.andThen_ok]
  rw [if_neg (by simpa using hr)]
  simp only [Sem.run_bind, Sem.run_pure, Result.andThen_ok, run_setObj h (by simp)]

theorem EnvR.tmps {nt : Nat} {env : List (Nat × DV)} {tmps : Array Value} (h : EnvR k env nt tmps) : EnvR k env nt tmps := h

/-- Behind the blocks that a loop over a function lays. -/
theorem rangeFunc_tail (hC : CfgOK C) (he : EnterOK C w0 n) {f : Operand} {ps : Array Tmp} {asg body : Code} {fv : DV} {m : Nat} {k1 : K} {s1 : St} {a1 : Act} {w1 : World} {dfs : Id}
    {lm : List Deferred} (hle1 : k.le k1) (hs1 : StR w0 C.gl ro k1 s1 a1 w1) (hf : fv.is k (a.eval f)) (hdfs : dfs < k1.nx) (henv : EnvR k s.env s.nt a.tmps)
    (ha1 : a1 = { a with defers := lm ++ a.defers })
    (henter : ∀ fn, (Instr.enterLoop fn a.tmps ps asg body (WF ro).round).run C.P w =
      .ok (w1.heap.size, lm) { w1 with heap := w1.heap.push (.loop { state := .ready, pending := none, fn, tmps := a.tmps, params := ps, assign := asg, body, defers := k1.β dfs }) })
    (h : ((match fnParts fv with | some (g, first, caps) => ev C n (.enter g (first ++ [DV.yld s1.nx] ++ caps)) { s1 with heap := (s1.nx, .loop .ready none s.fn s.env s.nt ps.toList asg body dfs) :: s1.heap, nx := s1.nx + 1 } | none => Tr.fail "rangeFunc" : Tr).bind (endRange s1.nx)).sat C.P Q B k1.ρ k1.G) :
    (Code.rangeFunc f ps asg body).wpIn (WF ro) m C.P (CodePost w0 C.gl ro Q k) a w := by
  refine wpIn_rangeFunc fun fn _ => ?_
  rw [Tr.sat_bind] at h
  by_cases hfn : ∃ g first caps, fv = .fn (.func g) first caps
  · obtain ⟨g, first, caps, rfl⟩ := hfn
    obtain ⟨fs, cs, hfv, hfs, hcs⟩ := is_fn hf
    have hleg := K.le_grow k1 w1.heap.size
    have hle2 := hle1.trans hleg
    let ob : Obj := .loop { state := .ready, pending := none, fn, tmps := a.tmps, params := ps, assign := asg, body, defers := k1.β dfs }
    let w2 : World := { w1 with heap := w1.heap.push ob }
    have hnx : k1.nx = s1.nx := hs1.nx
    have hob : (DO.loop .ready none s.fn s.env s.nt ps.toList asg body dfs).is (k1.grow w1.heap.size) ob :=
      ⟨fn, a.tmps, by simp [ob, hleg.β dfs hdfs], henv.mono hle2, Nat.lt_of_lt_of_le hdfs hleg.nx⟩
    have hs2 := hs1.new (w' := w2) hob rfl
    have hyld : (DV.yld s1.nx).is (k1.grow w1.heap.size) (.func (.yield w1.heap.size) #[] #[]) := fun k' g' => by
      rw [DV.den, g'.β s1.nx (by simp [K.grow, hnx])]
      simp [K.grow, hnx]
    have hall : DV.iss (k1.grow w1.heap.size) (first ++ [DV.yld s1.nx] ++ caps) (fs ++ [.func (.yield w1.heap.size) #[] #[]] ++ cs) :=
      DV.iss_append (DV.iss_append (hfs.mono hle2) (DV.iss_cons hyld DV.iss_nil)) (hcs.mono hle2)
    obtain ⟨hcall, gfn, hgfn, hgb⟩ := he _ _ _ _ _ a1 _ _ _ ro (m - 1) hs2 hall h
    refine ⟨w1.heap.size, lm, w2, { target := .fn (.func g) cs.toArray, args := fs.toArray ++ #[Value.func (.yield w1.heap.size) #[] #[]] }, w2, g, (fs ++ [Value.func (.yield w1.heap.size) #[] #[]] ++ cs).toArray, w2,
      henter fn, ?_, fun f' _ => WF_fn ro f', ?_, WF_depth ro m, ?_⟩
    · have : resolve a.eval (rangeCall f w1.heap.size) 0 = Deferred.ofValue (a.eval f) #[Value.func (.yield w1.heap.size) #[] #[]] := by simp [resolve, Act.eval]
      rw [this, hfv]
      rfl
    · have : (fs.toArray ++ #[Value.func (.yield w1.heap.size) #[] #[]] ++ cs.toArray) = (fs ++ [Value.func (.yield w1.heap.size) #[] #[]] ++ cs).toArray := by simp
      simp only [invoke, this]
      exact run_callFunc hgfn (hC.num _ _ hgfn) hgb _
    · refine CallsIn.mono (callsIn_round hcall) ?_
      rintro e w3 hr
      cases e with
      | panicked c => exact hr.elim
      | outgrown => exact hr.elim
      | returned v =>
        obtain ⟨k3, d, s3, hle3, hs3, hd, hq⟩ := hr
        simp only [endRange] at hq
        split at hq
        · rename_i st pend fn3 env3 nt3 ps3 asg3 body3 dfs3 hl3
          obtain ⟨hli, ob3, hob3, fn', tmps', rfl, henv', hdfs'⟩ := hs3.heap.obj _ _ hl3
          split at hq
          · exact hq.elim
          · rename_i hst
            have hst : st ≠ .busy := by simpa using hst
            have hβ : k3.β s1.nx = w1.heap.size := by
              rw [hle3.β s1.nx (by simp [K.grow, hnx])]; simp [K.grow, hnx]
            have hend := run_endLoop (P := C.P) hob3 hst
            rw [hβ] at hend
            have hh := hs3.heap.set ⟨_, hl3, rfl⟩ (o := .loop .exhausted pend fn3 env3 nt3 ps3 asg3 body3 dfs3)
              (ob := .loop { state := .exhausted, pending := pend, fn := fn', tmps := tmps', params := ps3.toArray, assign := asg3, body := body3, defers := k3.β dfs3 }) ⟨fn', tmps', rfl, henv', hdfs'⟩
            rw [hβ] at hh
            have hs4 := hs3.upd hh
            have hle4 := hle2.trans hle3
            rw [ha1] at hs4
            refine ⟨pend, _, hend, ?_⟩
            split at hq
            · exact ⟨k3, _, _, hle4, hs4, hq, rfl⟩
            · exact wpIn_ret ⟨k3, _, _, hle4, hs4, hq, rfl⟩
            · exact wpIn_exit ⟨k3, _, _, hle4, hs4, hq, rfl⟩
            · exact wpIn_goto ⟨k3, _, _, hle4, hs4, hq, rfl⟩
            · exact hq.elim
        · exact hq.elim
  · exfalso
    split at h
    · rename_i hp
      refine hfn ?_
      unfold fnParts at hp
      split at hp
      · exact ⟨_, _, _, rfl⟩
      · simp at hp
    · exact h

theorem rangeFunc_step (hC : CfgOK C) (he : EnterOK C w0 n) : ∀ f ps asg body s k a w Q B ro m, StR w0 C.gl ro k s a w →
    (ev C (n + 1) (.code (.rangeFunc f ps asg body)) s).sat C.P Q B k.ρ k.G → (Code.rangeFunc f ps asg body).wpIn (WF ro) m C.P (CodePost w0 C.gl ro Q k) a w := by
  intro f ps asg body s k a w Q B ro m hs h
  simp only [ev] at h
  obtain ⟨fv, hfv, h⟩ := sat_withOp h
  have hf := opd_sound hs hfv
  split at h
  · exact h.elim
  · rename_i dfs s1 heq
    have hro := hs.rnd
    obtain ⟨rn, hr⟩ : ∃ x, s.rnd = x := ⟨_, rfl⟩
    cases rn with
    | none =>
      rw [hr] at heq
      simp only [Option.some.injEq, Prod.mk.injEq] at heq
      obtain ⟨rfl, rfl⟩ := heq
      rw [hr] at hro
      subst hro
      have hleg := K.le_grow k w.heap.size
      have hs1 := hs.new (o := .dfr true) (ob := .deferred (some [])) (w' := { w with heap := w.heap.push (.deferred (some [])) }) (by simp [DO.is]) rfl
      have hs1' : StR w0 C.gl none (k.grow w.heap.size) { s with heap := (s.nx, .dfr true) :: s.heap, nx := s.nx + 1, marks := s.nx :: s.marks, rnd := s.rnd }
          { a with defers := [{ target := .collected w.heap.size, args := #[] }] ++ a.defers } { w with heap := w.heap.push (.deferred (some [])) } := by
        refine ⟨hs1.nx, hs1.ct, hs1.pc, hs1.env, hs1.heap, hs1.gl, ?_, ?_, hs1.rnd, hs1.rndLt, hs1.memo⟩
        · have := hs1.marks
          simp only at this
          simp only [List.cons_append, List.nil_append, List.map_cons, this]
          simp [markOf, K.grow, hs.nx]
        · intro i hi
          simp only [List.mem_cons] at hi
          rcases hi with rfl | hi
          · simp [K.grow, hs.nx]
          · exact hs1.marksLt i hi
      rw [hr] at hs1'
      refine rangeFunc_tail (B := B) hC he (dfs := s.nx) hleg hs1' hf (by simp [K.grow, hs.nx]) hs.env rfl (fun fn => ?_) h
      simp [Instr.enterLoop, WF, K.grow, hs.nx]
      rfl
    | some l =>
      rw [hr] at heq hro
      subst hro
      simp only at heq
      split at heq
      · rename_i st pend lfn lenv lnt lps lasg lbody d hl
        simp only [Option.some.injEq, Prod.mk.injEq] at heq
        obtain ⟨rfl, rfl⟩ := heq
        obtain ⟨hli, ob, hob, fn', tmps', rfl, _, hd⟩ := hs.heap.obj _ _ hl
        refine rangeFunc_tail (B := B) (lm := []) hC he (dfs := d) (K.le.refl k) hs hf hd hs.env rfl (fun fn => ?_) h
        simp [Instr.enterLoop, WF, run_getLoop hob]
        try rfl
      · simp at heq

theorem sound (hC : CfgOK C) : ∀ n (w0 : Fr), CodeOK C w0 n ∧ OpsOK C w0 n ∧ CallOKn C w0 n ∧ EnterOK C w0 n ∧ LoopOK C w0 n ∧ DrawE C w0 n
  | 0, w0 => by
    refine ⟨?_, ?_, ?_, ?_, ?_, ?_⟩
    · intro c s k a w Q B ro m hs h; simp [ev, Tr.sat] at h
    · intro c _ s k a w Q B ro m hs h; simp [ev, Tr.sat] at h
    · intro f args fv vs s k a w Q B ro m hs _ _ h; simp [ev, Tr.sat] at h
    · intro f args vs s k a w Q B ro m hs _ h; simp [ev, Tr.sat] at h
    · intro c left s k a w Q B ro m hs h; simp [ev, Tr.sat] at h
    · intro ops done rd s k a w Q B ro m fl _ _ _ _ _ _ _ h; simp [ev, Tr.sat] at h
  | n + 1, w0 => by
    have hall := sound hC n
    obtain ⟨h1, h2, h3, h4, h5, h6⟩ := hall w0
    have hE := drawE_step hC (fun w0 => (hall w0).2.2.1) h6
    exact ⟨code_step h2 h1 (loop_cut h1 h5) (fun _ _ _ _ _ _ _ _ _ _ hs h => region_draw hC h6 hs h) (rangeFunc_step hC h4), ops_step hC h3 h2, call_step hC h1 h4, enter_step h1, loop_step h1 h5, hE⟩
end
end Go.Sx
