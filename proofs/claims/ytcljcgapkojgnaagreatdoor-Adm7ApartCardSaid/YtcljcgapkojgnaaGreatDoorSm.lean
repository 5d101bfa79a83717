/- Trees without what hangs on no answer: capacities, bounds that hold. -/
import Derived.Test.YtcljcgapkojgnaaGreatDoorSl
import Derived.Test.YtcljcgapkojgnaaGreatDoorSg
set_option linter.unusedSimpArgs false
set_option linter.unusedVariables false
namespace Go.Sx
open Go.RowKit

/-- A tree's answers alone. -/
inductive Sm
  | val (d : DV) | br (c : E) (t e : Sm) | bad
  deriving Repr, Inhabited

def Sm.sat (Q : DV → Prop) (ρ : Env) : Sm → Prop
  | .val d => Q d
  | .bad => False
  | .br c t e => (c.bb ρ = true → t.sat Q ρ) ∧ (c.bb ρ = false → e.sat Q ρ)

mutual
/-- Values that hang on early variables alone. -/
def DV.inCt (c : Ctr) : DV → Bool
  | .int _ e => e.inCt c
  | .bool e => e.inCt c
  | .str e => e.inCt c
  | .agg l => DV.inCts c l
  | .tup l => DV.inCts c l
  | _ => false
def DV.inCts (c : Ctr) : List DV → Bool
  | [] => true
  | d :: l => d.inCt c && DV.inCts c l
end

/-- At most so many bytes. -/
def ubPc (e : E) : List (E × Bool) → Option Nat
  | [] => none
  | (.o2 .le (.o1 .len e') (.lit n), true) :: l => if 0 ≤ n && e'.beq e then some n.toNat else ubPc e l
  | (.o2 .lt (.lit n) (.o1 .len e'), false) :: l => if 0 ≤ n && e'.beq e then some n.toNat else ubPc e l
  | _ :: l => ubPc e l
def ubS (pc : List (E × Bool)) : E → Option Nat
  | .sl l => some l.length
  | .o2 .app a b => match ubS pc a, ubS pc b with | some x, some y => some (x + y) | _, _ => none
  | .o2 .headE _ _ => some 9
  | .sv i => ubPc (.sv i) pc
  | .o3 .sub3 a l h => ubPc (.o3 .sub3 a l h) pc
  | _ => none
def ubI (pc : List (E × Bool)) : E → Option Int
  | .lit n => some n
  | .o1 .len a => (ubS pc a).map Int.ofNat
  | .o2 .add a b => match ubI pc a, ubI pc b with | some x, some y => some (x + y) | _, _ => none
  | _ => none
def obOK (pc : List (E × Bool)) (c : E) : Bool := decideE pc c == some true || match c with
  | .o2 .le a (.lit m) => (match ubI pc a with | some n => decide (n ≤ m) | none => false)
  | _ => false

def Ts.strip (c0 : Ctr) (pc : List (E × Bool)) : Ts → Sm
  | .val d _ => if d.inCt c0 then .val d else .bad
  | .br c t e => if c.inCt c0 then .br c (t.strip c0 ((c, true) :: pc)) (e.strip c0 ((c, false) :: pc)) else .bad
  | .ob c t => if c.inCt c0 && obOK pc c then t.strip c0 pc else .bad
  | .any _ _ _ t => t.strip c0 pc
  | _ => .bad

/-- What is known at the start. -/
def Pc0 (c0 : Ctr) (ρ : Env) (pc : List (E × Bool)) : Prop := ∀ c b, (c, b) ∈ pc → c.inCt c0 = true ∧ c.bb ρ = b

theorem Env.le_trans' {a b c : Env} (h : a.le b) (h' : b.le c) : a.le c := h.trans h'

section
variable {c0 : Ctr} {ρ : Env} {pc : List (E × Bool)} {P : Program}

theorem pc0_pcR (hc : CtR ⟨ρ, fun _ => 0, 0, fun _ => none⟩ c0) (h : Pc0 c0 ρ pc) : PcR ⟨ρ, fun _ => 0, 0, fun _ => none⟩ pc := by
  intro c b hm k' hle
  obtain ⟨h1, h2⟩ := h c b hm
  rw [(inCt_stable hc hle h1).2.1]
  exact h2

theorem ubPc_sound (h : Pc0 c0 ρ pc) {e : E} {n : Nat} (hu : ubPc e pc = some n) : (e.ss ρ).size ≤ n := by
  induction pc with
  | nil => simp [ubPc] at hu
  | cons x l ih =>
    obtain ⟨c, b⟩ := x
    have hl : Pc0 c0 ρ l := fun c b hm => h c b (by simp [hm])
    unfold ubPc at hu
    split at hu
    · rename_i heq; cases heq
    · rename_i e' m l' heq
      cases heq
      split at hu
      · rename_i hc
        simp only [Bool.and_eq_true, decide_eq_true_eq] at hc
        cases E.beq_eq hc.2
        have := (h _ _ (List.mem_cons_self ..)).2
        simp only [E.bb, E.ii] at this
        have this := of_decide_eq_true this
        have hu := Option.some.inj hu
        omega
      · exact ih hl hu
    · rename_i e' m l' heq
      cases heq
      split at hu
      · rename_i hc
        simp only [Bool.and_eq_true, decide_eq_true_eq] at hc
        cases E.beq_eq hc.2
        have := (h _ _ (List.mem_cons_self ..)).2
        simp only [E.bb, E.ii] at this
        have this := of_decide_eq_false this
        have hu := Option.some.inj hu
        omega
      · exact ih hl hu
    · rename_i heq
      cases heq
      exact ih hl hu

theorem ubS_sound (h : Pc0 c0 ρ pc) : ∀ {e : E} {n : Nat}, ubS pc e = some n → (e.ss ρ).size ≤ n
  | .sl l, n, hu => by
    simp only [ubS, Option.some.injEq] at hu
    simp only [E.ss, lit_sOf_size]; omega
  | .o2 .app a b, n, hu => by
    simp only [ubS] at hu
    split at hu
    · rename_i x y hx hy
      have h1 := ubS_sound h hx
      have h2 := ubS_sound h hy
      simp only [Option.some.injEq] at hu
      simp only [E.ss, ByteArray.size_append]
      omega
    · cases hu
  | .o2 .headE a b, n, hu => by
    simp only [ubS, Option.some.injEq] at hu
    simp only [E.ss, lit_sOf_size, headI]
    split
    · have := headL_len (a.ii ρ).toNat (b.ii ρ).toNat
      omega
    · simp
  | .sv i, n, hu => ubPc_sound h hu
  | .o3 .sub3 a l hh, n, hu => ubPc_sound h hu
  | .lit _, _, hu | .bl _, _, hu | .iv _, _, hu | .bv _, _, hu | .vv _ _, _, hu | .o1 _ _, _, hu => by simp [ubS] at hu
  | .o3 .ite _ _ _, _, hu => by simp [ubS] at hu
  | .o2 .add _ _, _, hu | .o2 .sub _ _, _, hu | .o2 .mul _ _, _, hu | .o2 .tdiv _ _, _, hu | .o2 .tmod _ _, _, hu | .o2 .imax _ _, _, hu | .o2 .imin _ _, _, hu | .o2 (.bits _ _) _ _, _, hu | .o2 (.shl _) _ _, _, hu | .o2 (.shr _) _ _, _, hu
  | .o2 .byte _ _, _, hu | .o2 .rune _ _, _, hu | .o2 .rwid _ _, _, hu | .o2 .idx _ _, _, hu | .o2 .lt _ _, _, hu | .o2 .le _ _, _, hu | .o2 .eqi _ _, _, hu | .o2 .eqs _ _, _, hu | .o2 .lts _ _, _, hu | .o2 .and _ _, _, hu | .o2 .or _ _, _, hu
  | .o2 .eqb _ _, _, hu | .o2 .push _ _, _, hu => by simp [ubS] at hu

theorem ubI_sound (h : Pc0 c0 ρ pc) : ∀ {e : E} {n : Int}, ubI pc e = some n → e.ii ρ ≤ n
  | .lit m, n, hu => by simp only [ubI, Option.some.injEq] at hu; simp only [E.ii]; omega
  | .o1 .len a, n, hu => by
    simp only [ubI, Option.map_eq_some_iff] at hu
    obtain ⟨x, hx, rfl⟩ := hu
    have := ubS_sound h hx
    simp only [E.ii]
    exact Int.ofNat_le.2 this
  | .o2 .add a b, n, hu => by
    simp only [ubI] at hu
    split at hu
    · rename_i x y hx hy
      have h1 := ubI_sound h hx
      have h2 := ubI_sound h hy
      simp only [Option.some.injEq] at hu
      simp only [E.ii]
      omega
    · cases hu
  | .sl _, _, hu | .bl _, _, hu | .iv _, _, hu | .bv _, _, hu | .sv _, _, hu | .vv _ _, _, hu | .o1 (.wrap _) _, _, hu | .o1 .not _, _, hu | .o1 (.allr _) _, _, hu | .o3 _ _ _ _, _, hu => by simp [ubI] at hu
  | .o2 .sub _ _, _, hu | .o2 .mul _ _, _, hu | .o2 .tdiv _ _, _, hu | .o2 .tmod _ _, _, hu | .o2 .imax _ _, _, hu | .o2 .imin _ _, _, hu | .o2 (.bits _ _) _ _, _, hu | .o2 (.shl _) _ _, _, hu | .o2 (.shr _) _ _, _, hu
  | .o2 .byte _ _, _, hu | .o2 .rune _ _, _, hu | .o2 .rwid _ _, _, hu | .o2 .idx _ _, _, hu | .o2 .lt _ _, _, hu | .o2 .le _ _, _, hu | .o2 .eqi _ _, _, hu | .o2 .eqs _ _, _, hu | .o2 .lts _ _, _, hu | .o2 .and _ _, _, hu | .o2 .or _ _, _, hu
  | .o2 .eqb _ _, _, hu | .o2 .push _ _, _, hu | .o2 .app _ _, _, hu | .o2 .headE _ _, _, hu => by simp [ubI] at hu

theorem obOK_sound (hc : CtR ⟨ρ, fun _ => 0, 0, fun _ => none⟩ c0) (h : Pc0 c0 ρ pc) {c : E} (ho : obOK pc c = true) : c.bb ρ = true := by
  unfold obOK at ho
  simp only [Bool.or_eq_true, beq_iff_eq] at ho
  rcases ho with ho | ho
  · exact decideE_sound (pc0_pcR hc h) ho _ (K.le.refl _)
  · split at ho
    · split at ho
      · rename_i n hn
        have := ubI_sound h hn
        have ho := of_decide_eq_true ho
        simp only [E.bb, E.ii]
        exact decide_eq_true (by omega)
      · cases ho
    · cases ho

mutual
theorem den_inCt (hc : CtR ⟨ρ, fun _ => 0, 0, fun _ => none⟩ c0) {ρ' : Env} (hle : ρ.le ρ') (β β' : Nat → Nat) (nx nx' : Nat) (G G' : GS) : ∀ (d : DV), d.inCt c0 = true → d.den ⟨ρ', β, nx, G⟩ = d.den ⟨ρ, β', nx', G'⟩
  | .int t e, h => by
    have := inCt_stable hc (k' := ⟨ρ', fun _ => 0, 0, fun _ => none⟩) ⟨hle, Nat.le_refl _, fun _ _ => rfl, fun _ _ h => h⟩ (e := e) h
    simp only [DV.den, this.1]
  | .bool e, h => by
    have := inCt_stable hc (k' := ⟨ρ', fun _ => 0, 0, fun _ => none⟩) ⟨hle, Nat.le_refl _, fun _ _ => rfl, fun _ _ h => h⟩ (e := e) h
    simp only [DV.den, this.2.1]
  | .str e, h => by
    have := inCt_stable hc (k' := ⟨ρ', fun _ => 0, 0, fun _ => none⟩) ⟨hle, Nat.le_refl _, fun _ _ => rfl, fun _ _ h => h⟩ (e := e) h
    simp only [DV.den, this.2.2]
  | .agg l, h => by simp only [DV.inCt] at h; simp only [DV.den, dens_inCt hc hle β β' nx nx' G G' l h]
  | .tup l, h => by simp only [DV.inCt] at h; simp only [DV.den, dens_inCt hc hle β β' nx nx' G G' l h]
  | .ptr _, h | .nilptr, h | .slice _ _ _, h | .nilslice, h | .map _, h | .nilmap, h | .fn _ _ _, h | .yld _, h | .nilfn, h | .iface _ _, h | .nilif, h | .raw _, h | .gd _ _, h => by simp [DV.inCt] at h
theorem dens_inCt (hc : CtR ⟨ρ, fun _ => 0, 0, fun _ => none⟩ c0) {ρ' : Env} (hle : ρ.le ρ') (β β' : Nat → Nat) (nx nx' : Nat) (G G' : GS) : ∀ (l : List DV), DV.inCts c0 l = true → DV.dens ⟨ρ', β, nx, G⟩ l = DV.dens ⟨ρ, β', nx', G'⟩ l
  | [], _ => by simp only [DV.dens]
  | d :: l, h => by
    simp only [DV.inCts, Bool.and_eq_true] at h
    simp only [DV.dens, den_inCt hc hle β β' nx nx' G G' d h.1, dens_inCt hc hle β β' nx nx' G G' l h.2]
end

theorem strip_sat (hc : CtR ⟨ρ, fun _ => 0, 0, fun _ => none⟩ c0) {V : Value → Prop} : ∀ (T : Ts) (pc : List (E × Bool)) (B : Backs) (ρ' : Env) (G : GS), ρ.le ρ' → Pc0 c0 ρ pc →
    (T.strip c0 pc).sat (fun d => V (d.den ⟨ρ, fun _ => 0, 0, fun _ => none⟩)) ρ → T.satB P (fun ρ G d _ => ∀ β nx, V (d.den ⟨ρ, β, nx, G⟩)) B ρ' G := by
  intro T
  have same : ∀ {c : E} {ρ' : Env}, ρ.le ρ' → c.inCt c0 = true → c.bb ρ' = c.bb ρ := fun {c ρ'} hle h =>
    (inCt_stable hc (k' := ⟨ρ', fun _ => 0, 0, fun _ => none⟩) ⟨hle, Nat.le_refl _, fun _ _ => rfl, fun _ _ h => h⟩ (e := c) h).2.1
  induction T with
  | val d l =>
    intro pc B ρ' G hle _ h
    simp only [Ts.strip] at h
    split at h
    · rename_i hd
      simp only [Ts.satB]
      intro β nx
      rw [den_inCt hc hle β (fun _ => 0) nx 0 G (fun _ => none) d hd]
      exact h
    · exact h.elim
  | bad => intro pc B ρ' G _ _ h; simp [Ts.strip, Sm.sat] at h
  | br c t e iht ihe =>
    intro pc B ρ' G hle hpc h
    simp only [Ts.strip] at h
    split at h
    · rename_i hci
      simp only [Ts.satB]
      simp only [Sm.sat] at h
      have hcons : ∀ b, c.bb ρ = b → Pc0 c0 ρ ((c, b) :: pc) := fun b hb c' b' hm => by
        rcases List.mem_cons.1 hm with hm | hm
        · cases hm; exact ⟨hci, hb⟩
        · exact hpc c' b' hm
      rw [same hle hci]
      exact ⟨fun hb => iht _ B ρ' G hle (hcons _ hb) (h.1 hb), fun hb => ihe _ B ρ' G hle (hcons _ hb) (h.2 hb)⟩
    · exact h.elim
  | ob c t ih =>
    intro pc B ρ' G hle hpc h
    simp only [Ts.strip] at h
    split at h
    · rename_i ho
      simp only [Bool.and_eq_true] at ho
      simp only [Ts.satB]
      refine ⟨?_, ih pc B ρ' G hle hpc h⟩
      rw [same hle ho.1]
      exact obOK_sound hc hpc ho.2
    · exact h.elim
  | any sh c ct t ih =>
    intro pc B ρ' G hle hpc h
    simp only [Ts.strip] at h
    simp only [Ts.satB]
    exact fun x _ _ => ih pc B _ G (hle.trans (Env.le_app ρ' x)) hpc h
  | call => intro pc B ρ' G _ _ h; simp [Ts.strip, Sm.sat] at h
  | load => intro pc B ρ' G _ _ h; simp [Ts.strip, Sm.sat] at h
  | loop => intro pc B ρ' G _ _ h; simp [Ts.strip, Sm.sat] at h
  | back => intro pc B ρ' G _ _ h; simp [Ts.strip, Sm.sat] at h
end
end Go.Sx
/- Trees without what hangs on no answer (II): conditions taken apart. -/
namespace Go.Sx
open Go.RowKit

def Ts.strip2 (c0 : Ctr) (pc : List (E × Bool)) : Ts → Sm
  | .val d _ => if d.inCt c0 then .val d else .bad
  | .br c t e => if c.inCt c0 then .br c (t.strip2 c0 (assume c true pc)) (e.strip2 c0 (assume c false pc)) else .bad
  | .ob c t => if c.inCt c0 && obOK pc c then t.strip2 c0 pc else .bad
  | .any _ _ _ t => t.strip2 c0 pc
  | _ => .bad

section
variable {c0 : Ctr} {ρ : Env} {P : Program}

theorem assume_pc0 : ∀ (c : E) (v : Bool) (pc : List (E × Bool)), Pc0 c0 ρ pc → c.inCt c0 = true → c.bb ρ = v → Pc0 c0 ρ (assume c v pc) := by
  intro c v pc
  have base : ∀ (c : E) (v : Bool) (pc : List (E × Bool)), Pc0 c0 ρ pc → c.inCt c0 = true → c.bb ρ = v → Pc0 c0 ρ ((c, v) :: pc) := fun c v pc h h1 h2 c' b' hm => by
    rcases List.mem_cons.1 hm with hm | hm
    · cases hm; exact ⟨h1, h2⟩
    · exact h c' b' hm
  fun_induction assume c v pc with
  | case1 v pc a ih =>
    intro h h1 h2
    refine ih h (by simpa [E.inCt] using h1) ?_
    simp only [E.bb] at h2
    rw [← h2]; simp
  | case2 pc a b iha ihb =>
    intro h h1 h2
    simp only [E.inCt, Bool.and_eq_true] at h1
    simp only [E.bb, Bool.and_eq_true] at h2
    first
      | exact ihb (iha h h1.2 h2.2) h1.1 h2.1
      | exact iha (ihb h h1.2 h2.2) h1.1 h2.1
  | case3 pc a b iha ihb =>
    intro h h1 h2
    simp only [E.inCt, Bool.and_eq_true] at h1
    simp only [E.bb, Bool.or_eq_false_iff] at h2
    first
      | exact ihb (iha h h1.2 h2.2) h1.1 h2.1
      | exact iha (ihb h h1.2 h2.2) h1.1 h2.1
  | case4 => intro h h1 h2; exact base _ _ _ h h1 h2

theorem strip2_sat (hc : CtR ⟨ρ, fun _ => 0, 0, fun _ => none⟩ c0) {V : Value → Prop} : ∀ (T : Ts) (pc : List (E × Bool)) (B : Backs) (ρ' : Env) (G : GS), ρ.le ρ' → Pc0 c0 ρ pc →
    (T.strip2 c0 pc).sat (fun d => V (d.den ⟨ρ, fun _ => 0, 0, fun _ => none⟩)) ρ → T.satB P (fun ρ G d _ => ∀ β nx, V (d.den ⟨ρ, β, nx, G⟩)) B ρ' G := by
  intro T
  have same : ∀ {c : E} {ρ' : Env}, ρ.le ρ' → c.inCt c0 = true → c.bb ρ' = c.bb ρ := fun {c ρ'} hle h =>
    (inCt_stable hc (k' := ⟨ρ', fun _ => 0, 0, fun _ => none⟩) ⟨hle, Nat.le_refl _, fun _ _ => rfl, fun _ _ h => h⟩ (e := c) h).2.1
  induction T with
  | val d l =>
    intro pc B ρ' G hle _ h
    simp only [Ts.strip2] at h
    split at h
    · rename_i hd
      simp only [Ts.satB]
      intro β nx
      rw [den_inCt hc hle β (fun _ => 0) nx 0 G (fun _ => none) d hd]
      exact h
    · exact h.elim
  | bad => intro pc B ρ' G _ _ h; simp [Ts.strip2, Sm.sat] at h
  | br c t e iht ihe =>
    intro pc B ρ' G hle hpc h
    simp only [Ts.strip2] at h
    split at h
    · rename_i hci
      simp only [Ts.satB]
      simp only [Sm.sat] at h
      rw [same hle hci]
      exact ⟨fun hb => iht _ B ρ' G hle (assume_pc0 c _ pc hpc hci hb) (h.1 hb), fun hb => ihe _ B ρ' G hle (assume_pc0 c _ pc hpc hci hb) (h.2 hb)⟩
    · exact h.elim
  | ob c t ih =>
    intro pc B ρ' G hle hpc h
    simp only [Ts.strip2] at h
    split at h
    · rename_i ho
      simp only [Bool.and_eq_true] at ho
      simp only [Ts.satB]
      refine ⟨?_, ih pc B ρ' G hle hpc h⟩
      rw [same hle ho.1]
      exact obOK_sound hc hpc ho.2
    · exact h.elim
  | any sh c ct t ih =>
    intro pc B ρ' G hle hpc h
    simp only [Ts.strip2] at h
    simp only [Ts.satB]
    exact fun x _ _ => ih pc B _ G (hle.trans (Env.le_app ρ' x)) hpc h
  | call => intro pc B ρ' G _ _ h; simp [Ts.strip2, Sm.sat] at h
  | load => intro pc B ρ' G _ _ h; simp [Ts.strip2, Sm.sat] at h
  | loop => intro pc B ρ' G _ _ h; simp [Ts.strip2, Sm.sat] at h
  | back => intro pc B ρ' G _ _ h; simp [Ts.strip2, Sm.sat] at h
end
end Go.Sx
