/- Drawn regions (V): blocks made early. -/
import Derived.Test.YtcljcgapkojgnaaGreatDoorSd
set_option linter.unusedSimpArgs false
set_option linter.unusedVariables false
namespace Go.Sx
open Go.RowKit

section
variable {C : Cfg} {w0 : Fr} {ro : Option Nat} {k : K} {s : St} {a : Act} {w : World} {Q : Env → GS → Out → St → Prop} {B : Backs} {n m : Nat}

theorem set_comm (l : Array Bool) (i j : Nat) : (l.setIfInBounds i true).setIfInBounds j true = (l.setIfInBounds j true).setIfInBounds i true := by
  by_cases h : i = j
  · subst h; rfl
  · exact Array.setIfInBounds_comm _ _ h

theorem getD_set_ne {l : Array Bool} {i A : Nat} (h : i ≠ A) (d : Bool) : (l.setIfInBounds i true).getD A d = l.getD A d := by
  simp only [Array.getD_eq_getD_getElem?, Array.getElem?_setIfInBounds, if_neg h]

theorem ready_set {ops : Array Oper} {done : Array Bool} {i A : Nat} (h : i ∈ Region.ready .any ops done) (hne : i ≠ A) : i ∈ Region.ready .any ops (done.setIfInBounds A true) := by
  obtain ⟨h1, o, ho, h2⟩ := mem_ready.1 h
  refine mem_ready.2 ⟨by rw [getD_set_ne (fun e => hne e.symm)]; exact h1, o, ho, fun e he hb => ?_⟩
  have := h2 e he hb
  by_cases hA : A = e.on
  · simp only [← hA] at this ⊢
    simp only [Array.getD_eq_getD_getElem?, Array.getElem?_setIfInBounds] at this ⊢
    by_cases hl : A < done.size
    · simp [hl]
    · simp [Array.getElem?_eq_none (Nat.le_of_not_lt hl)] at this
  · simp only [Array.getD_eq_getD_getElem?, Array.getElem?_setIfInBounds] at this ⊢
    simpa [hA] using this

theorem put_ne {a : Act} {d : Option Tmp} {v x : Value} {t : Tmp} (h : d ≠ some t) (hx : a.put (some t) x = a) : (a.put d v).put (some t) x = a.put d v := by
  have := Act.put_comm a (x := some t) (y := d) x v (by rintro e ⟨⟩; exact h)
  rw [hx] at this
  exact this.symm

theorem put_put {a : Act} {v : Value} {t : Tmp} : (a.put (some t) v).put (some t) v = a.put (some t) v := by
  obtain ⟨tm, df⟩ := a
  simp [Act.put]

theorem rd_cons {ops : Array Oper} {rd : List (Nat × Tmp × DV)} {k' : K} {i : Nat} {t : Tmp} {o : Oper} {d : DV} {v : Value} (hst : ∀ r ∈ rd, Stable k r.2.2) (hrd : ∀ r ∈ rd, ∀ o, ops[r.1]? = some o → readOp o.op = true)
    (hle : k.le k') (hdv : d.is k' v) (h2 : ops[i]? = some o) (h3 : readOp o.op = true) :
    (∀ r ∈ (i, t, d) :: rd, Stable k' r.2.2) ∧ (∀ r ∈ (i, t, d) :: rd, ∀ o, ops[r.1]? = some o → readOp o.op = true) ∧ rdOf k' ((i, t, d) :: rd) = (i, t, v) :: rdOf k rd := by
  have hv := hdv.here
  refine ⟨fun r hr => ?_, fun r hr o' ho' => ?_, ?_⟩
  · rcases List.mem_cons.1 hr with rfl | hr
    · show Stable k' d
      unfold Stable; rw [hv]; exact hdv
    · exact ((hst r hr).mono hle).1
  · rcases List.mem_cons.1 hr with rfl | hr
    · rw [h2] at ho'; cases ho'; exact h3
    · exact hrd r hr o' ho'
  · have := rdOf_mono hst hle
    simp only [rdOf] at this
    simp only [rdOf, List.map_cons, hv, this]

theorem rd_filter {ops : Array Oper} {rd : List (Nat × Tmp × DV)} {j : Nat} (hrd : ∀ r ∈ rd, ∀ o, ops[r.1]? = some o → readOp o.op = true) :
    ∀ r ∈ rd.filter (fun r => !forced .any ops j r.1), ∀ o, ops[r.1]? = some o → readOp o.op = true := fun r hr => hrd r (List.mem_filter.1 hr).1

theorem rd_filterE {ops : Array Oper} {rd : List (Nat × Tmp × DV)} {k2 : K} {j : Nat} (hst : ∀ r ∈ rd, Stable k r.2.2) (hle : k.le k2) :
    rdOf k2 (rd.filter fun r => !forced .any ops j r.1) = (rdOf k rd).filter fun r => !forced .any ops j r.1 := by
  rw [rdOf_filter, rdOf_mono hst hle]

theorem StR.fork (hs : StR w0 C.gl ro k s a w) (c : Bool) : StR w0 C.gl ro (k.app { b := [c] } k.G) (forkS s) a w := by
  have hle : k.le (k.app { b := [c] } k.G) := K.le_app k _ (fun _ _ h => h)
  have hfit : Fits { b := [c] } s.ct (Sh.bool.fresh s.ct).2 := ⟨rfl, rfl, rfl, rfl, by simp⟩
  have hlate : HeapR w0 (k.app { b := [c] } k.G) s.heap w := by
    refine hs.heap.later (fun _ _ h => h) (fun b o hb => (hs.heap.g b o hb).1) (fun b o hb => .inl hb) ?_
    exact ⟨rfl, rfl, rfl, Nat.le_refl _, fun _ _ => rfl⟩
  exact ⟨hs.nx, hfit.ctR hs.ct k.G, hs.pc.mono hle, hs.env.mono hle, hlate, hs.gl.mono hle, hs.marks, hs.marksLt, hs.rnd, hs.rndLt, hs.memo.mono hle⟩

/-! ### Blocks made early, as a list -/
structure Fl where
  A : Nat
  t : Tmp
  b : Nat
  ob : Obj
  v : Value

def Fr.withs (w0 : Fr) : List Fl → Fr
  | [] => w0
  | e :: l => (w0.withs l).with e.b e.ob

def setAll (l : List Fl) (done : Array Bool) : Array Bool := l.foldl (fun d e => d.setIfInBounds e.A true) done

theorem setAll_set (i : Nat) : ∀ (l : List Fl) (done : Array Bool), setAll l (done.setIfInBounds i true) = (setAll l done).setIfInBounds i true
  | [], _ => rfl
  | e :: l, done => by
    show setAll l ((done.setIfInBounds i true).setIfInBounds e.A true) = (setAll l (done.setIfInBounds e.A true)).setIfInBounds i true
    rw [set_comm, setAll_set i l]

theorem setAll_perm {l l' : List Fl} (h : l.Perm l') : ∀ done, setAll l done = setAll l' done := by
  induction h with
  | nil => intro d; rfl
  | cons e _ ih => intro d; exact ih _
  | swap e f l => intro d; simp only [setAll, List.foldl_cons]; rw [set_comm]
  | trans _ _ h1 h2 => intro d; rw [h1, h2]

theorem with_comm (w0 : Fr) {b c : Nat} (h : b ≠ c) (x y : Obj) : (w0.with b x).with c y = (w0.with c y).with b x := by
  unfold Fr.with
  simp only [Fr.mk.injEq, true_and]
  first
    | (funext d
       by_cases h1 : d = b
       · subst h1; simp [h]
       · by_cases h2 : d = c
         · subst h2; simp [h1]
         · simp [h1, h2])

theorem withs_perm {l l' : List Fl} (h : l.Perm l') : (l.map (·.b)).Nodup → w0.withs l = w0.withs l' := by
  induction h with
  | nil => intro _; rfl
  | cons e _ ih =>
    intro hn
    simp only [List.map_cons, List.nodup_cons] at hn
    simp only [Fr.withs, ih hn.2]
  | swap e f l =>
    intro hn
    simp only [List.map_cons, List.nodup_cons, List.mem_cons, not_or] at hn
    exact with_comm _ (fun h => hn.1.1 h.symm) _ _
  | trans h1 _ i1 i2 =>
    intro hn
    rw [i1 hn, i2 ((h1.map _).nodup_iff.1 hn)]

theorem withs_heap (l : List Fl) : (w0.withs l).heap = w0.heap := by
  induction l with
  | nil => rfl
  | cons e l ih => simpa [Fr.withs, Fr.with] using ih

theorem withs_ex {e : Fl} : ∀ {l : List Fl}, e ∈ l → (l.map (·.b)).Nodup → (w0.withs l).ex e.b = some e.ob
  | [], h, _ => by cases h
  | f :: l, h, hn => by
    simp only [List.map_cons, List.nodup_cons] at hn
    simp only [Fr.withs, Fr.with]
    rcases List.mem_cons.1 h with rfl | h
    · simp
    · rw [if_neg (fun he => hn.1 (by rw [← he]; exact List.mem_map_of_mem h))]
      exact withs_ex h hn.2
theorem withs_same {c : Nat} : ∀ {l : List Fl}, (∀ e ∈ l, e.b ≠ c) → (w0.withs l).ex c = w0.ex c
  | [], _ => rfl
  | f :: l, hl => by
    simp only [Fr.withs, Fr.with]
    rw [if_neg (fun he => hl f (by simp) he.symm)]
    exact withs_same (fun e he => hl e (by simp [he]))
theorem withs_none {c : Nat} : ∀ {l : List Fl}, (∀ e ∈ l, e.b ≠ c) → w0.ex c = none → (w0.withs l).ex c = none
  | [], _, h => h
  | f :: l, hl, h => by
    simp only [Fr.withs, Fr.with]
    rw [if_neg (fun he => hl f (by simp) he.symm)]
    exact withs_none (fun e he => hl e (by simp [he])) h

/-! ### What holds of them -/
theorem floatT_spec {ops : Array Oper} {A : Nat} {t : Tmp} (h : floatT ops A = some t) : ∃ o, ops[A]? = some o ∧ o.dst = some t ∧ o.guard = none ∧ isMake o.op = true ∧ t ∉ o.looksAt ops ∧
    ∀ j o', ops[j]? = some o' → j ≠ A → ∀ u, o'.dst = some u → u ≠ t ∧ (u ∈ o.looksAt ops → forced .any ops A j = true) := by
  unfold floatT at h
  split at h
  · rename_i o ho
    split at h
    · rename_i t' h2 h3
      split at h
      · rename_i hc
        simp only [Option.some.injEq] at h
        subst h
        simp only [Bool.and_eq_true, Bool.not_eq_true', List.contains_eq_mem, decide_eq_false_iff_not, List.all_eq_true, List.mem_range, Bool.or_eq_true, beq_iff_eq] at hc
        obtain ⟨⟨c1, c2⟩, c3⟩ := hc
        refine ⟨o, ho, h2, h3, c1, c2, fun j o' hj hne u hu => ?_⟩
        rcases c3 j (Array.getElem?_eq_some_iff.1 hj).1 with e | e
        · exact absurd e hne
        · simp only [hj, Option.bind_some, hu, Bool.and_eq_true, bne_iff_ne, ne_eq, Bool.or_eq_true, Bool.not_eq_true', decide_eq_false_iff_not] at e
          refine ⟨e.1, fun hm => ?_⟩
          rcases e.2 with e | e
          · exact absurd hm e
          · exact e
      · cases h
    · cases h
  · cases h

theorem getD_clash {l : Array Bool} {i : Nat} (h : l.getD i true = false) : l.getD i false = false := by
  simp only [Array.getD_eq_getD_getElem?] at *
  cases hl : l[i]? with
  | none => rw [hl] at h; cases h
  | some b => rw [hl] at h; exact h
theorem getD_lt {l : Array Bool} {i : Nat} (h : l.getD i false = true) : i < l.size := by
  rcases Nat.lt_or_ge i l.size with h1 | h1
  · exact h1
  · simp [Array.getD_eq_getD_getElem?, Array.getElem?_eq_none h1] at h
theorem getD_keep {l : Array Bool} {i x : Nat} (h : l.getD x false = true) : (l.setIfInBounds i true).getD x false = true := by
  have := getD_lt h
  simp only [Array.getD_eq_getD_getElem?, Array.getElem?_setIfInBounds] at *
  by_cases hi : i = x
  · subst hi; simp [this]
  · simpa [hi] using h
theorem getD_same {l : Array Bool} {i : Nat} (h : i < l.size) : (l.setIfInBounds i true).getD i false = true := by
  simp [Array.getD_eq_getD_getElem?, h]

structure FlOK (P : Program) (ops : Array Oper) (done : Array Bool) (a : Act) (e : Fl) : Prop where
  t : floatT ops e.A = some e.t
  nd : done.getD e.A true = false
  deps : ∀ o, ops[e.A]? = some o → ∀ ed ∈ o.after, Region.binds .any ed = true → done.getD ed.on false = true
  put : a.put (some e.t) e.v = a
  makes : ∃ o T vs mk, ops[e.A]? = some o ∧ e.ob = .cells vs.toArray T ∧ Makes P a.eval o T vs mk ∧ e.v = mk ⟨e.b, 0, none⟩

theorem FlOK.ready {P : Program} {ops : Array Oper} {done : Array Bool} {e : Fl} (h : FlOK P ops done a e) : e.A ∈ Region.ready .any ops done := by
  obtain ⟨o, _, _, _, ho, _⟩ := h.makes
  exact mem_ready.2 ⟨h.nd, o, ho, fun ed he hb => h.deps o ho ed he hb⟩

theorem FlOK.notForced {P : Program} {ops : Array Oper} {done : Array Bool} {e : Fl} (h : FlOK P ops done a e) {i : Nat} (hi : done.getD i true = false) : forced .any ops e.A i = false := by
  obtain ⟨o, _, _, _, ho, _⟩ := h.makes
  unfold forced
  rw [ho]
  simp only
  rw [Array.any_eq_false']
  intro ed he hc
  simp only [Bool.and_eq_true, beq_iff_eq] at hc
  have := h.deps o ho ed he hc.1
  rw [hc.2, getD_clash hi] at this
  cases this

theorem FlOK.putting {P : Program} {ops : Array Oper} {done : Array Bool} {e : Fl} (h : FlOK P ops done a e) {i : Nat} {oi : Oper} (ho : ops[i]? = some oi) (hi : done.getD i true = false) (hne : i ≠ e.A) (v : Value) : FlOK P ops done (a.put oi.dst v) e := by
  obtain ⟨o, T, vs, mk, ho1, hob, hmk, hv⟩ := h.makes
  obtain ⟨o2, ho2, _, _, hm, _, hoth⟩ := floatT_spec h.t
  rw [ho1] at ho2; cases ho2
  refine ⟨h.t, h.nd, h.deps, put_ne (fun hd => (hoth i oi ho hne _ hd).1 rfl) h.put, o, T, vs, mk, ho1, hob, fun w => ?_, hv⟩
  have hsel : ∀ cs b, o.op ≠ .select cs b := fun cs b e => by rw [e] at hm; simp [isMake] at hm
  rw [execOp_put (ops := ops) o hsel a oi.dst v (fun d hd hl => by
    have := (hoth i oi ho hne d hd).2 hl
    rw [h.notForced hi] at this; cases this)]
  exact hmk w

theorem FlOK.doing {P : Program} {ops : Array Oper} {done : Array Bool} {e : Fl} (h : FlOK P ops done a e) {i : Nat} (hne : i ≠ e.A) : FlOK P ops (done.setIfInBounds i true) a e :=
  ⟨h.t, by rw [getD_set_ne hne]; exact h.nd, fun o ho ed he hb => getD_keep (h.deps o ho ed he hb), h.put, h.makes⟩

theorem makes_uniq {P : Program} {ev : Operand → Value} {o : Oper} {T T' : TypeId} {vs vs' : List Value} {mk mk' : Addr → Value} (w : World) (h : Makes P ev o T vs mk) (h' : Makes P ev o T' vs' mk') (b : Nat) :
    mk ⟨b, 0, none⟩ = mk' ⟨b, 0, none⟩ ∧ T = T' ∧ vs = vs' := by
  have h1 := h { w with heap := Array.replicate b (.cells #[] 0 (0, 0)) }
  have h2 := h' { w with heap := Array.replicate b (.cells #[] 0 (0, 0)) }
  rw [h1] at h2
  simp only [Array.size_replicate, Result.ok.injEq, Next.value.injEq, World.mk.injEq] at h2
  obtain ⟨e1, e2⟩ := h2
  have e3 := e2.1
  have := congrArg (fun (x : Array Obj) => x.back?) e3
  simp at this
  exact ⟨e1, this.2, this.1⟩

theorem Can.le {md : Region.Mode} {P : Program} {ops : Array Oper} {Q : Exit → Act → World → Prop} {done : Array Bool} {rd : List Rd} {f g : Nat} (h : f ≤ g) (hc : Can ro m P md ops Q f done rd a w) : Can ro m P md ops Q g done rd a w := by
  induction g with
  | zero => have : f = 0 := by omega
            subst this; exact hc
  | succ g ih =>
    by_cases he : f = g + 1
    · subst he; exact hc
    · exact (ih (by omega)).lift

theorem countP_less {p q : Nat → Bool} {A : Nat} : ∀ {l : List Nat}, (∀ x ∈ l, q x = true → p x = true) → A ∈ l → p A = true → q A = false → l.countP q < l.countP p
  | [], _, h, _, _ => by cases h
  | x :: l, h, hA, hp, hq => by
    have hle : l.countP q ≤ l.countP p := List.countP_mono_left fun y hy => h y (by simp [hy])
    by_cases hx : x = A
    · subst hx
      rw [List.countP_cons_of_neg (by simp [hq]), List.countP_cons_of_pos hp]
      omega
    · have hA' : A ∈ l := by
        rcases List.mem_cons.1 hA with e | e
        · exact absurd e.symm hx
        · exact e
      have := countP_less (l := l) (fun y hy => h y (by simp [hy])) hA' hp hq
      have h1 := h x (by simp)
      simp only [List.countP_cons]
      by_cases hqx : q x = true
      · simp [hqx, h1 hqx]; omega
      · simp [hqx]; omega

/-- How many are not made early. -/
def cntF (ops : Array Oper) (fl : List Fl) : Nat := (List.range ops.size).countP fun i => !(fl.any fun e => e.A == i)
theorem cntF_le (ops : Array Oper) (fl : List Fl) : cntF ops fl ≤ ops.size := by
  have := List.countP_le_length (l := List.range ops.size) (p := fun i => !(fl.any fun e => e.A == i))
  simpa [cntF] using this
theorem cntF_cons {ops : Array Oper} {fl : List Fl} {e : Fl} (h : e.A < ops.size) (hn : ∀ f ∈ fl, f.A ≠ e.A) : cntF ops (e :: fl) < cntF ops fl := by
  refine countP_less (A := e.A) (fun x _ hx => ?_) (List.mem_range.2 h) ?_ ?_
  · simp only [List.any_cons, Bool.not_or, Bool.and_eq_true] at hx
    exact hx.2
  · simp only [Bool.not_eq_true', List.any_eq_false, beq_iff_eq]
    exact fun f hf => hn f hf
  · simp

def fuelF (n : Nat) (ops : Array Oper) (fl : List Fl) : Nat := n * (ops.size + 2) + cntF ops fl + 1
theorem fuelF_next {n : Nat} {ops : Array Oper} {fl fl' : List Fl} : fuelF n ops fl + 1 ≤ fuelF (n + 1) ops fl' := by
  have := cntF_le ops fl
  simp only [fuelF, Nat.succ_mul]
  omega

/-- The readers that no block made early asks for. -/
def flt (ops : Array Oper) (fl : List Fl) (l : List Rd) : List Rd := l.filter fun r => fl.all fun e => !forced .any ops e.A r.1
theorem flt_comm {ops : Array Oper} {fl : List Fl} {l : List Rd} {p : Rd → Bool} : flt ops fl (l.filter p) = (flt ops fl l).filter p := by
  simp only [flt, List.filter_filter]
  congr 1
  funext r
  exact Bool.and_comm _ _
theorem flt_cons {ops : Array Oper} {fl : List Fl} {e : Fl} {l : List Rd} : flt ops (e :: fl) l = (flt ops fl l).filter fun r => !forced .any ops e.A r.1 := by
  simp only [flt, List.filter_filter, List.all_cons]
theorem flt_perm {ops : Array Oper} {fl fl' : List Fl} (h : fl.Perm fl') (l : List Rd) : flt ops fl l = flt ops fl' l := by
  simp only [flt]
  congr 1
  funext r
  exact h.all_eq

def DrawE (C : Cfg) (w0 : Fr) (n : Nat) : Prop := ∀ ops done rd s k a w Q B ro m (fl : List Fl), StR (w0.withs fl) C.gl ro k s a w → (∀ e ∈ fl, FlOK C.P ops done a e) → (fl.map (·.A)).Nodup → (fl.map (·.b)).Nodup →
  (∀ e ∈ fl, w0.ex e.b = none ∧ w0.heap.size ≤ e.b) → (∀ r ∈ rd, Stable k r.2.2) → (∀ r ∈ rd, ∀ o, ops[r.1]? = some o → readOp o.op = true) →
  (ev C n (.draw ops done rd) s).sat C.P Q B k.ρ k.G → Can ro m C.P .any ops (CodePost w0 C.gl ro Q k) (fuelF n ops fl) (setAll fl done) (flt ops fl (rdOf k rd)) a w

section
variable {ops : Array Oper} {done : Array Bool} {rd : List (Nat × Tmp × DV)} {fl : List Fl}

theorem eff_step (hC : CfgOK C) (hcall : CallOKn C (w0.withs fl) n) (hd : DrawE C w0 n) (hs : StR (w0.withs fl) C.gl ro k s a w) (hfl : ∀ e ∈ fl, FlOK C.P ops done a e) (hnA : (fl.map (·.A)).Nodup) (hnb : (fl.map (·.b)).Nodup)
    (hx : ∀ e ∈ fl, w0.ex e.b = none ∧ w0.heap.size ≤ e.b) (hst : ∀ r ∈ rd, Stable k r.2.2) (hrd : ∀ r ∈ rd, ∀ o, ops[r.1]? = some o → readOp o.op = true) {j : Nat} (hj : done.getD j true = false) (hjA : ∀ e ∈ fl, j ≠ e.A)
    (h : (effTr C n ops rd (nextTr C n ops done rd) j s).sat C.P Q B k.ρ k.G) :
    (∀ o, ops[j]? = some o → (∀ c, o.op ≠ .defer c) ∧ ∀ cs b, o.op ≠ .select cs b) ∧
      wpOpIn (WF ro) m C.P ops (CodePost w0 C.gl ro Q k) j (fun a' w' => (∀ r ∈ flt ops fl (rdOf k rd), forced .any ops j r.1 = false → Yl C.P ops r.1 r.2.2 a' w') ∧
        Can ro m C.P .any ops (CodePost w0 C.gl ro Q k) (fuelF n ops fl) ((setAll fl done).setIfInBounds j true) ((flt ops fl (rdOf k rd)).filter fun r => !forced .any ops j r.1) a' w') a w := by
  have := eff_sound (m := m) (Q' := CodePost w0 C.gl ro Q k) hC hcall hs hst hrd h
    (R := fun a' w' => Can ro m C.P .any ops (CodePost w0 C.gl ro Q k) (fuelF n ops fl) ((setAll fl done).setIfInBounds j true) ((flt ops fl (rdOf k rd)).filter fun r => !forced .any ops j r.1) a' w') ?_
  · exact ⟨this.1, wpOpIn_mono (fun a w x => ⟨fun r hr => x.1 r (List.mem_filter.1 hr).1, x.2⟩) this.2⟩
  · intro o v k2 s2 w2 ho hle2 hs2 hst2 hq2
    have hc := hd _ _ _ _ _ _ _ _ _ _ m fl hs2 (fun e he => ((hfl e he).putting ho hj (hjA e he) v).doing (hjA e he)) hnA hnb hx hst2 (rd_filter hrd) hq2
    rw [rd_filterE hst hle2, setAll_set, flt_comm] at hc
    exact hc.mono (fun _ _ _ g => CodePost.mono hle2 g) _

theorem opTr_make {o : Oper} (h : isMake o.op = true) (s : St) : opTr C n o s = opD C.P C.gl s o ∧ noDraw o.op = false := by
  unfold opTr noDraw
  constructor
  · split
    · rename_i hop; rw [hop] at h; simp [isMake] at h
    · rfl
  · split
    · rename_i hop; rw [hop] at h; simp [isMake] at h
    · rename_i hop; rw [hop] at h; simp [isMake] at h
    · rfl

theorem adopt_step (hC : CfgOK C) (hd : DrawE C w0 n) (hs : StR (w0.withs fl) C.gl ro k s a w) (hfl : ∀ e ∈ fl, FlOK C.P ops done a e) (hnA : (fl.map (·.A)).Nodup) (hnb : (fl.map (·.b)).Nodup)
    (hx : ∀ e ∈ fl, w0.ex e.b = none ∧ w0.heap.size ≤ e.b) (hst : ∀ r ∈ rd, Stable k r.2.2) (hrd : ∀ r ∈ rd, ∀ o, ops[r.1]? = some o → readOp o.op = true) {e : Fl} (he : e ∈ fl)
    (h : (effTr C n ops rd (nextTr C n ops done rd) e.A s).sat C.P Q B k.ρ k.G) :
    ∃ fl', Can ro m C.P .any ops (CodePost w0 C.gl ro Q k) (fuelF n ops fl') (setAll fl done) (flt ops fl (rdOf k rd)) a w := by
  obtain ⟨l1, l2, hl⟩ := List.append_of_mem he
  have hp : fl.Perm (e :: (l1 ++ l2)) := by rw [hl]; exact List.perm_middle
  generalize hfl' : l1 ++ l2 = fl' at hp
  have hsub : ∀ f ∈ fl', f ∈ fl := fun f hf => hp.mem_iff.2 (List.mem_cons_of_mem _ hf)
  have hnA' : ((e :: fl').map (·.A)).Nodup := (hp.map _).nodup_iff.1 hnA
  have hnb' : ((e :: fl').map (·.b)).Nodup := (hp.map _).nodup_iff.1 hnb
  simp only [List.map_cons, List.nodup_cons, List.mem_map, not_exists, not_and] at hnA' hnb'
  obtain ⟨o, T, vs, mk, ho, hob, hmk, hev⟩ := (hfl e he).makes
  obtain ⟨o2, ho2, hdst, hg, hmake, _, _⟩ := floatT_spec (hfl e he).t
  rw [ho] at ho2; cases ho2
  obtain ⟨hop, hnd⟩ := opTr_make (C := C) (n := n) hmake s
  unfold effTr at h
  rw [ho] at h
  simp only [hnd, Bool.false_eq_true, if_false, guardTr, hg, hop] at h
  rw [Tr.sat_bind] at h
  obtain ⟨T', cs, vs', mk', mkd, htr, hmk', hcs, hone, hmkd⟩ := hC.make _ _ _ _ _ _ _ _ _ hs hmake h
  obtain ⟨em, rfl, rfl⟩ := makes_uniq w hmk hmk' e.b
  rw [htr] at h
  simp only [Tr.sat, retv, hdst] at h
  rw [Tr.sat_bind] at h
  rw [withs_perm hp hnb] at hs
  have hs : StR ((w0.withs fl').with e.b (.cells vs.toArray T)) C.gl ro k s a w := by rw [← hob]; exact hs
  have hex : (w0.withs fl').ex e.b = none := withs_none (fun f hf hfb => hnb'.1 f hf hfb) (hx e he).1
  have had := hs.adopt hex (by rw [withs_heap]; exact (hx e he).2) hcs hone
  have hle := K.le_grow k e.b
  have hptr : (mkd ⟨.id s.nx, .lit 0⟩).is (k.grow e.b) e.v := by
    rw [hev, em, ← hs.nx]
    exact hmkd _ _ _ (is_new k _)
  have hput := had.put hptr (some e.t)
  rw [(hfl e he).put] at hput
  obtain ⟨k2, s2, hle2, hs2, _, hq2⟩ := recheck_sound (k := k.grow e.b) hC hput (fun r hr => ((hst r (List.mem_filter.1 hr).1).mono hle).1) (rd_filter hrd) h
  simp only at hq2
  have hc := hd _ _ _ _ _ _ _ _ _ _ m fl' hs2 (fun f hf => (hfl f (hsub f hf)).doing (fun hA => hnA'.1 f hf hA.symm)) hnA'.2 hnb'.2 (fun f hf => hx f (hsub f hf))
    (fun r hr => ((hst r (List.mem_filter.1 hr).1).mono (hle.trans hle2)).1) (rd_filter hrd) hq2
  refine ⟨fl', ?_⟩
  rw [setAll_perm hp, flt_perm hp, flt_cons]
  rw [rd_filterE hst (hle.trans hle2), flt_comm] at hc
  exact hc.mono (fun _ _ _ g => CodePost.mono (hle.trans hle2) g) _
theorem setDone_keep {x : Nat} : ∀ {l : List Nat} {done : Array Bool}, done.getD x false = true → (setDone l done).getD x false = true
  | [], _, h => h
  | i :: l, done, h => setDone_keep (l := l) (getD_keep h)
theorem setDone_size : ∀ {l : List Nat} {done : Array Bool}, (setDone l done).size = done.size
  | [], _ => rfl
  | i :: l, done => by
    have := setDone_size (l := l) (done := done.setIfInBounds i true)
    simpa [setDone] using this
theorem setDone_in {x : Nat} : ∀ {l : List Nat} {done : Array Bool}, x ∈ l → x < done.size → (setDone l done).getD x false = true
  | [], _, h, _ => by cases h
  | i :: l, done, h, hs => by
    rcases List.mem_cons.1 h with rfl | h
    · exact setDone_keep (l := l) (getD_same hs)
    · exact setDone_in (l := l) (done := done.setIfInBounds i true) h (by simpa using hs)
theorem setDone_out {x : Nat} : ∀ {l : List Nat} {done : Array Bool}, x ∉ l → done.getD x true = false → (setDone l done).getD x true = false
  | [], _, _, h => h
  | i :: l, done, hx, h => by
    simp only [List.mem_cons, not_or] at hx
    exact setDone_out (l := l) hx.2 (by rw [getD_set_ne (fun e => hx.1 e.symm)]; exact h)
theorem setAll_inv {x : Nat} : ∀ {fl : List Fl} {done : Array Bool}, (setAll fl done).getD x false = true → done.getD x false = true ∨ ∃ e ∈ fl, e.A = x ∧ x < done.size
  | [], _, h => .inl h
  | e :: fl, done, h => by
    rcases setAll_inv (fl := fl) h with h | ⟨f, hf, h1, h2⟩
    · by_cases he : e.A = x
      · refine .inr ⟨e, by simp, he, ?_⟩
        have := getD_lt h
        simpa using this
      · left
        simp only [Array.getD_eq_getD_getElem?, Array.getElem?_setIfInBounds, if_neg he] at h ⊢
        exact h
    · exact .inr ⟨f, by simp [hf], h1, by simpa using h2⟩
theorem setAll_out {x : Nat} : ∀ {fl : List Fl} {done : Array Bool}, (∀ e ∈ fl, x ≠ e.A) → done.getD x true = false → (setAll fl done).getD x true = false
  | [], _, _, h => h
  | e :: fl, done, hx, h => setAll_out (fl := fl) (fun f hf => hx f (by simp [hf])) (by rw [getD_set_ne (fun he => hx e (by simp) he.symm)]; exact h)
theorem setAll_false {x : Nat} : ∀ {fl : List Fl} {done : Array Bool}, (setAll fl done).getD x true = false → done.getD x true = false ∧ ∀ e ∈ fl, x ≠ e.A
  | [], _, h => ⟨h, by simp⟩
  | e :: fl, done, h => by
    obtain ⟨h1, h2⟩ := setAll_false (fl := fl) h
    have hne : e.A ≠ x := fun he => by
      subst he
      have hlt : e.A < done.size := by
        rcases Nat.lt_or_ge e.A done.size with h' | h'
        · exact h'
        · simp [Array.getD_eq_getD_getElem?, Array.getElem?_setIfInBounds, Array.getElem?_eq_none h', Nat.not_lt.2 h'] at h1
      simp [Array.getD_eq_getD_getElem?, hlt] at h1
    rw [getD_set_ne hne] at h1
    refine ⟨h1, fun f hf => ?_⟩
    rcases List.mem_cons.1 hf with rfl | hf
    · exact fun e => hne e.symm
    · exact h2 f hf
theorem setAll_keep {x : Nat} : ∀ {fl : List Fl} {done : Array Bool}, done.getD x false = true → (setAll fl done).getD x false = true
  | [], _, h => h
  | e :: fl, done, h => setAll_keep (fl := fl) (getD_keep h)

theorem ready_setAll {i : Nat} (h : i ∈ Region.ready .any ops done) (hne : ∀ e ∈ fl, i ≠ e.A) : i ∈ Region.ready .any ops (setAll fl done) := by
  obtain ⟨h1, o, ho, h2⟩ := mem_ready.1 h
  exact mem_ready.2 ⟨setAll_out hne h1, o, ho, fun e he hb => setAll_keep (h2 e he hb)⟩

/-- What is ready when some blocks were made early, and was not before, is ready when all are. -/
theorem ready_sup {others : List Nat} {i : Nat} (h : i ∈ Region.ready .any ops (setAll fl done)) (hin : ∀ e ∈ fl, e.A ∈ others) (hi : i ∉ others) : i ∈ Region.ready .any ops (setDone others done) := by
  obtain ⟨h1, o, ho, h2⟩ := mem_ready.1 h
  refine mem_ready.2 ⟨setDone_out hi (setAll_false h1).1, o, ho, fun e he hb => ?_⟩
  rcases setAll_inv (h2 e he hb) with hd | ⟨f, hf, h3, h4⟩
  · exact setDone_keep hd
  · exact setDone_in (h3 ▸ hin f hf) h4

theorem pickM_spec {P : Program} {gl : Glob} {r : List Nat} {ts : List Tmp} {j : Nat} : ∀ {l : List Nat}, pickM P gl s ops done r l = some (ts, j) → j ∈ l ∧ pickM1 P gl s ops done r j = some ts
  | [], h => by simp [pickM] at h
  | x :: l, h => by
    simp only [pickM] at h
    split at h
    · rename_i ts' h1
      simp only [Option.some.injEq, Prod.mk.injEq] at h
      obtain ⟨rfl, rfl⟩ := h
      exact ⟨by simp, h1⟩
    · obtain ⟨h1, h2⟩ := pickM_spec h
      exact ⟨by simp [h1], h2⟩

theorem pickM1_spec {P : Program} {gl : Glob} {r : List Nat} {ts : List Tmp} {j : Nat} (h : pickM1 P gl s ops done r j = some ts) :
    (∀ i ∈ r, i ≠ j → ∃ t, floatT ops i = some t ∧ t ∈ ts ∧ floatNow P gl s ops i = true) ∧ Region.ready .any ops (setDone (r.filter (· != j)) done) = [j] := by
  unfold pickM1 at h
  simp only at h
  split at h
  · rename_i hc
    simp only [Option.some.injEq] at h
    simp only [Bool.and_eq_true, List.all_eq_true, beq_iff_eq] at hc
    refine ⟨fun i hi hne => ?_, hc.2⟩
    have hm : i ∈ r.filter (· != j) := List.mem_filter.2 ⟨hi, by simpa using hne⟩
    obtain ⟨h1, h2⟩ := hc.1 i hm
    obtain ⟨t, ht⟩ := Option.isSome_iff_exists.1 h1
    exact ⟨t, ht, by rw [← h]; exact List.mem_filterMap.2 ⟨i, hm, ht⟩, h2⟩
  · cases h

theorem StR.drops : ∀ (ts : List Tmp) {s : St}, StR w0 C.gl ro k s a w → StR w0 C.gl ro k (s.drops ts) a w
  | [], _, hs => hs
  | t :: ts, _, hs => StR.drops ts (hs.drop t)

theorem drops_env {t u : Tmp} : ∀ {ts : List Tmp} {s : St}, look u (s.drops ts).env = if u ∈ ts then none else look u s.env
  | [], s => by simp [St.drops]
  | t :: ts, s => by
    have := drops_env (u := u) (t := t) (ts := ts) (s := s.drop t)
    show look u ((s.drop t).drops ts).env = _
    rw [this]
    by_cases h : u ∈ ts
    · simp [h]
    · simp only [h, if_false, St.drop, look_filter, List.mem_cons, or_false]

/-- The act with a value in a temporary that the state tells nothing of. -/
theorem StR.putD {t : Tmp} {ts : List Tmp} (hs : StR w0 C.gl ro k (s.drops ts) a w) (ht : t ∈ ts) (v : Value) : StR w0 C.gl ro k (s.drops ts) (a.put (some t) v) w := by
  refine ⟨hs.nx, hs.ct, hs.pc, ⟨by simpa [Act.put] using hs.env.size, fun u d hl hu => ?_⟩, hs.heap, hs.gl, hs.marks, hs.marksLt, hs.rnd, hs.rndLt, hs.memo⟩
  have hne : u ≠ t := by
    intro e
    rw [drops_env (t := t), if_pos (e ▸ ht)] at hl
    cases hl
  have := hs.env.get u d hl hu
  simp only [Act.put, Array.getD_eq_getD_getElem?, Array.getElem?_setIfInBounds] at this ⊢
  rw [if_neg (fun e : t = u => hne e.symm)]
  exact this

/-- One operation is carried out, while others that make blocks may be early. -/
theorem pick_step (hC : CfgOK C) (hcall : ∀ w0, CallOKn C w0 n) (hd : DrawE C w0 n) {j : Nat} {ts : List Tmp} {r : List Nat} (hr : Region.ready .any ops done = r) (hjr : j ∈ r)
    (hoth : ∀ i ∈ r, i ≠ j → ∃ t, floatT ops i = some t ∧ t ∈ ts) (hsup : Region.ready .any ops (setDone (r.filter (· != j)) done) = [j])
    (hst : ∀ r ∈ rd, Stable k r.2.2) (hrd : ∀ r ∈ rd, ∀ o, ops[r.1]? = some o → readOp o.op = true)
    (h : ((recheck C.P C.gl ops rd (s.drops ts)).bind fun out s1 => match out with | .norm => effTr C n ops rd (nextTr C n ops done rd) j s1 | _ => .fail "draw" : Tr).sat C.P Q B k.ρ k.G) :
    ∀ (c : Nat) (fl : List Fl) (a : Act) (w : World), cntF ops fl = c → StR (w0.withs fl) C.gl ro k (s.drops ts) a w → (∀ e ∈ fl, FlOK C.P ops done a e) → (fl.map (·.A)).Nodup → (fl.map (·.b)).Nodup →
      (∀ e ∈ fl, w0.ex e.b = none ∧ w0.heap.size ≤ e.b) → (∀ i ∈ r, i ≠ j → (∀ e ∈ fl, i ≠ e.A) → ∃ o T vs mk, ops[i]? = some o ∧ Makes C.P a.eval o T vs mk) →
      Can ro m C.P .any ops (CodePost w0 C.gl ro Q k) (fuelF (n + 1) ops fl) (setAll fl done) (flt ops fl (rdOf k rd)) a w := by
  intro c
  induction c using Nat.strongRecOn with
  | _ c ih =>
  intro fl a w hcnt hs hfl hnA hnb hx hmk
  have h0 := h
  rw [Tr.sat_bind] at h
  obtain ⟨k1, s1, hle1, hs1, hy1, hq1⟩ := recheck_sound hC hs hst hrd h
  simp only at hq1
  have hst1 : ∀ r ∈ rd, Stable k1 r.2.2 := fun r hr => ((hst r hr).mono hle1).1
  have hrd1 : rdOf k1 rd = rdOf k rd := rdOf_mono hst hle1
  by_cases hj : ∃ e ∈ fl, e.A = j
  · obtain ⟨e, he, rfl⟩ := hj
    obtain ⟨fl', hc⟩ := adopt_step (m := m) hC hd hs1 hfl hnA hnb hx hst1 hrd he hq1
    rw [hrd1] at hc
    exact (hc.mono (fun _ _ _ g => CodePost.mono hle1 g) _).le (by have := fuelF_next (n := n) (ops := ops) (fl := fl') (fl' := fl); omega)
  · have hjA : ∀ e ∈ fl, j ≠ e.A := fun e he hje => hj ⟨e, he, hje.symm⟩
    have hjd : j ∈ Region.ready .any ops done := by rw [hr]; exact hjr
    have hfl_in : ∀ e ∈ fl, e.A ∈ r.filter (· != j) := fun e he => List.mem_filter.2 ⟨by rw [← hr]; exact (hfl e he).ready, by simpa using fun e' => hjA e he e'.symm⟩
    have hfu : ∃ f, fuelF (n + 1) ops fl = f + 1 := ⟨_, rfl⟩
    obtain ⟨f, hf⟩ := hfu
    rw [hf]
    refine .inr (.inr ⟨⟨j, ready_setAll hjd hjA⟩, fun i hi => ?_⟩)
    by_cases hij : i = j
    · subst hij
      have := eff_step (m := m) hC (hcall _) hd hs1 hfl hnA hnb hx hst1 hrd (mem_ready.1 hjd).1 hjA hq1
      rw [hrd1] at this
      refine ⟨this.1, ?_⟩
      have h2 := this.2
      have hq : ∀ e a w, CodePost w0 C.gl ro Q k1 e a w → CodePost w0 C.gl ro Q k e a w := fun _ _ _ g => CodePost.mono hle1 g
      unfold wpOpIn at *
      split at h2
      · rename_i hnone
        simp only [hnone]
        exact ⟨h2.1, ((h2.2).mono hq _).le (by have := fuelF_next (n := n) (ops := ops) (fl := fl) (fl' := fl); omega)⟩
      · rename_i oo hoo
        simp only [hoo]
        split at h2
        · rename_i hw
          simp only [hw, if_true]
          exact Oper.wpIn_mono2 (fun a w x => ⟨x.1, ((x.2).mono hq _).le (by have := fuelF_next (n := n) (ops := ops) (fl := fl) (fl' := fl); omega)⟩) hq h2
        · rename_i hw
          simp only [hw]
          exact ⟨h2.1, h2.2.1, ((h2.2.2).mono hq _).le (by have := fuelF_next (n := n) (ops := ops) (fl := fl) (fl' := fl); omega)⟩
    · have hio : i ∈ r.filter (· != j) := by
        apply Classical.byContradiction
        intro hno
        have := ready_sup hi hfl_in hno
        rw [hsup] at this
        simp only [List.mem_cons, List.not_mem_nil, or_false] at this
        exact hij this
      obtain ⟨hir, _⟩ := List.mem_filter.1 hio
      obtain ⟨hid, hiA⟩ := setAll_false (mem_ready.1 hi).1
      obtain ⟨t, hft, htts⟩ := hoth i hir hij
      obtain ⟨o, hoi, hdst, hg, hmake, hlk, hothers⟩ := floatT_spec hft
      obtain ⟨o', T, vs, mk, hoi', hM⟩ := hmk i hir hij hiA
      rw [hoi] at hoi'; cases hoi'
      refine ⟨fun o' ho' => ?_, ?_⟩
      · rw [hoi] at ho'; cases ho'
        exact ⟨fun c hc => (by rw [hc] at hmake; simp [isMake] at hmake), fun cs b hc => (by rw [hc] at hmake; simp [isMake] at hmake)⟩
      · have hnb0 : ∀ e ∈ fl, e.b < w.heap.size := fun e he => by
          obtain ⟨h1, _⟩ := hs.heap.ex e.b e.ob (withs_ex he hnb)
          exact (Array.getElem?_eq_some_iff.1 h1).1
        let e0 : Fl := ⟨i, t, w.heap.size, .cells vs.toArray T, mk ⟨w.heap.size, 0, none⟩⟩
        have hsE : StR (w0.withs (e0 :: fl)) C.gl ro k (s.drops ts) (a.put (some t) e0.v) { w with heap := w.heap.push (.cells vs.toArray T) } := (hs.early (.cells vs.toArray T)).putD htts _
        have hsel : ∀ cs b, o.op ≠ .select cs b := fun cs b e => by rw [e] at hmake; simp [isMake] at hmake
        have hev : ∀ v, execOp (a.put (some t) v).eval o = execOp a.eval o := fun v => execOp_put (ops := ops) o hsel a (some t) v (fun d hd hl => by cases hd; exact hlk hl)
        have hfl0 : ∀ e ∈ e0 :: fl, FlOK C.P ops done (a.put (some t) e0.v) e := by
          intro e he
          rcases List.mem_cons.1 he with rfl | he
          · refine ⟨hft, hid, ?_, put_put, o, T, vs, mk, hoi, rfl, fun w' => by rw [hev]; exact hM w', rfl⟩
            have hird : i ∈ Region.ready .any ops done := by rw [hr]; exact hir
            obtain ⟨_, o2, ho2, h2⟩ := mem_ready.1 hird
            intro o3 ho3
            show ∀ ed ∈ o3.after, _
            have ho3' : ops[i]? = some o3 := ho3
            rw [ho2] at ho3'; cases ho3'
            exact h2
          · have := (hfl e he).putting hoi hid (hiA e he) e0.v
            rwa [hdst] at this
        have hmk0 : ∀ x ∈ r, x ≠ j → (∀ e ∈ e0 :: fl, x ≠ e.A) → ∃ o T vs mk, ops[x]? = some o ∧ Makes C.P (a.put (some t) e0.v).eval o T vs mk := by
          intro x hxr hxj hxA
          obtain ⟨ox, Tx, vx, mx, hox, hMx⟩ := hmk x hxr hxj (fun e he => hxA e (by simp [he]))
          obtain ⟨tx, hftx, _⟩ := hoth x hxr hxj
          obtain ⟨ox2, hox2, _, _, hmx, _, hothx⟩ := floatT_spec hftx
          rw [hox] at hox2; cases hox2
          have hselx : ∀ cs b, ox.op ≠ .select cs b := fun cs b e => by rw [e] at hmx; simp [isMake] at hmx
          have hxi : i ≠ x := fun e => hxA e0 (by simp) e.symm
          refine ⟨ox, Tx, vx, mx, hox, fun w' => ?_⟩
          rw [execOp_put (ops := ops) ox hselx a (some t) e0.v (fun d hd hl => by
            cases hd
            have hforced := (hothx i o hoi hxi t hdst).2 hl
            have hxrd : x ∈ Region.ready .any ops done := by rw [hr]; exact hxr
            obtain ⟨_, o4, ho4, h4⟩ := mem_ready.1 hxrd
            rw [hox] at ho4; cases ho4
            unfold forced at hforced
            rw [hox] at hforced
            simp only [Array.any_eq_true] at hforced
            obtain ⟨q, hq, hqq⟩ := hforced
            simp only [Bool.and_eq_true, beq_iff_eq] at hqq
            have := h4 _ (Array.getElem_mem hq) hqq.1
            rw [hqq.2, getD_clash hid] at this
            cases this)]
          exact hMx w'
        obtain ⟨k2, s2, _, _, hy2, _⟩ := recheck_sound hC hsE hst hrd h
        have hlt : i < ops.size := (Array.getElem?_eq_some_iff.1 hoi).1
        have hless := cntF_cons (ops := ops) (fl := fl) (e := e0) hlt (fun f hf e => hiA f hf e.symm)
        have hc := ih (cntF ops (e0 :: fl)) (by rw [← hcnt]; exact hless) (e0 :: fl) (a.put (some t) e0.v) { w with heap := w.heap.push (.cells vs.toArray T) } rfl hsE hfl0
          (by simp only [List.map_cons, List.nodup_cons, List.mem_map, not_exists, not_and]; exact ⟨fun f hf e => hiA f hf e.symm, hnA⟩)
          (by simp only [List.map_cons, List.nodup_cons, List.mem_map, not_exists, not_and]; exact ⟨fun f hf e => by have := hnb0 f hf; have e : f.b = w.heap.size := e; omega, hnb⟩)
          (fun e he => by
            rcases List.mem_cons.1 he with rfl | he
            · have hsz := hs.heap.frame.size
              rw [withs_heap] at hsz
              refine ⟨?_, hsz⟩
              cases hxx : w0.ex w.heap.size with
              | none => rfl
              | some p =>
                have hne : ∀ e ∈ fl, e.b ≠ w.heap.size := fun e he => Nat.ne_of_lt (hnb0 e he)
                have : (w0.withs fl).ex w.heap.size = some p := by rw [withs_same hne]; exact hxx
                obtain ⟨h1, _⟩ := hs.heap.ex _ _ this
                have := (Array.getElem?_eq_some_iff.1 h1).1
                omega
            · exact hx e he) hmk0
        unfold wpOpIn
        simp only [hoi]
        have hw : Region.wanted o (yielded ops a.tmps) = true := by simp [Region.wanted, hg]
        rw [if_pos hw]
        refine ⟨fun f _ => WF_fn ro f, ?_⟩
        rw [Oper.semAt_eq _ _ _ (fun c hc => by rw [hc] at hmake; simp [isMake] at hmake)]
        rw [hM w]
        simp only [Oper.uponIn, hdst]
        refine ⟨fun rr hrr _ => hy2 rr (List.mem_filter.1 hrr).1, ?_⟩
        rw [flt_cons] at hc
        have hset : setAll (e0 :: fl) done = (setAll fl done).setIfInBounds i true := by
          show setAll fl (done.setIfInBounds i true) = _
          rw [setAll_set]
        rw [hset] at hc
        refine hc.le ?_
        simp only [fuelF] at hf ⊢
        omega
end

theorem storeAt_spec {P : Program} {gl : Glob} {s : St} {o : Oper} {i : Id} {X : DO} (h : storeAt P s o = some (i, X)) :
    o.guard = none ∧ o.dst = none ∧ opD P gl s o = .leaf (.val undefD) { s with heap := (i, X) :: s.heap } ∧ (∃ t x v, o.op = .store t x v) ∧ ∀ j Y, i ≠ j → storeAt P { s with heap := (j, Y) :: s.heap } o = some (i, X) := by
  have h0 := h
  unfold storeAt at h
  split at h
  · cases h
  rename_i hg
  simp only [Bool.or_eq_true, not_or, Bool.not_eq_true, Option.isSome_eq_false_iff, Option.isNone_iff_eq_none] at hg
  split at h
  · rename_i t x v hop
    split at h
    · rename_i i' off d hx hv
      split at h
      · rename_i hc
        split at h
        · rename_i off' cs e m ho hh
          cases hset : setAt cs off' d.cellsL with
          | none => rw [hset] at h; cases h
          | some cs' =>
            rw [hset] at h
            simp only [Option.map_some, Option.some.injEq, Prod.mk.injEq] at h
            obtain ⟨rfl, rfl⟩ := h
            refine ⟨hg.1, hg.2, ?_, ⟨t, x, v, hop⟩, fun j Y hij => ?_⟩
            · unfold opD
              simp only [hop, withOp, hx, hv, storeD, hc, if_true, writeCells, ho, hh, hset, Option.map_some]
              rfl
            · have e1 : opd { s with heap := (j, Y) :: s.heap } x = opd s x := rfl
              have e2 : opd { s with heap := (j, Y) :: s.heap } v = opd s v := rfl
              have e3 : heapGet ((j, Y) :: s.heap) i' = heapGet s.heap i' := by
                simp only [heapGet, look]
                rw [if_neg (by simpa using fun e => hij e.symm)]
              unfold storeAt
              simp only [hg.1, hg.2, hop, e1, e2, hx, hv, hc, if_true, ho, e3, hh, hset, Option.map_some]
              rfl
        · cases h
      · cases h
    · cases h
  · cases h

theorem look_swap {α : Type} {i j : Nat} (h : i ≠ j) (x y : α) (l : List (Nat × α)) (u : Nat) : look u ((i, x) :: (j, y) :: l) = look u ((j, y) :: (i, x) :: l) := by
  simp only [look]
  by_cases hi : (i == u) = true
  · have hi' := beq_iff_eq.1 hi
    have : ¬ (j == u) = true := by simpa using fun e => h (hi'.trans e.symm)
    simp [hi, this]
  · simp [hi]

theorem StR.swap {i j : Id} {X Y : DO} {h : List (Id × DO)} (hij : i ≠ j) (hs : StR w0 C.gl ro k { s with heap := (i, X) :: (j, Y) :: h } a w) : StR w0 C.gl ro k { s with heap := (j, Y) :: (i, X) :: h } a w := by
  have hl := fun u => look_swap hij X Y h u
  have hh := hs.heap
  have hlive : ∀ u, Live ((j, Y) :: (i, X) :: h) u ↔ Live ((i, X) :: (j, Y) :: h) u := fun u => by unfold Live; rw [hl u]
  refine ⟨hs.nx, hs.ct, hs.pc, hs.env, ⟨fun u o ho => hh.obj u o (by rw [hl u]; exact ho), fun u v hu hv => hh.inj u v ((hlive u).1 hu) ((hlive v).1 hv), hh.lt, hh.own,
    fun b o hb => ⟨(hh.g b o hb).1, fun u hu => (hh.g b o hb).2 u ((hlive u).1 hu)⟩, fun b o hb => ⟨(hh.ex b o hb).1, fun u hu => (hh.ex b o hb).2.1 u ((hlive u).1 hu), (hh.ex b o hb).2.2⟩, hh.frame⟩,
    hs.gl, hs.marks, hs.marksLt, hs.rnd, hs.rndLt, hs.memo⟩

/-- A store, carried out. -/
theorem store_run (hC : CfgOK C) (hcall : CallOKn C w0 n) (hs : StR w0 C.gl ro k s a w) {ops : Array Oper} {i : Nat} {o : Oper} (ho : ops[i]? = some o) {id : Id} {X : DO} (hst : storeAt C.P s o = some (id, X))
    {K' : Act → World → Prop} {Q' : Exit → Act → World → Prop} (hK : ∀ k' w', k.le k' → k'.ρ = k.ρ → k'.G = k.G → StR w0 C.gl ro k' { s with heap := (id, X) :: s.heap } a w' → K' a w') :
    (∀ o, ops[i]? = some o → (∀ c, o.op ≠ .defer c) ∧ ∀ cs b, o.op ≠ .select cs b) ∧ wpOpIn (WF ro) m C.P ops Q' i K' a w := by
  obtain ⟨hg, hdst, htr, ⟨t, x, v, hop⟩, _⟩ := storeAt_spec (gl := C.gl) hst
  refine ⟨fun o' ho' => ?_, ?_⟩
  · rw [ho] at ho'; cases ho'
    exact ⟨fun c hc => (by rw [hop] at hc; cases hc), fun cs b hc => (by rw [hop] at hc; cases hc)⟩
  · unfold wpOpIn
    simp only [ho]
    have hw : Region.wanted o (yielded ops a.tmps) = true := by simp [Region.wanted, hg]
    rw [if_pos hw]
    have hop2 : opTr C n o s = opD C.P C.gl s o := by unfold opTr; rw [hop]
    refine opTr_sound hC hcall hs (o := o) (Q := fun ρ G out s' => ρ = k.ρ ∧ G = k.G ∧ s' = { s with heap := (id, X) :: s.heap }) (B := []) (by rw [hop2, htr]; exact ⟨rfl, rfl, rfl⟩) ?_
    rintro v' w' ⟨k', d, s', hle, hs', _, e1, e2, rfl⟩
    rw [hdst]
    exact hK k' w' hle e1 e2 hs'

theorem pair_step (hC : CfgOK C) (hcall : CallOKn C w0 n) (hd : DrawE C w0 n) {ops : Array Oper} {done : Array Bool} {rd : List (Nat × Tmp × DV)} (hs : StR w0 C.gl ro k s a w) (hst : ∀ r ∈ rd, Stable k r.2.2) (hrd : ∀ r ∈ rd, ∀ o, ops[r.1]? = some o → readOp o.op = true)
    {x y : Nat} {s' : St} (hp : pairAt C.P C.gl s ops done rd x y = some s') (h : (ev C n (.draw ops ((done.setIfInBounds x true).setIfInBounds y true) []) s').sat C.P Q B k.ρ k.G) :
    Can ro m C.P .any ops (CodePost w0 C.gl ro Q k) (fuelF n ops [] + 2) done (rdOf k rd) a w := by
  unfold pairAt at hp
  split at hp
  rotate_left
  · cases hp
  rename_i ox oy hox hoy
  split at hp
  rotate_left
  · cases hp
  rename_i i X j Y hX hY
  split at hp
  rotate_left
  · cases hp
  rename_i hc
  simp only [Option.some.injEq] at hp
  subst hp
  simp only [Bool.and_eq_true, bne_iff_ne, ne_eq, beq_iff_eq, List.all_eq_true] at hc
  obtain ⟨⟨⟨⟨⟨hij, r1⟩, r2⟩, r0⟩, hf⟩, hleaf⟩ := hc
  obtain ⟨_, _, _, _, hX2⟩ := storeAt_spec (gl := C.gl) hX
  obtain ⟨_, _, _, _, hY2⟩ := storeAt_spec (gl := C.gl) hY
  have hnil : ∀ l : List Rd, (∀ r ∈ l, r ∈ rdOf k rd) → (l.filter fun r => !forced .any ops x r.1) = [] := by
    intro l hl
    rw [List.filter_eq_nil_iff]
    intro r hr
    obtain ⟨r', hr', rfl⟩ := List.mem_map.1 (hl r hr)
    simp [hf r' hr']
  have last : ∀ (k' : K) (w' : World), k.le k' → k'.ρ = k.ρ → k'.G = k.G → StR w0 C.gl ro k' { s with heap := (j, Y) :: (i, X) :: s.heap } a w' →
      Can ro m C.P .any ops (CodePost w0 C.gl ro Q k) (fuelF n ops []) ((done.setIfInBounds x true).setIfInBounds y true) [] a w' := by
    intro k' w' hle e1 e2 hs'
    have hc := hd ops _ [] _ k' a w' Q B ro m [] hs' (by simp) (by simp) (by simp) (by simp) (by simp) (by simp) (by rw [e1, e2]; exact h)
    exact hc.mono (fun _ _ _ g => CodePost.mono hle g) _
  refine .inr (.inr ⟨⟨x, by rw [r0]; simp⟩, fun u hu => ?_⟩)
  rw [r0] at hu
  simp only [List.mem_cons, List.not_mem_nil, or_false] at hu
  rcases hu with rfl | rfl
  · refine store_run hC hcall hs hox hX fun k1 w1 hle1 e1 e2 hs1 => ⟨fun r hr hfr => ?_, ?_⟩
    · obtain ⟨r', hr', rfl⟩ := List.mem_map.1 hr
      have h1 : forced .any ops u r'.1 = false := hfr
      rw [hf r' hr'] at h1
      cases h1
    · rw [hnil _ (fun r hr => hr)]
      refine .inr (.inr ⟨⟨y, by rw [r1]; simp⟩, fun v hv => ?_⟩)
      rw [r1] at hv
      simp only [List.mem_cons, List.not_mem_nil, or_false] at hv
      subst hv
      refine store_run hC hcall hs1 hoy (hY2 i X (fun e => hij e.symm)) fun k2 w2 hle2 e3 e4 hs2 => ⟨by simp, ?_⟩
      exact last k2 w2 (hle1.trans hle2) (e3.trans e1) (e4.trans e2) hs2
  · refine store_run hC hcall hs hoy hY fun k1 w1 hle1 e1 e2 hs1 => ⟨fun r hr hfr => ?_, ?_⟩
    · have hst1 : ∀ r ∈ rd.filter (fun r => !forced .any ops u r.1), Stable k1 r.2.2 := fun r hr => ((hst r (List.mem_filter.1 hr).1).mono hle1).1
      obtain ⟨_, _, _, _, hy1, _⟩ := recheck_sound (Q := fun _ _ _ _ => True) (B := []) hC hs1 hst1 (rd_filter hrd) (by
        cases htr : recheck C.P C.gl ops (rd.filter fun r => !forced .any ops u r.1) { s with heap := (j, Y) :: s.heap } with
        | leaf o s => trivial
        | _ => rw [htr] at hleaf; simp [isLeafN] at hleaf)
      rw [rd_filterE hst hle1] at hy1
      exact hy1 r (List.mem_filter.2 ⟨hr, by simp [hfr]⟩)
    · refine .inr (.inr ⟨⟨x, by rw [r2]; simp⟩, fun v hv => ?_⟩)
      rw [r2] at hv
      simp only [List.mem_cons, List.not_mem_nil, or_false] at hv
      subst hv
      refine store_run hC hcall hs1 hox (hX2 j Y hij) fun k2 w2 hle2 e3 e4 hs2 => ⟨fun r hr hfr => ?_, ?_⟩
      · obtain ⟨hr1, _⟩ := List.mem_filter.1 hr
        obtain ⟨r', hr', rfl⟩ := List.mem_map.1 hr1
        have h1 : forced .any ops v r'.1 = false := hfr
        rw [hf r' hr'] at h1
        cases h1
      · rw [hnil _ (fun r hr => (List.mem_filter.1 hr).1), set_comm]
        exact last k2 w2 (hle1.trans hle2) (e3.trans e1) (e4.trans e2) (hs2.swap hij)

theorem drawE_step (hC : CfgOK C) (hcall : ∀ w0, CallOKn C w0 n) (hd : DrawE C w0 n) : DrawE C w0 (n + 1) := by
  intro ops done rd s k a w Q B ro m fl hs hfl hnA hnb hx hst hrd h
  have h0 := h
  rw [ev_draw] at h
  split at h
  · rename_i i t o hp
    obtain ⟨h1, h2, h3, h4, h5⟩ := pickRd_spec hp
    have hne : ∀ e ∈ fl, i ≠ e.A := fun e he hie => by
      obtain ⟨o2, ho2, _, _, hm, _⟩ := floatT_spec (hfl e he).t
      rw [← hie, h2] at ho2; cases ho2
      revert h3 hm
      cases o.op <;> simp [isMake, readOp]
    rw [Tr.sat_bind] at h
    obtain ⟨k', v, d, s', hy, hle, hs', hdv, hq⟩ := readTr_sound hC hs h2 h3 h
    obtain ⟨f, hf⟩ : ∃ f, fuelF (n + 1) ops fl = f + 1 := ⟨_, rfl⟩
    rw [hf]
    have hid := (mem_ready.1 h1).1
    refine .inr (.inl ⟨i, t, v, ready_setAll h1 hne, h5, hy, ?_⟩)
    obtain ⟨r1, r2, r3⟩ := rd_cons (t := t) hst hrd hle hdv h2 h3
    have hc := hd _ _ _ _ _ _ _ _ _ _ m fl (hs'.put hdv (some t)) (fun e he => by
      have := ((hfl e he).putting h2 hid (hne e he) v).doing (hne e he)
      rwa [h4] at this) hnA hnb hx r1 r2 hq
    rw [r3, setAll_set] at hc
    have hfl2 : flt ops fl ((i, t, v) :: rdOf k rd) = (i, t, v) :: flt ops fl (rdOf k rd) := by
      simp only [flt]
      rw [List.filter_cons_of_pos]
      rw [List.all_eq_true]
      intro e he
      rw [(hfl e he).notForced hid]
      rfl
    rw [hfl2] at hc
    exact (hc.mono (fun _ _ _ g => CodePost.mono hle g) _).le (by have := fuelF_next (n := n) (ops := ops) (fl := fl) (fl' := fl); omega)
  · rename_i hpn
    split at h
    · rename_i hr
      have hnil : fl = [] := by
        cases fl with
        | nil => rfl
        | cons e l => have := (hfl e (by simp)).ready; rw [hr] at this; cases this
      subst hnil
      obtain ⟨f, hf⟩ : ∃ f, fuelF (n + 1) ops [] = f + 1 := ⟨_, rfl⟩
      rw [hf]
      exact .inl ⟨hr, k, .norm, s, K.le.refl k, hs, h, rfl⟩
    · rename_i j hr
      by_cases hj : ∃ e ∈ fl, e.A = j
      · obtain ⟨e, he, rfl⟩ := hj
        obtain ⟨fl', hc⟩ := adopt_step (m := m) hC hd hs hfl hnA hnb hx hst hrd he h
        exact hc.le (by have := fuelF_next (n := n) (ops := ops) (fl := fl') (fl' := fl); omega)
      · have hjA : ∀ e ∈ fl, j ≠ e.A := fun e he hje => hj ⟨e, he, hje.symm⟩
        have hnil : fl = [] := by
          cases fl with
          | nil => rfl
          | cons e l =>
            have := (hfl e (by simp)).ready
            rw [hr] at this
            simp only [List.mem_cons, List.not_mem_nil, or_false] at this
            exact absurd this.symm (hjA e (by simp))
        subst hnil
        obtain ⟨f, hf⟩ : ∃ f, fuelF (n + 1) ops [] = f + 1 := ⟨_, rfl⟩
        have hjd : j ∈ Region.ready .any ops done := by rw [hr]; simp
        rw [hf]
        refine .inr (.inr ⟨⟨j, hjd⟩, fun i hi => ?_⟩)
        have hi : i ∈ Region.ready .any ops done := hi
        rw [hr] at hi
        simp only [List.mem_cons, List.not_mem_nil, or_false] at hi
        subst hi
        have := eff_step (m := m) hC (hcall _) hd hs hfl hnA hnb hx hst hrd (mem_ready.1 hjd).1 hjA h
        exact ⟨this.1, wpOpIn_mono (fun a w x => ⟨x.1, x.2.le (by have := fuelF_next (n := n) (ops := ops) (fl := []) (fl' := []); omega)⟩) this.2⟩
    · rename_i r hr0 hr1
      split at h
      · rename_i ts j hp
        obtain ⟨hjr, hp1⟩ := pickM_spec hp
        obtain ⟨hoth, hsup⟩ := pickM1_spec hp1
        generalize hr : Region.ready .any ops done = r at *
        refine pick_step (s := s) (ts := ts) hC hcall hd hr hjr (fun i hi hne => by obtain ⟨t, h1, h2, _⟩ := hoth i hi hne; exact ⟨t, h1, h2⟩) hsup hst hrd h _ fl a w rfl (StR.drops ts hs) hfl hnA hnb hx ?_
        intro i hi hne hiA
        obtain ⟨t, hft, _, hnow⟩ := hoth i hi hne
        obtain ⟨o, hoi, _, _, hmake, _⟩ := floatT_spec hft
        unfold floatNow at hnow
        rw [hoi] at hnow
        simp only at hnow
        split at hnow
        · rename_i d' s' htr
          obtain ⟨T, cs, vs, mk, mkd, _, hM, _⟩ := hC.make _ _ _ _ _ _ (fun _ _ _ _ => True) [] o hs hmake (by rw [htr]; trivial)
          exact ⟨o, T, vs, mk, hoi, hM⟩
        · cases hnow
      · split at h
        · rename_i x y hr
          split at h
          · rename_i s' hp
            have hpr := hp
            have hnil : fl = [] := by
              cases fl with
              | nil => rfl
              | cons e l =>
                exfalso
                have hA := (hfl e (by simp)).ready
                rw [hr] at hA
                simp only [List.mem_cons, List.not_mem_nil, or_false] at hA
                obtain ⟨o, ho, _, _, hm, _⟩ := floatT_spec (hfl e (by simp)).t
                unfold pairAt at hpr
                split at hpr
                rotate_left
                · cases hpr
                rename_i ox oy hox hoy
                split at hpr
                rotate_left
                · cases hpr
                rename_i i X j Y hX hY
                obtain ⟨_, _, _, ⟨_, _, _, hopx⟩, _⟩ := storeAt_spec (gl := C.gl) hX
                obtain ⟨_, _, _, ⟨_, _, _, hopy⟩, _⟩ := storeAt_spec (gl := C.gl) hY
                rcases hA with hA | hA
                · rw [hA, hox] at ho; cases ho; rw [hopx] at hm; simp [isMake] at hm
                · rw [hA, hoy] at ho; cases ho; rw [hopy] at hm; simp [isMake] at hm
            subst hnil
            have hc := pair_step (m := m) hC (hcall w0) hd hs hst hrd hp h
            have hflt : flt ops [] (rdOf k rd) = rdOf k rd := by
              simp only [flt]
              rw [List.filter_eq_self]
              intro r _
              rfl
            rw [hflt]
            exact hc.le (by simp only [fuelF, Nat.succ_mul]; have := cntF_le ops []; omega)
          split at h
          · rename_i hnf
            simp only [Bool.and_eq_true, Option.isNone_iff_eq_none] at hnf
            have hnil : fl = [] := by
              cases fl with
              | nil => rfl
              | cons e l =>
                have hA := (hfl e (by simp)).ready
                rw [hr] at hA
                simp only [List.mem_cons, List.not_mem_nil, or_false] at hA
                have ht := (hfl e (by simp)).t
                rcases hA with hA | hA
                · rw [hA, hnf.1] at ht; cases ht
                · rw [hA, hnf.2] at ht; cases ht
            subst hnil
            simp only [Tr.sat] at h
            obtain ⟨f, hf⟩ : ∃ f, fuelF (n + 1) ops [] = f + 1 := ⟨_, rfl⟩
            rw [hf]
            refine .inr (.inr ⟨⟨x, show x ∈ Region.ready .any ops done by rw [hr]; simp⟩, fun i hi => ?_⟩)
            have hi0 : i ∈ Region.ready .any ops done := hi
            have hi : i ∈ Region.ready .any ops done := hi
            rw [hr] at hi
            simp only [List.mem_cons, List.not_mem_nil, or_false] at hi
            have key : ∀ (c : Bool), (effTr C n ops rd (nextTr C n ops done rd) i (forkS s)).sat C.P Q B (k.ρ.app { b := [c] }) k.G →
                (∀ o, ops[i]? = some o → (∀ c, o.op ≠ .defer c) ∧ ∀ cs b, o.op ≠ .select cs b) ∧
                  wpOpIn (WF ro) m C.P ops (CodePost w0 C.gl ro Q k) i (fun a' w' => (∀ r ∈ flt ops [] (rdOf k rd), forced .any ops i r.1 = false → Yl C.P ops r.1 r.2.2 a' w') ∧
                    Can ro m C.P .any ops (CodePost w0 C.gl ro Q k) f ((setAll [] done).setIfInBounds i true) ((flt ops [] (rdOf k rd)).filter fun r => !forced .any ops i r.1) a' w') a w := by
              intro c hq1
              have hs1 := StR.fork (C := C) (w0 := w0.withs []) hs c
              have hle1 : k.le (k.app { b := [c] } k.G) := K.le_app k _ (fun _ _ h => h)
              have hst1 : ∀ r ∈ rd, Stable (k.app { b := [c] } k.G) r.2.2 := fun r hr => ((hst r hr).mono hle1).1
              have := eff_step (m := m) (fl := []) hC (hcall _) hd hs1 (by simp) (by simp) (by simp) (by simp) hst1 hrd (mem_ready.1 hi0).1 (by simp) hq1
              rw [rdOf_mono hst hle1] at this
              refine ⟨this.1, ?_⟩
              have h2 := this.2
              have hq : ∀ e a w, CodePost w0 C.gl ro Q (k.app { b := [c] } k.G) e a w → CodePost w0 C.gl ro Q k e a w := fun _ _ _ g => CodePost.mono hle1 g
              have hfu := fuelF_next (n := n) (ops := ops) (fl := []) (fl' := [])
              unfold wpOpIn at *
              split at h2
              · rename_i hnone
                simp only [hnone]
                exact ⟨h2.1, ((h2.2).mono hq _).le (by omega)⟩
              · rename_i oo hoo
                simp only [hoo]
                split at h2
                · rename_i hw
                  simp only [hw, if_true]
                  exact Oper.wpIn_mono2 (fun a w x => ⟨x.1, ((x.2).mono hq _).le (by omega)⟩) hq h2
                · rename_i hw
                  simp only [hw]
                  exact ⟨h2.1, h2.2.1, ((h2.2.2).mono hq _).le (by omega)⟩
            have hbv : ∀ c, (E.bv s.ct.b).bb (k.ρ.app { b := [c] }) = c := fun c => by
              simp [E.bb, Env.app, ← hs.ct.b]
            have hx2 : ∀ c, _ := fun c => h { b := [c] } ⟨rfl, rfl, rfl, rfl, by simp⟩ rfl
            rcases hi with rfl | rfl
            · exact key true ((hx2 true).1 (hbv true))
            · exact key false ((hx2 false).2 (hbv false))
          · exact h.elim
        · exact h.elim

theorem StR.drew (hs : StR w0 C.gl ro k s a w) (n : Nat) : StR w0 C.gl ro k s a { w with drawn := n } :=
  ⟨hs.nx, hs.ct, hs.pc, hs.env, hs.heap.drew n, hs.gl, hs.marks, hs.marksLt, hs.rnd, hs.rndLt, hs.memo⟩

theorem unl_replicate (n : Nat) : unl (Array.replicate n false) = n := by simp [unl]

theorem region_draw (hC : CfgOK C) (hd : DrawE C w0 n) {id : Nat} {ops : Array Oper} (hs : StR w0 C.gl ro k s a w)
    (h : (ev C n (.draw ops (Array.replicate ops.size false) []) s).sat C.P Q B k.ρ k.G) : (Code.region id ops true).wpIn (WF ro) m C.P (CodePost w0 C.gl ro Q k) a w := by
  refine wpIn_region_any hC.orders ?_
  have hc := hd _ _ _ _ _ _ _ _ _ _ m [] (hs.drew (w.drawn + 1)) (by simp) (by simp) (by simp) (by simp) (by simp) (by simp) h
  refine can_any (late := []) (rd := []) (b := a) ?_ _ (fuelF n ops []) (done := Array.replicate ops.size false) ?_ hc (by simp [unl_replicate])
  · rintro c a w ⟨_, o, _, _, _, _, he⟩
    cases o <;> simp [exitOf] at he
  · refine ⟨by simp, by simp, by simp, by simp, by simp, by simp, by simp, by simp, by simp, rfl, by simp⟩
end
end Go.Sx
