/- The run of code: what a shown tree gives of the machine's walk (I). -/
import Derived.Test.YtcljcgapkojgnaaGreatDoorSb
import Derived.TacticsIn
import Derived.LoopNIn
set_option linter.unusedSimpArgs false
set_option linter.unusedVariables false
namespace Go.Sx
open Go.RowKit

/-- The fence that lets all in, in a round or not. -/
def WF (ro : Option Nat) : Fence := { Fence.wide with round := ro }

theorem callsIn_round {ro ro' : Option Nat} {m : Nat} {P : Program} {f : FuncId} {args : Array Value} {w : World} {R : Ending → World → Prop}
    (h : CallsIn (WF ro) m P f args w R) : CallsIn (WF ro') m P f args w R := h

theorem WF_fn (ro : Option Nat) (f : FuncId) : (WF ro).fn f := trivial
theorem WF_depth (ro : Option Nat) (m : Nat) : (WF ro).depth.isSome = true → 1 ≤ m := fun h => by simp [WF, Fence.wide] at h

def exitOf : Out → Option Exit
  | .norm => some .normal
  | .exit i => some (.exit i)
  | .goto l => some (.goto l)
  | .ret => some .ret
  | .val _ => none

def CodePost (w0 : Fr) (gl : Glob) (ro : Option Nat) (Q : Env → GS → Out → St → Prop) (k : K) : Exit → Act → World → Prop :=
  fun e a w => ∃ k' o s, k.le k' ∧ StR w0 gl ro k' s a w ∧ Q k'.ρ k'.G o s ∧ exitOf o = some e

theorem CodePost.mono {w0 : Fr} {gl : Glob} {ro : Option Nat} {Q : Env → GS → Out → St → Prop} {k k' : K} (h : k.le k') {e : Exit} {a : Act} {w : World} (g : CodePost w0 gl ro Q k' e a w) :
    CodePost w0 gl ro Q k e a w := by
  obtain ⟨k2, o, s, h1, h2⟩ := g
  exact ⟨k2, o, s, h.trans h1, h2⟩

section
variable {P : Program} {w0 : Fr} {gl : Glob} {ro : Option Nat} {k : K} {s : St} {a : Act} {w : World} {Q : Env → GS → Out → St → Prop} {B : Backs}

theorem look_cons {α : Type} (n m : Nat) (v : α) (l : List (Nat × α)) : look n ((m, v) :: l) = if m = n then some v else look n l := by
  simp [look]

theorem StR.put (hs : StR w0 gl ro k s a w) {d : DV} {v : Value} (hd : d.is k v) (dst : Option Tmp) : StR w0 gl ro k (s.put dst d) (a.put dst v) w := by
  cases dst with
  | none => exact hs
  | some t =>
    refine ⟨hs.nx, hs.ct, hs.pc, ⟨?_, ?_⟩, hs.heap, hs.gl, hs.marks, hs.marksLt, hs.rnd, hs.rndLt, hs.memo⟩
    · simp [Act.put, hs.env.size, St.put]
    · intro u d' hl hu
      simp only [St.put, look_cons] at hl
      simp only [St.put] at hu
      split at hl
      · rename_i htu; subst htu
        simp only [Option.some.injEq] at hl; subst hl
        simp only [Act.put, Array.getD_eq_getD_getElem?, Array.getElem?_setIfInBounds]
        simpa [hs.env.size, hu] using hd
      · rename_i htu
        have := hs.env.get u d' hl hu
        simp only [Act.put, Array.getD_eq_getD_getElem?, Array.getElem?_setIfInBounds] at this ⊢
        simpa [htu] using this

theorem guardE_den (k : K) (want : Bool) : ∀ {d : DV} {g : E}, guardE d want = some g → g.bb k.ρ = (match d.den k with | .bool b => b == want | _ => false) := by
  intro d
  induction d using DV.rec (motive_2 := fun _ => True) with
  | bool e => intro g h; simp [guardE] at h; subst h; cases want <;> simp [DV.den, mk1_bb, E.bb]
  | gd c x ih =>
    intro g h
    simp only [guardE, Option.map_eq_some_iff] at h
    obtain ⟨g', hg', rfl⟩ := h
    rw [mk2_bb]
    simp only [E.bb, ih hg', DV.den]
    cases E.bb k.ρ c <;> simp [undef]
  | tup l =>
    intro g h
    cases l with
    | nil => simp [guardE] at h; subst h; simp [DV.den, E.bb]
    | cons => simp [guardE] at h
  | nil => trivial
  | cons => trivial
  | _ => intro g h; simp [guardE] at h

theorem yielded_sound (hs : StR w0 gl ro k s a w) {all : Array Oper} {j : Nat} {d : DV} (h : (dstOf all j).bind (s.get ·) = some d) :
    ∃ v, d.is k v ∧ ∀ want, (yielded all a.tmps j == some want) = (match v with | .bool b => b == want | _ => false) := by
  simp only [Option.bind_eq_some_iff] at h
  obtain ⟨t, ht, hg⟩ := h
  obtain ⟨hlt, hd⟩ := St.get_sound hs hg
  refine ⟨_, hd, fun want => ?_⟩
  have hlt' : t < a.tmps.size := by rw [hs.env.size]; exact hlt
  have : a.tmps[t]? = some (a.tmps.getD t undef) := by
    rw [Array.getD_eq_getD_getElem?, Array.getElem?_eq_getElem hlt']; rfl
  unfold yielded
  unfold dstOf at ht
  rw [ht]
  simp only [Option.bind_some, this]
  cases a.tmps.getD t undef <;> rfl
end
end Go.Sx
/- The store and the world, written and grown. -/
namespace Go.Sx
open Go.RowKit

section
variable {P : Program} {w0 : Fr} {gl : Glob} {ro : Option Nat} {k : K} {s : St} {a : Act} {w w' : World} {Q : Env → GS → Out → St → Prop} {B : Backs} {heap : List (Id × DO)}

theorem look_cons' {α : Type} (n m : Nat) (v : α) (l : List (Nat × α)) : look n ((m, v) :: l) = if m = n then some v else look n l := by simp [look]

theorem Live.tail {heap : List (Id × DO)} {i j : Id} {o : DO} (h : Live ((i, o) :: heap) j) (hn : i ≠ j) : Live heap j := by
  obtain ⟨p, hp, hl⟩ := h
  rw [look_cons', if_neg hn] at hp
  exact ⟨p, hp, hl⟩

/-- One block is another object now. -/
theorem HeapR.upd (h : HeapR w0 k heap w) {i : Id} (hl : Live heap i) {o : DO} {ob : Obj} (ho : o.is k ob) (h1 : w'.heap[k.β i]? = some ob)
    (h2 : ∀ b, b ≠ k.β i → w'.heap[b]? = w.heap[b]?) (h3 : w'.heap.size = w.heap.size) (h4 : w'.os = w.os) (h5 : w'.tape = w.tape) (h6 : w'.output = w.output) :
    HeapR w0 k ((i, o) :: heap) w' := by
  have hi : i < k.nx := by obtain ⟨p, hp, _⟩ := hl; exact (h.obj i p hp).1
  have hlive : ∀ j, Live ((i, o) :: heap) j → Live heap j := by
    intro j hj
    by_cases hij : i = j
    · subst hij; exact hl
    · exact hj.tail hij
  refine ⟨?_, fun a b ha hb => h.inj a b (hlive a ha) (hlive b hb), fun j hj => by rw [h3]; exact h.lt j hj, h.own, ?_, ?_, ?_⟩
  · intro j p hlk
    rw [look_cons'] at hlk
    split at hlk
    · rename_i hij; subst hij
      simp only [Option.some.injEq] at hlk; subst hlk
      exact ⟨hi, ob, h1, ho⟩
    · rename_i hij
      obtain ⟨hj, q, hq, hp⟩ := h.obj j p hlk
      by_cases hd : p.live = true
      · exact ⟨hj, q, by rw [h2 _ (fun e => hij (h.inj i j hl ⟨p, hlk, hd⟩ e.symm))]; exact hq, hp⟩
      · have : p = .dead := by cases p <;> simp [DO.live] at hd ⊢
        subst this
        have hsz : k.β j < w'.heap.size := by rw [h3]; exact h.lt j hj
        exact ⟨hj, w'.heap[k.β j], by simp [hsz], trivial⟩
  · intro b p hb
    obtain ⟨g1, g2⟩ := h.g b p hb
    exact ⟨by rw [h2 _ (fun e => g2 i hl e.symm)]; exact g1, fun j hj => g2 j (hlive j hj)⟩
  · intro b p hb
    obtain ⟨g1, g2, g3⟩ := h.ex b p hb
    exact ⟨by rw [h2 _ (fun e => g2 i hl e.symm)]; exact g1, fun j hj => g2 j (hlive j hj), g3⟩
  · refine ⟨h4.trans h.frame.os, h5.trans h.frame.tape, h6.trans h.frame.output, by rw [h3]; exact h.frame.size, fun b hb => ?_⟩
    rw [h2 b (fun e => by have := h.own i hi; omega)]
    exact h.frame.block b hb

/-- A block is told of no more. -/
theorem HeapR.kill (h : HeapR w0 k heap w) {i : Id} (hi : i < k.nx) : HeapR w0 k ((i, .dead) :: heap) w := by
  have hlive : ∀ j, Live ((i, DO.dead) :: heap) j → Live heap j := by
    intro j hj
    by_cases hij : i = j
    · subst hij
      obtain ⟨p, hp, hl⟩ := hj
      rw [look_cons', if_pos rfl] at hp
      cases hp; simp [DO.live] at hl
    · exact hj.tail hij
  refine ⟨?_, fun a b ha hb => h.inj a b (hlive a ha) (hlive b hb), h.lt, h.own, fun b o hb => ⟨(h.g b o hb).1, fun j hj => (h.g b o hb).2 j (hlive j hj)⟩, fun b o hb => ⟨(h.ex b o hb).1, fun j hj => (h.ex b o hb).2.1 j (hlive j hj), (h.ex b o hb).2.2⟩, h.frame⟩
  intro j p hlk
  rw [look_cons'] at hlk
  split at hlk
  · rename_i hij; subst hij
    simp only [Option.some.injEq] at hlk; subst hlk
    have := h.lt i hi
    exact ⟨hi, w.heap[k.β i], by simp [this], trivial⟩
  · exact h.obj j p hlk

/-- A stage with one block more. -/
def K.grow (k : K) (n : Nat) : K := { k with nx := k.nx + 1, β := fun j => if j = k.nx then n else k.β j }

theorem K.le_grow (k : K) (n : Nat) : k.le (k.grow n) :=
  ⟨Env.le.refl _, Nat.le_succ _, fun i hi => by simp [K.grow, Nat.ne_of_lt hi], fun _ _ h => h⟩

/-- A block more in the store: one of the world's that no other id that the store tells of has. -/
theorem HeapR.add (h : HeapR w0 k heap w) {g : Nat} {o : DO} {ob : Obj} (ho : o.is (k.grow g) ob) (h1 : w'.heap[g]? = some ob)
    (hg0 : w0.heap.size ≤ g) (hgn : ∀ j, Live heap j → k.β j ≠ g) (hgG : ∀ o, k.G g ≠ some o) (hgE : ∀ o, w0.ex g ≠ some o) (hsz : w.heap.size ≤ w'.heap.size)
    (h2 : ∀ b, b < w.heap.size → b ≠ g → w'.heap[b]? = w.heap[b]?) (h4 : w'.os = w.os) (h5 : w'.tape = w.tape) (h6 : w'.output = w.output) :
    HeapR w0 (k.grow g) ((k.nx, o) :: heap) w' := by
  have hle := K.le_grow k g
  have hβ : ∀ j, j < k.nx → (k.grow g).β j = k.β j := hle.β
  have hβn : (k.grow g).β k.nx = g := by simp [K.grow]
  have hg1 : g < w'.heap.size := (Array.getElem?_eq_some_iff.1 h1).1
  have hlt : ∀ j, Live heap j → j < k.nx := fun j hj => by obtain ⟨p, hp, _⟩ := hj; exact (h.obj j p hp).1
  have hlive : ∀ j, Live ((k.nx, o) :: heap) j → j = k.nx ∨ Live heap j := fun j hj => by
    by_cases hij : k.nx = j
    · exact .inl hij.symm
    · exact .inr (hj.tail hij)
  refine ⟨?_, ?_, ?_, ?_, ?_, ?_, ?_⟩
  · intro j p hl
    rw [look_cons'] at hl
    split at hl
    · rename_i hij; subst hij
      simp only [Option.some.injEq] at hl; subst hl
      exact ⟨Nat.lt_succ_self _, ob, by rw [hβn]; exact h1, ho⟩
    · obtain ⟨hj, q, hq, hp⟩ := h.obj j p hl
      refine ⟨Nat.lt_succ_of_lt hj, ?_⟩
      by_cases hd : p.live = true
      · refine ⟨q, ?_, hp.mono hle⟩
        rw [hβ j hj, h2 _ (h.lt j hj) (hgn j ⟨p, hl, hd⟩)]; exact hq
      · have : p = .dead := by cases p <;> simp [DO.live] at hd ⊢
        subst this
        have hsz : k.β j < w'.heap.size := Nat.lt_of_lt_of_le (h.lt j hj) hsz
        exact ⟨w'.heap[k.β j], by rw [hβ j hj]; simp [hsz], trivial⟩
  · intro i j hi hj hij
    rcases hlive i hi with rfl | hi <;> rcases hlive j hj with rfl | hj
    · rfl
    · rw [hβn, hβ j (hlt j hj)] at hij; exact absurd hij.symm (hgn j hj)
    · rw [hβn, hβ i (hlt i hi)] at hij; exact absurd hij (hgn i hi)
    · rw [hβ i (hlt i hi), hβ j (hlt j hj)] at hij; exact h.inj i j hi hj hij
  · intro i hi
    rcases Nat.lt_or_ge i k.nx with hi' | hi'
    · rw [hβ i hi']; exact Nat.lt_of_lt_of_le (h.lt i hi') hsz
    · have : i = k.nx := by simp [K.grow] at hi; omega
      subst this; rw [hβn]; exact hg1
  · intro i hi
    rcases Nat.lt_or_ge i k.nx with hi' | hi'
    · rw [hβ i hi']; exact h.own i hi'
    · have : i = k.nx := by simp [K.grow] at hi; omega
      subst this; rw [hβn]; exact hg0
  · intro b p hb
    obtain ⟨g1, g2⟩ := h.g b p hb
    have hbg : b ≠ g := fun e => by subst e; exact hgG _ hb
    have hlt' : b < w.heap.size := (Array.getElem?_eq_some_iff.1 g1).1
    refine ⟨by rw [h2 b hlt' hbg]; exact g1, fun i hi => ?_⟩
    rcases hlive i hi with rfl | hi
    · rw [hβn]; exact fun e => hbg e.symm
    · rw [hβ i (hlt i hi)]; exact g2 i hi
  · intro b p hb
    obtain ⟨g1, g2, g3⟩ := h.ex b p hb
    have hbg : b ≠ g := fun e => by subst e; exact hgE _ hb
    have hlt' : b < w.heap.size := (Array.getElem?_eq_some_iff.1 g1).1
    refine ⟨by rw [h2 b hlt' hbg]; exact g1, fun i hi => ?_, g3⟩
    rcases hlive i hi with rfl | hi
    · rw [hβn]; exact fun e => hbg e.symm
    · rw [hβ i (hlt i hi)]; exact g2 i hi
  · refine ⟨h4.trans h.frame.os, h5.trans h.frame.tape, h6.trans h.frame.output, Nat.le_trans h.frame.size hsz, fun b hb => ?_⟩
    have := h.frame.size
    rw [h2 b (by omega) (by omega)]
    exact h.frame.block b hb

theorem HeapR.new (h : HeapR w0 k heap w) {o : DO} {ob : Obj} (ho : o.is (k.grow w.heap.size) ob) (h1 : w' = { w with heap := w.heap.push ob }) :
    HeapR w0 (k.grow w.heap.size) ((k.nx, o) :: heap) w' := by
  subst h1
  refine h.add ho (by simp) h.frame.size (fun j hj e => ?_) (fun o hG => ?_) (fun o hE => ?_) (by simp) (fun b hb _ => ?_) rfl rfl rfl
  · obtain ⟨p, hp, _⟩ := hj
    have := h.lt j (h.obj j p hp).1; omega
  · have := (Array.getElem?_eq_some_iff.1 (h.g _ _ hG).1).1; omega
  · have := (Array.getElem?_eq_some_iff.1 (h.ex _ _ hE).1).1; omega
  · simp only [Array.getElem?_push]; rw [if_neg (by omega)]

theorem CtR.grow {c : Ctr} (h : CtR k c) (n : Nat) : CtR (k.grow n) c := ⟨h.i, h.b, h.s, h.v, h.one⟩

/-- A state with one block more. -/
theorem StR.new (hs : StR w0 gl ro k s a w) {o : DO} {ob : Obj} (ho : o.is (k.grow w.heap.size) ob) (h1 : w' = { w with heap := w.heap.push ob }) :
    StR w0 gl ro (k.grow w.heap.size) { s with heap := (s.nx, o) :: s.heap, nx := s.nx + 1 } a w' := by
  have hle := K.le_grow k w.heap.size
  refine ⟨?_, hs.ct.grow _, hs.pc.mono hle, hs.env.mono hle, ?_, hs.gl.mono hle, ?_, ?_, ?_, ?_, ?_⟩
  · simp [K.grow, hs.nx]
  · have := hs.heap.new ho h1; rw [hs.nx] at this; exact this
  · rw [hs.marks]
    refine List.map_congr_left fun i hi => ?_
    simp [markOf, hle.β i (hs.marksLt i hi)]
  · exact fun i hi => Nat.lt_of_lt_of_le (hs.marksLt i hi) hle.nx
  · rw [hs.rnd]
    cases hr : s.rnd with
    | none => rfl
    | some i => simp [hle.β i (hs.rndLt i hr)]
  · exact fun i hi => Nat.lt_of_lt_of_le (hs.rndLt i hi) hle.nx
  · exact hs.memo.mono hle

theorem StR.upd (hs : StR w0 gl ro k s a w) {h' : List (Id × DO)} (hh : HeapR w0 k h' w') : StR w0 gl ro k { s with heap := h' } a w' :=
  ⟨hs.nx, hs.ct, hs.pc, hs.env, hh, hs.gl, hs.marks, hs.marksLt, hs.rnd, hs.rndLt, hs.memo⟩

/-- The world drew. -/
theorem HeapR.drew (h : HeapR w0 k heap w) (n : Nat) : HeapR w0 k heap { w with drawn := n } :=
  ⟨h.obj, h.inj, h.lt, h.own, h.g, h.ex, ⟨h.frame.os, h.frame.tape, h.frame.output, h.frame.size, h.frame.block⟩⟩

theorem run_getObj {r : Nat} {o : Obj} (h : w.heap[r]? = some o) (hc : ∀ c e f, o ≠ .cells c e f) : (getObj r).run P w = .ok o w := by
  simp only [getObj, Sem.run, h]

theorem run_setObj {r : Nat} {o o' : Obj} (h : w.heap[r]? = some o) (hc : ∀ c e f, o ≠ .cells c e f) : (setObj r o').run P w = .ok () { w with heap := w.heap.setIfInBounds r o' } := by
  simp only [setObj, Sem.run, h]

/-- A block that is no row of cells is set. -/
theorem HeapR.set (h : HeapR w0 k heap w) {i : Id} (hl : Live heap i) {o : DO} {ob : Obj} (ho : o.is k ob) :
    HeapR w0 k ((i, o) :: heap) { w with heap := w.heap.setIfInBounds (k.β i) ob } := by
  have hi : i < k.nx := by obtain ⟨p, hp, _⟩ := hl; exact (h.obj i p hp).1
  refine h.upd hl ho ?_ ?_ ?_ rfl rfl rfl
  · simp [h.lt i hi]
  · intro b hb; simp only [Array.getElem?_setIfInBounds]; rw [if_neg (fun e => hb e.symm)]
  · simp
end
end Go.Sx
/- The run of code: what a shown tree gives of the machine's walk (II). -/
namespace Go.Sx
open Go.RowKit

theorem stepR_scope {P : Program} {b : Frame} {a : Act} {k : List Item} {cs : List Frame} {w : World} {c : Code} :
    step P (lone (b.atR a (.code (.scope c) :: k)) cs w) = .next (lone (b.atR a (.code c :: .inScope c :: k)) cs w) :=
  step_lone_go (by simp [stepG, stepG.exec, Frame.atR])
theorem stepR_inScope {P : Program} {b : Frame} {a : Act} {k : List Item} {cs : List Frame} {w : World} {c : Code} :
    step P (lone (b.atR a (.inScope c :: k)) cs w) = .next (lone (b.atR a k) cs w) :=
  step_lone_go (by simp [stepG, stepG.exec, Frame.atR])

/-- A scope that no goto is left by. -/
theorem wpIn_scope {F : Fence} {n : Nat} {P : Program} {Q : Exit → Act → World → Prop} {a : Act} {w : World} {c : Code}
    (h : c.wpIn F n P (fun e a w => Q e a w ∧ ∀ l, e ≠ .goto l) a w) : (Code.scope c).wpIn F n P Q a w := by
  intro b k cs hro hb hr
  have h0 : (lone (b.atR a (.code (.scope c) :: k)) cs w).fenced P F := fenced_calm hb hr rfl
  obtain ⟨e, a₁, w₁, ⟨hq, hg⟩, harr⟩ := h b (.inScope c :: k) cs hro hb hr
  cases e with
  | normal => exact ⟨.normal, a₁, w₁, hq, .head h0 stepR_scope (StepsIn.trans harr (.one (fenced_calm hb hr rfl) stepR_inScope))⟩
  | exit id =>
    have hx : exitTo id (.inScope c :: k) = exitTo id k := by simp [exitTo]
    exact ⟨_, a₁, w₁, hq, fun k' hk => .head h0 stepR_scope (harr.1 k' (by rw [hx]; exact hk)),
      fun hr' hk => let ⟨k₁, h1, h2⟩ := harr.2 hr' (by rw [hx]; exact hk); ⟨k₁, h1, .head h0 stepR_scope h2⟩⟩
  | goto l => exact absurd rfl (hg l)
  | ret => exact ⟨_, a₁, w₁, hq, .of_steps (.one h0 stepR_scope) harr⟩
  | panic ch => exact ⟨_, a₁, w₁, hq, .of_steps (.one h0 stepR_scope) harr⟩
  | outgrown => exact ⟨_, a₁, w₁, hq, .of_steps (.one h0 stepR_scope) harr⟩

theorem roundsIn_mono {F : Fence} {n : Nat} {P : Program} {c : Code} {Q Q' : Exit → Act → World → Prop} (h : ∀ e a w, Q e a w → Q' e a w) :
    ∀ (m : Nat) (a : Act) (w : World), Code.roundsIn F n P c Q m a w → Code.roundsIn F n P c Q' m a w
  | 0, _, _, x => x
  | m + 1, a, w, x => by
    rw [roundsIn_succ] at x ⊢
    refine wpIn_mono x fun e a w y => ?_
    cases e <;> first | exact roundsIn_mono h m _ _ y | exact h _ _ _ y

def NV : Next → Option Value
  | .value v => some v
  | .skip => some undef
  | _ => none

def OpPostN (w0 : Fr) (gl : Glob) (ro : Option Nat) (a : Act) (Q : Env → GS → Out → St → Prop) (k : K) (w : World) (reads : Prop) (r : Result Next) : Prop :=
  ∃ k' x v d s' w', r = .ok x w' ∧ NV x = some v ∧ k.le k' ∧ StR w0 gl ro k' s' a w' ∧ d.is k' v ∧ Q k'.ρ k'.G (.val d) s' ∧ (reads → x = .value v ∧ w' = w)

def RetTo (next : Value → World → Prop) : Ending → World → Prop
  | .returned v, w => next v w
  | _, _ => False

def CallRes (ro : Option Nat) (m : Nat) (P : Program) (next : Value → World → Prop) : Result Next → Prop
  | .ok (.value v) w' => next v w'
  | .ok (.enter g args) w' => CallsIn (WF ro) m P g args w' (RetTo next)
  | .ok (.round l f tmps asg body) w' => RoundIn (WF ro) m P l f tmps asg body w' (RetTo next)
  | _ => False

theorem callRes_mono {ro : Option Nat} {m : Nat} {P : Program} {N N' : Value → World → Prop} {r : Result Next} (h : CallRes ro m P N r) (hn : ∀ v w, N v w → N' v w) : CallRes ro m P N' r := by
  cases r with
  | halt x w' => exact h.elim
  | ok x w' =>
    cases x <;> first
      | exact hn _ _ h
      | exact CallsIn.mono h fun e w'' g => by cases e <;> first | exact hn _ _ g | exact g.elim
      | exact RoundIn.mono h fun e w'' g => by cases e <;> first | exact hn _ _ g | exact g.elim
      | exact h.elim

/-- An operation that makes a block, whatever the world. -/
def Makes (P : Program) (ev : Operand → Value) (o : Oper) (T : TypeId) (vs : List Value) (mk : Addr → Value) : Prop :=
  ∀ w : World, (execOp ev o).run P w = .ok (.value (mk ⟨w.heap.size, 0, none⟩)) { w with heap := w.heap.push (.cells vs.toArray T) }

/-- The same, told by its tree. -/
def MakesD (P : Program) (gl : Glob) (k : K) (s : St) (a : Act) (o : Oper) : Prop :=
  ∃ (T : TypeId) (cs : List DV) (vs : List Value) (mk : Addr → Value) (mkd : Ref → DV),
    opD P gl s o = retv { s with heap := (s.nx, .row cs T) :: s.heap, nx := s.nx + 1 } (mkd ⟨.id s.nx, .lit 0⟩) ∧ Makes P a.eval o T vs mk ∧ DV.iss k cs vs ∧ allOne cs = true ∧
    ∀ (k' : K) (r : Ref) (ad : Addr), r.is k' (some ad) → (mkd r).is k' (mk ad)

/-- What is to be known of the program and of the settings. -/
structure CfgOK (C : Cfg) : Prop where
  num : ∀ (f : FuncId) (fn : Func), C.P.funcs[f]? = some fn → (fn.name == "runtime.NumGoroutine") = false
  prim : ∀ (w0 : Fr) (ro : Option Nat) (k : K) (s s' : St) (a : Act) (w : World) (g : FuncId) (args : List DV) (vs : List Value) (d : DV), StR w0 C.gl ro k s a w → DV.iss k args vs → C.prim g args s = some (d, s') →
    ∀ m, CallRes ro m C.P (fun v w' => ∃ k', k.le k' ∧ k'.ρ = k.ρ ∧ k'.G = k.G ∧ StR w0 C.gl ro k' s' a w' ∧ d.is k' v) ((callFunc g vs.toArray).run C.P w)
  op : ∀ (w0 : Fr) (ro : Option Nat) (k : K) (s : St) (a : Act) (w : World) (Q : Env → GS → Out → St → Prop) (B : Backs) (o : Oper),
    StR w0 C.gl ro k s a w → (opD C.P C.gl s o).sat C.P Q B k.ρ k.G → OpPostN w0 C.gl ro a Q k w (readOp o.op = true) ((execOp a.eval o).run C.P w)
  nodefer : ∀ (gl : Glob) (s : St) (o : Oper) (c : Call), o.op = .defer c → opD C.P gl s o = .fail "op"
  orders : C.P.follows .mixedOrders = true
  pure : ∀ (gl : Glob) (s s' : St) (o : Oper) (d : DV), pureOp o.op = true → opD C.P gl s o = .leaf (.val d) s' → s' = s
  make : ∀ (w0 : Fr) (ro : Option Nat) (k : K) (s : St) (a : Act) (w : World) (Q : Env → GS → Out → St → Prop) (B : Backs) (o : Oper),
    StR w0 C.gl ro k s a w → isMake o.op = true → (opD C.P C.gl s o).sat C.P Q B k.ρ k.G → MakesD C.P C.gl k s a o

/-- Where a call's value goes. -/
def ValPost (w0 : Fr) (gl : Glob) (ro : Option Nat) (a : Act) (Q : Env → GS → Out → St → Prop) (k : K) : Value → World → Prop :=
  fun v w' => ∃ k' d s', k.le k' ∧ StR w0 gl ro k' s' a w' ∧ d.is k' v ∧ Q k'.ρ k'.G (.val d) s'

section
variable (C : Cfg) (w0 : Fr)

def CodeOK (n : Nat) : Prop := ∀ c s k a w Q B ro m, StR w0 C.gl ro k s a w → (ev C n (.code c) s).sat C.P Q B k.ρ k.G → c.wpIn (WF ro) m C.P (CodePost w0 C.gl ro Q k) a w
def OpsOK (n : Nat) : Prop := ∀ l all s k a w Q B ro m, StR w0 C.gl ro k s a w → (ev C n (.ops l all) s).sat C.P Q B k.ρ k.G →
  wpListIn (WF ro) m C.P all (CodePost w0 C.gl ro Q k) l a w
def CallOKn (n : Nat) : Prop := ∀ f args fv vs s k a w Q B ro m, StR w0 C.gl ro k s a w → f.is k fv → DV.iss k args vs → (ev C n (.call f args) s).sat C.P Q B k.ρ k.G →
  CallRes ro m C.P (ValPost w0 C.gl ro a Q k) ((do let d ← Deferred.ofValue fv vs.toArray; invoke d.target d.args : Sem Next).run C.P w)
def EnterOK (n : Nat) : Prop := ∀ g args vs s k a w Q B ro m, StR w0 C.gl ro k s a w → DV.iss k args vs → (ev C n (.enter g args) s).sat C.P Q B k.ρ k.G →
  CallsIn (WF none) m C.P g vs.toArray w (RetTo (ValPost w0 C.gl ro a Q k)) ∧ ∃ fn, C.P.funcs[g]? = some fn ∧ fn.body.isSome = true
def LoopOK (n : Nat) : Prop := ∀ c left s k a w Q B ro m, StR w0 C.gl ro k s a w → (ev C n (.loop c left) s).sat C.P Q B k.ρ k.G →
  Code.roundsIn (WF ro) m C.P c (CodePost w0 C.gl ro Q k) left a w
end

section
variable {C : Cfg} {w0 : Fr} {ro : Option Nat} {k : K} {s : St} {a : Act} {w : World} {Q : Env → GS → Out → St → Prop} {B : Backs} {n : Nat}

theorem loop_step (hc : CodeOK C w0 n) (hl : LoopOK C w0 n) : LoopOK C w0 (n + 1) := by
  intro c left s k a w Q B ro m hs h
  cases left with
  | zero => simp [ev, Tr.sat] at h
  | succ left =>
    simp only [ev] at h
    rw [Tr.sat_bind] at h
    rw [roundsIn_succ]
    refine wpIn_mono (hc _ _ _ _ _ _ _ _ m hs h) ?_
    rintro e a' w' ⟨k', o, s', hle, hs', hq, he⟩
    cases o with
    | norm =>
      simp only [exitOf, Option.some.injEq] at he; subst he
      exact roundsIn_mono (fun e a w g => CodePost.mono hle g) _ _ _ (hl _ _ _ _ _ _ _ _ _ m hs' hq)
    | _ =>
      simp only [exitOf, Option.some.injEq, reduceCtorEq] at he
      try (subst he; exact ⟨k', _, s', hle, hs', hq, rfl⟩)

theorem code_step (ho : OpsOK C w0 n) (hc : CodeOK C w0 n) 
    (hl : ∀ x s k a w Q B ro m, StR w0 C.gl ro k s a w → (ev C (n + 1) (.code (.loop x)) s).sat C.P Q B k.ρ k.G → (Code.loop x).wpIn (WF ro) m C.P (CodePost w0 C.gl ro Q k) a w)
    (hdr : ∀ id ops s k a w Q B ro m, StR w0 C.gl ro k s a w → (ev C n (.draw ops (Array.replicate ops.size false) []) s).sat C.P Q B k.ρ k.G →
      (Code.region id ops true).wpIn (WF ro) m C.P (CodePost w0 C.gl ro Q k) a w)
    (hr : ∀ f ps asg body s k a w Q B ro m, StR w0 C.gl ro k s a w → (ev C (n + 1) (.code (.rangeFunc f ps asg body)) s).sat C.P Q B k.ρ k.G →
      (Code.rangeFunc f ps asg body).wpIn (WF ro) m C.P (CodePost w0 C.gl ro Q k) a w) : CodeOK C w0 (n + 1) := by
  intro c s k a w Q B ro m hs h
  cases c with
  | skip => exact wpIn_skip ⟨k, _, s, K.le.refl k, hs, by simpa [ev, Tr.sat] using h, rfl⟩
  | label l => exact wpIn_label ⟨k, _, s, K.le.refl k, hs, by simpa [ev, Tr.sat] using h, rfl⟩
  | exit id => exact wpIn_exit ⟨k, _, s, K.le.refl k, hs, by simpa [ev, Tr.sat] using h, rfl⟩
  | goto id => exact wpIn_goto ⟨k, _, s, K.le.refl k, hs, by simpa [ev, Tr.sat] using h, rfl⟩
  | ret => exact wpIn_ret ⟨k, _, s, K.le.refl k, hs, by simpa [ev, Tr.sat] using h, rfl⟩
  | refuse w => simp [ev, Tr.sat] at h
  | region id ops draw =>
    cases draw with
    | true => exact hdr _ _ _ _ _ _ _ _ _ m hs (by simpa [ev] using h)
    | false => exact wpIn_region_list (ho _ _ _ _ _ _ _ _ _ m hs (by simpa [ev] using h))
  | seq x y =>
    simp only [ev] at h
    rw [Tr.sat_bind] at h
    refine wpIn_seq (wpIn_mono (hc _ _ _ _ _ _ _ _ m hs h) ?_)
    rintro e a' w' ⟨k', o, s', hle, hs', hq, he⟩
    cases o with
    | norm =>
      simp only [exitOf, Option.some.injEq] at he; subst he
      exact wpIn_mono (hc _ _ _ _ _ _ _ _ m hs' hq) (fun e a w g => CodePost.mono hle g)
    | _ =>
      simp only [exitOf, Option.some.injEq, reduceCtorEq] at he
      try (subst he; exact ⟨k', _, s', hle, hs', hq, rfl⟩)
  | cond x t e =>
    simp only [ev] at h
    obtain ⟨d, hd, h⟩ := sat_withOp h
    have hx := opd_sound hs hd
    cases d <;> try (simp [Tr.sat] at h; done)
    rename_i b
    obtain ⟨v, hv, hb⟩ := is_bool hx
    obtain ⟨p, hp, hbr⟩ := sat_branch hs ⟨v, hb⟩ h
    rcases hbr with ⟨h1, h2⟩ | ⟨h1, h2⟩
    · have : v = true := isB_true hb h1
      subst this
      exact wpIn_cond_true hv (hc _ _ _ _ _ _ _ _ m (hs.withPc hp) h2)
    · have : v = false := by rw [← hb.here, h1.here]
      subst this
      exact wpIn_cond_false hv (hc _ _ _ _ _ _ _ _ m (hs.withPc hp) h2)
  | block id x =>
    simp only [ev] at h
    rw [Tr.sat_bind] at h
    refine wpIn_block (wpIn_mono (hc _ _ _ _ _ _ _ _ m hs h) ?_)
    rintro e a' w' ⟨k', o, s', hle, hs', hq, he⟩
    cases o with
    | exit i =>
      simp only [exitOf, Option.some.injEq] at he; subst he
      simp only [Exit.inBlock]
      by_cases hi : i = id
      · subst hi
        simp only [beq_self_eq_true, if_true] at hq ⊢
        exact ⟨k', _, s', hle, hs', hq, rfl⟩
      · have : (i == id) = false := by simpa using hi
        simp only [this, Bool.false_eq_true, if_false] at hq
        rw [if_neg hi]
        exact ⟨k', _, s', hle, hs', hq, rfl⟩
    | _ =>
      simp only [exitOf, Option.some.injEq, reduceCtorEq] at he
      try (subst he; exact ⟨k', _, s', hle, hs', hq, rfl⟩)
  | loop x => exact hl _ _ _ _ _ _ _ _ m hs h
  | scope x =>
    simp only [ev] at h
    rw [Tr.sat_bind] at h
    refine wpIn_scope (wpIn_mono (hc _ _ _ _ _ _ _ _ m hs h) ?_)
    rintro e a' w' ⟨k', o, s', hle, hs', hq, he⟩
    cases o with
    | goto l => exact hq.elim
    | _ =>
      simp only [exitOf, Option.some.injEq, reduceCtorEq] at he
      try (subst he; exact ⟨⟨k', _, s', hle, hs', hq, rfl⟩, fun l => by simp⟩)
  | rangeFunc f ps asg body => exact hr f ps asg body s k a w Q B ro m hs h
end
end Go.Sx
/- The run of code: regions, calls, rounds (III). -/
namespace Go.Sx
open Go.RowKit

theorem LetsOut.mono {Q Q' : Exit → Act → World → Prop} (h : ∀ e a w, Q e a w → Q' e a w) (g : LetsOut Q) : LetsOut Q' :=
  let ⟨a, w, x⟩ := g; ⟨a, w, h _ _ _ x⟩

theorem Oper.wpIn_mono2 {F : Fence} {n : Nat} {P : Program} {o : Oper} {a : Act} {w : World} {K K' : Act → World → Prop} {Q Q' : Exit → Act → World → Prop}
    (h : ∀ a w, K a w → K' a w) (hq : ∀ e a w, Q e a w → Q' e a w) (hh : o.wpIn F n P a w K Q) : o.wpIn F n P a w K' Q' := by
  unfold Oper.wpIn at *
  refine ⟨hh.1, ?_⟩
  have hh := hh.2
  generalize (o.semAt F.round a.eval).run P w = r at *
  cases r with
  | ok x w' =>
    cases x <;> simp only [Oper.uponIn] at hh ⊢ <;>
      first
        | exact h _ _ hh
        | exact ⟨hh.1, CallsIn.mono hh.2 (fun e w'' he => by cases e <;> first | exact h _ _ he | exact hq _ _ _ he | exact LetsOut.mono hq he)⟩
        | exact ⟨hh.1, RowsIn.mono hh.2 (fun _ _ he => h _ _ he)⟩
        | exact ⟨hh.1, RoundIn.mono hh.2 (fun e w'' he => by cases e <;> first | exact h _ _ he | exact hq _ _ _ he | exact LetsOut.mono hq he)⟩
  | halt x w' => cases x <;> simp only [Oper.uponIn] at hh ⊢ <;> first | exact hq _ _ _ hh | exact hh

theorem wpListIn_mono {F : Fence} {n : Nat} {P : Program} {ops : Array Oper} {Q Q' : Exit → Act → World → Prop} (hq : ∀ e a w, Q e a w → Q' e a w) :
    ∀ (l : List Oper) (a : Act) (w : World), wpListIn F n P ops Q l a w → wpListIn F n P ops Q' l a w
  | [], _, _, h => hq _ _ _ h
  | o :: l, a, w, h => by
    simp only [wpListIn] at h ⊢
    split
    · rename_i hw; simp only [hw, if_true] at h; exact Oper.wpIn_mono2 (wpListIn_mono hq l) hq h
    · rename_i hw; simp only [hw] at h; exact ⟨h.1, wpListIn_mono hq l _ _ h.2⟩

section
variable {C : Cfg} {w0 : Fr} {ro : Option Nat} {k : K} {s : St} {a : Act} {w : World} {Q : Env → GS → Out → St → Prop} {B : Backs} {n m : Nat}

theorem upon_of_callRes {P : Program} {o : Oper} {next : Value → World → Prop} {K' : Act → World → Prop} {Q' : Exit → Act → World → Prop} {r : Result Next}
    (h : CallRes ro (m - 1) P next r) (hk : ∀ v w', next v w' → K' (a.put o.dst v) w') : o.uponIn (WF ro) m P a K' Q' r := by
  cases r with
  | halt x w' => exact h.elim
  | ok x w' =>
    cases x <;> first
      | exact hk _ _ h
      | exact ⟨WF_depth _ _, CallsIn.mono h fun e w'' g => by cases e <;> first | exact hk _ _ g | exact g.elim⟩
      | exact ⟨WF_depth _ _, RoundIn.mono h fun e w'' g => by cases e <;> first | exact hk _ _ g | exact g.elim⟩
      | exact h.elim

/-- One operation, whatever it is. -/
def opTr (C : Cfg) (n : Nat) (o : Oper) (s : St) : Tr :=
  match o.op with
  | .call { callee := .value f, args, .. } => withOp s f fun f => withOps s args.toList fun ds => ev C n (.call f ds) s
  | _ => opD C.P C.gl s o

theorem opTr_sound (hC : CfgOK C) (hcall : CallOKn C w0 n) (hs : StR w0 C.gl ro k s a w) {o : Oper} (h : (opTr C n o s).sat C.P Q B k.ρ k.G)
    {K' : Act → World → Prop} {Q' : Exit → Act → World → Prop} (hk : ∀ v w', ValPost w0 C.gl ro a Q k v w' → K' (a.put o.dst v) w') :
    o.wpIn (WF ro) m C.P a w K' Q' := by
  refine ⟨fun f _ => WF_fn ro f, ?_⟩
  unfold opTr at h
  split at h
  · rename_i f args argT hop
    obtain ⟨df, hdf, h⟩ := sat_withOp h
    obtain ⟨ds, hds, h⟩ := sat_withOps h
    have hres := hcall df ds _ _ s k a w Q B ro (m - 1) hs (opd_sound hs hdf) (opds_sound hs hds) h
    rw [Oper.semAt_eq _ _ _ (fun c hc => by rw [hop] at hc; cases hc)]
    have he : execOp a.eval o = (do let d ← Deferred.ofValue (a.eval f) (args.toList.map a.eval).toArray; invoke d.target d.args : Sem Next) := by
      simp only [execOp, hop, resolve]
      congr 2
      rw [← Array.toList_map]
    rw [he]
    exact upon_of_callRes hres hk
  · rename_i hop
    have hnd : ∀ c, o.op ≠ .defer c := fun c hc => by rw [hC.nodefer _ _ _ _ hc] at h; simp [Tr.sat] at h
    rw [Oper.semAt_eq _ _ _ hnd]
    obtain ⟨k', x, v, d, s', w', hr, hv, hle, hs', hd, hq, _⟩ := hC.op _ _ _ _ _ _ _ _ _ hs h
    rw [hr]
    have := hk v w' ⟨k', d, s', hle, hs', hd, hq⟩
    cases x <;> simp [NV] at hv
    · subst hv; exact this
    · subst hv; exact this

theorem ops_step (hC : CfgOK C) (hcall : CallOKn C w0 n) (hops : OpsOK C w0 n) : OpsOK C w0 (n + 1) := by
  intro l all s k a w Q B ro m hs h
  cases l with
  | nil => exact ⟨k, _, s, K.le.refl k, hs, by simpa [ev, Tr.sat] using h, rfl⟩
  | cons o l =>
    have hdo : ∀ s : St, StR w0 C.gl ro k s a w →
        ((opTr C n o s).bind fun out s => match out with | .val d => ev C n (.ops l all) (s.put o.dst d) | _ => .fail "ops: no value").sat C.P Q B k.ρ k.G →
        o.wpIn (WF ro) m C.P a w (wpListIn (WF ro) m C.P all (CodePost w0 C.gl ro Q k) l) (CodePost w0 C.gl ro Q k) := by
      intro s hs h
      rw [Tr.sat_bind] at h
      refine opTr_sound hC hcall hs h ?_
      rintro v w' ⟨k', d, s', hle, hs', hd, hq⟩
      exact wpListIn_mono (fun e a w g => CodePost.mono hle g) _ _ _ (hops _ _ _ _ _ _ _ _ _ m (hs'.put hd o.dst) hq)
    have hskip : ∀ s : St, StR w0 C.gl ro k s a w → (ev C n (.ops l all) (s.put o.dst undefD)).sat C.P Q B k.ρ k.G →
        wpListIn (WF ro) m C.P all (CodePost w0 C.gl ro Q k) l (a.put o.dst undef) w :=
      fun s hs h => hops _ _ _ _ _ _ _ _ _ m (hs.put mk_undef o.dst) h
    simp only [wpListIn]
    simp only [ev] at h
    change (match o.guard with
      | none => _
      | some (j, want) => _ : Tr).sat C.P Q B k.ρ k.G at h
    cases hg : o.guard with
    | none =>
      simp only [hg] at h
      have hw : Region.wanted o (yielded all a.tmps) = true := by simp [Region.wanted, hg]
      rw [if_pos hw]
      exact hdo s hs h
    | some jw =>
      obtain ⟨j, want⟩ := jw
      simp only [hg] at h
      have hw : Region.wanted o (yielded all a.tmps) = (yielded all a.tmps j == some want) := by simp [Region.wanted, hg]
      rw [hw]
      cases hge : ((dstOf all j).bind (s.get ·)).bind fun d => guardE (strip s.pc d) want with
      | none => rw [hge] at h; simp [Tr.sat] at h
      | some g =>
        rw [hge] at h
        simp only [Option.bind_eq_some_iff] at hge
        obtain ⟨d, hd, hge⟩ := hge
        obtain ⟨v, hv, hy⟩ := yielded_sound hs (all := all) (j := j) (d := d) (by simpa [Option.bind_eq_some_iff] using hd)
        have hgB : g.isB k (yielded all a.tmps j == some want) := fun k' hle => by
          rw [guardE_den k' want hge, hy want, strip_sound hs.pc hv k' hle]
        have yes : ∀ s' : St, StR w0 C.gl ro k s' a w → g.isB k true → ((opTr C n o s').bind fun out s => match out with | .val d => ev C n (.ops l all) (s.put o.dst d) | _ => .fail "ops: no value").sat C.P Q B k.ρ k.G →
            (if (yielded all a.tmps j == some want) = true then o.wpIn (WF ro) m C.P a w (wpListIn (WF ro) m C.P all (CodePost w0 C.gl ro Q k) l) (CodePost w0 C.gl ro Q k)
              else (∀ f, o.about C.P w a.eval = some f → (WF ro).fn f) ∧ wpListIn (WF ro) m C.P all (CodePost w0 C.gl ro Q k) l (a.put o.dst undef) w) := by
          intro s' hs' ht h
          rw [if_pos (isB_true hgB ht)]
          exact hdo s' hs' h
        have no : ∀ s' : St, StR w0 C.gl ro k s' a w → g.isB k false → (ev C n (.ops l all) (s'.put o.dst undefD)).sat C.P Q B k.ρ k.G →
            (if (yielded all a.tmps j == some want) = true then o.wpIn (WF ro) m C.P a w (wpListIn (WF ro) m C.P all (CodePost w0 C.gl ro Q k) l) (CodePost w0 C.gl ro Q k)
              else (∀ f, o.about C.P w a.eval = some f → (WF ro).fn f) ∧ wpListIn (WF ro) m C.P all (CodePost w0 C.gl ro Q k) l (a.put o.dst undef) w) := by
          intro s' hs' ht h
          have : (yielded all a.tmps j == some want) = false := by rw [← hgB.here, ht.here]
          rw [if_neg (by simp [this])]
          exact ⟨fun f _ => WF_fn ro f, hskip s' hs' h⟩
        have both : (branch s g (fun s => (opTr C n o s).bind fun out s => match out with | .val d => ev C n (.ops l all) (s.put o.dst d) | _ => .fail "ops: no value")
            (fun s => ev C n (.ops l all) (s.put o.dst undefD))).sat C.P Q B k.ρ k.G →
            (if (yielded all a.tmps j == some want) = true then o.wpIn (WF ro) m C.P a w (wpListIn (WF ro) m C.P all (CodePost w0 C.gl ro Q k) l) (CodePost w0 C.gl ro Q k)
              else (∀ f, o.about C.P w a.eval = some f → (WF ro).fn f) ∧ wpListIn (WF ro) m C.P all (CodePost w0 C.gl ro Q k) l (a.put o.dst undef) w) := fun h => by
          obtain ⟨p, hp, hbr⟩ := sat_branch hs ⟨_, hgB⟩ h
          rcases hbr with ⟨h1, h2⟩ | ⟨h1, h2⟩
          · exact yes _ (hs.withPc hp) h1 h2
          · exact no _ (hs.withPc hp) h1 h2
        simp only at h
        split at h
        · rename_i hb; exact yes s hs (decideE_sound hs.pc hb) h
        · rename_i hb; exact no s hs (decideE_sound hs.pc hb) h
        · split at h
          · rename_i hpure
            split at h
            · rename_i d' s'' hleaf
              by_cases hyes : (yielded all a.tmps j == some want) = true
              · rw [if_pos hyes]
                rw [hyes] at hgB
                have hss := hC.pure _ _ _ _ _ hpure hleaf
                have hpost := hC.op w0 ro k { s with pc := assume g true s.pc } a w (fun ρ' G' o' s' => ρ' = k.ρ ∧ G' = k.G ∧ o' = .val d' ∧ s' = { s with pc := assume g true s.pc }) B o (hs.withPc (assume_sound hs.pc hgB))
                  (by rw [hleaf]; simp [Tr.sat, hss])
                obtain ⟨k', x, v', d2, s', w', hr, hv', hle, hs', hd', ⟨hρ, hG, ho', hs2⟩, _⟩ := hpost
                injection ho' with ho'
                subst ho'
                subst hs2
                have hnd : ∀ c, o.op ≠ .defer c := fun c hc => by rw [hC.nodefer _ _ _ _ hc] at hleaf; simp at hleaf
                refine ⟨fun f _ => WF_fn ro f, ?_⟩
                rw [Oper.semAt_eq _ _ _ hnd, hr]
                have hs3 : StR w0 C.gl ro k' s a w' := ⟨hs'.nx, hs'.ct, hs.pc.mono hle, hs'.env, hs'.heap, hs'.gl, hs'.marks, hs'.marksLt, hs'.rnd, hs'.rndLt, hs'.memo⟩
                have hgd : (DV.gd g d2).is k' v' := fun k2 hle2 => by simp [DV.den, hgB k2 (hle.trans hle2), hd' k2 hle2]
                have := wpListIn_mono (fun e a w g => CodePost.mono hle g) _ _ _ (hops _ _ _ _ _ _ _ B _ m (hs3.put hgd o.dst) (by rw [hρ, hG]; exact h))
                cases x <;> simp [NV] at hv'
                · subst hv'; exact this
                · subst hv'; exact this
              · rw [if_neg hyes]
                have hf : (yielded all a.tmps j == some want) = false := by simpa using hyes
                rw [hf] at hgB
                refine ⟨fun f _ => WF_fn ro f, ?_⟩
                have hgd : (DV.gd g d').is k undef := fun k2 hle2 => by simp [DV.den, hgB k2 hle2]
                exact hops _ _ _ _ _ _ _ _ _ m (hs.put hgd o.dst) h
            · exact both h
          · exact both h
end
end Go.Sx
