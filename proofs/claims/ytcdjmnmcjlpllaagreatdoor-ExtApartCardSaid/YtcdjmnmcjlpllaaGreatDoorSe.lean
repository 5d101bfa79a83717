/- The run of code: functions entered, calls, rounds (IV). -/
import Derived.Test.YtcdjmnmcjlpllaaGreatDoorSc
import Derived.RangeFuncLeaves
import Derived.Test.YtcdjmnmcjlpllaaGreatDoorSd
set_option linter.unusedSimpArgs false
set_option linter.unusedVariables false
namespace Go.Sx
open Go.RowKit

section
variable {P : Program} {w0 : Fr} {gl : Glob} {ro ro' : Option Nat} {k k' : K} {s s' : St} {a a' : Act} {w w' : World} {Q : Env → GS → Out → St → Prop} {B : Backs} {n m : Nat}

theorem look_append {α : Type} (n : Nat) : ∀ (l m : List (Nat × α)), look n (l ++ m) = (look n l).or (look n m)
  | [], m => by simp [look]
  | (x, v) :: l, m => by
    simp only [List.cons_append, look]
    split
    · simp
    · exact look_append n l m

theorem look_argEnv (t : Nat) : ∀ (i : Nat) (l : List DV), look t (argEnv i l) = if i ≤ t then l[t - i]? else none
  | i, [] => by simp [argEnv, look]
  | i, d :: l => by
    simp only [argEnv, look_cons, look_argEnv t (i + 1) l]
    by_cases h : i = t
    · subst h; simp
    · rw [if_neg h]
      by_cases h1 : i ≤ t
      · rw [if_pos (by omega), if_pos h1]
        obtain ⟨j, rfl⟩ : ∃ j, t = i + 1 + j := ⟨t - (i + 1), by omega⟩
        have e1 : i + 1 + j - (i + 1) = j := by omega
        have e2 : i + 1 + j - i = j + 1 := by omega
        rw [e1, e2]; simp
      · rw [if_neg (by omega), if_neg h1]

theorem look_undefs (t : Nat) : ∀ (c i : Nat), look t (undefs i c) = if i ≤ t ∧ t < i + c then some undefD else none
  | 0, i => by simp only [undefs, look]; rw [if_neg (by omega)]
  | c + 1, i => by
    simp only [undefs, look_cons, look_undefs t c (i + 1)]
    by_cases h : i = t
    · subst h; rw [if_pos rfl, if_pos (by omega)]
    · rw [if_neg h]
      by_cases h1 : i + 1 ≤ t ∧ t < i + 1 + c
      · rw [if_pos h1, if_pos (by omega)]
      · rw [if_neg h1, if_neg (by omega)]

theorem EnvR.enter {args : List DV} {vs : List Value} (h : DV.iss k args vs) (nt : Nat) :
    EnvR k (argEnv 0 args ++ undefs args.length (nt - args.length)) (max nt args.length) (vs.toArray ++ Array.replicate (nt - vs.toArray.size) undef) := by
  have hlen := h.length
  refine ⟨by simp; omega, fun t d hl ht => ?_⟩
  rw [look_append, look_argEnv, look_undefs] at hl
  simp only [Nat.zero_le, if_true, Nat.sub_zero] at hl
  rw [Array.getD_eq_getD_getElem?]
  rcases Nat.lt_or_ge t args.length with hlt | hge
  · have hd : args[t]? = some args[t] := List.getElem?_eq_getElem hlt
    rw [hd] at hl
    simp only [Option.some_or, Option.some.injEq] at hl
    subst hl
    obtain ⟨v, hv, hdv⟩ := h.get hd
    rw [Array.getElem?_append_left (by simp; omega)]
    simpa [hv] using hdv
  · rw [List.getElem?_eq_none hge, Option.none_or] at hl
    split at hl
    · simp only [Option.some.injEq] at hl; subst hl
      rw [Array.getElem?_append_right (by simp; omega)]
      rename_i hc
      have : (Array.replicate (nt - vs.toArray.size) undef)[t - vs.toArray.size]? = some undef := by
        rw [Array.getElem?_replicate, if_pos (by simp; omega)]
      rw [this]; exact mk_undef
    · simp at hl

/-- The caller's state, in the store of the callee's end. -/
theorem StR.back {w2 : World} (hs : StR w0 gl ro k s a w) (hle : k.le k') {h' : List (Id × DO)} (hs' : StR w0 gl ro' k' s' a' w') (hh : HeapR w0 k' h' w2) :
    StR w0 gl ro k' { s' with heap := h', fn := s.fn, env := s.env, nt := s.nt, rnd := s.rnd, marks := s.marks } a w2 := by
  refine ⟨hs'.nx, hs'.ct, hs'.pc, hs.env.mono hle, hh, hs'.gl, ?_, ?_, ?_, ?_, hs'.memo⟩
  · rw [hs.marks]
    exact List.map_congr_left fun i hi => by simp [markOf, hle.β i (hs.marksLt i hi)]
  · exact fun i hi => Nat.lt_of_lt_of_le (hs.marksLt i hi) hle.nx
  · rw [hs.rnd]
    cases hr : s.rnd with
    | none => simp
    | some i => simp [hle.β i (hs.rndLt i hr)]
  · exact fun i hi => Nat.lt_of_lt_of_le (hs.rndLt i hi) hle.nx

def resSem (tmps : Array Value) (r : ResultVar) : Sem Value :=
  match r with
  | .tmp t => pure (tmps.getD t undef)
  | .cell ad t => do loadVar t (← asAddr (tmps.getD ad undef))

theorem resultOf_sound (hs : StR w0 gl ro k s a w) {r : ResultVar} {d : DV} (h : resultOf P gl s r = some d) :
    ∃ v, d.is k v ∧ (resSem a.tmps r).run P w = .ok v w := by
  cases r with
  | tmp t =>
    exact ⟨_, (St.get_sound hs h).2, rfl⟩
  | cell ad t =>
    simp only [resultOf] at h
    split at h
    · rename_i r hg
      simp only [Option.bind_eq_some_iff] at h
      obtain ⟨cs, hcs, hone⟩ := h
      obtain ⟨b, o, vs, hr, hvs, hlen, hcell⟩ := readCells_sound hs hcs
      obtain ⟨ad', hv, hra⟩ := is_ptr (St.get_sound hs hg).2
      have : ad' = some ⟨b, o, none⟩ := by rw [← hra k (K.le.refl k), hr k (K.le.refl k)]
      subst this
      obtain ⟨v, hrun, hd⟩ := run_loadVar (P := P) hone hvs hlen hcell
      refine ⟨v, hd, ?_⟩
      simp [resSem, hv, asAddr, hrun]
    · simp at h

theorem run_results (hs : StR w0 gl ro k s a w) : ∀ {rs : List ResultVar} {ds : List DV}, resultsOf P gl s rs = some ds →
    ∃ vs, DV.iss k ds vs ∧ (rs.mapM (resSem a.tmps)).run P w = .ok vs w
  | [], ds, h => by simp [resultsOf] at h; subst h; exact ⟨[], DV.iss_nil, by simp⟩
  | r :: rs, ds, h => by
    simp only [resultsOf] at h
    split at h
    · rename_i d ds' h1 h2
      simp only [Option.some.injEq] at h; subst h
      obtain ⟨v, hd, hrun⟩ := resultOf_sound hs h1
      obtain ⟨vs, hvs, hruns⟩ := run_results hs h2
      refine ⟨v :: vs, DV.iss_cons hd hvs, ?_⟩
      rw [List.mapM_cons]
      simp only [Sem.run_bind, hrun, Result.andThen_ok, hruns, Sem.run_pure]
    · simp at h

theorem retOf_sound {ds : List DV} {vs : List Value} (h : DV.iss k ds vs) : (retOf ds).is k (if h : vs.toArray.size = 1 then vs.toArray[0] else .tuple vs.toArray) := by
  match ds, vs, h, h.length with
  | [], [], h, _ => simpa [retOf] using mk_tup (k := k) DV.iss_nil
  | [d], [v], h, _ =>
    obtain ⟨v', vs', he, hd, _⟩ := DV.iss_cons_inv h
    injection he with he1 he2; subst he1
    simpa [retOf] using hd
  | d :: e :: l, v :: u :: m, h, _ => simpa [retOf] using mk_tup h
  | [], _ :: _, _, hl => simp at hl
  | _ :: _, [], _, hl => simp at hl
  | [_], _ :: _ :: _, _, hl => simp at hl
  | _ :: _ :: _, [_], _, hl => simp at hl

theorem results_sound (hs : StR w0 gl ro k s a w) {fn : Func} {ds : List DV} (h : resultsOf P gl s fn.results.toList = some ds) :
    ∃ v, (retOf ds).is k v ∧ (results fn a.tmps).run P w = .ok v w := by
  obtain ⟨vs, hvs, hrun⟩ := run_results hs h
  refine ⟨_, retOf_sound hvs, ?_⟩
  have he : results fn a.tmps = (do let vs ← fn.results.mapM (resSem a.tmps); pure (if h : vs.size = 1 then vs[0] else .tuple vs)) := rfl
  rw [he, Array.mapM_eq_mapM_toList]
  simp only [Sem.run_bind, Sem.run_map, hrun, Result.andThen_ok, Sem.run_pure]

/-- A function's way out: its marks, then its results. -/
theorem leaves_marks {F : Fence} {fn : Func} {tmps : Array Value} {R : Ending → World → Prop} : ∀ {l : List Id} {h h' : List (Id × DO)} {w : World},
    killMarks h l = some h' → HeapR w0 k h w →
    (∀ w', HeapR w0 k h' w' → ∃ v, (results fn tmps).run P w' = .ok v w' ∧ R (.returned v) w') →
    LeavesInM F n P fn tmps R (l.map (markOf k)) .returning w
  | [], h, h', w, hk, hh, hR => by
    simp [killMarks] at hk; subst hk
    simp only [List.map_nil, LeavesInM, LeavesIn]
    exact hR w hh
  | i :: l, h, h', w, hk, hh, hR => by
    simp only [killMarks] at hk
    split at hk
    · rename_i hl
      obtain ⟨hi, ob, hob, ho⟩ := hh.obj _ _ hl
      simp only [DO.is, if_true] at ho
      subst ho
      simp only [List.map_cons, LeavesInM]
      refine ⟨by simp, .inl ⟨k.β i, { w with heap := w.heap.setIfInBounds (k.β i) (.deferred none) }, rfl, ?_, ?_⟩⟩
      · simp only [Instr.takeDeferred, Sem.run_bind, run_getObj hob (by simp), Result.andThen_ok, run_setObj hob (by simp), Sem.run_pure]
      · exact leaves_marks hk (hh.set ⟨_, hl, rfl⟩ (o := .dfr false) (by simp [DO.is])) hR
    · simp at hk
end
end Go.Sx
/- The run of code: functions entered, calls, rounds (V). -/
namespace Go.Sx
open Go.RowKit

section
variable {C : Cfg} {w0 : Fr} {ro : Option Nat} {k : K} {s : St} {a : Act} {w : World} {Q : Env → GS → Out → St → Prop} {B : Backs} {n : Nat}

theorem enter_step (hc : CodeOK C w0 n) : EnterOK C w0 (n + 1) := by
  intro g args vs s k a w Q B ro m hs hv h
  simp only [ev] at h
  cases hf : C.P.funcs[g]? with
  | none => rw [hf] at h; simp [Tr.sat] at h
  | some fn =>
    rw [hf] at h
    simp only at h
    cases hb : fn.body with
    | none => rw [hb] at h; simp [Tr.sat] at h
    | some c =>
      rw [hb] at h
      simp only at h
      refine ⟨?_, fn, rfl, by simp [hb]⟩
      rw [Tr.sat_bind] at h
      have hs1 : StR w0 C.gl none k { s with fn := g, env := argEnv 0 args ++ undefs args.length (fn.ntmps - args.length), nt := max fn.ntmps args.length, rnd := none, marks := [] }
          { tmps := vs.toArray ++ Array.replicate (fn.ntmps - vs.toArray.size) undef, defers := [] } w :=
        ⟨hs.nx, hs.ct, hs.pc, EnvR.enter hv fn.ntmps, hs.heap, hs.gl, rfl, by simp, rfl, by simp, hs.memo⟩
      refine callsIn_of_wp_marks hf hb trivial (wpIn_mono (hc _ _ _ _ _ _ _ _ m hs1 h) ?_) rfl
      rintro e a' w' ⟨k', o, s', hle, hs', hq, he⟩
      have key : (match killMarks s'.heap s'.marks with
              | some h => match resultsOf C.P C.gl { s' with heap := h } fn.results.toList with
                | some ds => Tr.leaf (.val (retOf ds)) { s' with heap := h, fn := s.fn, env := s.env, nt := s.nt, rnd := s.rnd, marks := s.marks }
                | none => .fail "results"
              | none => .fail "marks" : Tr).sat C.P Q B k'.ρ k'.G →
          LeavesInM (WF none) m C.P fn a'.tmps (RetTo (ValPost w0 C.gl ro a Q k)) a'.defers .returning w' := by
        intro h
        cases hk : killMarks s'.heap s'.marks with
        | none => rw [hk] at h; simp [Tr.sat] at h
        | some hp =>
          rw [hk] at h
          simp only at h
          cases hres : resultsOf C.P C.gl { s' with heap := hp } fn.results.toList with
          | none => rw [hres] at h; simp [Tr.sat] at h
          | some ds =>
            rw [hres] at h
            simp only [Tr.sat] at h
            rw [hs'.marks]
            refine leaves_marks hk hs'.heap fun w2 hh => ?_
            obtain ⟨v, hd, hrun⟩ := results_sound (P := C.P) (hs'.upd hh) hres
            exact ⟨v, hrun, k', _, _, hle, hs.back hle hs' hh, hd, h⟩
      cases o with
      | norm => simp only [exitOf, Option.some.injEq] at he; subst he; exact key hq
      | ret => simp only [exitOf, Option.some.injEq] at he; subst he; exact key hq
      | exit i => exact hq.elim
      | goto i => exact hq.elim
      | val d => simp [exitOf] at he

structure CtrLe (c c' : Ctr) : Prop where
  i : c.i ≤ c'.i
  b : c.b ≤ c'.b
  s : c.s ≤ c'.s
  v : c.v ≤ c'.v

theorem CtrLe.refl (c : Ctr) : CtrLe c c := ⟨Nat.le_refl _, Nat.le_refl _, Nat.le_refl _, Nat.le_refl _⟩
theorem CtrLe.trans {a b c : Ctr} (h : CtrLe a b) (g : CtrLe b c) : CtrLe a c := ⟨Nat.le_trans h.i g.i, Nat.le_trans h.b g.b, Nat.le_trans h.s g.s, Nat.le_trans h.v g.v⟩

mutual
theorem fresh_mono : ∀ (sh : Sh) (c : Ctr), CtrLe c (sh.fresh c).2
  | .int _, c => ⟨Nat.le_succ _, Nat.le_refl _, Nat.le_refl _, Nat.le_refl _⟩
  | .bool, c => ⟨Nat.le_refl _, Nat.le_succ _, Nat.le_refl _, Nat.le_refl _⟩
  | .str, c => ⟨Nat.le_refl _, Nat.le_refl _, Nat.le_succ _, Nat.le_refl _⟩
  | .raw, c => ⟨Nat.le_refl _, Nat.le_refl _, Nat.le_refl _, Nat.le_succ _⟩
  | .tup l, c => by simpa only [Sh.fresh] using freshL_mono l c
  | .agg l, c => by simpa only [Sh.fresh] using freshL_mono l c
theorem freshL_mono : ∀ (l : List Sh) (c : Ctr), CtrLe c (Sh.freshL l c).2
  | [], c => by simpa only [Sh.freshL] using CtrLe.refl c
  | sh :: l, c => by simpa only [Sh.freshL] using (fresh_mono sh c).trans (freshL_mono l _)
end

structure CtrIn (c : Ctr) (k : K) : Prop where
  i : c.i ≤ k.ρ.i.length
  b : c.b ≤ k.ρ.b.length
  s : c.s ≤ k.ρ.s.length
  v : c.v ≤ k.ρ.v.length

theorem CtrLe.inK {c c' : Ctr} {k : K} (h : CtrLe c c') (g : CtrIn c' k) : CtrIn c k := ⟨Nat.le_trans h.i g.i, Nat.le_trans h.b g.b, Nat.le_trans h.s g.s, Nat.le_trans h.v g.v⟩

theorem getD_prefix {α : Type} {l m : List α} (h : l <+: m) {i : Nat} (hi : i < l.length) (d : α) : m.getD i d = l.getD i d := by
  obtain ⟨t, rfl⟩ := h
  simp [List.getElem?_append_left hi]

mutual
theorem fresh_den {k1 k2 : K} (hle : k1.le k2) : ∀ (sh : Sh) (c : Ctr), CtrIn (sh.fresh c).2 k1 → (sh.fresh c).1.den k2 = (sh.fresh c).1.den k1
  | .int t, c, h => by simp only [Sh.fresh, DV.den, E.ii]; rw [getD_prefix hle.ρ.i (by have := h.i; simp only [Sh.fresh] at this; omega)]
  | .bool, c, h => by simp only [Sh.fresh, DV.den, E.bb]; rw [getD_prefix hle.ρ.b (by have := h.b; simp only [Sh.fresh] at this; omega)]
  | .str, c, h => by simp only [Sh.fresh, DV.den, E.ss]; rw [getD_prefix hle.ρ.s (by have := h.s; simp only [Sh.fresh] at this; omega)]
  | .raw, c, h => by simp only [Sh.fresh, DV.den]; rw [getD_prefix hle.ρ.v (by have := h.v; simp only [Sh.fresh] at this; omega)]
  | .tup l, c, h => by simp only [Sh.fresh, DV.den]; rw [freshL_den hle l c (by simpa only [Sh.fresh] using h)]
  | .agg l, c, h => by simp only [Sh.fresh, DV.den]; rw [freshL_den hle l c (by simpa only [Sh.fresh] using h)]
theorem freshL_den {k1 k2 : K} (hle : k1.le k2) : ∀ (l : List Sh) (c : Ctr), CtrIn (Sh.freshL l c).2 k1 → DV.dens k2 (Sh.freshL l c).1 = DV.dens k1 (Sh.freshL l c).1
  | [], c, _ => by simp only [Sh.freshL, DV.dens]
  | sh :: l, c, h => by
    simp only [Sh.freshL] at h ⊢
    simp only [DV.dens]
    rw [fresh_den hle sh c ((freshL_mono l _).inK h), freshL_den hle l _ h]
end

theorem Fits.inK {x : Ext} {c c' : Ctr} (h : Fits x c c') (hc : CtR k c) (G : Nat → Option Obj) : CtrIn c' (k.app x G) :=
  ⟨by simp [K.app, Env.app, hc.i, h.i], by simp [K.app, Env.app, hc.b, h.b], by simp [K.app, Env.app, hc.s, h.s], by simp [K.app, Env.app, hc.v, h.v]⟩

theorem Fits.ctR {x : Ext} {c c' : Ctr} (h : Fits x c c') (hc : CtR k c) (G : Nat → Option Obj) : CtR (k.app x G) c' :=
  ⟨by simp [K.app, Env.app, hc.i, h.i], by simp [K.app, Env.app, hc.b, h.b], by simp [K.app, Env.app, hc.s, h.s], by simp [K.app, Env.app, hc.v, h.v], by
    intro u hu
    simp only [K.app, Env.app, List.mem_append] at hu
    rcases hu with hu | hu
    · exact hc.one u hu
    · exact h.one u hu⟩

theorem fresh_is {x : Ext} {sh : Sh} {c : Ctr} (h : Fits x c (sh.fresh c).2) (hc : CtR k c) (G : Nat → Option Obj) :
    (sh.fresh c).1.is (k.app x G) ((sh.fresh c).1.den (k.app x G)) := fun _ hle => fresh_den hle sh c (h.inK hc G)

/-- A world that has grown behind the store's back. -/
theorem HeapR.later {heap : List (Id × DO)} {w' : World} (h : HeapR w0 k heap w) {x : Ext} {G' : Nat → Option Obj} (hG : GLe k.G G') (hGw : GHeap G' w')
    (hfresh : ∀ b o, G' b = some o → k.G b = some o ∨ w.heap.size ≤ b) (hb : Below w.heap.size w w') : HeapR w0 (k.app x G') heap w' := by
  have hle := K.le_app k x hG
  refine ⟨?_, h.inj, fun i hi => Nat.lt_of_lt_of_le (h.lt i hi) hb.size, h.own, ?_, ?_, ?_⟩
  · intro i o hl
    obtain ⟨hi, ob, hob, ho⟩ := h.obj i o hl
    exact ⟨hi, ob, by rw [show (k.app x G').β i = k.β i from rfl, hb.block _ (h.lt i hi)]; exact hob, ho.mono hle⟩
  · intro b o hbo
    refine ⟨hGw b o hbo, fun i hlv => ?_⟩
    have hi : i < k.nx := by obtain ⟨p, hp, _⟩ := hlv; exact (h.obj i p hp).1
    rcases hfresh b o hbo with hk | hge
    · exact (h.g b o hk).2 i hlv
    · have := h.lt i hi
      show k.β i ≠ b
      omega
  · intro b o hbo
    obtain ⟨g1, g2, g3⟩ := h.ex b o hbo
    have hlt := (Array.getElem?_eq_some_iff.1 g1).1
    refine ⟨by rw [hb.block _ hlt]; exact g1, g2, fun p hp => ?_⟩
    rcases hfresh b p hp with hk | hge
    · exact g3 p hk
    · omega
  · exact h.frame.trans (hb.mono h.frame.size)

/-- What a contract gives a caller. -/
theorem contract_use {P : Program} {gl : Glob} (hs : StR w0 gl ro k s a w) {f : FuncId} {args : List DV} {vs : List Value} (hv : DV.iss k args vs) {sh : Sh}
    {R : Ext → GS → Prop} (hR : CallOK P k.ρ k.G f args sh s.ct R)
    (hq : ∀ x G', Fits x s.ct (sh.fresh s.ct).2 → GLe k.G G' → R x G' → Q (k.ρ.app x) G' (.val (sh.fresh s.ct).1) { s with ct := (sh.fresh s.ct).2 }) :
    Calls P f vs.toArray w (RetTo (ValPost w0 gl ro a Q k)) := by
  rw [← hv.here]
  refine (hR k.β k.nx w fun b o hb => (hs.heap.g b o hb).1).mono ?_
  rintro e w' ⟨x, G', hfit, hx, rfl, hG, hGw, hfresh, hbelow⟩
  have hle : k.le (k.app x G') := K.le_app k x hG
  exact ⟨k.app x G', _, { s with ct := (sh.fresh s.ct).2 }, hle, ⟨hs.nx, hfit.ctR hs.ct G', hs.pc.mono hle, hs.env.mono hle, hs.heap.later hG hGw hfresh hbelow, hs.gl.mono hle, hs.marks, hs.marksLt, hs.rnd, hs.rndLt, hs.memo.mono hle⟩,
    fresh_is hfit hs.ct G', hq x G' hfit hG hx⟩

theorem EnvR.params {nt : Nat} : ∀ {ps : List Tmp} {args : List DV} {vs : List Value} {env : List (Nat × DV)} {tmps : Array Value},
    EnvR k env nt tmps → DV.iss k args vs → ps.length = args.length →
    EnvR k (zipParams ps args env) nt ((ps.zip vs).foldl (fun tmps x => tmps.setIfInBounds x.1 x.2) tmps)
  | [], [], vs, env, tmps, h, hv, _ => by
    have := hv.length; simp at this; subst this; simpa [zipParams] using h
  | p :: ps, d :: args, vs, env, tmps, h, hv, hl => by
    obtain ⟨v, vs', rfl, hd, hv'⟩ := DV.iss_cons_inv hv
    simp only [zipParams, List.zip_cons_cons, List.foldl_cons]
    refine EnvR.params (env := (p, d) :: env) ⟨by simp [h.size], ?_⟩ hv' (by simpa using hl)
    intro t d' hlk ht
    rw [look_cons] at hlk
    split at hlk
    · rename_i hpt; subst hpt
      simp only [Option.some.injEq] at hlk; subst hlk
      simp only [Array.getD_eq_getD_getElem?, Array.getElem?_setIfInBounds]
      simpa [h.size, ht] using hd
    · rename_i hpt
      have := h.get t d' hlk ht
      simp only [Array.getD_eq_getD_getElem?, Array.getElem?_setIfInBounds] at this ⊢
      simpa [hpt] using this
  | [], _ :: _, _, _, _, _, _, hl => by simp at hl
  | _ :: _, [], _, _, _, _, _, hl => by simp at hl

theorem run_callFunc {P : Program} {f : FuncId} {fn : Func} (hf : P.funcs[f]? = some fn) (hn : (fn.name == "runtime.NumGoroutine") = false) (hb : fn.body.isSome = true) (args : Array Value) :
    (callFunc f args).run P w = .ok (.enter f args) w := by
  have h2 : fn.body.isNone = false := by cases h : fn.body <;> simp_all
  simp only [callFunc, Sem.run_bind, run_program, Result.andThen_ok, hf, hn, h2, Bool.false_eq_true, if_false, Sem.run_pure]


theorem run_getLoop {P : Program} {l : Nat} {r : Loop} (h : w.heap[l]? = some (.loop r)) : (Instr.getLoop l).run P w = .ok r w := by
  simp only [Instr.getLoop, Sem.run_bind, run_getObj h (by simp), Result.andThen_ok, Sem.run_pure]

theorem run_beginRound {P : Program} {l : Nat} {r : Loop} (h : w.heap[l]? = some (.loop r)) (hr : r.state = .ready) :
    (Instr.beginRound l).run P w = .ok () { w with heap := w.heap.setIfInBounds l (.loop { r with state := .busy }) } := by
  simp only [Instr.beginRound, Sem.run_bind, run_getLoop h, Result.andThen_ok, run_setObj h (by simp), hr, Sem.run_pure]

theorem run_endRound {P : Program} {l : Nat} {r : Loop} (h : w.heap[l]? = some (.loop r)) (jump : Option Code) :
    (Instr.endRound l jump).run P w = .ok (.bool jump.isNone) { w with heap := w.heap.setIfInBounds l (.loop { r with state := if jump.isNone then .ready else .done, pending := jump }) } := by
  simp only [Instr.endRound, Sem.run_bind, run_getLoop h, Result.andThen_ok, run_setObj h (by simp), Sem.run_pure]

theorem call_step (hC : CfgOK C) (hc : CodeOK C w0 n) (he : EnterOK C w0 n) : CallOKn C w0 (n + 1) := by
  intro f args fv vs s k a w Q B ro m hs hf hv h
  simp only [ev] at h
  split at h
  · -- a function
    rename_i g first caps
    obtain ⟨fs, cs, rfl, hfs, hcs⟩ := is_fn hf
    have hall : DV.iss k (first ++ args ++ caps) (fs ++ vs ++ cs) := DV.iss_append (DV.iss_append hfs hv) hcs
    have hrun : (do let d ← Deferred.ofValue (.func (.func g) fs.toArray cs.toArray) vs.toArray; invoke d.target d.args : Sem Next) = callFunc g (fs ++ vs ++ cs).toArray := by
      simp [Deferred.ofValue, invoke]
    rw [hrun]
    split at h
    · rename_i d s' hd
      refine callRes_mono (hC.prim _ _ _ _ _ _ _ _ _ _ _ hs hall hd m) ?_
      rintro v w' ⟨k', hle, hρ, hG, hs', hdv⟩
      exact ⟨k', d, s', hle, hs', hdv, by rw [hρ, hG]; exact h⟩
    · split at h
      · rename_i sh hsh
        split at h
        · simp [Tr.sat] at h
        · rename_i hbody
          simp only [Tr.sat, retv] at h
          obtain ⟨R, hR, hq⟩ := h
          obtain ⟨fn, hfn, hb⟩ : ∃ fn, C.P.funcs[g]? = some fn ∧ fn.body.isSome = true := by
            cases hfn : C.P.funcs[g]? with
            | none => simp [hfn] at hbody
            | some fn => exact ⟨fn, rfl, by cases hb : fn.body <;> simp_all⟩
          rw [run_callFunc hfn (hC.num _ _ hfn) hb]
          exact callsIn_round (ro := none) (callsIn_wide.2 (contract_use hs hall hR hq))
      · obtain ⟨h1, fn, hfn, hb⟩ := he _ _ _ _ _ a _ _ _ ro m hs hall h
        rw [run_callFunc hfn (hC.num _ _ hfn) hb]
        exact callsIn_round h1
  · -- a round
    rename_i l
    have hfv := is_yld hf
    subst hfv
    split at h
    · rename_i fn env nt ps asg body dfs hl
      split at h
      · simp [Tr.sat] at h
      · rename_i hlen
        have hlen : ps.length = args.length := by simpa using hlen
        obtain ⟨hli, ob, hob, fn', tmps, rfl, henv, hdfs⟩ := hs.heap.obj _ _ hl
        have hrun : (do let d ← Deferred.ofValue (.func (.yield (k.β l)) #[] #[]) vs.toArray; invoke d.target d.args : Sem Next) = Instr.yield (k.β l) vs.toArray := by
          simp [Deferred.ofValue, invoke]
        have hsz : ¬ vs.toArray.size ≠ ps.toArray.size := by have := hv.length; simp; omega
        have hy : (Instr.yield (k.β l) vs.toArray).run C.P w = .ok (.round (k.β l) fn' ((ps.zip vs).foldl (fun tmps x => tmps.setIfInBounds x.1 x.2) tmps) asg body) w := by
          simp only [Instr.yield, Sem.run_bind, run_getLoop hob, Result.andThen_ok, if_neg hsz, Sem.run_pure]
          simp
        rw [hrun, hy]
        rw [Tr.sat_bind] at h
        refine roundIn_of_wpIn trivial ?_
        have hs1 : StR w0 C.gl (some (k.β l)) k { s with fn := fn, env := zipParams ps args env, nt := nt, rnd := some l, marks := [] }
            { tmps := (ps.zip vs).foldl (fun tmps x => tmps.setIfInBounds x.1 x.2) tmps, defers := [] } w :=
          ⟨hs.nx, hs.ct, hs.pc, henv.params hv hlen, hs.heap, hs.gl, rfl, by simp, rfl, by rintro i ⟨⟩; exact hli, hs.memo⟩
        refine wpIn_mono (hc _ _ _ _ _ _ _ _ m hs1 h) ?_
        rintro e a2 w2 ⟨k2, o, s2, hle2, hs2, hq, heo⟩
        cases o with
        | norm =>
          simp only [exitOf, Option.some.injEq] at heo; subst heo
          simp only at hq
          split at hq
          · rename_i p2 f2 e2 n2 ps2 a2' b2 d2 hl2
            obtain ⟨hli2, ob2, hob2, hho2⟩ := hs2.heap.obj _ _ hl2
            obtain ⟨fn2, tmps2, rfl, henv2, hdfs2⟩ := hho2
            have hβ : k2.β l = k.β l := hle2.β l hli
            have hbr := run_beginRound (P := C.P) hob2 rfl
            rw [hβ] at hbr
            refine ⟨_, hbr, ?_⟩
            have hh2 := hs2.heap.set ⟨_, by assumption, rfl⟩ (o := .loop .busy p2 f2 e2 n2 ps2 a2' b2 d2) (ob := .loop { state := .busy, pending := p2, fn := fn2, tmps := tmps2, params := ps2.toArray, assign := a2', body := b2, defers := k2.β d2 }) ⟨fn2, tmps2, rfl, henv2, hdfs2⟩
            rw [hβ] at hh2
            rw [Tr.sat_bind] at hq
            refine wpIn_mono (hc _ _ _ _ _ _ _ _ m (hs2.upd hh2) hq) ?_
            rintro e3 a3 w3 ⟨k3, o3, s3, hle3, hs3, hq3, heo3⟩
            split at hq3
            · rename_i st3 pend3 f3 e3' n3 ps3 a3' b3 d3 hl3
              obtain ⟨hli3, ob3, hob3, hho3⟩ := hs3.heap.obj _ _ hl3
              obtain ⟨fn3, tmps3, rfl, henv3, hdfs3⟩ := hho3
              have hβ3 : k3.β l = k.β l := (hle2.trans hle3).β l hli
              have hend : ∀ jump : Option Code,
                  (Tr.leaf (.val (.bool (.bl jump.isNone))) { s3 with fn := s.fn, env := s.env, nt := s.nt, rnd := s.rnd, marks := s.marks, heap := (l, .loop (if jump.isNone then .ready else .done) jump f3 e3' n3 ps3 a3' b3 d3) :: s3.heap }).sat C.P Q B k3.ρ k3.G →
                  ∃ v w', (Instr.endRound (k.β l) jump).run C.P w3 = .ok v w' ∧ RetTo (ValPost w0 C.gl ro a Q k) (.returned v) w' := by
                intro jump hsat
                have hr := run_endRound (P := C.P) hob3 jump
                rw [hβ3] at hr
                refine ⟨_, _, hr, k3, .bool (.bl jump.isNone), _, hle2.trans hle3, ?_, mk_bool (isB_lit _), hsat⟩
                have hh3 := hs3.heap.set ⟨_, by assumption, rfl⟩ (o := .loop (if jump.isNone then .ready else .done) jump f3 e3' n3 ps3 a3' b3 d3)
                  (ob := .loop { state := if jump.isNone then .ready else .done, pending := jump, fn := fn3, tmps := tmps3, params := ps3.toArray, assign := a3', body := b3, defers := k3.β d3 }) ⟨fn3, tmps3, rfl, henv3, hdfs3⟩
                rw [hβ3] at hh3
                exact hs.back (hle2.trans hle3) hs3 hh3
              cases o3 with
              | norm => simp only [exitOf, Option.some.injEq] at heo3; subst heo3; exact hend none hq3
              | ret => simp only [exitOf, Option.some.injEq] at heo3; subst heo3; exact hend (some .ret) hq3
              | exit id => simp only [exitOf, Option.some.injEq] at heo3; subst heo3; exact hend (some (.exit id)) hq3
              | goto t => simp only [exitOf, Option.some.injEq] at heo3; subst heo3; exact hend (some (.goto t)) hq3
              | val d => exact hq3.elim
            · exact hq3.elim
          · exact hq.elim
        | ret => exact hq.elim
        | exit i => exact hq.elim
        | goto i => exact hq.elim
        | val d => exact hq.elim
    · simp [Tr.sat] at h
  · simp [Tr.sat] at h
end
end Go.Sx
/- The run of code: a range over a function; the whole (VI). -/
namespace Go.Sx
open Go.RowKit

section
variable {C : Cfg} {w0 : Fr} {ro : Option Nat} {k : K} {s : St} {a : Act} {w : World} {Q : Env → GS → Out → St → Prop} {B : Backs} {n : Nat}

theorem run_endLoop {P : Program} {l : Nat} {r : Loop} (h : w.heap[l]? = some (.loop r)) (hr : r.state ≠ .busy) :
    (Instr.endLoop l).run P w = .ok r.pending { w with heap := w.heap.setIfInBounds l (.loop { r with state := .exhausted }) } := by
  simp only [Instr.endLoop, Sem.run_bind, run_getLoop h, Result.andThen_ok]
  rw [if_neg (by simpa using hr)]
  simp only [Sem.run_bind, Sem.run_pure, Result.andThen_ok, run_setObj h (by simp)]

theorem EnvR.tmps {nt : Nat} {env : List (Nat × DV)} {tmps : Array Value} (h : EnvR k env nt tmps) : EnvR k env nt tmps := h

/-- Behind the blocks that a loop over a function lays. -/
theorem rangeFunc_tail (hC : CfgOK C) (he : EnterOK C w0 n) {f : Operand} {ps : Array Tmp} {asg body : Code} {fv : DV} {m : Nat} {k1 : K} {s1 : St} {a1 : Act} {w1 : World} {dfs : Id}
    {lm : List Deferred} (hle1 : k.le k1) (hs1 : StR w0 C.gl ro k1 s1 a1 w1) (hf : fv.is k (a.eval f)) (hdfs : dfs < k1.nx) (henv : EnvR k s.env s.nt a.tmps)
    (ha1 : a1 = { a with defers := lm ++ a.defers })
    (henter : ∀ fn, (Instr.enterLoop fn a.tmps ps asg body (WF ro).round).run C.P w =
      .ok (w1.heap.size, lm) { w1 with heap := w1.heap.push (.loop { state := .ready, pending := none, fn, tmps := a.tmps, params := ps, assign := asg, body, defers := k1.β dfs }) })
    (h : ((match fnParts fv with | some (g, first, caps) => ev C n (.enter g (first ++ [DV.yld s1.nx] ++ caps)) { s1 with heap := (s1.nx, .loop .ready none s.fn s.env s.nt ps.toList asg body dfs) :: s1.heap, nx := s1.nx + 1 } | none => Tr.fail "rangeFunc" : Tr).bind (endRange s1.nx)).sat C.P Q B k1.ρ k1.G) :
    (Code.rangeFunc f ps asg body).wpIn (WF ro) m C.P (CodePost w0 C.gl ro Q k) a w := by
  refine wpIn_rangeFunc fun fn _ => ?_
  rw [Tr.sat_bind] at h
  by_cases hfn : ∃ g first caps, fv = .fn (.func g) first caps
  · obtain ⟨g, first, caps, rfl⟩ := hfn
    obtain ⟨fs, cs, hfv, hfs, hcs⟩ := is_fn hf
    have hleg := K.le_grow k1 w1.heap.size
    have hle2 := hle1.trans hleg
    let ob : Obj := .loop { state := .ready, pending := none, fn, tmps := a.tmps, params := ps, assign := asg, body, defers := k1.β dfs }
    let w2 : World := { w1 with heap := w1.heap.push ob }
    have hnx : k1.nx = s1.nx := hs1.nx
    have hob : (DO.loop .ready none s.fn s.env s.nt ps.toList asg body dfs).is (k1.grow w1.heap.size) ob :=
      ⟨fn, a.tmps, by simp [ob, hleg.β dfs hdfs], henv.mono hle2, Nat.lt_of_lt_of_le hdfs hleg.nx⟩
    have hs2 := hs1.new (w' := w2) hob rfl
    have hyld : (DV.yld s1.nx).is (k1.grow w1.heap.size) (.func (.yield w1.heap.size) #[] #[]) := fun k' g' => by
      rw [DV.den, g'.β s1.nx (by simp [K.grow, hnx])]
      simp [K.grow, hnx]
    have hall : DV.iss (k1.grow w1.heap.size) (first ++ [DV.yld s1.nx] ++ caps) (fs ++ [.func (.yield w1.heap.size) #[] #[]] ++ cs) :=
      DV.iss_append (DV.iss_append (hfs.mono hle2) (DV.iss_cons hyld DV.iss_nil)) (hcs.mono hle2)
    obtain ⟨hcall, gfn, hgfn, hgb⟩ := he _ _ _ _ _ a1 _ _ _ ro (m - 1) hs2 hall h
    refine ⟨w1.heap.size, lm, w2, { target := .fn (.func g) cs.toArray, args := fs.toArray ++ #[Value.func (.yield w1.heap.size) #[] #[]] }, w2, g, (fs ++ [Value.func (.yield w1.heap.size) #[] #[]] ++ cs).toArray, w2,
      henter fn, ?_, fun f' _ => WF_fn ro f', ?_, WF_depth ro m, ?_⟩
    · have : resolve a.eval (rangeCall f w1.heap.size) 0 = Deferred.ofValue (a.eval f) #[Value.func (.yield w1.heap.size) #[] #[]] := by simp [resolve, Act.eval]
      rw [this, hfv]
      rfl
    · have : (fs.toArray ++ #[Value.func (.yield w1.heap.size) #[] #[]] ++ cs.toArray) = (fs ++ [Value.func (.yield w1.heap.size) #[] #[]] ++ cs).toArray := by simp
      simp only [invoke, this]
      exact run_callFunc hgfn (hC.num _ _ hgfn) hgb _
    · refine CallsIn.mono (callsIn_round hcall) ?_
      rintro e w3 hr
      cases e with
      | panicked c => exact hr.elim
      | outgrown => exact hr.elim
      | returned v =>
        obtain ⟨k3, d, s3, hle3, hs3, hd, hq⟩ := hr
        simp only [endRange] at hq
        split at hq
        · rename_i st pend fn3 env3 nt3 ps3 asg3 body3 dfs3 hl3
          obtain ⟨hli, ob3, hob3, fn', tmps', rfl, henv', hdfs'⟩ := hs3.heap.obj _ _ hl3
          split at hq
          · exact hq.elim
          · rename_i hst
            have hst : st ≠ .busy := by simpa using hst
            have hβ : k3.β s1.nx = w1.heap.size := by
              rw [hle3.β s1.nx (by simp [K.grow, hnx])]; simp [K.grow, hnx]
            have hend := run_endLoop (P := C.P) hob3 hst
            rw [hβ] at hend
            have hh := hs3.heap.set ⟨_, hl3, rfl⟩ (o := .loop .exhausted pend fn3 env3 nt3 ps3 asg3 body3 dfs3)
              (ob := .loop { state := .exhausted, pending := pend, fn := fn', tmps := tmps', params := ps3.toArray, assign := asg3, body := body3, defers := k3.β dfs3 }) ⟨fn', tmps', rfl, henv', hdfs'⟩
            rw [hβ] at hh
            have hs4 := hs3.upd hh
            have hle4 := hle2.trans hle3
            rw [ha1] at hs4
            refine ⟨pend, _, hend, ?_⟩
            split at hq
            · exact ⟨k3, _, _, hle4, hs4, hq, rfl⟩
            · exact wpIn_ret ⟨k3, _, _, hle4, hs4, hq, rfl⟩
            · exact wpIn_exit ⟨k3, _, _, hle4, hs4, hq, rfl⟩
            · exact wpIn_goto ⟨k3, _, _, hle4, hs4, hq, rfl⟩
            · exact hq.elim
        · exact hq.elim
  · exfalso
    split at h
    · rename_i hp
      refine hfn ?_
      unfold fnParts at hp
      split at hp
      · exact ⟨_, _, _, rfl⟩
      · simp at hp
    · exact h

theorem rangeFunc_step (hC : CfgOK C) (he : EnterOK C w0 n) : ∀ f ps asg body s k a w Q B ro m, StR w0 C.gl ro k s a w →
    (ev C (n + 1) (.code (.rangeFunc f ps asg body)) s).sat C.P Q B k.ρ k.G → (Code.rangeFunc f ps asg body).wpIn (WF ro) m C.P (CodePost w0 C.gl ro Q k) a w := by
  intro f ps asg body s k a w Q B ro m hs h
  simp only [ev] at h
  obtain ⟨fv, hfv, h⟩ := sat_withOp h
  have hf := opd_sound hs hfv
  split at h
  · exact h.elim
  · rename_i dfs s1 heq
    have hro := hs.rnd
    obtain ⟨rn, hr⟩ : ∃ x, s.rnd = x := ⟨_, rfl⟩
    cases rn with
    | none =>
      rw [hr] at heq
      simp only [Option.some.injEq, Prod.mk.injEq] at heq
      obtain ⟨rfl, rfl⟩ := heq
      rw [hr] at hro
      subst hro
      have hleg := K.le_grow k w.heap.size
      have hs1 := hs.new (o := .dfr true) (ob := .deferred (some [])) (w' := { w with heap := w.heap.push (.deferred (some [])) }) (by simp [DO.is]) rfl
      have hs1' : StR w0 C.gl none (k.grow w.heap.size) { s with heap := (s.nx, .dfr true) :: s.heap, nx := s.nx + 1, marks := s.nx :: s.marks, rnd := s.rnd }
          { a with defers := [{ target := .collected w.heap.size, args := #[] }] ++ a.defers } { w with heap := w.heap.push (.deferred (some [])) } := by
        refine ⟨hs1.nx, hs1.ct, hs1.pc, hs1.env, hs1.heap, hs1.gl, ?_, ?_, hs1.rnd, hs1.rndLt, hs1.memo⟩
        · have := hs1.marks
          simp only at this
          simp only [List.cons_append, List.nil_append, List.map_cons, this]
          simp [markOf, K.grow, hs.nx]
        · intro i hi
          simp only [List.mem_cons] at hi
          rcases hi with rfl | hi
          · simp [K.grow, hs.nx]
          · exact hs1.marksLt i hi
      rw [hr] at hs1'
      refine rangeFunc_tail (B := B) hC he (dfs := s.nx) hleg hs1' hf (by simp [K.grow, hs.nx]) hs.env rfl (fun fn => ?_) h
      simp [Instr.enterLoop, WF, K.grow, hs.nx]
      rfl
    | some l =>
      rw [hr] at heq hro
      subst hro
      simp only at heq
      split at heq
      · rename_i st pend lfn lenv lnt lps lasg lbody d hl
        simp only [Option.some.injEq, Prod.mk.injEq] at heq
        obtain ⟨rfl, rfl⟩ := heq
        obtain ⟨hli, ob, hob, fn', tmps', rfl, _, hd⟩ := hs.heap.obj _ _ hl
        refine rangeFunc_tail (B := B) (lm := []) hC he (dfs := d) (K.le.refl k) hs hf hd hs.env rfl (fun fn => ?_) h
        simp [Instr.enterLoop, WF, run_getLoop hob]
        try rfl
      · simp at heq

theorem sound (hC : CfgOK C) : ∀ n (w0 : Fr), CodeOK C w0 n ∧ OpsOK C w0 n ∧ CallOKn C w0 n ∧ EnterOK C w0 n ∧ LoopOK C w0 n ∧ DrawOK C w0 n ∧ DrawE C w0 n
  | 0, w0 => by
    refine ⟨?_, ?_, ?_, ?_, ?_, ?_, ?_⟩
    · intro c s k a w Q B ro m hs h; simp [ev, Tr.sat] at h
    · intro c _ s k a w Q B ro m hs h; simp [ev, Tr.sat] at h
    · intro f args fv vs s k a w Q B ro m hs _ _ h; simp [ev, Tr.sat] at h
    · intro f args vs s k a w Q B ro m hs _ h; simp [ev, Tr.sat] at h
    · intro c left s k a w Q B ro m hs h; simp [ev, Tr.sat] at h
    · intro ops done rd s k a w Q B ro m hs _ _ h; simp [ev, Tr.sat] at h
    · intro ops done rd s k a w Q B ro m A t T z vs b _ _ _ _ _ _ _ _ _ _ _ h; simp [ev, Tr.sat] at h
  | n + 1, w0 => by
    have hall := sound hC n
    obtain ⟨h1, h2, h3, h4, h5, h6, h7⟩ := hall w0
    have hE := drawE_step hC (fun w0 => (hall w0).2.2.1) h6 h7
    exact ⟨code_step h2 h1 h5 (fun _ _ _ _ _ _ _ _ _ _ hs h => region_draw hC h6 hs h) (rangeFunc_step hC h4), ops_step hC h3 h2, call_step hC h1 h4, enter_step h1, loop_step h1 h5,
      draw_step hC (fun w0 => (hall w0).2.2.1) h6 hE, hE⟩
end
end Go.Sx
