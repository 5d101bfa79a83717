/- All operations; the settings' soundness. -/
import Derived.Test.YtcljcgapkojgnaaGreatDoorSj
import Derived.Test.YtcljcgapkojgnaaGreatDoorSk
import Derived.Test.YtcljcgapkojgnaaGreatDoorSe
import Derived.Test.YtcljcgapkojgnaaGreatDoorSb
set_option linter.unusedSimpArgs false
set_option linter.unusedVariables false
namespace Go.Sx
open Go.RowKit

section
variable {P : Program} {w0 : Fr} {gl : Glob} {ro : Option Nat} {k : K} {s : St} {a : Act} {w : World} {Q : Env → GS → Out → St → Prop} {B : Backs}

variable {rd : Prop}

theorem OpPost.toN {m : Sem Value} (h : OpPost w0 gl ro a Q k (m.run P w)) (hn : ¬ rd) : OpPostN w0 gl ro a Q k w rd ((do pure (.value (← m)) : Sem Next).run P w) := by
  obtain ⟨k', v, d, s', w', hr, h1, h2, h3, h4⟩ := h
  exact ⟨k', .value v, v, d, s', w', by simp [hr], rfl, h1, h2, h3, h4, fun h => absurd h hn⟩

theorem OpPostW.toN {m : Sem Value} (h : OpPostW w0 gl ro a Q k w (m.run P w)) : OpPostN w0 gl ro a Q k w rd ((do pure (.value (← m)) : Sem Next).run P w) := by
  obtain ⟨k', v, d, s', hr, h1, h2, h3, h4⟩ := h
  exact ⟨k', .value v, v, d, s', w, by simp [hr], rfl, h1, h2, h3, h4, fun _ => ⟨rfl, rfl⟩⟩

theorem OpPostU.toN {m : Sem Unit} (h : OpPostU w0 gl ro a Q k (m.run P w)) (hn : ¬ rd) : OpPostN w0 gl ro a Q k w rd ((do m; pure .skip : Sem Next).run P w) := by
  obtain ⟨k', s', w', hr, h1, h2, h4⟩ := h
  exact ⟨k', .skip, undef, undefD, s', w', by simp [hr], rfl, h1, h2, mk_undef, h4, fun h => absurd h hn⟩

theorem OpPostW.pure {v : Value} (h : OpPostW w0 gl ro a Q k w (.ok v w)) : OpPostN w0 gl ro a Q k w rd ((pure (.value v) : Sem Next).run P w) := by
  obtain ⟨k', v', d, s', hr, h1, h2, h3, h4⟩ := h
  cases hr
  exact ⟨k', .value v, v, d, s', w, rfl, rfl, h1, h2, h3, h4, fun _ => ⟨rfl, rfl⟩⟩

theorem run_noGuard {o : BinOp} {t : TypeId} {ox oy : Operand} {v u : Value} (h : OpPostW w0 gl ro a Q k w ((binOp o t v u).run P w)) (hg : ∀ w, (eqGuard o t ox oy v u).run P w = .ok () w) :
    OpPostW w0 gl ro a Q k w ((do eqGuard o t ox oy v u; binOp o t v u : Sem Value).run P w) := by
  simp only [Sem.run_bind, hg, Result.andThen_ok]
  exact h

theorem eqGuard_int (o : BinOp) (t : TypeId) (ox oy : Operand) (i j : IntKind) (m n : Int) : eqGuard o t ox oy (.int i m) (.int j n) = pure () := by
  cases o <;> rfl
theorem eqGuard_str (o : BinOp) (t : TypeId) (ox oy : Operand) (m n : ByteArray) : eqGuard o t ox oy (.string m) (.string n) = pure () := by
  cases o <;> rfl

theorem sat_gOpt (hs : StR w0 gl ro k s a w) {o : Option Operand} {f : Option DV → Tr}
    (h : (withOpt s o f).sat P Q B k.ρ k.G) : ∃ d, OptIs k d (o.map a.eval) ∧ (f d).sat P Q B k.ρ k.G := by
  cases o with
  | none => exact ⟨none, trivial, h⟩
  | some x =>
    obtain ⟨d, hd, h⟩ := sat_withOp h
    exact ⟨some d, opd_sound hs hd, h⟩

theorem builtinD_sound (hs : StR w0 gl ro k s a w) {b : Builtin} {argT : Array TypeId} {ty : TypeId} {cst : Array Bool} {args : List DV} {vs : List Value} (hv : DV.iss k args vs)
    (h : (builtinD P gl s b argT.toList args).sat P Q B k.ρ k.G) (hb : rd → b = .len ∨ b = .max ∨ b = .min ∨ b = .unsafeSliceData) : OpPostN w0 gl ro a Q k w rd ((builtin b argT ty cst vs.toArray).run P w) := by
  unfold builtinD at h
  split at h
  · rename_i x
    obtain ⟨v, vs', rfl, hx, hv'⟩ := DV.iss_cons_inv hv
    have := hv'.length; simp at this; subst this
    split at h
    · rename_i t ts hts
      exact (lenD_sound hs (by rw [← Array.getElem?_toList, hts]; rfl) ty hx h).toN
    · exact (sat_bad h).elim
  · exact (maxsD_sound hs argT ty hv h).toN
  · exact (minsD_sound hs argT ty hv h).toN
  · rename_i x y
    obtain ⟨v, vs', rfl, hx, hv'⟩ := DV.iss_cons_inv hv
    obtain ⟨u, vs'', rfl, hy, hv''⟩ := DV.iss_cons_inv hv'
    have := hv''.length; simp at this; subst this
    split at h
    · rename_i t u' hts
      split at h
      · rename_i he
        have he : t = u' := by simpa using he
        subst he
        have : argT = #[t, t] := by apply Array.ext'; simpa using hts
        subst this
        exact (appendD_sound hs hx hy h).toN (fun h => by simpa using hb h)
      · have : argT = #[t, u'] := by apply Array.ext'; simpa using hts
        subst this
        split at h
        · rename_i e el hel hu
          obtain ⟨sv, rfl, hsv⟩ := is_str hy
          exact (appendStrD_sound hs hx hsv (elemT_spec hel) hu h).toN (fun h => by simpa using hb h)
        · exact (sat_bad h).elim
    · exact (sat_bad h).elim
  · rename_i x
    obtain ⟨v, vs', rfl, hx, hv'⟩ := DV.iss_cons_inv hv
    have := hv'.length; simp at this; subst this
    exact (sliceDataD_sound hs h hx).toN
  · rename_i x y
    obtain ⟨v, vs', rfl, hx, hv'⟩ := DV.iss_cons_inv hv
    obtain ⟨u, vs'', rfl, hy, hv''⟩ := DV.iss_cons_inv hv'
    have := hv''.length; simp at this; subst this
    split at h
    · rename_i t u' hts
      have : argT = #[t, u'] := by apply Array.ext'; simpa using hts
      subst this
      exact (unsafeStringD_sound hs hx hy h).toN (fun h => by simpa using hb h)
    · exact (sat_bad h).elim
  · exact (sat_bad h).elim

theorem parts_zip (a : Act) : ∀ (ps : List (Nat × Operand)) (l : List (Nat × DV)), l.map (·.1) = ps.map (·.1) →
    ps.map (fun x => (x.1, a.eval x.2)) = (l.map (·.1)).zip (ps.map fun x => a.eval x.2) := by
  intro ps
  induction ps with
  | nil => intro l h; simp
  | cons p ps ih =>
    intro l h
    cases l with
    | nil => simp at h
    | cons q l =>
      simp only [List.map_cons, List.cons.injEq] at h
      simp only [List.map_cons, List.zip_cons_cons, h.1]
      rw [ih l h.2]

theorem readOp_builtin {b : Builtin} {x : Array Operand} {y : Array TypeId} (h : readOp (.call { callee := .builtin b, args := x, argTypes := y }) = true) : b = .len ∨ b = .max ∨ b = .min ∨ b = .unsafeSliceData := by
  cases b <;> first | (simp; done) | (simp [readOp] at h)

theorem opD_sound (hs : StR w0 gl ro k s a w) (o : Oper) (h : (opD P gl s o).sat P Q B k.ρ k.G) : OpPostN w0 gl ro a Q k w (readOp o.op = true) ((execOp a.eval o).run P w) := by
  unfold opD at h
  unfold execOp
  split at h <;> rename_i hop <;> (try rw [hop])
  · exact (post_op hs h).pure
  · exact (post_op hs h).pure
  · refine cast ?_ ((pickD_sound hs h).toN (rd := readOp o.op = true))
    simp [hop]
  · split at h
    · rename_i z hz
      exact (allocD_sound hs hz h).toN (by simp [readOp, hop])
    · exact (sat_bad h).elim
  · obtain ⟨d, hd, h⟩ := sat_withOp h
    split at h
    · rename_i ho
      exact (boxD_sound hs (opd_sound hs hd) ho h).toN (by simp [readOp, hop])
    · exact (sat_bad h).elim
  · split at h
    · rename_i l hl
      obtain ⟨h1, h2⟩ := opdParts_sound hs hl
      exact (buildD_sound hs h1 (by rw [Array.toList_map]; exact parts_zip a _ l h2) h).toN
    · exact (sat_bad h).elim
  · split at h
    · rename_i l hl
      obtain ⟨h1, h2⟩ := opdParts_sound hs hl
      exact (buildSliceD_sound hs h1 (by rw [Array.toList_map]; exact parts_zip a _ l h2) h).toN (by simp [readOp, hop])
    · exact (sat_bad h).elim
  · obtain ⟨d, hd, h⟩ := sat_withOp h
    exact (loadD_sound hs (opd_sound hs hd) h).toN
  · obtain ⟨d, hd, h⟩ := sat_withOp h
    obtain ⟨e, he, h⟩ := sat_withOp h
    exact (storeD_sound hs (opd_sound hs hd) (opd_sound hs he) h).toN (by simp [readOp, hop])
  · obtain ⟨d, hd, h⟩ := sat_withOp h
    obtain ⟨u, hp, rfl, n1, n2, n3, n4⟩ := nilCheckD_sound hs (opd_sound hs hd) h
    have hp := fun rd : Prop => hp.pure (P := P) (rd := rd)
    simp only
    generalize a.eval _ = v at *
    cases v with
    | pointer p => cases p with
      | none => exact absurd rfl n1
      | some p => exact hp _
    | nilIface => exact absurd rfl n2
    | nilFunc => exact absurd rfl n3
    | func f x y => cases f <;> first | exact absurd rfl (n4 _ _ _) | exact hp _
    | _ => exact hp _
  · obtain ⟨d, hd, h⟩ := sat_withOp h
    obtain ⟨e, he, h⟩ := sat_withOp h
    have hd := opd_sound hs hd
    have he := opd_sound hs he
    split at h
    · obtain ⟨m, hm, hm'⟩ := is_int hd
      obtain ⟨n, hn, hn'⟩ := is_int he
      refine OpPostW.toN ?_
      rw [hm, hn]
      exact run_noGuard (binD_int (P := P) (w := w) hs hm' hn' h) (fun w => by rw [eqGuard_int]; rfl)
    · obtain ⟨m, hm, hm'⟩ := is_str hd
      obtain ⟨n, hn, hn'⟩ := is_str he
      refine OpPostW.toN ?_
      rw [hm, hn]
      exact run_noGuard (binD_str (P := P) (w := w) hs hm' hn' h) (fun w => by rw [eqGuard_str]; rfl)
    · exact (cmpD_sound hs hd he (fun h => h) h).toN
  · obtain ⟨d, hd, h⟩ := sat_withOp h
    exact (unD_sound hs (opd_sound hs hd) h).toN
  · obtain ⟨d, hd, h⟩ := sat_withOp h
    exact (convD_sound hs (opd_sound hs hd) h).toN
  · obtain ⟨d, hd, h⟩ := sat_withOp h
    exact (makeInterfaceD_sound hs (opd_sound hs hd) h).toN
  · obtain ⟨fs, hfs, h⟩ := sat_withOps h
    obtain ⟨cs, hcs, h⟩ := sat_withOps h
    refine OpPostW.toN (post_of hs (mk_fn (opds_sound hs hfs) (opds_sound hs hcs)) h ?_)
    simp [Instr.makeFunc, ← Array.toList_map]
  · split at h
    · rename_i hr
      exact (makeMapD_sound hs hr h).toN (by simp [readOp, hop])
    · exact (sat_bad h).elim
  · obtain ⟨d, hd, h⟩ := sat_withOp h
    obtain ⟨e, he, h⟩ := sat_withOp h
    exact (makeSliceD_sound hs (opd_sound hs hd) (opd_sound hs he) h).toN (by simp [readOp, hop])
  · split at h
    · exact (sat_bad h).elim
    rename_i hm
    rename Option Operand => mo
    have hm : mo = none := by simpa using hm
    subst hm
    obtain ⟨d, hd, h⟩ := sat_withOp h
    obtain ⟨l, hl, h⟩ := sat_gOpt hs h
    obtain ⟨hh, hhh, h⟩ := sat_gOpt hs h
    split at h
    · rename_i hu
      exact (sliceS_sound hs (opd_sound hs hd) hl hhh hu h).toN
    · rename_i e hu
      split at h
      · exact (sat_bad h).elim
      · rename_i hi
        exact (sliceD_sound hs (opd_sound hs hd) hl hhh hu (Option.isSome_iff_exists.1 (by simpa [Option.isSome_iff_ne_none] using hi)) h).toN
    · exact (sat_bad h).elim
  · obtain ⟨d, hd, h⟩ := sat_withOp h
    exact (fieldAddrD_sound hs (opd_sound hs hd) h).toN
  · obtain ⟨d, hd, h⟩ := sat_withOp h
    exact (fieldD_sound hs (opd_sound hs hd) h).toN
  · obtain ⟨d, hd, h⟩ := sat_withOp h
    obtain ⟨e, he, h⟩ := sat_withOp h
    exact (indexAddrD_sound hs (opd_sound hs hd) (opd_sound hs he) h).toN
  · obtain ⟨d, hd, h⟩ := sat_withOp h
    obtain ⟨e, he, h⟩ := sat_withOp h
    exact (indexD_sound hs (opd_sound hs hd) (opd_sound hs he) h).toN
  · obtain ⟨d, hd, h⟩ := sat_withOp h
    obtain ⟨e, he, h⟩ := sat_withOp h
    exact (lookupD_sound hs (opd_sound hs hd) (opd_sound hs he) h).toN
  · obtain ⟨d, hd, h⟩ := sat_withOp h
    obtain ⟨e, he, h⟩ := sat_withOp h
    obtain ⟨f, hf, h⟩ := sat_withOp h
    exact (mapUpdateD_sound hs (opd_sound hs hd) (opd_sound hs he) (opd_sound hs hf) h).toN (by simp [readOp, hop])
  · obtain ⟨d, hd, h⟩ := sat_withOp h
    obtain ⟨e, he, h⟩ := sat_withOp h
    obtain ⟨f, hf, h⟩ := sat_withOp h
    exact (mapUpdateD_sound hs (opd_sound hs hd) (opd_sound hs he) (opd_sound hs hf) h).toN (by simp [readOp, hop])
  · obtain ⟨d, hd, h⟩ := sat_withOp h
    exact (rangeD_sound hs (opd_sound hs hd) h).toN (by simp [readOp, hop])
  · obtain ⟨d, hd, h⟩ := sat_withOp h
    exact (nextD_sound hs (opd_sound hs hd) _ h).toN (by simp [readOp, hop])
  · obtain ⟨d, hd, h⟩ := sat_withOp h
    exact (typeAssertD_sound hs (opd_sound hs hd) h).toN
  · obtain ⟨d, hd, h⟩ := sat_withOp h
    exact (extractD_sound hs (opd_sound hs hd) h).toN
  · obtain ⟨ds, hds, h⟩ := sat_withOps h
    simp only [resolve, Sem.run_bind, Sem.run_pure, Result.andThen_ok, invoke]
    rw [show ∀ (l : Array Operand), l.map a.eval = (l.toList.map a.eval).toArray from fun l => by rw [← Array.toList_map]]
    exact builtinD_sound (P := P) hs (opds_sound hs hds) h readOp_builtin
  · exact (sat_bad h).elim
end
end Go.Sx
/- The settings' soundness, and a function's calls. -/
namespace Go.Sx
open Go.RowKit

/-- A tree that, if it is a leaf at once, has the state as it was. -/
def LeafS (t : Tr) (s : St) : Prop := ∀ d s', t = .leaf (.val d) s' → s' = s

section
variable {P : Program} {gl : Glob} {s : St}
theorem leafS_retv {d : DV} : LeafS (retv s d) s := fun d' s' h => by simp only [retv, Tr.leaf.injEq] at h; exact h.2.symm
theorem leafS_bad {m : String} : LeafS (bad m) s := fun d' s' h => by simp [bad] at h
theorem leafS_withOp {x : Operand} {f : DV → Tr} (h : ∀ d, LeafS (f d) s) : LeafS (withOp s x f) s := by unfold withOp; split; exact h _; exact leafS_bad
theorem leafS_withOps {x : List Operand} {f : List DV → Tr} (h : ∀ d, LeafS (f d) s) : LeafS (withOps s x f) s := by unfold withOps; split; exact h _; exact leafS_bad
theorem leafS_branch {c : E} {t e : St → Tr} (h1 : LeafS (t s) s) (h2 : LeafS (e s) s) : LeafS (branch s c t e) s := by
  unfold branch; split; exact h1; exact h2; exact fun _ _ h => by cases h
theorem leafS_oblige {c : E} {t : St → Tr} (h1 : LeafS (t s) s) : LeafS (oblige s c t) s := by
  unfold oblige; split; exact h1; exact fun _ _ h => by cases h
theorem leafS_withSlice {x : DV} {f : St → DV → Tr} (h : ∀ d, LeafS (f s d) s) : LeafS (withSlice s x f) s := by
  unfold withSlice; split; exact leafS_oblige (h _); exact h _
theorem leafS_plusD {r : Ref} {n : E} {f : Ref → Tr} (h : ∀ d, LeafS (f d) s) : LeafS (plusD s r n f) s := by
  unfold plusD; split; exact h _; exact leafS_bad

theorem leafS_binD {o : BinOp} {x y : DV} : LeafS (binD s o x y) s := by
  unfold binD
  repeat' (first | exact leafS_retv | exact leafS_bad | refine leafS_oblige ?_ | split)
theorem leafS_cmpD {o : BinOp} {t : TypeId} {b : Bool} {x y : DV} : LeafS (cmpD P s o t b x y) s := by
  unfold cmpD
  repeat' (first | exact leafS_retv | exact leafS_bad | refine leafS_oblige ?_ | split)
theorem leafS_pickD {c a b : Operand} : LeafS (pickD s c a b) s := by
  unfold pickD
  refine leafS_withOp fun d => ?_
  repeat' (first | exact leafS_retv | exact leafS_bad | refine leafS_branch ?_ ?_ | (refine leafS_withOp fun _ => ?_) | split)
theorem leafS_buildD {t : TypeId} {ps : List (Nat × DV)} : LeafS (buildD P s t ps) s := by
  unfold buildD
  repeat' (first | exact leafS_retv | exact leafS_bad | split)
theorem leafS_unD {o : UnOp} {x : DV} : LeafS (unD s o x) s := by
  unfold unD
  repeat' (first | exact leafS_retv | exact leafS_bad | split)
theorem leafS_convD {a b : TypeId} {x : DV} : LeafS (convD P gl s a b x) s := by
  unfold convD
  repeat' (first | exact leafS_retv | exact leafS_bad | split)
theorem leafS_loadD {t : TypeId} {x : DV} : LeafS (loadD P gl s t x) s := by
  unfold loadD
  repeat' (first | exact leafS_retv | exact leafS_bad | (exact fun _ _ h => by cases h) | split)
theorem leafS_fieldAddrD {t : TypeId} {x : DV} {f : Nat} : LeafS (fieldAddrD P s t x f) s := by
  unfold fieldAddrD
  repeat' (first | exact leafS_retv | exact leafS_bad | refine leafS_oblige ?_ | (refine leafS_plusD fun _ => ?_) | split)
theorem leafS_fieldD {t : TypeId} {x : DV} {f : Nat} : LeafS (fieldD P s t x f) s := by
  unfold fieldD
  repeat' (first | exact leafS_retv | exact leafS_bad | split)
theorem leafS_extractD {i : Nat} {x : DV} : LeafS (extractD s i x) s := by
  unfold extractD
  repeat' (first | exact leafS_retv | exact leafS_bad | split)
theorem leafS_lenD {t : TypeId} {x : DV} : LeafS (lenD P s t x) s := by
  unfold lenD
  repeat' (first | exact leafS_retv | exact leafS_bad | (refine leafS_withSlice fun _ => ?_) | split)
theorem leafS_maxsD {o : O2} {l : List DV} : LeafS (maxsD s o l) s := by
  unfold maxsD
  repeat' (first | exact leafS_retv | exact leafS_bad | split)

theorem opD_pure {o : Oper} (hp : pureOp o.op = true) : LeafS (opD P gl s o) s := by
  unfold opD
  split <;> rename_i hop <;> (try rw [hop] at hp) <;> (try (simp [pureOp] at hp; done))
  all_goals first
    | exact leafS_bad
    | exact leafS_withOp fun _ => leafS_retv
    | exact leafS_pickD
    | (split; exact leafS_buildD; exact leafS_bad)
    | exact leafS_withOp fun _ => leafS_loadD
    | exact leafS_withOp fun _ => leafS_unD
    | exact leafS_withOp fun _ => leafS_convD
    | exact leafS_withOp fun _ => leafS_fieldAddrD
    | exact leafS_withOp fun _ => leafS_fieldD
    | exact leafS_withOp fun _ => leafS_extractD
    | (refine leafS_withOp fun _ => leafS_withOp fun _ => ?_; split <;> first | exact leafS_binD | exact leafS_cmpD)
    | (refine leafS_withOps fun _ => leafS_withOps fun _ => leafS_retv)
    | (refine leafS_withOp fun _ => ?_; split <;> first | exact leafS_retv | exact leafS_bad)
    | skip
  rename_i b args argT
  refine leafS_withOps fun ds => ?_
  unfold builtinD
  split
  · split; exact leafS_lenD; exact leafS_bad
  · exact leafS_maxsD
  · exact leafS_maxsD
  · simp [pureOp] at hp
  · simp [pureOp] at hp
  · simp [pureOp] at hp
  · exact leafS_bad
end

/-- Settings that are right: what is left to show. -/
theorem makes_of {P : Program} {gl : Glob} {w0 : Fr} {ro : Option Nat} {k : K} {s : St} {a : Act} {w : World} {Q : Env → GS → Out → St → Prop} {B : Backs} {o : Oper}
    (hs : StR w0 gl ro k s a w) (hm : isMake o.op = true) (h : (opD P gl s o).sat P Q B k.ρ k.G) : MakesD P gl k s a o := by
  unfold isMake at hm
  split at hm
  · rename_i T hop
    unfold opD at h
    simp only [hop] at h
    split at h
    · rename_i z hz
      obtain ⟨i, zv, hi, hzv, ho, hzl, hzn⟩ := zeroD_spec hz
      refine ⟨T, z, zv.cells.toList, fun ad => .pointer (some ad), fun r => .ptr r, by unfold opD; simp only [hop, hz]; rfl, fun w => ?_, hzl k, ho, fun k' r ad hr => mk_ptr hr⟩
      simp [execOp, hop, Instr.alloc, run_zeroD hi hzv, newVar, newRow]
    · exact (sat_bad h).elim
  · rename_i t n ps hop
    unfold opD at h
    simp only [hop] at h
    split at h
    · rename_i l hl
      obtain ⟨h1, h2⟩ := opdParts_sound hs hl
      obtain ⟨e, cs, cv, e1, e2, e3, e4⟩ := buildSliceD_makes hs h1 (by rw [Array.toList_map]; exact parts_zip a _ l h2) h
      refine ⟨e, cs, cv, fun ad => .slice (some ad) n n, fun r => .slice r (.lit n) (.lit n), by unfold opD; simp only [hop, hl]; exact e1, fun w => ?_, e2, e3, fun k' r ad hr k2 hle => ?_⟩
      · simp [execOp, hop, e4]
      · simp only [DV.den, hr k2 hle, E.ii]; rfl
    · exact (sat_bad h).elim
  · cases hm

theorem cfgOK {C : Cfg} (hnum : ∀ (f : FuncId) (fn : Func), C.P.funcs[f]? = some fn → (fn.name == "runtime.NumGoroutine") = false)
    (hprim : ∀ (w0 : Fr) (ro : Option Nat) (k : K) (s s' : St) (a : Act) (w : World) (g : FuncId) (args : List DV) (vs : List Value) (d : DV), StR w0 C.gl ro k s a w → DV.iss k args vs → C.prim g args s = some (d, s') →
    ∀ m, CallRes ro m C.P (fun v w' => ∃ k', k.le k' ∧ k'.ρ = k.ρ ∧ k'.G = k.G ∧ StR w0 C.gl ro k' s' a w' ∧ d.is k' v) ((callFunc g vs.toArray).run C.P w)) (hord : C.P.follows .mixedOrders = true) : CfgOK C :=
  ⟨hnum, hprim, fun _ _ _ _ _ _ _ _ o hs h => opD_sound hs o h, fun gl s o c hc => by simp only [opD, hc]; rfl, hord,
   fun gl s s' o d hp h => opD_pure hp d s' h, fun _ _ _ _ _ _ _ _ _ hs hm h => makes_of hs hm h⟩
end Go.Sx
/- Slim trees: what a run comes to, without its states. -/
namespace Go.Sx
open Go.RowKit

/-- A run's tree without the states: what is returned, and the cells of the blocks that it may lead to. -/
inductive Ts
  | val (d : DV) (h : List (Id × List DV))
  | bad
  | br (c : E) (t e : Ts)
  | ob (c : E) (t : Ts)
  | any (sh : Sh) (c : E) (ct : Ctr) (t : Ts)
  | load (r : Ref) (sh : Sh) (ct : Ctr) (t : Ts)
  | call (f : FuncId) (args : List DV) (sh : Sh) (ct : Ctr) (t : Ts)
  | loop (shs : List Sh) (vals : List DV) (ct : Ctr) (t : Ts)
  | back (lvl : Nat) (vals : List DV)
  deriving Repr, Inhabited

def cellsOnly : List (Id × DO) → List Id → List (Id × List DV)
  | [], _ => []
  | (i, o) :: l, seen => if seen.contains i then cellsOnly l seen else match o with
    | .cells cs _ _ => (i, cs) :: cellsOnly l (i :: seen)
    | _ => cellsOnly l (i :: seen)

def Tr.slim (keep : Bool) : Tr → Ts
  | .leaf (.val d) s => .val d (if keep then cellsOnly s.heap [] else [])
  | .leaf _ _ => .bad
  | .fail _ => .bad
  | .br c t e => .br c (t.slim keep) (e.slim keep)
  | .ob c t => .ob c (t.slim keep)
  | .any sh c s t => .any sh c s.ct (t.slim keep)
  | .load r sh s t => .load r sh s.ct (t.slim keep)
  | .call f as sh s t => .call f as sh s.ct (t.slim keep)
  | .loop shs vs s t => .loop shs vs s.ct (t.slim keep)
  | .back l vs _ => .back l vs

def Ts.satB (P : Program) (Q : Env → GS → DV → List (Id × List DV) → Prop) : Backs → Env → GS → Ts → Prop
  | _, ρ, G, .val d h => Q ρ G d h
  | _, _, _, .bad => False
  | B, ρ, G, .br c t e => (c.bb ρ = true → t.satB P Q B ρ G) ∧ (c.bb ρ = false → e.satB P Q B ρ G)
  | B, ρ, G, .ob c t => c.bb ρ = true ∧ t.satB P Q B ρ G
  | B, ρ, G, .any sh c ct t => ∀ x, Fits x ct (sh.fresh ct).2 → c.bb (ρ.app x) = true → t.satB P Q B (ρ.app x) G
  | B, ρ, G, .load r sh ct t => ∃ x, Fits x ct (sh.fresh ct).2 ∧ (∀ β nx, ∃ a, r.den ⟨ρ, β, nx, G⟩ = some a ∧ GCells G a ((sh.fresh ct).1.den ⟨ρ.app x, β, nx, G⟩).cells.toList) ∧ t.satB P Q B (ρ.app x) G
  | B, ρ, G, .call f args sh ct t => ∃ R, CallOK P ρ G f args sh ct R ∧ ∀ x G', Fits x ct (sh.fresh ct).2 → GLe G G' → R x G' → t.satB P Q B (ρ.app x) G'
  | B, ρ, G, .loop shs vs ct t => ∃ (I : List Value → GS → Prop) (μ : List Value → Nat), (∀ β nx, I (DV.dens ⟨ρ, β, nx, G⟩ vs) G) ∧
      ∀ x G', Fits x ct (Sh.freshL shs ct).2 → GLe G G' → (∀ β nx, I (DV.dens ⟨ρ.app x, β, nx, G'⟩ (Sh.freshL shs ct).1) G') →
        t.satB P Q ((fun ρ2 G2 us => ∀ β nx, I (DV.dens ⟨ρ2, β, nx, G2⟩ us) G2 ∧ μ (DV.dens ⟨ρ2, β, nx, G2⟩ us) < μ (DV.dens ⟨ρ.app x, β, nx, G'⟩ (Sh.freshL shs ct).1)) :: B) (ρ.app x) G'
  | B, ρ, G, .back l vs => match B[l]? with | some b => b ρ G vs | none => False

abbrev Ts.sat (P : Program) (Q : Env → GS → DV → List (Id × List DV) → Prop) (ρ : Env) (G : GS) (t : Ts) : Prop := t.satB P Q [] ρ G

theorem slim_sat {P : Program} {keep : Bool} {Q : Env → GS → DV → List (Id × List DV) → Prop} : ∀ (t : Tr) (B : Backs) (ρ : Env) (G : GS), (t.slim keep).satB P Q B ρ G →
    t.sat P (fun ρ G o s => ∃ d, o = .val d ∧ Q ρ G d (if keep then cellsOnly s.heap [] else [])) B ρ G := by
  intro t
  induction t with
  | leaf o s => intro B ρ G h; cases o <;> simp [Tr.slim, Ts.satB] at h; exact ⟨_, rfl, h⟩
  | fail w => intro B ρ G h; simp [Tr.slim, Ts.satB] at h
  | br c t e iht ihe => intro B ρ G h; simp only [Tr.slim, Ts.satB] at h; exact ⟨fun hc => iht _ _ _ (h.1 hc), fun hc => ihe _ _ _ (h.2 hc)⟩
  | ob c t ih => intro B ρ G h; simp only [Tr.slim, Ts.satB] at h; exact ⟨h.1, ih _ _ _ h.2⟩
  | any sh c s t ih => intro B ρ G h; simp only [Tr.slim, Ts.satB] at h; exact fun x hf hc => ih _ _ _ (h x hf hc)
  | load r sh s t ih => intro B ρ G h; simp only [Tr.slim, Ts.satB] at h; obtain ⟨x, h1, h2, h3⟩ := h; exact ⟨x, h1, h2, ih _ _ _ h3⟩
  | call f as sh s t ih => intro B ρ G h; simp only [Tr.slim, Ts.satB] at h; obtain ⟨R, h1, h2⟩ := h; exact ⟨R, h1, fun x G' hf hG hR => ih _ _ _ (h2 x G' hf hG hR)⟩
  | loop shs vs s t ih =>
    intro B ρ G h
    simp only [Tr.slim, Ts.satB] at h
    obtain ⟨I, μ, h0, h1⟩ := h
    exact ⟨I, μ, h0, fun x G' hf hG hI => ih _ _ _ (h1 x G' hf hG hI)⟩
  | back l vs s =>
    intro B ρ G h
    simp only [Tr.slim, Ts.satB, Tr.sat] at h ⊢
    cases hB : B[l]? with
    | none => rw [hB] at h; exact h
    | some b => rw [hB] at h; exact h

/-- Where a run starts. -/
def init (ct : Ctr) (pc : List (E × Bool) := []) (memo : List (TypeId × Ref × DV) := []) : St := { fn := 0, env := [], heap := [], nx := 0, nt := 0, pc := pc, ct := ct, memo := memo }

/-- A function's run, from a tree that was shown, with cells that are known at its start. -/
theorem calls_slimM {C : Cfg} (hC : CfgOK C) {keep : Bool} {n : Nat} {g : FuncId} {args : List DV} {ct : Ctr} {pc : List (E × Bool)} {memo : List (TypeId × Ref × DV)} {T : Ts}
    (hT : (ev C n (.enter g args) (init ct pc memo)).slim keep = T) {Q : Env → GS → DV → List (Id × List DV) → Prop} {ρ : Env} {G : GS} {w : World} {vs : List Value}
    (hct : CtR ⟨ρ, fun _ => 0, 0, G⟩ ct) (hpc : PcR ⟨ρ, fun _ => 0, 0, G⟩ pc) (hmemo : MemoR ⟨ρ, fun _ => 0, 0, G⟩ memo) (hgl : GlobR ⟨ρ, fun _ => 0, 0, G⟩ C.gl) (hG : GHeap G w) (hvs : DV.iss ⟨ρ, fun _ => 0, 0, G⟩ args vs) (hs : T.sat C.P Q ρ G) :
    Calls C.P g vs.toArray w fun e w' => ∃ (v : Value) (k : K) (d : DV) (s : St), e = .returned v ∧ K.le ⟨ρ, fun _ => 0, 0, G⟩ k ∧ HeapR ⟨w, fun _ => none⟩ k s.heap w' ∧ GlobR k C.gl ∧ CtR k s.ct ∧ d.is k v ∧ Q k.ρ k.G d (if keep then cellsOnly s.heap [] else []) := by
  subst hT
  have h := slim_sat _ _ _ _ hs
  let a0 : Act := { tmps := #[], defers := [] }
  have hst : StR ⟨w, fun _ => none⟩ C.gl none ⟨ρ, fun _ => 0, 0, G⟩ (init ct pc memo) a0 w := by
    refine ⟨rfl, hct, hpc, ⟨rfl, ?_⟩, ⟨?_, ?_, ?_, ?_, ?_, by simp, ?_⟩, hgl, rfl, ?_, rfl, ?_, hmemo⟩
    · intro t d h; simp [init, look] at h
    · intro i o h; simp [init, look] at h
    · rintro i j ⟨o, h, _⟩; simp [init, look] at h
    · intro i hi; simp at hi
    · intro i hi; simp at hi
    · intro b o hb; exact ⟨hG b o hb, fun i ⟨o, h, _⟩ => by simp [init, look] at h⟩
    · exact ⟨rfl, rfl, rfl, Nat.le_refl _, fun _ _ => rfl⟩
    · intro i hi; simp [init] at hi
    · intro i hi; simp [init] at hi
  obtain ⟨_, _, _, he, _⟩ := sound hC n ⟨w, fun _ => none⟩
  obtain ⟨h1, _⟩ := he g args vs _ _ _ w _ _ none 0 hst hvs h
  refine (callsIn_wide.1 h1).mono ?_
  rintro e w' hr
  cases e with
  | returned v =>
    obtain ⟨k', d, s', hle, hs', hd, d', hq, hQ⟩ := hr
    cases hq
    exact ⟨v, k', d, s', rfl, hle, hs'.heap, hs'.gl, hs'.ct, hd, hQ⟩
  | _ => exact hr.elim

/-- A function's run, from a tree that was shown. -/
theorem calls_slim {C : Cfg} (hC : CfgOK C) {keep : Bool} {n : Nat} {g : FuncId} {args : List DV} {ct : Ctr} {pc : List (E × Bool)} {T : Ts}
    (hT : (ev C n (.enter g args) (init ct pc)).slim keep = T) {Q : Env → GS → DV → List (Id × List DV) → Prop} {ρ : Env} {G : GS} {w : World} {vs : List Value}
    (hct : CtR ⟨ρ, fun _ => 0, 0, G⟩ ct) (hpc : PcR ⟨ρ, fun _ => 0, 0, G⟩ pc) (hgl : GlobR ⟨ρ, fun _ => 0, 0, G⟩ C.gl) (hG : GHeap G w) (hvs : DV.iss ⟨ρ, fun _ => 0, 0, G⟩ args vs) (hs : T.sat C.P Q ρ G) :
    Calls C.P g vs.toArray w fun e w' => ∃ (v : Value) (k : K) (d : DV) (s : St), e = .returned v ∧ K.le ⟨ρ, fun _ => 0, 0, G⟩ k ∧ HeapR ⟨w, fun _ => none⟩ k s.heap w' ∧ GlobR k C.gl ∧ CtR k s.ct ∧ d.is k v ∧ Q k.ρ k.G d (if keep then cellsOnly s.heap [] else []) :=
  calls_slimM hC hT hct hpc (fun t r d h => by simp at h) hgl hG hvs hs
end Go.Sx
/- Slim trees that are looked at by a check. -/
namespace Go.Sx
open Go.RowKit

/-- Does a run that takes whatever capacities end in a value of a kind? -/
def Ts.ok (p : DV → Bool) : Ts → Bool
  | .val d _ => p d
  | .any _ _ _ t => t.ok p
  | .br _ t e => t.ok p && e.ok p
  | _ => false

theorem ok_sat {P : Program} {p : DV → Bool} {Q : Env → GS → DV → List (Id × List DV) → Prop} (hQ : ∀ ρ G d h, p d = true → Q ρ G d h) : ∀ (t : Ts) (ρ : Env) (G : GS), t.ok p = true → t.sat P Q ρ G := by
  intro t
  induction t with
  | val d h => intro ρ G h; exact hQ _ _ _ _ h
  | bad => intro ρ G h; simp [Ts.ok] at h
  | br c t e iht ihe => intro ρ G h; simp only [Ts.ok, Bool.and_eq_true] at h; exact ⟨fun _ => iht _ _ h.1, fun _ => ihe _ _ h.2⟩
  | ob c t ih => intro ρ G h; simp [Ts.ok] at h
  | any sh c ct t ih => intro ρ G h; exact fun x _ _ => ih _ _ h
  | load r sh ct t ih => intro ρ G h; simp [Ts.ok] at h
  | call f as sh ct t ih => intro ρ G h; simp [Ts.ok] at h
  | loop shs vs ct t ih => intro ρ G h; simp [Ts.ok] at h
  | back l vs => intro ρ G h; simp [Ts.ok] at h
end Go.Sx
/- Runs at known arguments, each once, as a table. -/
namespace Go.Sx
open Go.RowKit

mutual
/-- Values that hang on nothing. -/
def DV.closed : DV → Bool
  | .int _ (.lit _) | .bool (.bl _) | .str (.sl _) | .nilif | .nilptr | .nilslice | .nilmap | .nilfn => true
  | .iface _ v => v.closed
  | .agg l => DV.closeds l
  | .tup l => DV.closeds l
  | _ => false
def DV.closeds : List DV → Bool
  | [] => true
  | d :: l => d.closed && DV.closeds l
end

mutual
theorem closed_den (k k' : K) : ∀ (d : DV), d.closed = true → d.den k = d.den k'
  | .int _ e, h => by cases e <;> simp [DV.closed] at h; simp only [DV.den, E.ii]
  | .bool e, h => by cases e <;> simp [DV.closed] at h; simp only [DV.den, E.bb]
  | .str e, h => by cases e <;> simp [DV.closed] at h; simp only [DV.den, E.ss]
  | .nilif, _ => by simp only [DV.den]
  | .nilptr, _ => by simp only [DV.den]
  | .nilslice, _ => by simp only [DV.den]
  | .nilmap, _ => by simp only [DV.den]
  | .nilfn, _ => by simp only [DV.den]
  | .iface _ v, h => by simp only [DV.closed] at h; simp only [DV.den, closed_den k k' v h]
  | .agg l, h => by simp only [DV.closed] at h; simp only [DV.den, closeds_den k k' l h]
  | .tup l, h => by simp only [DV.closed] at h; simp only [DV.den, closeds_den k k' l h]
  | .ptr _, h => by simp [DV.closed] at h
  | .slice _ _ _, h => by simp [DV.closed] at h
  | .map _, h => by simp [DV.closed] at h
  | .fn _ _ _, h => by simp [DV.closed] at h
  | .yld _, h => by simp [DV.closed] at h
  | .raw _, h => by simp [DV.closed] at h
  | .gd _ _, h => by simp [DV.closed] at h
theorem closeds_den (k k' : K) : ∀ (l : List DV), DV.closeds l = true → DV.dens k l = DV.dens k' l
  | [], _ => by simp only [DV.dens]
  | d :: l, h => by
    simp only [DV.closeds, Bool.and_eq_true] at h
    simp only [DV.dens, closed_den k k' d h.1, closeds_den k k' l h.2]
end

structure Row where
  f : FuncId
  args : List DV
  res : DV

def primT (tab : List Row) (prim : FuncId → List DV → St → Option (DV × St)) (f : FuncId) (ds : List DV) (s : St) : Option (DV × St) :=
  match tab.find? fun r => r.f == f && DV.beqs r.args ds with
  | some r => some (r.res, s)
  | none => prim f ds s

def Cfg.tab (C : Cfg) (tab : List Row) : Cfg := { C with prim := primT tab C.prim }

def kz : K := ⟨{}, fun _ => 0, 0, fun _ => none⟩

def RowFact (C : Cfg) (r : Row) : Prop :=
  DV.closeds r.args = true ∧ r.res.closed = true ∧ (∃ fn, C.P.funcs[r.f]? = some fn ∧ fn.body.isSome = true) ∧
  ∀ (a : List Addr) (G : GS) (w : World), GlobR ⟨{ a := a }, fun _ => 0, 0, G⟩ C.gl → GHeap G w → Calls C.P r.f (DV.dens kz r.args).toArray w fun e w' => e = .returned (r.res.den kz) ∧ Below w.heap.size w w'

def rowChk (C : Cfg) (tab : List Row) (r : Row) : Bool :=
  DV.closeds r.args && r.res.closed && ((ev (C.tab tab) 3000 (.enter r.f r.args) (init {})).slim false).ok fun d => d.beq r.res

theorem rowFact {C : Cfg} {tab : List Row} {r : Row} (hC : CfgOK (C.tab tab)) (h : rowChk C tab r = true) : RowFact C r := by
  unfold rowChk at h
  simp only [Bool.and_eq_true] at h
  obtain ⟨⟨h1, h2⟩, h3⟩ := h
  refine ⟨h1, h2, ?_, fun a G w hgl hG => ?_⟩
  · generalize 3000 = n at h3
    cases n with
    | zero => simp [ev, Tr.slim, Ts.ok] at h3
    | succ n =>
    simp only [ev] at h3
    cases hf : C.P.funcs[r.f]? with
    | none =>
      have : (C.tab tab).P.funcs[r.f]? = none := hf
      rw [this] at h3
      simp [Tr.slim, Ts.ok] at h3
    | some fn =>
      refine ⟨fn, rfl, ?_⟩
      have : (C.tab tab).P.funcs[r.f]? = some fn := hf
      rw [this] at h3
      cases hb : fn.body with
      | none => simp [hb, Tr.slim, Ts.ok] at h3
      | some c => rfl
  · let k0 : K := ⟨{ a := a }, fun _ => 0, 0, G⟩
    have hargs : DV.iss k0 r.args (DV.dens kz r.args) := fun k' _ => closeds_den k' kz r.args h1
    refine (calls_slim (C := C.tab tab) hC (keep := false) (n := 3000) (g := r.f) (args := r.args) (ct := {}) (pc := []) rfl (Q := fun _ _ d _ => d.beq r.res = true) (ρ := { a := a }) (G := G)
      ⟨rfl, rfl, rfl, rfl, by simp⟩ (by intro c v h; simp at h) hgl hG hargs (ok_sat (fun _ _ d _ h => h) _ _ _ h3)).mono ?_
    rintro e w' ⟨v, k, d, s, rfl, hle, hh, _, _, hd, hq⟩
    cases DV.beq_eq _ _ hq
    refine ⟨?_, hh.frame⟩
    rw [← hd.here, closed_den k kz _ h2]

theorem K.app_nil (k : K) : k.app {} k.G = k := by
  obtain ⟨⟨i, b, s, a, v⟩, β, nx, G⟩ := k
  simp [K.app, Env.app]

/-- What an answer in place needs: a run that leaves what was there as it was. -/
theorem prim_calls {C : Cfg} (hnum : ∀ (f : FuncId) (fn : Func), C.P.funcs[f]? = some fn → (fn.name == "runtime.NumGoroutine") = false) {w0 : Fr} {ro : Option Nat} {k : K} {s : St} {a : Act} {w : World} {g : FuncId} {vs : Array Value} {d : DV} {v : Value}
    (hs : StR w0 C.gl ro k s a w) (hfn : ∃ fn, C.P.funcs[g]? = some fn ∧ fn.body.isSome = true) (hd : d.is k v) (h : Calls C.P g vs w fun e w' => e = .returned v ∧ Below w.heap.size w w') (m : Nat) :
    CallRes ro m C.P (fun v w' => ∃ k', k.le k' ∧ k'.ρ = k.ρ ∧ k'.G = k.G ∧ StR w0 C.gl ro k' s a w' ∧ d.is k' v) ((callFunc g vs).run C.P w) := by
  obtain ⟨fn, hf, hb⟩ := hfn
  rw [run_callFunc hf (hnum _ _ hf) hb]
  refine CallsIn.mono (callsIn_round (callsIn_wide.2 h)) ?_
  rintro e w' ⟨rfl, hbel⟩
  refine ⟨k, K.le.refl k, rfl, rfl, ?_, hd⟩
  have hh := hs.heap.later (x := {}) (G' := k.G) (w' := w') (fun _ _ h => h) (fun b o hb => by
    obtain ⟨h1, _⟩ := hs.heap.g b o hb
    rw [hbel.block b (Array.getElem?_eq_some_iff.1 h1).1]; exact h1) (fun b o hb => .inl hb) hbel
  rw [K.app_nil] at hh
  exact ⟨hs.nx, hs.ct, hs.pc, hs.env, hh, hs.gl, hs.marks, hs.marksLt, hs.rnd, hs.rndLt, hs.memo⟩

theorem tab_nil {C : Cfg} (hC : CfgOK C) : CfgOK (C.tab []) :=
  ⟨hC.num, hC.prim, hC.op, hC.nodefer, hC.orders, hC.pure, hC.make⟩

theorem tab_cons {C : Cfg} {tab : List Row} {r : Row} (hgl : ∀ k, GlobR k C.gl → GlobR ⟨{ a := k.ρ.a }, fun _ => 0, 0, k.G⟩ C.gl) (hC : CfgOK (C.tab tab)) (hr : RowFact C r) : CfgOK (C.tab (r :: tab)) := by
  refine ⟨hC.num, ?_, hC.op, hC.nodefer, hC.orders, hC.pure, hC.make⟩
  intro w0 ro k s s' a w g args vs d hs hargs hp m
  change primT (r :: tab) C.prim g args s = some (d, s') at hp
  unfold primT at hp
  rw [List.find?_cons] at hp
  split at hp
  · rename_i r' heq
    split at heq
    · rename_i hc
      cases heq
      simp only [Option.some.injEq, Prod.mk.injEq] at hp
      obtain ⟨rfl, rfl⟩ := hp
      simp only [Bool.and_eq_true, beq_iff_eq] at hc
      obtain ⟨rfl, hb⟩ := hc
      cases DV.beqs_eq _ _ hb
      obtain ⟨h1, h2, h3, h4⟩ := hr
      have hvs : vs = DV.dens kz r.args := by rw [← hargs.here, closeds_den k kz _ h1]
      subst hvs
      exact prim_calls (C := C) hC.num hs h3 (fun k' _ => closed_den k' kz _ h2) (h4 _ _ w (hgl k hs.gl) fun b o hb => (hs.heap.g b o hb).1) m
    · refine hC.prim w0 ro k s s' a w g args vs d hs hargs ?_ m
      change primT tab C.prim g args s = some (d, s')
      unfold primT
      rw [heq]; exact hp
  · rename_i heq
    refine hC.prim w0 ro k s s' a w g args vs d hs hargs ?_ m
    change primT tab C.prim g args s = some (d, s')
    unfold primT
    split at heq
    · cases heq
    · rw [heq]; exact hp
end Go.Sx
/- Heads and names as bytes: plain laws. -/
namespace Go.Sx

theorem headL_len (k n : Nat) : (headL k n).length ≤ 9 := by
  unfold headL
  repeat' (first | split | simp)

/-- Heads' bytes do not begin one another. -/
theorem head_prefix {k n m : Nat} {u v : List UInt8} (hk : k < 8) (hn : n ≤ maxNum) (hm : m ≤ maxNum)
    (h : (headL k n).map UInt8.ofNat ++ u <+: (headL k m).map UInt8.ofNat ++ v) : n = m ∧ u <+: v := by
  unfold maxNum at hn hm
  unfold headL maxNum at h
  repeat' split at h
  all_goals
    first
      | omega
      | (simp only [List.map_cons, List.map_nil, List.cons_append, List.nil_append, List.cons_prefix_cons, ofNat_eq] at h
         first
           | (exfalso; have := h.1; omega)
           | exact ⟨by omega, by first | exact h.2 | exact h.2.2 | exact h.2.2.2 | exact h.2.2.2.2.2 | exact h.2.2.2.2.2.2.2.2.2⟩)

theorem cut_at {c : UInt8} : ∀ {a b u v : List UInt8}, (c ∉ a) → (c ∉ b) → a ++ c :: u = b ++ c :: v → a = b ∧ u = v
  | [], [], u, v, _, _, h => by simpa using h
  | [], y :: b, u, v, _, hb, h => by
    simp at h
    exact absurd (by simp [h.1]) hb
  | x :: a, [], u, v, ha, _, h => by
    simp at h
    exact absurd (by simp [← h.1]) ha
  | x :: a, y :: b, u, v, ha, hb, h => by
    simp only [List.cons_append, List.cons.injEq] at h
    simp only [List.mem_cons, not_or] at ha hb
    obtain ⟨h1, h2⟩ := cut_at ha.2 hb.2 h.2
    exact ⟨by rw [h.1, h1], h2⟩
end Go.Sx
/- Package-level variables that stay: what is told of them does not turn. Runs' values as calls. -/
namespace Go.Sx
open Go.RowKit

mutual
def DV.still (sep : List Nat) : DV → Bool
  | .int _ (.lit _) => true
  | .iface _ v => v.still sep
  | .ptr ⟨.av i, .lit _⟩ => sep.contains i
  | .ptr ⟨.at_ _, .lit _⟩ => true
  | .agg l => DV.stills sep l
  | _ => false
def DV.stills (sep : List Nat) : List DV → Bool
  | [] => true
  | d :: l => d.still sep && DV.stills sep l
end

mutual
theorem still_den {sep : List Nat} {k k' : K} (ha : ∀ i ∈ sep, k'.ρ.a[i]? = k.ρ.a[i]?) : ∀ (d : DV), d.still sep = true → d.den k' = d.den k
  | .int _ e, h => by cases e <;> simp [DV.still] at h; simp only [DV.den, E.ii]
  | .iface _ v, h => by simp only [DV.still] at h; simp only [DV.den, still_den ha v h]
  | .ptr ⟨b, e⟩, h => by
    cases b <;> cases e <;> simp [DV.still] at h
    · simp only [DV.den, Ref.den, Base.den, E.ii, ha _ h]
    · simp only [DV.den, Ref.den, Base.den, E.ii]
  | .agg l, h => by simp only [DV.still] at h; simp only [DV.den, stills_den ha l h]
  | .bool _, h => by simp [DV.still] at h
  | .str _, h => by simp [DV.still] at h
  | .nilif, h => by simp [DV.still] at h
  | .nilptr, h => by simp [DV.still] at h
  | .nilslice, h => by simp [DV.still] at h
  | .nilmap, h => by simp [DV.still] at h
  | .nilfn, h => by simp [DV.still] at h
  | .tup _, h => by simp [DV.still] at h
  | .slice _ _ _, h => by simp [DV.still] at h
  | .map _, h => by simp [DV.still] at h
  | .fn _ _ _, h => by simp [DV.still] at h
  | .yld _, h => by simp [DV.still] at h
  | .raw _, h => by simp [DV.still] at h
  | .gd _ _, h => by simp [DV.still] at h
theorem stills_den {sep : List Nat} {k k' : K} (ha : ∀ i ∈ sep, k'.ρ.a[i]? = k.ρ.a[i]?) : ∀ (l : List DV), DV.stills sep l = true → DV.dens k' l = DV.dens k l
  | [], _ => by simp only [DV.dens]
  | d :: l, h => by
    simp only [DV.stills, Bool.and_eq_true] at h
    simp only [DV.dens, still_den ha d h.1, stills_den ha l h.2]
end

theorem look_mem {α : Type} {n : Nat} {v : α} : ∀ {l : List (Nat × α)}, look n l = some v → (n, v) ∈ l
  | [], h => by simp [look] at h
  | (m, x) :: l, h => by
    simp only [look] at h
    split at h
    · rename_i hm
      have := beq_iff_eq.1 hm
      subst this
      cases h; simp
    · simp [look_mem h]

theorem gl_still {gl : Glob} (hst : ∀ g cs, (g, cs) ∈ gl.l → ∀ d ∈ cs, DV.still gl.sep d = true) (k : K) (h : GlobR k gl) : GlobR ⟨{ a := k.ρ.a }, fun _ => 0, 0, k.G⟩ gl := by
  refine ⟨fun g cs hl => ?_, h.sep, h.ne⟩
  obtain ⟨vs, e, fr, hG, hget⟩ := h.l g cs hl
  refine ⟨vs, e, fr, hG, fun i d hi => ?_⟩
  obtain ⟨v, hv, hd⟩ := hget i d hi
  refine ⟨v, hv, fun k' hle => ?_⟩
  rw [← hd.here]
  refine still_den (sep := gl.sep) (fun j hj => ?_) d (hst g cs (look_mem hl) d (List.mem_of_getElem? hi))
  obtain ⟨a, c, e', h1, _⟩ := h.sep j hj
  obtain ⟨t, ht⟩ := hle.ρ.a
  rw [← ht]
  show (k.ρ.a ++ t)[j]? = k.ρ.a[j]?
  rw [List.getElem?_append_left (List.getElem?_eq_some_iff.1 h1).1]


/-- A run whose value is known whatever stands for the rest. -/
def Den (v : Value) (ρ : Env) (_ : GS) (d : DV) (_ : List (Id × List DV)) : Prop := ∀ β nx G, d.den ⟨ρ, β, nx, G⟩ = v

theorem calls_den {C : Cfg} (hC : CfgOK C) {n : Nat} {g : FuncId} {args : List DV} {ct : Ctr} {pc : List (E × Bool)} {T : Ts}
    (hT : (ev C n (.enter g args) (init ct pc)).slim false = T) {ρ : Env} {G : GS} {w : World} {vs : List Value} {v : Value}
    (hct : CtR ⟨ρ, fun _ => 0, 0, G⟩ ct) (hpc : PcR ⟨ρ, fun _ => 0, 0, G⟩ pc) (hgl : GlobR ⟨ρ, fun _ => 0, 0, G⟩ C.gl) (hG : GHeap G w) (hvs : DV.iss ⟨ρ, fun _ => 0, 0, G⟩ args vs) (hs : T.sat C.P (Den v) ρ G) :
    Calls C.P g vs.toArray w fun e w' => e = .returned v ∧ Below w.heap.size w w' := by
  refine (calls_slim hC hT hct hpc hgl hG hvs hs).mono ?_
  rintro e w' ⟨u, k, d, s, rfl, hle, hh, _, _, hd, hq⟩
  refine ⟨?_, hh.frame⟩
  rw [← hd.here]
  exact congrArg _ (hq k.β k.nx k.G)

/-- The same, where the run's value is told by what it stands for. -/
theorem calls_post {C : Cfg} (hC : CfgOK C) {n : Nat} {g : FuncId} {args : List DV} {ct : Ctr} {pc : List (E × Bool)} {T : Ts}
    (hT : (ev C n (.enter g args) (init ct pc)).slim false = T) {ρ : Env} {G : GS} {w : World} {vs : List Value} {V : Value → Prop}
    (hct : CtR ⟨ρ, fun _ => 0, 0, G⟩ ct) (hpc : PcR ⟨ρ, fun _ => 0, 0, G⟩ pc) (hgl : GlobR ⟨ρ, fun _ => 0, 0, G⟩ C.gl) (hG : GHeap G w) (hvs : DV.iss ⟨ρ, fun _ => 0, 0, G⟩ args vs)
    (hs : T.sat C.P (fun ρ G d _ => ∀ β nx, V (d.den ⟨ρ, β, nx, G⟩)) ρ G) :
    Calls C.P g vs.toArray w fun e w' => (∃ v, e = .returned v ∧ V v) ∧ Below w.heap.size w w' := by
  refine (calls_slim hC hT hct hpc hgl hG hvs hs).mono ?_
  rintro e w' ⟨u, k, d, s, rfl, hle, hh, _, _, hd, hq⟩
  refine ⟨⟨u, rfl, ?_⟩, hh.frame⟩
  rw [← hd.here]
  exact hq k.β k.nx

/-- A contract of such a call. -/
theorem callOK_of {P : Program} {ρ : Env} {G : GS} {f : FuncId} {args : List DV} {sh : Sh} {c : Ctr} {R : Ext → GS → Prop} {V : Value → Prop}
    (h : ∀ β nx w, GHeap G w → Calls P f (DV.dens ⟨ρ, β, nx, G⟩ args).toArray w fun e w' => (∃ v, e = .returned v ∧ V v) ∧ Below w.heap.size w w')
    (hV : ∀ v, V v → ∃ x, Fits x c (sh.fresh c).2 ∧ R x G ∧ ∀ β nx, v = (sh.fresh c).1.den ⟨ρ.app x, β, nx, G⟩) : CallOK P ρ G f args sh c R := by
  intro β nx w hG
  refine (h β nx w hG).mono ?_
  rintro e w' ⟨⟨v, rfl, hv⟩, hb⟩
  obtain ⟨x, h1, h2, h3⟩ := hV v hv
  refine ⟨x, G, h1, h2, by rw [h3 β nx], fun _ _ h => h, fun b o ho => ?_, fun b o ho => .inl ho, hb⟩
  have := hG b o ho
  rw [hb.block b (Array.getElem?_eq_some_iff.1 this).1]; exact this
end Go.Sx
