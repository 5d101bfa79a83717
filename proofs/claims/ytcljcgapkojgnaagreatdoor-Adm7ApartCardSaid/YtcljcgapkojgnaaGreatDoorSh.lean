/- Operations (VI): comparisons. -/
import Derived.Test.YtcljcgapkojgnaaGreatDoorSg
import Derived.Laws.StructEq
set_option linter.unusedSimpArgs false
set_option linter.unusedVariables false
namespace Go.Sx
open Go.RowKit

section
variable {P : Program} {w0 : Fr} {gl : Glob} {ro : Option Nat} {k : K} {s : St} {a : Act} {w : World} {Q : Env → GS → Out → St → Prop} {B : Backs}

theorem isB_eqb {e f : E} {b c : Bool} (h : e.isB k b) (h' : f.isB k c) : (mk2 .eqb e f).isB k (b == c) := fun k' g => by rw [mk2_bb]; simp [E.bb, h k' g, h' k' g]

theorem partD_sound {t : TypeId} {l : List DV} {off : Nat} {d : DV} (h : partD P t l off = some d) {vs : List Value} (hl : DV.iss k l vs) :
    ∃ v, (∀ w, (part t vs.toArray off).run P w = .ok v w) ∧ d.is k v := by
  simp only [partD, Option.bind_eq_some_iff] at h
  obtain ⟨cs, h1, h2⟩ := h
  obtain ⟨v, hv, hd⟩ := run_part (P := P) (w := default) hl h1 h2
  refine ⟨d.den k, fun w => ?_, by rw [hd.here]; exact hd⟩
  obtain ⟨v', hv', hd'⟩ := run_part (P := P) (w := w) hl h1 h2
  rw [hv', ← hd'.here]

theorem base_some {e : E} {r : Ref} {ad : Option Addr} (hr : r.is k ad) (h : (match r.base with | .id _ | .at_ _ => some (E.bl false) | _ => none : Option E) = some e) : (∃ a, ad = some a) ∧ e = .bl false := by
  have h0 := hr k (K.le.refl k)
  unfold Ref.den at h0
  cases hb : r.base <;> rw [hb] at h h0 <;> simp at h
  · simp [Base.den] at h0; exact ⟨⟨_, h0.symm⟩, h.symm⟩
  · simp [Base.den] at h0; exact ⟨⟨_, h0.symm⟩, h.symm⟩

theorem nilptr_is {v : Value} (h : DV.nilptr.is k v) : v = .pointer none := by rw [← h.here]; rfl
theorem nilif_is {v : Value} (h : DV.nilif.is k v) : v = .nilIface := by rw [← h.here]; rfl
theorem nilfn_is {v : Value} (h : DV.nilfn.is k v) : v = .nilFunc := by rw [← h.here]; rfl
theorem nilslice_is {v : Value} (h : DV.nilslice.is k v) : v = .slice none 0 0 := by rw [← h.here]; rfl

def EqOK (P : Program) (n : Nat) (t : TypeId) (v u : Value) (b : Bool) : Prop := ∀ d, n ≤ d → ∀ w, (Op.equalIn d t v u).run P w = .ok b w

theorem EqOK.mk {n : Nat} {t : TypeId} {v u : Value} {b : Bool} (h : ∀ d w, n ≤ d → (Op.equalIn (d + 1) t v u).run P w = .ok b w) : EqOK P (n + 1) t v u b := by
  intro d hd w
  obtain ⟨d, rfl⟩ : ∃ m, d = m + 1 := ⟨d - 1, by omega⟩
  exact h d w (by omega)

mutual
theorem eqT_sound : ∀ (n : Nat) {t : TypeId} {x y : DV} {v u : Value} {e : E}, x.is k v → y.is k u → eqT P n t x y = some e → ∃ b, e.isB k b ∧ EqOK P n t v u b
  | 0, t, x, y, v, u, e, _, _, h => by simp [eqT] at h
  | n + 1, t, x, y, v, u, e, hx, hy, h => by
    simp only [eqT] at h
    split at h
    · rename_i hu
      obtain ⟨p, rfl, hp⟩ := is_int hx
      obtain ⟨q, rfl, hq⟩ := is_int hy
      split at h
      · rename_i hk
        have hk := beq_iff_eq.1 hk
        subst hk
        simp only [Option.some.injEq] at h; subst h
        exact ⟨_, isB_eqi hp hq, .mk fun d w _ => by simp [Op.equalIn, run_underlying hu]⟩
      · simp at h
    · rename_i hu
      obtain ⟨p, rfl, hp⟩ := is_bool hx
      obtain ⟨q, rfl, hq⟩ := is_bool hy
      simp only [Option.some.injEq] at h; subst h
      exact ⟨_, isB_eqb hp hq, .mk fun d w _ => by simp [Op.equalIn, run_underlying hu]⟩
    · rename_i hu
      obtain ⟨p, rfl, hp⟩ := is_str hx
      obtain ⟨q, rfl, hq⟩ := is_str hy
      simp only [Option.some.injEq] at h; subst h
      exact ⟨_, isB_eqs hp hq, .mk fun d w _ => by simp [Op.equalIn, run_underlying hu, beq_toListBytes]⟩
    · rename_i hu
      cases nilif_is hx; cases nilif_is hy
      simp only [Option.some.injEq] at h; subst h
      exact ⟨_, isB_lit _, .mk fun d w _ => by simp [Op.equalIn, run_underlying hu]⟩
    · rename_i hu
      cases nilif_is hx; obtain ⟨q, rfl, hq⟩ := is_iface hy
      simp only [Option.some.injEq] at h; subst h
      exact ⟨_, isB_lit _, .mk fun d w _ => by simp [Op.equalIn, run_underlying hu]⟩
    · rename_i hu
      cases nilif_is hy; obtain ⟨q, rfl, hq⟩ := is_iface hx
      simp only [Option.some.injEq] at h; subst h
      exact ⟨_, isB_lit _, .mk fun d w _ => by simp [Op.equalIn, run_underlying hu]⟩
    · rename_i tx vx ty vy hu
      obtain ⟨p, rfl, hp⟩ := is_iface hx
      obtain ⟨q, rfl, hq⟩ := is_iface hy
      split at h
      · rename_i hne
        simp only [Option.some.injEq] at h; subst h
        have hne : tx ≠ ty := by simpa using hne
        exact ⟨_, isB_lit _, .mk fun d w _ => by simp [Op.equalIn, run_underlying hu, hne]⟩
      · rename_i hne
        have hne : tx = ty := by simpa using hne
        subst hne
        split at h
        · rename_i i hi
          split at h
          · rename_i hc
            obtain ⟨b, hb, hrun⟩ := eqT_sound n hp hq h
            exact ⟨b, hb, .mk fun d w hd => by simp [Op.equalIn, run_underlying hu, run_typeInfo hi, hc, hrun d hd w]⟩
          · simp at h
        · simp at h
    · rename_i hu
      cases nilfn_is hx; cases nilfn_is hy
      simp only [Option.some.injEq] at h; subst h
      exact ⟨_, isB_lit _, .mk fun d w _ => by simp [Op.equalIn, run_underlying hu]⟩
    · rename_i hu
      cases nilfn_is hx; obtain ⟨_, _, rfl, _, _⟩ := is_fn hy
      simp only [Option.some.injEq] at h; subst h
      exact ⟨_, isB_lit _, .mk fun d w _ => by simp [Op.equalIn, run_underlying hu]⟩
    · rename_i hu
      cases nilfn_is hy; obtain ⟨_, _, rfl, _, _⟩ := is_fn hx
      simp only [Option.some.injEq] at h; subst h
      exact ⟨_, isB_lit _, .mk fun d w _ => by simp [Op.equalIn, run_underlying hu]⟩
    · rename_i hu
      cases nilptr_is hx; cases nilptr_is hy
      simp only [Option.some.injEq] at h; subst h
      exact ⟨_, isB_lit _, .mk fun d w _ => by simp [Op.equalIn, run_underlying hu]⟩
    · rename_i hu
      cases nilptr_is hx
      obtain ⟨ad, rfl, hr⟩ := is_ptr hy
      obtain ⟨⟨a0, rfl⟩, rfl⟩ := base_some hr h
      exact ⟨_, isB_lit _, .mk fun d w _ => by simp [Op.equalIn, run_underlying hu]⟩
    · rename_i hu
      cases nilptr_is hy
      obtain ⟨ad, rfl, hr⟩ := is_ptr hx
      obtain ⟨⟨a0, rfl⟩, rfl⟩ := base_some hr h
      exact ⟨_, isB_lit _, .mk fun d w _ => by simp [Op.equalIn, run_underlying hu]⟩
    · rename_i r q hu
      obtain ⟨ad, rfl, hr⟩ := is_ptr hx
      obtain ⟨bd, rfl, hq⟩ := is_ptr hy
      split at h
      · rename_i i j m n hbi hbj hm hn
        split at h
        · rename_i hij
          simp only [Bool.and_eq_true, beq_iff_eq, bne_iff_ne, Option.isSome_iff_exists] at hij
          obtain ⟨⟨rfl, hne⟩, hinfo⟩ := hij
          simp only [Option.some.injEq] at h; subst h
          have h1 : ad = some ⟨k.β i, m, none⟩ := by
            rw [← hr k (K.le.refl k)]
            simp [Ref.den, hbi, Base.den, (litNat_isI (k := k) hm).here, add_plain]
          have h2 : bd = some ⟨k.β i, n, none⟩ := by
            rw [← hq k (K.le.refl k)]
            simp [Ref.den, hbj, Base.den, (litNat_isI (k := k) hn).here, add_plain]
          subst h1; subst h2
          refine ⟨_, isB_lit _, .mk fun d w _ => ?_⟩
          have he : ((⟨k.β i, m, none⟩ : Addr) == ⟨k.β i, n, none⟩) = (m == n) := by
            cases hmn : (m == n) with
            | true => have := beq_iff_eq.1 hmn; subst this; exact beq_self_eq_true _
            | false =>
              have : m ≠ n := by simpa using hmn
              rw [beq_eq_false_iff_ne]
              intro e
              exact this (by injection e)
          simp [Op.equalIn, run_underlying hu, run_sizeOf hinfo, hne, samePointer, sameAddr, he]
        · simp at h
      · simp at h
    · rename_i hu
      cases nilslice_is hx; cases nilslice_is hy
      simp only [Option.some.injEq] at h; subst h
      exact ⟨_, isB_lit _, .mk fun d w _ => by simp [Op.equalIn, run_underlying hu]⟩
    · rename_i hu
      cases nilslice_is hy
      obtain ⟨ad, m, c, rfl, hr, _, _⟩ := is_slice hx
      obtain ⟨⟨a0, rfl⟩, rfl⟩ := base_some hr h
      exact ⟨_, isB_lit _, .mk fun d w _ => by simp [Op.equalIn, run_underlying hu]⟩
    · rename_i hu
      cases nilslice_is hx
      obtain ⟨ad, m, c, rfl, hr, _, _⟩ := is_slice hy
      obtain ⟨⟨a0, rfl⟩, rfl⟩ := base_some hr h
      exact ⟨_, isB_lit _, .mk fun d w _ => by simp [Op.equalIn, run_underlying hu]⟩
    · rename_i fs a' b' hu
      obtain ⟨xs, rfl, hxs⟩ := is_agg hx
      obtain ⟨ys, rfl, hys⟩ := is_agg hy
      split at h
      · simp at h
      · rename_i hst
        have hst : P.stoodInHeld t = false := by simpa using hst
        obtain ⟨b, hb, hrun⟩ := eqFs_sound n hxs hys h
        refine ⟨b, hb, .mk fun d w hd => ?_⟩
        have hf : P.fieldsOf t = fs := by simp [Program.fieldsOf, hu]
        rw [run_equalIn_struct (P := P) w d t _ _ (by rw [hf]; exact hu) hst, hf]
        exact hrun d hd w
    · simp at h
theorem eqFs_sound : ∀ (n : Nat) {xs ys : List DV} {fs : List Field} {vs us : List Value} {e : E}, DV.iss k xs vs → DV.iss k ys us → eqFs P n xs ys fs = some e →
    ∃ b, e.isB k b ∧ ∀ d, n ≤ d → ∀ w, (Op.eqFields d vs.toArray us.toArray fs).run P w = .ok b w
  | 0, xs, ys, fs, vs, us, e, _, _, h => by simp [eqFs] at h
  | n + 1, xs, ys, [], vs, us, e, _, _, h => by
    simp only [eqFs, Option.some.injEq] at h; subst h
    exact ⟨true, isB_lit _, fun d _ w => by simp [Op.eqFields]⟩
  | n + 1, xs, ys, f :: fs, vs, us, e, hx, hy, h => by
    simp only [eqFs] at h
    split at h
    · rename_i hn
      have hn : f.name = "_" := by simpa using hn
      obtain ⟨b, hb, hrun⟩ := eqFs_sound n hx hy h
      exact ⟨b, hb, fun d hd w => by simp [Op.eqFields, hn, hrun d (by omega) w]⟩
    · rename_i hn
      have hn : f.name ≠ "_" := by simpa using hn
      split at h
      · rename_i x y hpx hpy
        obtain ⟨v, hv, hdv⟩ := partD_sound hpx hx
        obtain ⟨u, hu, hdu⟩ := partD_sound hpy hy
        split at h
        · rename_i p q hp hq
          simp only [Option.some.injEq] at h; subst h
          obtain ⟨b, hb, hrun⟩ := eqT_sound n hdv hdu hp
          obtain ⟨c, hc, hrun2⟩ := eqFs_sound n hx hy hq
          refine ⟨b && c, isB_and hb hc, fun d hd w => ?_⟩
          simp only [Op.eqFields, if_pos hn, Sem.run_bind, hv, hu, Result.andThen_ok, hrun d (by omega) w]
          cases b
          · simp
          · simp [hrun2 d (by omega) w]
        · simp at h
      · simp at h
end

theorem plain_spec {x : DV} {v : Value} (hx : x.is k v) (h : plainD x = true) : v ≠ .nilIface ∧ ∀ c, v ≠ .agg c := by
  rw [← hx.here]
  cases x <;> simp [plainD] at h <;> simp [DV.den]

theorem eqGuard_sound {o : BinOp} (ho : o = .eql ∨ o = .neq) {t : TypeId} {x y : DV} {ox oy : Operand} {v u : Value} (hx : x.is k v) (hy : y.is k u) {cst : Bool}
    (hc : cst = true → (isConst ox || isConst oy) = true) (h : eqOKD P t cst x y = true) : (eqGuard o t ox oy v u).run P w = .ok () w := by
  have hpl : (v ≠ .nilIface ∧ ∀ c, v ≠ .agg c) ∨ (u ≠ .nilIface ∧ ∀ c, u ≠ .agg c) → (eqGuard o t ox oy v u).run P w = .ok () w := by
    intro hh
    rcases ho with rfl | rfl <;> simp only [eqGuard, Bool.not_true, Bool.false_eq_true, if_false] <;>
      (rcases hh with ⟨h1, h2⟩ | ⟨h1, h2⟩ <;> split <;> first | rfl | (exact absurd rfl h1) | (exact absurd rfl (h2 _)))
  unfold eqOKD at h
  simp only [Bool.or_eq_true] at h
  rcases h with (h | h) | h
  · exact hpl (.inl (plain_spec hx h))
  · exact hpl (.inr (plain_spec hy h))
  · split at h
    · obtain ⟨xs, rfl, _⟩ := is_agg hx
      obtain ⟨ys, rfl, _⟩ := is_agg hy
      exact run_eqGuard_agg (P := P) w o t ox oy xs.toArray ys.toArray (by simpa using h)
    · cases nilif_is hx; cases nilif_is hy
      have hc := hc h
      rcases ho with rfl | rfl <;> simp only [eqGuard, Bool.not_true, Bool.false_eq_true, if_false] <;>
        (cases ox <;> cases oy <;> simp [isConst] at hc <;> rfl)
    · simp at h

theorem binOp_eql {t : TypeId} {x : DV} {v u : Value} (hx : x.is k v) (h : cmpHead x = true) :
    binOp .eql t v u = (do pure (.bool (← Op.equal t v u))) ∧ binOp .neq t v u = (do pure (.bool (!(← Op.equal t v u)))) := by
  rw [← hx.here]
  cases x <;> simp [cmpHead] at h <;> simp only [DV.den] <;> exact ⟨rfl, rfl⟩

theorem cmpD_sound (hs : StR w0 gl ro k s a w) {o : BinOp} {t : TypeId} {x y : DV} {ox oy : Operand} {v u : Value} (hx : x.is k v) (hy : y.is k u)
    {cst : Bool} (hc : cst = true → (isConst ox || isConst oy) = true) (h : (cmpD P s o t cst x y).sat P Q B k.ρ k.G) :
    OpPostW w0 gl ro a Q k w ((do eqGuard o t ox oy v u; binOp o t v u : Sem Value).run P w) := by
  unfold cmpD at h
  split at h
  · exact (sat_bad h).elim
  · rename_i hok
    simp only [Bool.not_eq_true', Bool.not_eq_false, Bool.and_eq_true] at hok
    obtain ⟨hhd, hok⟩ := hok
    obtain ⟨be, bn⟩ := binOp_eql (t := t) (u := u) hx hhd
    have g1 := eqGuard_sound (w := w) (o := .eql) (.inl rfl) hx hy hc hok
    have g2 := eqGuard_sound (w := w) (o := .neq) (.inr rfl) hx hy hc hok
    split at h
    · rename_i e heq
      obtain ⟨b, hb, hrun⟩ := eqT_sound 60 hx hy heq
      refine post_of hs (mk_bool hb) h ?_
      simp only [be, bn, Sem.run_bind, g1, g2, Op.equal, Op.maxDepth, hrun 10000 (by omega) w, Result.andThen_ok, Sem.run_pure]
    · rename_i e heq
      obtain ⟨b, hb, hrun⟩ := eqT_sound 60 hx hy heq
      refine post_of hs (mk_bool (isB_not hb)) h ?_
      simp only [be, bn, Sem.run_bind, g1, g2, Op.equal, Op.maxDepth, hrun 10000 (by omega) w, Result.andThen_ok, Sem.run_pure]
    · exact (sat_bad h).elim
end
end Go.Sx
