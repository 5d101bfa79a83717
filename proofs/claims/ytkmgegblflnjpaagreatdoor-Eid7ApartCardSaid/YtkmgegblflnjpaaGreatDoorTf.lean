/- Chapter 10: the settings are right. -/
import Derived.Test.YtkmgegblflnjpaaGreatDoorTe
set_option linter.unusedSimpArgs false
set_option linter.unusedVariables false
namespace Go.Sx
open Go.Proofs Go.RowKit

theorem body64 : ∃ fn, Tryz.prog.funcs[64]? = some fn ∧ fn.body.isSome = true := ⟨_, Tryz.func64, by kernel_rfl⟩
theorem body55 : ∃ fn, Tryz.prog.funcs[55]? = some fn ∧ fn.body.isSome = true := ⟨_, Tryz.func55, by kernel_rfl⟩
theorem body29 : ∃ fn, Tryz.prog.funcs[29]? = some fn ∧ fn.body.isSome = true := ⟨_, Tryz.func29, by kernel_rfl⟩

section
variable {w0 : Fr} {ro : Option Nat} {k : K} {s s' : St} {a : Act} {w : World}

theorem gl7_k (h : GlobR k gl7) : GlobR ⟨{ a := k.ρ.a }, fun _ => 0, 0, k.G⟩ gl7 := gl7_any h
theorem gheap_of (hs : StR w0 gl7 ro k s a w) : GHeap k.G w := fun b o hb => (hs.heap.g b o hb).1

theorem mk_part {x : E} {sv : ByteArray} {p : List (Nat × Nat)} (hx : x.isS k sv) : (DV.bool (mk2 .and (.o1 (.allr p) x) (mk2 .le (mk1 .len x) (.lit 20)))).is k (.bool (ra (inR p) sv 0 && decide ((sv.size : Int) ≤ 20))) := by
  refine mk_bool fun k' hle => ?_
  simp only [mk2_bb, E.bb, E.ii, mk1_ii, hx k' hle]

set_option maxRecDepth 100000 in
theorem prim7_ok (g : FuncId) (args : List DV) (vs : List Value) (d : DV) (hs : StR w0 gl7 ro k s a w) (hv : DV.iss k args vs) (h : prim7 g args s = some (d, s')) (m : Nat) :
    CallRes ro m Tryz.prog (fun v w' => ∃ k', k.le k' ∧ k'.ρ = k.ρ ∧ k'.G = k.G ∧ StR w0 gl7 ro k' s' a w' ∧ d.is k' v) ((callFunc g vs.toArray).run Tryz.prog w) := by
  by_cases h74 : g = 74
  · subst h74; exact prim7_74 args vs d hs hv h m
  by_cases h134 : g = 134
  · subst h134; exact prim7_134 args vs d hs hv h m
  unfold prim7 at h
  rw [if_neg (by simpa using h74), if_neg (by simpa using h134)] at h
  split at h
  · rename_i hg
    have hg := beq_iff_eq.1 hg
    subst hg
    split at h
    · rename_i x l
      obtain ⟨v, vs', rfl, hx, hv'⟩ := DV.iss_cons_inv hv
      obtain ⟨u, vs'', rfl, hy, hv''⟩ := DV.iss_cons_inv hv'
      have := hv''.length; simp at this; subst this
      obtain ⟨sv, rfl, hsv⟩ := is_str hx
      obtain ⟨su, rfl, hsu⟩ := is_str hy
      have hu : su = sOf l := (hsu k (K.le.refl k)).symm
      subst hu
      split at h
      · cases h
      split at h
      · rename_i hl
        have hl := beq_iff_eq.1 hl
        subst hl
        simp only [Option.some.injEq, Prod.mk.injEq] at h
        obtain ⟨rfl, rfl⟩ := h
        exact prim_calls (C := C7a) nonum' hs body64 (mk_part hsv) (p1_calls sv k.ρ.a k.G w (gl7_k hs.gl) (gheap_of hs)) m
      split at h
      · rename_i hl
        have hl := beq_iff_eq.1 hl
        subst hl
        simp only [Option.some.injEq, Prod.mk.injEq] at h
        obtain ⟨rfl, rfl⟩ := h
        exact prim_calls (C := C7a) nonum' hs body64 (mk_part hsv) (p2_calls sv k.ρ.a k.G w (gl7_k hs.gl) (gheap_of hs)) m
      · cases h
    · cases h
  split at h
  · rename_i hg
    have hg := beq_iff_eq.1 hg
    subst hg
    split at h
    · rename_i x
      obtain ⟨v, vs', rfl, hx, hv'⟩ := DV.iss_cons_inv hv
      have := hv'.length; simp at this; subst this
      obtain ⟨sv, rfl, hsv⟩ := is_str hx
      split at h
      · cases h
      · simp only [Option.some.injEq, Prod.mk.injEq] at h
        obtain ⟨rfl, rfl⟩ := h
        refine prim_calls (C := C7a) nonum' hs body55 (mk_bool fun k' hle => ?_) (t_calls sv k.ρ.a k.G w (gl7_k hs.gl) (gheap_of hs)) m
        simp only [E.bb, hsv k' hle]
    · cases h
  split at h
  · rename_i hg
    have hg := beq_iff_eq.1 hg
    subst hg
    split at h
    · rename_i kk n
      split at h
      · rename_i hc
        simp only [Bool.and_eq_true, Bool.or_eq_true, beq_iff_eq] at hc
        obtain ⟨⟨hk, hlo⟩, hhi⟩ := hc
        simp only [Option.some.injEq, Prod.mk.injEq] at h
        obtain ⟨rfl, rfl⟩ := h
        obtain ⟨v, vs', rfl, hx, hv'⟩ := DV.iss_cons_inv hv
        obtain ⟨u, vs'', rfl, hy, hv''⟩ := DV.iss_cons_inv hv'
        have := hv''.length; simp at this; subst this
        obtain ⟨kv, rfl, hkv⟩ := is_int hx
        obtain ⟨nv, rfl, hnv⟩ := is_int hy
        have hkk : kv = kk := (hkv k (K.le.refl k)).symm
        subst hkk
        have b0 : 0 ≤ nv := by
          have := decideE_sound hs.pc hlo k (K.le.refl k)
          rw [mk2_bb] at this
          simp only [E.bb, E.ii, hnv k (K.le.refl k)] at this
          exact of_decide_eq_true this
        have b1 : nv ≤ 281474976710655 := by
          have := decideE_sound hs.pc hhi k (K.le.refl k)
          rw [mk2_bb] at this
          simp only [E.bb, E.ii, hnv k (K.le.refl k)] at this
          exact of_decide_eq_true this
        obtain ⟨kn, rfl⟩ : ∃ j : Nat, kv = j := ⟨kv.toNat, by omega⟩
        refine prim_calls (C := C7a) nonum' hs body29 ?_ (h_calls kn (by omega) nv b0 b1 k.ρ.a k.G w (gl7_k hs.gl) (gheap_of hs)) m
        intro k' hle
        simp only [DV.den, DV.dens, E.ii]
        rw [mk2_ss _ _ _ _ (by simp) (by simp)]
        simp only [E.ss, E.ii, hnv k' hle]
      · cases h
    · cases h
  · cases h
end

set_option maxRecDepth 100000 in
theorem C7ok : CfgOK C7 := cfgOK nonum' (fun _ _ _ _ _ _ _ g args vs d hs hv h m => prim7_ok g args vs d hs hv h m) orders
end Go.Sx
