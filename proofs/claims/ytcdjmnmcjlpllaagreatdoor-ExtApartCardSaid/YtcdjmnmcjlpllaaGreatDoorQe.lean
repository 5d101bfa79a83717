/- Chapter 14: the table's runs are calls; its first words say 'true'. -/
import Derived.Test.YtcdjmnmcjlpllaaGreatDoorQd
import Derived.Test.YtcdjmnmcjlpllaaGreatDoorQc
set_option linter.unusedSimpArgs false
set_option linter.unusedVariables false
namespace Go.Sx
open Go.Proofs Go.RowKit

mutual
def DV.still (sep : List Nat) : DV → Bool
  | .int _ (.lit _) => true
  | .iface _ v => v.still sep
  | .ptr ⟨.av i, .lit _⟩ => sep.contains i
  | .ptr ⟨.at_ _, .lit _⟩ => true
  | .agg l => DV.stills sep l
  | _ => false
def DV.stills (sep : List Nat) : List DV → Bool
  | [] => true
  | d :: l => d.still sep && DV.stills sep l
end

mutual
theorem still_den {sep : List Nat} {k k' : K} (ha : ∀ i ∈ sep, k'.ρ.a[i]? = k.ρ.a[i]?) : ∀ (d : DV), d.still sep = true → d.den k' = d.den k
  | .int _ e, h => by cases e <;> simp [DV.still] at h; simp only [DV.den, E.ii]
  | .iface _ v, h => by simp only [DV.still] at h; simp only [DV.den, still_den ha v h]
  | .ptr ⟨b, e⟩, h => by
    cases b <;> cases e <;> simp [DV.still] at h
    · simp only [DV.den, Ref.den, Base.den, E.ii, ha _ h]
    · simp only [DV.den, Ref.den, Base.den, E.ii]
  | .agg l, h => by simp only [DV.still] at h; simp only [DV.den, stills_den ha l h]
  | .bool _, h => by simp [DV.still] at h
  | .str _, h => by simp [DV.still] at h
  | .nilif, h => by simp [DV.still] at h
  | .nilptr, h => by simp [DV.still] at h
  | .nilslice, h => by simp [DV.still] at h
  | .nilmap, h => by simp [DV.still] at h
  | .nilfn, h => by simp [DV.still] at h
  | .tup _, h => by simp [DV.still] at h
  | .slice _ _ _, h => by simp [DV.still] at h
  | .map _, h => by simp [DV.still] at h
  | .fn _ _ _, h => by simp [DV.still] at h
  | .yld _, h => by simp [DV.still] at h
  | .raw _, h => by simp [DV.still] at h
  | .gd _ _, h => by simp [DV.still] at h
theorem stills_den {sep : List Nat} {k k' : K} (ha : ∀ i ∈ sep, k'.ρ.a[i]? = k.ρ.a[i]?) : ∀ (l : List DV), DV.stills sep l = true → DV.dens k' l = DV.dens k l
  | [], _ => by simp only [DV.dens]
  | d :: l, h => by
    simp only [DV.stills, Bool.and_eq_true] at h
    simp only [DV.dens, still_den ha d h.1, stills_den ha l h.2]
end

theorem look_mem {α : Type} {n : Nat} {v : α} : ∀ {l : List (Nat × α)}, look n l = some v → (n, v) ∈ l
  | [], h => by simp [look] at h
  | (m, x) :: l, h => by
    simp only [look] at h
    split at h
    · rename_i hm
      have := beq_iff_eq.1 hm
      subst this
      cases h; simp
    · simp [look_mem h]

theorem gl_still {gl : Glob} (hst : ∀ g cs, (g, cs) ∈ gl.l → ∀ d ∈ cs, DV.still gl.sep d = true) (k : K) (h : GlobR k gl) : GlobR ⟨{ a := k.ρ.a }, fun _ => 0, 0, k.G⟩ gl := by
  refine ⟨fun g cs hl => ?_, h.sep, h.ne⟩
  obtain ⟨vs, e, fr, hG, hget⟩ := h.l g cs hl
  refine ⟨vs, e, fr, hG, fun i d hi => ?_⟩
  obtain ⟨v, hv, hd⟩ := hget i d hi
  refine ⟨v, hv, fun k' hle => ?_⟩
  rw [← hd.here]
  refine still_den (sep := gl.sep) (fun j hj => ?_) d (hst g cs (look_mem hl) d (List.mem_of_getElem? hi))
  obtain ⟨a, c, e', h1, _⟩ := h.sep j hj
  obtain ⟨t, ht⟩ := hle.ρ.a
  rw [← ht]
  show (k.ρ.a ++ t)[j]? = k.ρ.a[j]?
  rw [List.getElem?_append_left (List.getElem?_eq_some_iff.1 h1).1]

theorem gl0_still (g : Nat) (cs : List DV) (h : (g, cs) ∈ gl0.l) (d : DV) (hd : d ∈ cs) : DV.still gl0.sep d = true := by
  have hall : (gl0.l.all fun p => p.2.all fun d => DV.still gl0.sep d) = true := by kernel_rfl
  exact List.all_eq_true.1 (List.all_eq_true.1 hall _ h) _ hd

theorem gl0_ok (k : K) (h : GlobR k C0.gl) : GlobR ⟨{ a := k.ρ.a }, fun _ => 0, 0, k.G⟩ C0.gl := gl_still gl0_still k h

theorem k0 : CfgOK (C0.tab t0) := tab_nil C0ok
theorem k1 : CfgOK (C0.tab t1) := tab_cons gl0_ok k0 (rowFact k0 c1)
theorem k2 : CfgOK (C0.tab t2) := tab_cons gl0_ok k1 (rowFact k1 c2)
theorem k3 : CfgOK (C0.tab t3) := tab_cons gl0_ok k2 (rowFact k2 c3)
theorem k4 : CfgOK (C0.tab t4) := tab_cons gl0_ok k3 (rowFact k3 c4)
theorem k5 : CfgOK (C0.tab t5) := tab_cons gl0_ok k4 (rowFact k4 c5)
theorem k6 : CfgOK (C0.tab t6) := tab_cons gl0_ok k5 (rowFact k5 c6)
theorem k7 : CfgOK (C0.tab t7) := tab_cons gl0_ok k6 (rowFact k6 c7)
theorem k8 : CfgOK (C0.tab t8) := tab_cons gl0_ok k7 (rowFact k7 c8)
theorem k9 : CfgOK (C0.tab t9) := tab_cons gl0_ok k8 (rowFact k8 c9)
theorem k10 : CfgOK (C0.tab t10) := tab_cons gl0_ok k9 (rowFact k9 c10)
theorem k11 : CfgOK (C0.tab t11) := tab_cons gl0_ok k10 (rowFact k10 c11)
theorem k12 : CfgOK (C0.tab t12) := tab_cons gl0_ok k11 (rowFact k11 c12)
theorem k13 : CfgOK (C0.tab t13) := tab_cons gl0_ok k12 (rowFact k12 c13)
theorem k14 : CfgOK (C0.tab t14) := tab_cons gl0_ok k13 (rowFact k13 c14)
theorem k15 : CfgOK (C0.tab t15) := tab_cons gl0_ok k14 (rowFact k14 c15)
theorem k16 : CfgOK (C0.tab t16) := tab_cons gl0_ok k15 (rowFact k15 c16)
theorem k17 : CfgOK (C0.tab t17) := tab_cons gl0_ok k16 (rowFact k16 c17)
theorem k18 : CfgOK (C0.tab t18) := tab_cons gl0_ok k17 (rowFact k17 c18)
theorem k19 : CfgOK (C0.tab t19) := tab_cons gl0_ok k18 (rowFact k18 c19)
theorem k20 : CfgOK (C0.tab t20) := tab_cons gl0_ok k19 (rowFact k19 c20)
theorem k21 : CfgOK (C0.tab t21) := tab_cons gl0_ok k20 (rowFact k20 c21)
theorem k22 : CfgOK (C0.tab t22) := tab_cons gl0_ok k21 (rowFact k21 c22)
theorem k23 : CfgOK (C0.tab t23) := tab_cons gl0_ok k22 (rowFact k22 c23)
theorem k24 : CfgOK (C0.tab t24) := tab_cons gl0_ok k23 (rowFact k23 c24)
theorem k25 : CfgOK (C0.tab t25) := tab_cons gl0_ok k24 (rowFact k24 c25)
theorem k26 : CfgOK (C0.tab t26) := tab_cons gl0_ok k25 (rowFact k25 c26)
theorem k27 : CfgOK (C0.tab t27) := tab_cons gl0_ok k26 (rowFact k26 c27)
theorem k28 : CfgOK (C0.tab t28) := tab_cons gl0_ok k27 (rowFact k27 c28)
theorem k29 : CfgOK (C0.tab t29) := tab_cons gl0_ok k28 (rowFact k28 c29)
theorem k30 : CfgOK (C0.tab t30) := tab_cons gl0_ok k29 (rowFact k29 c30)
theorem k31 : CfgOK (C0.tab t31) := tab_cons gl0_ok k30 (rowFact k30 c31)
theorem k32 : CfgOK (C0.tab t32) := tab_cons gl0_ok k31 (rowFact k31 c32)
theorem k33 : CfgOK (C0.tab t33) := tab_cons gl0_ok k32 (rowFact k32 c33)
theorem k34 : CfgOK (C0.tab t34) := tab_cons gl0_ok k33 (rowFact k33 c34)
theorem k35 : CfgOK (C0.tab t35) := tab_cons gl0_ok k34 (rowFact k34 c35)
theorem k36 : CfgOK (C0.tab t36) := tab_cons gl0_ok k35 (rowFact k35 c36)
theorem k37 : CfgOK (C0.tab t37) := tab_cons gl0_ok k36 (rowFact k36 c37)
theorem k38 : CfgOK (C0.tab t38) := tab_cons gl0_ok k37 (rowFact k37 c38)
theorem k39 : CfgOK (C0.tab t39) := tab_cons gl0_ok k38 (rowFact k38 c39)
theorem kS : CfgOK (C0.tab tS) := tab_cons gl0_ok k39 (rowFact k39 cS)
end Go.Sx
