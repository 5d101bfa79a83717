/- Chapter 12: the settings are right. -/
import Derived.Test.YtcljcgapkojgnaaGreatDoorUe
set_option linter.unusedSimpArgs false
set_option linter.unusedVariables false
namespace Go.Sx
open Go.Proofs Go.RowKit

theorem body48 : ∃ fn, Tryz.prog.funcs[48]? = some fn ∧ fn.body.isSome = true := ⟨_, Tryz.func48, by kernel_rfl⟩

section
variable {w0 : Fr} {ro : Option Nat} {k : K} {s s' : St} {a : Act} {w : World}

theorem gheap_of (hs : StR w0 gl12 ro k s a w) : GHeap k.G w := fun b o hb => (hs.heap.g b o hb).1

set_option maxRecDepth 100000 in
theorem prim12_ok (g : FuncId) (args : List DV) (vs : List Value) (d : DV) (hs : StR w0 gl12 ro k s a w) (hv : DV.iss k args vs) (h : prim12 g args s = some (d, s')) (m : Nat) :
    CallRes ro m Tryz.prog (fun v w' => ∃ k', k.le k' ∧ k'.ρ = k.ρ ∧ k'.G = k.G ∧ StR w0 gl12 ro k' s' a w' ∧ d.is k' v) ((callFunc g vs.toArray).run Tryz.prog w) := by
  unfold prim12 at h
  split at h
  · rename_i hg
    have hg := beq_iff_eq.1 hg
    subst hg
    split at h
    · rename_i kk n
      split at h
      · rename_i hc
        simp only [Bool.and_eq_true, Bool.or_eq_true, beq_iff_eq] at hc
        obtain ⟨⟨hk, hlo⟩, hhi⟩ := hc
        simp only [Option.some.injEq, Prod.mk.injEq] at h
        obtain ⟨rfl, rfl⟩ := h
        obtain ⟨v, vs', rfl, hx, hv'⟩ := DV.iss_cons_inv hv
        obtain ⟨u, vs'', rfl, hy, hv''⟩ := DV.iss_cons_inv hv'
        have := hv''.length; simp at this; subst this
        obtain ⟨kv, rfl, hkv⟩ := is_int hx
        obtain ⟨nv, rfl, hnv⟩ := is_int hy
        have hkk : kv = kk := (hkv k (K.le.refl k)).symm
        subst hkk
        have b0 : 0 ≤ nv := by
          have := decideE_sound hs.pc hlo k (K.le.refl k)
          rw [mk2_bb] at this
          simp only [E.bb, E.ii, hnv k (K.le.refl k)] at this
          exact of_decide_eq_true this
        have b1 : nv ≤ 281474976710655 := by
          have := decideE_sound hs.pc hhi k (K.le.refl k)
          rw [mk2_bb] at this
          simp only [E.bb, E.ii, hnv k (K.le.refl k)] at this
          exact of_decide_eq_true this
        obtain ⟨kn, rfl⟩ : ∃ j : Nat, kv = j := ⟨kv.toNat, by omega⟩
        refine prim_calls (C := C12a) nonum' hs body48 ?_ (h_calls kn (by omega) nv b0 b1 k.ρ.a k.G w (gl12_any hs.gl) (gheap_of hs)) m
        intro k' hle
        simp only [DV.den, DV.dens, E.ii]
        rw [mk2_ss _ _ _ _ (by simp) (by simp)]
        simp only [E.ss, E.ii, hnv k' hle]
      · cases h
    · cases h
  · exact prim12a_ok g args vs d hs hv h m
end

noncomputable def C12 : Cfg := { P := Tryz.prog, gl := gl12, unroll := 40, prim := prim12 }
set_option maxRecDepth 100000 in
theorem C12ok : CfgOK C12 := cfgOK nonum' (fun _ _ _ _ _ _ _ g args vs d hs hv h m => prim12_ok g args vs d hs hv h m) orders

def rPdu : Row := ⟨6, [.agg [.int .i64 (.lit 3), .int .i64 (.lit 9), .str (.sl [97])]], .tup [.str (.sl [130, 3, 131, 3, 9, 65, 97]), .int .i64 (.lit 0)]⟩
theorem cPdu : rowChk C12 [] rPdu = true := by kernel_rfl
theorem fPdu : CfgOK (C12.tab [rPdu]) := tab_cons (fun _ h => gl12_any h) (tab_nil C12ok) (rowFact (tab_nil C12ok) cPdu)
end Go.Sx
