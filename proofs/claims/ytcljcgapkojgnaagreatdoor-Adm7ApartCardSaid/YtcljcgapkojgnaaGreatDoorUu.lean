/- Chapter 12: Adm7Apart, walked. -/
import Derived.Test.YtcljcgapkojgnaaGreatDoorUr
import Derived.Test.YtcljcgapkojgnaaGreatDoorUt
import Derived.Test.YtcljcgapkojgnaaGreatDoorUh
set_option linter.unusedSimpArgs false
set_option linter.unusedVariables false
namespace Go.Sx
open Go.Proofs Go.RowKit

noncomputable def C12e : Cfg := { C12s with ctr := fun f _ => if f == 5 then some .raw else if f == 6 || f == 7 then some (.tup [.str, .int .i64]) else if f == 16 then some .bool else none }
set_option maxRecDepth 100000 in
theorem C12eok : CfgOK C12e := ⟨C12sok.num, C12sok.prim, C12sok.op, C12sok.nodefer, C12sok.orders, C12sok.pure, C12sok.make⟩
def TAdm : Ts :=
  .ob (.o2 .and (.o2 .le (.lit 0) (.o2 .imin (.o1 .len (.sv 0)) (.lit 561))) (.o2 .le (.o2 .imin (.o1 .len (.sv 0)) (.lit 561)) (.o1 .len (.sv 0)))) (.ob (.o2 .and (.o2 .le (.lit 0)
  (.o2 .imin (.o1 .len (.sv 1)) (.lit 561))) (.o2 .le (.o2 .imin (.o1 .len (.sv 1)) (.lit 561)) (.o1 .len (.sv 1)))) (.call 5 [.raw 0] .raw { i := 6, b := 0, s := 2, a := 0, v := 2 }
  (.call 5 [.raw 1] .raw { i := 6, b := 0, s := 2, a := 0, v := 3 } (.call 6 [.agg [.int .i64 (.iv 0), .int .i64 (.iv 1), .str (.o3 (O3.sub3) (.sv 0) (.lit 0) (.o2 .imin (.o1 .len
  (.sv 0)) (.lit 561)))]] (.tup [.str, .int .i64]) { i := 6, b := 0, s := 2, a := 0, v := 4 } (.call 6 [.agg [.int .i64 (.iv 2), .int .i64 (.iv 3), .str (.o3 (O3.sub3) (.sv 1) (.lit
  0) (.o2 .imin (.o1 .len (.sv 1)) (.lit 561)))]] (.tup [.str, .int .i64]) { i := 7, b := 0, s := 3, a := 0, v := 4 } (.call 7 [.agg [.int .i64 (.iv 4), .raw 2]] (.tup [.str, .int
  .i64]) { i := 8, b := 0, s := 4, a := 0, v := 4 } (.call 7 [.agg [.int .i64 (.iv 5), .raw 3]] (.tup [.str, .int .i64]) { i := 9, b := 0, s := 5, a := 0, v := 4 } (.br (.o1 .not
  (.o2 .or (.o1 .not (.o2 .eqi (.iv 8) (.lit 0))) (.o1 .not (.o2 .eqi (.iv 9) (.lit 0))))) (.br (.o2 .eqi (.iv 4) (.iv 5)) (.call 16 [.raw 2, .raw 3] .bool
  { i := 10, b := 0, s := 6, a := 0, v := 4 } (.val (.bool (.o2 .and (.o2 .and (.o2 .or (.o2 .or (.o1 .not (.o2 .eqi (.iv 6) (.lit 0))) (.o1 .not (.o2 .eqi (.iv 7) (.lit 0)))) (.o2
  .eqb (.o2 .eqs (.sv 2) (.sv 3)) (.o2 .and (.o2 .eqi (.iv 0) (.iv 2)) (.o2 .and (.o2 .eqi (.iv 1) (.iv 3)) (.o2 .eqs (.o3 (O3.sub3) (.sv 0) (.lit 0) (.o2 .imin (.o1 .len (.sv 0))
  (.lit 561))) (.o3 (O3.sub3) (.sv 1) (.lit 0) (.o2 .imin (.o1 .len (.sv 1)) (.lit 561)))))))) (.o2 .eqb (.o2 .eqs (.sv 4) (.sv 5)) (.bv 0))) (.o2 .or (.o2 .or (.o1 .not (.o2 .eqi
  (.iv 6) (.lit 0))) (.o1 .not (.o2 .eqi (.iv 8) (.lit 0)))) (.o1 .not (.o2 .eqs (.sv 2) (.sv 4)))))) [])) (.val (.bool (.o2 .and (.o2 .and (.o2 .or (.o2 .or (.o1 .not (.o2 .eqi (.iv
  6) (.lit 0))) (.o1 .not (.o2 .eqi (.iv 7) (.lit 0)))) (.o2 .eqb (.o2 .eqs (.sv 2) (.sv 3)) (.o2 .and (.o2 .eqi (.iv 0) (.iv 2)) (.o2 .and (.o2 .eqi (.iv 1) (.iv 3)) (.o2 .eqs (.o3
  (O3.sub3) (.sv 0) (.lit 0) (.o2 .imin (.o1 .len (.sv 0)) (.lit 561))) (.o3 (O3.sub3) (.sv 1) (.lit 0) (.o2 .imin (.o1 .len (.sv 1)) (.lit 561)))))))) (.o2 .eqb (.o2 .eqs (.sv 4)
  (.sv 5)) (.bl false))) (.o2 .or (.o2 .or (.o1 .not (.o2 .eqi (.iv 6) (.lit 0))) (.o1 .not (.o2 .eqi (.iv 8) (.lit 0)))) (.o1 .not (.o2 .eqs (.sv 2) (.sv 4)))))) [])) (.val (.bool
  (.o2 .and (.o2 .or (.o2 .or (.o1 .not (.o2 .eqi (.iv 6) (.lit 0))) (.o1 .not (.o2 .eqi (.iv 7) (.lit 0)))) (.o2 .eqb (.o2 .eqs (.sv 2) (.sv 3)) (.o2 .and (.o2 .eqi (.iv 0) (.iv 2))
  (.o2 .and (.o2 .eqi (.iv 1) (.iv 3)) (.o2 .eqs (.o3 (O3.sub3) (.sv 0) (.lit 0) (.o2 .imin (.o1 .len (.sv 0)) (.lit 561))) (.o3 (O3.sub3) (.sv 1) (.lit 0) (.o2 .imin (.o1 .len (.sv
  1)) (.lit 561)))))))) (.o2 .or (.o2 .or (.o1 .not (.o2 .eqi (.iv 6) (.lit 0))) (.o1 .not (.o2 .eqi (.iv 8) (.lit 0)))) (.o1 .not (.o2 .eqs (.sv 2) (.sv 4)))))) [])))))))))
theorem adm_tree : (ev C12e 3000 (.enter 3 [.agg [.int .i64 (.iv 0), .int .i64 (.iv 1), .str (.sv 0)], .agg [.int .i64 (.iv 2), .int .i64 (.iv 3), .str (.sv 1)], .agg [.int .i64 (.iv 4), .raw 0], .agg [.int .i64 (.iv 5), .raw 1]]) (init { i := 6, s := 2, v := 2 })).slim false = TAdm := by kernel_rfl

theorem glLe {A : List Addr} {G G' : GS} (h : GlobR ⟨{ a := A }, fun _ => 0, 0, G⟩ gl12) (hle : GLe G G') : GlobR ⟨{ a := A }, fun _ => 0, 0, G'⟩ gl12 :=
  h.mono ⟨Env.le.refl _, Nat.le_refl _, fun _ _ => rfl, hle⟩

theorem toList_iff (x y : ByteArray) : (x.toList == y.toList) = true ↔ x = y := by
  rw [beq_iff_eq, ByteArray.toList_eq, ByteArray.toList_eq]
  exact ⟨bs_inj, fun h => by rw [h]⟩

theorem codeP_0 {i d : Int} {s : ByteArray} (h : codeP i d s = 0) : okP i d s = true ∧ (textP i d s).data.toList = byP i d s := by
  unfold codeP at h
  split at h
  · rename_i ho
    exact ⟨ho, by unfold textP; rw [if_pos ho]⟩
  · cases h
theorem codeA_0 {r : Int} {L : List Int} (h : codeA r L = 0) : okA r L = true ∧ (textA r L).data.toList = byA r L := by
  unfold codeA at h
  split at h
  · rename_i ho
    exact ⟨ho, by unfold textA; rw [if_pos ho]⟩
  · cases h

theorem pdus_same {i d i' d' : Int} {s s' : ByteArray} (h : codeP i d s = 0) (h' : codeP i' d' s' = 0) : ((textP i d s).toList == (textP i' d' s').toList) = (i == i' && (d == d' && s.toList == s'.toList)) := by
  obtain ⟨o, t⟩ := codeP_0 h
  obtain ⟨o', t'⟩ := codeP_0 h'
  rw [Bool.eq_iff_iff, toList_iff]
  simp only [Bool.and_eq_true, beq_iff_eq, ByteArray.toList_eq]
  constructor
  · intro e
    have : byP i d s = byP i' d' s' := by rw [← t, ← t', e]
    obtain ⟨a, b, c⟩ := (pdu_apart o o').1 this
    exact ⟨a, b, by rw [c]⟩
  · rintro ⟨rfl, rfl, e⟩
    rw [bs_inj e]
theorem acks_same {r r' : Int} {L M : List Int} (h : codeA r L = 0) (h' : codeA r' M = 0) : ((textA r L).toList == (textA r' M).toList) = (r == r' && decide (L = M)) := by
  obtain ⟨o, t⟩ := codeA_0 h
  obtain ⟨o', t'⟩ := codeA_0 h'
  rw [Bool.eq_iff_iff, toList_iff]
  simp only [Bool.and_eq_true, beq_iff_eq, decide_eq_true_eq]
  rw [← acks_apart o o', ← t, ← t']
  exact ⟨fun e => by rw [e], bs_inj⟩
theorem pdu_no_acks {i d : Int} {s : ByteArray} {r : Int} {L : List Int} (h : codeP i d s = 0) (h' : codeA r L = 0) : ((textP i d s).toList == (textA r L).toList) = false := by
  obtain ⟨o, t⟩ := codeP_0 h
  obtain ⟨o', t'⟩ := codeA_0 h'
  rw [Bool.eq_false_iff]
  intro e
  have := (toList_iff _ _).1 e
  exact pdu_acks i d s r L (by rw [← t, ← t', this])

theorem adm_sat (i d i' d' r r' : Int) (s s' : ByteArray) (v u : Value) (L M : List Int) (A : List Addr) (G : GS) (hv : IsInts v G L) (hu : IsInts u G M) (hgl : GlobR ⟨{ a := A }, fun _ => 0, 0, G⟩ gl12) :
    TAdm.sat Tryz.prog (fun ρ G d _ => ∀ β nx, (fun x => x = .bool true) (d.den ⟨ρ, β, nx, G⟩)) { i := [i, d, i', d', r, r'], s := [s, s'], v := [v, u], a := A } G := by
  unfold TAdm
  simp only [Ts.satB]
  have hob : ∀ t : ByteArray, (0 : Int) ≤ (if (561 : Int) < (t.size : Int) then (561 : Int) else (t.size : Int)) ∧ (if (561 : Int) < (t.size : Int) then (561 : Int) else (t.size : Int)) ≤ (t.size : Int) := fun t => by split <;> omega
  refine ⟨by simp [E.bb, E.ii, E.ss]; exact hob s, by simp [E.bb, E.ii, E.ss]; exact hob s', ?_⟩
  refine few_step hgl rfl hv rfl fun v2 G1 g1 hv2 => ?_
  refine few_step (glLe hgl g1) rfl (hu.le g1) rfl fun u2 G2 g2 hu2 => ?_
  refine pdu_step (glLe (glLe hgl g1) g2) rfl rfl fun G3 g3 => ?_
  refine pdu_step (glLe (glLe (glLe hgl g1) g2) g3) rfl rfl fun G4 g4 => ?_
  refine acks_step (glLe (glLe (glLe (glLe hgl g1) g2) g3) g4) rfl (((hv2.le g2).le g3).le g4) (by simp; omega) rfl rfl fun G5 g5 => ?_
  refine acks_step (glLe (glLe (glLe (glLe (glLe hgl g1) g2) g3) g4) g5) rfl (((hu2.le g3).le g4).le g5) (by simp; omega) rfl rfl fun G6 g6 => ?_
  generalize hL' : L.take 22 = L' at *
  generalize hM' : M.take 22 = M' at *
  have hL22 : L'.length ≤ 22 := by rw [← hL']; simp; omega
  simp only [E.bb, E.ii, E.ss, Env.app, List.cons_append, List.nil_append, List.append_nil, List.getD_cons_zero, List.getD_cons_succ, DV.den]
  generalize s.extract _ _ = S
  generalize s'.extract _ _ = S'
  have hP : codeP i d S = 0 → codeP i' d' S' = 0 → ((textP i d S).toList == (textP i' d' S').toList) = (i == i' && (d == d' && S.toList == S'.toList)) := pdus_same
  have hA : codeA r L' = 0 → codeA r' M' = 0 → ((textA r L').toList == (textA r' M').toList) = (r == r' && decide (L' = M')) := acks_same
  have hPA : codeP i d S = 0 → codeA r L' = 0 → ((textP i d S).toList == (textA r L').toList) = false := pdu_no_acks
  generalize codeP i d S = cP at *
  generalize codeP i' d' S' = cP' at *
  generalize codeA r L' = cA at *
  generalize codeA r' M' = cA' at *
  generalize ((textP i d S).toList == (textP i' d' S').toList) = eP at *
  generalize ((textA r L').toList == (textA r' M').toList) = eA at *
  generalize ((textP i d S).toList == (textA r L').toList) = eX at *
  have two : ((!cP == 0 || !cP' == 0) || eP == (i == i' && (d == d' && S.toList == S'.toList))) = true := by
    by_cases h1 : cP = 0
    · by_cases h2 : cP' = 0
      · rw [hP h1 h2]; simp
      · simp [h2]
    · simp [h1]
  have three : ((!cP == 0 || !cA == 0) || !eX) = true := by
    by_cases h1 : cP = 0
    · by_cases h2 : cA = 0
      · rw [hPA h1 h2]; simp
      · simp [h2]
    · simp [h1]
  refine ⟨fun h1 => ⟨fun h2 => ?_, fun h2 => ?_⟩, fun h1 => ?_⟩
  · simp only [Bool.not_eq_true', Bool.or_eq_false_iff, Bool.not_eq_false', beq_iff_eq] at h1
    refine ints_step (glLe (glLe (glLe (glLe (glLe (glLe hgl g1) g2) g3) g4) g5) g6) rfl rfl (((((hv2.le g2).le g3).le g4).le g5).le g6) ((((hu2.le g3).le g4).le g5).le g6) hL22 rfl fun G7 g7 => ?_
    intro β nx
    simp only [List.getD_cons_zero, two, three, hA h1.1 h1.2, h2, Bool.true_and, Bool.and_true]
    simp
  · simp only [Bool.not_eq_true', Bool.or_eq_false_iff, Bool.not_eq_false', beq_iff_eq] at h1
    intro β nx
    simp only [two, three, hA h1.1 h1.2, h2, Bool.false_and, Bool.and_true, Bool.true_and]
    simp
  · intro β nx
    simp only [two, three, Bool.and_true]

set_option maxRecDepth 100000 in
theorem adm_calls (i d i' d' r r' : Int) (s s' : ByteArray) (v u : Value) (L M : List Int) (A : List Addr) (G : GS) (w : World) (hv : IsInts v G L) (hu : IsInts u G M) (hgl : GlobR ⟨{ a := A }, fun _ => 0, 0, G⟩ gl12) (hG : GHeap G w) :
    Calls Tryz.prog 3 #[.agg #[.int .i64 i, .int .i64 d, .string s], .agg #[.int .i64 i', .int .i64 d', .string s'], .agg #[.int .i64 r, v], .agg #[.int .i64 r', u]] w fun e w' => (∃ x, e = .returned x ∧ x = .bool true) ∧ Below w.heap.size w w' := by
  refine calls_post (C := C12e) C12eok adm_tree (ρ := { i := [i, d, i', d', r, r'], s := [s, s'], v := [v, u], a := A }) (G := G) (vs := [.agg #[.int .i64 i, .int .i64 d, .string s], .agg #[.int .i64 i', .int .i64 d', .string s'], .agg #[.int .i64 r, v], .agg #[.int .i64 r', u]])
    ⟨rfl, rfl, rfl, rfl, by simpa using ⟨ints_one hv, ints_one hu⟩⟩ (by intro c v h; simp at h) (gl12_any hgl) hG ?_ (adm_sat i d i' d' r r' s s' v u L M A G hv hu hgl)
  refine DV.iss_cons (fun k' hle => ?_) (DV.iss_cons (fun k' hle => ?_) (DV.iss_cons (fun k' hle => ?_) (DV.iss_cons (fun k' hle => ?_) DV.iss_nil)))
  all_goals
    obtain ⟨t, ht⟩ := hle.ρ.i
    obtain ⟨t1, ht1⟩ := hle.ρ.s
    obtain ⟨t2, ht2⟩ := hle.ρ.v
    simp [DV.den, DV.dens, E.ii, E.ss, ← ht, ← ht1, ← ht2]
end Go.Sx
