/- Chapter 10: Eid7Apart, walked. -/
import Derived.Test.YtkmgegblflnjpaaGreatDoorTj
set_option linter.unusedSimpArgs false
set_option linter.unusedVariables false
namespace Go.Sx
open Go.Proofs Go.RowKit

theorem toList_iff (x y : ByteArray) : (x.toList == y.toList) = true ↔ x = y := by
  rw [beq_iff_eq, ByteArray.toList_eq, ByteArray.toList_eq]
  exact ⟨bs_inj, fun h => by rw [h]⟩
theorem bs_extract (s : ByteArray) (k : Nat) : (s.extract 0 k).data.toList = s.data.toList.take k := by
  simp [ByteArray.data_extract]

theorem pre_iff {s t : ByteArray} : ((t.extract 0 s.size).toList == s.toList) = true ↔ s.data.toList <+: t.data.toList := by
  rw [beq_iff_eq, ByteArray.toList_eq, ByteArray.toList_eq, bs_extract, List.prefix_iff_eq_take, bs_len]
  exact eq_comm

theorem errN_ok {c a b : Int} {n s : ByteArray} (h : okN c a b n s = true) : errN c a b n s = 0 ∧ txtN c a b n s = byN c a b n s := by
  unfold errN txtN; rw [if_pos h, if_pos h]; exact ⟨rfl, rfl⟩
theorem errN_bad {c a b : Int} {n s : ByteArray} (h : okN c a b n s = false) : errN c a b n s = 60 ∧ txtN c a b n s = sOf [] := by
  unfold errN txtN; rw [if_neg (by simp [h]), if_neg (by simp [h])]; exact ⟨rfl, rfl⟩

theorem same_iff {c a b c' a' b' : Int} {n s n' s' : ByteArray} (h : okN c a b n s = true) (h' : okN c' a' b' n' s' = true) :
    (byN c a b n s).data.toList <+: (byN c' a' b' n' s').data.toList ↔ c = c' ∧ n = n' ∧ s = s' ∧ a = a' ∧ b = b' := by
  rw [bs_byN, bs_byN, names_apart h h']
  exact ⟨fun ⟨a, b, c, d, e⟩ => ⟨a, d, e, b, c⟩, fun ⟨a, d, e, b, c⟩ => ⟨a, b, c, d, e⟩⟩

theorem apart_sat (c a b c' a' b' : Int) (n s n' s' : ByteArray) (A : List Addr) (G : GS) (hgl : GlobR ⟨{ a := A }, fun _ => 0, 0, G⟩ gl7) (hT : Tens G) :
    TApart.sat Tryz.prog (fun ρ G d _ => ∀ β nx, (fun v => v = .bool true) (d.den ⟨ρ, β, nx, G⟩)) { i := [c, a, b, c', a', b'], s := [n, s, n', s'], a := A } G := by
  unfold TApart
  simp only [Ts.satB]
  have hob : ∀ t : ByteArray, (0 : Int) ≤ (if (21 : Int) < (t.size : Int) then (21 : Int) else (t.size : Int)) ∧ (if (21 : Int) < (t.size : Int) then (21 : Int) else (t.size : Int)) ≤ (t.size : Int) := fun t => by split <;> omega
  refine ⟨?_, ?_, ?_, ?_, enc_step hgl hT rfl rfl fun G1 h1 => enc_step (glLe hgl h1) (hT.le h1) rfl rfl fun G2 h2 => ?_⟩
  · simp [E.bb, E.ii, E.ss]; exact hob n
  · simp [E.bb, E.ii, E.ss]; exact hob s
  · simp [E.bb, E.ii, E.ss]; exact hob n'
  · simp [E.bb, E.ii, E.ss]; exact hob s'
  simp only [E.bb, E.ii, E.ss, Env.app, List.cons_append, List.nil_append, List.append_nil, List.getD_cons_zero, List.getD_cons_succ, DV.den]
  generalize n.extract _ _ = N
  generalize s.extract _ _ = S
  generalize n'.extract _ _ = N'
  generalize s'.extract _ _ = S'
  have key : errN c a b N S = 0 → errN c' a' b' N' S' = 0 → ((txtN c a b N S).data.toList <+: (txtN c' a' b' N' S').data.toList ↔ (c == c' && (N.toList == N'.toList && (S.toList == S'.toList && (a == a' && b == b')))) = true) := by
    intro h h'
    have e : okN c a b N S = true := by
      cases hk : okN c a b N S
      · rw [(errN_bad hk).1] at h; cases h
      · rfl
    have e' : okN c' a' b' N' S' = true := by
      cases hk : okN c' a' b' N' S'
      · rw [(errN_bad hk).1] at h'; cases h'
      · rfl
    rw [(errN_ok e).2, (errN_ok e').2, same_iff e e']
    simp only [Bool.and_eq_true, beq_iff_eq, ByteArray.toList_eq]
    exact ⟨fun ⟨a, b, c, d⟩ => ⟨a, by rw [b], by rw [c], d⟩, fun ⟨a, b, c, d⟩ => ⟨a, bs_inj b, bs_inj c, d⟩⟩
  refine ⟨fun _ _ _ => ?_, fun hb => ⟨fun hl _ _ => ?_, fun hl _ _ => ?_⟩⟩
  · have h3 : ∀ {c a b : Int} {N S : ByteArray}, (errN c a b N S == 0 || (txtN c a b N S).toList == (sOf []).toList) = true := by
      intro c a b N S
      cases hk : okN c a b N S
      · rw [(errN_bad hk).2]; simp
      · rw [(errN_ok hk).1]; simp
    rw [h3, h3]; rfl
  · simp only [Bool.or_eq_false_iff, Bool.not_eq_false', beq_iff_eq] at hb
    congr 1
    rw [beq_iff_eq, Bool.eq_iff_iff]
    exact pre_iff.trans (key hb.1 hb.2)
  · simp only [Bool.or_eq_false_iff, Bool.not_eq_false', beq_iff_eq] at hb
    have hn : ¬ (txtN c a b N S).data.toList <+: (txtN c' a' b' N' S').data.toList := by
      intro h
      have := h.length_le
      rw [bs_len, bs_len] at this
      simp at hl
      omega
    rw [key hb.1 hb.2] at hn
    congr 1
    simp only [Bool.not_eq_true] at hn
    rw [hn]
    rfl

set_option maxRecDepth 100000 in
theorem apart_calls (c a b c' a' b' : Int) (n s n' s' : ByteArray) (A : List Addr) (G : GS) (w : World) (hgl : GlobR ⟨{ a := A }, fun _ => 0, 0, G⟩ gl7) (hT : Tens G) (hG : GHeap G w) :
    Calls Tryz.prog 4 #[.agg #[.int .i64 c, .string n, .string s, .int .i64 a, .int .i64 b], .agg #[.int .i64 c', .string n', .string s', .int .i64 a', .int .i64 b']] w fun e w' => (∃ v, e = .returned v ∧ v = .bool true) ∧ Below w.heap.size w w' := by
  refine calls_post (C := C7e) C7eok apart_tree (ρ := { i := [c, a, b, c', a', b'], s := [n, s, n', s'], a := A }) (G := G) (vs := [.agg #[.int .i64 c, .string n, .string s, .int .i64 a, .int .i64 b], .agg #[.int .i64 c', .string n', .string s', .int .i64 a', .int .i64 b']])
    ⟨rfl, rfl, rfl, rfl, by simp⟩ (by intro c v h; simp at h) (gl7_any hgl) hG ?_ (apart_sat c a b c' a' b' n s n' s' A G hgl hT)
  refine DV.iss_cons (fun k' hle => ?_) (DV.iss_cons (fun k' hle => ?_) DV.iss_nil)
  all_goals
    obtain ⟨t, ht⟩ := hle.ρ.i
    obtain ⟨u, hu⟩ := hle.ρ.s
    simp [DV.den, DV.dens, E.ii, E.ss, ← ht, ← hu]
end Go.Sx
