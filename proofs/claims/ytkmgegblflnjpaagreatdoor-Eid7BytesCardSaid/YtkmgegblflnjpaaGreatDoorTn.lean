/- Chapter 10: Eid7Bytes, walked. -/
import Derived.Test.YtkmgegblflnjpaaGreatDoorTm
import Derived.Test.YtkmgegblflnjpaaGreatDoorTl
set_option linter.unusedSimpArgs false
set_option linter.unusedVariables false
namespace Go.Sx
open Go.Proofs Go.RowKit

theorem bad_leaf {c a b : Int} {n s : ByteArray} (h : okN c a b n s = false) : (errN c a b n s == 60 && (txtN c a b n s).toList == (sOf []).toList) = true := by
  rw [(errN_bad h).1, (errN_bad h).2]; simp
theorem good_leaf {c a b : Int} {n s t : ByteArray} (h : okN c a b n s = true) (ht : t.data.toList = byL c a b n.data.toList s.data.toList) : (errN c a b n s == 0 && (txtN c a b n s).toList == t.toList) = true := by
  have : t = byN c a b n s := bs_inj (by rw [bs_byN, ht])
  rw [(errN_ok h).1, (errN_ok h).2, this]; simp
theorem byL_1 {c a b : Int} {n s : List UInt8} (h : c = 1) : byL c a b n s = 130 :: 1 :: ((headL 3 (n.length + s.length + 3)).map UInt8.ofNat ++ (47 :: 47 :: (n ++ 47 :: s))) := by
  unfold byL; rw [if_neg (by omega), if_pos h]
theorem byL_2 {c a b : Int} {n s : List UInt8} (h : c = 2) : byL c a b n s = 130 :: 2 :: 130 :: ((headL 0 a.toNat).map UInt8.ofNat ++ (headL 0 b.toNat).map UInt8.ofNat) := by
  unfold byL; rw [if_neg (by omega), if_neg (by omega)]
theorem no_leaf {p : Bool} (h : p = true) (h' : p = false) : False := by rw [h] at h'; cases h'

theorem bytes_sat (c a b : Int) (n s : ByteArray) (A : List Addr) (G : GS) (hgl : GlobR ⟨{ a := A }, fun _ => 0, 0, G⟩ gl7) (hT : Tens G) :
    TBytes.sat Tryz.prog (fun ρ G d _ => ∀ β nx, (fun v => v = .bool true) (d.den ⟨ρ, β, nx, G⟩)) { i := [c, a, b], s := [n, s], a := A } G := by
  unfold TBytes
  simp only [Ts.satB]
  have hob : ∀ t : ByteArray, (0 : Int) ≤ (if (21 : Int) < (t.size : Int) then (21 : Int) else (t.size : Int)) ∧ (if (21 : Int) < (t.size : Int) then (21 : Int) else (t.size : Int)) ≤ (t.size : Int) := fun t => by split <;> omega
  obtain ⟨N, hN⟩ : ∃ N, n.extract (Int.toNat 0) ((if (21 : Int) < (n.size : Int) then (21 : Int) else (n.size : Int)).toNat) = N := ⟨_, rfl⟩
  obtain ⟨S, hS⟩ : ∃ S, s.extract (Int.toNat 0) ((if (21 : Int) < (s.size : Int) then (21 : Int) else (s.size : Int)).toNat) = S := ⟨_, rfl⟩
  refine ⟨by simp [E.bb, E.ii, E.ss]; exact hob n, by simp [E.bb, E.ii, E.ss]; exact hob s, ?_⟩
  refine ⟨fun h0 => ⟨fun h1 => ?_, fun h1 => ?_⟩, fun h0 => ⟨fun h1 => ⟨fun h2 => ?_, fun h2 => ⟨fun h3 => ?_, fun h3 => ⟨fun h4 => ?_, fun h4 => ⟨fun h5 => ?_, fun h5 => ⟨fun h6 => ?_, fun h6 => ?_⟩⟩⟩⟩⟩,
    fun h1 => ⟨fun h2 => ⟨fun h3 => ?_, fun h3 => ⟨fun h4 => ?_, fun h4 => ⟨fun h5 => ?_, fun h5 => ⟨fun h6 => ?_, fun h6 => ⟨fun h7 => ?_, fun h7 => ⟨fun h8 => ?_, fun h8 => ?_⟩⟩⟩⟩⟩⟩, fun h2 => ?_⟩⟩⟩
  · refine enc_step hgl hT rfl rfl fun G1 g1 => ?_
    intro x0 f0 _; obtain ⟨_, rfl⟩ := one_int f0 rfl rfl rfl rfl
    intro β nx
    refine congrArg Value.bool ?_
    simp only [E.bb, E.ii, E.ss, Env.app, List.cons_append, List.nil_append, List.append_nil, List.getD_cons_zero, List.getD_cons_succ, hN, hS] at h0 h1
    simp [eqs_nil, eP1, eP2] at h0 h1
    simp only [E.bb, E.ii, E.ss, Env.app, List.cons_append, List.nil_append, List.append_nil, List.getD_cons_zero, List.getD_cons_succ, hN, hS]
    refine bad_leaf ?_
    rw [okN_0 h0]; simp; grind
  · refine enc_step hgl hT rfl rfl fun G1 g1 => ?_
    intro x0 f0 _; obtain ⟨_, rfl⟩ := one_int f0 rfl rfl rfl rfl
    intro x1 f1 _; obtain ⟨_, rfl⟩ := one_int f1 rfl rfl rfl rfl
    intro x2 f2 _; obtain ⟨_, rfl⟩ := one_int f2 rfl rfl rfl rfl
    intro x3 f3 _; obtain ⟨_, rfl⟩ := one_int f3 rfl rfl rfl rfl
    intro x4 f4 _; obtain ⟨_, rfl⟩ := one_int f4 rfl rfl rfl rfl
    intro x5 f5 _; obtain ⟨_, rfl⟩ := one_int f5 rfl rfl rfl rfl
    intro x6 f6 _; obtain ⟨_, rfl⟩ := one_int f6 rfl rfl rfl rfl
    simp only [E.bb, E.ii, E.ss, Env.app, List.cons_append, List.nil_append, List.append_nil, List.getD_cons_zero, List.getD_cons_succ, hN, hS] at h0 h1
    simp [eqs_nil, eP1, eP2] at h0 h1
    have hok : okN c a b N S = true := by
      rw [okN_0 h0]; simp; grind
    refine ⟨fun _ => ?_, fun hb => ?_⟩
    · intro y0 e0 _ y1 e1 _ β nx
      rfl
    · exfalso
      simp only [E.bb, E.ii, E.ss, Env.app, List.cons_append, List.nil_append, List.append_nil, List.getD_cons_zero, List.getD_cons_succ, hN, hS] at hb
      refine no_leaf (good_leaf hok ?_) hb
      unfold byL
      rw [if_pos h0]
      rfl
  · refine enc_step hgl hT rfl rfl fun G1 g1 => ?_
    intro x0 f0 _; obtain ⟨_, rfl⟩ := one_int f0 rfl rfl rfl rfl
    intro β nx
    refine congrArg Value.bool ?_
    simp only [E.bb, E.ii, E.ss, Env.app, List.cons_append, List.nil_append, List.append_nil, List.getD_cons_zero, List.getD_cons_succ, hN, hS] at h0 h1 h2
    simp [eqs_nil, eP1, eP2] at h0 h1 h2
    simp only [E.bb, E.ii, E.ss, Env.app, List.cons_append, List.nil_append, List.append_nil, List.getD_cons_zero, List.getD_cons_succ, hN, hS]
    refine bad_leaf ?_
    rw [okN_1 h1]; simp; grind
  · refine enc_step hgl hT rfl rfl fun G1 g1 => ?_
    intro x0 f0 _; obtain ⟨_, rfl⟩ := one_int f0 rfl rfl rfl rfl
    intro β nx
    refine congrArg Value.bool ?_
    simp only [E.bb, E.ii, E.ss, Env.app, List.cons_append, List.nil_append, List.append_nil, List.getD_cons_zero, List.getD_cons_succ, hN, hS] at h0 h1 h2 h3
    simp [eqs_nil, eP1, eP2] at h0 h1 h2 h3
    simp only [E.bb, E.ii, E.ss, Env.app, List.cons_append, List.nil_append, List.append_nil, List.getD_cons_zero, List.getD_cons_succ, hN, hS]
    refine bad_leaf ?_
    rw [okN_1 h1]; simp; grind
  · refine enc_step hgl hT rfl rfl fun G1 g1 => ?_
    intro x0 f0 _; obtain ⟨_, rfl⟩ := one_int f0 rfl rfl rfl rfl
    intro β nx
    refine congrArg Value.bool ?_
    simp only [E.bb, E.ii, E.ss, Env.app, List.cons_append, List.nil_append, List.append_nil, List.getD_cons_zero, List.getD_cons_succ, hN, hS] at h0 h1 h2 h3 h4
    simp [eqs_nil, eP1, eP2] at h0 h1 h2 h3 h4
    simp only [E.bb, E.ii, E.ss, Env.app, List.cons_append, List.nil_append, List.append_nil, List.getD_cons_zero, List.getD_cons_succ, hN, hS]
    refine bad_leaf ?_
    rw [okN_1 h1]; simp; grind
  · refine enc_step hgl hT rfl rfl fun G1 g1 => ?_
    intro x0 f0 _; obtain ⟨_, rfl⟩ := one_int f0 rfl rfl rfl rfl
    intro β nx
    refine congrArg Value.bool ?_
    simp only [E.bb, E.ii, E.ss, Env.app, List.cons_append, List.nil_append, List.append_nil, List.getD_cons_zero, List.getD_cons_succ, hN, hS] at h0 h1 h2 h3 h4 h5
    simp [eqs_nil, eP1, eP2] at h0 h1 h2 h3 h4 h5
    simp only [E.bb, E.ii, E.ss, Env.app, List.cons_append, List.nil_append, List.append_nil, List.getD_cons_zero, List.getD_cons_succ, hN, hS]
    refine bad_leaf ?_
    rw [okN_1 h1]; simp; grind
  · refine enc_step hgl hT rfl rfl fun G1 g1 => ?_
    intro x0 f0 _; obtain ⟨_, rfl⟩ := one_int f0 rfl rfl rfl rfl
    intro β nx
    refine congrArg Value.bool ?_
    simp only [E.bb, E.ii, E.ss, Env.app, List.cons_append, List.nil_append, List.append_nil, List.getD_cons_zero, List.getD_cons_succ, hN, hS] at h0 h1 h2 h3 h4 h5 h6
    simp [eqs_nil, eP1, eP2] at h0 h1 h2 h3 h4 h5 h6
    simp only [E.bb, E.ii, E.ss, Env.app, List.cons_append, List.nil_append, List.append_nil, List.getD_cons_zero, List.getD_cons_succ, hN, hS]
    refine bad_leaf ?_
    rw [okN_1 h1]; simp; grind
  · simp only [E.bb, E.ii, E.ss, Env.app, List.cons_append, List.nil_append, List.append_nil, List.getD_cons_zero, List.getD_cons_succ, hN, hS] at h0 h1 h2 h3 h4 h5 h6
    simp [eqs_nil, eP1, eP2] at h0 h1 h2 h3 h4 h5 h6
    have hok : okN c a b N S = true := by
      rw [okN_1 h1]; simp; grind
    have ht : (sOf [47, 47] ++ N ++ sOf [47] ++ S).data.toList = 47 :: 47 :: (N.data.toList ++ 47 :: S.data.toList) := by
      simp [bs_app, bs_sOf]
    refine ⟨?_, ?_, ?_, ?_⟩
    · simp only [E.bb, E.ii, E.ss, Env.app, List.cons_append, List.nil_append, List.append_nil, List.getD_cons_zero, List.getD_cons_succ, hN, hS]; simp [size_app, lit_sOf_size]; omega
    · simp only [E.bb, E.ii, E.ss, Env.app, List.cons_append, List.nil_append, List.append_nil, List.getD_cons_zero, List.getD_cons_succ, hN, hS]; simp [size_app, lit_sOf_size]; omega
    · simp only [E.bb, E.ii, E.ss, Env.app, List.cons_append, List.nil_append, List.append_nil, List.getD_cons_zero, List.getD_cons_succ, hN, hS]; simp [size_app, lit_sOf_size]; omega
    refine enc_step hgl hT rfl rfl fun G1 g1 => ?_
    intro x0 f0 _; obtain ⟨_, rfl⟩ := one_int f0 rfl rfl rfl rfl
    intro x1 f1 _; obtain ⟨_, rfl⟩ := one_int f1 rfl rfl rfl rfl
    refine ⟨fun h7 => ⟨fun h8 => ?_, fun h8 => ?_⟩, fun h7 => ?_⟩
    · exfalso
      have := dtn_text ht h3.1 h4.1
      simp only [E.bb, E.ii, E.ss, Env.app, List.cons_append, List.nil_append, List.append_nil, List.getD_cons_zero, List.getD_cons_succ, hN, hS] at h8
      simp [eTx, this] at h8
    · intro x2 f2 _; obtain ⟨_, rfl⟩ := one_int f2 rfl rfl rfl rfl
      intro x3 f3 _; obtain ⟨_, rfl⟩ := one_int f3 rfl rfl rfl rfl
      intro x4 f4 _; obtain ⟨_, rfl⟩ := one_int f4 rfl rfl rfl rfl
      intro x5 f5 _; obtain ⟨_, rfl⟩ := one_int f5 rfl rfl rfl rfl
      have hh : ∀ k : Int, (headI 3 k).length ≤ 9 := headI_len 3
      refine ⟨?_, ?_, ?_⟩
      · simp only [E.bb, E.ii, E.ss, Env.app, List.cons_append, List.nil_append, List.append_nil, List.getD_cons_zero, List.getD_cons_succ, hN, hS]; simp [size_app, lit_sOf_size]
        generalize hg : headI 3 _ = l
        have := hh; grind
      · simp only [E.bb, E.ii, E.ss, Env.app, List.cons_append, List.nil_append, List.append_nil, List.getD_cons_zero, List.getD_cons_succ, hN, hS]; simp [size_app, lit_sOf_size]
        generalize hg : headI 3 _ = l
        have := hh; grind
      intro x6 f6 _; obtain ⟨_, rfl⟩ := one_int f6 rfl rfl rfl rfl
      refine ⟨fun _ => ?_, fun hb => ?_⟩
      · intro y0 e0 _ y1 e1 _ β nx
        rfl
      · exfalso
        simp only [E.bb, E.ii, E.ss, Env.app, List.cons_append, List.nil_append, List.append_nil, List.getD_cons_zero, List.getD_cons_succ, hN, hS] at hb
        refine no_leaf (good_leaf hok ?_) hb
        rw [byL_1 h1]
        simp only [bs_app, bs_sOf, size_app, lit_sOf_size, List.length_cons, List.length_nil]
        rw [headI_3 (m := N.data.toList.length + S.data.toList.length + 3) (by rw [bs_len, bs_len]; split <;> (try split) <;> omega)]
        simp
    · exfalso
      simp only [E.bb, E.ii, E.ss, Env.app, List.cons_append, List.nil_append, List.append_nil, List.getD_cons_zero, List.getD_cons_succ, hN, hS] at h7
      simp [size_app, lit_sOf_size] at h7
      omega
  · refine enc_step hgl hT rfl rfl fun G1 g1 => ?_
    intro x0 f0 _; obtain ⟨_, rfl⟩ := one_int f0 rfl rfl rfl rfl
    intro β nx
    refine congrArg Value.bool ?_
    simp only [E.bb, E.ii, E.ss, Env.app, List.cons_append, List.nil_append, List.append_nil, List.getD_cons_zero, List.getD_cons_succ, hN, hS] at h0 h1 h2 h3
    simp [eqs_nil, eP1, eP2] at h0 h1 h2 h3
    simp only [E.bb, E.ii, E.ss, Env.app, List.cons_append, List.nil_append, List.append_nil, List.getD_cons_zero, List.getD_cons_succ, hN, hS]
    refine bad_leaf ?_
    rw [okN_2 h2]; simp; grind
  · refine enc_step hgl hT rfl rfl fun G1 g1 => ?_
    intro x0 f0 _; obtain ⟨_, rfl⟩ := one_int f0 rfl rfl rfl rfl
    intro β nx
    refine congrArg Value.bool ?_
    simp only [E.bb, E.ii, E.ss, Env.app, List.cons_append, List.nil_append, List.append_nil, List.getD_cons_zero, List.getD_cons_succ, hN, hS] at h0 h1 h2 h3 h4
    simp [eqs_nil, eP1, eP2] at h0 h1 h2 h3 h4
    simp only [E.bb, E.ii, E.ss, Env.app, List.cons_append, List.nil_append, List.append_nil, List.getD_cons_zero, List.getD_cons_succ, hN, hS]
    refine bad_leaf ?_
    rw [okN_2 h2]; simp; grind
  · refine enc_step hgl hT rfl rfl fun G1 g1 => ?_
    intro x0 f0 _; obtain ⟨_, rfl⟩ := one_int f0 rfl rfl rfl rfl
    intro β nx
    refine congrArg Value.bool ?_
    simp only [E.bb, E.ii, E.ss, Env.app, List.cons_append, List.nil_append, List.append_nil, List.getD_cons_zero, List.getD_cons_succ, hN, hS] at h0 h1 h2 h3 h4 h5
    simp [eqs_nil, eP1, eP2] at h0 h1 h2 h3 h4 h5
    simp only [E.bb, E.ii, E.ss, Env.app, List.cons_append, List.nil_append, List.append_nil, List.getD_cons_zero, List.getD_cons_succ, hN, hS]
    refine bad_leaf ?_
    rw [okN_2 h2]; simp; grind
  · refine enc_step hgl hT rfl rfl fun G1 g1 => ?_
    intro x0 f0 _; obtain ⟨_, rfl⟩ := one_int f0 rfl rfl rfl rfl
    intro β nx
    refine congrArg Value.bool ?_
    simp only [E.bb, E.ii, E.ss, Env.app, List.cons_append, List.nil_append, List.append_nil, List.getD_cons_zero, List.getD_cons_succ, hN, hS] at h0 h1 h2 h3 h4 h5 h6
    simp [eqs_nil, eP1, eP2] at h0 h1 h2 h3 h4 h5 h6
    simp only [E.bb, E.ii, E.ss, Env.app, List.cons_append, List.nil_append, List.append_nil, List.getD_cons_zero, List.getD_cons_succ, hN, hS]
    refine bad_leaf ?_
    rw [okN_2 h2]; simp; grind
  · refine enc_step hgl hT rfl rfl fun G1 g1 => ?_
    intro x0 f0 _; obtain ⟨_, rfl⟩ := one_int f0 rfl rfl rfl rfl
    intro β nx
    refine congrArg Value.bool ?_
    simp only [E.bb, E.ii, E.ss, Env.app, List.cons_append, List.nil_append, List.append_nil, List.getD_cons_zero, List.getD_cons_succ, hN, hS] at h0 h1 h2 h3 h4 h5 h6 h7
    simp [eqs_nil, eP1, eP2] at h0 h1 h2 h3 h4 h5 h6 h7
    simp only [E.bb, E.ii, E.ss, Env.app, List.cons_append, List.nil_append, List.append_nil, List.getD_cons_zero, List.getD_cons_succ, hN, hS]
    refine bad_leaf ?_
    rw [okN_2 h2]; simp; grind
  · refine enc_step hgl hT rfl rfl fun G1 g1 => ?_
    intro x0 f0 _; obtain ⟨_, rfl⟩ := one_int f0 rfl rfl rfl rfl
    intro β nx
    refine congrArg Value.bool ?_
    simp only [E.bb, E.ii, E.ss, Env.app, List.cons_append, List.nil_append, List.append_nil, List.getD_cons_zero, List.getD_cons_succ, hN, hS] at h0 h1 h2 h3 h4 h5 h6 h7 h8
    simp [eqs_nil, eP1, eP2] at h0 h1 h2 h3 h4 h5 h6 h7 h8
    simp only [E.bb, E.ii, E.ss, Env.app, List.cons_append, List.nil_append, List.append_nil, List.getD_cons_zero, List.getD_cons_succ, hN, hS]
    refine bad_leaf ?_
    rw [okN_2 h2]; simp; grind
  · simp only [E.bb, E.ii, E.ss, Env.app, List.cons_append, List.nil_append, List.append_nil, List.getD_cons_zero, List.getD_cons_succ, hN, hS] at h0 h1 h2 h3 h4 h5 h6 h7 h8
    simp [eqs_nil, eP1, eP2] at h0 h1 h2 h3 h4 h5 h6 h7 h8
    have hok : okN c a b N S = true := by
      rw [okN_2 h2]; simp; grind
    refine itoa_step hT (by simp [E.ii]; omega) (by simp [E.ii]; omega) rfl fun u G1 hu g1 => ⟨?_, itoa_step (hT.le g1) (by simp [E.ii, Env.app]; omega) (by simp [E.ii, Env.app]; omega) rfl fun u' G2 hu' g2 => ⟨?_, enc_step (glLe (glLe hgl g1) g2) ((hT.le g1).le g2) rfl rfl fun G3 g3 => ?_⟩⟩
    · simp only [E.bb, E.ii, E.ss, Env.app, List.cons_append, List.nil_append, List.append_nil, List.getD_cons_zero, List.getD_cons_succ, hN, hS]; simp [size_app, lit_sOf_size]; omega
    · simp only [E.bb, E.ii, E.ss, Env.app, List.cons_append, List.nil_append, List.append_nil, List.getD_cons_zero, List.getD_cons_succ, hN, hS]; simp [size_app, lit_sOf_size]; omega
    intro x0 f0 _; obtain ⟨_, rfl⟩ := one_int f0 rfl rfl rfl rfl
    intro x1 f1 _; obtain ⟨_, rfl⟩ := one_int f1 rfl rfl rfl rfl
    intro x2 f2 _; obtain ⟨_, rfl⟩ := one_int f2 rfl rfl rfl rfl
    intro x3 f3 _; obtain ⟨_, rfl⟩ := one_int f3 rfl rfl rfl rfl
    intro x4 f4 _; obtain ⟨_, rfl⟩ := one_int f4 rfl rfl rfl rfl
    intro x5 f5 _; obtain ⟨_, rfl⟩ := one_int f5 rfl rfl rfl rfl
    intro x6 f6 _; obtain ⟨_, rfl⟩ := one_int f6 rfl rfl rfl rfl
    intro x7 f7 _; obtain ⟨_, rfl⟩ := one_int f7 rfl rfl rfl rfl
    intro x8 f8 _; obtain ⟨_, rfl⟩ := one_int f8 rfl rfl rfl rfl
    intro x9 f9 _; obtain ⟨_, rfl⟩ := one_int f9 rfl rfl rfl rfl
    intro x10 f10 _; obtain ⟨_, rfl⟩ := one_int f10 rfl rfl rfl rfl
    refine ⟨?_, ?_, ?_⟩
    · simp only [E.bb, E.ii, E.ss, Env.app, List.cons_append, List.nil_append, List.append_nil, List.getD_cons_zero, List.getD_cons_succ, hN, hS]; simp [size_app, lit_sOf_size]
      generalize hg : headI 0 _ = l
      have := headI_len 0; grind
    · simp only [E.bb, E.ii, E.ss, Env.app, List.cons_append, List.nil_append, List.append_nil, List.getD_cons_zero, List.getD_cons_succ, hN, hS]; simp [size_app, lit_sOf_size]
      generalize hg : headI 0 _ = l
      have := headI_len 0; grind
    intro x11 f11 _; obtain ⟨_, rfl⟩ := one_int f11 rfl rfl rfl rfl
    refine ⟨?_, ?_, ?_⟩
    · simp only [E.bb, E.ii, E.ss, Env.app, List.cons_append, List.nil_append, List.append_nil, List.getD_cons_zero, List.getD_cons_succ, hN, hS]; simp [size_app, lit_sOf_size]
      generalize hg : headI 0 _ = l
      have := headI_len 0; grind
    · simp only [E.bb, E.ii, E.ss, Env.app, List.cons_append, List.nil_append, List.append_nil, List.getD_cons_zero, List.getD_cons_succ, hN, hS]; simp [size_app, lit_sOf_size]
      generalize hg : headI 0 _ = l
      generalize hg' : headI 0 _ = l'
      have := headI_len 0; grind
    intro x12 f12 _; obtain ⟨_, rfl⟩ := one_int f12 rfl rfl rfl rfl
    refine ⟨fun _ => ?_, fun hb => ?_⟩
    · intro y0 e0 _ y1 e1 _ y2 e2 _ y3 e3 _ β nx
      rfl
    · exfalso
      simp only [E.bb, E.ii, E.ss, Env.app, List.cons_append, List.nil_append, List.append_nil, List.getD_cons_zero, List.getD_cons_succ, hN, hS] at hb
      refine no_leaf (good_leaf hok ?_) hb
      rw [byL_2 h2]
      simp only [bs_app, bs_sOf]
      rw [headI_0 (m := a.toNat) (by split <;> (try split) <;> omega), headI_0 (m := b.toNat) (by split <;> (try split) <;> omega)]
      simp
  · refine enc_step hgl hT rfl rfl fun G1 g1 => ?_
    intro x0 f0 _; obtain ⟨_, rfl⟩ := one_int f0 rfl rfl rfl rfl
    intro β nx
    refine congrArg Value.bool ?_
    simp only [E.bb, E.ii, E.ss, Env.app, List.cons_append, List.nil_append, List.append_nil, List.getD_cons_zero, List.getD_cons_succ, hN, hS] at h0 h1 h2
    simp [eqs_nil, eP1, eP2] at h0 h1 h2
    simp only [E.bb, E.ii, E.ss, Env.app, List.cons_append, List.nil_append, List.append_nil, List.getD_cons_zero, List.getD_cons_succ, hN, hS]
    refine bad_leaf ?_
    exact okN_3 h0 h1 h2

set_option maxRecDepth 100000 in
theorem bytes_calls (c a b : Int) (n s : ByteArray) (A : List Addr) (G : GS) (w : World) (hgl : GlobR ⟨{ a := A }, fun _ => 0, 0, G⟩ gl7) (hT : Tens G) (hG : GHeap G w) :
    Calls Tryz.prog 5 #[.agg #[.int .i64 c, .string n, .string s, .int .i64 a, .int .i64 b]] w fun e w' => (∃ v, e = .returned v ∧ v = .bool true) ∧ Below w.heap.size w w' := by
  refine calls_post (C := C7e) C7eok bytes_tree (ρ := { i := [c, a, b], s := [n, s], a := A }) (G := G) (vs := [.agg #[.int .i64 c, .string n, .string s, .int .i64 a, .int .i64 b]])
    ⟨rfl, rfl, rfl, rfl, by simp⟩ (by intro c v h; simp at h) (gl7_any hgl) hG ?_ (bytes_sat c a b n s A G hgl hT)
  refine DV.iss_cons (fun k' hle => ?_) DV.iss_nil
  obtain ⟨t, ht⟩ := hle.ρ.i
  obtain ⟨u, hu⟩ := hle.ρ.s
  simp [DV.den, DV.dens, E.ii, E.ss, ← ht, ← hu]
end Go.Sx
