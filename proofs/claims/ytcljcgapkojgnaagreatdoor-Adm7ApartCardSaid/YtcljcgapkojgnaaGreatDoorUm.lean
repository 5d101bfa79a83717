/- Chapter 12: acks' bytes, for each length of the list. -/
import Derived.Test.YtcljcgapkojgnaaGreatDoorUb
import Derived.Test.YtcljcgapkojgnaaGreatDoorSm
set_option linter.unusedSimpArgs false
set_option linter.unusedVariables false
namespace Go.Sx
open Go.Proofs Go.RowKit

def badA : Sm := .val (.tup [.str (.sl []), .int .i64 (.lit 120)])
def numE (i : Nat) : E := .o2 .app (.o2 .headE (.lit 0) (.o2 .imax (.o2 .imax (.iv i) (.lit 0)) (.lit 0))) (.sl [])
/-- The bytes up to some numbers. -/
def strA (k : Nat) : Nat → E
  | 0 => .o2 .app (.o2 .app (.sl [130, 4, 130]) (numE k)) (.sl [128 + k])
  | j + 1 => .o2 .app (strA k j) (numE j)
def okE (i : Nat) : E := .o2 .and (.o2 .and (.o2 .le (.lit 0) (.iv i)) (.o2 .le (.iv i) (.lit 281474976710655))) (.o2 .lt (if i == 0 then .lit (-1) else .iv (i - 1)) (.iv i))
def goodA (k : Nat) : Sm := .val (.tup [.str (strA k k), .int .i64 (.lit 0)])
def chainA (k : Nat) : Nat → Nat → Sm
  | _, 0 => .bad
  | i, 1 => .br (.o1 .not (okE i)) badA (goodA k)
  | i, n + 2 => .br (okE i) (chainA k (i + 1) (n + 1)) badA
def SmA (k : Nat) : Sm := if k == 0 || decide (20 < k) then badA else .br (.o2 .and (.o2 .le (.lit 0) (.iv k)) (.o2 .le (.iv k) (.lit 255))) (chainA k 0 k) badA
def pcA (k : Nat) : List (E × Bool) := if k == 0 then [] else [(.vv .isSome 0, true)]
noncomputable def acksRun (k : Nat) : Ts := (ev C12 3000 (.enter 7 [.agg [.int .i64 (.iv k), slcD 0 k]]) (init { i := k + 1, v := 1 } (capP 0 k) (rowM 0 k 0))).slim false
end Go.Sx
/- Chapter 12: what Acks answers, from its trees. -/
namespace Go.Sx
open Go.Proofs Go.RowKit

def acksV (r : Int) (L : List Int) : Value := if okA r L then .tuple #[.string ⟨(byA r L).toArray⟩, .int .i64 0] else .tuple #[.string (sOf []), .int .i64 120]
theorem acksV_bad {r : Int} {L : List Int} (h : okA r L = false) : Value.tuple #[.string (sOf []), .int .i64 120] = acksV r L := by unfold acksV; rw [h]; rfl
theorem acksV_good {r : Int} {L : List Int} (h : okA r L = true) {s : ByteArray} (hs : s.data.toList = byA r L) : Value.tuple #[.string s, .int .i64 0] = acksV r L := by
  unfold acksV
  rw [if_pos h]
  have : s = ⟨(byA r L).toArray⟩ := bs_inj (by simpa using hs)
  rw [this]

theorem headI_0' {x : Int} {m : Nat} (h : x = m) : headI 0 x = headL 0 m := by subst h; simp [headI]

section
variable {ρ : Env} {L : List Int} {r : Int}

theorem iv_at (hi : ρ.i = L ++ [r]) {i : Nat} (h : i < L.length) : ρ.i.getD i 0 = L[i] := by
  rw [hi, List.getD_eq_getElem?_getD, List.getElem?_append_left h, List.getElem?_eq_getElem h]; rfl
theorem iv_last (hi : ρ.i = L ++ [r]) : ρ.i.getD L.length 0 = r := by
  rw [hi, List.getD_eq_getElem?_getD, List.getElem?_append_right (Nat.le_refl _)]; simp

def prevOf (L : List Int) (i : Nat) : Int := if i = 0 then -1 else L.getD (i - 1) 0

theorem okE_bb (hi : ρ.i = L ++ [r]) {i : Nat} (h : i < L.length) : (okE i).bb ρ = (decide (0 ≤ L[i]) && decide (L[i] ≤ 281474976710655) && decide (prevOf L i < L[i])) := by
  have h1 := iv_at hi h
  cases i with
  | zero => simp only [okE, E.bb, E.ii, h1, prevOf, beq_self_eq_true, if_true]
  | succ i =>
    have h2 := iv_at hi (i := i) (by omega)
    have e : (i + 1 == 0) = false := rfl
    simp only [okE, E.bb, E.ii, h1, prevOf, e, Bool.false_eq_true, if_false, Nat.add_sub_cancel, h2, Nat.add_one_ne_zero]
    rw [List.getD_eq_getElem?_getD, List.getElem?_eq_getElem (show i < L.length by omega)]
    rfl

theorem rise_drop {i : Nat} (h : i < L.length) : rise (prevOf L i) (L.drop i) = (decide (0 ≤ L[i]) && decide (L[i] ≤ 281474976710655) && decide (prevOf L i < L[i]) && rise (prevOf L (i + 1)) (L.drop (i + 1))) := by
  rw [List.drop_eq_getElem_cons h]
  have h1 : prevOf L (i + 1) = L[i] := by
    simp only [prevOf, Nat.add_one_ne_zero, if_false, Nat.add_sub_cancel]
    rw [List.getD_eq_getElem?_getD, List.getElem?_eq_getElem h]
    rfl
  rw [h1]
  rfl

theorem rise_all : ∀ {L : List Int} {a : Int}, rise a L = true → ∀ n ∈ L, 0 ≤ n ∧ n ≤ 281474976710655
  | [], _, _, n, h => by cases h
  | x :: L, a, hr, n, h => by
    simp only [rise, Bool.and_eq_true, decide_eq_true_eq] at hr
    rcases List.mem_cons.1 h with rfl | h
    · exact ⟨hr.1.1.1, hr.1.1.2⟩
    · exact rise_all hr.2 n h

theorem numE_ss {i : Nat} {n : Int} (h : ρ.i.getD i 0 = n) (h0 : 0 ≤ n) : ((numE i).ss ρ).data.toList = hb 0 n.toNat := by
  simp only [numE, E.ss, E.ii, h, bs_app, bs_sOf]
  rw [headI_0' (m := n.toNat) (by split <;> (try split) <;> omega)]
  simp [hb]

theorem nbs_append : ∀ (L M : List Int), nbs (L ++ M) = nbs L ++ nbs M
  | [], M => rfl
  | x :: L, M => by simp only [List.cons_append, nbs, nbs_append L M, List.append_assoc]

theorem strA_ss (hi : ρ.i = L ++ [r]) (hr : 0 ≤ r) (hall : ∀ n ∈ L, 0 ≤ n) : ∀ j, j ≤ L.length → ((strA L.length j).ss ρ).data.toList = 130 :: 4 :: 130 :: (hb 0 r.toNat ++ (UInt8.ofNat (128 + L.length) :: nbs (L.take j)))
  | 0, _ => by
    simp only [strA, E.ss, bs_app, bs_sOf, numE_ss (iv_last hi) hr]
    simp [nbs]
  | j + 1, hj => by
    have h1 := iv_at hi (i := j) (by omega)
    simp only [strA, E.ss, bs_app, strA_ss hi hr hall j (by omega), numE_ss h1 (hall _ (List.getElem_mem _))]
    rw [List.take_succ_eq_append_getElem (show j < L.length by omega), nbs_append]
    simp [nbs]

theorem chain_sat (hi : ρ.i = L ++ [r]) (hr : 0 ≤ r ∧ r ≤ 255) (h20 : L.length ≤ 20) : ∀ (n i : Nat), i + n = L.length → 1 ≤ n → okA r L = rise (prevOf L i) (L.drop i) →
    (chainA L.length i n).sat (fun d => d.den ⟨ρ, fun _ => 0, 0, fun _ => none⟩ = acksV r L) ρ
  | 0, _, _, h, _ => by omega
  | 1, i, hn, _, hok => by
    have hlt : i < L.length := by omega
    rw [rise_drop hlt, List.drop_of_length_le (show L.length ≤ i + 1 by omega)] at hok
    simp only [chainA, Sm.sat, badA, goodA]
    have he : (E.o1 .not (okE i)).bb ρ = !(okE i).bb ρ := by simp only [E.bb]
    rw [he, okE_bb hi hlt]
    simp only [rise, Bool.and_true] at hok
    rw [← hok]
    refine ⟨fun h => ?_, fun h => ?_⟩
    · have hb : okA r L = false := by simpa using h
      simp only [DV.den, DV.dens, E.ss, E.ii]
      exact acksV_bad hb
    · have ho : okA r L = true := by simpa using h
      have hb' := ho
      simp only [okA, Bool.and_eq_true, decide_eq_true_eq] at hb'
      simp only [DV.den, DV.dens, E.ii]
      refine acksV_good ho ?_
      rw [strA_ss hi hr.1 (fun n hn => (rise_all hb'.2 n hn).1) _ (Nat.le_refl _), List.take_length]
      simp only [byA]
      have : hb 4 L.length = [UInt8.ofNat (128 + L.length)] := by
        unfold hb headL
        rw [if_pos (by omega)]
        rfl
      rw [this]
      simp
  | n + 2, i, hn, _, hok => by
    have hlt : i < L.length := by omega
    rw [rise_drop hlt] at hok
    simp only [chainA, Sm.sat, badA]
    rw [okE_bb hi hlt]
    refine ⟨fun h => ?_, fun h => ?_⟩
    · rw [h, Bool.true_and] at hok
      exact chain_sat hi hr h20 (n + 1) (i + 1) (by omega) (by omega) hok
    · rw [h, Bool.false_and] at hok
      simp only [DV.den, DV.dens, E.ss, E.ii]
      exact acksV_bad hok

theorem SmA_sat (hi : ρ.i = L ++ [r]) : (SmA L.length).sat (fun d => d.den ⟨ρ, fun _ => 0, 0, fun _ => none⟩ = acksV r L) ρ := by
  unfold SmA
  split
  · rename_i h0
    simp only [Bool.or_eq_true, beq_iff_eq, decide_eq_true_eq] at h0
    simp only [badA, Sm.sat, DV.den, DV.dens, E.ss, E.ii]
    refine acksV_bad ?_
    simp only [okA]
    rcases h0 with h0 | h0
    · simp [h0]
    · have : ¬ L.length ≤ 20 := by omega
      simp [this]
  · rename_i h0
    simp only [Bool.or_eq_true, beq_iff_eq, decide_eq_true_eq, not_or] at h0
    have hc : (E.o2 .and (.o2 .le (.lit 0) (.iv L.length)) (.o2 .le (.iv L.length) (.lit 255))).bb ρ = (decide (0 ≤ r) && decide (r ≤ 255)) := by
      simp only [E.bb, E.ii, iv_last hi]
    simp only [Sm.sat, hc]
    refine ⟨fun h => ?_, fun h => ?_⟩
    · simp only [Bool.and_eq_true, decide_eq_true_eq] at h
      refine chain_sat hi h (by omega) L.length 0 (by omega) (by omega) ?_
      simp [okA, h.1, h.2, prevOf]
      omega
    · simp only [badA, Sm.sat, DV.den, DV.dens, E.ss, E.ii]
      refine acksV_bad ?_
      simp only [okA, h, Bool.false_and]
end
end Go.Sx
