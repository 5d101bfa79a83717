/- Chapter 12: what head.Encode answers. -/
import Derived.Test.YtcljcgapkojgnaaGreatDoorUd
import Derived.Test.YtcljcgapkojgnaaGreatDoorSl
import Derived.IntWalk
set_option linter.unusedSimpArgs false
set_option linter.unusedVariables false
namespace Go.Sx
open Go.Proofs Go.RowKit

theorem gl12_still (g : Nat) (cs : List DV) (h : (g, cs) ∈ gl12.l) (d : DV) (hd : d ∈ cs) : DV.still gl12.sep d = true := by
  have hall : (gl12.l.all fun p => p.2.all fun d => DV.still gl12.sep d) = true := by kernel_rfl
  exact List.all_eq_true.1 (List.all_eq_true.1 hall _ h) _ hd
theorem gl12_any {k : K} {ρ : Env} (h : GlobR k gl12) (ha : ρ.a = k.ρ.a := by rfl) : GlobR ⟨ρ, fun _ => 0, 0, k.G⟩ gl12 := by
  refine ⟨fun g cs hl => ?_, ?_, ?_⟩
  · obtain ⟨vs, e, fr, hG, hget⟩ := h.l g cs hl
    refine ⟨vs, e, fr, hG, fun i d hi => ?_⟩
    obtain ⟨v, hv, hd⟩ := hget i d hi
    refine ⟨v, hv, fun k' hle => ?_⟩
    rw [← hd.here]
    refine still_den (sep := gl12.sep) (fun j hj => ?_) d (gl12_still g cs (look_mem hl) d (List.mem_of_getElem? hi))
    obtain ⟨a, c, e', h1, _⟩ := h.sep j hj
    obtain ⟨t, ht⟩ := hle.ρ.a
    rw [← ht]
    show (ρ.a ++ t)[j]? = k.ρ.a[j]?
    rw [ha, List.getElem?_append_left (List.getElem?_eq_some_iff.1 h1).1]
  · intro i hi
    obtain ⟨b, c, e, h1, h2⟩ := h.sep i hi
    exact ⟨b, c, e, by show ρ.a[i]? = _; rw [ha]; exact h1, h2⟩
  · intro i hi j hj hij
    show ρ.a[i]? ≠ ρ.a[j]?
    rw [ha]
    exact h.ne i hi j hj hij

def qE : Nat → E
  | 0 => .iv 0
  | i + 1 => .o1 (.wrap .i64) (.o2 .tdiv (qE i) (.lit 256))
def bE (i : Nat) : E := .o1 (.wrap .u8) (.o2 .tmod (qE i) (.lit 256))
def wE (w : Nat) : E := (List.range w).reverse.foldl (fun a i => .o2 .push a (bE i)) (.sl [])
def obH (w : Nat) (t : Ts) : Ts := .ob (.o2 .le (.o2 .add (.lit 1) (.o1 .len (wE w))) (.lit 9223372036854775807)) t
def leafH (c w : Nat) : Ts := obH w (.val (.tup [.str (.o2 .app (.sl [c]) (wE w)), .int .i64 (.lit 0)]) [])
def shrH (b : Int) (c : Nat) (t : Ts) : Ts := .br (.o1 .not (.o2 .eqi (.o2 (.shr .i64) (.iv 0) (.lit b)) (.lit 0))) (.val (.tup [.str (.sl [c]), .int .i64 (.lit 0)]) []) t
def TH (k : Nat) : Ts :=
  .br (.o2 .lt (.iv 0) (.lit 24)) (.val (.tup [.str (.o2 .push (.sl []) (.o2 (.bits .or .u8) (.lit ((k * 32 : Nat) : Int)) (.o1 (.wrap .u8) (.iv 0)))), .int .i64 (.lit 0)]) [])
    (.br (.o2 .lt (.iv 0) (.lit 256)) (shrH 8 (k * 32 + 24) (leafH (k * 32 + 24) 1))
      (.br (.o2 .lt (.iv 0) (.lit 65536)) (shrH 16 (k * 32 + 25) (leafH (k * 32 + 25) 2))
        (.br (.o2 .lt (.iv 0) (.lit 4294967296)) (shrH 32 (k * 32 + 26) (leafH (k * 32 + 26) 4))
          (.br (.o2 .lt (.iv 0) (.lit 281474976710656)) (leafH (k * 32 + 27) 8) (.val (.tup [.str (.sl []), .int .i64 (.lit 10)]) [])))))

def pcH : List (E × Bool) := [(.o2 .le (.lit 0) (.iv 0), true), (.o2 .le (.iv 0) (.lit 281474976710655), true)]
theorem h0_tree : (ev C12a 3000 (.enter 48 [.int .i64 (.lit 0), .int .i64 (.iv 0)]) (init { i := 1 } pcH)).slim false = TH 0 := by kernel_rfl
theorem h2_tree : (ev C12a 3000 (.enter 48 [.int .i64 (.lit 2), .int .i64 (.iv 0)]) (init { i := 1 } pcH)).slim false = TH 2 := by kernel_rfl
theorem h3_tree : (ev C12a 3000 (.enter 48 [.int .i64 (.lit 3), .int .i64 (.iv 0)]) (init { i := 1 } pcH)).slim false = TH 3 := by kernel_rfl
theorem h4_tree : (ev C12a 3000 (.enter 48 [.int .i64 (.lit 4), .int .i64 (.iv 0)]) (init { i := 1 } pcH)).slim false = TH 4 := by kernel_rfl

section
variable {ρ : Env} {m : Nat}

theorem q_ii (hρ : ρ.i.getD 0 0 = (m : Int)) (hm : m ≤ maxNum) : ∀ i, (qE i).ii ρ = ((m / 256 ^ i : Nat) : Int)
  | 0 => by simp only [qE, E.ii, hρ, Nat.pow_zero, Nat.div_one]
  | i + 1 => by
    have h : m / 256 ^ i ≤ m := Nat.div_le_self _ _
    have hm' := hm
    unfold maxNum at hm'
    simp only [qE, E.ii, q_ii hρ hm i, Nat.pow_succ, ← Nat.div_div_eq_div_mul]
    generalize m / 256 ^ i = x at h
    rw [IntWalk.i64_quo _ _ ⟨by omega, by omega, by omega⟩]
    omega
theorem b_ii (hρ : ρ.i.getD 0 0 = (m : Int)) (hm : m ≤ maxNum) (i : Nat) : (bE i).ii ρ = ((m / 256 ^ i % 256 : Nat) : Int) := by
  simp only [bE, E.ii, q_ii hρ hm i]
  generalize m / 256 ^ i = x
  rw [Int.tmod_eq_emod_of_nonneg (by omega)]
  rw [IntWalk.u8_in _ (by omega)]
  omega
theorem w_fold (hρ : ρ.i.getD 0 0 = (m : Int)) (hm : m ≤ maxNum) : ∀ (l : List Nat) (a : E) (L : List Nat), a.ss ρ = sOf L →
    (l.foldl (fun a i => E.o2 .push a (bE i)) a).ss ρ = sOf (L ++ l.map fun i => m / 256 ^ i % 256)
  | [], a, L, h => by simpa using h
  | i :: l, a, L, h => by
    rw [List.foldl_cons, w_fold hρ hm l _ (L ++ [m / 256 ^ i % 256]) ?_]
    · simp
    · simp only [E.ss, h, b_ii hρ hm i, fold_push]
      rfl
theorem w_ss (hρ : ρ.i.getD 0 0 = (m : Int)) (hm : m ≤ maxNum) (w : Nat) : (wE w).ss ρ = sOf ((List.range w).reverse.map fun i => m / 256 ^ i % 256) := by
  unfold wE
  rw [w_fold hρ hm _ _ [] rfl]
  simp

theorem or_ii : (List.range 8).all (fun k => (List.range 24).all fun m => decide (IntKind.u8.wrap (((BitVec.ofInt IntKind.u8.bits ((k * 32 : Nat) : Int)) ||| (BitVec.ofInt IntKind.u8.bits (IntKind.u8.wrap (m : Int)))).toNat : Int) = ((k * 32 + m : Nat) : Int))) = true := by kernel_rfl

theorem leafH_sat {P : Program} {G : GS} (hρ : ρ.i.getD 0 0 = (m : Int)) (hm : m ≤ maxNum) (c w : Nat) (hw : w ≤ 8) {L : List Nat} (hL : c :: ((List.range w).reverse.map fun i => m / 256 ^ i % 256) = L) :
    (leafH c w).sat P (Den (.tuple #[.string (sOf L), .int .i64 0])) ρ G := by
  subst hL
  unfold leafH obH
  simp only [Ts.satB]
  refine ⟨?_, fun β nx G2 => ?_⟩
  · simp only [E.bb, E.ii, w_ss hρ hm, lit_sOf_size]
    simp
    omega
  · simp only [DV.den, DV.dens, E.ss, E.ii, w_ss hρ hm, ← fold_app]
    rfl
theorem shrH_sat {P : Program} {G : GS} (hρ : ρ.i.getD 0 0 = (m : Int)) (b c : Nat) (hb : b ≤ 64) (h : m < 2 ^ b) {Q : Env → GS → DV → List (Id × List DV) → Prop} {t : Ts} (ht : t.sat P Q ρ G) : (shrH b c t).sat P Q ρ G := by
  unfold shrH
  simp only [Ts.satB]
  refine ⟨fun hc => ?_, fun _ => ht⟩
  exfalso
  simp only [E.bb, E.ii, hρ, Bool.not_eq_true', beq_eq_false_iff_ne, ne_eq] at hc
  apply hc
  rw [show min ((b : Nat) : Int).toNat IntKind.i64.bits = b by simp [IntKind.bits]; omega]
  have e : ((m : Int)).fdiv ((2 : Int) ^ b) = ((m / 2 ^ b : Nat) : Int) := by
    rw [Int.fdiv_eq_ediv_of_nonneg _ (by exact Int.pow_nonneg (by decide))]
    simp
  rw [e, Nat.div_eq_of_lt h]
  rfl

theorem h_sat {P : Program} {G : GS} (k : Nat) (hk : k < 8) (hρ : ρ.i.getD 0 0 = (m : Int)) (hm : m ≤ maxNum) : (TH k).sat P (Den (.tuple #[.string (sOf (headL k m)), .int .i64 0])) ρ G := by
  have hm' := hm
  unfold maxNum at hm'
  have lt_iff : ∀ c : Int, (E.o2 .lt (.iv 0) (.lit c)).bb ρ = decide ((m : Int) < c) := fun c => by simp only [E.bb, E.ii, hρ]
  unfold TH
  simp only [Ts.satB, lt_iff, decide_eq_true_eq, decide_eq_false_iff_not]
  refine ⟨fun h1 β nx G2 => ?_, fun h1 => ⟨fun h2 => ?_, fun h2 => ⟨fun h3 => ?_, fun h3 => ⟨fun h4 => ?_, fun h4 => ⟨fun h5 => ?_, fun h5 => ?_⟩⟩⟩⟩⟩
  · have := List.all_eq_true.1 (List.all_eq_true.1 or_ii k (List.mem_range.2 hk)) m (List.mem_range.2 (by omega))
    have := of_decide_eq_true this
    simp only [DV.den, DV.dens, E.ss, E.ii, hρ, this, headL]
    rw [if_pos (by omega)]
    rw [show ((k * 32 + m : Nat) : Int).toNat = k * 32 + m from rfl, ← fold_push]
    rfl
  · refine shrH_sat hρ 8 _ (by decide) (by omega) (leafH_sat hρ hm _ _ (by decide) ?_)
    unfold headL
    rw [if_neg (by omega), if_pos (by omega)]
    simp [List.range, List.range.loop]
    omega
  · refine shrH_sat hρ 16 _ (by decide) (by omega) (leafH_sat hρ hm _ _ (by decide) ?_)
    unfold headL
    rw [if_neg (by omega), if_neg (by omega), if_pos (by omega)]
    simp [List.range, List.range.loop]
  · refine shrH_sat hρ 32 _ (by decide) (by omega) (leafH_sat hρ hm _ _ (by decide) ?_)
    unfold headL
    rw [if_neg (by omega), if_neg (by omega), if_neg (by omega), if_pos (by omega)]
    simp [List.range, List.range.loop]
  · refine leafH_sat hρ hm _ _ (by decide) ?_
    unfold headL maxNum
    rw [if_neg (by omega), if_neg (by omega), if_neg (by omega), if_neg (by omega), if_pos (by omega)]
    simp [List.range, List.range.loop]
    omega
  · exfalso; omega
end

theorem h_calls (k : Nat) (hk : k = 0 ∨ k = 2 ∨ k = 3 ∨ k = 4) (n : Int) (h0 : 0 ≤ n) (h1 : n ≤ 281474976710655) (a : List Addr) (G : GS) (w : World) (hgl : GlobR ⟨{ a := a }, fun _ => 0, 0, G⟩ gl12) (hG : GHeap G w) :
    Calls Tryz.prog 48 #[.int .i64 (k : Int), .int .i64 n] w fun e w' => e = .returned (.tuple #[.string (sOf (headI k n)), .int .i64 0]) ∧ Below w.heap.size w w' := by
  obtain ⟨m, rfl⟩ : ∃ m : Nat, n = m := ⟨n.toNat, by omega⟩
  have hm : m ≤ maxNum := by unfold maxNum; omega
  have he : headI (k : Int) (m : Int) = headL k m := by simp [headI]
  rw [he]
  have hk8 : k < 8 := by omega
  have key : ∀ {T : Ts}, (ev C12a 3000 (.enter 48 [.int .i64 (.lit (k : Int)), .int .i64 (.iv 0)]) (init { i := 1 } pcH)).slim false = T → T = TH k →
      Calls Tryz.prog 48 #[.int .i64 (k : Int), .int .i64 (m : Int)] w fun e w' => e = .returned (.tuple #[.string (sOf (headL k m)), .int .i64 0]) ∧ Below w.heap.size w w' := by
    intro T hT hTk
    subst hTk
    refine calls_den (C := C12a) C12aok hT (ρ := { i := [(m : Int)], a := a }) (G := G) (vs := [.int .i64 (k : Int), .int .i64 (m : Int)])
      ⟨rfl, rfl, rfl, rfl, by simp⟩ ?_ (gl12_any hgl) hG ?_ (h_sat k hk8 rfl hm)
    · intro c v h k' hle
      obtain ⟨t, ht⟩ := hle.ρ.i
      simp only [pcH, List.mem_cons, Prod.mk.injEq, List.not_mem_nil, or_false] at h
      rcases h with ⟨rfl, rfl⟩ | ⟨rfl, rfl⟩
      · simp [E.bb, E.ii, ← ht]
      · simp [E.bb, E.ii, ← ht]; omega
    · refine DV.iss_cons (mk_int (isI_lit _)) (DV.iss_cons (mk_int fun k' hle => ?_) DV.iss_nil)
      obtain ⟨t, ht⟩ := hle.ρ.i
      simp [E.ii, ← ht]
  rcases hk with rfl | rfl | rfl | rfl
  · exact key h0_tree rfl
  · exact key h2_tree rfl
  · exact key h3_tree rfl
  · exact key h4_tree rfl
end Go.Sx
