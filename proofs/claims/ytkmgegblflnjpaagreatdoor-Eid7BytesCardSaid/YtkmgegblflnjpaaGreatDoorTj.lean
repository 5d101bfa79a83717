/- Chapter 10: eid7.Encode, whatever the name. -/
import Derived.Test.YtkmgegblflnjpaaGreatDoorTi
set_option linter.unusedSimpArgs false
set_option linter.unusedVariables false
namespace Go.Sx
open Go.Proofs Go.RowKit

theorem okN_0 {c a b : Int} {n s : ByteArray} (h : c = 0) : okN c a b n s = (decide (n.size = 0) && decide (s.size = 0) && decide (a = 0) && decide (b = 0)) := by
  unfold okN; rw [if_pos h]
theorem okN_1 {c a b : Int} {n s : ByteArray} (h : c = 1) : okN c a b n s = (!decide (n.size = 0) && ra (inR partR1) n 0 && decide (n.size ≤ 20) && ra (inR partR2) s 0 && decide (s.size ≤ 20) && decide (a = 0) && decide (b = 0)) := by
  unfold okN; rw [if_neg (by omega), if_pos h]
theorem okN_2 {c a b : Int} {n s : ByteArray} (h : c = 2) : okN c a b n s = (decide (n.size = 0) && decide (s.size = 0) && decide (1 ≤ a) && decide (a ≤ 999999999) && decide (0 ≤ b) && decide (b ≤ 999999999)) := by
  unfold okN; rw [if_neg (by omega), if_neg (by omega), if_pos h]
theorem okN_3 {c a b : Int} {n s : ByteArray} (h0 : c ≠ 0) (h1 : c ≠ 1) (h2 : c ≠ 2) : okN c a b n s = false := by
  unfold okN; rw [if_neg h0, if_neg h1, if_neg h2]

theorem eP1 : [(97, 122), (48, 57), (45, 45), (46, 46)] = partR1 := rfl
theorem eP2 : [(97, 122), (48, 57), (45, 45), (46, 46), (47, 47)] = partR2 := rfl
theorem eTx : [(32, 126)] = textR := rfl

theorem size_le_int {s : ByteArray} {n : Nat} : ((s.size : Int) ≤ (n : Int)) ↔ s.size ≤ n := by omega

theorem bad_val {c a b : Int} {n s : ByteArray} (h : okN c a b n s = false) : Value.tuple #[.string (sOf []), .int .i64 60] = encV c a b n s := by
  unfold encV; rw [h]; rfl
theorem good_val {c a b : Int} {n s t : ByteArray} (h : okN c a b n s = true) (ht : t.data.toList = byL c a b n.data.toList s.data.toList) : Value.tuple #[.string t, .int .i64 0] = encV c a b n s := by
  unfold encV; rw [if_pos h]
  have : t = byN c a b n s := bs_inj (by rw [bs_byN, ht])
  rw [this]

theorem headI_3 {x : Int} {m : Nat} (h : x = m) : headI 3 x = headL 3 m := by subst h; simp [headI]
theorem headI_0 {x : Int} {m : Nat} (h : x = m) : headI 0 x = headL 0 m := by subst h; simp [headI]

theorem headI_len (k n : Int) : (headI k n).length ≤ 9 := by
  unfold headI
  split
  · exact headL_len _ _
  · simp

theorem enc_sat (c a b : Int) (n s : ByteArray) (A : List Addr) (G : GS) (hT : Tens G) :
    TEnc.sat Tryz.prog (fun ρ G d _ => ∀ β nx, (fun v => v = encV c a b n s) (d.den ⟨ρ, β, nx, G⟩)) { i := [c, a, b], s := [n, s], a := A } G := by
  unfold TEnc
  simp only [Ts.satB]
  refine ⟨fun h0 => ⟨fun h1 => ?_, fun h1 => ?_⟩, fun h0 => ⟨fun h1 => ⟨fun h2 => ?_, fun h2 => ⟨fun h3 => ?_, fun h3 => ⟨fun h4 => ?_, fun h4 => ⟨fun h5 => ?_, fun h5 => ⟨fun h6 => ?_, fun h6 => ?_⟩⟩⟩⟩⟩,
    fun h1 => ⟨fun h2 => ⟨fun h3 => ?_, fun h3 => ⟨fun h4 => ?_, fun h4 => ⟨fun h5 => ?_, fun h5 => ⟨fun h6 => ?_, fun h6 => ⟨fun h7 => ?_, fun h7 => ⟨fun h8 => ?_, fun h8 => ?_⟩⟩⟩⟩⟩⟩, fun h2 => ?_⟩⟩⟩
  · intro β nx
    refine bad_val ?_
    simp [E.bb, E.ii, E.ss, eqs_nil] at h0 h1
    rw [okN_0 h0]
    simp
    grind
  · intro x0 f0 _; obtain ⟨_, rfl⟩ := one_int f0 rfl rfl rfl rfl
    intro x1 f1 _; obtain ⟨_, rfl⟩ := one_int f1 rfl rfl rfl rfl
    intro x2 f2 _; obtain ⟨_, rfl⟩ := one_int f2 rfl rfl rfl rfl
    intro x3 f3 _; obtain ⟨_, rfl⟩ := one_int f3 rfl rfl rfl rfl
    intro x4 f4 _; obtain ⟨_, rfl⟩ := one_int f4 rfl rfl rfl rfl
    intro x5 f5 _; obtain ⟨_, rfl⟩ := one_int f5 rfl rfl rfl rfl
    intro x6 f6 _; obtain ⟨_, rfl⟩ := one_int f6 rfl rfl rfl rfl
    intro β nx
    simp [E.bb, E.ii, E.ss, eqs_nil] at h0 h1
    refine good_val ?_ ?_
    · rw [okN_0 h0]
      simp
      grind
    · unfold byL
      rw [if_pos h0, E.ss]
      rfl
  · intro β nx
    simp [E.bb, E.ii, E.ss, eqs_nil, eP1, eP2] at h0 h1 h2
    refine bad_val ?_
    rw [okN_1 h1]
    simp
    grind
  · intro β nx
    simp [E.bb, E.ii, E.ss, eqs_nil, eP1, eP2] at h0 h1 h2 h3
    refine bad_val ?_
    rw [okN_1 h1]
    simp
    grind
  · intro β nx
    simp [E.bb, E.ii, E.ss, eqs_nil, eP1, eP2] at h0 h1 h2 h3 h4
    refine bad_val ?_
    rw [okN_1 h1]
    simp
    grind
  · intro β nx
    simp [E.bb, E.ii, E.ss, eqs_nil, eP1, eP2] at h0 h1 h2 h3 h4 h5
    refine bad_val ?_
    rw [okN_1 h1]
    simp
    grind
  · intro β nx
    simp [E.bb, E.ii, E.ss, eqs_nil, eP1, eP2] at h0 h1 h2 h3 h4 h5 h6
    refine bad_val ?_
    rw [okN_1 h1]
    simp
    grind
  · simp [E.bb, E.ii, E.ss, eqs_nil, eP1, eP2] at h0 h1 h2 h3 h4 h5 h6
    have hok : okN c a b n s = true := by
      rw [okN_1 h1]
      simp
      grind
    refine ⟨?_, ?_, ?_, ?_⟩
    · simp [E.bb, E.ii, E.ss, size_app, lit_sOf_size]; omega
    · simp [E.bb, E.ii, E.ss, size_app, lit_sOf_size]; omega
    · simp [E.bb, E.ii, E.ss, size_app, lit_sOf_size]; omega
    intro x0 f0 _; obtain ⟨_, rfl⟩ := one_int f0 rfl rfl rfl rfl
    intro x1 f1 _; obtain ⟨_, rfl⟩ := one_int f1 rfl rfl rfl rfl
    have ht : (sOf [47, 47] ++ n ++ sOf [47] ++ s).data.toList = 47 :: 47 :: (n.data.toList ++ 47 :: s.data.toList) := by
      simp [bs_app, bs_sOf]
    refine ⟨fun h7 => ⟨fun h8 => ?_, fun h8 => ?_⟩, fun h7 => ?_⟩
    · exfalso
      have := dtn_text ht h3.1 h4.1
      simp [E.bb, E.ii, E.ss, eTx, Env.app, this] at h8
    · intro x2 f2 _; obtain ⟨_, rfl⟩ := one_int f2 rfl rfl rfl rfl
      intro x3 f3 _; obtain ⟨_, rfl⟩ := one_int f3 rfl rfl rfl rfl
      intro x4 f4 _; obtain ⟨_, rfl⟩ := one_int f4 rfl rfl rfl rfl
      intro x5 f5 _; obtain ⟨_, rfl⟩ := one_int f5 rfl rfl rfl rfl
      have hh : ∀ k : Int, (headI 3 k).length ≤ 9 := headI_len 3
      refine ⟨?_, ?_, ?_⟩
      · simp [E.bb, E.ii, E.ss, size_app, lit_sOf_size, Env.app]
        generalize hg : headI 3 _ = l
        have := hh; grind
      · simp [E.bb, E.ii, E.ss, size_app, lit_sOf_size, Env.app]
        generalize hg : headI 3 _ = l
        have := hh; grind
      intro x6 f6 _; obtain ⟨_, rfl⟩ := one_int f6 rfl rfl rfl rfl
      intro β nx
      refine good_val hok ?_
      unfold byL
      rw [if_neg (by omega), if_pos h1]
      simp only [E.ss, E.ii, Env.app, bs_app, bs_sOf, size_app, lit_sOf_size]
      simp only [List.append_nil, List.getD_cons_zero, List.getD_cons_succ, List.length_cons, List.length_nil]
      rw [headI_3 (m := n.data.toList.length + s.data.toList.length + 3) (by rw [bs_len, bs_len]; split <;> (try split) <;> omega)]
      simp
    · exfalso
      simp [E.bb, E.ii, E.ss, size_app, lit_sOf_size, Env.app] at h7
      omega
  · intro β nx
    simp [E.bb, E.ii, E.ss, eqs_nil, eP1, eP2] at h0 h1 h2 h3
    refine bad_val ?_
    rw [okN_2 h2]
    simp
    grind
  · intro β nx
    simp [E.bb, E.ii, E.ss, eqs_nil, eP1, eP2] at h0 h1 h2 h3 h4
    refine bad_val ?_
    rw [okN_2 h2]
    simp
    grind
  · intro β nx
    simp [E.bb, E.ii, E.ss, eqs_nil, eP1, eP2] at h0 h1 h2 h3 h4 h5
    refine bad_val ?_
    rw [okN_2 h2]
    simp
    grind
  · intro β nx
    simp [E.bb, E.ii, E.ss, eqs_nil, eP1, eP2] at h0 h1 h2 h3 h4 h5 h6
    refine bad_val ?_
    rw [okN_2 h2]
    simp
    grind
  · intro β nx
    simp [E.bb, E.ii, E.ss, eqs_nil, eP1, eP2] at h0 h1 h2 h3 h4 h5 h6 h7
    refine bad_val ?_
    rw [okN_2 h2]
    simp
    grind
  · intro β nx
    simp [E.bb, E.ii, E.ss, eqs_nil, eP1, eP2] at h0 h1 h2 h3 h4 h5 h6 h7 h8
    refine bad_val ?_
    rw [okN_2 h2]
    simp
    grind
  · simp [E.bb, E.ii, E.ss, eqs_nil, eP1, eP2] at h0 h1 h2 h3 h4 h5 h6 h7 h8
    have hok : okN c a b n s = true := by
      rw [okN_2 h2]
      simp
      grind
    refine itoa_step hT (by simp [E.ii]; omega) (by simp [E.ii]; omega) rfl fun u G1 hu hG1 => ⟨?_, itoa_step (hT.le hG1) (by simp [E.ii, Env.app]; omega) (by simp [E.ii, Env.app]; omega) rfl fun u' G2 hu' hG2 => ⟨?_, ?_⟩⟩
    · simp [E.bb, E.ii, E.ss, size_app, lit_sOf_size, Env.app]; omega
    · simp [E.bb, E.ii, E.ss, size_app, lit_sOf_size, Env.app]; omega
    intro x0 f0 _; obtain ⟨_, rfl⟩ := one_int f0 rfl rfl rfl rfl
    intro x1 f1 _; obtain ⟨_, rfl⟩ := one_int f1 rfl rfl rfl rfl
    intro x2 f2 _; obtain ⟨_, rfl⟩ := one_int f2 rfl rfl rfl rfl
    intro x3 f3 _; obtain ⟨_, rfl⟩ := one_int f3 rfl rfl rfl rfl
    intro x4 f4 _; obtain ⟨_, rfl⟩ := one_int f4 rfl rfl rfl rfl
    intro x5 f5 _; obtain ⟨_, rfl⟩ := one_int f5 rfl rfl rfl rfl
    intro x6 f6 _; obtain ⟨_, rfl⟩ := one_int f6 rfl rfl rfl rfl
    intro x7 f7 _; obtain ⟨_, rfl⟩ := one_int f7 rfl rfl rfl rfl
    intro x8 f8 _; obtain ⟨_, rfl⟩ := one_int f8 rfl rfl rfl rfl
    intro x9 f9 _; obtain ⟨_, rfl⟩ := one_int f9 rfl rfl rfl rfl
    intro x10 f10 _; obtain ⟨_, rfl⟩ := one_int f10 rfl rfl rfl rfl
    refine ⟨?_, ?_, ?_⟩
    · simp [E.bb, E.ii, E.ss, size_app, lit_sOf_size, Env.app]
      generalize hg : headI 0 _ = l
      have := headI_len 0; grind
    · simp [E.bb, E.ii, E.ss, size_app, lit_sOf_size, Env.app]
      generalize hg : headI 0 _ = l
      have := headI_len 0; grind
    intro x11 f11 _; obtain ⟨_, rfl⟩ := one_int f11 rfl rfl rfl rfl
    refine ⟨?_, ?_, ?_⟩
    · simp [E.bb, E.ii, E.ss, size_app, lit_sOf_size, Env.app]
      generalize hg : headI 0 _ = l
      have := headI_len 0; grind
    · simp [E.bb, E.ii, E.ss, size_app, lit_sOf_size, Env.app]
      generalize hg : headI 0 _ = l
      generalize hg' : headI 0 _ = l'
      have := headI_len 0; grind
    intro x12 f12 _; obtain ⟨_, rfl⟩ := one_int f12 rfl rfl rfl rfl
    intro β nx
    refine good_val hok ?_
    unfold byL
    rw [if_neg (by omega), if_neg (by omega)]
    simp only [E.ss, E.ii, Env.app, bs_app, bs_sOf, size_app, lit_sOf_size]
    simp only [List.cons_append, List.nil_append, List.append_nil, List.getD_cons_zero, List.getD_cons_succ]
    rw [headI_0 (m := a.toNat) (by split <;> (try split) <;> omega), headI_0 (m := b.toNat) (by split <;> (try split) <;> omega)]
    simp
  · intro β nx
    simp [E.bb, E.ii, E.ss, eqs_nil, eP1, eP2] at h0 h1 h2
    exact bad_val (okN_3 h0 h1 h2)
end Go.Sx
/- Chapter 10: no two names have the same bytes. -/
namespace Go.Sx
open Go.Proofs Go.RowKit

set_option maxRecDepth 100000 in
theorem enc_calls (c a b : Int) (n s : ByteArray) (A : List Addr) (G : GS) (w : World) (hgl : GlobR ⟨{ a := A }, fun _ => 0, 0, G⟩ gl7) (hT : Tens G) (hG : GHeap G w) :
    Calls Tryz.prog 12 #[.agg #[.int .i64 c, .string n, .string s, .int .i64 a, .int .i64 b]] w fun e w' => (∃ v, e = .returned v ∧ v = encV c a b n s) ∧ Below w.heap.size w w' := by
  refine calls_post (C := C7i) C7iok enc_tree (ρ := { i := [c, a, b], s := [n, s], a := A }) (G := G) (vs := [.agg #[.int .i64 c, .string n, .string s, .int .i64 a, .int .i64 b]])
    ⟨rfl, rfl, rfl, rfl, by simp⟩ (by intro c v h; simp at h) (gl7_any hgl) hG ?_ (enc_sat c a b n s A G hT)
  refine DV.iss_cons (fun k' hle => ?_) DV.iss_nil
  obtain ⟨t, ht⟩ := hle.ρ.i
  obtain ⟨u, hu⟩ := hle.ρ.s
  simp [DV.den, DV.dens, E.ii, E.ss, ← ht, ← hu]

def errN (c a b : Int) (n s : ByteArray) : Int := if okN c a b n s then 0 else 60
def txtN (c a b : Int) (n s : ByteArray) : ByteArray := if okN c a b n s then byN c a b n s else sOf []

theorem encV_eq (c a b : Int) (n s : ByteArray) : encV c a b n s = .tuple #[.string (txtN c a b n s), .int .i64 (errN c a b n s)] := by
  unfold encV txtN errN
  split <;> rfl

/-- A call of eid7.Encode. -/
theorem enc_step {ρ : Env} {G : GS} {e0 e1 e2 e3 e4 : E} {ct : Ctr} {S : Ext → GS → Prop} (hgl : GlobR ⟨{ a := ρ.a }, fun _ => 0, 0, G⟩ gl7) (hT : Tens G) (hci : ct.i = ρ.i.length) (hcs : ct.s = ρ.s.length)
    (h : ∀ G', GLe G G' → S { i := [errN (e0.ii ρ) (e3.ii ρ) (e4.ii ρ) (e1.ss ρ) (e2.ss ρ)], s := [txtN (e0.ii ρ) (e3.ii ρ) (e4.ii ρ) (e1.ss ρ) (e2.ss ρ)] } G') :
    ∃ R, CallOK Tryz.prog ρ G 12 [.agg [.int .i64 e0, .str e1, .str e2, .int .i64 e3, .int .i64 e4]] (.tup [.str, .int .i64]) ct R ∧ ∀ x G', Fits x ct ((Sh.tup [.str, .int .i64]).fresh ct).2 → GLe G G' → R x G' → S x G' := by
  refine ⟨fun x _ => x = { i := [errN (e0.ii ρ) (e3.ii ρ) (e4.ii ρ) (e1.ss ρ) (e2.ss ρ)], s := [txtN (e0.ii ρ) (e3.ii ρ) (e4.ii ρ) (e1.ss ρ) (e2.ss ρ)] }, callOK_of (V := fun v => v = encV (e0.ii ρ) (e3.ii ρ) (e4.ii ρ) (e1.ss ρ) (e2.ss ρ)) (fun β nx w hG => ?_) ?_, ?_⟩
  · exact enc_calls _ _ _ _ _ ρ.a G w hgl hT hG
  · rintro v rfl
    refine ⟨_, ⟨rfl, rfl, rfl, rfl, by simp⟩, rfl, fun β nx => ?_⟩
    rw [encV_eq]
    simp [Sh.fresh, Sh.freshL, DV.den, DV.dens, E.ii, E.ss, Env.app, hci, hcs]
  · rintro x G' _ hG rfl
    exact h G' hG

noncomputable def C7e : Cfg := { C7s with ctr := fun f _ => if f == 47 then some .str else if f == 12 then some (.tup [.str, .int .i64]) else none }
set_option maxRecDepth 100000 in
theorem C7eok : CfgOK C7e := ⟨C7sok.num, C7sok.prim, C7sok.op, C7sok.nodefer, C7sok.orders, C7sok.pure⟩

def TApart : Ts :=
  .ob (.o2 .and (.o2 .le (.lit 0) (.o2 .imin (.o1 .len (.sv 0)) (.lit 21))) (.o2 .le (.o2 .imin (.o1 .len (.sv 0)) (.lit 21)) (.o1 .len (.sv 0)))) (.ob (.o2 .and (.o2 .le (.lit 0)
  (.o2 .imin (.o1 .len (.sv 1)) (.lit 21))) (.o2 .le (.o2 .imin (.o1 .len (.sv 1)) (.lit 21)) (.o1 .len (.sv 1)))) (.ob (.o2 .and (.o2 .le (.lit 0) (.o2 .imin (.o1 .len (.sv 2))
  (.lit 21))) (.o2 .le (.o2 .imin (.o1 .len (.sv 2)) (.lit 21)) (.o1 .len (.sv 2)))) (.ob (.o2 .and (.o2 .le (.lit 0) (.o2 .imin (.o1 .len (.sv 3)) (.lit 21))) (.o2 .le (.o2 .imin
  (.o1 .len (.sv 3)) (.lit 21)) (.o1 .len (.sv 3)))) (.call 12 [.agg [.int .i64 (.iv 0), .str (.o3 (O3.sub3) (.sv 0) (.lit 0) (.o2 .imin (.o1 .len (.sv 0)) (.lit 21))), .str (.o3
  (O3.sub3) (.sv 1) (.lit 0) (.o2 .imin (.o1 .len (.sv 1)) (.lit 21))), .int .i64 (.iv 1), .int .i64 (.iv 2)]] (.tup [.str, .int .i64]) { i := 6, b := 0, s := 4, a := 0, v := 0 }
  (.call 12 [.agg [.int .i64 (.iv 3), .str (.o3 (O3.sub3) (.sv 2) (.lit 0) (.o2 .imin (.o1 .len (.sv 2)) (.lit 21))), .str (.o3 (O3.sub3) (.sv 3) (.lit 0) (.o2 .imin (.o1 .len (.sv
  3)) (.lit 21))), .int .i64 (.iv 4), .int .i64 (.iv 5)]] (.tup [.str, .int .i64]) { i := 7, b := 0, s := 5, a := 0, v := 0 } (.br (.o2 .or (.o1 .not (.o2 .eqi (.iv 6) (.lit 0)))
  (.o1 .not (.o2 .eqi (.iv 7) (.lit 0)))) (.val (.bool (.o2 .and (.o2 .or (.o2 .eqi (.iv 6) (.lit 0)) (.o2 .eqs (.sv 4) (.sl []))) (.o2 .or (.o2 .eqi (.iv 7) (.lit 0)) (.o2 .eqs (.sv
  5) (.sl []))))) []) (.br (.o2 .le (.o1 .len (.sv 4)) (.o1 .len (.sv 5))) (.val (.bool (.o2 .eqb (.o2 .eqs (.o3 (O3.sub3) (.sv 5) (.lit 0) (.o1 .len (.sv 4))) (.sv 4)) (.o2 .and
  (.o2 .eqi (.iv 0) (.iv 3)) (.o2 .and (.o2 .eqs (.o3 (O3.sub3) (.sv 0) (.lit 0) (.o2 .imin (.o1 .len (.sv 0)) (.lit 21))) (.o3 (O3.sub3) (.sv 2) (.lit 0) (.o2 .imin (.o1 .len (.sv
  2)) (.lit 21)))) (.o2 .and (.o2 .eqs (.o3 (O3.sub3) (.sv 1) (.lit 0) (.o2 .imin (.o1 .len (.sv 1)) (.lit 21))) (.o3 (O3.sub3) (.sv 3) (.lit 0) (.o2 .imin (.o1 .len (.sv 3)) (.lit
  21)))) (.o2 .and (.o2 .eqi (.iv 1) (.iv 4)) (.o2 .eqi (.iv 2) (.iv 5)))))))) []) (.val (.bool (.o2 .eqb (.bl false) (.o2 .and (.o2 .eqi (.iv 0) (.iv 3)) (.o2 .and (.o2 .eqs (.o3
  (O3.sub3) (.sv 0) (.lit 0) (.o2 .imin (.o1 .len (.sv 0)) (.lit 21))) (.o3 (O3.sub3) (.sv 2) (.lit 0) (.o2 .imin (.o1 .len (.sv 2)) (.lit 21)))) (.o2 .and (.o2 .eqs (.o3 (O3.sub3)
  (.sv 1) (.lit 0) (.o2 .imin (.o1 .len (.sv 1)) (.lit 21))) (.o3 (O3.sub3) (.sv 3) (.lit 0) (.o2 .imin (.o1 .len (.sv 3)) (.lit 21)))) (.o2 .and (.o2 .eqi (.iv 1) (.iv 4)) (.o2 .eqi
  (.iv 2) (.iv 5)))))))) []))))))))

theorem apart_tree : (ev C7e 3000 (.enter 4 [.agg [.int .i64 (.iv 0), .str (.sv 0), .str (.sv 1), .int .i64 (.iv 1), .int .i64 (.iv 2)], .agg [.int .i64 (.iv 3), .str (.sv 2), .str (.sv 3), .int .i64 (.iv 4), .int .i64 (.iv 5)]]) (init { i := 6, s := 4 })).slim false = TApart := by kernel_rfl

theorem glLe {A : List Addr} {G G' : GS} (h : GlobR ⟨{ a := A }, fun _ => 0, 0, G⟩ gl7) (hle : GLe G G') : GlobR ⟨{ a := A }, fun _ => 0, 0, G'⟩ gl7 :=
  h.mono ⟨Env.le.refl _, Nat.le_refl _, fun _ _ => rfl, hle⟩
end Go.Sx
