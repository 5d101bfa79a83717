/- Chapter 12: what Pdu and Acks answer. -/
import Derived.Test.YtcljcgapkojgnaaGreatDoorUm
import Derived.Test.YtcljcgapkojgnaaGreatDoorUc
import Derived.Test.YtcljcgapkojgnaaGreatDoorSm
import Derived.Test.YtcljcgapkojgnaaGreatDoorUna
import Derived.Test.YtcljcgapkojgnaaGreatDoorUnb
import Derived.Test.YtcljcgapkojgnaaGreatDoorUnc
import Derived.Test.YtcljcgapkojgnaaGreatDoorUnd
import Derived.Test.YtcljcgapkojgnaaGreatDoorUne
import Derived.Test.YtcljcgapkojgnaaGreatDoorUnf
set_option linter.unusedSimpArgs false
set_option linter.unusedVariables false
namespace Go.Sx
open Go.Proofs Go.RowKit

/-- A call's value, where cells are known at its start. -/
theorem calls_postM {C : Cfg} (hC : CfgOK C) {n : Nat} {g : FuncId} {args : List DV} {ct : Ctr} {pc : List (E × Bool)} {memo : List (TypeId × Ref × DV)} {T : Ts}
    (hT : (ev C n (.enter g args) (init ct pc memo)).slim false = T) {ρ : Env} {G : GS} {w : World} {vs : List Value} {V : Value → Prop}
    (hct : CtR ⟨ρ, fun _ => 0, 0, G⟩ ct) (hpc : PcR ⟨ρ, fun _ => 0, 0, G⟩ pc) (hmemo : MemoR ⟨ρ, fun _ => 0, 0, G⟩ memo) (hgl : GlobR ⟨ρ, fun _ => 0, 0, G⟩ C.gl) (hG : GHeap G w) (hvs : DV.iss ⟨ρ, fun _ => 0, 0, G⟩ args vs)
    (hs : T.sat C.P (fun ρ G d _ => ∀ β nx, V (d.den ⟨ρ, β, nx, G⟩)) ρ G) :
    Calls C.P g vs.toArray w fun e w' => (∃ v, e = .returned v ∧ V v) ∧ Below w.heap.size w w' := by
  refine (calls_slimM hC hT hct hpc hmemo hgl hG hvs hs).mono ?_
  rintro e w' ⟨u, k, d, s, rfl, hle, hh, _, _, hd, hq⟩
  refine ⟨⟨u, rfl, ?_⟩, hh.frame⟩
  rw [← hd.here]
  exact hq k.β k.nx

/-! ### Pdu -/
noncomputable def pduRun : Ts := (ev C12 3000 (.enter 6 [.agg [.int .i64 (.iv 0), .int .i64 (.iv 1), .str (.sv 0)]]) (init { i := 2, s := 1 })).slim false
def headO (i : Nat) : E := .o2 .app (.o2 .headE (.lit 0) (.o2 .imax (.o2 .imax (.iv i) (.lit 0)) (.lit 0))) (.sl [])
def SmP : Sm :=
  .br (.o1 .not (.o1 .not (.o2 .and (.o2 .le (.lit 0) (.iv 0)) (.o2 .le (.iv 0) (.lit 281474976710655)))))
    (.br (.o2 .or (.o2 .or (.o1 .not (.o2 .and (.o2 .le (.lit 0) (.iv 1)) (.o2 .le (.iv 1) (.lit 281474976710655)))) (.o2 .eqs (.sv 0) (.sl []))) (.o2 .lt (.lit 560) (.o1 .len (.sv 0))))
      (.val (.tup [.str (.sl []), .int .i64 (.lit 120)]))
      (.br (.o1 .not (.o2 .le (.o1 .len (.sv 0)) (.lit 600)))
        (.val (.tup [.str (.sl []), .int .i64 (.lit 40)]))
        (.val (.tup [.str (.o2 .app (.o2 .app (.o2 .app (.sl [130, 3, 131]) (headO 0)) (headO 1)) (.o2 .app (.o2 .headE (.lit 2) (.o2 .imax (.o2 .imax (.lit 0) (.o1 .len (.sv 0))) (.lit 0))) (.sv 0))), .int .i64 (.lit 0)]))))
    (.val (.tup [.str (.sl []), .int .i64 (.lit 120)]))
theorem pdu_tree : pduRun.strip2 { i := 2, s := 1 } [] = SmP := by kernel_rfl

def pduV (i d : Int) (s : ByteArray) : Value := if okP i d s then .tuple #[.string ⟨(byP i d s).toArray⟩, .int .i64 0] else .tuple #[.string (sOf []), .int .i64 120]
theorem pduV_bad {i d : Int} {s : ByteArray} (h : okP i d s = false) : Value.tuple #[.string (sOf []), .int .i64 120] = pduV i d s := by unfold pduV; rw [h]; rfl
theorem pduV_good {i d : Int} {s t : ByteArray} (h : okP i d s = true) (ht : t.data.toList = byP i d s) : Value.tuple #[.string t, .int .i64 0] = pduV i d s := by
  unfold pduV
  rw [if_pos h]
  have : t = ⟨(byP i d s).toArray⟩ := bs_inj (by simpa using ht)
  rw [this]

theorem eqs_nil (s : ByteArray) : (s.toList == (sOf []).toList) = decide (s.size = 0) := by
  rw [ByteArray.toList_eq, sOf_toList, ← bs_len]
  cases s.data.toList <;> simp
theorem headI_2' {x : Int} {m : Nat} (h : x = m) : headI 2 x = headL 2 m := by subst h; simp [headI]

theorem pdu_sat (i d : Int) (s : ByteArray) (A : List Addr) : SmP.sat (fun x => x.den ⟨{ i := [i, d], s := [s], a := A }, fun _ => 0, 0, fun _ => none⟩ = pduV i d s) { i := [i, d], s := [s], a := A } := by
  simp only [SmP, headO, Sm.sat]
  refine ⟨fun h0 => ⟨fun h1 => ?_, fun h1 => ⟨fun h2 => ?_, fun h2 => ?_⟩⟩, fun h0 => ?_⟩
  · simp [E.bb, E.ii, E.ss, eqs_nil] at h0 h1
    refine pduV_bad ?_
    simp only [okP]
    simp
    grind
  · exfalso
    simp [E.bb, E.ii, E.ss, eqs_nil] at h0 h1 h2
    omega
  · simp [E.bb, E.ii, E.ss, eqs_nil] at h0 h1 h2
    have hok : okP i d s = true := by
      simp only [okP]
      simp
      grind
    refine pduV_good hok ?_
    simp only [E.ss, E.ii, bs_app, bs_sOf, List.getD_cons_zero, List.getD_cons_succ, byP, hb]
    rw [headI_0' (m := i.toNat) (by split <;> (try split) <;> omega), headI_0' (m := d.toNat) (by split <;> (try split) <;> omega), headI_2' (m := s.size) (by split <;> (try split) <;> omega)]
    simp
  · simp [E.bb, E.ii, E.ss, eqs_nil] at h0
    refine pduV_bad ?_
    simp only [okP]
    simp
    grind

set_option maxRecDepth 100000 in
theorem pdu_calls (i d : Int) (s : ByteArray) (A : List Addr) (G : GS) (w : World) (hgl : GlobR ⟨{ a := A }, fun _ => 0, 0, G⟩ gl12) (hG : GHeap G w) :
    Calls Tryz.prog 6 #[.agg #[.int .i64 i, .int .i64 d, .string s]] w fun e w' => (∃ v, e = .returned v ∧ v = pduV i d s) ∧ Below w.heap.size w w' := by
  refine calls_postM (C := C12) C12ok (T := pduRun) (memo := []) rfl (ρ := { i := [i, d], s := [s], a := A }) (G := G) (vs := [.agg #[.int .i64 i, .int .i64 d, .string s]])
    ⟨rfl, rfl, rfl, rfl, by simp⟩ (by intro c v h; simp at h) (by intro t r d h; simp at h) (gl12_any hgl) hG ?_ ?_
  · refine DV.iss_cons (fun k' hle => ?_) DV.iss_nil
    obtain ⟨t, ht⟩ := hle.ρ.i
    obtain ⟨u, hu⟩ := hle.ρ.s
    simp [DV.den, DV.dens, E.ii, E.ss, ← ht, ← hu]
  · refine strip2_sat (c0 := { i := 2, s := 1 }) (ρ := { i := [i, d], s := [s], a := A }) (V := fun v => v = pduV i d s) ⟨rfl, rfl, rfl, rfl, by simp⟩ pduRun [] [] _ G (Env.le.refl _) (by intro c b h; simp at h) ?_
    rw [pdu_tree]
    exact pdu_sat i d s A

/-! ### Acks -/
theorem acks_tree : ∀ k, k < 23 → (acksRun k).strip { i := k + 1, v := 1 } (pcA k) = SmA k
  | 0, _ => acks_tree0
  | 1, _ => acks_tree1
  | 2, _ => acks_tree2
  | 3, _ => acks_tree3
  | 4, _ => acks_tree4
  | 5, _ => acks_tree5
  | 6, _ => acks_tree6
  | 7, _ => acks_tree7
  | 8, _ => acks_tree8
  | 9, _ => acks_tree9
  | 10, _ => acks_tree10
  | 11, _ => acks_tree11
  | 12, _ => acks_tree12
  | 13, _ => acks_tree13
  | 14, _ => acks_tree14
  | 15, _ => acks_tree15
  | 16, _ => acks_tree16
  | 17, _ => acks_tree17
  | 18, _ => acks_tree18
  | 19, _ => acks_tree19
  | 20, _ => acks_tree20
  | 21, _ => acks_tree21
  | 22, _ => acks_tree22
  | n + 23, h => by omega

set_option maxRecDepth 100000 in
theorem acks_calls (r : Int) (v : Value) (L : List Int) (A : List Addr) (G : GS) (w : World) (h22 : L.length ≤ 22) (hv : IsInts v G L) (hgl : GlobR ⟨{ a := A }, fun _ => 0, 0, G⟩ gl12) (hG : GHeap G w) :
    Calls Tryz.prog 7 #[.agg #[.int .i64 r, v]] w fun e w' => (∃ u, e = .returned u ∧ u = acksV r L) ∧ Below w.heap.size w w' := by
  have hj : ∀ k' : K, K.le ⟨{ i := L ++ [r], v := [v], a := A }, fun _ => 0, 0, G⟩ k' → k'.ρ.v[0]? = some v := fun k' hle => by
    obtain ⟨t, ht⟩ := hle.ρ.v; rw [← ht]; rfl
  refine calls_postM (C := C12) C12ok (T := acksRun L.length) (memo := rowM 0 L.length 0) rfl (ρ := { i := L ++ [r], v := [v], a := A }) (G := G) (vs := [.agg #[.int .i64 r, v]])
    ⟨by simp, rfl, rfl, rfl, by simpa using ints_one hv⟩ (ints_cap (k := ⟨{ i := L ++ [r], v := [v], a := A }, fun _ => 0, 0, G⟩) hv hj) (ints_memo (pre := []) (k := ⟨{ i := L ++ [r], v := [v], a := A }, fun _ => 0, 0, G⟩) rfl hv hj ⟨[r], by simp⟩)
    (gl12_any hgl) hG ?_ ?_
  · refine DV.iss_cons (fun k' hle => ?_) DV.iss_nil
    have h1 := ints_slc (k := ⟨{ i := L ++ [r], v := [v], a := A }, fun _ => 0, 0, G⟩) hv ⟨_, rfl⟩ hj k' hle
    obtain ⟨t, ht⟩ := hle.ρ.i
    simp only [DV.den, DV.dens, h1, E.ii]
    have h2 : k'.ρ.i.getD L.length 0 = r := by
      rw [← ht, List.getD_eq_getElem?_getD, List.getElem?_append_left (by simp)]
      simp
    rw [h2]
  · refine strip_sat (c0 := { i := L.length + 1, v := 1 }) (ρ := { i := L ++ [r], v := [v], a := A }) (V := fun u => u = acksV r L) ⟨by simp, rfl, rfl, rfl, by simpa using ints_one hv⟩ (acksRun L.length) (pcA L.length) [] _ G (Env.le.refl _) ?_ ?_
    · intro c b hm
      unfold pcA at hm
      split at hm
      · cases hm
      · rename_i h0
        simp only [List.mem_singleton, Prod.mk.injEq] at hm
        obtain ⟨rfl, rfl⟩ := hm
        refine ⟨rfl, ?_⟩
        obtain ⟨ad, cap, rfl, _, h3⟩ := hv
        rcases h3 with rfl | ⟨a, rfl, _⟩
        · simp at h0
        · rfl
    · rw [acks_tree L.length (by omega)]
      exact SmA_sat rfl

/-! ### As contracts -/
def codeP (i d : Int) (s : ByteArray) : Int := if okP i d s then 0 else 120
def textP (i d : Int) (s : ByteArray) : ByteArray := if okP i d s then ⟨(byP i d s).toArray⟩ else sOf []
theorem pduV_eq (i d : Int) (s : ByteArray) : pduV i d s = .tuple #[.string (textP i d s), .int .i64 (codeP i d s)] := by
  unfold pduV textP codeP; split <;> rfl
def codeA (r : Int) (L : List Int) : Int := if okA r L then 0 else 120
def textA (r : Int) (L : List Int) : ByteArray := if okA r L then ⟨(byA r L).toArray⟩ else sOf []
theorem acksV_eq (r : Int) (L : List Int) : acksV r L = .tuple #[.string (textA r L), .int .i64 (codeA r L)] := by
  unfold acksV textA codeA; split <;> rfl

theorem pdu_step {ρ : Env} {G : GS} {e0 e1 e2 : E} {ct : Ctr} {S : Ext → GS → Prop} (hgl : GlobR ⟨{ a := ρ.a }, fun _ => 0, 0, G⟩ gl12) (hci : ct.i = ρ.i.length) (hcs : ct.s = ρ.s.length)
    (h : ∀ G', GLe G G' → S { i := [codeP (e0.ii ρ) (e1.ii ρ) (e2.ss ρ)], s := [textP (e0.ii ρ) (e1.ii ρ) (e2.ss ρ)] } G') :
    ∃ R, CallOK Tryz.prog ρ G 6 [.agg [.int .i64 e0, .int .i64 e1, .str e2]] (.tup [.str, .int .i64]) ct R ∧ ∀ x G', Fits x ct ((Sh.tup [.str, .int .i64]).fresh ct).2 → GLe G G' → R x G' → S x G' := by
  refine ⟨fun x _ => x = { i := [codeP (e0.ii ρ) (e1.ii ρ) (e2.ss ρ)], s := [textP (e0.ii ρ) (e1.ii ρ) (e2.ss ρ)] }, callOK_of (V := fun v => v = pduV (e0.ii ρ) (e1.ii ρ) (e2.ss ρ)) (fun β nx w hG => ?_) ?_, ?_⟩
  · exact pdu_calls _ _ _ ρ.a G w hgl hG
  · rintro v rfl
    refine ⟨_, ⟨rfl, rfl, rfl, rfl, by simp⟩, rfl, fun β nx => ?_⟩
    rw [pduV_eq]
    simp [Sh.fresh, Sh.freshL, DV.den, DV.dens, E.ii, E.ss, Env.app, hci, hcs]
  · rintro x G' _ hG rfl
    exact h G' hG

theorem acks_step {ρ : Env} {G : GS} {e0 : E} {j : Nat} {v : Value} {L : List Int} {ct : Ctr} {S : Ext → GS → Prop} (hgl : GlobR ⟨{ a := ρ.a }, fun _ => 0, 0, G⟩ gl12) (hj : ρ.v[j]? = some v) (hv : IsInts v G L) (h22 : L.length ≤ 22) (hci : ct.i = ρ.i.length) (hcs : ct.s = ρ.s.length)
    (h : ∀ G', GLe G G' → S { i := [codeA (e0.ii ρ) L], s := [textA (e0.ii ρ) L] } G') :
    ∃ R, CallOK Tryz.prog ρ G 7 [.agg [.int .i64 e0, .raw j]] (.tup [.str, .int .i64]) ct R ∧ ∀ x G', Fits x ct ((Sh.tup [.str, .int .i64]).fresh ct).2 → GLe G G' → R x G' → S x G' := by
  refine ⟨fun x _ => x = { i := [codeA (e0.ii ρ) L], s := [textA (e0.ii ρ) L] }, callOK_of (V := fun u => u = acksV (e0.ii ρ) L) (fun β nx w hG => ?_) ?_, ?_⟩
  · have hargs : (DV.dens ⟨ρ, β, nx, G⟩ [.agg [.int .i64 e0, .raw j]]).toArray = #[.agg #[.int .i64 (e0.ii ρ), v]] := by simp [DV.dens, DV.den, List.getD_eq_getElem?_getD, hj]
    rw [hargs]
    exact acks_calls _ v L ρ.a G w h22 hv hgl hG
  · rintro v rfl
    refine ⟨_, ⟨rfl, rfl, rfl, rfl, by simp⟩, rfl, fun β nx => ?_⟩
    rw [acksV_eq]
    simp [Sh.fresh, Sh.freshL, DV.den, DV.dens, E.ii, E.ss, Env.app, hci, hcs]
  · rintro x G' _ hG rfl
    exact h G' hG
end Go.Sx
