/- Chapter 12: are two lists of numbers the same? -/
import Derived.Test.YtcljcgapkojgnaaGreatDoorUc
set_option linter.unusedSimpArgs false
set_option linter.unusedVariables false
namespace Go.Sx
open Go.Proofs Go.RowKit

noncomputable def C12c : Cfg := { C12 with cut := fun f _ => if f == 16 then some { tmps := [(5, .int .i64)] } else none }
set_option maxRecDepth 100000 in
theorem C12cok : CfgOK C12c := ⟨C12ok.num, C12ok.prim, C12ok.op, C12ok.nodefer, C12ok.orders, C12ok.pure, C12ok.make⟩
def TInts : Ts :=
  .ob (.vv (OV.isSl) 0) (.ob (.vv (OV.isSl) 1) (.br (.o1 .not (.o2 .eqi (.vv (OV.slen) 0) (.vv (OV.slen) 1))) (.val (.bool (.bl false)) []) (.loop [.int .i64] [.int .i64 (.lit 0)]
  { i := 0, b := 0, s := 0, a := 0, v := 2 } (.br (.o2 .lt (.iv 0) (.vv (OV.slen) 0)) (.ob (.vv (OV.isSome) 0) (.ob (.o2 .and (.o2 .le (.lit 0) (.iv 0)) (.o2 .lt (.iv 0) (.vv
  (OV.slen) 0))) (.load { base := Base.rv 0, off := .o2 .add (.lit 0) (.o2 .mul (.iv 0) (.lit 1)) } (.int .i64) { i := 1, b := 0, s := 0, a := 0, v := 2 } (.ob (.vv (OV.isSome) 1)
  (.ob (.o2 .and (.o2 .le (.lit 0) (.iv 0)) (.o2 .lt (.iv 0) (.vv (OV.slen) 1))) (.load { base := Base.rv 1, off := .o2 .add (.lit 0) (.o2 .mul (.iv 0) (.lit 1)) } (.int .i64)
  { i := 2, b := 0, s := 0, a := 0, v := 2 } (.br (.o1 .not (.o2 .eqi (.iv 1) (.iv 2))) (.val (.bool (.bl false)) []) (.back 0 [.int .i64 (.o1 (.wrap .i64) (.o2 .add (.iv 0) (.lit
  1)))])))))))) (.val (.bool (.bl true)) [])))))
theorem ints_tree : (ev C12c 3000 (.enter 16 [.raw 0, .raw 1]) (init { v := 2 })).slim false = TInts := by kernel_rfl

def posOf : List Value → Nat
  | [.int _ n] => n.toNat
  | _ => 0

theorem ints_vals {v : Value} {G : GS} {L : List Int} (h : IsInts v G L) : ovI v .slen = L.length ∧ ovB v .isSl = true ∧ (L ≠ [] → ovB v .isSome = true) := by
  obtain ⟨ad, cap, rfl, _, h3⟩ := h
  refine ⟨rfl, rfl, fun hne => ?_⟩
  rcases h3 with h3 | ⟨a, rfl, _⟩
  · exact absurd h3 hne
  · rfl

theorem ints_load {v : Value} {G : GS} {L : List Int} (h : IsInts v G L) {n : Nat} (hn : n < L.length) {k : K} {j : Nat} (hj : k.ρ.v[j]? = some v) {e : E} (he : e.ii k.ρ = n) :
    ∃ a, (Ref.mk (.rv j) e).den k = some a ∧ GCells G a [.int .i64 L[n]] := by
  obtain ⟨ad, cap, rfl, _, h3⟩ := h
  rcases h3 with h3 | ⟨a, rfl, hc⟩
  · subst h3; simp at hn
  · obtain ⟨c0, e0, fr0, _, _, hsp0⟩ := hc 0 (.int .i64 L[0]) (by rw [List.getElem?_map, List.getElem?_eq_getElem (by omega)]; rfl)
    have hz : a.add 0 = a := by simp [Addr.add]
    rw [hz] at hsp0
    obtain ⟨b, o, sp⟩ := a
    simp only at hsp0
    subst hsp0
    refine ⟨⟨b, o + n, none⟩, by simp [Ref.den, Base.den, hj, he, add_plain], fun i u hu => ?_⟩
    cases i with
    | zero =>
      simp only [List.getElem?_cons_zero, Option.some.injEq] at hu
      subst hu
      obtain ⟨c, e', fr, h5, h6, h7⟩ := hc n (.int .i64 L[n]) (by rw [List.getElem?_map, List.getElem?_eq_getElem hn]; rfl)
      rw [add_plain] at h5 h6
      exact ⟨c, e', fr, by rw [add_plain]; exact h5, by rw [add_plain]; exact h6, by rw [add_plain]⟩
    | succ i => simp at hu

theorem take_next {L M : List Int} {n : Nat} (h : L.take n = M.take n) (h1 : n < L.length) (h2 : n < M.length) (he : L[n] = M[n]) : L.take (n + 1) = M.take (n + 1) := by
  rw [List.take_succ_eq_append_getElem h1, List.take_succ_eq_append_getElem h2, h, he]

theorem one_int {x : Ext} {c c' : Ctr} (h : Fits x c c') (hi : c'.i = c.i + 1) (hb : c'.b = c.b) (hs : c'.s = c.s) (hv : c'.v = c.v) : ∃ m, x = { i := [m] } := by
  obtain ⟨xi, xb, xs, xv⟩ := x
  have h1 := h.i; have h2 := h.b; have h3 := h.s; have h4 := h.v
  simp only at h1 h2 h3 h4
  have e1 : xi.length = 1 := by omega
  have e2 : xb = [] := List.eq_nil_of_length_eq_zero (by omega)
  have e3 : xs = [] := List.eq_nil_of_length_eq_zero (by omega)
  have e4 : xv = [] := List.eq_nil_of_length_eq_zero (by omega)
  subst e2; subst e3; subst e4
  match xi, e1 with
  | [m], _ => exact ⟨m, rfl⟩

theorem ints_sat (v u : Value) (L M : List Int) (A : List Addr) (G : GS) (hv : IsInts v G L) (hu : IsInts u G M) (h22 : L.length ≤ 22) :
    TInts.sat Tryz.prog (fun ρ G d _ => ∀ β nx, (fun r => r = .bool (decide (L = M))) (d.den ⟨ρ, β, nx, G⟩)) { v := [v, u], a := A } G := by
  obtain ⟨v1, v2, v3⟩ := ints_vals hv
  obtain ⟨u1, u2, u3⟩ := ints_vals hu
  unfold TInts
  simp only [Ts.satB]
  refine ⟨by simpa [E.bb] using v2, by simpa [E.bb] using u2, fun h0 => ?_, fun h0 => ?_⟩
  · intro β nx
    simp [E.bb, E.ii, v1, u1] at h0
    have : L ≠ M := fun e => h0 (by rw [e])
    simp [DV.den, E.bb, this]
  · have hlen : L.length = M.length := by
      simp [E.bb, E.ii, v1, u1] at h0
      exact Int.ofNat.inj h0
    refine ⟨fun vals _ => ∃ n : Nat, vals = [.int .i64 n] ∧ n ≤ L.length ∧ L.take n = M.take n, fun vals => L.length - posOf vals, fun β nx => ⟨0, by simp [DV.dens, DV.den, E.ii], by omega, by simp⟩, ?_⟩
    intro x G' hfit hG hI
    obtain ⟨m, rfl⟩ := one_int hfit rfl rfl rfl rfl
    obtain ⟨n, hn, hle, htk⟩ := hI (fun _ => 0) 0
    simp [Sh.freshL, Sh.fresh, DV.dens, DV.den, E.ii, Env.app] at hn
    subst hn
    have hlt : (E.o2 .lt (.iv 0) (.vv .slen 0)).bb (Env.app { v := [v, u], a := A } { i := [(n : Int)] }) = decide (n < L.length) := by
      simp [E.bb, E.ii, Env.app, v1]
    rw [hlt]
    refine ⟨fun h1 => ?_, fun h1 => ?_⟩
    · have h1 := of_decide_eq_true h1
      have hne : L ≠ [] := fun e => by subst e; simp at h1
      have hne2 : M ≠ [] := fun e => hne (List.eq_nil_of_length_eq_zero (by rw [hlen, e]; rfl))
      refine ⟨by simpa [E.bb, Env.app] using v3 hne, ?_, { i := [L[n]] }, ⟨rfl, rfl, rfl, rfl, by simp⟩, fun β nx => ?_, by simpa [E.bb, Env.app] using u3 hne2, ?_, { i := [M[n]] }, ⟨rfl, rfl, rfl, rfl, by simp⟩, fun β nx => ?_, fun h2 => ?_, fun h2 => ?_⟩
      · simp [E.bb, E.ii, Env.app, v1, h1]
      · have := ints_load (hv.le hG) h1 (k := ⟨Env.app { v := [v, u], a := A } { i := [(n : Int)] }, β, nx, G'⟩) (j := 0) rfl (e := .o2 .add (.lit 0) (.o2 .mul (.iv 0) (.lit 1))) (by simp [E.ii, Env.app])
        simpa [Sh.fresh, DV.den, E.ii, Env.app, Value.cells] using this
      · simp [E.bb, E.ii, Env.app, u1]; omega
      · have := ints_load (hu.le hG) (n := n) (by omega) (k := ⟨Env.app (Env.app { v := [v, u], a := A } { i := [(n : Int)] }) { i := [L[n]] }, β, nx, G'⟩) (j := 1) rfl (e := .o2 .add (.lit 0) (.o2 .mul (.iv 0) (.lit 1))) (by simp [E.ii, Env.app])
        simpa [Sh.fresh, DV.den, E.ii, Env.app, Value.cells] using this
      · intro β nx
        simp [E.bb, E.ii, Env.app] at h2
        have : L ≠ M := fun e => by subst e; exact h2 rfl
        simp [DV.den, E.bb, this]
      · simp [E.bb, E.ii, Env.app] at h2
        simp only [List.getElem?_cons_zero]
        intro β nx
        have hw : IntKind.i64.wrap ((n : Int) + 1) = ((n + 1 : Nat) : Int) := by rw [IntKind.wrap_i64]; omega
        refine ⟨⟨n + 1, ?_, by omega, take_next htk h1 (by omega) h2⟩, ?_⟩
        · simp [DV.dens, DV.den, E.ii, Env.app, hw]
        · simp [Sh.freshL, Sh.fresh, DV.dens, DV.den, E.ii, posOf, Env.app, hw]
          omega
    · have h1 := of_decide_eq_false h1
      intro β nx
      have hnl : n = L.length := by omega
      subst hnl
      rw [List.take_length, hlen, List.take_length] at htk
      simp [DV.den, E.bb, htk]

set_option maxRecDepth 100000 in
theorem ints_calls (v u : Value) (L M : List Int) (A : List Addr) (G : GS) (w : World) (hv : IsInts v G L) (hu : IsInts u G M) (h22 : L.length ≤ 22) (hgl : GlobR ⟨{ a := A }, fun _ => 0, 0, G⟩ gl12) (hG : GHeap G w) :
    Calls Tryz.prog 16 #[v, u] w fun e w' => (∃ r, e = .returned r ∧ r = .bool (decide (L = M))) ∧ Below w.heap.size w w' := by
  refine calls_post (C := C12c) C12cok ints_tree (ρ := { v := [v, u], a := A }) (G := G) (vs := [v, u])
    ⟨rfl, rfl, rfl, rfl, by simpa using ⟨ints_one hv, ints_one hu⟩⟩ (by intro c v h; simp at h) (gl12_any hgl) hG ?_ (ints_sat v u L M A G hv hu h22)
  refine DV.iss_cons (fun k' hle => ?_) (DV.iss_cons (fun k' hle => ?_) DV.iss_nil)
  · obtain ⟨t, ht⟩ := hle.ρ.v; simp [DV.den, ← ht]
  · obtain ⟨t, ht⟩ := hle.ρ.v; simp [DV.den, ← ht]

theorem ints_step {ρ : Env} {G : GS} {i j : Nat} {v u : Value} {L M : List Int} {ct : Ctr} {S : Ext → GS → Prop} (hgl : GlobR ⟨{ a := ρ.a }, fun _ => 0, 0, G⟩ gl12) (hi : ρ.v[i]? = some v) (hj : ρ.v[j]? = some u) (hv : IsInts v G L) (hu : IsInts u G M) (h22 : L.length ≤ 22)
    (hcb : ct.b = ρ.b.length) (h : ∀ G', GLe G G' → S { b := [decide (L = M)] } G') :
    ∃ R, CallOK Tryz.prog ρ G 16 [.raw i, .raw j] .bool ct R ∧ ∀ x G', Fits x ct (Sh.bool.fresh ct).2 → GLe G G' → R x G' → S x G' := by
  refine ⟨fun x _ => x = { b := [decide (L = M)] }, callOK_of (V := fun r => r = .bool (decide (L = M))) (fun β nx w hG => ?_) ?_, ?_⟩
  · have hargs : (DV.dens ⟨ρ, β, nx, G⟩ [.raw i, .raw j]).toArray = #[v, u] := by simp [DV.dens, DV.den, List.getD_eq_getElem?_getD, hi, hj]
    rw [hargs]
    exact ints_calls v u L M ρ.a G w hv hu h22 hgl hG
  · rintro r rfl
    refine ⟨_, ⟨rfl, rfl, rfl, rfl, by simp⟩, rfl, fun β nx => ?_⟩
    simp [Sh.fresh, DV.den, E.bb, Env.app, hcb]
  · rintro x G' _ hG rfl
    exact h G' hG
end Go.Sx
