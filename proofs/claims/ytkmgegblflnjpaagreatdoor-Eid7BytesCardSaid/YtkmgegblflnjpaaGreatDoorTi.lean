/- Chapter 10: a name's bytes, as eid7.Encode answers. -/
import Derived.Test.YtkmgegblflnjpaaGreatDoorTg
import Derived.Test.YtkmgegblflnjpaaGreatDoorTc
set_option linter.unusedSimpArgs false
set_option linter.unusedVariables false
namespace Go.Sx
open Go.Proofs Go.RowKit

/-- With Itoa left to its contract. -/
noncomputable def C7i : Cfg := { C7 with ctr := fun f _ => if f == 47 then some .str else none }
set_option maxRecDepth 100000 in
theorem C7iok : CfgOK C7i := ⟨C7ok.num, C7ok.prim, C7ok.op, C7ok.nodefer, C7ok.orders, C7ok.pure⟩

def TEnc : Ts :=
  .br (.o2 .eqi (.iv 0) (.lit 0)) (.br (.o1 .not (.o2 .and (.o2 .eqi (.iv 0) (.lit 0)) (.o2 .and (.o2 .eqs (.sv 0) (.sl [])) (.o2 .and (.o2 .eqs (.sv 1) (.sl [])) (.o2 .and (.o2 .eqi
  (.iv 1) (.lit 0)) (.o2 .eqi (.iv 2) (.lit 0))))))) (.val (.tup [.str (.sl []), .int .i64 (.lit 60)]) []) (.any (.int .i64) (.o2 .and (.o2 .le (.lit 1) (.iv 3)) (.o2 .le (.iv 3)
  (.lit 9223372036854775807))) { i := 3, b := 0, s := 2, a := 0, v := 0 } (.any (.int .i64) (.o2 .and (.o2 .le (.lit 2) (.iv 4)) (.o2 .le (.iv 4) (.lit 9223372036854775807)))
  { i := 4, b := 0, s := 2, a := 0, v := 0 } (.any (.int .i64) (.o2 .and (.o2 .le (.lit 1) (.iv 5)) (.o2 .and (.o2 .le (.iv 5) (.lit 9223372036854775807)) (.o2 .le (.lit 1) (.iv
  5)))) { i := 5, b := 0, s := 2, a := 0, v := 0 } (.any (.int .i64) (.o2 .and (.o2 .le (.lit 1) (.iv 6)) (.o2 .le (.iv 6) (.lit 9223372036854775807)))
  { i := 6, b := 0, s := 2, a := 0, v := 0 } (.any (.int .i64) (.o2 .and (.o2 .le (.lit 2) (.iv 7)) (.o2 .le (.iv 7) (.lit 9223372036854775807)))
  { i := 7, b := 0, s := 2, a := 0, v := 0 } (.any (.int .i64) (.o2 .and (.o2 .le (.lit 2) (.iv 8)) (.o2 .and (.o2 .le (.iv 8) (.lit 9223372036854775807)) (.o2 .le (.lit 1) (.iv
  8)))) { i := 8, b := 0, s := 2, a := 0, v := 0 } (.any (.int .i64) (.o2 .and (.o2 .le (.lit 3) (.iv 9)) (.o2 .and (.o2 .le (.iv 9) (.lit 9223372036854775807)) (.o2 .le (.lit 1)
  (.iv 9)))) { i := 9, b := 0, s := 2, a := 0, v := 0 } (.val (.tup [.str (.sl [130, 1, 0]), .int .i64 (.lit 0)]) []))))))))) (.br (.o2 .eqi (.iv 0) (.lit 1)) (.br (.o1 .not (.o1
  .not (.o2 .eqs (.sv 0) (.sl [])))) (.val (.tup [.str (.sl []), .int .i64 (.lit 60)]) []) (.br (.o1 .not (.o2 .and (.o1 (.allr [(97, 122), (48, 57), (45, 45), (46, 46)]) (.sv 0))
  (.o2 .le (.o1 .len (.sv 0)) (.lit 20)))) (.val (.tup [.str (.sl []), .int .i64 (.lit 60)]) []) (.br (.o1 .not (.o2 .and (.o1 (.allr [(97, 122), (48, 57), (45, 45), (46, 46), (47,
  47)]) (.sv 1)) (.o2 .le (.o1 .len (.sv 1)) (.lit 20)))) (.val (.tup [.str (.sl []), .int .i64 (.lit 60)]) []) (.br (.o1 .not (.o2 .eqi (.iv 1) (.lit 0))) (.val (.tup [.str (.sl
  []), .int .i64 (.lit 60)]) []) (.br (.o1 .not (.o2 .eqi (.iv 2) (.lit 0))) (.val (.tup [.str (.sl []), .int .i64 (.lit 60)]) []) (.ob (.o2 .le (.o2 .add (.lit 2) (.o1 .len (.sv
  0))) (.lit 9223372036854775807)) (.ob (.o2 .le (.o2 .add (.o1 .len (.o2 .app (.sl [47, 47]) (.sv 0))) (.lit 1)) (.lit 9223372036854775807)) (.ob (.o2 .le (.o2 .add (.o1 .len (.o2
  .app (.o2 .app (.sl [47, 47]) (.sv 0)) (.sl [47]))) (.o1 .len (.sv 1))) (.lit 9223372036854775807)) (.any (.int .i64) (.o2 .and (.o2 .le (.lit 1) (.iv 3)) (.o2 .le (.iv 3) (.lit
  9223372036854775807))) { i := 3, b := 0, s := 2, a := 0, v := 0 } (.any (.int .i64) (.o2 .and (.o2 .le (.lit 2) (.iv 4)) (.o2 .le (.iv 4) (.lit 9223372036854775807)))
  { i := 4, b := 0, s := 2, a := 0, v := 0 } (.br (.o2 .le (.o1 .len (.o2 .app (.o2 .app (.o2 .app (.sl [47, 47]) (.sv 0)) (.sl [47])) (.sv 1))) (.lit 600)) (.br (.o1 .not (.o1
  (.allr [(32, 126)]) (.o2 .app (.o2 .app (.o2 .app (.sl [47, 47]) (.sv 0)) (.sl [47])) (.sv 1)))) (.val (.tup [.str (.sl []), .int .i64 (.lit 40)]) []) (.any (.int .i64) (.o2 .and
  (.o2 .le (.lit 1) (.iv 5)) (.o2 .and (.o2 .le (.iv 5) (.lit 9223372036854775807)) (.o2 .le (.lit 1) (.iv 5)))) { i := 5, b := 0, s := 2, a := 0, v := 0 } (.any (.int .i64) (.o2
  .and (.o2 .le (.lit 1) (.iv 6)) (.o2 .le (.iv 6) (.lit 9223372036854775807))) { i := 6, b := 0, s := 2, a := 0, v := 0 } (.any (.int .i64) (.o2 .and (.o2 .le (.lit 2) (.iv 7)) (.o2
  .le (.iv 7) (.lit 9223372036854775807))) { i := 7, b := 0, s := 2, a := 0, v := 0 } (.any (.int .i64) (.o2 .and (.o2 .le (.lit 2) (.iv 8)) (.o2 .and (.o2 .le (.iv 8) (.lit
  9223372036854775807)) (.o2 .le (.lit 1) (.iv 8)))) { i := 8, b := 0, s := 2, a := 0, v := 0 } (.ob (.o2 .le (.o2 .add (.o1 .len (.o2 .headE (.lit 3) (.o2 .imax (.o2 .imax (.lit 0)
  (.o1 .len (.o2 .app (.o2 .app (.o2 .app (.sl [47, 47]) (.sv 0)) (.sl [47])) (.sv 1)))) (.lit 0)))) (.o1 .len (.o2 .app (.o2 .app (.o2 .app (.sl [47, 47]) (.sv 0)) (.sl [47])) (.sv
  1)))) (.lit 9223372036854775807)) (.ob (.o2 .le (.o1 .len (.o2 .app (.sl [130, 1]) (.o2 .app (.o2 .headE (.lit 3) (.o2 .imax (.o2 .imax (.lit 0) (.o1 .len (.o2 .app (.o2 .app (.o2
  .app (.sl [47, 47]) (.sv 0)) (.sl [47])) (.sv 1)))) (.lit 0))) (.o2 .app (.o2 .app (.o2 .app (.sl [47, 47]) (.sv 0)) (.sl [47])) (.sv 1))))) (.lit 1000000)) (.any (.int .i64) (.o2
  .and (.o2 .le (.o1 .len (.o2 .app (.sl [130, 1]) (.o2 .app (.o2 .headE (.lit 3) (.o2 .imax (.o2 .imax (.lit 0) (.o1 .len (.o2 .app (.o2 .app (.o2 .app (.sl [47, 47]) (.sv 0)) (.sl
  [47])) (.sv 1)))) (.lit 0))) (.o2 .app (.o2 .app (.o2 .app (.sl [47, 47]) (.sv 0)) (.sl [47])) (.sv 1))))) (.iv 9)) (.o2 .and (.o2 .le (.iv 9) (.lit 9223372036854775807)) (.o2 .le
  (.lit 1) (.iv 9)))) { i := 9, b := 0, s := 2, a := 0, v := 0 } (.val (.tup [.str (.o2 .app (.sl [130, 1]) (.o2 .app (.o2 .headE (.lit 3) (.o2 .imax (.o2 .imax (.lit 0) (.o1 .len
  (.o2 .app (.o2 .app (.o2 .app (.sl [47, 47]) (.sv 0)) (.sl [47])) (.sv 1)))) (.lit 0))) (.o2 .app (.o2 .app (.o2 .app (.sl [47, 47]) (.sv 0)) (.sl [47])) (.sv 1)))), .int .i64
  (.lit 0)]) []))))))))) (.val (.tup [.str (.sl []), .int .i64 (.lit 40)]) [])))))))))))) (.br (.o2 .eqi (.iv 0) (.lit 2)) (.br (.o1 .not (.o2 .eqs (.sv 0) (.sl []))) (.val (.tup
  [.str (.sl []), .int .i64 (.lit 60)]) []) (.br (.o1 .not (.o2 .eqs (.sv 1) (.sl []))) (.val (.tup [.str (.sl []), .int .i64 (.lit 60)]) []) (.br (.o1 .not (.o2 .le (.lit 1) (.iv
  1))) (.val (.tup [.str (.sl []), .int .i64 (.lit 60)]) []) (.br (.o1 .not (.o2 .le (.iv 1) (.lit 999999999))) (.val (.tup [.str (.sl []), .int .i64 (.lit 60)]) []) (.br (.o1 .not
  (.o2 .le (.lit 0) (.iv 2))) (.val (.tup [.str (.sl []), .int .i64 (.lit 60)]) []) (.br (.o1 .not (.o2 .le (.iv 2) (.lit 999999999))) (.val (.tup [.str (.sl []), .int .i64 (.lit
  60)]) []) (.call 47 [.int .i64 (.iv 1)] .str { i := 3, b := 0, s := 2, a := 0, v := 0 } (.ob (.o2 .le (.o2 .add (.o1 .len (.sv 2)) (.lit 1)) (.lit 9223372036854775807)) (.call 47
  [.int .i64 (.iv 2)] .str { i := 3, b := 0, s := 3, a := 0, v := 0 } (.ob (.o2 .le (.o2 .add (.o1 .len (.o2 .app (.sv 2) (.sl [46]))) (.o1 .len (.sv 3))) (.lit 9223372036854775807))
  (.any (.int .i64) (.o2 .and (.o2 .le (.lit 1) (.iv 3)) (.o2 .le (.iv 3) (.lit 9223372036854775807))) { i := 3, b := 0, s := 4, a := 0, v := 0 } (.any (.int .i64) (.o2 .and (.o2 .le
  (.lit 2) (.iv 4)) (.o2 .le (.iv 4) (.lit 9223372036854775807))) { i := 4, b := 0, s := 4, a := 0, v := 0 } (.any (.int .i64) (.o2 .and (.o2 .le (.lit 1) (.iv 5)) (.o2 .le (.iv 5)
  (.lit 9223372036854775807))) { i := 5, b := 0, s := 4, a := 0, v := 0 } (.any (.int .i64) (.o2 .and (.o2 .le (.lit 2) (.iv 6)) (.o2 .le (.iv 6) (.lit 9223372036854775807)))
  { i := 6, b := 0, s := 4, a := 0, v := 0 } (.any (.int .i64) (.o2 .and (.o2 .le (.lit 1) (.iv 7)) (.o2 .and (.o2 .le (.iv 7) (.lit 9223372036854775807)) (.o2 .le (.lit 1) (.iv
  7)))) { i := 7, b := 0, s := 4, a := 0, v := 0 } (.any (.int .i64) (.o2 .and (.o2 .le (.lit 1) (.iv 8)) (.o2 .le (.iv 8) (.lit 9223372036854775807)))
  { i := 8, b := 0, s := 4, a := 0, v := 0 } (.any (.int .i64) (.o2 .and (.o2 .le (.lit 2) (.iv 9)) (.o2 .le (.iv 9) (.lit 9223372036854775807)))
  { i := 9, b := 0, s := 4, a := 0, v := 0 } (.any (.int .i64) (.o2 .and (.o2 .le (.lit 2) (.iv 10)) (.o2 .and (.o2 .le (.iv 10) (.lit 9223372036854775807)) (.o2 .le (.lit 1) (.iv
  10)))) { i := 10, b := 0, s := 4, a := 0, v := 0 } (.any (.int .i64) (.o2 .and (.o2 .le (.lit 3) (.iv 11)) (.o2 .and (.o2 .le (.iv 11) (.lit 9223372036854775807)) (.o2 .le (.lit 1)
  (.iv 11)))) { i := 11, b := 0, s := 4, a := 0, v := 0 } (.any (.int .i64) (.o2 .and (.o2 .le (.lit 1) (.iv 12)) (.o2 .le (.iv 12) (.lit 9223372036854775807)))
  { i := 12, b := 0, s := 4, a := 0, v := 0 } (.any (.int .i64) (.o2 .and (.o2 .le (.lit 2) (.iv 13)) (.o2 .le (.iv 13) (.lit 9223372036854775807)))
  { i := 13, b := 0, s := 4, a := 0, v := 0 } (.ob (.o2 .le (.o2 .add (.o1 .len (.o2 .headE (.lit 0) (.o2 .imax (.o2 .imax (.iv 1) (.lit 0)) (.lit 0)))) (.lit 0)) (.lit
  9223372036854775807)) (.ob (.o2 .le (.o1 .len (.o2 .app (.sl [130, 2, 130]) (.o2 .app (.o2 .headE (.lit 0) (.o2 .imax (.o2 .imax (.iv 1) (.lit 0)) (.lit 0))) (.sl [])))) (.lit
  1000000)) (.any (.int .i64) (.o2 .and (.o2 .le (.o1 .len (.o2 .app (.sl [130, 2, 130]) (.o2 .app (.o2 .headE (.lit 0) (.o2 .imax (.o2 .imax (.iv 1) (.lit 0)) (.lit 0))) (.sl []))))
  (.iv 14)) (.o2 .and (.o2 .le (.iv 14) (.lit 9223372036854775807)) (.o2 .le (.lit 1) (.iv 14)))) { i := 14, b := 0, s := 4, a := 0, v := 0 } (.ob (.o2 .le (.o2 .add (.o1 .len (.o2
  .headE (.lit 0) (.o2 .imax (.o2 .imax (.iv 2) (.lit 0)) (.lit 0)))) (.lit 0)) (.lit 9223372036854775807)) (.ob (.o2 .le (.o1 .len (.o2 .app (.o2 .app (.sl [130, 2, 130]) (.o2 .app
  (.o2 .headE (.lit 0) (.o2 .imax (.o2 .imax (.iv 1) (.lit 0)) (.lit 0))) (.sl []))) (.o2 .app (.o2 .headE (.lit 0) (.o2 .imax (.o2 .imax (.iv 2) (.lit 0)) (.lit 0))) (.sl []))))
  (.lit 1000000)) (.any (.int .i64) (.o2 .and (.o2 .le (.o1 .len (.o2 .app (.o2 .app (.sl [130, 2, 130]) (.o2 .app (.o2 .headE (.lit 0) (.o2 .imax (.o2 .imax (.iv 1) (.lit 0)) (.lit
  0))) (.sl []))) (.o2 .app (.o2 .headE (.lit 0) (.o2 .imax (.o2 .imax (.iv 2) (.lit 0)) (.lit 0))) (.sl [])))) (.iv 15)) (.o2 .and (.o2 .le (.iv 15) (.lit 9223372036854775807)) (.o2
  .le (.lit 1) (.iv 15)))) { i := 15, b := 0, s := 4, a := 0, v := 0 } (.val (.tup [.str (.o2 .app (.o2 .app (.sl [130, 2, 130]) (.o2 .app (.o2 .headE (.lit 0) (.o2 .imax (.o2 .imax
  (.iv 1) (.lit 0)) (.lit 0))) (.sl []))) (.o2 .app (.o2 .headE (.lit 0) (.o2 .imax (.o2 .imax (.iv 2) (.lit 0)) (.lit 0))) (.sl []))), .int .i64 (.lit 0)])
  [])))))))))))))))))))))))))))) (.val (.tup [.str (.sl []), .int .i64 (.lit 60)]) [])))
theorem enc_tree : (ev C7i 3000 (.enter 12 [.agg [.int .i64 (.iv 0), .str (.sv 0), .str (.sv 1), .int .i64 (.iv 1), .int .i64 (.iv 2)]]) (init { i := 3, s := 2 })).slim false = TEnc := by kernel_rfl

theorem one_str {x : Ext} {c c' : Ctr} (h : Fits x c c') (hi : c'.i = c.i) (hb : c'.b = c.b) (hs : c'.s = c.s + 1) (hv : c'.v = c.v) : ∃ m, x = { s := [m] } := by
  obtain ⟨xi, xb, xs, xv⟩ := x
  have h1 := h.i; have h2 := h.b; have h3 := h.s; have h4 := h.v
  simp only at h1 h2 h3 h4
  have e1 : xs.length = 1 := by omega
  have e2 : xb = [] := List.eq_nil_of_length_eq_zero (by omega)
  have e3 : xi = [] := List.eq_nil_of_length_eq_zero (by omega)
  have e4 : xv = [] := List.eq_nil_of_length_eq_zero (by omega)
  subst e2; subst e3; subst e4
  match xs, e1 with
  | [m], _ => exact ⟨m, rfl⟩

/-- A call of Itoa. -/
theorem itoa_step {ρ : Env} {G : GS} {e : E} {ct : Ctr} {S : Ext → GS → Prop} (hT : Tens G) (h0 : -9223372036854775808 ≤ e.ii ρ) (h1 : e.ii ρ ≤ 9223372036854775807) (hc : ct.s = ρ.s.length)
    (h : ∀ (u : ByteArray) (G' : GS), u.size ≤ 21 → GLe G G' → S { s := [u] } G') :
    ∃ R, CallOK Tryz.prog ρ G 47 [.int .i64 e] .str ct R ∧ ∀ x G', Fits x ct (Sh.str.fresh ct).2 → GLe G G' → R x G' → S x G' := by
  refine ⟨fun x _ => ∃ u : ByteArray, x = { s := [u] } ∧ u.size ≤ 21, callOK_of (V := fun v => ∃ s : ByteArray, v = .string s ∧ s.size ≤ 21) (fun β nx w hG => ?_) ?_, ?_⟩
  · exact itoa_calls _ h0 h1 w hT hG
  · rintro v ⟨s, rfl, hs⟩
    refine ⟨{ s := [s] }, ⟨rfl, rfl, rfl, rfl, by simp⟩, ⟨s, rfl, hs⟩, fun β nx => ?_⟩
    simp [Sh.fresh, DV.den, E.ss, Env.app, hc]
  · rintro x G' _ hG ⟨u, rfl, hu⟩
    exact h u G' hu hG

/-- What eid7.Encode answers. -/
def encV (c a b : Int) (n s : ByteArray) : Value :=
  if okN c a b n s then .tuple #[.string (byN c a b n s), .int .i64 0] else .tuple #[.string (sOf []), .int .i64 60]

theorem eqs_nil (s : ByteArray) : (s.toList == (sOf []).toList) = decide (s.size = 0) := by
  rw [ByteArray.toList_eq, sOf_toList, ← bs_len]
  cases s.data.toList <;> simp

theorem size_app (a b : ByteArray) : (a ++ b).size = a.size + b.size := ByteArray.size_append
end Go.Sx
