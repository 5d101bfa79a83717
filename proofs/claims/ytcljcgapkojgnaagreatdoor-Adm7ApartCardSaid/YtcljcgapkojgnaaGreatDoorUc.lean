/- Chapter 12: few, as a contract. -/
import Derived.Test.YtcljcgapkojgnaaGreatDoorUb
set_option linter.unusedSimpArgs false
set_option linter.unusedVariables false
namespace Go.Sx
open Go.Proofs Go.RowKit

theorem few_sat (L : List Int) (hk : L.length ≤ 22) (v : Value) (A : List Addr) (G : GS) :
    (FewT L.length).sat Tryz.prog (fun ρ G d hh => MadeQ L ρ G d hh) { i := L, v := [v], a := A } G := by
  unfold FewT
  split
  · rename_i h0
    have h0 : L = [] := List.eq_nil_of_length_eq_zero (by simpa using h0)
    simp only [Ts.satB]
    exact .inl ⟨h0, rfl⟩
  · simp only [Ts.satB]
    intro x hx hc
    obtain ⟨c, rfl⟩ : ∃ c, x = { i := [c] } := by
      obtain ⟨xi, xb, xs, xv⟩ := x
      have h1 := hx.i; have h2 := hx.b; have h3 := hx.s; have h4 := hx.v
      simp [Sh.fresh] at h1 h2 h3 h4
      subst h2; subst h3; subst h4
      match xi, h1 with
      | [m], _ => exact ⟨m, rfl⟩
    refine .inr ⟨0, .iv L.length, rowI L.length 0, rfl, by simp, rowI_len _ _, fun β nx => ?_, ?_⟩
    · exact rowI_dens ⟨Env.app { i := L, v := [v], a := A } { i := [c] }, β, nx, G⟩ (L := L) (pre := []) ⟨[c], by simp [Env.app]⟩
    · simp only [E.bb, E.ii, Bool.and_eq_true, decide_eq_true_eq] at hc
      simp only [E.ii]
      exact of_decide_eq_true hc.1

set_option maxRecDepth 100000 in
theorem few_calls (v : Value) (L : List Int) (G : GS) (A : List Addr) (w : World) (hv : IsInts v G L) (hgl : GlobR ⟨{ a := A }, fun _ => 0, 0, G⟩ gl12) (hG : GHeap G w) :
    Calls Tryz.prog 5 #[v] w fun e w' => ∃ u, e = .returned u ∧ IsInts u (newG w w') (L.take 22) ∧ Below w.heap.size w w' := by
  by_cases hk : L.length < 22
  · have hT : L.take 22 = L := List.take_of_length_le (by omega)
    rw [hT]
    refine (calls_slimM (C := C12) C12ok (keep := true) (n := 3000) (g := 5) (args := [slcD 0 L.length]) (few_tree L.length hk) (Q := fun ρ G d hh => MadeQ L ρ G d hh) (ρ := { i := L, v := [v], a := A }) (G := G) (vs := [v])
      ⟨rfl, rfl, rfl, rfl, by simpa using ints_one hv⟩ (ints_cap (k := ⟨{ i := L, v := [v], a := A }, fun _ => 0, 0, G⟩) hv fun k' hle => ?_) (ints_memo (pre := []) (k := ⟨{ i := L, v := [v], a := A }, fun _ => 0, 0, G⟩) rfl hv (fun k' hle => ?_) ⟨[], by simp⟩)
      (gl12_any hgl) hG (DV.iss_cons (ints_slc hv ⟨_, rfl⟩ fun k' hle => ?_) DV.iss_nil) (few_sat L (by omega) v A G)).mono ?_
    · obtain ⟨t, ht⟩ := hle.ρ.v; rw [← ht]; rfl
    · obtain ⟨t, ht⟩ := hle.ρ.v; rw [← ht]; rfl
    · obtain ⟨t, ht⟩ := hle.ρ.v; rw [← ht]; rfl
    · rintro e w' ⟨u, k, d, s, rfl, hle, hh, _, _, hd, hq⟩
      exact ⟨u, rfl, made_ints hh hd hq, hh.frame⟩
  · have hlen : (L.take 22).length = 22 := by simp; omega
    obtain ⟨ad, cap, rfl, hcap, h3⟩ := hv
    have hcells : ∃ a, ad = some a ∧ GCells G a (L.map fun n => .int .i64 n) := by
      rcases h3 with h3 | h3
      · subst h3; simp at hk
      · exact h3
    obtain ⟨a, rfl, hcells⟩ := hcells
    have hj : ∀ k' : K, K.le ⟨{ i := L.take 22, v := [.slice (some a) L.length cap], a := A }, fun _ => 0, 0, G⟩ k' → k'.ρ.v[0]? = some (.slice (some a) L.length cap) := fun k' hle => by
      obtain ⟨t, ht⟩ := hle.ρ.v; rw [← ht]; rfl
    refine (calls_slimM (C := C12) C12ok (keep := true) (n := 3000) (g := 5) (args := [.slice ⟨.rv 0, .lit 0⟩ (.vv .slen 0) (.vv .scap 0)]) few_treeM (Q := fun ρ G d hh => MadeQ (L.take 22) ρ G d hh) (ρ := { i := L.take 22, v := [.slice (some a) L.length cap], a := A }) (G := G) (vs := [.slice (some a) L.length cap])
      ⟨by simpa using hlen, rfl, rfl, rfl, by simp [Value.oneCell']⟩ ?_ ?_ (gl12_any hgl) hG (DV.iss_cons (fun k' hle => ?_) DV.iss_nil) (by
        have := few_sat (L.take 22) (by omega) (.slice (some a) L.length cap) A G
        rwa [hlen] at this)).mono ?_
    · intro c b hm k' hle
      simp only [List.mem_cons, Prod.mk.injEq, List.not_mem_nil, or_false] at hm
      rcases hm with ⟨rfl, rfl⟩ | ⟨rfl, rfl⟩
      · simp only [E.bb, E.ii, List.getD_eq_getElem?_getD, hj k' hle, Option.getD_some, ovI]
        exact decide_eq_true (by omega)
      · simp only [E.bb, E.ii, List.getD_eq_getElem?_getD, hj k' hle, Option.getD_some, ovI]
        exact decide_eq_true (by omega)
    · have hI : IsInts (.slice (some a) (L.take 22).length cap) G (L.take 22) := ⟨some a, cap, rfl, by omega, .inr ⟨a, rfl, fun i u hu => hcells i u (by
        rw [List.getElem?_map, List.getElem?_take] at hu
        rw [List.getElem?_map]
        split at hu
        · exact hu
        · cases hu)⟩⟩
      intro t r d hm
      have hm : (t, r, d) ∈ rowM 0 22 0 := hm
      simp only [rowM, show ((22 : Nat) == 0) = false by decide, Bool.false_eq_true, if_false, List.mem_singleton, Prod.mk.injEq] at hm
      obtain ⟨rfl, rfl, rfl⟩ := hm
      refine ⟨a, .agg ((L.take 22).map fun n => .int .i64 n).toArray, fun k' hle => ?_, fun k' hle => ?_, fun i u hu => hcells i u ?_⟩
      · simp [Ref.den, Base.den, hj k' hle, E.ii, Addr.add]
      · obtain ⟨t2, ht2⟩ := hle.ρ.i
        have := rowI_dens k' (L := L.take 22) (pre := []) ⟨t2, by rw [← ht2]; simp⟩
        rw [hlen] at this
        simp only [DV.den]
        exact congrArg (fun l => Value.agg l.toArray) this
      · simp only [Value.cells] at hu
        rw [List.getElem?_map, List.getElem?_take] at hu
        rw [List.getElem?_map]
        split at hu
        · exact hu
        · cases hu
    · simp only [DV.den, Ref.den, Base.den, hj k' hle, E.ii, List.getD_eq_getElem?_getD, Option.getD_some, ovI]
      simp [Addr.add]
    · rintro e w' ⟨u, k, d, s, rfl, hle, hh, _, _, hd, hq⟩
      exact ⟨u, rfl, made_ints hh hd hq, hh.frame⟩

/-- What is held of what a call has made. -/
def joinG (G : GS) (w w' : World) : GS := fun b => match G b with | some o => some o | none => newG w w' b
theorem joinG_le (G : GS) (w w' : World) : GLe G (joinG G w w') := fun b o h => by simp [joinG, h]
theorem joinG_new {G : GS} {w w' : World} (hG : GHeap G w) : GLe (newG w w') (joinG G w w') := fun b o h => by
  have hb : w.heap.size ≤ b := by
    unfold newG at h
    split at h
    · assumption
    · cases h
  cases hGb : G b with
  | none => simp [joinG, hGb, h]
  | some p => have := (Array.getElem?_eq_some_iff.1 (hG b p hGb)).1; omega
theorem joinG_heap {G : GS} {w w' : World} (hG : GHeap G w) (hb : Below w.heap.size w w') : GHeap (joinG G w w') w' := fun b o h => by
  unfold joinG at h
  split at h
  · rename_i p hp
    cases h
    have := hG b o hp
    rw [hb.block b (Array.getElem?_eq_some_iff.1 this).1]; exact this
  · unfold newG at h
    split at h
    · exact h
    · cases h
theorem joinG_fresh {G : GS} {w w' : World} (b : Nat) (o : Obj) (h : joinG G w w' b = some o) : G b = some o ∨ w.heap.size ≤ b := by
  unfold joinG at h
  split at h
  · rename_i p hp; cases h; exact .inl hp
  · unfold newG at h
    split at h
    · exact .inr (by assumption)
    · cases h

set_option maxRecDepth 100000 in
/-- A call of few. -/
theorem few_step {ρ : Env} {G : GS} {j : Nat} {v : Value} {L : List Int} {ct : Ctr} {S : Ext → GS → Prop} (hgl : GlobR ⟨{ a := ρ.a }, fun _ => 0, 0, G⟩ gl12) (hj : ρ.v[j]? = some v) (hv : IsInts v G L) (hcv : ct.v = ρ.v.length)
    (h : ∀ (u : Value) (G' : GS), GLe G G' → IsInts u G' (L.take 22) → S { v := [u] } G') :
    ∃ R, CallOK Tryz.prog ρ G 5 [.raw j] .raw ct R ∧ ∀ x G', Fits x ct (Sh.raw.fresh ct).2 → GLe G G' → R x G' → S x G' := by
  refine ⟨fun x G' => ∃ u, x = { v := [u] } ∧ IsInts u G' (L.take 22), fun β nx w hG => ?_, ?_⟩
  · have hargs : (DV.dens ⟨ρ, β, nx, G⟩ [.raw j]).toArray = #[v] := by simp [DV.dens, DV.den, List.getD_eq_getElem?_getD, hj]
    rw [hargs]
    refine (few_calls v L G ρ.a w hv hgl hG).mono ?_
    rintro e w' ⟨u, rfl, hu, hb⟩
    refine ⟨{ v := [u] }, joinG G w w', ⟨rfl, rfl, rfl, rfl, by simpa using ints_one hu⟩, ⟨u, rfl, hu.le (joinG_new hG)⟩, ?_, joinG_le G w w', joinG_heap hG hb, joinG_fresh, hb⟩
    simp [Sh.fresh, DV.den, Env.app, hcv]
  · rintro x G' _ hle ⟨u, rfl, hu⟩
    exact h u G' hle hu
end Go.Sx
