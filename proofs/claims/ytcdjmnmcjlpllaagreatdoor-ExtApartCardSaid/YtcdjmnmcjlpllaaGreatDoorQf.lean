/- Chapter 14: ExtApart's run. -/
import Derived.Test.YtcdjmnmcjlpllaaGreatDoorQe
set_option linter.unusedSimpArgs false
set_option linter.unusedVariables false
namespace Go.Sx
open Go.Proofs Go.RowKit

def T3 : Ts := .br
  (.o2 .eqi (.iv 0) (.lit 206))
  (.br
    (.o2 .eqi (.iv 1) (.lit 206))
    (.val (.bool (.o2 .eqb (.bl true) (.o2 .eqi (.iv 0) (.iv 1)))) [])
    (.br
      (.o2 .eqi (.iv 1) (.lit 6))
      (.val (.bool (.bl true)) [])
      (.br
        (.o2 .eqi (.iv 1) (.lit 207))
        (.val (.bool (.o2 .eqb (.bl false) (.o2 .eqi (.iv 0) (.iv 1)))) [])
        (.br
          (.o2 .eqi (.iv 1) (.lit 7))
          (.val (.bool (.bl true)) [])
          (.br
            (.o2 .eqi (.iv 1) (.lit 210))
            (.val (.bool (.o2 .eqb (.bl false) (.o2 .eqi (.iv 0) (.iv 1)))) [])
            (.br
              (.o2 .eqi (.iv 1) (.lit 10))
              (.val (.bool (.bl true)) [])
              (.br
                (.o2
                  .or
                  (.o2
                    .or
                    (.o2 .lt (.iv 1) (.lit 1))
                    (.o2 .lt (.lit 255) (.iv 1)))
                  (.o2 .eqi (.iv 1) (.lit 192)))
                (.val (.bool (.bl true)) [])
                (.val
                  (.bool
                    (.o2
                      .eqb
                      (.o2 .eqi (.lit 6) (.iv 1))
                      (.o2 .eqi (.iv 0) (.iv 1))))
                  []))))))))
  (.br
    (.o2 .eqi (.iv 0) (.lit 6))
    (.br
      (.o2 .eqi (.iv 1) (.lit 206))
      (.val (.bool (.bl true)) [])
      (.br
        (.o2 .eqi (.iv 1) (.lit 6))
        (.val (.bool (.o2 .eqb (.bl true) (.o2 .eqi (.iv 0) (.iv 1)))) [])
        (.br
          (.o2 .eqi (.iv 1) (.lit 207))
          (.val (.bool (.bl true)) [])
          (.br
            (.o2 .eqi (.iv 1) (.lit 7))
            (.val (.bool (.o2 .eqb (.bl false) (.o2 .eqi (.iv 0) (.iv 1)))) [])
            (.br
              (.o2 .eqi (.iv 1) (.lit 210))
              (.val (.bool (.bl true)) [])
              (.br
                (.o2 .eqi (.iv 1) (.lit 10))
                (.val
                  (.bool (.o2 .eqb (.bl false) (.o2 .eqi (.iv 0) (.iv 1))))
                  [])
                (.br
                  (.o2
                    .or
                    (.o2
                      .or
                      (.o2 .lt (.iv 1) (.lit 1))
                      (.o2 .lt (.lit 255) (.iv 1)))
                    (.o2 .eqi (.iv 1) (.lit 192)))
                  (.val (.bool (.bl true)) [])
                  (.val
                    (.bool
                      (.o2
                        .eqb
                        (.o2 .eqi (.lit 206) (.iv 1))
                        (.o2 .eqi (.iv 0) (.iv 1))))
                    []))))))))
    (.br
      (.o2 .eqi (.iv 0) (.lit 207))
      (.br
        (.o2 .eqi (.iv 1) (.lit 206))
        (.val (.bool (.o2 .eqb (.bl false) (.o2 .eqi (.iv 0) (.iv 1)))) [])
        (.br
          (.o2 .eqi (.iv 1) (.lit 6))
          (.val (.bool (.bl true)) [])
          (.br
            (.o2 .eqi (.iv 1) (.lit 207))
            (.val (.bool (.o2 .eqb (.bl true) (.o2 .eqi (.iv 0) (.iv 1)))) [])
            (.br
              (.o2 .eqi (.iv 1) (.lit 7))
              (.val (.bool (.bl true)) [])
              (.br
                (.o2 .eqi (.iv 1) (.lit 210))
                (.val
                  (.bool (.o2 .eqb (.bl false) (.o2 .eqi (.iv 0) (.iv 1))))
                  [])
                (.br
                  (.o2 .eqi (.iv 1) (.lit 10))
                  (.val (.bool (.bl true)) [])
                  (.br
                    (.o2
                      .or
                      (.o2
                        .or
                        (.o2 .lt (.iv 1) (.lit 1))
                        (.o2 .lt (.lit 255) (.iv 1)))
                      (.o2 .eqi (.iv 1) (.lit 192)))
                    (.val (.bool (.bl true)) [])
                    (.val
                      (.bool
                        (.o2
                          .eqb
                          (.o2 .eqi (.lit 7) (.iv 1))
                          (.o2 .eqi (.iv 0) (.iv 1))))
                      []))))))))
      (.br
        (.o2 .eqi (.iv 0) (.lit 7))
        (.br
          (.o2 .eqi (.iv 1) (.lit 206))
          (.val (.bool (.bl true)) [])
          (.br
            (.o2 .eqi (.iv 1) (.lit 6))
            (.val (.bool (.o2 .eqb (.bl false) (.o2 .eqi (.iv 0) (.iv 1)))) [])
            (.br
              (.o2 .eqi (.iv 1) (.lit 207))
              (.val (.bool (.bl true)) [])
              (.br
                (.o2 .eqi (.iv 1) (.lit 7))
                (.val
                  (.bool (.o2 .eqb (.bl true) (.o2 .eqi (.iv 0) (.iv 1))))
                  [])
                (.br
                  (.o2 .eqi (.iv 1) (.lit 210))
                  (.val (.bool (.bl true)) [])
                  (.br
                    (.o2 .eqi (.iv 1) (.lit 10))
                    (.val
                      (.bool (.o2 .eqb (.bl false) (.o2 .eqi (.iv 0) (.iv 1))))
                      [])
                    (.br
                      (.o2
                        .or
                        (.o2
                          .or
                          (.o2 .lt (.iv 1) (.lit 1))
                          (.o2 .lt (.lit 255) (.iv 1)))
                        (.o2 .eqi (.iv 1) (.lit 192)))
                      (.val (.bool (.bl true)) [])
                      (.val
                        (.bool
                          (.o2
                            .eqb
                            (.o2 .eqi (.lit 207) (.iv 1))
                            (.o2 .eqi (.iv 0) (.iv 1))))
                        []))))))))
        (.br
          (.o2 .eqi (.iv 0) (.lit 210))
          (.br
            (.o2 .eqi (.iv 1) (.lit 206))
            (.val (.bool (.o2 .eqb (.bl false) (.o2 .eqi (.iv 0) (.iv 1)))) [])
            (.br
              (.o2 .eqi (.iv 1) (.lit 6))
              (.val (.bool (.bl true)) [])
              (.br
                (.o2 .eqi (.iv 1) (.lit 207))
                (.val
                  (.bool (.o2 .eqb (.bl false) (.o2 .eqi (.iv 0) (.iv 1))))
                  [])
                (.br
                  (.o2 .eqi (.iv 1) (.lit 7))
                  (.val (.bool (.bl true)) [])
                  (.br
                    (.o2 .eqi (.iv 1) (.lit 210))
                    (.val
                      (.bool (.o2 .eqb (.bl true) (.o2 .eqi (.iv 0) (.iv 1))))
                      [])
                    (.br
                      (.o2 .eqi (.iv 1) (.lit 10))
                      (.val (.bool (.bl true)) [])
                      (.br
                        (.o2
                          .or
                          (.o2
                            .or
                            (.o2 .lt (.iv 1) (.lit 1))
                            (.o2 .lt (.lit 255) (.iv 1)))
                          (.o2 .eqi (.iv 1) (.lit 192)))
                        (.val (.bool (.bl true)) [])
                        (.val
                          (.bool
                            (.o2
                              .eqb
                              (.o2 .eqi (.lit 10) (.iv 1))
                              (.o2 .eqi (.iv 0) (.iv 1))))
                          []))))))))
          (.br
            (.o2 .eqi (.iv 0) (.lit 10))
            (.br
              (.o2 .eqi (.iv 1) (.lit 206))
              (.val (.bool (.bl true)) [])
              (.br
                (.o2 .eqi (.iv 1) (.lit 6))
                (.val
                  (.bool (.o2 .eqb (.bl false) (.o2 .eqi (.iv 0) (.iv 1))))
                  [])
                (.br
                  (.o2 .eqi (.iv 1) (.lit 207))
                  (.val (.bool (.bl true)) [])
                  (.br
                    (.o2 .eqi (.iv 1) (.lit 7))
                    (.val
                      (.bool (.o2 .eqb (.bl false) (.o2 .eqi (.iv 0) (.iv 1))))
                      [])
                    (.br
                      (.o2 .eqi (.iv 1) (.lit 210))
                      (.val (.bool (.bl true)) [])
                      (.br
                        (.o2 .eqi (.iv 1) (.lit 10))
                        (.val
                          (.bool (.o2 .eqb (.bl true) (.o2 .eqi (.iv 0) (.iv 1))))
                          [])
                        (.br
                          (.o2
                            .or
                            (.o2
                              .or
                              (.o2 .lt (.iv 1) (.lit 1))
                              (.o2 .lt (.lit 255) (.iv 1)))
                            (.o2 .eqi (.iv 1) (.lit 192)))
                          (.val (.bool (.bl true)) [])
                          (.val
                            (.bool
                              (.o2
                                .eqb
                                (.o2 .eqi (.lit 210) (.iv 1))
                                (.o2 .eqi (.iv 0) (.iv 1))))
                            []))))))))
            (.br
              (.o2
                .or
                (.o2
                  .or
                  (.o2 .lt (.iv 0) (.lit 1))
                  (.o2 .lt (.lit 255) (.iv 0)))
                (.o2 .eqi (.iv 0) (.lit 192)))
              (.br
                (.o2 .eqi (.iv 1) (.lit 206))
                (.val (.bool (.bl true)) [])
                (.br
                  (.o2 .eqi (.iv 1) (.lit 6))
                  (.val (.bool (.bl true)) [])
                  (.br
                    (.o2 .eqi (.iv 1) (.lit 207))
                    (.val (.bool (.bl true)) [])
                    (.br
                      (.o2 .eqi (.iv 1) (.lit 7))
                      (.val (.bool (.bl true)) [])
                      (.br
                        (.o2 .eqi (.iv 1) (.lit 210))
                        (.val (.bool (.bl true)) [])
                        (.br
                          (.o2 .eqi (.iv 1) (.lit 10))
                          (.val (.bool (.bl true)) [])
                          (.br
                            (.o2
                              .or
                              (.o2
                                .or
                                (.o2 .lt (.iv 1) (.lit 1))
                                (.o2 .lt (.lit 255) (.iv 1)))
                              (.o2 .eqi (.iv 1) (.lit 192)))
                            (.val (.bool (.bl true)) [])
                            (.val (.bool (.bl true)) []))))))))
              (.br
                (.o2 .eqi (.iv 1) (.lit 206))
                (.val
                  (.bool
                    (.o2
                      .eqb
                      (.o2 .eqi (.iv 0) (.lit 6))
                      (.o2 .eqi (.iv 0) (.iv 1))))
                  [])
                (.br
                  (.o2 .eqi (.iv 1) (.lit 6))
                  (.val
                    (.bool
                      (.o2
                        .eqb
                        (.o2 .eqi (.iv 0) (.lit 206))
                        (.o2 .eqi (.iv 0) (.iv 1))))
                    [])
                  (.br
                    (.o2 .eqi (.iv 1) (.lit 207))
                    (.val
                      (.bool
                        (.o2
                          .eqb
                          (.o2 .eqi (.iv 0) (.lit 7))
                          (.o2 .eqi (.iv 0) (.iv 1))))
                      [])
                    (.br
                      (.o2 .eqi (.iv 1) (.lit 7))
                      (.val
                        (.bool
                          (.o2
                            .eqb
                            (.o2 .eqi (.iv 0) (.lit 207))
                            (.o2 .eqi (.iv 0) (.iv 1))))
                        [])
                      (.br
                        (.o2 .eqi (.iv 1) (.lit 210))
                        (.val
                          (.bool
                            (.o2
                              .eqb
                              (.o2 .eqi (.iv 0) (.lit 10))
                              (.o2 .eqi (.iv 0) (.iv 1))))
                          [])
                        (.br
                          (.o2 .eqi (.iv 1) (.lit 10))
                          (.val
                            (.bool
                              (.o2
                                .eqb
                                (.o2 .eqi (.iv 0) (.lit 210))
                                (.o2 .eqi (.iv 0) (.iv 1))))
                            [])
                          (.br
                            (.o2
                              .or
                              (.o2
                                .or
                                (.o2 .lt (.iv 1) (.lit 1))
                                (.o2 .lt (.lit 255) (.iv 1)))
                              (.o2 .eqi (.iv 1) (.lit 192)))
                            (.val (.bool (.bl true)) [])
                            (.val
                              (.bool
                                (.o2
                                  .and
                                  (.o2
                                    .eqb
                                    (.o2 .eqi (.iv 0) (.iv 1))
                                    (.o2 .eqi (.iv 0) (.iv 1)))
                                  (.o2
                                    .eqb
                                    (.o2 .eqi (.iv 0) (.iv 1))
                                    (.o2 .eqi (.iv 0) (.iv 1)))))
                              []))))))))))))))

theorem T3_tree : (ev (C0.tab tS) 3000 (.enter 3 [.int .i64 (.iv 0), .int .i64 (.iv 1)]) (init { i := 2 })).slim false = T3 := by kernel_rfl

def Q3 (ρ : Env) (_ : GS) (d : DV) (_ : List (Id × List DV)) : Prop := ∃ e, d = .bool e ∧ e.bb ρ = true

set_option maxHeartbeats 4000000 in
theorem T3_sat (P : Program) (t u : Int) (a : List Addr) (G : GS) : T3.sat P Q3 { i := [t, u], a := a } G := by
  unfold T3
  simp only [Ts.sat, Q3, DV.bool.injEq, exists_eq_left', E.bb, E.ii, List.getD_cons_zero, List.getD_cons_succ]
  repeat' (first | (refine And.intro (fun _ => ?_) (fun _ => ?_)))
  all_goals (try simp at *)
  all_goals (first | omega | (rw [Bool.eq_iff_iff]; simp only [beq_iff_eq]; omega))

/-- ExtApart's call: true, whatever the numbers. -/
theorem ext_calls (t u : Int) (a : List Addr) (G : GS) (w : World) (hgl : GlobR ⟨{ i := [t, u], a := a }, fun _ => 0, 0, G⟩ gl0) (hG : GHeap G w) :
    Calls Tryz.prog 3 #[.int .i64 t, .int .i64 u] w fun e w' => e = .returned (.bool true) ∧ Below w.heap.size w w' := by
  refine (calls_slim (C := C0.tab tS) kS T3_tree (Q := Q3) (ρ := { i := [t, u], a := a }) (G := G) (vs := [.int .i64 t, .int .i64 u])
    ⟨rfl, rfl, rfl, rfl, by simp⟩ (by intro c v h; simp at h) hgl hG ?_ (T3_sat _ t u a G)).mono ?_
  · refine DV.iss_cons (mk_int fun k' hle => ?_) (DV.iss_cons (mk_int fun k' hle => ?_) DV.iss_nil)
    · obtain ⟨r, hr⟩ := hle.ρ.i
      simp [E.ii, ← hr]
    · obtain ⟨r, hr⟩ := hle.ρ.i
      simp [E.ii, ← hr]
  · rintro e w' ⟨v, k, d, s, rfl, hle, hh, _, _, hd, e', rfl, hq⟩
    refine ⟨?_, hh.frame⟩
    rw [← hd.here]
    simp only [DV.den, hq]
end Go.Sx
