/- Chapter 10: Eid7Bytes, its tree. -/
import Derived.Test.YtkmgegblflnjpaaGreatDoorTj
set_option linter.unusedSimpArgs false
set_option linter.unusedVariables false
namespace Go.Sx
open Go.Proofs Go.RowKit

def TBytes : Ts :=
  .ob (.o2 .and (.o2 .le (.lit 0) (.o2 .imin (.o1 .len (.sv 0)) (.lit 21))) (.o2 .le (.o2 .imin (.o1 .len (.sv 0)) (.lit 21)) (.o1 .len (.sv 0)))) (.ob (.o2 .and (.o2 .le (.lit 0)
  (.o2 .imin (.o1 .len (.sv 1)) (.lit 21))) (.o2 .le (.o2 .imin (.o1 .len (.sv 1)) (.lit 21)) (.o1 .len (.sv 1)))) (.br (.o2 .eqi (.iv 0) (.lit 0)) (.br (.o1 .not (.o2 .and (.o2 .eqi
  (.iv 0) (.lit 0)) (.o2 .and (.o2 .eqs (.o3 (O3.sub3) (.sv 0) (.lit 0) (.o2 .imin (.o1 .len (.sv 0)) (.lit 21))) (.sl [])) (.o2 .and (.o2 .eqs (.o3 (O3.sub3) (.sv 1) (.lit 0) (.o2
  .imin (.o1 .len (.sv 1)) (.lit 21))) (.sl [])) (.o2 .and (.o2 .eqi (.iv 1) (.lit 0)) (.o2 .eqi (.iv 2) (.lit 0))))))) (.call 12 [.agg [.int .i64 (.iv 0), .str (.o3 (O3.sub3) (.sv
  0) (.lit 0) (.o2 .imin (.o1 .len (.sv 0)) (.lit 21))), .str (.o3 (O3.sub3) (.sv 1) (.lit 0) (.o2 .imin (.o1 .len (.sv 1)) (.lit 21))), .int .i64 (.iv 1), .int .i64 (.iv 2)]] (.tup
  [.str, .int .i64]) { i := 3, b := 0, s := 2, a := 0, v := 0 } (.any (.int .i64) (.o2 .and (.o2 .le (.lit 1) (.iv 4)) (.o2 .and (.o2 .le (.iv 4) (.lit 9223372036854775807)) (.o2 .le
  (.lit 1) (.iv 4)))) { i := 4, b := 0, s := 3, a := 0, v := 0 } (.val (.bool (.o2 .and (.o2 .eqi (.iv 3) (.lit 60)) (.o2 .eqs (.sv 2) (.sl [])))) []))) (.call 12 [.agg [.int .i64
  (.iv 0), .str (.o3 (O3.sub3) (.sv 0) (.lit 0) (.o2 .imin (.o1 .len (.sv 0)) (.lit 21))), .str (.o3 (O3.sub3) (.sv 1) (.lit 0) (.o2 .imin (.o1 .len (.sv 1)) (.lit 21))), .int .i64
  (.iv 1), .int .i64 (.iv 2)]] (.tup [.str, .int .i64]) { i := 3, b := 0, s := 2, a := 0, v := 0 } (.any (.int .i64) (.o2 .and (.o2 .le (.lit 1) (.iv 4)) (.o2 .le (.iv 4) (.lit
  9223372036854775807))) { i := 4, b := 0, s := 3, a := 0, v := 0 } (.any (.int .i64) (.o2 .and (.o2 .le (.lit 2) (.iv 5)) (.o2 .le (.iv 5) (.lit 9223372036854775807)))
  { i := 5, b := 0, s := 3, a := 0, v := 0 } (.any (.int .i64) (.o2 .and (.o2 .le (.lit 1) (.iv 6)) (.o2 .and (.o2 .le (.iv 6) (.lit 9223372036854775807)) (.o2 .le (.lit 1) (.iv
  6)))) { i := 6, b := 0, s := 3, a := 0, v := 0 } (.any (.int .i64) (.o2 .and (.o2 .le (.lit 1) (.iv 7)) (.o2 .le (.iv 7) (.lit 9223372036854775807)))
  { i := 7, b := 0, s := 3, a := 0, v := 0 } (.any (.int .i64) (.o2 .and (.o2 .le (.lit 2) (.iv 8)) (.o2 .le (.iv 8) (.lit 9223372036854775807)))
  { i := 8, b := 0, s := 3, a := 0, v := 0 } (.any (.int .i64) (.o2 .and (.o2 .le (.lit 2) (.iv 9)) (.o2 .and (.o2 .le (.iv 9) (.lit 9223372036854775807)) (.o2 .le (.lit 1) (.iv
  9)))) { i := 9, b := 0, s := 3, a := 0, v := 0 } (.any (.int .i64) (.o2 .and (.o2 .le (.lit 3) (.iv 10)) (.o2 .and (.o2 .le (.iv 10) (.lit 9223372036854775807)) (.o2 .le (.lit 1)
  (.iv 10)))) { i := 10, b := 0, s := 3, a := 0, v := 0 } (.br (.o2 .and (.o2 .eqi (.iv 3) (.lit 0)) (.o2 .eqs (.sv 2) (.sl [130, 1, 0]))) (.any (.int .i64) (.o2 .and (.o2 .le (.lit
  1) (.iv 11)) (.o2 .le (.iv 11) (.lit 9223372036854775807))) { i := 11, b := 0, s := 3, a := 0, v := 0 } (.any (.int .i64) (.o2 .and (.o2 .le (.lit 2) (.iv 12)) (.o2 .le (.iv 12)
  (.lit 9223372036854775807))) { i := 12, b := 0, s := 3, a := 0, v := 0 } (.val (.bool (.bl true)) []))) (.val (.bool (.bl false)) []))))))))))) (.br (.o2 .eqi (.iv 0) (.lit 1))
  (.br (.o1 .not (.o1 .not (.o2 .eqs (.o3 (O3.sub3) (.sv 0) (.lit 0) (.o2 .imin (.o1 .len (.sv 0)) (.lit 21))) (.sl [])))) (.call 12 [.agg [.int .i64 (.iv 0), .str (.o3 (O3.sub3)
  (.sv 0) (.lit 0) (.o2 .imin (.o1 .len (.sv 0)) (.lit 21))), .str (.o3 (O3.sub3) (.sv 1) (.lit 0) (.o2 .imin (.o1 .len (.sv 1)) (.lit 21))), .int .i64 (.iv 1), .int .i64 (.iv 2)]]
  (.tup [.str, .int .i64]) { i := 3, b := 0, s := 2, a := 0, v := 0 } (.any (.int .i64) (.o2 .and (.o2 .le (.lit 1) (.iv 4)) (.o2 .and (.o2 .le (.iv 4) (.lit 9223372036854775807))
  (.o2 .le (.lit 1) (.iv 4)))) { i := 4, b := 0, s := 3, a := 0, v := 0 } (.val (.bool (.o2 .and (.o2 .eqi (.iv 3) (.lit 60)) (.o2 .eqs (.sv 2) (.sl [])))) []))) (.br (.o1 .not (.o2
  .and (.o1 (.allr [(97, 122), (48, 57), (45, 45), (46, 46)]) (.o3 (O3.sub3) (.sv 0) (.lit 0) (.o2 .imin (.o1 .len (.sv 0)) (.lit 21)))) (.o2 .le (.o1 .len (.o3 (O3.sub3) (.sv 0)
  (.lit 0) (.o2 .imin (.o1 .len (.sv 0)) (.lit 21)))) (.lit 20)))) (.call 12 [.agg [.int .i64 (.iv 0), .str (.o3 (O3.sub3) (.sv 0) (.lit 0) (.o2 .imin (.o1 .len (.sv 0)) (.lit 21))),
  .str (.o3 (O3.sub3) (.sv 1) (.lit 0) (.o2 .imin (.o1 .len (.sv 1)) (.lit 21))), .int .i64 (.iv 1), .int .i64 (.iv 2)]] (.tup [.str, .int .i64])
  { i := 3, b := 0, s := 2, a := 0, v := 0 } (.any (.int .i64) (.o2 .and (.o2 .le (.lit 1) (.iv 4)) (.o2 .and (.o2 .le (.iv 4) (.lit 9223372036854775807)) (.o2 .le (.lit 1) (.iv
  4)))) { i := 4, b := 0, s := 3, a := 0, v := 0 } (.val (.bool (.o2 .and (.o2 .eqi (.iv 3) (.lit 60)) (.o2 .eqs (.sv 2) (.sl [])))) []))) (.br (.o1 .not (.o2 .and (.o1 (.allr [(97,
  122), (48, 57), (45, 45), (46, 46), (47, 47)]) (.o3 (O3.sub3) (.sv 1) (.lit 0) (.o2 .imin (.o1 .len (.sv 1)) (.lit 21)))) (.o2 .le (.o1 .len (.o3 (O3.sub3) (.sv 1) (.lit 0) (.o2
  .imin (.o1 .len (.sv 1)) (.lit 21)))) (.lit 20)))) (.call 12 [.agg [.int .i64 (.iv 0), .str (.o3 (O3.sub3) (.sv 0) (.lit 0) (.o2 .imin (.o1 .len (.sv 0)) (.lit 21))), .str (.o3
  (O3.sub3) (.sv 1) (.lit 0) (.o2 .imin (.o1 .len (.sv 1)) (.lit 21))), .int .i64 (.iv 1), .int .i64 (.iv 2)]] (.tup [.str, .int .i64]) { i := 3, b := 0, s := 2, a := 0, v := 0 }
  (.any (.int .i64) (.o2 .and (.o2 .le (.lit 1) (.iv 4)) (.o2 .and (.o2 .le (.iv 4) (.lit 9223372036854775807)) (.o2 .le (.lit 1) (.iv 4))))
  { i := 4, b := 0, s := 3, a := 0, v := 0 } (.val (.bool (.o2 .and (.o2 .eqi (.iv 3) (.lit 60)) (.o2 .eqs (.sv 2) (.sl [])))) []))) (.br (.o1 .not (.o2 .eqi (.iv 1) (.lit 0)))
  (.call 12 [.agg [.int .i64 (.iv 0), .str (.o3 (O3.sub3) (.sv 0) (.lit 0) (.o2 .imin (.o1 .len (.sv 0)) (.lit 21))), .str (.o3 (O3.sub3) (.sv 1) (.lit 0) (.o2 .imin (.o1 .len (.sv
  1)) (.lit 21))), .int .i64 (.iv 1), .int .i64 (.iv 2)]] (.tup [.str, .int .i64]) { i := 3, b := 0, s := 2, a := 0, v := 0 } (.any (.int .i64) (.o2 .and (.o2 .le (.lit 1) (.iv 4))
  (.o2 .and (.o2 .le (.iv 4) (.lit 9223372036854775807)) (.o2 .le (.lit 1) (.iv 4)))) { i := 4, b := 0, s := 3, a := 0, v := 0 } (.val (.bool (.o2 .and (.o2 .eqi (.iv 3) (.lit 60))
  (.o2 .eqs (.sv 2) (.sl [])))) []))) (.br (.o1 .not (.o2 .eqi (.iv 2) (.lit 0))) (.call 12 [.agg [.int .i64 (.iv 0), .str (.o3 (O3.sub3) (.sv 0) (.lit 0) (.o2 .imin (.o1 .len (.sv
  0)) (.lit 21))), .str (.o3 (O3.sub3) (.sv 1) (.lit 0) (.o2 .imin (.o1 .len (.sv 1)) (.lit 21))), .int .i64 (.iv 1), .int .i64 (.iv 2)]] (.tup [.str, .int .i64])
  { i := 3, b := 0, s := 2, a := 0, v := 0 } (.any (.int .i64) (.o2 .and (.o2 .le (.lit 1) (.iv 4)) (.o2 .and (.o2 .le (.iv 4) (.lit 9223372036854775807)) (.o2 .le (.lit 1) (.iv
  4)))) { i := 4, b := 0, s := 3, a := 0, v := 0 } (.val (.bool (.o2 .and (.o2 .eqi (.iv 3) (.lit 60)) (.o2 .eqs (.sv 2) (.sl [])))) []))) (.ob (.o2 .le (.o2 .add (.lit 2) (.o1 .len
  (.o3 (O3.sub3) (.sv 0) (.lit 0) (.o2 .imin (.o1 .len (.sv 0)) (.lit 21))))) (.lit 9223372036854775807)) (.ob (.o2 .le (.o2 .add (.o1 .len (.o2 .app (.sl [47, 47]) (.o3 (O3.sub3)
  (.sv 0) (.lit 0) (.o2 .imin (.o1 .len (.sv 0)) (.lit 21))))) (.lit 1)) (.lit 9223372036854775807)) (.ob (.o2 .le (.o2 .add (.o1 .len (.o2 .app (.o2 .app (.sl [47, 47]) (.o3
  (O3.sub3) (.sv 0) (.lit 0) (.o2 .imin (.o1 .len (.sv 0)) (.lit 21)))) (.sl [47]))) (.o1 .len (.o3 (O3.sub3) (.sv 1) (.lit 0) (.o2 .imin (.o1 .len (.sv 1)) (.lit 21))))) (.lit
  9223372036854775807)) (.call 12 [.agg [.int .i64 (.iv 0), .str (.o3 (O3.sub3) (.sv 0) (.lit 0) (.o2 .imin (.o1 .len (.sv 0)) (.lit 21))), .str (.o3 (O3.sub3) (.sv 1) (.lit 0) (.o2
  .imin (.o1 .len (.sv 1)) (.lit 21))), .int .i64 (.iv 1), .int .i64 (.iv 2)]] (.tup [.str, .int .i64]) { i := 3, b := 0, s := 2, a := 0, v := 0 } (.any (.int .i64) (.o2 .and (.o2
  .le (.lit 1) (.iv 4)) (.o2 .le (.iv 4) (.lit 9223372036854775807))) { i := 4, b := 0, s := 3, a := 0, v := 0 } (.any (.int .i64) (.o2 .and (.o2 .le (.lit 2) (.iv 5)) (.o2 .le (.iv
  5) (.lit 9223372036854775807))) { i := 5, b := 0, s := 3, a := 0, v := 0 } (.br (.o2 .le (.o1 .len (.o2 .app (.o2 .app (.o2 .app (.sl [47, 47]) (.o3 (O3.sub3) (.sv 0) (.lit 0) (.o2
  .imin (.o1 .len (.sv 0)) (.lit 21)))) (.sl [47])) (.o3 (O3.sub3) (.sv 1) (.lit 0) (.o2 .imin (.o1 .len (.sv 1)) (.lit 21))))) (.lit 600)) (.br (.o1 .not (.o1 (.allr [(32, 126)])
  (.o2 .app (.o2 .app (.o2 .app (.sl [47, 47]) (.o3 (O3.sub3) (.sv 0) (.lit 0) (.o2 .imin (.o1 .len (.sv 0)) (.lit 21)))) (.sl [47])) (.o3 (O3.sub3) (.sv 1) (.lit 0) (.o2 .imin (.o1
  .len (.sv 1)) (.lit 21)))))) (.val (.bool (.bl false)) []) (.any (.int .i64) (.o2 .and (.o2 .le (.lit 1) (.iv 6)) (.o2 .and (.o2 .le (.iv 6) (.lit 9223372036854775807)) (.o2 .le
  (.lit 1) (.iv 6)))) { i := 6, b := 0, s := 3, a := 0, v := 0 } (.any (.int .i64) (.o2 .and (.o2 .le (.lit 1) (.iv 7)) (.o2 .le (.iv 7) (.lit 9223372036854775807)))
  { i := 7, b := 0, s := 3, a := 0, v := 0 } (.any (.int .i64) (.o2 .and (.o2 .le (.lit 2) (.iv 8)) (.o2 .le (.iv 8) (.lit 9223372036854775807)))
  { i := 8, b := 0, s := 3, a := 0, v := 0 } (.any (.int .i64) (.o2 .and (.o2 .le (.lit 2) (.iv 9)) (.o2 .and (.o2 .le (.iv 9) (.lit 9223372036854775807)) (.o2 .le (.lit 1) (.iv
  9)))) { i := 9, b := 0, s := 3, a := 0, v := 0 } (.ob (.o2 .le (.o2 .add (.o1 .len (.o2 .headE (.lit 3) (.o2 .imax (.o2 .imax (.lit 0) (.o1 .len (.o2 .app (.o2 .app (.o2 .app (.sl
  [47, 47]) (.o3 (O3.sub3) (.sv 0) (.lit 0) (.o2 .imin (.o1 .len (.sv 0)) (.lit 21)))) (.sl [47])) (.o3 (O3.sub3) (.sv 1) (.lit 0) (.o2 .imin (.o1 .len (.sv 1)) (.lit 21)))))) (.lit
  0)))) (.o1 .len (.o2 .app (.o2 .app (.o2 .app (.sl [47, 47]) (.o3 (O3.sub3) (.sv 0) (.lit 0) (.o2 .imin (.o1 .len (.sv 0)) (.lit 21)))) (.sl [47])) (.o3 (O3.sub3) (.sv 1) (.lit 0)
  (.o2 .imin (.o1 .len (.sv 1)) (.lit 21)))))) (.lit 9223372036854775807)) (.ob (.o2 .le (.o1 .len (.o2 .app (.sl [130, 1]) (.o2 .app (.o2 .headE (.lit 3) (.o2 .imax (.o2 .imax (.lit
  0) (.o1 .len (.o2 .app (.o2 .app (.o2 .app (.sl [47, 47]) (.o3 (O3.sub3) (.sv 0) (.lit 0) (.o2 .imin (.o1 .len (.sv 0)) (.lit 21)))) (.sl [47])) (.o3 (O3.sub3) (.sv 1) (.lit 0)
  (.o2 .imin (.o1 .len (.sv 1)) (.lit 21)))))) (.lit 0))) (.o2 .app (.o2 .app (.o2 .app (.sl [47, 47]) (.o3 (O3.sub3) (.sv 0) (.lit 0) (.o2 .imin (.o1 .len (.sv 0)) (.lit 21)))) (.sl
  [47])) (.o3 (O3.sub3) (.sv 1) (.lit 0) (.o2 .imin (.o1 .len (.sv 1)) (.lit 21))))))) (.lit 1000000)) (.any (.int .i64) (.o2 .and (.o2 .le (.o1 .len (.o2 .app (.sl [130, 1]) (.o2
  .app (.o2 .headE (.lit 3) (.o2 .imax (.o2 .imax (.lit 0) (.o1 .len (.o2 .app (.o2 .app (.o2 .app (.sl [47, 47]) (.o3 (O3.sub3) (.sv 0) (.lit 0) (.o2 .imin (.o1 .len (.sv 0)) (.lit
  21)))) (.sl [47])) (.o3 (O3.sub3) (.sv 1) (.lit 0) (.o2 .imin (.o1 .len (.sv 1)) (.lit 21)))))) (.lit 0))) (.o2 .app (.o2 .app (.o2 .app (.sl [47, 47]) (.o3 (O3.sub3) (.sv 0) (.lit
  0) (.o2 .imin (.o1 .len (.sv 0)) (.lit 21)))) (.sl [47])) (.o3 (O3.sub3) (.sv 1) (.lit 0) (.o2 .imin (.o1 .len (.sv 1)) (.lit 21))))))) (.iv 10)) (.o2 .and (.o2 .le (.iv 10) (.lit
  9223372036854775807)) (.o2 .le (.lit 1) (.iv 10)))) { i := 10, b := 0, s := 3, a := 0, v := 0 } (.br (.o2 .and (.o2 .eqi (.iv 3) (.lit 0)) (.o2 .eqs (.sv 2) (.o2 .app (.sl [130,
  1]) (.o2 .app (.o2 .headE (.lit 3) (.o2 .imax (.o2 .imax (.lit 0) (.o1 .len (.o2 .app (.o2 .app (.o2 .app (.sl [47, 47]) (.o3 (O3.sub3) (.sv 0) (.lit 0) (.o2 .imin (.o1 .len (.sv
  0)) (.lit 21)))) (.sl [47])) (.o3 (O3.sub3) (.sv 1) (.lit 0) (.o2 .imin (.o1 .len (.sv 1)) (.lit 21)))))) (.lit 0))) (.o2 .app (.o2 .app (.o2 .app (.sl [47, 47]) (.o3 (O3.sub3)
  (.sv 0) (.lit 0) (.o2 .imin (.o1 .len (.sv 0)) (.lit 21)))) (.sl [47])) (.o3 (O3.sub3) (.sv 1) (.lit 0) (.o2 .imin (.o1 .len (.sv 1)) (.lit 21)))))))) (.any (.int .i64) (.o2 .and
  (.o2 .le (.lit 1) (.iv 11)) (.o2 .le (.iv 11) (.lit 9223372036854775807))) { i := 11, b := 0, s := 3, a := 0, v := 0 } (.any (.int .i64) (.o2 .and (.o2 .le (.lit 2) (.iv 12)) (.o2
  .le (.iv 12) (.lit 9223372036854775807))) { i := 12, b := 0, s := 3, a := 0, v := 0 } (.val (.bool (.bl true)) []))) (.val (.bool (.bl false)) [])))))))))) (.val (.bool (.bl
  false)) []))))))))))))) (.br (.o2 .eqi (.iv 0) (.lit 2)) (.br (.o1 .not (.o2 .eqs (.o3 (O3.sub3) (.sv 0) (.lit 0) (.o2 .imin (.o1 .len (.sv 0)) (.lit 21))) (.sl []))) (.call 12
  [.agg [.int .i64 (.iv 0), .str (.o3 (O3.sub3) (.sv 0) (.lit 0) (.o2 .imin (.o1 .len (.sv 0)) (.lit 21))), .str (.o3 (O3.sub3) (.sv 1) (.lit 0) (.o2 .imin (.o1 .len (.sv 1)) (.lit
  21))), .int .i64 (.iv 1), .int .i64 (.iv 2)]] (.tup [.str, .int .i64]) { i := 3, b := 0, s := 2, a := 0, v := 0 } (.any (.int .i64) (.o2 .and (.o2 .le (.lit 1) (.iv 4)) (.o2 .and
  (.o2 .le (.iv 4) (.lit 9223372036854775807)) (.o2 .le (.lit 1) (.iv 4)))) { i := 4, b := 0, s := 3, a := 0, v := 0 } (.val (.bool (.o2 .and (.o2 .eqi (.iv 3) (.lit 60)) (.o2 .eqs
  (.sv 2) (.sl [])))) []))) (.br (.o1 .not (.o2 .eqs (.o3 (O3.sub3) (.sv 1) (.lit 0) (.o2 .imin (.o1 .len (.sv 1)) (.lit 21))) (.sl []))) (.call 12 [.agg [.int .i64 (.iv 0), .str
  (.o3 (O3.sub3) (.sv 0) (.lit 0) (.o2 .imin (.o1 .len (.sv 0)) (.lit 21))), .str (.o3 (O3.sub3) (.sv 1) (.lit 0) (.o2 .imin (.o1 .len (.sv 1)) (.lit 21))), .int .i64 (.iv 1), .int
  .i64 (.iv 2)]] (.tup [.str, .int .i64]) { i := 3, b := 0, s := 2, a := 0, v := 0 } (.any (.int .i64) (.o2 .and (.o2 .le (.lit 1) (.iv 4)) (.o2 .and (.o2 .le (.iv 4) (.lit
  9223372036854775807)) (.o2 .le (.lit 1) (.iv 4)))) { i := 4, b := 0, s := 3, a := 0, v := 0 } (.val (.bool (.o2 .and (.o2 .eqi (.iv 3) (.lit 60)) (.o2 .eqs (.sv 2) (.sl []))))
  []))) (.br (.o1 .not (.o2 .le (.lit 1) (.iv 1))) (.call 12 [.agg [.int .i64 (.iv 0), .str (.o3 (O3.sub3) (.sv 0) (.lit 0) (.o2 .imin (.o1 .len (.sv 0)) (.lit 21))), .str (.o3
  (O3.sub3) (.sv 1) (.lit 0) (.o2 .imin (.o1 .len (.sv 1)) (.lit 21))), .int .i64 (.iv 1), .int .i64 (.iv 2)]] (.tup [.str, .int .i64]) { i := 3, b := 0, s := 2, a := 0, v := 0 }
  (.any (.int .i64) (.o2 .and (.o2 .le (.lit 1) (.iv 4)) (.o2 .and (.o2 .le (.iv 4) (.lit 9223372036854775807)) (.o2 .le (.lit 1) (.iv 4))))
  { i := 4, b := 0, s := 3, a := 0, v := 0 } (.val (.bool (.o2 .and (.o2 .eqi (.iv 3) (.lit 60)) (.o2 .eqs (.sv 2) (.sl [])))) []))) (.br (.o1 .not (.o2 .le (.iv 1) (.lit
  999999999))) (.call 12 [.agg [.int .i64 (.iv 0), .str (.o3 (O3.sub3) (.sv 0) (.lit 0) (.o2 .imin (.o1 .len (.sv 0)) (.lit 21))), .str (.o3 (O3.sub3) (.sv 1) (.lit 0) (.o2 .imin
  (.o1 .len (.sv 1)) (.lit 21))), .int .i64 (.iv 1), .int .i64 (.iv 2)]] (.tup [.str, .int .i64]) { i := 3, b := 0, s := 2, a := 0, v := 0 } (.any (.int .i64) (.o2 .and (.o2 .le
  (.lit 1) (.iv 4)) (.o2 .and (.o2 .le (.iv 4) (.lit 9223372036854775807)) (.o2 .le (.lit 1) (.iv 4)))) { i := 4, b := 0, s := 3, a := 0, v := 0 } (.val (.bool (.o2 .and (.o2 .eqi
  (.iv 3) (.lit 60)) (.o2 .eqs (.sv 2) (.sl [])))) []))) (.br (.o1 .not (.o2 .le (.lit 0) (.iv 2))) (.call 12 [.agg [.int .i64 (.iv 0), .str (.o3 (O3.sub3) (.sv 0) (.lit 0) (.o2
  .imin (.o1 .len (.sv 0)) (.lit 21))), .str (.o3 (O3.sub3) (.sv 1) (.lit 0) (.o2 .imin (.o1 .len (.sv 1)) (.lit 21))), .int .i64 (.iv 1), .int .i64 (.iv 2)]] (.tup [.str, .int
  .i64]) { i := 3, b := 0, s := 2, a := 0, v := 0 } (.any (.int .i64) (.o2 .and (.o2 .le (.lit 1) (.iv 4)) (.o2 .and (.o2 .le (.iv 4) (.lit 9223372036854775807)) (.o2 .le (.lit 1)
  (.iv 4)))) { i := 4, b := 0, s := 3, a := 0, v := 0 } (.val (.bool (.o2 .and (.o2 .eqi (.iv 3) (.lit 60)) (.o2 .eqs (.sv 2) (.sl [])))) []))) (.br (.o1 .not (.o2 .le (.iv 2) (.lit
  999999999))) (.call 12 [.agg [.int .i64 (.iv 0), .str (.o3 (O3.sub3) (.sv 0) (.lit 0) (.o2 .imin (.o1 .len (.sv 0)) (.lit 21))), .str (.o3 (O3.sub3) (.sv 1) (.lit 0) (.o2 .imin
  (.o1 .len (.sv 1)) (.lit 21))), .int .i64 (.iv 1), .int .i64 (.iv 2)]] (.tup [.str, .int .i64]) { i := 3, b := 0, s := 2, a := 0, v := 0 } (.any (.int .i64) (.o2 .and (.o2 .le
  (.lit 1) (.iv 4)) (.o2 .and (.o2 .le (.iv 4) (.lit 9223372036854775807)) (.o2 .le (.lit 1) (.iv 4)))) { i := 4, b := 0, s := 3, a := 0, v := 0 } (.val (.bool (.o2 .and (.o2 .eqi
  (.iv 3) (.lit 60)) (.o2 .eqs (.sv 2) (.sl [])))) []))) (.call 47 [.int .i64 (.iv 1)] .str { i := 3, b := 0, s := 2, a := 0, v := 0 } (.ob (.o2 .le (.o2 .add (.o1 .len (.sv 2))
  (.lit 1)) (.lit 9223372036854775807)) (.call 47 [.int .i64 (.iv 2)] .str { i := 3, b := 0, s := 3, a := 0, v := 0 } (.ob (.o2 .le (.o2 .add (.o1 .len (.o2 .app (.sv 2) (.sl [46])))
  (.o1 .len (.sv 3))) (.lit 9223372036854775807)) (.call 12 [.agg [.int .i64 (.iv 0), .str (.o3 (O3.sub3) (.sv 0) (.lit 0) (.o2 .imin (.o1 .len (.sv 0)) (.lit 21))), .str (.o3
  (O3.sub3) (.sv 1) (.lit 0) (.o2 .imin (.o1 .len (.sv 1)) (.lit 21))), .int .i64 (.iv 1), .int .i64 (.iv 2)]] (.tup [.str, .int .i64]) { i := 3, b := 0, s := 4, a := 0, v := 0 }
  (.any (.int .i64) (.o2 .and (.o2 .le (.lit 1) (.iv 4)) (.o2 .le (.iv 4) (.lit 9223372036854775807))) { i := 4, b := 0, s := 5, a := 0, v := 0 } (.any (.int .i64) (.o2 .and (.o2 .le
  (.lit 2) (.iv 5)) (.o2 .le (.iv 5) (.lit 9223372036854775807))) { i := 5, b := 0, s := 5, a := 0, v := 0 } (.any (.int .i64) (.o2 .and (.o2 .le (.lit 1) (.iv 6)) (.o2 .le (.iv 6)
  (.lit 9223372036854775807))) { i := 6, b := 0, s := 5, a := 0, v := 0 } (.any (.int .i64) (.o2 .and (.o2 .le (.lit 2) (.iv 7)) (.o2 .le (.iv 7) (.lit 9223372036854775807)))
  { i := 7, b := 0, s := 5, a := 0, v := 0 } (.any (.int .i64) (.o2 .and (.o2 .le (.lit 1) (.iv 8)) (.o2 .and (.o2 .le (.iv 8) (.lit 9223372036854775807)) (.o2 .le (.lit 1) (.iv
  8)))) { i := 8, b := 0, s := 5, a := 0, v := 0 } (.any (.int .i64) (.o2 .and (.o2 .le (.lit 1) (.iv 9)) (.o2 .le (.iv 9) (.lit 9223372036854775807)))
  { i := 9, b := 0, s := 5, a := 0, v := 0 } (.any (.int .i64) (.o2 .and (.o2 .le (.lit 2) (.iv 10)) (.o2 .le (.iv 10) (.lit 9223372036854775807)))
  { i := 10, b := 0, s := 5, a := 0, v := 0 } (.any (.int .i64) (.o2 .and (.o2 .le (.lit 2) (.iv 11)) (.o2 .and (.o2 .le (.iv 11) (.lit 9223372036854775807)) (.o2 .le (.lit 1) (.iv
  11)))) { i := 11, b := 0, s := 5, a := 0, v := 0 } (.any (.int .i64) (.o2 .and (.o2 .le (.lit 3) (.iv 12)) (.o2 .and (.o2 .le (.iv 12) (.lit 9223372036854775807)) (.o2 .le (.lit 1)
  (.iv 12)))) { i := 12, b := 0, s := 5, a := 0, v := 0 } (.any (.int .i64) (.o2 .and (.o2 .le (.lit 1) (.iv 13)) (.o2 .le (.iv 13) (.lit 9223372036854775807)))
  { i := 13, b := 0, s := 5, a := 0, v := 0 } (.any (.int .i64) (.o2 .and (.o2 .le (.lit 2) (.iv 14)) (.o2 .le (.iv 14) (.lit 9223372036854775807)))
  { i := 14, b := 0, s := 5, a := 0, v := 0 } (.ob (.o2 .le (.o2 .add (.o1 .len (.o2 .headE (.lit 0) (.o2 .imax (.o2 .imax (.iv 1) (.lit 0)) (.lit 0)))) (.lit 0)) (.lit
  9223372036854775807)) (.ob (.o2 .le (.o1 .len (.o2 .app (.sl [130, 2, 130]) (.o2 .app (.o2 .headE (.lit 0) (.o2 .imax (.o2 .imax (.iv 1) (.lit 0)) (.lit 0))) (.sl [])))) (.lit
  1000000)) (.any (.int .i64) (.o2 .and (.o2 .le (.o1 .len (.o2 .app (.sl [130, 2, 130]) (.o2 .app (.o2 .headE (.lit 0) (.o2 .imax (.o2 .imax (.iv 1) (.lit 0)) (.lit 0))) (.sl []))))
  (.iv 15)) (.o2 .and (.o2 .le (.iv 15) (.lit 9223372036854775807)) (.o2 .le (.lit 1) (.iv 15)))) { i := 15, b := 0, s := 5, a := 0, v := 0 } (.ob (.o2 .le (.o2 .add (.o1 .len (.o2
  .headE (.lit 0) (.o2 .imax (.o2 .imax (.iv 2) (.lit 0)) (.lit 0)))) (.lit 0)) (.lit 9223372036854775807)) (.ob (.o2 .le (.o1 .len (.o2 .app (.o2 .app (.sl [130, 2, 130]) (.o2 .app
  (.o2 .headE (.lit 0) (.o2 .imax (.o2 .imax (.iv 1) (.lit 0)) (.lit 0))) (.sl []))) (.o2 .app (.o2 .headE (.lit 0) (.o2 .imax (.o2 .imax (.iv 2) (.lit 0)) (.lit 0))) (.sl []))))
  (.lit 1000000)) (.any (.int .i64) (.o2 .and (.o2 .le (.o1 .len (.o2 .app (.o2 .app (.sl [130, 2, 130]) (.o2 .app (.o2 .headE (.lit 0) (.o2 .imax (.o2 .imax (.iv 1) (.lit 0)) (.lit
  0))) (.sl []))) (.o2 .app (.o2 .headE (.lit 0) (.o2 .imax (.o2 .imax (.iv 2) (.lit 0)) (.lit 0))) (.sl [])))) (.iv 16)) (.o2 .and (.o2 .le (.iv 16) (.lit 9223372036854775807)) (.o2
  .le (.lit 1) (.iv 16)))) { i := 16, b := 0, s := 5, a := 0, v := 0 } (.br (.o2 .and (.o2 .eqi (.iv 3) (.lit 0)) (.o2 .eqs (.sv 4) (.o2 .app (.o2 .app (.sl [130, 2, 130]) (.o2 .app
  (.o2 .headE (.lit 0) (.o2 .imax (.o2 .imax (.iv 1) (.lit 0)) (.lit 0))) (.sl []))) (.o2 .app (.o2 .headE (.lit 0) (.o2 .imax (.o2 .imax (.iv 2) (.lit 0)) (.lit 0))) (.sl [])))))
  (.any (.int .i64) (.o2 .and (.o2 .le (.lit 1) (.iv 17)) (.o2 .le (.iv 17) (.lit 9223372036854775807))) { i := 17, b := 0, s := 5, a := 0, v := 0 } (.any (.int .i64) (.o2 .and (.o2
  .le (.lit 2) (.iv 18)) (.o2 .le (.iv 18) (.lit 9223372036854775807))) { i := 18, b := 0, s := 5, a := 0, v := 0 } (.any (.int .i64) (.o2 .and (.o2 .le (.lit 1) (.iv 19)) (.o2 .le
  (.iv 19) (.lit 9223372036854775807))) { i := 19, b := 0, s := 5, a := 0, v := 0 } (.any (.int .i64) (.o2 .and (.o2 .le (.lit 2) (.iv 20)) (.o2 .le (.iv 20) (.lit
  9223372036854775807))) { i := 20, b := 0, s := 5, a := 0, v := 0 } (.val (.bool (.bl true)) []))))) (.val (.bool (.bl false)) [])))))))))))))))))))))))))))))) (.call 12 [.agg [.int
  .i64 (.iv 0), .str (.o3 (O3.sub3) (.sv 0) (.lit 0) (.o2 .imin (.o1 .len (.sv 0)) (.lit 21))), .str (.o3 (O3.sub3) (.sv 1) (.lit 0) (.o2 .imin (.o1 .len (.sv 1)) (.lit 21))), .int
  .i64 (.iv 1), .int .i64 (.iv 2)]] (.tup [.str, .int .i64]) { i := 3, b := 0, s := 2, a := 0, v := 0 } (.any (.int .i64) (.o2 .and (.o2 .le (.lit 1) (.iv 4)) (.o2 .and (.o2 .le (.iv
  4) (.lit 9223372036854775807)) (.o2 .le (.lit 1) (.iv 4)))) { i := 4, b := 0, s := 3, a := 0, v := 0 } (.val (.bool (.o2 .and (.o2 .eqi (.iv 3) (.lit 60)) (.o2 .eqs (.sv 2) (.sl
  [])))) [])))))))

theorem bytes_tree : (ev C7e 3000 (.enter 5 [.agg [.int .i64 (.iv 0), .str (.sv 0), .str (.sv 1), .int .i64 (.iv 1), .int .i64 (.iv 2)]]) (init { i := 3, s := 2 })).slim false = TBytes := by kernel_rfl
end Go.Sx
