/- Chapter 14: the runs that its first words come to, each once. -/
import Derived.Test.YtcdjmnmcjlpllaaGreatDoorQa
import Derived.Test.YtcdjmnmcjlpllaaGreatDoorSl
set_option linter.unusedSimpArgs false
set_option linter.unusedVariables false
namespace Go.Sx
def r1 : Row := ⟨15, [.agg [.int .i64 (.lit 2), .str (.sl []), .str (.sl []), .int .i64 (.lit 3), .int .i64 (.lit 0)]], .bool (.bl true)⟩
def r2 : Row := ⟨34, [.agg [.int .i64 (.lit 2), .str (.sl []), .str (.sl []), .int .i64 (.lit 3), .int .i64 (.lit 0)]], .tup [.str (.sl [105, 112, 110]), .str (.sl [51, 46, 48]), .int .i64 (.lit 0)]⟩
def r3 : Row := ⟨40, [.int .i64 (.lit 4), .int .i64 (.lit 3)], .tup [.str (.sl [131]), .int .i64 (.lit 0)]⟩
def r4 : Row := ⟨40, [.int .i64 (.lit 0), .int .i64 (.lit 1)], .tup [.str (.sl [1]), .int .i64 (.lit 0)]⟩
def r5 : Row := ⟨40, [.int .i64 (.lit 4), .int .i64 (.lit 2)], .tup [.str (.sl [130]), .int .i64 (.lit 0)]⟩
def r6 : Row := ⟨40, [.int .i64 (.lit 0), .int .i64 (.lit 2)], .tup [.str (.sl [2]), .int .i64 (.lit 0)]⟩
def r7 : Row := ⟨40, [.int .i64 (.lit 0), .int .i64 (.lit 3)], .tup [.str (.sl [3]), .int .i64 (.lit 0)]⟩
def r8 : Row := ⟨40, [.int .i64 (.lit 0), .int .i64 (.lit 0)], .tup [.str (.sl [0]), .int .i64 (.lit 0)]⟩
def r9 : Row := ⟨7, [.agg [.int .i64 (.lit 1), .bool (.bl true), .int .i64 (.lit 2), .str (.sl []), .str (.sl []), .int .i64 (.lit 3), .int .i64 (.lit 0)]], .tup [.str (.sl [131, 1, 1, 130, 2, 130, 3, 0]), .int .i64 (.lit 0)]⟩
def r10 : Row := ⟨45, [.int .i64 (.lit 1)], .tup [.int .i64 (.lit 1), .int .i64 (.lit 0)]⟩
def r11 : Row := ⟨5, [.int .i64 (.lit 206)], .tup [.int .i64 (.lit 6), .int .i64 (.lit 0)]⟩
def r12 : Row := ⟨45, [.int .i64 (.lit 8)], .tup [.int .i64 (.lit 0), .int .i64 (.lit 0)]⟩
def r13 : Row := ⟨5, [.int .i64 (.lit 1)], .tup [.int .i64 (.lit 1), .int .i64 (.lit 0)]⟩
def r14 : Row := ⟨105, [.str (.sl [131, 1, 1, 130, 2, 130, 3, 0]), .int .i64 (.lit 0)], .tup [.int .i64 (.lit 4), .int .i64 (.lit 3), .int .i64 (.lit 1), .int .i64 (.lit 0)]⟩
def r15 : Row := ⟨105, [.str (.sl [131, 1, 1, 130, 2, 130, 3, 0]), .int .i64 (.lit 1)], .tup [.int .i64 (.lit 0), .int .i64 (.lit 1), .int .i64 (.lit 2), .int .i64 (.lit 0)]⟩
def r16 : Row := ⟨105, [.str (.sl [131, 1, 1, 130, 2, 130, 3, 0]), .int .i64 (.lit 2)], .tup [.int .i64 (.lit 0), .int .i64 (.lit 1), .int .i64 (.lit 3), .int .i64 (.lit 0)]⟩
def r17 : Row := ⟨105, [.str (.sl [131, 1, 1, 130, 2, 130, 3, 0]), .int .i64 (.lit 3)], .tup [.int .i64 (.lit 4), .int .i64 (.lit 2), .int .i64 (.lit 4), .int .i64 (.lit 0)]⟩
def r18 : Row := ⟨105, [.str (.sl [131, 1, 1, 130, 2, 130, 3, 0]), .int .i64 (.lit 4)], .tup [.int .i64 (.lit 0), .int .i64 (.lit 2), .int .i64 (.lit 5), .int .i64 (.lit 0)]⟩
def r19 : Row := ⟨105, [.str (.sl [131, 1, 1, 130, 2, 130, 3, 0]), .int .i64 (.lit 5)], .tup [.int .i64 (.lit 4), .int .i64 (.lit 2), .int .i64 (.lit 6), .int .i64 (.lit 0)]⟩
def r20 : Row := ⟨105, [.str (.sl [131, 1, 1, 130, 2, 130, 3, 0]), .int .i64 (.lit 6)], .tup [.int .i64 (.lit 0), .int .i64 (.lit 3), .int .i64 (.lit 7), .int .i64 (.lit 0)]⟩
def r21 : Row := ⟨105, [.str (.sl [131, 1, 1, 130, 2, 130, 3, 0]), .int .i64 (.lit 7)], .tup [.int .i64 (.lit 0), .int .i64 (.lit 0), .int .i64 (.lit 8), .int .i64 (.lit 0)]⟩
def r22 : Row := ⟨15, [.agg [.int .i64 (.lit 0), .str (.sl []), .str (.sl []), .int .i64 (.lit 0), .int .i64 (.lit 0)]], .bool (.bl true)⟩
def r23 : Row := ⟨34, [.agg [.int .i64 (.lit 0), .str (.sl []), .str (.sl []), .int .i64 (.lit 0), .int .i64 (.lit 0)]], .tup [.str (.sl [100, 116, 110]), .str (.sl [110, 111, 110, 101]), .int .i64 (.lit 0)]⟩
def r24 : Row := ⟨15, [.agg [.int .i64 (.lit 1), .str (.sl []), .str (.sl []), .int .i64 (.lit 0), .int .i64 (.lit 0)]], .bool (.bl false)⟩
def r25 : Row := ⟨34, [.agg [.int .i64 (.lit 1), .str (.sl []), .str (.sl []), .int .i64 (.lit 0), .int .i64 (.lit 0)]], .tup [.str (.sl []), .str (.sl []), .int .i64 (.lit 60)]⟩
def r26 : Row := ⟨111, [.str (.sl [100, 116, 110]), .str (.sl [])], .tup [.agg [.int .i64 (.lit 0), .str (.sl []), .str (.sl []), .int .i64 (.lit 0), .int .i64 (.lit 0)], .int .i64 (.lit 60)]⟩
def r27 : Row := ⟨10, [.str (.sl [131, 1, 1, 130, 2, 130, 3, 0])], .tup [.agg [.int .i64 (.lit 1), .bool (.bl true), .int .i64 (.lit 2), .str (.sl []), .str (.sl []), .int .i64 (.lit 3), .int .i64 (.lit 0)], .int .i64 (.lit 0)]⟩
def r28 : Row := ⟨47, [.int .i64 (.lit 1), .bool (.bl false)], .tup [.int .i64 (.lit 1), .int .i64 (.lit 0)]⟩
def r29 : Row := ⟨6, [.int .i64 (.lit 6)], .tup [.int .i64 (.lit 206), .int .i64 (.lit 0)]⟩
def r30 : Row := ⟨47, [.int .i64 (.lit 0), .bool (.bl true)], .tup [.int .i64 (.lit 8), .int .i64 (.lit 0)]⟩
def r31 : Row := ⟨6, [.int .i64 (.lit 1)], .tup [.int .i64 (.lit 1), .int .i64 (.lit 0)]⟩
def r32 : Row := ⟨7, [.agg [.int .i64 (.lit 0), .bool (.bl false), .int .i64 (.lit 0), .str (.sl []), .str (.sl []), .int .i64 (.lit 0), .int .i64 (.lit 0)]], .tup [.str (.sl [131, 0, 0, 130, 1, 0]), .int .i64 (.lit 0)]⟩
def r33 : Row := ⟨45, [.int .i64 (.lit 0)], .tup [.int .i64 (.lit 0), .int .i64 (.lit 0)]⟩
def r34 : Row := ⟨5, [.int .i64 (.lit 6)], .tup [.int .i64 (.lit 0), .int .i64 (.lit 140)]⟩
def r35 : Row := ⟨105, [.str (.sl [131, 0, 0]), .int .i64 (.lit 0)], .tup [.int .i64 (.lit 4), .int .i64 (.lit 3), .int .i64 (.lit 1), .int .i64 (.lit 0)]⟩
def r36 : Row := ⟨105, [.str (.sl [131, 0, 0]), .int .i64 (.lit 1)], .tup [.int .i64 (.lit 0), .int .i64 (.lit 0), .int .i64 (.lit 2), .int .i64 (.lit 0)]⟩
def r37 : Row := ⟨105, [.str (.sl [131, 0, 0]), .int .i64 (.lit 2)], .tup [.int .i64 (.lit 0), .int .i64 (.lit 0), .int .i64 (.lit 3), .int .i64 (.lit 0)]⟩
def r38 : Row := ⟨105, [.str (.sl [131, 0, 0]), .int .i64 (.lit 3)], .tup [.int .i64 (.lit 0), .int .i64 (.lit 0), .int .i64 (.lit 0), .int .i64 (.lit 11)]⟩
def r39 : Row := ⟨10, [.str (.sl [131, 0, 0])], .tup [.agg [.int .i64 (.lit 0), .bool (.bl false), .int .i64 (.lit 0), .str (.sl []), .str (.sl []), .int .i64 (.lit 0), .int .i64 (.lit 0)], .int .i64 (.lit 141)]⟩
def t0 : List Row := []
def t1 : List Row := r1 :: t0
def t2 : List Row := r2 :: t1
def t3 : List Row := r3 :: t2
def t4 : List Row := r4 :: t3
def t5 : List Row := r5 :: t4
def t6 : List Row := r6 :: t5
def t7 : List Row := r7 :: t6
def t8 : List Row := r8 :: t7
def t9 : List Row := r9 :: t8
def t10 : List Row := r10 :: t9
def t11 : List Row := r11 :: t10
def t12 : List Row := r12 :: t11
def t13 : List Row := r13 :: t12
def t14 : List Row := r14 :: t13
def t15 : List Row := r15 :: t14
def t16 : List Row := r16 :: t15
def t17 : List Row := r17 :: t16
def t18 : List Row := r18 :: t17
def t19 : List Row := r19 :: t18
def t20 : List Row := r20 :: t19
def t21 : List Row := r21 :: t20
def t22 : List Row := r22 :: t21
def t23 : List Row := r23 :: t22
def t24 : List Row := r24 :: t23
def t25 : List Row := r25 :: t24
def t26 : List Row := r26 :: t25
def t27 : List Row := r27 :: t26
def t28 : List Row := r28 :: t27
def t29 : List Row := r29 :: t28
def t30 : List Row := r30 :: t29
def t31 : List Row := r31 :: t30
def t32 : List Row := r32 :: t31
def t33 : List Row := r33 :: t32
def t34 : List Row := r34 :: t33
def t35 : List Row := r35 :: t34
def t36 : List Row := r36 :: t35
def t37 : List Row := r37 :: t36
def t38 : List Row := r38 :: t37
def t39 : List Row := r39 :: t38
theorem c1 : rowChk C0 t0 r1 = true := by kernel_rfl
theorem c2 : rowChk C0 t1 r2 = true := by kernel_rfl
theorem c3 : rowChk C0 t2 r3 = true := by kernel_rfl
theorem c4 : rowChk C0 t3 r4 = true := by kernel_rfl
theorem c5 : rowChk C0 t4 r5 = true := by kernel_rfl
theorem c6 : rowChk C0 t5 r6 = true := by kernel_rfl
theorem c7 : rowChk C0 t6 r7 = true := by kernel_rfl
theorem c8 : rowChk C0 t7 r8 = true := by kernel_rfl
theorem c9 : rowChk C0 t8 r9 = true := by kernel_rfl
theorem c10 : rowChk C0 t9 r10 = true := by kernel_rfl
theorem c11 : rowChk C0 t10 r11 = true := by kernel_rfl
theorem c12 : rowChk C0 t11 r12 = true := by kernel_rfl
theorem c13 : rowChk C0 t12 r13 = true := by kernel_rfl
theorem c14 : rowChk C0 t13 r14 = true := by kernel_rfl
theorem c15 : rowChk C0 t14 r15 = true := by kernel_rfl
theorem c16 : rowChk C0 t15 r16 = true := by kernel_rfl
theorem c17 : rowChk C0 t16 r17 = true := by kernel_rfl
theorem c18 : rowChk C0 t17 r18 = true := by kernel_rfl
theorem c19 : rowChk C0 t18 r19 = true := by kernel_rfl
theorem c20 : rowChk C0 t19 r20 = true := by kernel_rfl
theorem c21 : rowChk C0 t20 r21 = true := by kernel_rfl
theorem c22 : rowChk C0 t21 r22 = true := by kernel_rfl
theorem c23 : rowChk C0 t22 r23 = true := by kernel_rfl
theorem c24 : rowChk C0 t23 r24 = true := by kernel_rfl
theorem c25 : rowChk C0 t24 r25 = true := by kernel_rfl
theorem c26 : rowChk C0 t25 r26 = true := by kernel_rfl
theorem c27 : rowChk C0 t26 r27 = true := by kernel_rfl
theorem c28 : rowChk C0 t27 r28 = true := by kernel_rfl
theorem c29 : rowChk C0 t28 r29 = true := by kernel_rfl
theorem c30 : rowChk C0 t29 r30 = true := by kernel_rfl
theorem c31 : rowChk C0 t30 r31 = true := by kernel_rfl
theorem c32 : rowChk C0 t31 r32 = true := by kernel_rfl
theorem c33 : rowChk C0 t32 r33 = true := by kernel_rfl
theorem c34 : rowChk C0 t33 r34 = true := by kernel_rfl
theorem c35 : rowChk C0 t34 r35 = true := by kernel_rfl
theorem c36 : rowChk C0 t35 r36 = true := by kernel_rfl
theorem c37 : rowChk C0 t36 r37 = true := by kernel_rfl
theorem c38 : rowChk C0 t37 r38 = true := by kernel_rfl
theorem c39 : rowChk C0 t38 r39 = true := by kernel_rfl
def rS : Row := ⟨4, [], .bool (.bl true)⟩
def tS : List Row := rS :: t39
theorem cS : rowChk C0 t39 rS = true := by kernel_rfl
end Go.Sx
