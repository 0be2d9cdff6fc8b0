/- A part of the proof that doormanlaw21.LinOpen returns true for every input, on no condition. -/
import Derived.Test.YtbfajkpjilhkgaaGreatT3
set_option linter.unusedVariables false
set_option linter.unusedSimpArgs false
namespace Go.Dm
open Go Go.Proofs
set_option maxRecDepth 1000000
set_option linter.unusedVariables false
/-- doorman/book.Write -/
def S253 (a0 a1 a2 a3 : Value) (w : World) (R : Value → World → Prop) : Prop :=
 okB true 2 a0 = true ∧ okB true 7 a1 = true ∧ pv (fieldV false 1 1 a1) fun t21 => syC w no fun w1 X2 => CallsR Tryz.prog 287 #[a0, t21] w1 fun t22 w3 => kp X2 w1 w3 ∧ pv (extV t22 0) fun t23 => pv (extV t22 1) fun t24 => okB true 4 t23 = true ∧ pv (fieldV false 0 1 t23) fun t26 => syC w3 X2 fun w4 X5 => CallsR Tryz.prog 295 #[t26, a2] w4 fun t28 w6 => kp X5 w4 w6 ∧ pv (fieldV false 5 1 a1) fun t31 => CallsR Tryz.prog 276 #[a2, t31] w6 fun t32 w7 => kp X5 w6 w7 ∧ jnB (fun K8 => pv (fieldV false 0 1 a1) fun t34 => pv (binV .eql t34 (.int .i64 1)) fun t36 => condC t36
 (pv (fieldV false 2 1 a1) fun t40 => pv (fieldV false 3 1 a1) fun t42 => pv (fieldV false 4 1 a1) fun t44 => pv (buildV [(0, 1), (1, 1), (2, 1), (3, 1)] [(.int .i64 0), (.int .i64 0), (.int .i64 0), (.int .u64 0)] [(0, t40), (1, t42), (2, t44), (3, t32)]) fun t46 => CallsR Tryz.prog 328 #[t28, t46, a3] w7 fun t48 w12 => kp X5 w7 w12 ∧ pv (extV t48 0) fun t49 => pv (extV t48 1) fun t50 => K8 (upd (upd (upd (upd (upd (upd e0 14 t50) 13 t49) 8 (.agg #[(.slice none 0 0), (.slice none 0 0)])) 5 a1) 4 a0) 2 a2) w12 X5)
 (pv (binV .eql t34 (.int .i64 2)) fun t52 => condC t52
 (pv (fieldV false 2 1 a1) fun t56 => CallsR Tryz.prog 329 #[t28, t56, t32] w7 fun t58 w13 => kp X5 w7 w13 ∧ pv (extV t58 0) fun t59 => pv (extV t58 1) fun t60 => K8 (upd (upd (upd (upd (upd (upd e0 14 t60) 13 t59) 8 (.agg #[(.slice none 0 0), (.slice none 0 0)])) 5 a1) 4 a0) 2 a2) w13 X5)
 (pv (binV .eql t34 (.int .i64 3)) fun t62 => condC t62
 (pv (fieldV false 2 1 a1) fun t66 => CallsR Tryz.prog 330 #[t28, t66] w7 fun t67 w14 => kp X5 w7 w14 ∧ pv (extV t67 0) fun t68 => pv (extV t67 1) fun t69 => K8 (upd (upd (upd (upd (upd (upd e0 14 t69) 13 t68) 8 (.agg #[(.slice none 0 0), (.slice none 0 0)])) 5 a1) 4 a0) 2 a2) w14 X5)
 (K8 (upd (upd (upd (upd (upd (upd e0 14 (.int .i64 0)) 13 t28) 8 (.agg #[(.slice none 0 0), (.slice none 0 0)])) 5 a1) 4 a0) 2 a2) w7 X5))))
 (fun e9 w10 X11 => pv (fieldV false 1 1 (e9 5)) fun t73 => CallsR Tryz.prog 294 #[(e9 4), t73, (e9 13), (e9 2)] w10 fun t76 w15 => kp X11 w10 w15 ∧ pv (extV t76 0) fun t77 => pv (extV t76 1) fun t78 => okB true 2 t77 = true ∧ okB true 2 t77 = true ∧ syC w15 X11 fun w16 X17 => R (.tuple #[t77, t78, (e9 14)]) w16)
theorem sh253 {a0 a1 a2 a3 : Value} {w : World} {R : Value → World → Prop} (h : S253 a0 a1 a2 a3 w R) : CallsR Tryz.prog 253 #[a0, a1, a2, a3] w R :=
  vcFB_go mixed [(4, 2, true), (5, 7, true), (8, 2, true), (11, 4, true), (16, 2, true)] [(20, 5, 1), (25, 11, 0), (30, 5, 5), (33, 5, 0), (39, 5, 2), (41, 5, 3), (43, 5, 4), (55, 5, 2), (65, 5, 2), (72, 5, 1)] (.mk [] 2 true .nil (.mk [] 2 true .nil (.mk [] 2 true .nil (.mk [] 2 true .nil (.mk [] 2 true .nil (.mk [2, 4, 5, 8, 13, 14] 0 true .nil .nil)))))) [] [] 253 [a0, a1, a2, a3] (by kernel_rfl) h

/-- doorman/tick.Take -/
def S293 (a0 : Value) (w : World) (R : Value → World → Prop) : Prop :=
 okB true 3 a0 = true ∧ pv (fieldV false 1 1 a0) fun t5 => syC w no fun w1 X2 => CallsR Tryz.prog 276 #[t5, (.int .u64 1)] w1 fun t6 w3 => kp X2 w1 w3 ∧ pv (setV 1 1 a0 t6) fun c1_4 => syC w3 X2 fun w5 X6 => pv (fieldV false 1 1 c1_4) fun t10 => okB true 3 c1_4 = true ∧ (pv (fieldV false 1 1 c1_4) fun v => v = t10) ∧ (syC (drewW w5) X6 fun w7 X8 => R (.tuple #[c1_4, t10]) w7)
theorem sh293 {a0 : Value} {w : World} {R : Value → World → Prop} (h : S293 a0 w R) : CallsR Tryz.prog 293 #[a0] w R :=
  vcFB_go mixed [(1, 3, true), (2, 3, true)] [(4, 1, 1), (7, 1, 1), (9, 1, 1)] .nil [(2, (.cons 1 (.cons 0 (.cons 2 (.cons 3 (.cons 4 .nil))))), [0, 0, 2, 1, 15])] [] 293 [a0] (by kernel_rfl) h

/-- doorman/tick.Shut -/
def S180 (a0 : Value) (w : World) (R : Value → World → Prop) : Prop :=
 okB true 3 a0 = true ∧ pv (setV 2 1 a0 (.bool true)) fun c1_1 => okB true 3 c1_1 = true ∧ syC w no fun w2 X3 => R c1_1 w2
theorem sh180 {a0 : Value} {w : World} {R : Value → World → Prop} (h : S180 a0 w R) : CallsR Tryz.prog 180 #[a0] w R :=
  vcFB_go mixed [(1, 3, true), (2, 3, true)] [(3, 1, 2)] .nil [] [] 180 [a0] (by kernel_rfl) h

/-- doorman/feed.New -/
def S141 (a0 : Value) (w : World) (R : Value → World → Prop) : Prop :=
 pv (buildV [(0, 2), (2, 8)] [(.slice none 0 0), (.slice none 0 0), (.pointer none), (.pointer none), (.pointer none), (.pointer none), (.pointer none), (.pointer none), (.pointer none), (.pointer none)] []) fun t5 => alC w (Value.cells t5).toList 320 fun t6 w1 => jnB (fun K2 => lpB (fun e6 w7 X8 N9 => pv (binV .lss (e6 7) (.int .i64 8)) fun t8 => condC t8
 (pv (nilV (e6 3)) fun t14 => pv (addrV 2 t14) fun t15 => CallsR Tryz.prog 244 #[(e6 0)] (drewW w7) fun t13 w10 => pv (idxAV 8 1 t15 (e6 7)) fun t16 => stC w10 1 t16 t13 fun w11 => pv (binV .add (e6 7) (.int .i64 1)) fun t17 => N9 (upd (upd (upd e0 7 t17) 3 (e6 3)) 0 (e6 0)) w11 X8)
 (K2 (upd e0 3 (e6 3)) w7 X8)) (upd (upd (upd e0 7 (.int .i64 0)) 3 t6) 0 a0) w1 no)
 (fun e3 w4 X5 => R (e3 3) w4)
theorem sh141 {a0 : Value} {w : World} {R : Value → World → Prop} (h : S141 a0 w R) : CallsR Tryz.prog 141 #[a0] w R :=
  vcFB_go mixed [] [] (.mk [] 2 true .nil (.mk [] 2 true .nil (.mk [3] 0 false (.mk [] 2 true .nil (.mk [0, 3, 7] 0 false .nil .nil)) .nil))) [(5, (.cons 0 (.cons 1 (.cons 2 (.cons 4 (.cons 5 (.cons 3 (.cons 6 (.cons 7 .nil)))))))), [0, 0, 0, 4, 1, 17, 63, 127])] [] 141 [a0] (by kernel_rfl) h

/-- doorman/ring.New[doorman/api.Event] -/
def S244 (a0 : Value) (w : World) (R : Value → World → Prop) : Prop :=
 pv (maxV true a0 [(.int .i64 0)]) fun t4 => pv (buildV [(0, 1), (1, 1), (2, 1)] [(.int .i64 0), (.slice none 0 0), (.bool false)] [(0, t4)]) fun t5 => alC w (Value.cells t5).toList 384 fun t6 w1 => R t6 w1
theorem sh244 {a0 : Value} {w : World} {R : Value → World → Prop} (h : S244 a0 w R) : CallsR Tryz.prog 244 #[a0] w R :=
  vcFB_go mixed [] [] .nil [] [] 244 [a0] (by kernel_rfl) h

/-- (*doorman/feed.Feed).Tell -/
def S196 (a0 a1 a2 : Value) (w : World) (R : Value → World → Prop) : Prop :=
 pv (lenV a1) fun t11 => lpB (fun e1 w2 X3 N4 => pv (binV .lss (e1 12) (e1 11)) fun t13 => condC t13
 (jnB (fun K5 => pv (idxSV 7 (e1 10) (e1 12)) fun t14 => ldC w2 true 7 t14 fun t15 => okB true 7 t15 = true ∧ pv (nilV (e1 0)) fun t17 => pv (addrV 2 t17) fun t18 => syC w2 X3 fun w9 X10 => ldC w9 true 8 t18 fun t19 => lpB (fun e11 w12 X13 N14 => pv (binV .lss (e11 20) (.int .i64 8)) fun t21 => condC t21
 (jnB (fun K15 => pv (idxArrV false 8 1 (e11 19) (e11 20)) fun t23 => pv (fieldV false 0 1 (e11 7)) fun t27 => CallsR Tryz.prog 278 #[(e11 0), (e11 20), t27] w12 fun t28 w19 => kp X13 w12 w19 ∧ condC t28
 (pv (fieldV false 0 1 (e11 7)) fun t31 => pv (fieldV true 1 3 (e11 7)) fun t33 => pv (fieldV true 4 3 (e11 7)) fun t35 => pv (buildV [(0, 1), (1, 3), (4, 3), (7, 1)] [(.string ⟨#[]⟩), (.int .i64 0), (.int .i64 0), (.int .i64 0), (.int .i64 0), (.int .i64 0), (.int .i64 0), (.int .u64 0)] [(0, t31), (1, t33), (2, t35), (3, (e11 2))]) fun t37 => CallsR Tryz.prog 296 #[t23, t37] w19 fun t38 w20 => kp X13 w19 w20 ∧ K15 (upd (upd (upd (upd (upd (upd (upd (upd e0 20 (e11 20)) 19 (e11 19)) 12 (e11 12)) 11 (e11 11)) 10 (e11 10)) 7 (e11 7)) 2 (e11 2)) 0 (e11 0)) w20 X13)
 (K15 (upd (upd (upd (upd (upd (upd (upd (upd e0 20 (e11 20)) 19 (e11 19)) 12 (e11 12)) 11 (e11 11)) 10 (e11 10)) 7 (e11 7)) 2 (e11 2)) 0 (e11 0)) w19 X13))
 (fun e16 w17 X18 => pv (binV .add (e16 20) (.int .i64 1)) fun t39 => N14 (upd (upd (upd (upd (upd (upd (upd (upd e0 20 t39) 19 (e16 19)) 12 (e16 12)) 11 (e16 11)) 10 (e16 10)) 7 (e16 7)) 2 (e16 2)) 0 (e16 0)) w17 X18))
 (K5 (upd (upd (upd (upd (upd e0 12 (e11 12)) 11 (e11 11)) 10 (e11 10)) 2 (e11 2)) 0 (e11 0)) w12 X13)) (upd (upd (upd (upd (upd (upd (upd (upd e0 20 (.int .i64 0)) 19 t19) 12 (e1 12)) 11 (e1 11)) 10 (e1 10)) 7 t15) 2 (e1 2)) 0 (e1 0)) w9 X10)
 (fun e6 w7 X8 => pv (binV .add (e6 12) (.int .i64 1)) fun t40 => N4 (upd (upd (upd (upd (upd e0 12 t40) 11 (e6 11)) 10 (e6 10)) 2 (e6 2)) 0 (e6 0)) w7 X8))
 (R (.tuple #[]) w2)) (upd (upd (upd (upd (upd e0 12 (.int .i64 0)) 11 t11) 10 a1) 2 a2) 0 a0) w no
theorem sh196 {a0 a1 a2 : Value} {w : World} {R : Value → World → Prop} (h : S196 a0 a1 a2 w R) : CallsR Tryz.prog 196 #[a0, a1, a2] w R :=
  vcFB_go mixed [(7, 7, true)] [(26, 7, 0), (30, 7, 0), (32, 7, 1), (34, 7, 4)] (.mk [] 2 true .nil (.mk [0, 2, 10, 11, 12] 0 true (.mk [] 2 true .nil (.mk [] 2 true .nil (.mk [0, 2, 10, 11, 12] 0 true (.mk [] 2 true .nil (.mk [] 2 true .nil (.mk [0, 2, 7, 10, 11, 12, 19, 20] 0 true (.mk [] 2 true .nil (.mk [] 2 true .nil (.mk [0, 2, 7, 10, 11, 12, 19, 20] 0 true .nil .nil))) .nil))) .nil))) .nil)) [] [] 196 [a0, a1, a2] (by kernel_rfl) h

/-- (*doorman/feed.Feed).Drain -/
def S197 (a0 a1 : Value) (w : World) (R : Value → World → Prop) : Prop :=
 CallsR Tryz.prog 280 #[a1] w fun t7 w1 => pv (unV .not t7) fun t8 => condC t8
 (R (.tuple #[(.slice none 0 0), (.bool false)]) w1)
 (pv (nilV a0) fun t11 => pv (addrV 2 t11) fun t12 => pv (idxAV 8 1 t12 a1) fun t13 => ldC w1 false 1 t13 fun t14 => CallsR Tryz.prog 297 #[t14] w1 fun t15 w2 => pv (extV t15 0) fun t16 => pv (extV t15 1) fun t17 => R (.tuple #[t16, t17]) w2)
theorem sh197 {a0 a1 : Value} {w : World} {R : Value → World → Prop} (h : S197 a0 a1 w R) : CallsR Tryz.prog 197 #[a0, a1] w R :=
  vcFB_go mixed [] [] .nil [] [] 197 [a0, a1] (by kernel_rfl) h

/-- doorman/feed.Merge -/
def S85 (a0 : Value) (w : World) (R : Value → World → Prop) : Prop :=
 pv (lenV a0) fun t8 => msC w 8 [(.int .i64 0)] 3 t8 t8 fun t9 w1 => lpB (fun e2 w3 X4 N5 => jnB (fun K6 => pv (lenV (e2 0)) fun t11 => lpB (fun e10 w11 X12 N13 => pv (binV .lss (e10 12) (e10 11)) fun t13 => condC t13
 (jnB (fun K14 => pv (idxSV 1 (e10 4) (e10 12)) fun t17 => pv (idxSV 1 (e10 0) (e10 12)) fun t21 => ldC (drewW w11) false 1 t17 fun t18 => ldC (drewW w11) false 1 t21 fun t22 => pv (lenV t22) fun t23 => pv (binV .lss t18 t23) fun t24 => gdB t24 true (fun N18 => pv (binV .lss (e10 5) (.int .i64 0)) fun t27 => N18 (upd e0 28 t27) (drewW w11) X12) (fun N19 => N19 (upd e0 28 undef) (drewW w11) X12)
 (fun g20 w21 X22 => gdB (g20 28) false (fun N23 => pv (idxSV 1 (e10 0) (e10 12)) fun t31 => pv (idxSV 1 (e10 4) (e10 12)) fun t35 => pv (idxSV 1 (e10 0) (e10 5)) fun t42 => pv (idxSV 1 (e10 4) (e10 5)) fun t46 => ldC w21 false 1 t31 fun t32 => ldC w21 false 1 t35 fun t36 => pv (idxSV 8 t32 t36) fun t37 => pv (addrV 7 t37) fun t38 => ldC w21 false 1 t38 fun t39 => ldC w21 false 1 t42 fun t43 => ldC w21 false 1 t46 fun t47 => pv (idxSV 8 t43 t47) fun t48 => pv (addrV 7 t48) fun t49 => ldC w21 false 1 t49 fun t50 => pv (binV .lss t39 t50) fun t51 => N23 (upd e0 51 t51) w21 X22) (fun N24 => N24 (upd e0 51 undef) w21 X22)
 (fun g25 w26 X27 => gdB t24 true (fun N28 => pv (pickV (g20 28) (.bool true) (g25 51)) fun t52 => N28 (upd e0 52 t52) w26 X27) (fun N29 => N29 (upd e0 52 undef) w26 X27)
 (fun g30 w31 X32 => pv (pickV t24 (g30 52) (.bool false)) fun t53 => condC t53
 (K14 (upd (upd (upd (upd (upd (upd e0 12 (e10 12)) 11 (e10 11)) 5 (e10 12)) 4 (e10 4)) 3 (e10 3)) 0 (e10 0)) w31 X32)
 (K14 (upd (upd (upd (upd (upd (upd e0 12 (e10 12)) 11 (e10 11)) 5 (e10 5)) 4 (e10 4)) 3 (e10 3)) 0 (e10 0)) w31 X32)))))
 (fun e15 w16 X17 => pv (binV .add (e15 12) (.int .i64 1)) fun t55 => N13 (upd (upd (upd (upd (upd (upd e0 12 t55) 11 (e15 11)) 5 (e15 5)) 4 (e15 4)) 3 (e15 3)) 0 (e15 0)) w16 X17))
 (K6 (upd (upd (upd (upd e0 5 (e10 5)) 4 (e10 4)) 3 (e10 3)) 0 (e10 0)) w11 X12)) (upd (upd (upd (upd (upd (upd e0 12 (.int .i64 0)) 11 t11) 5 (.int .i64 (-1))) 4 (e2 4)) 3 (e2 3)) 0 (e2 0)) w3 X4)
 (fun e7 w8 X9 => pv (binV .lss (e7 5) (.int .i64 0)) fun t57 => condC t57
 (R (e7 3) w8)
 (pv (idxSV 1 (e7 0) (e7 5)) fun t62 => pv (idxSV 1 (e7 4) (e7 5)) fun t66 => ldC (drewW w8) false 1 t62 fun t63 => ldC (drewW w8) false 1 t66 fun t67 => pv (idxSV 8 t63 t67) fun t68 => ldC (drewW w8) true 8 t68 fun t69 => bsC (drewW w8) 8 [(.string ⟨#[]⟩), (.int .i64 0), (.int .i64 0), (.int .i64 0), (.int .i64 0), (.int .i64 0), (.int .i64 0), (.int .u64 0)] 152 1 [(0, t69)] fun t70 w33 => apC w33 72 8 [(.string ⟨#[]⟩), (.int .i64 0), (.int .i64 0), (.int .i64 0), (.int .i64 0), (.int .i64 0), (.int .i64 0), (.int .u64 0)] 152 (e7 3) t70 fun t71 w34 => pv (idxSV 1 (e7 4) (e7 5)) fun t74 => ldC w34 false 1 t74 fun t75 => pv (binV .add t75 (.int .i64 1)) fun t76 => pv (idxSV 1 (e7 4) (e7 5)) fun t77 => stC w34 1 t77 t76 fun w35 => N5 (upd (upd (upd e0 4 (e7 4)) 3 t71) 0 (e7 0)) w35 X9))) (upd (upd (upd e0 4 t9) 3 (.slice none 0 0)) 0 a0) w1 no
theorem sh85 {a0 : Value} {w : World} {R : Value → World → Prop} (h : S85 a0 w R) : CallsR Tryz.prog 85 #[a0] w R :=
  vcFB_go mixed [] [] (.mk [] 2 true .nil (.mk [] 2 true .nil (.mk [] 2 true .nil (.mk [0, 3, 4] 0 false (.mk [] 2 true .nil (.mk [0, 3, 4, 5] 0 false (.mk [] 2 true .nil (.mk [0, 3, 4, 5, 11, 12] 0 false (.mk [] 2 true .nil (.mk [] 2 true .nil (.mk [0, 3, 4, 5, 11, 12] 0 false .nil .nil))) .nil)) .nil)) .nil)))) [(7, (.cons 0 (.cons 1 (.cons 2 (.cons 4 (.cons 5 (.cons 6 (.cons 3 (.cons 7 (.cons 8 (.cons 9 (.cons 10 (.cons 11 (.cons 12 (.cons 13 (.cons 14 (.cons 15 (.cons 16 (.cons 18 (.cons 19 (.cons 20 (.cons 25 (.cons 26 (.cons 27 (.cons 29 (.cons 30 (.cons 31 (.cons 17 (.cons 21 (.cons 22 (.cons 23 (.cons 24 (.cons 28 (.cons 32 (.cons 33 (.cons 34 (.cons 35 (.cons 36 (.cons 37 (.cons 38 .nil))))))))))))))))))))))))))))))))))))))), [0, 0, 3, 7, 0, 0, 48, 112, 240, 511, 1023, 2047, 4095, 8191, 16383, 16383, 65535, 131071, 16383, 16383, 802815, 1851391, 4194303, 8388607, 16777215, 16383, 16383, 100679679, 234897407, 16383, 16383, 1610629119, 3758112767, 8556396543, 17146331135, 34326200319, 68719476735, 137438953471, 274877906943]), (12, (.cons 0 (.cons 1 (.cons 2 (.cons 3 (.cons 5 (.cons 6 (.cons 7 (.cons 4 (.cons 8 (.cons 9 (.cons 10 (.cons 11 (.cons 12 (.cons 13 .nil)))))))))))))), [0, 0, 0, 6, 14, 0, 0, 96, 224, 510, 1022, 2046, 4095, 8191])] [(7, [([28], 0, false), ([51], 0, false), ([52], 0, false)])] 85 [a0] (by kernel_rfl) h

/-- doorman/hall.New -/
def S30 (a0 : Value) (w : World) (R : Value → World → Prop) : Prop :=
 okB true 7 a0 = true ∧ syC w no fun w1 X2 => CallsR Tryz.prog 139 #[a0] w1 fun t6 w3 => kp X2 w1 w3 ∧ pv (unV .not t6) fun t7 => condC t7
 (R (.tuple #[(.pointer none), (.int .i64 1)]) w3)
 (pv (fieldV false 6 1 a0) fun t10 => pv (buildV [(0, 1), (1, 1), (2, 1)] [(.int .u64 0), (.int .u64 0), (.bool false)] [(0, t10)]) fun t11 => pv (buildV [(0, 7), (7, 3), (10, 1), (11, 1)] [(.int .i64 0), (.int .i64 0), (.int .i64 0), (.int .i64 0), (.int .i64 0), (.int .u64 0), (.int .u64 0), (.int .u64 0), (.int .u64 0), (.bool false), (.slice none 0 0), (.slice none 0 0)] [(0, a0), (1, t11)]) fun t12 => alC w3 (Value.cells t12).toList 182 fun t13 w4 => jnB (fun K5 => pv (fieldV false 0 1 a0) fun t15 => lpB (fun e9 w10 X11 N12 => pv (binV .lss (e9 16) (e9 15)) fun t17 => condC t17
 (pv (nilV (e9 4)) fun t20 => pv (addrV 10 t20) fun t21 => ldC (drewW w10) false 1 t21 fun t22 => pv (fieldV false 5 1 (e9 1)) fun t24 => pv (fieldV false 2 1 (e9 1)) fun t27 => CallsR Tryz.prog 140 #[t24] (drewW w10) fun t25 w13 => kp X11 (drewW w10) w13 ∧ (pv (fieldV false 2 1 (e9 1)) fun v => v = t27) ∧ Ld w13 false 1 t21 t22 ∧ (CallsR Tryz.prog 141 #[t27] w13 fun t28 w14 => kp X11 w13 w14 ∧ Ld w14 false 1 t21 t22 ∧ (pv (buildV [(0, 1), (1, 2), (3, 2), (5, 2), (7, 1)] [(.int .i64 0), (.int .u64 0), (.int .u64 0), (.slice none 0 0), (.slice none 0 0), (.slice none 0 0), (.slice none 0 0), (.pointer none)] [(1, t25), (4, t28)]) fun t29 => bsC w14 8 [(.int .i64 0), (.int .u64 0), (.int .u64 0), (.slice none 0 0), (.slice none 0 0), (.slice none 0 0), (.slice none 0 0), (.pointer none)] 194 1 [(0, t29)] fun t30 w15 => Ld w15 false 1 t21 t22 ∧ (apC w15 128 8 [(.int .i64 0), (.int .u64 0), (.int .u64 0), (.slice none 0 0), (.slice none 0 0), (.slice none 0 0), (.slice none 0 0), (.pointer none)] 194 t22 t30 fun t31 w16 => kp X11 w15 w16 ∧ pv (nilV (e9 4)) fun t32 => pv (addrV 10 t32) fun t33 => stC w16 1 t33 t31 fun w17 => kp X11 w16 w17 ∧ pv (binV .add (e9 16) (.int .i64 1)) fun t34 => N12 (upd (upd (upd (upd e0 16 t34) 15 (e9 15)) 4 (e9 4)) 1 (e9 1)) w17 X11))))
 (K5 (upd e0 4 (e9 4)) w10 X11)) (upd (upd (upd (upd e0 16 (.int .i64 0)) 15 t15) 4 t13) 1 a0) w4 X2)
 (fun e6 w7 X8 => R (.tuple #[(e6 4), (.int .i64 0)]) w7))
theorem sh30 {a0 : Value} {w : World} {R : Value → World → Prop} (h : S30 a0 w R) : CallsR Tryz.prog 30 #[a0] w R :=
  vcFB_go mixed [(1, 7, true)] [(9, 1, 6), (14, 1, 0), (23, 1, 5), (26, 1, 2)] (.mk [] 2 true .nil (.mk [] 2 true .nil (.mk [] 2 true .nil (.mk [4] 0 true (.mk [] 2 true .nil (.mk [1, 4, 15, 16] 0 true .nil .nil)) .nil)))) [(6, (.cons 0 (.cons 1 (.cons 2 (.cons 3 (.cons 5 (.cons 8 (.cons 4 (.cons 6 (.cons 9 (.cons 7 (.cons 10 (.cons 11 (.cons 12 (.cons 13 (.cons 14 (.cons 15 (.cons 16 .nil))))))))))))))))), [0, 0, 2, 6, 14, 0, 32, 96, 0, 256, 992, 2016, 4064, 8190, 16383, 32767, 65535])] [] 30 [a0] (by kernel_rfl) h

/-- doorman/cell.New -/
def S140 (a0 : Value) (w : World) (R : Value → World → Prop) : Prop :=
 pv (binV .andNot a0 (.int .u64 1)) fun t4 => pv (buildV [(0, 1), (1, 1)] [(.int .u64 0), (.int .u64 0)] [(1, t4)]) fun t5 => okB true 2 t5 = true ∧ syC w no fun w1 X2 => R t5 w1
theorem sh140 {a0 : Value} {w : World} {R : Value → World → Prop} (h : S140 a0 w R) : CallsR Tryz.prog 140 #[a0] w R :=
  vcFB_go mixed [(2, 2, true)] [] .nil [] [] 140 [a0] (by kernel_rfl) h

/-- doorman/model.Right -/
def S139 (a0 : Value) (w : World) (R : Value → World → Prop) : Prop :=
 okB true 7 a0 = true ∧ pv (fieldV false 0 1 a0) fun t4 => syC w no fun w1 X2 => CallsR Tryz.prog 174 #[t4, (.int .i64 1), (.int .i64 8)] w1 fun t5 w3 => kp X2 w1 w3 ∧ gdB t5 true (fun N4 => pv (fieldV false 1 1 a0) fun t8 => CallsR Tryz.prog 174 #[t8, (.int .i64 1), (.int .i64 8)] w3 fun t9 w9 => kp X2 w3 w9 ∧ N4 (upd e0 9 t9) w9 X2) (fun N5 => N5 (upd e0 9 undef) w3 X2)
 (fun g6 w7 X8 => pv (pickV t5 (g6 9) (.bool false)) fun t10 => gdB t10 true (fun N10 => pv (fieldV false 2 1 a0) fun t13 => CallsR Tryz.prog 174 #[t13, (.int .i64 1), (.int .i64 16)] w7 fun t14 w15 => kp X8 w7 w15 ∧ N10 (upd e0 14 t14) w15 X8) (fun N11 => N11 (upd e0 14 undef) w7 X8)
 (fun g12 w13 X14 => pv (pickV t10 (g12 14) (.bool false)) fun t15 => gdB t15 true (fun N16 => pv (fieldV false 3 1 a0) fun t18 => CallsR Tryz.prog 174 #[t18, (.int .i64 1), (.int .i64 8)] w13 fun t19 w21 => kp X14 w13 w21 ∧ N16 (upd e0 19 t19) w21 X14) (fun N17 => N17 (upd e0 19 undef) w13 X14)
 (fun g18 w19 X20 => pv (pickV t15 (g18 19) (.bool false)) fun t20 => gdB t20 true (fun N22 => pv (fieldV false 4 1 a0) fun t23 => CallsR Tryz.prog 174 #[t23, (.int .i64 0), (.int .i64 4)] w19 fun t24 w27 => kp X20 w19 w27 ∧ N22 (upd e0 24 t24) w27 X20) (fun N23 => N23 (upd e0 24 undef) w19 X20)
 (fun g24 w25 X26 => pv (pickV t20 (g24 24) (.bool false)) fun t25 => R t25 w25))))
theorem sh139 {a0 : Value} {w : World} {R : Value → World → Prop} (h : S139 a0 w R) : CallsR Tryz.prog 139 #[a0] w R :=
  vcFB_go mixed [(1, 7, true)] [(3, 1, 0), (7, 1, 1), (12, 1, 2), (17, 1, 3), (22, 1, 4)] .nil [] [(1, [([9], 0, true), ([14], 0, true), ([19], 0, true), ([24], 0, true)])] 139 [a0] (by kernel_rfl) h

end Go.Dm
namespace Go.Dm
open Go Go.Proofs
set_option maxRecDepth 1000000
set_option linter.unusedVariables false
/-- doorman/doormanlaw10.Small -/
def S59 (w : World) (R : Value → World → Prop) : Prop :=
 pv (buildV [(0, 1), (1, 1), (2, 1), (3, 1), (4, 1), (5, 1), (6, 1)] [(.int .i64 0), (.int .i64 0), (.int .i64 0), (.int .i64 0), (.int .i64 0), (.int .u64 0), (.int .u64 0)] [(0, (.int .i64 3)), (1, (.int .i64 2)), (2, (.int .i64 16)), (3, (.int .i64 4)), (4, (.int .i64 1)), (5, (.int .u64 100))]) fun t1 => okB true 7 t1 = true ∧ syC w no fun w1 X2 => R t1 w1
theorem sh59 {w : World} {R : Value → World → Prop} (h : S59 w R) : CallsR Tryz.prog 59 #[] w R :=
  vcFB_go mixed [(0, 7, true)] [] .nil [] [] 59 [] (by kernel_rfl) h

/-- doorman/model.New -/
def S60 (a0 : Value) (w : World) (R : Value → World → Prop) : Prop :=
 okB true 7 a0 = true ∧ syC w no fun w1 X2 => CallsR Tryz.prog 139 #[a0] w1 fun t6 w3 => kp X2 w1 w3 ∧ pv (unV .not t6) fun t7 => condC t7
 (R (.tuple #[(.pointer none), (.int .i64 1)]) w3)
 (pv (fieldV false 6 1 a0) fun t10 => pv (buildV [(0, 1), (1, 1), (2, 1)] [(.int .u64 0), (.int .u64 0), (.bool false)] [(0, t10)]) fun t11 => pv (fieldV false 0 1 a0) fun t13 => msC (drewW w3) 48 [(.slice none 0 0), (.slice none 0 0)] 192 t13 t13 fun t14 w4 => (pv (fieldV false 6 1 a0) fun v => v = t10) ∧ a0 = a0 ∧ (pv (buildV [(0, 7), (7, 3), (10, 1), (11, 1)] [(.int .i64 0), (.int .i64 0), (.int .i64 0), (.int .i64 0), (.int .i64 0), (.int .u64 0), (.int .u64 0), (.int .u64 0), (.int .u64 0), (.bool false), (.slice none 0 0), (.slice none 0 0)] [(0, a0), (1, t11), (2, t14)]) fun t15 => alC w4 (Value.cells t15).toList 236 fun t16 w5 => jnB (fun K6 => pv (fieldV false 0 1 a0) fun t18 => lpB (fun e10 w11 X12 N13 => pv (binV .lss (e10 19) (e10 18)) fun t20 => condC t20
 (pv (nilV (e10 4)) fun t23 => pv (addrV 11 t23) fun t24 => ldC (drewW w11) false 1 t24 fun t25 => pv (fieldV false 2 1 (e10 1)) fun t27 => CallsR Tryz.prog 141 #[t27] (drewW w11) fun t28 w14 => kp X12 (drewW w11) w14 ∧ Ld w14 false 1 t24 t25 ∧ (bsC w14 1 [(.pointer none)] 186 1 [(0, t28)] fun t29 w15 => Ld w15 false 1 t24 t25 ∧ (apC w15 8 1 [(.pointer none)] 186 t25 t29 fun t30 w16 => kp X12 w15 w16 ∧ pv (nilV (e10 4)) fun t31 => pv (addrV 11 t31) fun t32 => stC w16 1 t32 t30 fun w17 => kp X12 w16 w17 ∧ pv (binV .add (e10 19) (.int .i64 1)) fun t33 => N13 (upd (upd (upd (upd e0 19 t33) 18 (e10 18)) 4 (e10 4)) 1 (e10 1)) w17 X12)))
 (K6 (upd e0 4 (e10 4)) w11 X12)) (upd (upd (upd (upd e0 19 (.int .i64 0)) 18 t18) 4 t16) 1 a0) w5 X2)
 (fun e7 w8 X9 => R (.tuple #[(e7 4), (.int .i64 0)]) w8)))
theorem sh60 {a0 : Value} {w : World} {R : Value → World → Prop} (h : S60 a0 w R) : CallsR Tryz.prog 60 #[a0] w R :=
  vcFB_go mixed [(1, 7, true)] [(9, 1, 6), (12, 1, 0), (17, 1, 0), (26, 1, 2)] (.mk [] 2 true .nil (.mk [] 2 true .nil (.mk [] 2 true .nil (.mk [4] 0 true (.mk [] 2 true .nil (.mk [1, 4, 18, 19] 0 true .nil .nil)) .nil)))) [(3, (.cons 1 (.cons 4 (.cons 0 (.cons 2 (.cons 3 (.cons 5 (.cons 6 (.cons 7 (.cons 8 (.cons 9 .nil)))))))))), [0, 0, 2, 6, 0, 16, 48, 127, 255, 511]), (6, (.cons 0 (.cons 1 (.cons 2 (.cons 3 (.cons 5 (.cons 4 (.cons 6 (.cons 7 (.cons 8 (.cons 9 (.cons 10 (.cons 11 (.cons 12 .nil))))))))))))), [0, 0, 2, 6, 14, 0, 32, 96, 224, 510, 1023, 2047, 4095])] [] 60 [a0] (by kernel_rfl) h

/-- doorman/doormanref10.Short -/
def S62 (a0 : Value) (w : World) (R : Value → World → Prop) : Prop :=
 okB true 7 a0 = true ∧ pv (fieldV false 1 1 a0) fun t5 => pv (lenSV t5) fun t6 => pv (binV .gtr t6 (.int .i64 40)) fun t7 => gdB t7 false (fun N1 => pv (fieldV false 6 1 a0) fun t10 => pv (lenV t10) fun t11 => pv (binV .gtr t11 (.int .i64 20)) fun t12 => N1 (upd e0 12 t12) w no) (fun N2 => N2 (upd e0 12 undef) w no)
 (fun g3 w4 X5 => pv (pickV t7 (.bool true) (g3 12)) fun t13 => condC t13
 (syC w4 X5 fun w6 X7 => R (.bool false) w6)
 (jnB (fun K8 => lpB (fun e12 w13 X14 N15 => pv (fieldV false 6 1 (e12 1)) fun t16 => pv (lenV t16) fun t17 => pv (binV .lss (e12 3) t17) fun t18 => condC t18
 (pv (fieldV false 6 1 (e12 1)) fun t22 => pv (idxSV 1 t22 (e12 3)) fun t24 => ldC w13 false 1 t24 fun t25 => pv (lenSV t25) fun t26 => pv (binV .gtr t26 (.int .i64 40)) fun t27 => condC t27
 (syC w13 X14 fun w16 X17 => R (.bool false) w16)
 (pv (binV .add (e12 3) (.int .i64 1)) fun t20 => N15 (upd (upd e0 3 t20) 1 (e12 1)) w13 X14))
 (K8 e0 w13 X14)) (upd (upd e0 3 (.int .i64 0)) 1 a0) w4 X5)
 (fun e9 w10 X11 => syC w10 X11 fun w18 X19 => R (.bool true) w18)))
theorem sh62 {a0 : Value} {w : World} {R : Value → World → Prop} (h : S62 a0 w R) : CallsR Tryz.prog 62 #[a0] w R :=
  vcFB_go mixed [(1, 7, true)] [(4, 1, 1), (9, 1, 6), (15, 1, 6), (21, 1, 6)] (.mk [] 2 true .nil (.mk [] 2 true .nil (.mk [] 1 false (.mk [] 2 true .nil (.mk [1, 3] 1 false .nil .nil)) .nil))) [] [(1, [([12], 1, false)])] 62 [a0] (by kernel_rfl) h

/-- (*doorman/model.Model).Tick -/
def S64 (a0 a1 : Value) (w : World) (R : Value → World → Prop) : Prop :=
 pv (nilV a0) fun t6 => pv (addrV 7 t6) fun t7 => ldC w true 3 t7 fun t8 => CallsR Tryz.prog 171 #[t8, a1] w fun t10 w1 => pv (nilV a0) fun t11 => pv (addrV 7 t11) fun t12 => stC w1 3 t12 t10 fun w2 => R (.tuple #[]) w2
theorem sh64 {a0 a1 : Value} {w : World} {R : Value → World → Prop} (h : S64 a0 a1 w R) : CallsR Tryz.prog 64 #[a0, a1] w R :=
  vcFB_go mixed [] [] .nil [] [] 64 [a0, a1] (by kernel_rfl) h

/-- doorman/model.Bad -/
def S67 (a0 : Value) (w : World) (R : Value → World → Prop) : Prop :=
 okB true 7 a0 = true ∧ jnB (fun K1 => pv (fieldV false 0 1 a0) fun t6 => pv (binV .eql t6 (.int .i64 1)) fun t8 => condC t8
 (pv (fieldV false 1 1 a0) fun t10 => syC w no fun w5 X6 => CallsR Tryz.prog 172 #[t10] w5 fun t11 w7 => kp X6 w5 w7 ∧ pv (unV .not t11) fun t12 => gdB t12 false (fun N8 => pv (fieldV false 2 1 a0) fun t15 => pv (fieldV false 3 1 a0) fun t17 => pv (fieldV false 4 1 a0) fun t19 => CallsR Tryz.prog 173 #[t15, t17, t19] w7 fun t20 w13 => kp X6 w7 w13 ∧ pv (unV .not t20) fun t21 => N8 (upd e0 21 t21) w13 X6) (fun N9 => N9 (upd e0 21 undef) w7 X6)
 (fun g10 w11 X12 => pv (pickV t12 (.bool true) (g10 21)) fun t22 => R t22 w11))
 (jnB (fun K14 => pv (binV .eql t6 (.int .i64 2)) fun t24 => condC t24
 (K14 (upd (upd (upd e0 23 t24) 6 t6) 1 a0) w no)
 (pv (binV .eql t6 (.int .i64 3)) fun t25 => K14 (upd (upd (upd e0 23 t25) 6 t6) 1 a0) w no))
 (fun e15 w16 X17 => condC (e15 23)
 (pv (fieldV false 1 1 (e15 1)) fun t27 => syC w16 X17 fun w18 X19 => CallsR Tryz.prog 172 #[t27] w18 fun t28 w20 => kp X19 w18 w20 ∧ pv (unV .not t28) fun t29 => gdB t29 false (fun N21 => pv (fieldV false 2 1 (e15 1)) fun t32 => CallsR Tryz.prog 174 #[t32, (.int .i64 0), (.int .i64 255)] w20 fun t33 w26 => kp X19 w20 w26 ∧ pv (unV .not t33) fun t34 => N21 (upd e0 34 t34) w26 X19) (fun N22 => N22 (upd e0 34 undef) w20 X19)
 (fun g23 w24 X25 => pv (pickV t29 (.bool true) (g23 34)) fun t35 => R t35 w24))
 (jnB (fun K27 => pv (binV .eql (e15 6) (.int .i64 4)) fun t37 => condC t37
 (K27 (upd (upd (upd e0 36 t37) 6 (e15 6)) 1 (e15 1)) w16 X17)
 (pv (binV .eql (e15 6) (.int .i64 6)) fun t38 => condC t38
 (K27 (upd (upd (upd e0 36 t38) 6 (e15 6)) 1 (e15 1)) w16 X17)
 (pv (binV .eql (e15 6) (.int .i64 7)) fun t39 => K27 (upd (upd (upd e0 36 t39) 6 (e15 6)) 1 (e15 1)) w16 X17)))
 (fun e28 w29 X30 => condC (e28 36)
 (pv (fieldV false 1 1 (e28 1)) fun t41 => syC w29 X30 fun w31 X32 => CallsR Tryz.prog 172 #[t41] w31 fun t42 w33 => kp X32 w31 w33 ∧ pv (unV .not t42) fun t43 => R t43 w33)
 (pv (binV .eql (e28 6) (.int .i64 5)) fun t45 => condC t45
 (jnB (fun K34 => pv (fieldV false 6 1 (e28 1)) fun t47 => pv (lenV t47) fun t48 => lpB (fun e38 w39 X40 N41 => pv (binV .lss (e38 49) (e38 48)) fun t50 => condC t50
 (pv (idxSV 1 (e38 47) (e38 49)) fun t51 => ldC w39 false 1 t51 fun t52 => syC w39 X40 fun w42 X43 => CallsR Tryz.prog 172 #[t52] w42 fun t54 w44 => kp X43 w42 w44 ∧ pv (unV .not t54) fun t55 => condC t55
 (R (.bool true) w44)
 (pv (binV .add (e38 49) (.int .i64 1)) fun t56 => N41 (upd (upd (upd (upd e0 49 t56) 48 (e38 48)) 47 (e38 47)) 1 (e38 1)) w44 X43))
 (K34 (upd e0 1 (e38 1)) w39 X40)) (upd (upd (upd (upd e0 49 (.int .i64 0)) 48 t48) 47 t47) 1 (e28 1)) w29 X30)
 (fun e35 w36 X37 => pv (fieldV false 6 1 (e35 1)) fun t58 => pv (lenV t58) fun t59 => syC w36 X37 fun w45 X46 => CallsR Tryz.prog 174 #[t59, (.int .i64 1), (.int .i64 8)] w45 fun t60 w47 => kp X46 w45 w47 ∧ pv (unV .not t60) fun t61 => R t61 w47))
 (jnB (fun K48 => pv (binV .eql (e28 6) (.int .i64 8)) fun t63 => condC t63
 (K48 (upd e0 62 t63) w29 X30)
 (pv (binV .eql (e28 6) (.int .i64 9)) fun t64 => K48 (upd e0 62 t64) w29 X30))
 (fun e49 w50 X51 => condC (e49 62)
 (syC w50 X51 fun w52 X53 => R (.bool false) w52)
 (K1 e0 w50 X51)))))))))
 (fun e2 w3 X4 => syC w3 X4 fun w54 X55 => R (.bool true) w54)
theorem sh67 {a0 : Value} {w : World} {R : Value → World → Prop} (h : S67 a0 w R) : CallsR Tryz.prog 67 #[a0] w R :=
  vcFB_go mixed [(1, 7, true)] [(5, 1, 0), (9, 1, 1), (14, 1, 2), (16, 1, 3), (18, 1, 4), (26, 1, 1), (31, 1, 2), (40, 1, 1), (46, 1, 6), (57, 1, 6)] (.mk [] 2 true .nil (.mk [] 1 false (.mk [] 2 true .nil (.mk [] 2 true .nil (.mk [] 2 true .nil (.mk [1, 6, 23] 1 false .nil (.mk [] 2 true .nil (.mk [1, 6, 36] 1 false .nil (.mk [] 2 true .nil (.mk [] 2 true .nil (.mk [] 2 true (.mk [1] 1 true (.mk [] 2 true .nil (.mk [1, 47, 48, 49] 1 true .nil .nil)) .nil) (.mk [62] 1 false .nil .nil)))))))))) .nil)) [] [(3, [([21], 0, true)]), (6, [([34], 0, true)])] 67 [a0] (by kernel_rfl) h

/-- (*doorman/model.Model).Do -/
def S69 (a0 a1 a2 : Value) (w : World) (R : Value → World → Prop) : Prop :=
 okB true 7 a2 = true ∧ syC w no fun w1 X2 => CallsR Tryz.prog 67 #[a2] w1 fun t11 w3 => kp X2 w1 w3 ∧ gdB t11 false (fun N4 => CallsR Tryz.prog 174 #[a1, (.int .i64 0), (.int .i64 7)] w3 fun t14 w9 => kp X2 w3 w9 ∧ pv (unV .not t14) fun t15 => N4 (upd e0 15 t15) w9 X2) (fun N5 => N5 (upd e0 15 undef) w3 X2)
 (fun g6 w7 X8 => pv (pickV t11 (.bool true) (g6 15)) fun t16 => condC t16
 (pv (buildV [(0, 1), (1, 1), (2, 1), (3, 1)] [(.int .i64 0), (.slice none 0 0), (.slice none 0 0), (.bool false)] [(0, (.int .i64 1))]) fun t17 => okB true 4 t17 = true ∧ syC w7 X8 fun w10 X11 => R t17 w10)
 (pv (fieldV false 0 1 a2) fun t19 => jnB (fun K12 => pv (binV .eql t19 (.int .i64 1)) fun t21 => condC t21
 (K12 (upd (upd (upd (upd (upd (upd e0 20 t21) 19 t19) 6 (.agg #[(.int .i64 0), (.slice none 0 0), (.slice none 0 0), (.bool false)])) 5 a2) 1 a1) 0 a0) w7 X8)
 (pv (binV .eql t19 (.int .i64 2)) fun t22 => condC t22
 (K12 (upd (upd (upd (upd (upd (upd e0 20 t22) 19 t19) 6 (.agg #[(.int .i64 0), (.slice none 0 0), (.slice none 0 0), (.bool false)])) 5 a2) 1 a1) 0 a0) w7 X8)
 (pv (binV .eql t19 (.int .i64 3)) fun t23 => K12 (upd (upd (upd (upd (upd (upd e0 20 t23) 19 t19) 6 (.agg #[(.int .i64 0), (.slice none 0 0), (.slice none 0 0), (.bool false)])) 5 a2) 1 a1) 0 a0) w7 X8)))
 (fun e13 w14 X15 => condC (e13 20)
 (CallsR Tryz.prog 175 #[(e13 0), (e13 5)] w14 fun t26 w16 => kp X15 w14 w16 ∧ okB true 4 t26 = true ∧ syC w16 X15 fun w17 X18 => R t26 w17)
 (pv (binV .eql (e13 19) (.int .i64 8)) fun t28 => condC t28
 (CallsR Tryz.prog 176 #[(e13 0), (e13 1)] w14 fun t31 w19 => kp X15 w14 w19 ∧ okB true 4 t31 = true ∧ syC w19 X15 fun w20 X21 => R t31 w20)
 (pv (nilV (e13 0)) fun t33 => pv (addrV 7 t33) fun t34 => pv (addrV 2 t34) fun t35 => ldC w14 false 1 t35 fun t36 => condC t36
 (pv (buildV [(0, 1), (1, 1), (2, 1), (3, 1)] [(.int .i64 0), (.slice none 0 0), (.slice none 0 0), (.bool false)] [(0, (.int .i64 5))]) fun t37 => okB true 4 t37 = true ∧ syC w14 X15 fun w22 X23 => R t37 w22)
 (jnB (fun K24 => pv (fieldV false 0 1 (e13 5)) fun t39 => pv (binV .eql t39 (.int .i64 6)) fun t57 => condC t57
 (pv (fieldV false 1 1 (e13 5)) fun t61 => syC w14 X15 fun w28 X29 => CallsR Tryz.prog 177 #[(e13 0), (e13 1), t61] w28 fun t62 w30 => kp X29 w28 w30 ∧ pv (setV 0 1 (.agg #[(.int .i64 0), (.slice none 0 0), (.slice none 0 0), (.bool false)]) t62) fun c7_31 => K24 (upd (upd e0 7 c7_31) 6 (e13 6)) w30 X29)
 (pv (binV .eql t39 (.int .i64 7)) fun t65 => condC t65
 (syC w14 X15 fun w32 X33 => pv (nilV (e13 0)) fun t67 => pv (addrV 11 t67) fun t68 => ldC (drewW w32) false 1 t68 fun t69 => pv (fieldV false 1 1 (e13 5)) fun t72 => pv (fieldV false 1 1 (e13 5)) fun t78 => CallsR Tryz.prog 178 #[(e13 0), t72] (drewW w32) fun t73 w34 => kp X33 (drewW w32) w34 ∧ (pv (fieldV false 1 1 (e13 5)) fun v => v = t78) ∧ Ld w34 false 1 t68 t69 ∧ (pv (idxSV 1 t69 t73) fun t74 => ldC w34 false 1 t74 fun t75 => CallsR Tryz.prog 179 #[t75, (e13 1), t78] w34 fun t79 w35 => kp X33 w34 w35 ∧ K24 (upd (upd e0 7 (.agg #[(.int .i64 0), (.slice none 0 0), (.slice none 0 0), (.bool false)])) 6 (e13 6)) w35 X33))
 (pv (binV .eql t39 (.int .i64 9)) fun t81 => condC t81
 (pv (nilV (e13 0)) fun t84 => pv (addrV 7 t84) fun t85 => ldC w14 true 3 t85 fun t86 => syC w14 X15 fun w36 X37 => CallsR Tryz.prog 180 #[t86] w36 fun t87 w38 => kp X37 w36 w38 ∧ pv (nilV (e13 0)) fun t88 => pv (addrV 7 t88) fun t89 => stC w38 3 t89 t87 fun w39 => kp X37 w38 w39 ∧ K24 (upd (upd e0 7 (.agg #[(.int .i64 0), (.slice none 0 0), (.slice none 0 0), (.bool false)])) 6 (e13 6)) w39 X37)
 (syC w14 X15 fun w40 X41 => CallsR Tryz.prog 181 #[(e13 5)] w40 fun t41 w42 => kp X41 w40 w42 ∧ pv (lenV t41) fun t42 => lpB (fun e43 w44 X45 N46 => pv (binV .lss (e43 43) (e43 42)) fun t44 => condC t44
 (pv (idxSV 1 (e43 41) (e43 43)) fun t45 => syC w44 X45 fun w47 X48 => ldC w47 false 1 t45 fun t46 => pv (fieldV false 1 1 (e43 7)) fun t48 => CallsR Tryz.prog 182 #[(e43 0), t46] (drewW w47) fun t51 w49 => kp X48 (drewW w47) w49 ∧ (pv (fieldV false 1 1 (e43 7)) fun v => v = t48) ∧ (bsC w49 3 [(.int .i64 0), (.int .i64 0), (.int .i64 0)] 150 1 [(0, t51)] fun t52 w50 => (pv (fieldV false 1 1 (e43 7)) fun v => v = t48) ∧ (apC w50 24 3 [(.int .i64 0), (.int .i64 0), (.int .i64 0)] 150 t48 t52 fun t53 w51 => kp X48 w50 w51 ∧ pv (setV 1 1 (e43 7) t53) fun c7_52 => pv (binV .add (e43 43) (.int .i64 1)) fun t55 => N46 (upd (upd (upd (upd (upd (upd e0 43 t55) 42 (e43 42)) 41 (e43 41)) 7 c7_52) 6 (e43 6)) 0 (e43 0)) w51 X48)))
 (K24 (upd (upd e0 7 (e43 7)) 6 (e43 6)) w44 X45)) (upd (upd (upd (upd (upd (upd e0 43 (.int .i64 0)) 42 t42) 41 t41) 7 (.agg #[(.int .i64 0), (.slice none 0 0), (.slice none 0 0), (.bool false)])) 6 (e13 6)) 0 (e13 0)) w42 X41))))
 (fun e25 w26 X27 => okB true 4 (e25 7) = true ∧ syC w26 X27 fun w53 X54 => R (e25 7) w53)))))))
theorem sh69 {a0 a1 a2 : Value} {w : World} {R : Value → World → Prop} (h : S69 a0 a1 a2 w R) : CallsR Tryz.prog 69 #[a0, a1, a2] w R :=
  vcFB_go mixed [(5, 7, true), (6, 4, true), (7, 4, true)] [(18, 5, 0), (38, 5, 0), (47, 7, 1), (54, 7, 1), (60, 5, 1), (63, 7, 0), (71, 5, 1), (77, 5, 1)] (.mk [] 2 true .nil (.mk [] 2 true .nil (.mk [] 2 true (.mk [] 2 true .nil (.mk [0, 1, 5, 6, 19, 20] 0 true .nil .nil)) (.mk [] 2 true .nil (.mk [] 2 true .nil (.mk [6, 7] 2 true (.mk [] 2 true .nil (.mk [] 2 true .nil (.mk [] 2 true .nil (.mk [] 2 true .nil (.mk [] 2 true .nil (.mk [] 2 true .nil (.mk [] 2 true .nil (.mk [] 2 true .nil (.mk [0, 6, 7, 41, 42, 43] 2 true .nil .nil))))))))) .nil)))))) [(22, (.cons 0 (.cons 1 (.cons 2 (.cons 4 (.cons 5 (.cons 10 (.cons 11 (.cons 3 (.cons 6 (.cons 12 (.cons 7 (.cons 8 (.cons 9 (.cons 13 .nil)))))))))))))), [0, 1, 3, 7, 0, 0, 32, 112, 255, 511, 0, 0, 2048, 8191]), (17, (.cons 0 (.cons 2 (.cons 3 (.cons 1 (.cons 4 (.cons 5 (.cons 6 (.cons 7 (.cons 8 .nil))))))))), [0, 1, 0, 0, 12, 28, 63, 127, 255])] [(1, [([15], 0, true)])] 69 [a0, a1, a2] (by kernel_rfl) h

/-- (*doorman/model.Model).Sweep -/
def S83 (a0 a1 : Value) (w : World) (R : Value → World → Prop) : Prop :=
 pv (binV .lss a1 (.int .i64 0)) fun t7 => gdB t7 false (fun N1 => pv (nilV a0) fun t11 => pv (addrV 10 t11) fun t12 => ldC w false 1 t12 fun t13 => pv (lenV t13) fun t14 => pv (binV .geq a1 t14) fun t15 => N1 (upd e0 15 t15) w no) (fun N2 => N2 (upd e0 15 undef) w no)
 (fun g3 w4 X5 => pv (pickV t7 (.bool true) (g3 15)) fun t16 => condC t16
 (R (.tuple #[]) w4)
 (CallsR Tryz.prog 194 #[a0] w4 fun t18 w6 => pv (nilV a0) fun t21 => pv (addrV 10 t21) fun t22 => pv (nilV a0) fun t26 => pv (addrV 10 t26) fun t27 => pv (nilV a0) fun t33 => pv (addrV 7 t33) fun t34 => pv (addrV 0 t34) fun t35 => ldC (drewW w6) false 1 t22 fun t23 => ldC (drewW w6) false 1 t27 fun t28 => pv (idxSV 2 t28 a1) fun t30 => ldC (drewW w6) true 2 t30 fun t31 => ldC (drewW w6) false 1 t35 fun t36 => CallsR Tryz.prog 195 #[t31, t36] (drewW w6) fun t37 w7 => Ld w7 false 1 t22 t23 ∧ (pv (extV t37 0) fun t38 => pv (extV t37 1) fun t39 => pv (idxSV 2 t23 a1) fun t40 => stC w7 2 t40 t38 fun w8 => pv (nilV a0) fun t42 => pv (addrV 11 t42) fun t43 => ldC w8 false 1 t43 fun t44 => pv (idxSV 1 t44 a1) fun t46 => ldC w8 false 1 t46 fun t47 => CallsR Tryz.prog 196 #[t47, t39, t18] w8 fun t50 w9 => R (.tuple #[]) w9)))
theorem sh83 {a0 a1 : Value} {w : World} {R : Value → World → Prop} (h : S83 a0 a1 w R) : CallsR Tryz.prog 83 #[a0, a1] w R :=
  vcFB_go mixed [] [] .nil [(3, (.cons 0 (.cons 1 (.cons 2 (.cons 4 (.cons 5 (.cons 6 (.cons 7 (.cons 9 (.cons 12 (.cons 13 (.cons 14 (.cons 15 (.cons 3 (.cons 8 (.cons 10 (.cons 11 (.cons 16 (.cons 17 (.cons 18 (.cons 19 (.cons 20 (.cons 21 (.cons 22 (.cons 23 .nil)))))))))))))))))))))))), [0, 1, 3, 7, 0, 0, 32, 96, 224, 0, 992, 2016, 0, 4096, 12288, 28672, 61440, 131040, 262112, 524256, 524256, 1048575, 3145727, 8388607])] [(0, [([15], 0, false)])] 83 [a0, a1] (by kernel_rfl) h

/-- doorman/doormanref10.Right -/
def S89 (a0 : Value) (w : World) (R : Value → World → Prop) : Prop :=
 okB true 7 a0 = true ∧ pv (fieldV false 0 1 a0) fun t4 => pv (binV .gtr t4 (.int .i64 0)) fun t5 => gdB t5 true (fun N1 => pv (fieldV false 0 1 a0) fun t8 => pv (binV .lss t8 (.int .i64 9)) fun t9 => N1 (upd e0 9 t9) w no) (fun N2 => N2 (upd e0 9 undef) w no)
 (fun g3 w4 X5 => pv (pickV t5 (g3 9) (.bool false)) fun t10 => gdB t10 true (fun N6 => pv (fieldV false 1 1 a0) fun t13 => pv (binV .gtr t13 (.int .i64 0)) fun t14 => N6 (upd e0 14 t14) w4 X5) (fun N7 => N7 (upd e0 14 undef) w4 X5)
 (fun g8 w9 X10 => pv (pickV t10 (g8 14) (.bool false)) fun t15 => gdB t15 true (fun N11 => pv (fieldV false 1 1 a0) fun t18 => pv (binV .lss t18 (.int .i64 9)) fun t19 => N11 (upd e0 19 t19) w9 X10) (fun N12 => N12 (upd e0 19 undef) w9 X10)
 (fun g13 w14 X15 => pv (pickV t15 (g13 19) (.bool false)) fun t20 => gdB t20 true (fun N16 => pv (fieldV false 2 1 a0) fun t23 => pv (binV .gtr t23 (.int .i64 0)) fun t24 => N16 (upd e0 24 t24) w14 X15) (fun N17 => N17 (upd e0 24 undef) w14 X15)
 (fun g18 w19 X20 => pv (pickV t20 (g18 24) (.bool false)) fun t25 => gdB t25 true (fun N21 => pv (fieldV false 2 1 a0) fun t28 => pv (binV .lss t28 (.int .i64 17)) fun t29 => N21 (upd e0 29 t29) w19 X20) (fun N22 => N22 (upd e0 29 undef) w19 X20)
 (fun g23 w24 X25 => pv (pickV t25 (g23 29) (.bool false)) fun t30 => gdB t30 true (fun N26 => pv (fieldV false 3 1 a0) fun t33 => pv (binV .gtr t33 (.int .i64 0)) fun t34 => N26 (upd e0 34 t34) w24 X25) (fun N27 => N27 (upd e0 34 undef) w24 X25)
 (fun g28 w29 X30 => pv (pickV t30 (g28 34) (.bool false)) fun t35 => gdB t35 true (fun N31 => pv (fieldV false 3 1 a0) fun t38 => pv (binV .lss t38 (.int .i64 9)) fun t39 => N31 (upd e0 39 t39) w29 X30) (fun N32 => N32 (upd e0 39 undef) w29 X30)
 (fun g33 w34 X35 => pv (pickV t35 (g33 39) (.bool false)) fun t40 => gdB t40 true (fun N36 => pv (fieldV false 4 1 a0) fun t43 => pv (binV .geq t43 (.int .i64 0)) fun t44 => N36 (upd e0 44 t44) w34 X35) (fun N37 => N37 (upd e0 44 undef) w34 X35)
 (fun g38 w39 X40 => pv (pickV t40 (g38 44) (.bool false)) fun t45 => gdB t45 true (fun N41 => pv (fieldV false 4 1 a0) fun t48 => pv (binV .lss t48 (.int .i64 5)) fun t49 => N41 (upd e0 49 t49) w39 X40) (fun N42 => N42 (upd e0 49 undef) w39 X40)
 (fun g43 w44 X45 => pv (pickV t45 (g43 49) (.bool false)) fun t50 => syC w44 X45 fun w46 X47 => R t50 w46)))))))))
theorem sh89 {a0 : Value} {w : World} {R : Value → World → Prop} (h : S89 a0 w R) : CallsR Tryz.prog 89 #[a0] w R :=
  vcFB_go mixed [(1, 7, true)] [(3, 1, 0), (7, 1, 0), (12, 1, 1), (17, 1, 1), (22, 1, 2), (27, 1, 2), (32, 1, 3), (37, 1, 3), (42, 1, 4), (47, 1, 4)] .nil [] [(1, [([9], 1, false), ([14], 1, false), ([19], 1, false), ([24], 1, false), ([29], 1, false), ([34], 1, false), ([39], 1, false), ([44], 1, false), ([49], 1, false)])] 89 [a0] (by kernel_rfl) h

/-- (*doorman/model.Model).write -/
def S175 (a0 a1 : Value) (w : World) (R : Value → World → Prop) : Prop :=
 okB true 7 a1 = true ∧ syC w no fun w1 X2 => CallsR Tryz.prog 194 #[a0] w1 fun t11 w3 => kp X2 w1 w3 ∧ pv (nilV a0) fun t13 => pv (addrV 7 t13) fun t14 => pv (addrV 2 t14) fun t15 => ldC w3 false 1 t15 fun t16 => condC t16
 (pv (buildV [(0, 1), (1, 1), (2, 1), (3, 1)] [(.int .i64 0), (.slice none 0 0), (.slice none 0 0), (.bool false)] [(0, (.int .i64 5))]) fun t17 => okB true 4 t17 = true ∧ syC w3 X2 fun w4 X5 => R t17 w4)
 (pv (fieldV false 1 1 a1) fun t20 => CallsR Tryz.prog 178 #[a0, t20] w3 fun t21 w6 => kp X2 w3 w6 ∧ jnB (fun K7 => pv (nilV a0) fun t24 => pv (addrV 10 t24) fun t25 => pv (nilV a0) fun t32 => pv (addrV 7 t32) fun t33 => pv (addrV 0 t33) fun t34 => pv (nilV a0) fun t37 => pv (addrV 0 t37) fun t38 => pv (addrV 1 t38) fun t39 => ldC (drewW w6) false 1 t25 fun t26 => pv (idxSV 2 t26 t21) fun t28 => ldC (drewW w6) true 2 t28 fun t29 => ldC (drewW w6) false 1 t34 fun t35 => ldC (drewW w6) false 1 t39 fun t40 => (CallsR Tryz.prog 253 #[t29, a1, t35, t40] (drewW w6) fun t41 w11 => kp X2 (drewW w6) w11 ∧ pv (extV t41 0) fun t42 => pv (extV t41 1) fun t43 => pv (extV t41 2) fun t44 => Ld w11 false 1 t39 t40 ∧ Ld w11 false 1 t34 t35 ∧ a1 = a1 ∧ Ld w11 true 2 t28 t29 ∧ Ld w11 false 1 t25 t26 ∧ (okB true 2 t42 = true ∧ K7 (upd (upd (upd (upd (upd (upd (upd e0 9 t44) 8 t43) 7 t42) 6 t21) 5 t11) 4 (.agg #[(.int .i64 0), (.slice none 0 0), (.slice none 0 0), (.bool false)])) 0 a0) w11 X2))
 ∧ (Ld (drewW w6) false 1 t39 t40 ∧ Ld (drewW w6) false 1 t34 t35 ∧ a1 = a1 ∧ Ld (drewW w6) true 2 t28 t29 ∧ Ld (drewW w6) false 1 t25 t26 ∧ (syC (drewW w6) X2 fun w12 X13 => CallsR Tryz.prog 253 #[t29, a1, t35, t40] w12 fun t41_14 w15 => kp X13 w12 w15 ∧ pv (extV t41_14 0) fun t42_16 => pv (extV t41_14 1) fun t43_17 => pv (extV t41_14 2) fun t44_18 => okB true 2 t42_16 = true ∧ K7 (upd (upd (upd (upd (upd (upd (upd e0 9 t44_18) 8 t43_17) 7 t42_16) 6 t21) 5 t11) 4 (.agg #[(.int .i64 0), (.slice none 0 0), (.slice none 0 0), (.bool false)])) 0 a0) w15 X13)))
 (fun e8 w9 X10 => syC w9 X10 fun w19 X20 => pv (nilV (e8 0)) fun t46 => pv (addrV 10 t46) fun t47 => ldC (drewW w19) false 1 t47 fun t48 => pv (idxSV 2 t48 (e8 6)) fun t51 => stC (drewW w19) 2 t51 (e8 7) fun w21 => kp X20 (drewW w19) w21 ∧ pv (nilV (e8 0)) fun t53 => pv (addrV 11 t53) fun t54 => ldC w21 false 1 t54 fun t55 => pv (idxSV 1 t55 (e8 6)) fun t57 => ldC w21 false 1 t57 fun t58 => CallsR Tryz.prog 196 #[t58, (e8 8), (e8 5)] w21 fun t61 w22 => kp X20 w21 w22 ∧ pv (buildV [(0, 1), (1, 1), (2, 1), (3, 1)] [(.int .i64 0), (.slice none 0 0), (.slice none 0 0), (.bool false)] [(0, (e8 9))]) fun t63 => okB true 4 t63 = true ∧ syC w22 X20 fun w23 X24 => R t63 w23))
theorem sh175 {a0 a1 : Value} {w : World} {R : Value → World → Prop} (h : S175 a0 a1 w R) : CallsR Tryz.prog 175 #[a0, a1] w R :=
  vcFB_go mixed [(3, 7, true), (4, 4, true), (7, 2, true)] [(19, 3, 1)] (.mk [] 2 true .nil (.mk [] 2 true .nil (.mk [] 2 true .nil (.mk [] 2 true .nil (.mk [0, 4, 5, 6, 7, 8, 9] 2 true .nil .nil))))) [(5, (.cons 0 (.cons 1 (.cons 2 (.cons 4 (.cons 8 (.cons 9 (.cons 10 (.cons 11 (.cons 13 (.cons 14 (.cons 15 (.cons 16 (.cons 3 (.cons 5 (.cons 6 (.cons 7 (.cons 12 (.cons 17 (.both (.cons 18 (.cons 19 (.cons 20 (.cons 21 (.cons 22 (.cons 23 (.cons 24 (.cons 25 (.cons 26 .nil))))))))) (.cons 23 (.cons 18 (.cons 19 (.cons 20 (.cons 21 (.cons 22 (.cons 24 (.cons 25 (.cons 26 .nil)))))))))))))))))))))))))))), [0, 1, 3, 7, 0, 31, 63, 0, 0, 256, 768, 1792, 3840, 0, 8192, 24576, 57344, 122880, 262143, 524287, 1048575, 1048575, 1048575, 0, 10485759, 29360127, 67108863]), (6, (.cons 0 (.cons 1 (.cons 2 (.cons 4 (.cons 3 (.cons 5 (.cons 6 (.cons 7 .nil)))))))), [0, 1, 3, 7, 0, 0, 63, 127])] [] 175 [a0, a1] (by kernel_rfl) h

/-- (*doorman/model.Model).poll -/
def S176 (a0 a1 : Value) (w : World) (R : Value → World → Prop) : Prop :=
 jnB (fun K1 => pv (nilV a0) fun t12 => pv (addrV 11 t12) fun t13 => ldC w false 1 t13 fun t14 => pv (lenV t14) fun t15 => lpB (fun e5 w6 X7 N8 => pv (binV .lss (e5 16) (e5 15)) fun t17 => condC t17
 (pv (idxSV 1 (e5 14) (e5 16)) fun t18 => syC w6 X7 fun w9 X10 => ldC w9 false 1 t18 fun t19 => CallsR Tryz.prog 197 #[t19, (e5 1)] w9 fun t23 w11 => kp X10 w9 w11 ∧ pv (extV t23 0) fun t24 => pv (extV t23 1) fun t25 => bsC w11 1 [(.slice none 0 0)] 48 1 [(0, t24)] fun t28 w12 => apC w12 24 1 [(.slice none 0 0)] 48 (e5 6) t28 fun t29 w13 => kp X10 w12 w13 ∧ pv (fieldV false 3 1 (e5 5)) fun t31 => gdB t31 false (fun N14 => N14 (upd e0 33 t25) w13 X10) (fun N15 => N15 (upd e0 33 undef) w13 X10)
 (fun g16 w17 X18 => pv (pickV t31 (.bool true) (g16 33)) fun t34 => pv (setV 3 1 (e5 5) t34) fun c5_19 => pv (binV .add (e5 16) (.int .i64 1)) fun t36 => N8 (upd (upd (upd (upd (upd (upd (upd e0 16 t36) 15 (e5 15)) 14 (e5 14)) 6 t29) 5 c5_19) 4 (e5 4)) 1 (e5 1)) w17 X18))
 (K1 (upd (upd (upd e0 6 (e5 6)) 5 (e5 5)) 4 (e5 4)) w6 X7)) (upd (upd (upd (upd (upd (upd (upd e0 16 (.int .i64 0)) 15 t15) 14 t14) 6 (.slice none 0 0)) 5 (.agg #[(.int .i64 0), (.slice none 0 0), (.slice none 0 0), (.bool false)])) 4 (.agg #[(.int .i64 0), (.slice none 0 0), (.slice none 0 0), (.bool false)])) 1 a1) w no)
 (fun e2 w3 X4 => syC w3 X4 fun w20 X21 => CallsR Tryz.prog 85 #[(e2 6)] w20 fun t38 w22 => kp X21 w20 w22 ∧ pv (setV 2 1 (e2 5) t38) fun c5_23 => okB true 4 c5_23 = true ∧ syC w22 X21 fun w24 X25 => R c5_23 w24)
theorem sh176 {a0 a1 : Value} {w : World} {R : Value → World → Prop} (h : S176 a0 a1 w R) : CallsR Tryz.prog 176 #[a0, a1] w R :=
  vcFB_go mixed [(4, 4, true), (5, 4, true)] [(30, 5, 3), (35, 5, 3), (39, 5, 2)] (.mk [] 2 true .nil (.mk [] 2 true .nil (.mk [] 2 true .nil (.mk [4, 5, 6] 2 true (.mk [] 2 true .nil (.mk [1, 4, 5, 6, 14, 15, 16] 2 true .nil .nil)) .nil)))) [] [(8, [([33], 0, true)])] 176 [a0, a1] (by kernel_rfl) h

/-- (*doorman/model.Model).watch -/
def S177 (a0 a1 a2 : Value) (w : World) (R : Value → World → Prop) : Prop :=
 pv (nilV a0) fun t12 => pv (addrV 11 t12) fun t13 => ldC (drewW w) false 1 t13 fun t14 => CallsR Tryz.prog 178 #[a0, a2] (drewW w) fun t17 w1 => Ld w1 false 1 t13 t14 ∧ (pv (idxSV 1 t14 t17) fun t18 => ldC w1 false 1 t18 fun t19 => jnB (fun K2 => pv (nilV a0) fun t21 => pv (addrV 11 t21) fun t22 => ldC w1 false 1 t22 fun t23 => pv (lenV t23) fun t24 => lpB (fun e6 w7 X8 N9 => pv (binV .lss (e6 25) (e6 24)) fun t26 => condC t26
 (pv (idxSV 1 (e6 23) (e6 25)) fun t27 => ldC w7 false 1 t27 fun t28 => CallsR Tryz.prog 277 #[t28, (e6 1)] w7 fun t32 w10 => pv (binV .add (e6 8) t32) fun t33 => pv (binV .add (e6 25) (.int .i64 1)) fun t34 => N9 (upd (upd (upd (upd (upd (upd (upd (upd e0 25 t34) 24 (e6 24)) 23 (e6 23)) 8 t33) 7 (e6 7)) 2 (e6 2)) 1 (e6 1)) 0 (e6 0)) w10 X8)
 (K2 (upd (upd (upd (upd (upd e0 8 (e6 8)) 7 (e6 7)) 2 (e6 2)) 1 (e6 1)) 0 (e6 0)) w7 X8)) (upd (upd (upd (upd (upd (upd (upd (upd e0 25 (.int .i64 0)) 24 t24) 23 t23) 8 (.int .i64 0)) 7 t19) 2 a2) 1 a1) 0 a0) w1 no)
 (fun e3 w4 X5 => CallsR Tryz.prog 278 #[(e3 7), (e3 1), (e3 2)] w4 fun t38 w11 => pv (unV .not t38) fun t39 => gdB t39 true (fun N12 => pv (nilV (e3 0)) fun t43 => pv (addrV 0 t43) fun t44 => pv (addrV 3 t44) fun t45 => ldC w11 false 1 t45 fun t46 => pv (binV .geq (e3 8) t46) fun t47 => N12 (upd e0 47 t47) w11 X5) (fun N13 => N13 (upd e0 47 undef) w11 X5)
 (fun g14 w15 X16 => pv (pickV t39 (g14 47) (.bool false)) fun t48 => condC t48
 (R (.int .i64 4) w15)
 (CallsR Tryz.prog 191 #[(e3 7), (e3 1), (e3 2)] w15 fun t52 w17 => R (.int .i64 0) w17))))
theorem sh177 {a0 a1 a2 : Value} {w : World} {R : Value → World → Prop} (h : S177 a0 a1 a2 w R) : CallsR Tryz.prog 177 #[a0, a1, a2] w R :=
  vcFB_go mixed [] [] (.mk [] 2 true .nil (.mk [] 2 true .nil (.mk [] 2 true .nil (.mk [0, 1, 2, 7, 8] 0 false (.mk [] 2 true .nil (.mk [0, 1, 2, 7, 8, 23, 24, 25] 0 false .nil .nil)) .nil)))) [(1, (.cons 0 (.cons 1 (.cons 2 (.cons 4 (.cons 5 (.cons 3 (.cons 6 (.cons 7 (.cons 8 (.cons 9 .nil)))))))))), [0, 1, 3, 7, 0, 0, 48, 127, 255, 511])] [(8, [([47], 0, false)])] 177 [a0, a1, a2] (by kernel_rfl) h

/-- (*doorman/model.Model).stripe -/
def S178 (a0 a1 : Value) (w : World) (R : Value → World → Prop) : Prop :=
 pv (nilV a0) fun t7 => pv (addrV 0 t7) fun t8 => pv (addrV 0 t8) fun t9 => ldC w false 1 t9 fun t10 => CallsR Tryz.prog 185 #[a1, t10] w fun t11 w1 => R t11 w1
theorem sh178 {a0 a1 : Value} {w : World} {R : Value → World → Prop} (h : S178 a0 a1 w R) : CallsR Tryz.prog 178 #[a0, a1] w R :=
  vcFB_go mixed [] [] .nil [] [] 178 [a0, a1] (by kernel_rfl) h

/-- doorman/model.Users -/
def S181 (a0 : Value) (w : World) (R : Value → World → Prop) : Prop :=
 okB true 7 a0 = true ∧ pv (fieldV false 0 1 a0) fun t4 => pv (binV .eql t4 (.int .i64 4)) fun t6 => condC t6
 (pv (fieldV false 1 1 a0) fun t8 => syC w no fun w1 X2 => bsC w1 1 [(.string ⟨#[]⟩)] 9 1 [(0, t8)] fun t9 w3 => R t9 w3)
 (pv (binV .eql t4 (.int .i64 5)) fun t11 => condC t11
 (syC w no fun w4 X5 => bsC w4 1 [(.string ⟨#[]⟩)] 9 0 [] fun t12 w6 => pv (fieldV false 6 1 a0) fun t14 => apC w6 16 1 [(.string ⟨#[]⟩)] 9 t12 t14 fun t15 w7 => kp X5 w6 w7 ∧ R t15 w7)
 (syC w no fun w8 X9 => R (.slice none 0 0) w8))
theorem sh181 {a0 : Value} {w : World} {R : Value → World → Prop} (h : S181 a0 w R) : CallsR Tryz.prog 181 #[a0] w R :=
  vcFB_go mixed [(1, 7, true)] [(3, 1, 0), (7, 1, 1), (13, 1, 6)] .nil [] [] 181 [a0] (by kernel_rfl) h

/-- (*doorman/model.Model).Presence -/
def S182 (a0 a1 : Value) (w : World) (R : Value → World → Prop) : Prop :=
 syC w no fun w1 X2 => pv (nilV a0) fun t6 => pv (addrV 10 t6) fun t7 => pv (nilV a0) fun t16 => pv (addrV 7 t16) fun t17 => pv (addrV 0 t17) fun t18 => ldC (drewW w1) false 1 t7 fun t8 => ldC (drewW w1) false 1 t18 fun t19 => CallsR Tryz.prog 178 #[a0, a1] (drewW w1) fun t11 w3 => kp X2 (drewW w1) w3 ∧ Ld w3 false 1 t18 t19 ∧ Ld w3 false 1 t7 t8 ∧ (pv (idxSV 2 t8 t11) fun t12 => ldC w3 true 2 t12 fun t13 => CallsR Tryz.prog 283 #[t13, a1, t19] w3 fun t20 w4 => kp X2 w3 w4 ∧ okB true 3 t20 = true ∧ syC w4 X2 fun w5 X6 => R t20 w5)
theorem sh182 {a0 a1 : Value} {w : World} {R : Value → World → Prop} (h : S182 a0 a1 w R) : CallsR Tryz.prog 182 #[a0, a1] w R :=
  vcFB_go mixed [(4, 3, true)] [] .nil [(1, (.cons 0 (.cons 1 (.cons 2 (.cons 4 (.cons 5 (.cons 9 (.cons 10 (.cons 11 (.cons 12 (.cons 13 (.cons 3 (.cons 14 (.cons 6 (.cons 7 (.cons 8 (.cons 15 (.cons 16 .nil))))))))))))))))), [0, 1, 3, 7, 0, 0, 48, 127, 255, 0, 0, 1024, 3072, 7168, 15360, 32767, 65535])] [] 182 [a0, a1] (by kernel_rfl) h

/-- (*doorman/model.Model).take -/
def S194 (a0 : Value) (w : World) (R : Value → World → Prop) : Prop :=
 pv (nilV a0) fun t7 => pv (addrV 7 t7) fun t8 => ldC w true 3 t8 fun t9 => CallsR Tryz.prog 293 #[t9] w fun t10 w1 => pv (extV t10 0) fun t11 => pv (extV t10 1) fun t12 => pv (nilV a0) fun t13 => pv (addrV 7 t13) fun t14 => stC w1 3 t14 t11 fun w2 => R t12 w2
theorem sh194 {a0 : Value} {w : World} {R : Value → World → Prop} (h : S194 a0 w R) : CallsR Tryz.prog 194 #[a0] w R :=
  vcFB_go mixed [] [] .nil [] [] 194 [a0] (by kernel_rfl) h

end Go.Dm
