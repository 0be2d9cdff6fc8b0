/- A part of the proof that doormanlaw21.LinOpen returns true for every input, on no condition. -/
import Derived.Test.YtbfajkpjilhkgaaGreatT4
set_option linter.unusedVariables false
set_option linter.unusedSimpArgs false
namespace Go.Dm
open Go Go.Proofs
set_option maxRecDepth 1000000
set_option linter.unusedVariables false
/-- doorman/lin.fits -/
def S198 (a0 a1 : Value) (w : World) (R : Value → World → Prop) : Prop :=
 okB true 18 a0 = true ∧ okB true 4 a1 = true ∧ pv (fieldV false 13 1 a0) fun t6 => pv (binV .lss t6 (.int .i64 0)) fun t7 => gdB t7 false (fun N1 => pv (fieldV true 14 4 a0) fun t10 => syC w no fun w6 X7 => CallsR Tryz.prog 298 #[t10, a1] w6 fun t12 w8 => kp X7 w6 w8 ∧ N1 (upd e0 12 t12) w8 X7) (fun N2 => N2 (upd e0 12 undef) w no)
 (fun g3 w4 X5 => pv (pickV t7 (.bool true) (g3 12)) fun t13 => syC w4 X5 fun w9 X10 => R t13 w9)
theorem sh198 {a0 a1 : Value} {w : World} {R : Value → World → Prop} (h : S198 a0 a1 w R) : CallsR Tryz.prog 198 #[a0, a1] w R :=
  vcFB_go mixed [(2, 18, true), (3, 4, true)] [(5, 2, 13), (9, 2, 14)] .nil [] [(1, [([12], 1, true)])] 198 [a0, a1] (by kernel_rfl) h

/-- doorman/lin.befalls -/
def S199 (a0 a1 : Value) (w : World) (R : Value → World → Prop) : Prop :=
 okB true 18 a1 = true ∧ jnB (fun K1 => pv (fieldV false 0 1 a1) fun t6 => pv (binV .eql t6 (.int .i64 9)) fun t14 => condC t14
 (pv (fieldV false 10 1 a1) fun t17 => syC w no fun w5 X6 => CallsR Tryz.prog 64 #[a0, t17] w5 fun t18 w7 => kp X6 w5 w7 ∧ K1 (upd e0 4 (.agg #[(.int .i64 0), (.slice none 0 0), (.slice none 0 0), (.bool false)])) w7 X6)
 (pv (binV .eql t6 (.int .i64 8)) fun t20 => condC t20
 (pv (fieldV false 9 1 a1) fun t23 => syC w no fun w8 X9 => CallsR Tryz.prog 83 #[a0, t23] w8 fun t24 w10 => kp X9 w8 w10 ∧ K1 (upd e0 4 (.agg #[(.int .i64 0), (.slice none 0 0), (.slice none 0 0), (.bool false)])) w10 X9)
 (pv (fieldV false 0 1 a1) fun t9 => pv (fieldV true 2 7 a1) fun t11 => syC w no fun w11 X12 => CallsR Tryz.prog 69 #[a0, t9, t11] w11 fun t12 w13 => kp X12 w11 w13 ∧ okB true 4 t12 = true ∧ syC w13 X12 fun w14 X15 => R t12 w14)))
 (fun e2 w3 X4 => pv (buildV [(0, 1), (1, 1), (2, 1), (3, 1)] [(.int .i64 0), (.slice none 0 0), (.slice none 0 0), (.bool false)] []) fun t25 => okB true 4 t25 = true ∧ syC w3 X4 fun w16 X17 => R t25 w16)
theorem sh199 {a0 a1 : Value} {w : World} {R : Value → World → Prop} (h : S199 a0 a1 w R) : CallsR Tryz.prog 199 #[a0, a1] w R :=
  vcFB_go mixed [(3, 18, true), (4, 4, true)] [(5, 3, 0), (8, 3, 0), (10, 3, 2), (16, 3, 10), (22, 3, 9)] (.mk [] 2 true .nil (.mk [4] 0 true .nil .nil)) [] [] 199 [a0, a1] (by kernel_rfl) h

/-- doorman/lin.same -/
def S298 (a0 a1 : Value) (w : World) (R : Value → World → Prop) : Prop :=
 okB true 4 a0 = true ∧ okB true 4 a1 = true ∧ pv (fieldV false 0 1 a0) fun t6 => pv (fieldV false 0 1 a1) fun t8 => pv (binV .eql t6 t8) fun t9 => gdB t9 true (fun N1 => pv (fieldV false 3 1 a0) fun t12 => pv (fieldV false 3 1 a1) fun t14 => pv (boolV .eql t12 t14) fun t15 => N1 (upd e0 15 t15) w no) (fun N2 => N2 (upd e0 15 undef) w no)
 (fun g3 w4 X5 => pv (pickV t9 (g3 15) (.bool false)) fun t16 => gdB t16 true (fun N6 => pv (fieldV false 1 1 a0) fun t19 => pv (fieldV false 1 1 a1) fun t21 => syC w4 X5 fun w11 X12 => CallsR Tryz.prog 362 #[t19, t21] w11 fun t22 w13 => kp X12 w11 w13 ∧ N6 (upd e0 22 t22) w13 X12) (fun N7 => N7 (upd e0 22 undef) w4 X5)
 (fun g8 w9 X10 => pv (pickV t16 (g8 22) (.bool false)) fun t23 => gdB t23 true (fun N14 => pv (fieldV false 2 1 a0) fun t26 => pv (fieldV false 2 1 a1) fun t28 => syC w9 X10 fun w19 X20 => CallsR Tryz.prog 363 #[t26, t28] w19 fun t29 w21 => kp X20 w19 w21 ∧ N14 (upd e0 29 t29) w21 X20) (fun N15 => N15 (upd e0 29 undef) w9 X10)
 (fun g16 w17 X18 => pv (pickV t23 (g16 29) (.bool false)) fun t30 => syC w17 X18 fun w22 X23 => R t30 w22)))
theorem sh298 {a0 a1 : Value} {w : World} {R : Value → World → Prop} (h : S298 a0 a1 w R) : CallsR Tryz.prog 298 #[a0, a1] w R :=
  vcFB_go mixed [(2, 4, true), (3, 4, true)] [(5, 2, 0), (7, 3, 0), (11, 2, 3), (13, 3, 3), (18, 2, 1), (20, 3, 1), (25, 2, 2), (27, 3, 2)] .nil [] [(1, [([15], 1, false), ([22], 1, true), ([29], 1, true)])] 298 [a0, a1] (by kernel_rfl) h

/-- doorman/hist.Before -/
def S240 (a0 a1 : Value) (w : World) (R : Value → World → Prop) : Prop :=
 okB true 18 a0 = true ∧ okB true 18 a1 = true ∧ pv (fieldV false 13 1 a0) fun t6 => pv (binV .geq t6 (.int .i64 0)) fun t7 => gdB t7 true (fun N1 => pv (fieldV false 13 1 a0) fun t10 => pv (fieldV false 11 1 a1) fun t12 => pv (binV .lss t10 t12) fun t13 => N1 (upd e0 13 t13) w no) (fun N2 => N2 (upd e0 13 undef) w no)
 (fun g3 w4 X5 => pv (pickV t7 (g3 13) (.bool false)) fun t14 => syC w4 X5 fun w6 X7 => R t14 w6)
theorem sh240 {a0 a1 : Value} {w : World} {R : Value → World → Prop} (h : S240 a0 a1 w R) : CallsR Tryz.prog 240 #[a0, a1] w R :=
  vcFB_go mixed [(2, 18, true), (3, 18, true)] [(5, 2, 13), (9, 2, 13), (11, 3, 11)] .nil [] [(1, [([13], 1, false)])] 240 [a0, a1] (by kernel_rfl) h

/-- (*doorman/lin.finder).ready -/
def S306 (a0 a1 : Value) (w : World) (R : Value → World → Prop) : Prop :=
 jnB (fun K1 => pv (nilV a0) fun t7 => pv (addrV 7 t7) fun t8 => ldC w false 1 t8 fun t9 => pv (lenV t9) fun t10 => lpB (fun e5 w6 X7 N8 => pv (binV .lss (e5 11) (e5 10)) fun t12 => condC t12
 (pv (nilV (e5 0)) fun t15 => pv (addrV 8 t15) fun t16 => ldC (drewW w6) false 1 t16 fun t17 => pv (idxSV 1 t17 (e5 11)) fun t19 => ldC (drewW w6) false 1 t19 fun t20 => pv (unV .not t20) fun t21 => gdB t21 true (fun N9 => pv (binV .neq (e5 11) (e5 1)) fun t25 => N9 (upd e0 25 t25) (drewW w6) X7) (fun N10 => N10 (upd e0 25 undef) (drewW w6) X7)
 (fun g11 w12 X13 => pv (pickV t21 (g11 25) (.bool false)) fun t26 => gdB t26 true (fun N14 => pv (nilV (e5 0)) fun t29 => pv (addrV 7 t29) fun t30 => pv (nilV (e5 0)) fun t36 => pv (addrV 7 t36) fun t37 => ldC w12 false 1 t30 fun t31 => pv (idxSV 18 t31 (e5 11)) fun t33 => ldC w12 true 18 t33 fun t34 => ldC w12 false 1 t37 fun t38 => pv (idxSV 18 t38 (e5 1)) fun t40 => ldC w12 true 18 t40 fun t41 => CallsR Tryz.prog 240 #[t34, t41] w12 fun t42 w19 => N14 (upd e0 42 t42) w19 X13) (fun N15 => N15 (upd e0 42 undef) w12 X13)
 (fun g16 w17 X18 => pv (pickV t26 (g16 42) (.bool false)) fun t43 => condC t43
 (R (.bool false) w17)
 (pv (binV .add (e5 11) (.int .i64 1)) fun t44 => N8 (upd (upd (upd (upd e0 11 t44) 10 (e5 10)) 1 (e5 1)) 0 (e5 0)) w17 X18))))
 (K1 (upd (upd e0 1 (e5 1)) 0 (e5 0)) w6 X7)) (upd (upd (upd (upd e0 11 (.int .i64 0)) 10 t10) 1 a1) 0 a0) w no)
 (fun e2 w3 X4 => pv (nilV (e2 0)) fun t46 => pv (addrV 8 t46) fun t47 => ldC w3 false 1 t47 fun t48 => pv (idxSV 1 t48 (e2 1)) fun t50 => ldC w3 false 1 t50 fun t51 => pv (unV .not t51) fun t52 => R t52 w3)
theorem sh306 {a0 a1 : Value} {w : World} {R : Value → World → Prop} (h : S306 a0 a1 w R) : CallsR Tryz.prog 306 #[a0, a1] w R :=
  vcFB_go mixed [] [] (.mk [] 2 true .nil (.mk [0, 1] 0 false (.mk [] 2 true .nil (.mk [0, 1, 10, 11] 0 false .nil .nil)) .nil)) [(4, (.cons 0 (.cons 1 (.cons 2 (.cons 4 (.cons 3 (.cons 5 (.cons 6 (.cons 7 (.cons 8 (.cons 9 (.cons 10 (.cons 11 (.cons 12 (.cons 13 (.cons 14 (.cons 15 (.cons 16 (.cons 18 (.cons 21 (.cons 22 (.cons 23 (.cons 25 (.cons 17 (.cons 19 (.cons 20 (.cons 24 (.cons 26 (.cons 27 (.cons 28 (.cons 29 .nil)))))))))))))))))))))))))))))), [0, 1, 3, 7, 0, 31, 63, 127, 255, 511, 511, 2047, 4095, 8191, 16383, 32767, 65535, 131071, 16383, 524287, 1048575, 16383, 2113535, 6307839, 14696447, 16383, 65028095, 132136959, 268435455, 536870911])] [(4, [([25], 0, false), ([42], 0, false)])] 306 [a0, a1] (by kernel_rfl) h

/-- (*doorman/lin.finder).find -/
def S204 (a0 : Value) (w : World) (R : Value → World → Prop) : Prop :=
 pv (nilV a0) fun t11 => pv (addrV 0 t11) fun t12 => pv (nilV a0) fun t15 => pv (addrV 7 t15) fun t16 => pv (nilV a0) fun t19 => pv (addrV 9 t19) fun t20 => ldC (drewW w) true 7 t12 fun t13 => ldC (drewW w) false 1 t16 fun t17 => ldC (drewW w) false 1 t20 fun t21 => CallsR Tryz.prog 88 #[t13, t17, t21] (drewW w) fun t22 w1 => pv (extV t22 0) fun t23 => pv (extV t22 1) fun t24 => pv (binV .geq t23 (.int .i64 0)) fun t26 => condC t26
 (R (.bool false) w1)
 (jnB (fun K2 => pv (nilV a0) fun t28 => pv (addrV 7 t28) fun t29 => ldC w1 false 1 t29 fun t30 => pv (lenV t30) fun t31 => lpB (fun e6 w7 X8 N9 => pv (binV .lss (e6 32) (e6 31)) fun t33 => condC t33
 (pv (idxSV 18 (e6 30) (e6 32)) fun t35 => syC w7 X8 fun w10 X11 => ldC w10 true 18 t35 fun t36 => okB true 18 t36 = true ∧ gdB (e6 5) false (fun N12 => pv (fieldV false 13 1 t36) fun t40 => pv (binV .geq t40 (.int .i64 0)) fun t41 => N12 (upd e0 42 t41) w10 X11) (fun N13 => N13 (upd e0 42 undef) w10 X11)
 (fun g14 w15 X16 => gdB (g14 42) true (fun N17 => pv (nilV (e6 0)) fun t44 => pv (addrV 8 t44) fun t45 => syC w15 X16 fun w22 X23 => ldC w22 false 1 t45 fun t46 => pv (idxSV 1 t46 (e6 32)) fun t48 => ldC w22 false 1 t48 fun t49 => pv (unV .not t49) fun t50 => N17 (upd e0 50 t50) w22 X23) (fun N18 => N18 (upd e0 50 undef) w15 X16)
 (fun g19 w20 X21 => gdB (e6 5) false (fun N24 => pv (pickV (g14 42) (g19 50) (.bool false)) fun t51 => N24 (upd e0 51 t51) w20 X21) (fun N25 => N25 (upd e0 51 undef) w20 X21)
 (fun g26 w27 X28 => pv (pickV (e6 5) (.bool true) (g26 51)) fun t52 => pv (binV .add (e6 32) (.int .i64 1)) fun t53 => N9 (upd (upd (upd (upd (upd e0 32 t53) 31 (e6 31)) 30 (e6 30)) 5 t52) 0 (e6 0)) w27 X28))))
 (K2 (upd (upd e0 5 (e6 5)) 0 (e6 0)) w7 X8)) (upd (upd (upd (upd (upd e0 32 (.int .i64 0)) 31 t31) 30 t30) 5 (.bool false)) 0 a0) w1 no)
 (fun e3 w4 X5 => pv (unV .not (e3 5)) fun t55 => condC t55
 (syC w4 X5 fun w29 X30 => R (.bool true) w29)
 (jnB (fun K31 => pv (nilV (e3 0)) fun t57 => pv (addrV 7 t57) fun t58 => syC w4 X5 fun w35 X36 => ldC w35 false 1 t58 fun t59 => pv (lenV t59) fun t60 => lpB (fun e37 w38 X39 N40 => pv (binV .lss (e37 61) (e37 60)) fun t62 => condC t62
 (jnB (fun K41 => CallsR Tryz.prog 306 #[(e37 0), (e37 61)] w38 fun t66 w45 => kp X39 w38 w45 ∧ pv (unV .not t66) fun t67 => condC t67
 (K41 (upd (upd (upd e0 61 (e37 61)) 60 (e37 60)) 0 (e37 0)) w45 X39)
 (pv (nilV (e37 0)) fun t69 => pv (addrV 8 t69) fun t70 => ldC w45 false 1 t70 fun t71 => pv (idxSV 1 t71 (e37 61)) fun t73 => stC w45 1 t73 (.bool true) fun w46 => kp X39 w45 w46 ∧ pv (nilV (e37 0)) fun t76 => pv (addrV 9 t76) fun t77 => ldC w46 false 1 t77 fun t78 => bsC w46 1 [(.int .i64 0)] 3 1 [(0, (e37 61))] fun t80 w47 => apC w47 8 1 [(.int .i64 0)] 3 t78 t80 fun t81 w48 => kp X39 w47 w48 ∧ pv (nilV (e37 0)) fun t82 => pv (addrV 9 t82) fun t83 => stC w48 1 t83 t81 fun w49 => kp X39 w48 w49 ∧ CallsR Tryz.prog 204 #[(e37 0)] w49 fun t85 w50 => kp X39 w49 w50 ∧ condC t85
 (R (.bool true) w50)
 (pv (nilV (e37 0)) fun t88 => pv (addrV 9 t88) fun t89 => pv (nilV (e37 0)) fun t92 => pv (addrV 9 t92) fun t93 => ldC (drewW w50) false 1 t89 fun t90 => ldC (drewW w50) false 1 t93 fun t94 => pv (lenV t94) fun t95 => pv (binV .sub t95 (.int .i64 1)) fun t96 => pv (sliceV 1 t90 none (some t96)) fun t97 => pv (nilV (e37 0)) fun t98 => pv (addrV 9 t98) fun t99 => stC (drewW w50) 1 t99 t97 fun w51 => kp X39 (drewW w50) w51 ∧ pv (nilV (e37 0)) fun t101 => pv (addrV 8 t101) fun t102 => ldC w51 false 1 t102 fun t103 => pv (idxSV 1 t103 (e37 61)) fun t105 => stC w51 1 t105 (.bool false) fun w52 => kp X39 w51 w52 ∧ K41 (upd (upd (upd e0 61 (e37 61)) 60 (e37 60)) 0 (e37 0)) w52 X39)))
 (fun e42 w43 X44 => pv (binV .add (e42 61) (.int .i64 1)) fun t106 => N40 (upd (upd (upd e0 61 t106) 60 (e42 60)) 0 (e42 0)) w43 X44))
 (K31 e0 w38 X39)) (upd (upd (upd e0 61 (.int .i64 0)) 60 t60) 0 (e3 0)) w35 X36)
 (fun e32 w33 X34 => R (.bool false) w33))))
theorem sh204 {a0 : Value} {w : World} {R : Value → World → Prop} (h : S204 a0 w R) : CallsR Tryz.prog 204 #[a0] w R :=
  vcFB_go mixed [(7, 18, true)] [(39, 7, 13)] (.mk [] 2 true .nil (.mk [] 2 true .nil (.mk [] 2 true .nil (.mk [0, 5] 2 true (.mk [] 2 true .nil (.mk [0, 5, 30, 31, 32] 2 true .nil .nil)) (.mk [] 2 true .nil (.mk [] 0 true (.mk [] 2 true .nil (.mk [0, 60, 61] 0 true (.mk [] 2 true .nil (.mk [] 2 true .nil (.mk [0, 60, 61] 0 true .nil .nil))) .nil)) .nil)))))) [(1, (.cons 0 (.cons 1 (.cons 2 (.cons 4 (.cons 5 (.cons 6 (.cons 8 (.cons 9 (.cons 10 (.cons 3 (.cons 7 (.cons 11 (.cons 12 (.cons 13 (.cons 14 (.cons 15 (.cons 16 (.cons 17 .nil)))))))))))))))))), [0, 1, 3, 7, 0, 16, 48, 112, 0, 256, 768, 1792, 4095, 8191, 16383, 16383, 32767, 131071]), (20, (.cons 0 (.cons 1 (.cons 2 (.cons 3 (.cons 5 (.cons 6 (.cons 7 (.cons 4 (.cons 8 (.cons 9 (.cons 10 (.cons 11 (.cons 12 (.cons 13 (.cons 14 .nil))))))))))))))), [0, 0, 2, 6, 14, 0, 32, 96, 224, 480, 992, 2046, 4095, 8191, 16383])] [(8, [([42], 2, true), ([50], 2, true), ([51], 2, true)])] 204 [a0] (by kernel_rfl) h

/-- doorman/lin.Find -/
def S93 (a0 a1 : Value) (w : World) (R : Value → World → Prop) : Prop :=
 okB true 7 a0 = true ∧ syC w no fun w1 X2 => CallsR Tryz.prog 139 #[a0] w1 fun t9 w3 => kp X2 w1 w3 ∧ pv (unV .not t9) fun t10 => condC t10
 (R (.tuple #[(.slice none 0 0), (.bool false), (.int .i64 1)]) w3)
 (pv (lenV a1) fun t12 => pv (binV .gtr t12 (.int .i64 7)) fun t13 => condC t13
 (R (.tuple #[(.slice none 0 0), (.bool false), (.int .i64 7)]) w3)
 (pv (lenV a1) fun t17 => msC (drewW w3) 1 [(.bool false)] 4 t17 t17 fun t18 w4 => a0 = a0 ∧ (pv (buildV [(0, 7), (7, 1), (8, 1), (9, 1)] [(.int .i64 0), (.int .i64 0), (.int .i64 0), (.int .i64 0), (.int .i64 0), (.int .u64 0), (.int .u64 0), (.slice none 0 0), (.slice none 0 0), (.slice none 0 0)] [(0, a0), (1, a1), (2, t18)]) fun t19 => alC w4 (Value.cells t19).toList 267 fun t20 w5 => CallsR Tryz.prog 204 #[t20] w5 fun t22 w6 => kp X2 w5 w6 ∧ pv (unV .not t22) fun t23 => condC t23
 (R (.tuple #[(.slice none 0 0), (.bool false), (.int .i64 0)]) w6)
 (bsC w6 1 [(.int .i64 0)] 3 0 [] fun t24 w7 => pv (nilV t20) fun t26 => pv (addrV 9 t26) fun t27 => ldC w7 false 1 t27 fun t28 => apC w7 8 1 [(.int .i64 0)] 3 t24 t28 fun t29 w8 => kp X2 w7 w8 ∧ R (.tuple #[t29, (.bool true), (.int .i64 0)]) w8))))
theorem sh93 {a0 a1 : Value} {w : World} {R : Value → World → Prop} (h : S93 a0 a1 w R) : CallsR Tryz.prog 93 #[a0, a1] w R :=
  vcFB_go mixed [(2, 7, true)] [] .nil [(5, (.cons 1 (.cons 2 (.cons 3 (.cons 0 (.cons 4 (.cons 5 (.cons 6 (.cons 7 .nil)))))))), [0, 0, 0, 4, 12, 31, 63, 127])] [] 93 [a0, a1] (by kernel_rfl) h

/-- doorman/lin.Replay -/
def S88 (a0 a1 a2 : Value) (w : World) (R : Value → World → Prop) : Prop :=
 okB true 7 a0 = true ∧ syC w no fun w1 X2 => CallsR Tryz.prog 60 #[a0] w1 fun t14 w3 => kp X2 w1 w3 ∧ pv (extV t14 0) fun t15 => pv (extV t14 1) fun t16 => pv (binV .neq t16 (.int .i64 0)) fun t18 => condC t18
 (R (.tuple #[(.int .i64 (-1)), t16]) w3)
 (jnB (fun K4 => pv (lenV a2) fun t21 => lpB (fun e8 w9 X10 N11 => pv (binV .lss (e8 22) (e8 21)) fun t23 => condC t23
 (pv (idxSV 1 (e8 20) (e8 22)) fun t24 => ldC w9 false 1 t24 fun t25 => pv (binV .lss t25 (.int .i64 0)) fun t27 => gdB t27 false (fun N12 => pv (lenV (e8 1)) fun t31 => pv (binV .geq t25 t31) fun t32 => N12 (upd e0 32 t32) w9 X10) (fun N13 => N13 (upd e0 32 undef) w9 X10)
 (fun g14 w15 X16 => pv (pickV t27 (.bool true) (g14 32)) fun t33 => condC t33
 (R (.tuple #[(.int .i64 (-1)), (.int .i64 1)]) w15)
 (pv (idxSV 18 (e8 1) t25) fun t36 => pv (idxSV 18 (e8 1) t25) fun t41 => ldC (drewW w15) true 18 t36 fun t37 => ldC (drewW w15) true 18 t41 fun t42 => CallsR Tryz.prog 199 #[(e8 8), t42] (drewW w15) fun t43 w17 => kp X16 (drewW w15) w17 ∧ Ld w17 true 18 t36 t37 ∧ (CallsR Tryz.prog 198 #[t37, t43] w17 fun t44 w18 => kp X16 w17 w18 ∧ pv (unV .not t44) fun t45 => condC t45
 (R (.tuple #[t25, (.int .i64 0)]) w18)
 (pv (binV .add (e8 22) (.int .i64 1)) fun t47 => N11 (upd (upd (upd (upd (upd e0 22 t47) 21 (e8 21)) 20 (e8 20)) 8 (e8 8)) 1 (e8 1)) w18 X16)))))
 (K4 e0 w9 X10)) (upd (upd (upd (upd (upd e0 22 (.int .i64 0)) 21 t21) 20 a2) 8 t15) 1 a1) w3 X2)
 (fun e5 w6 X7 => R (.tuple #[(.int .i64 (-1)), (.int .i64 0)]) w6))
theorem sh88 {a0 a1 a2 : Value} {w : World} {R : Value → World → Prop} (h : S88 a0 a1 a2 w R) : CallsR Tryz.prog 88 #[a0, a1, a2] w R :=
  vcFB_go mixed [(3, 7, true)] [] (.mk [] 2 true .nil (.mk [] 2 true .nil (.mk [] 2 true .nil (.mk [] 0 true (.mk [] 2 true .nil (.mk [1, 8, 20, 21, 22] 0 true .nil .nil)) .nil)))) [(9, (.cons 0 (.cons 1 (.cons 2 (.cons 4 (.cons 5 (.cons 6 (.cons 7 (.cons 3 (.cons 8 (.cons 9 (.cons 10 (.cons 11 .nil)))))))))))), [0, 0, 3, 7, 0, 0, 0, 96, 224, 496, 1023, 2047])] [(7, [([32], 0, true)])] 88 [a0, a1, a2] (by kernel_rfl) h

/-- doorman/lin.Judge -/
def S91 (a0 a1 : Value) (w : World) (R : Value → World → Prop) : Prop :=
 okB true 7 a0 = true ∧ syC w no fun w1 X2 => CallsR Tryz.prog 137 #[a1] (drewW w1) fun t9 w3 => kp X2 (drewW w1) w3 ∧ a0 = a0 ∧ (CallsR Tryz.prog 88 #[a0, a1, t9] w3 fun t10 w4 => kp X2 w3 w4 ∧ pv (extV t10 0) fun t11 => pv (extV t10 1) fun t12 => R (.tuple #[t11, t12]) w4)
theorem sh91 {a0 a1 : Value} {w : World} {R : Value → World → Prop} (h : S91 a0 a1 w R) : CallsR Tryz.prog 91 #[a0, a1] w R :=
  vcFB_go mixed [(2, 7, true)] [] .nil [(1, (.cons 1 (.cons 2 (.cons 0 (.cons 3 (.cons 4 (.cons 5 (.cons 6 (.cons 7 (.cons 8 .nil))))))))), [0, 0, 0, 4, 15, 31, 31, 127, 255])] [] 91 [a0, a1] (by kernel_rfl) h

/-- doorman/hist.Order -/
def S137 (a0 : Value) (w : World) (R : Value → World → Prop) : Prop :=
 alC w (Value.cells a0).toList 110 fun t1 w1 => jnB (fun K2 => ldC w1 false 1 t1 fun t6 => pv (lenV t6) fun t7 => lpB (fun e6 w7 X8 N9 => pv (binV .lss (e6 8) (e6 7)) fun t9 => condC t9
 (jnB (fun K10 => pv (idxSV 18 (e6 6) (e6 8)) fun t11 => syC w7 X8 fun w14 X15 => ldC w14 true 18 t11 fun t12 => okB true 18 t12 = true ∧ pv (fieldV false 12 1 t12) fun t14 => pv (binV .geq t14 (.int .i64 0)) fun t15 => condC t15
 (syC w14 X15 fun w16 X17 => bsC w16 1 [(.int .i64 0)] 3 1 [(0, (e6 8))] fun t18 w18 => apC w18 8 1 [(.int .i64 0)] 3 (e6 3) t18 fun t19 w19 => kp X17 w18 w19 ∧ K10 (upd (upd (upd (upd (upd e0 8 (e6 8)) 7 (e6 7)) 6 (e6 6)) 3 t19) 1 (e6 1)) w19 X17)
 (K10 (upd (upd (upd (upd (upd e0 8 (e6 8)) 7 (e6 7)) 6 (e6 6)) 3 (e6 3)) 1 (e6 1)) w14 X15))
 (fun e11 w12 X13 => pv (binV .add (e11 8) (.int .i64 1)) fun t20 => N9 (upd (upd (upd (upd (upd e0 8 t20) 7 (e11 7)) 6 (e11 6)) 3 (e11 3)) 1 (e11 1)) w12 X13))
 (K2 (upd (upd e0 3 (e6 3)) 1 (e6 1)) w7 X8)) (upd (upd (upd (upd (upd e0 8 (.int .i64 0)) 7 t7) 6 t6) 3 (.slice none 0 0)) 1 t1) w1 no)
 (fun e3 w4 X5 => syC w4 X5 fun w20 X21 => CallsR Tryz.prog 241 #[(e3 3), (.func (.func 242) #[] #[(e3 1)])] w20 fun t23 w22 => kp X21 w20 w22 ∧ R (e3 3) w22)
theorem sh137 {a0 : Value} {w : World} {R : Value → World → Prop} (h : S137 a0 w R) : CallsR Tryz.prog 137 #[a0] w R :=
  vcFB_go mixed [(5, 18, true)] [(13, 5, 12)] (.mk [] 2 true .nil (.mk [] 2 true .nil (.mk [1, 3] 2 true (.mk [] 2 true .nil (.mk [1, 3, 6, 7, 8] 2 true (.mk [] 2 true .nil (.mk [] 2 true .nil (.mk [1, 3, 6, 7, 8] 2 true .nil .nil))) .nil)) .nil))) [] [] 137 [a0] (by kernel_rfl) h

/-- slices.SortStableFunc[[]int,int] -/
def S241 (a0 a1 : Value) (w : World) (R : Value → World → Prop) : Prop :=
 pv (lenV a0) fun t6 => CallsR Tryz.prog 323 #[a0, t6, a1] w fun t8 w1 => R (.tuple #[]) w1
theorem sh241 {a0 a1 : Value} {w : World} {R : Value → World → Prop} (h : S241 a0 a1 w R) : CallsR Tryz.prog 241 #[a0, a1] w R :=
  vcFB_go mixed [] [] .nil [] [] 241 [a0, a1] (by kernel_rfl) h

/-- slices.stableCmpFunc[int] -/
def S323 (a0 a1 a2 : Value) (w : World) (R : Value → World → Prop) : Prop :=
 jnB (fun K1 => lpB (fun e5 w6 X7 N8 => pv (binV .leq (e5 8) (e5 1)) fun t13 => condC t13
 (CallsR Tryz.prog 372 #[(e5 0), (e5 7), (e5 8), (e5 2)] w6 fun t18 w9 => pv (binV .add (e5 8) (e5 6)) fun t22 => N8 (upd (upd (upd (upd (upd (upd e0 8 t22) 7 (e5 8)) 6 (e5 6)) 2 (e5 2)) 1 (e5 1)) 0 (e5 0)) w9 X7)
 (K1 (upd (upd (upd (upd (upd e0 7 (e5 7)) 6 (e5 6)) 2 (e5 2)) 1 (e5 1)) 0 (e5 0)) w6 X7)) (upd (upd (upd (upd (upd (upd e0 8 (.int .i64 20)) 7 (.int .i64 0)) 6 (.int .i64 20)) 2 a2) 1 a1) 0 a0) w no)
 (fun e2 w3 X4 => CallsR Tryz.prog 372 #[(e2 0), (e2 7), (e2 1), (e2 2)] w3 fun t27 w10 => lpB (fun e11 w12 X13 N14 => pv (binV .lss (e11 6) (e11 1)) fun t30 => condC t30
 (pv (binV .mul (.int .i64 2) (e11 6)) fun t32 => jnB (fun K15 => lpB (fun e19 w20 X21 N22 => pv (binV .leq (e19 8) (e19 1)) fun t35 => condC t35
 (pv (binV .add (e19 7) (e19 6)) fun t40 => CallsR Tryz.prog 373 #[(e19 0), (e19 7), t40, (e19 8), (e19 2)] w20 fun t43 w23 => pv (binV .mul (.int .i64 2) (e19 6)) fun t47 => pv (binV .add (e19 8) t47) fun t48 => N22 (upd (upd (upd (upd (upd (upd e0 8 t48) 7 (e19 8)) 6 (e19 6)) 2 (e19 2)) 1 (e19 1)) 0 (e19 0)) w23 X21)
 (K15 (upd (upd (upd (upd (upd e0 7 (e19 7)) 6 (e19 6)) 2 (e19 2)) 1 (e19 1)) 0 (e19 0)) w20 X21)) (upd (upd (upd (upd (upd (upd e0 8 t32) 7 (.int .i64 0)) 6 (e11 6)) 2 (e11 2)) 1 (e11 1)) 0 (e11 0)) w12 X13)
 (fun e16 w17 X18 => jnB (fun K24 => pv (binV .add (e16 7) (e16 6)) fun t51 => pv (binV .lss t51 (e16 1)) fun t54 => condC t54
 (CallsR Tryz.prog 373 #[(e16 0), (e16 7), t51, (e16 1), (e16 2)] w17 fun t60 w28 => K24 (upd (upd (upd (upd e0 6 (e16 6)) 2 (e16 2)) 1 (e16 1)) 0 (e16 0)) w28 X18)
 (K24 (upd (upd (upd (upd e0 6 (e16 6)) 2 (e16 2)) 1 (e16 1)) 0 (e16 0)) w17 X18))
 (fun e25 w26 X27 => pv (binV .mul (e25 6) (.int .i64 2)) fun t62 => N14 (upd (upd (upd (upd e0 6 t62) 2 (e25 2)) 1 (e25 1)) 0 (e25 0)) w26 X27)))
 (R (.tuple #[]) w12)) (upd (upd (upd (upd e0 6 (e2 6)) 2 (e2 2)) 1 (e2 1)) 0 (e2 0)) w10 X4)
theorem sh323 {a0 a1 a2 : Value} {w : World} {R : Value → World → Prop} (h : S323 a0 a1 a2 w R) : CallsR Tryz.prog 323 #[a0, a1, a2] w R :=
  vcFB_go mixed [] [] (.mk [] 2 true .nil (.mk [] 2 true .nil (.mk [0, 1, 2, 6, 7] 0 false (.mk [0, 1, 2, 6, 7, 8] 0 false .nil .nil) (.mk [] 2 true .nil (.mk [0, 1, 2, 6] 0 false (.mk [] 2 true .nil (.mk [] 2 true .nil (.mk [0, 1, 2, 6, 7] 0 false (.mk [0, 1, 2, 6, 7, 8] 0 false .nil .nil) (.mk [0, 1, 2, 6] 0 false .nil .nil)))) .nil))))) [] [] 323 [a0, a1, a2] (by kernel_rfl) h

/-- slices.insertionSortCmpFunc[int] -/
def S372 (a0 a1 a2 a3 : Value) (w : World) (R : Value → World → Prop) : Prop :=
 pv (binV .add a1 (.int .i64 1)) fun t11 => lpB (fun e1 w2 X3 N4 => pv (binV .lss (e1 8) (e1 2)) fun t14 => condC t14
 (jnB (fun K5 => lpB (fun e9 w10 X11 N12 => pv (binV .gtr (e9 9) (e9 1)) fun t20 => gdB t20 true (fun N13 => pv (idxSV 1 (e9 0) (e9 9)) fun t25 => pv (binV .sub (e9 9) (.int .i64 1)) fun t29 => pv (idxSV 1 (e9 0) t29) fun t30 => ldC (drewW w10) false 1 t25 fun t26 => ldC (drewW w10) false 1 t30 fun t31 => dyC Tryz.prog (e9 3) #[t26, t31] (drewW w10) fun t32 w18 => pv (binV .lss t32 (.int .i64 0)) fun t33 => N13 (upd e0 33 t33) w18 X11) (fun N14 => N14 (upd e0 33 undef) (drewW w10) X11)
 (fun g15 w16 X17 => pv (pickV t20 (g15 33) (.bool false)) fun t34 => condC t34
 (pv (binV .sub (e9 9) (.int .i64 1)) fun t41 => pv (binV .sub (e9 9) (.int .i64 1)) fun t44 => pv (idxSV 1 (e9 0) t44) fun t45 => pv (idxSV 1 (e9 0) (e9 9)) fun t49 => ldC (drewW w16) false 1 t45 fun t46 => ldC (drewW w16) false 1 t49 fun t50 => pv (idxSV 1 (e9 0) (e9 9)) fun t51 => stC (drewW w16) 1 t51 t46 fun w19 => pv (idxSV 1 (e9 0) t41) fun t52 => stC w19 1 t52 t50 fun w20 => pv (binV .sub (e9 9) (.int .i64 1)) fun t36 => N12 (upd (upd (upd (upd (upd (upd e0 9 t36) 8 (e9 8)) 3 (e9 3)) 2 (e9 2)) 1 (e9 1)) 0 (e9 0)) w20 X17)
 (K5 (upd (upd (upd (upd (upd e0 8 (e9 8)) 3 (e9 3)) 2 (e9 2)) 1 (e9 1)) 0 (e9 0)) w16 X17))) (upd (upd (upd (upd (upd (upd e0 9 (e1 8)) 8 (e1 8)) 3 (e1 3)) 2 (e1 2)) 1 (e1 1)) 0 (e1 0)) w2 X3)
 (fun e6 w7 X8 => pv (binV .add (e6 8) (.int .i64 1)) fun t16 => N4 (upd (upd (upd (upd (upd e0 8 t16) 3 (e6 3)) 2 (e6 2)) 1 (e6 1)) 0 (e6 0)) w7 X8))
 (R (.tuple #[]) w2)) (upd (upd (upd (upd (upd e0 8 t11) 3 a3) 2 a2) 1 a1) 0 a0) w no
theorem sh372 {a0 a1 a2 a3 : Value} {w : World} {R : Value → World → Prop} (h : S372 a0 a1 a2 a3 w R) : CallsR Tryz.prog 372 #[a0, a1, a2, a3] w R :=
  vcFB_go mixed [] [] (.mk [] 2 true .nil (.mk [0, 1, 2, 3, 8] 0 false (.mk [] 2 true .nil (.mk [0, 1, 2, 3, 8] 0 false (.mk [] 2 true .nil (.mk [0, 1, 2, 3, 8, 9] 0 false .nil .nil)) .nil)) .nil)) [(4, (.cons 0 (.cons 1 (.cons 2 (.cons 3 (.cons 4 (.cons 5 (.cons 6 (.cons 7 (.cons 9 (.cons 10 (.cons 11 (.cons 12 (.cons 8 (.cons 13 (.cons 14 (.cons 15 (.cons 16 .nil))))))))))))))))), [0, 0, 3, 7, 15, 15, 15, 111, 239, 15, 15, 1039, 3599, 7695, 16383, 32767, 65535]), (6, (.cons 0 (.cons 1 (.cons 2 (.cons 3 (.cons 4 (.cons 5 (.cons 6 (.cons 7 (.cons 8 (.cons 10 (.cons 11 (.cons 12 (.cons 9 (.cons 13 (.cons 14 (.cons 15 (.cons 16 (.cons 17 .nil)))))))))))))))))), [0, 0, 0, 0, 8, 0, 0, 64, 224, 480, 0, 0, 3072, 7168, 16355, 32739, 65535, 131071])] [(4, [([33], 0, false)])] 372 [a0, a1, a2, a3] (by kernel_rfl) h

/-- doorman/doormanlaw21.awake -/
def S86 (w : World) (R : Value → World → Prop) : Prop :=
 pv (buildV [(0, 1), (1, 1), (2, 1), (3, 1), (4, 1), (5, 1), (6, 1)] [(.int .i64 0), (.string ⟨#[]⟩), (.int .i64 0), (.int .i64 0), (.int .i64 0), (.int .u64 0), (.slice none 0 0)] [(0, (.int .i64 1)), (1, (.string ⟨#[117]⟩)), (3, (.int .i64 1)), (5, (.int .u64 9))]) fun t10 => pv (buildV [(0, 1), (1, 1), (2, 7), (9, 1), (10, 1), (11, 1), (12, 1), (13, 1), (14, 4)] [(.int .i64 0), (.int .i64 0), (.int .i64 0), (.string ⟨#[]⟩), (.int .i64 0), (.int .i64 0), (.int .i64 0), (.int .u64 0), (.slice none 0 0), (.int .i64 0), (.int .u64 0), (.int .i64 0), (.int .i64 0), (.int .i64 0), (.int .i64 0), (.slice none 0 0), (.slice none 0 0), (.bool false)] [(5, (.int .i64 0)), (6, (.int .i64 1)), (7, (.int .i64 2)), (2, t10)]) fun t11 => pv (buildV [(0, 1), (1, 1), (2, 1), (3, 1), (4, 1), (5, 1), (6, 1)] [(.int .i64 0), (.string ⟨#[]⟩), (.int .i64 0), (.int .i64 0), (.int .i64 0), (.int .u64 0), (.slice none 0 0)] [(0, (.int .i64 4)), (1, (.string ⟨#[117]⟩))]) fun t12 => pv (buildV [(0, 1), (1, 1), (2, 1)] [(.int .i64 0), (.int .i64 0), (.int .i64 0)] []) fun t13 => bsC w 3 [(.int .i64 0), (.int .i64 0), (.int .i64 0)] 150 1 [(0, t13)] fun t14 w1 => pv (buildV [(0, 1), (1, 1), (2, 1), (3, 1)] [(.int .i64 0), (.slice none 0 0), (.slice none 0 0), (.bool false)] [(1, t14)]) fun t15 => pv (buildV [(0, 1), (1, 1), (2, 7), (9, 1), (10, 1), (11, 1), (12, 1), (13, 1), (14, 4)] [(.int .i64 0), (.int .i64 0), (.int .i64 0), (.string ⟨#[]⟩), (.int .i64 0), (.int .i64 0), (.int .i64 0), (.int .u64 0), (.slice none 0 0), (.int .i64 0), (.int .u64 0), (.int .i64 0), (.int .i64 0), (.int .i64 0), (.int .i64 0), (.slice none 0 0), (.slice none 0 0), (.bool false)] [(0, (.int .i64 1)), (5, (.int .i64 3)), (6, (.int .i64 4)), (7, (.int .i64 5)), (2, t12), (8, t15)]) fun t16 => bsC w1 18 [(.int .i64 0), (.int .i64 0), (.int .i64 0), (.string ⟨#[]⟩), (.int .i64 0), (.int .i64 0), (.int .i64 0), (.int .u64 0), (.slice none 0 0), (.int .i64 0), (.int .u64 0), (.int .i64 0), (.int .i64 0), (.int .i64 0), (.int .i64 0), (.slice none 0 0), (.slice none 0 0), (.bool false)] 120 2 [(0, t11), (1, t16)] fun t17 w2 => CallsR Tryz.prog 59 #[] w2 fun t19 w3 => CallsR Tryz.prog 93 #[t19, t17] w3 fun t21 w4 => pv (extV t21 0) fun t22 => pv (extV t21 1) fun t23 => pv (extV t21 2) fun t24 => CallsR Tryz.prog 59 #[] w4 fun t26 w5 => CallsR Tryz.prog 91 #[t26, t17] w5 fun t28 w6 => pv (extV t28 0) fun t29 => pv (extV t28 1) fun t30 => pv (idxSV 18 t17 (.int .i64 1)) fun t32 => pv (addrV 14 t32) fun t33 => pv (addrV 1 t33) fun t34 => ldC w6 false 1 t34 fun t35 => pv (buildV [(0, 1), (1, 1), (2, 1)] [(.int .i64 0), (.int .i64 0), (.int .i64 0)] [(0, (.int .i64 1)), (2, (.int .i64 1))]) fun t36 => pv (idxSV 3 t35 (.int .i64 0)) fun t37 => stC w6 3 t37 t36 fun w7 => CallsR Tryz.prog 59 #[] w7 fun t39 w8 => CallsR Tryz.prog 93 #[t39, t17] w8 fun t41 w9 => pv (extV t41 0) fun t42 => pv (extV t41 1) fun t43 => pv (extV t41 2) fun t44 => pv (unV .not t23) fun t46 => gdB t46 true (fun N10 => pv (binV .eql t24 (.int .i64 0)) fun t49 => N10 (upd e0 49 t49) w9 no) (fun N11 => N11 (upd e0 49 undef) w9 no)
 (fun g12 w13 X14 => pv (pickV t46 (g12 49) (.bool false)) fun t50 => gdB t50 true (fun N15 => pv (binV .eql t29 (.int .i64 1)) fun t53 => N15 (upd e0 53 t53) w13 X14) (fun N16 => N16 (upd e0 53 undef) w13 X14)
 (fun g17 w18 X19 => pv (pickV t50 (g17 53) (.bool false)) fun t54 => gdB t54 true (fun N20 => pv (binV .eql t30 (.int .i64 0)) fun t57 => N20 (upd e0 57 t57) w18 X19) (fun N21 => N21 (upd e0 57 undef) w18 X19)
 (fun g22 w23 X24 => pv (pickV t54 (g22 57) (.bool false)) fun t58 => gdB t58 true (fun N25 => N25 (upd e0 60 t43) w23 X24) (fun N26 => N26 (upd e0 60 undef) w23 X24)
 (fun g27 w28 X29 => pv (pickV t58 (g27 60) (.bool false)) fun t61 => gdB t61 true (fun N30 => pv (binV .eql t44 (.int .i64 0)) fun t64 => N30 (upd e0 64 t64) w28 X29) (fun N31 => N31 (upd e0 64 undef) w28 X29)
 (fun g32 w33 X34 => pv (pickV t61 (g32 64) (.bool false)) fun t65 => gdB t65 true (fun N35 => pv (lenV t42) fun t68 => pv (binV .eql t68 (.int .i64 2)) fun t69 => N35 (upd e0 69 t69) w33 X34) (fun N36 => N36 (upd e0 69 undef) w33 X34)
 (fun g37 w38 X39 => pv (pickV t65 (g37 69) (.bool false)) fun t70 => pv (pickV t70 (.bool true) (.bool false)) fun t72 => R t72 w38))))))
theorem sh86 {w : World} {R : Value → World → Prop} (h : S86 w R) : CallsR Tryz.prog 86 #[] w R :=
  vcFB_go mixed [] [] .nil [] [(6, [([49], 0, false), ([53], 0, false), ([57], 0, false), ([60], 0, false), ([64], 0, false), ([69], 0, false)])] 86 [] (by kernel_rfl) h

/-- doorman/doormanlaw21.short -/
def S87 (a0 : Value) (w : World) (R : Value → World → Prop) : Prop :=
 jnB (fun K1 => lpB (fun e5 w6 X7 N8 => pv (lenV (e5 0)) fun t6 => pv (binV .lss (e5 3) t6) fun t7 => condC t7
 (pv (idxSV 18 (e5 0) (e5 3)) fun t12 => pv (addrV 2 t12) fun t13 => ldC w6 true 7 t13 fun t14 => CallsR Tryz.prog 62 #[t14] w6 fun t15 w9 => pv (unV .not t15) fun t16 => gdB t16 false (fun N10 => pv (idxSV 18 (e5 0) (e5 3)) fun t20 => pv (addrV 14 t20) fun t21 => pv (addrV 1 t21) fun t22 => ldC w9 false 1 t22 fun t23 => pv (lenV t23) fun t24 => pv (binV .gtr t24 (.int .i64 60)) fun t25 => N10 (upd e0 25 t25) w9 X7) (fun N11 => N11 (upd e0 25 undef) w9 X7)
 (fun g12 w13 X14 => pv (pickV t16 (.bool true) (g12 25)) fun t26 => gdB t26 false (fun N15 => pv (idxSV 18 (e5 0) (e5 3)) fun t30 => pv (addrV 14 t30) fun t31 => pv (addrV 2 t31) fun t32 => ldC w13 false 1 t32 fun t33 => pv (lenV t33) fun t34 => pv (binV .gtr t34 (.int .i64 60)) fun t35 => N15 (upd e0 35 t35) w13 X14) (fun N16 => N16 (upd e0 35 undef) w13 X14)
 (fun g17 w18 X19 => pv (pickV t26 (.bool true) (g17 35)) fun t36 => condC t36
 (R (.bool false) w18)
 (pv (binV .add (e5 3) (.int .i64 1)) fun t9 => N8 (upd (upd e0 3 t9) 0 (e5 0)) w18 X19))))
 (K1 e0 w6 X7)) (upd (upd e0 3 (.int .i64 0)) 0 a0) w no)
 (fun e2 w3 X4 => R (.bool true) w3)
theorem sh87 {a0 : Value} {w : World} {R : Value → World → Prop} (h : S87 a0 w R) : CallsR Tryz.prog 87 #[a0] w R :=
  vcFB_go mixed [] [] (.mk [] 2 true .nil (.mk [] 0 false (.mk [] 2 true .nil (.mk [0, 3] 0 false .nil .nil)) .nil)) [] [(4, [([25], 0, false), ([35], 0, false)])] 87 [a0] (by kernel_rfl) h

/-- doorman/doormanlaw21.LinOpen -/
def S9 (a0 a1 a2 : Value) (w : World) (R : Value → World → Prop) : Prop :=
 okB true 7 a0 = true ∧ okB true 7 a2 = true ∧ syC w no fun w1 X2 => CallsR Tryz.prog 86 #[] w1 fun t15 w3 => kp X2 w1 w3 ∧ pv (unV .not t15) fun t16 => gdB t16 false (fun N4 => pv (lenV a1) fun t19 => pv (binV .gtr t19 (.int .i64 4)) fun t20 => N4 (upd e0 20 t20) w3 X2) (fun N5 => N5 (upd e0 20 undef) w3 X2)
 (fun g6 w7 X8 => pv (pickV t16 (.bool true) (g6 20)) fun t21 => gdB t21 false (fun N9 => CallsR Tryz.prog 87 #[a1] w7 fun t24 w14 => kp X8 w7 w14 ∧ pv (unV .not t24) fun t25 => N9 (upd e0 25 t25) w14 X8) (fun N10 => N10 (upd e0 25 undef) w7 X8)
 (fun g11 w12 X13 => pv (pickV t21 (.bool true) (g11 25)) fun t26 => gdB t26 false (fun N15 => CallsR Tryz.prog 62 #[a2] w12 fun t29 w20 => kp X13 w12 w20 ∧ pv (unV .not t29) fun t30 => N15 (upd e0 30 t30) w20 X13) (fun N16 => N16 (upd e0 30 undef) w12 X13)
 (fun g17 w18 X19 => pv (pickV t26 (.bool true) (g17 30)) fun t31 => gdB t31 false (fun N21 => CallsR Tryz.prog 89 #[a0] w18 fun t34 w26 => kp X19 w18 w26 ∧ pv (unV .not t34) fun t35 => N21 (upd e0 35 t35) w26 X19) (fun N22 => N22 (upd e0 35 undef) w18 X19)
 (fun g23 w24 X25 => pv (pickV t31 (.bool true) (g23 35)) fun t36 => condC t36
 (CallsR Tryz.prog 86 #[] w24 fun t37 w27 => kp X25 w24 w27 ∧ R t37 w27)
 (jnB (fun K28 => lpB (fun e32 w33 X34 N35 => pv (lenV (e32 1)) fun t40 => pv (binV .lss (e32 8) t40) fun t41 => condC t41
 (pv (idxSV 18 (e32 1) (e32 8)) fun t46 => pv (addrV 13 t46) fun t47 => ldC (drewW w33) false 1 t47 fun t48 => pv (binV .geq t48 (.int .i64 0)) fun t49 => gdB t49 true (fun N36 => pv (idxSV 18 (e32 1) (e32 8)) fun t53 => pv (addrV 13 t53) fun t54 => pv (idxSV 18 (e32 1) (e32 8)) fun t58 => pv (addrV 11 t58) fun t59 => ldC (drewW w33) false 1 t54 fun t55 => ldC (drewW w33) false 1 t59 fun t60 => pv (binV .lss t55 t60) fun t61 => N36 (upd e0 61 t61) (drewW w33) X34) (fun N37 => N37 (upd e0 61 undef) (drewW w33) X34)
 (fun g38 w39 X40 => pv (pickV t49 (g38 61) (.bool false)) fun t62 => gdB t62 false (fun N41 => pv (idxSV 18 (e32 1) (e32 8)) fun t66 => pv (addrV 11 t66) fun t67 => ldC w39 false 1 t67 fun t68 => pv (binV .gtr t68 (.int .i64 1000000)) fun t69 => N41 (upd e0 69 t69) w39 X40) (fun N42 => N42 (upd e0 69 undef) w39 X40)
 (fun g43 w44 X45 => pv (pickV t62 (.bool true) (g43 69)) fun t70 => gdB t70 false (fun N46 => pv (idxSV 18 (e32 1) (e32 8)) fun t74 => pv (addrV 13 t74) fun t75 => ldC w44 false 1 t75 fun t76 => pv (binV .gtr t76 (.int .i64 1000000)) fun t77 => N46 (upd e0 77 t77) w44 X45) (fun N47 => N47 (upd e0 77 undef) w44 X45)
 (fun g48 w49 X50 => pv (pickV t70 (.bool true) (g48 77)) fun t78 => condC t78
 (R (.bool true) w49)
 (pv (idxSV 18 (e32 1) (e32 8)) fun t82 => pv (addrV 11 t82) fun t83 => pv (idxSV 18 (e32 1) (e32 8)) fun t87 => pv (addrV 13 t87) fun t88 => ldC (drewW w49) false 1 t83 fun t84 => ldC (drewW w49) false 1 t88 fun t89 => pv (maxV true (e32 7) [t84, t89]) fun t90 => pv (binV .add (e32 8) (.int .i64 1)) fun t43 => N35 (upd (upd (upd (upd (upd e0 8 t43) 7 t90) 5 (e32 5)) 3 (e32 3)) 1 (e32 1)) (drewW w49) X50)))))
 (K28 (upd (upd (upd (upd e0 7 (e32 7)) 5 (e32 5)) 3 (e32 3)) 1 (e32 1)) w33 X34)) (upd (upd (upd (upd (upd e0 8 (.int .i64 0)) 7 (.int .i64 0)) 5 a2) 3 a0) 1 a1) w24 X25)
 (fun e29 w30 X31 => CallsR Tryz.prog 93 #[(e29 3), (e29 1)] w30 fun t94 w51 => kp X31 w30 w51 ∧ pv (extV t94 0) fun t95 => pv (extV t94 1) fun t96 => pv (extV t94 2) fun t97 => jnB (fun K52 => pv (binV .add (e29 7) (.int .i64 1)) fun t104 => pv (buildV [(0, 1), (1, 1), (2, 7), (9, 1), (10, 1), (11, 1), (12, 1), (13, 1), (14, 4)] [(.int .i64 0), (.int .i64 0), (.int .i64 0), (.string ⟨#[]⟩), (.int .i64 0), (.int .i64 0), (.int .i64 0), (.int .u64 0), (.slice none 0 0), (.int .i64 0), (.int .u64 0), (.int .i64 0), (.int .i64 0), (.int .i64 0), (.int .i64 0), (.slice none 0 0), (.slice none 0 0), (.bool false)] [(0, (.int .i64 7)), (5, t104), (6, (.int .i64 (-1))), (7, (.int .i64 (-1))), (2, (e29 5))]) fun t106 => (bsC (drewW w51) 18 [(.int .i64 0), (.int .i64 0), (.int .i64 0), (.string ⟨#[]⟩), (.int .i64 0), (.int .i64 0), (.int .i64 0), (.int .u64 0), (.slice none 0 0), (.int .i64 0), (.int .u64 0), (.int .i64 0), (.int .i64 0), (.int .i64 0), (.int .i64 0), (.slice none 0 0), (.slice none 0 0), (.bool false)] 120 0 [] fun t100 w56 => (e29 5) = (e29 5) ∧ (e29 3) = (e29 3) ∧ ((apC w56 200 18 [(.int .i64 0), (.int .i64 0), (.int .i64 0), (.string ⟨#[]⟩), (.int .i64 0), (.int .i64 0), (.int .i64 0), (.int .u64 0), (.slice none 0 0), (.int .i64 0), (.int .u64 0), (.int .i64 0), (.int .i64 0), (.int .i64 0), (.int .i64 0), (.slice none 0 0), (.slice none 0 0), (.bool false)] 120 t100 (e29 1) fun t102 w57 => kp X31 w56 w57 ∧ (e29 5) = (e29 5) ∧ (e29 3) = (e29 3) ∧ (bsC w57 18 [(.int .i64 0), (.int .i64 0), (.int .i64 0), (.string ⟨#[]⟩), (.int .i64 0), (.int .i64 0), (.int .i64 0), (.int .u64 0), (.slice none 0 0), (.int .i64 0), (.int .u64 0), (.int .i64 0), (.int .i64 0), (.int .i64 0), (.int .i64 0), (.slice none 0 0), (.slice none 0 0), (.bool false)] 120 1 [(0, t106)] fun t107 w58 => (e29 3) = (e29 3) ∧ (apC w58 200 18 [(.int .i64 0), (.int .i64 0), (.int .i64 0), (.string ⟨#[]⟩), (.int .i64 0), (.int .i64 0), (.int .i64 0), (.int .u64 0), (.slice none 0 0), (.int .i64 0), (.int .u64 0), (.int .i64 0), (.int .i64 0), (.int .i64 0), (.int .i64 0), (.slice none 0 0), (.slice none 0 0), (.bool false)] 120 t102 t107 fun t108 w59 => kp X31 w58 w59 ∧ (e29 3) = (e29 3) ∧ (CallsR Tryz.prog 93 #[(e29 3), t108] w59 fun t109 w60 => kp X31 w59 w60 ∧ pv (extV t109 0) fun t110 => pv (extV t109 1) fun t111 => pv (extV t109 2) fun t112 => K52 (upd (upd (upd (upd (upd (upd e0 14 t112) 13 t111) 12 t110) 11 t97) 10 t96) 1 (e29 1)) w60 X31))))
 ∧ (bsC w56 18 [(.int .i64 0), (.int .i64 0), (.int .i64 0), (.string ⟨#[]⟩), (.int .i64 0), (.int .i64 0), (.int .i64 0), (.int .u64 0), (.slice none 0 0), (.int .i64 0), (.int .u64 0), (.int .i64 0), (.int .i64 0), (.int .i64 0), (.int .i64 0), (.slice none 0 0), (.slice none 0 0), (.bool false)] 120 1 [(0, t106)] fun t107_61 w62 => (e29 3) = (e29 3) ∧ (apC w62 200 18 [(.int .i64 0), (.int .i64 0), (.int .i64 0), (.string ⟨#[]⟩), (.int .i64 0), (.int .i64 0), (.int .i64 0), (.int .u64 0), (.slice none 0 0), (.int .i64 0), (.int .u64 0), (.int .i64 0), (.int .i64 0), (.int .i64 0), (.int .i64 0), (.slice none 0 0), (.slice none 0 0), (.bool false)] 120 t100 (e29 1) fun t102_63 w64 => kp X31 w62 w64 ∧ (e29 5) = (e29 5) ∧ (e29 3) = (e29 3) ∧ (apC w64 200 18 [(.int .i64 0), (.int .i64 0), (.int .i64 0), (.string ⟨#[]⟩), (.int .i64 0), (.int .i64 0), (.int .i64 0), (.int .u64 0), (.slice none 0 0), (.int .i64 0), (.int .u64 0), (.int .i64 0), (.int .i64 0), (.int .i64 0), (.int .i64 0), (.slice none 0 0), (.slice none 0 0), (.bool false)] 120 t102_63 t107_61 fun t108_65 w66 => kp X31 w64 w66 ∧ (e29 3) = (e29 3) ∧ (CallsR Tryz.prog 93 #[(e29 3), t108_65] w66 fun t109_67 w68 => kp X31 w66 w68 ∧ pv (extV t109_67 0) fun t110_69 => pv (extV t109_67 1) fun t111_70 => pv (extV t109_67 2) fun t112_71 => K52 (upd (upd (upd (upd (upd (upd e0 14 t112_71) 13 t111_70) 12 t110_69) 11 t97) 10 t96) 1 (e29 1)) w68 X31))))))
 ∧ (bsC (drewW w51) 18 [(.int .i64 0), (.int .i64 0), (.int .i64 0), (.string ⟨#[]⟩), (.int .i64 0), (.int .i64 0), (.int .i64 0), (.int .u64 0), (.slice none 0 0), (.int .i64 0), (.int .u64 0), (.int .i64 0), (.int .i64 0), (.int .i64 0), (.int .i64 0), (.slice none 0 0), (.slice none 0 0), (.bool false)] 120 1 [(0, t106)] fun t107_72 w73 => (e29 3) = (e29 3) ∧ (bsC w73 18 [(.int .i64 0), (.int .i64 0), (.int .i64 0), (.string ⟨#[]⟩), (.int .i64 0), (.int .i64 0), (.int .i64 0), (.int .u64 0), (.slice none 0 0), (.int .i64 0), (.int .u64 0), (.int .i64 0), (.int .i64 0), (.int .i64 0), (.int .i64 0), (.slice none 0 0), (.slice none 0 0), (.bool false)] 120 0 [] fun t100_74 w75 => (e29 5) = (e29 5) ∧ (e29 3) = (e29 3) ∧ (apC w75 200 18 [(.int .i64 0), (.int .i64 0), (.int .i64 0), (.string ⟨#[]⟩), (.int .i64 0), (.int .i64 0), (.int .i64 0), (.int .u64 0), (.slice none 0 0), (.int .i64 0), (.int .u64 0), (.int .i64 0), (.int .i64 0), (.int .i64 0), (.int .i64 0), (.slice none 0 0), (.slice none 0 0), (.bool false)] 120 t100_74 (e29 1) fun t102_76 w77 => kp X31 w75 w77 ∧ (e29 5) = (e29 5) ∧ (e29 3) = (e29 3) ∧ (apC w77 200 18 [(.int .i64 0), (.int .i64 0), (.int .i64 0), (.string ⟨#[]⟩), (.int .i64 0), (.int .i64 0), (.int .i64 0), (.int .u64 0), (.slice none 0 0), (.int .i64 0), (.int .u64 0), (.int .i64 0), (.int .i64 0), (.int .i64 0), (.int .i64 0), (.slice none 0 0), (.slice none 0 0), (.bool false)] 120 t102_76 t107_72 fun t108_78 w79 => kp X31 w77 w79 ∧ (e29 3) = (e29 3) ∧ (CallsR Tryz.prog 93 #[(e29 3), t108_78] w79 fun t109_80 w81 => kp X31 w79 w81 ∧ pv (extV t109_80 0) fun t110_82 => pv (extV t109_80 1) fun t111_83 => pv (extV t109_80 2) fun t112_84 => K52 (upd (upd (upd (upd (upd (upd e0 14 t112_84) 13 t111_83) 12 t110_82) 11 t97) 10 t96) 1 (e29 1)) w81 X31))))))
 (fun e53 w54 X55 => pv (binV .eql (e53 11) (.int .i64 0)) fun t114 => gdB t114 true (fun N85 => pv (binV .eql (e53 14) (.int .i64 0)) fun t117 => N85 (upd e0 117 t117) w54 X55) (fun N86 => N86 (upd e0 117 undef) w54 X55)
 (fun g87 w88 X89 => pv (pickV t114 (g87 117) (.bool false)) fun t118 => gdB t118 true (fun N90 => pv (unV .not (e53 10)) fun t121 => N90 (upd e0 122 t121) w88 X89) (fun N91 => N91 (upd e0 122 undef) w88 X89)
 (fun g92 w93 X94 => gdB (g92 122) false (fun N95 => N95 (upd e0 124 (e53 13)) w93 X94) (fun N96 => N96 (upd e0 124 undef) w93 X94)
 (fun g97 w98 X99 => gdB (g97 124) true (fun N100 => pv (lenV (e53 12)) fun t126 => pv (lenV (e53 1)) fun t128 => pv (binV .add t128 (.int .i64 1)) fun t129 => pv (binV .leq t126 t129) fun t130 => N100 (upd e0 130 t130) w98 X99) (fun N101 => N101 (upd e0 130 undef) w98 X99)
 (fun g102 w103 X104 => gdB (g92 122) false (fun N105 => pv (pickV (g97 124) (g102 130) (.bool false)) fun t131 => N105 (upd e0 131 t131) w103 X104) (fun N106 => N106 (upd e0 131 undef) w103 X104)
 (fun g107 w108 X109 => gdB t118 true (fun N110 => pv (pickV (g92 122) (.bool true) (g107 131)) fun t132 => N110 (upd e0 132 t132) w108 X109) (fun N111 => N111 (upd e0 132 undef) w108 X109)
 (fun g112 w113 X114 => pv (pickV t118 (g112 132) (.bool false)) fun t133 => R t133 w113)))))))))))))
theorem sh9 {a0 a1 a2 : Value} {w : World} {R : Value → World → Prop} (h : S9 a0 a1 a2 w R) : CallsR Tryz.prog 9 #[a0, a1, a2] w R :=
  vcFB_go mixed [(3, 7, true), (5, 7, true)] [] (.mk [] 2 true .nil (.mk [] 2 true .nil (.mk [] 2 true .nil (.mk [1, 3, 5, 7] 0 true (.mk [] 2 true .nil (.mk [1, 3, 5, 7, 8] 0 true .nil .nil)) (.mk [] 2 true .nil (.mk [1, 10, 11, 12, 13, 14] 0 true .nil .nil)))))) [(7, (.cons 0 (.cons 1 (.cons 2 (.cons 3 (.cons 4 (.cons 5 (.cons 6 (.cons 7 (.cons 8 (.cons 9 (.cons 10 (.cons 12 (.cons 13 (.cons 14 (.cons 15 (.cons 11 (.cons 16 (.cons 17 (.cons 18 (.cons 19 (.cons 20 (.cons 21 (.cons 22 (.cons 23 (.cons 24 (.cons 25 (.cons 26 (.cons 27 (.cons 28 (.cons 29 (.cons 30 (.cons 31 (.cons 32 (.cons 33 (.cons 34 .nil))))))))))))))))))))))))))))))))))), [0, 0, 3, 7, 15, 31, 63, 127, 127, 511, 1023, 2047, 127, 127, 12415, 28799, 61567, 131071, 262143, 524287, 1048575, 1048575, 4194303, 8388607, 16777215, 33554431, 67108863, 134217727, 268435455, 268435455, 1073741823, 2147483647, 4294967295, 8589934591, 17179869183]), (9, (.cons 0 (.cons 1 (.cons 2 (.cons 3 (.cons 4 (.cons 6 (.cons 7 (.cons 8 (.cons 9 (.cons 5 (.cons 10 (.cons 11 (.cons 12 .nil))))))))))))), [0, 0, 0, 6, 14, 30, 0, 0, 192, 448, 960, 2047, 4095]), (11, (.cons 2 (.cons 4 (.cons 5 (.cons 0 (.cons 6 (.cons 7 (.both (.cons 1 (.both (.cons 3 (.cons 8 (.cons 9 (.cons 10 (.cons 11 (.cons 12 (.cons 13 (.cons 14 (.cons 15 (.cons 16 (.cons 17 .nil))))))))))) (.cons 8 (.cons 3 (.cons 9 (.cons 10 (.cons 11 (.cons 12 (.cons 13 (.cons 14 (.cons 15 (.cons 16 (.cons 17 .nil))))))))))))) (.cons 8 (.cons 1 (.cons 3 (.cons 9 (.cons 10 (.cons 11 (.cons 12 (.cons 13 (.cons 14 (.cons 15 (.cons 16 (.cons 17 .nil))))))))))))))))))), [0, 0, 0, 6, 0, 16, 0, 112, 240, 510, 1023, 2047, 4095, 4095, 4095, 8191, 49151, 131071])] [(1, [([20], 0, true), ([25], 0, true), ([30], 0, true), ([35], 0, true)]), (7, [([61], 0, true), ([69], 0, true), ([77], 0, true)]), (12, [([117], 0, true), ([122], 0, true), ([124], 0, true), ([130], 0, true), ([131], 0, true), ([132], 0, true)])] 9 [a0, a1, a2] (by kernel_rfl) h

end Go.Dm
namespace Go.Dm
open Go Go.Proofs
set_option maxRecDepth 1000000
set_option linter.unusedVariables false
/-- doorman/hist.Order$1 -/
def S242 (a0 a1 a2 : Value) (w : World) (R : Value → World → Prop) : Prop :=
 ldC (drewW w) false 1 a2 fun t6 => pv (idxSV 18 t6 a0) fun t8 => pv (addrV 12 t8) fun t9 => ldC (drewW w) false 1 t9 fun t10 => ldC (drewW w) false 1 a2 fun t11 => pv (idxSV 18 t11 a1) fun t13 => pv (addrV 12 t13) fun t14 => ldC (drewW w) false 1 t14 fun t15 => CallsR Tryz.prog 243 #[t10, t15] (drewW w) fun t16 w1 => R t16 w1
theorem sh242 {a0 a1 a2 : Value} {w : World} {R : Value → World → Prop} (h : S242 a0 a1 a2 w R) : CallsR Tryz.prog 242 #[a0, a1, a2] w R :=
  vcFB_go mixed [] [] .nil [(1, (.cons 1 (.cons 6 (.cons 0 (.cons 2 (.cons 3 (.cons 4 (.cons 5 (.cons 7 (.cons 8 (.cons 9 (.cons 10 (.cons 11 .nil)))))))))))), [0, 0, 3, 7, 15, 0, 0, 96, 224, 480, 1023, 2047])] [] 242 [a0, a1, a2] (by kernel_rfl) h

end Go.Dm
