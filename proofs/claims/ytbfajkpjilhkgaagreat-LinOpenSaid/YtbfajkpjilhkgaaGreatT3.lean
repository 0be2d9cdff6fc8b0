/- A part of the proof that doormanlaw21.LinOpen returns true for every input, on no condition. -/
import Derived.Test.YtbfajkpjilhkgaaGreatT2
set_option linter.unusedVariables false
set_option linter.unusedSimpArgs false
namespace Go.Dm
open Go Go.Proofs
set_option maxRecDepth 1000000
set_option linter.unusedVariables false
/-- doorman/aggr.Live -/
def S386 (a0 a1 : Value) (w : World) (R : Value → World → Prop) : Prop :=
 alC w (Value.cells a0).toList 294 fun t2 w1 => alC w1 (Value.cells a1).toList 22 fun t3 w2 => R (.func (.func 408) #[] #[t2, t3]) w2
theorem sh386 {a0 a1 : Value} {w : World} {R : Value → World → Prop} (h : S386 a0 a1 w R) : CallsR Tryz.prog 386 #[a0, a1] w R :=
  vcFB_go mixed [] [] .nil [] [] 386 [a0, a1] (by kernel_rfl) h

/-- doorman/aggr.Live$1 -/
def S408 (a0 a1 a2 : Value) (w : World) (R : Value → World → Prop) : Prop :=
 ldC w false 1 a1 fun t6 => pv (lenV t6) fun t7 => lpB (fun e1 w2 X3 N4 => pv (binV .lss (e1 8) (e1 7)) fun t9 => condC t9
 (pv (idxSV 4 (e1 6) (e1 8)) fun t10 => ldC w2 true 4 t10 fun t11 => okB true 4 t11 = true ∧ syC w2 X3 fun w5 X6 => ldC w5 false 1 (e1 2) fun t12 => pv (fieldV false 3 1 t11) fun t14 => CallsR Tryz.prog 360 #[t12, t14] w5 fun t15 w7 => kp X6 w5 w7 ∧ pv (unV .not t15) fun t16 => gdB t16 true (fun N8 => dyC Tryz.prog (e1 0) #[t11] w7 fun t20 w13 => kp X6 w7 w13 ∧ pv (unV .not t20) fun t21 => N8 (upd e0 21 t21) w13 X6) (fun N9 => N9 (upd e0 21 undef) w7 X6)
 (fun g10 w11 X12 => pv (pickV t16 (g10 21) (.bool false)) fun t22 => condC t22
 (R (.tuple #[]) w11)
 (pv (binV .add (e1 8) (.int .i64 1)) fun t23 => N4 (upd (upd (upd (upd (upd e0 8 t23) 7 (e1 7)) 6 (e1 6)) 2 (e1 2)) 0 (e1 0)) w11 X12)))
 (R (.tuple #[]) w2)) (upd (upd (upd (upd (upd e0 8 (.int .i64 0)) 7 t7) 6 t6) 2 a2) 0 a0) w no
theorem sh408 {a0 a1 a2 : Value} {w : World} {R : Value → World → Prop} (h : S408 a0 a1 a2 w R) : CallsR Tryz.prog 408 #[a0, a1, a2] w R :=
  vcFB_go mixed [(5, 4, true)] [(13, 5, 3)] (.mk [] 2 true .nil (.mk [0, 2, 6, 7, 8] 0 true .nil .nil)) [] [(3, [([21], 0, true)])] 408 [a0, a1, a2] (by kernel_rfl) h

/-- (*doorman/ring.Ring[doorman/api.Event]).All -/
def S361 (a0 : Value) (w : World) (R : Value → World → Prop) : Prop :=
 alC w (Value.cells a0).toList 317 fun t1 w1 => R (.func (.func 392) #[] #[t1]) w1
theorem sh361 {a0 : Value} {w : World} {R : Value → World → Prop} (h : S361 a0 w R) : CallsR Tryz.prog 361 #[a0] w R :=
  vcFB_go mixed [] [] .nil [] [] 361 [a0] (by kernel_rfl) h

/-- (*doorman/ring.Ring[doorman/api.Event]).All$1 -/
def S392 (a0 a1 : Value) (w : World) (R : Value → World → Prop) : Prop :=
 ldC w false 1 a1 fun t5 => pv (nilV t5) fun t6 => pv (addrV 1 t6) fun t7 => ldC w false 1 t7 fun t8 => pv (lenV t8) fun t9 => lpB (fun e1 w2 X3 N4 => pv (binV .lss (e1 10) (e1 9)) fun t11 => condC t11
 (pv (idxSV 8 (e1 8) (e1 10)) fun t12 => ldC w2 true 8 t12 fun t13 => okB true 8 t13 = true ∧ syC w2 X3 fun w5 X6 => dyC Tryz.prog (e1 0) #[t13] w5 fun t16 w7 => kp X6 w5 w7 ∧ pv (unV .not t16) fun t17 => condC t17
 (R (.tuple #[]) w7)
 (pv (binV .add (e1 10) (.int .i64 1)) fun t18 => N4 (upd (upd (upd (upd e0 10 t18) 9 (e1 9)) 8 (e1 8)) 0 (e1 0)) w7 X6))
 (R (.tuple #[]) w2)) (upd (upd (upd (upd e0 10 (.int .i64 0)) 9 t9) 8 t8) 0 a0) w no
theorem sh392 {a0 a1 : Value} {w : World} {R : Value → World → Prop} (h : S392 a0 a1 w R) : CallsR Tryz.prog 392 #[a0, a1] w R :=
  vcFB_go mixed [(4, 8, true)] [] (.mk [] 2 true .nil (.mk [0, 8, 9, 10] 0 true .nil .nil)) [] [] 392 [a0, a1] (by kernel_rfl) h

/-- (*doorman/ring.Ring[doorman/api.Event]).Put -/
def S296 (a0 a1 : Value) (w : World) (R : Value → World → Prop) : Prop :=
 okB true 8 a1 = true ∧ syC w no fun w1 X2 => pv (nilV a0) fun t6 => pv (addrV 1 t6) fun t7 => pv (nilV a0) fun t11 => pv (addrV 0 t11) fun t12 => ldC (drewW w1) false 1 t7 fun t8 => pv (lenV t8) fun t9 => ldC (drewW w1) false 1 t12 fun t13 => pv (binV .geq t9 t13) fun t14 => condC t14
 (pv (nilV a0) fun t16 => pv (addrV 2 t16) fun t17 => stC (drewW w1) 1 t17 (.bool true) fun w3 => kp X2 (drewW w1) w3 ∧ R (.bool false) w3)
 (pv (nilV a0) fun t20 => pv (addrV 1 t20) fun t21 => ldC (drewW (drewW w1)) false 1 t21 fun t22 => bsC (drewW (drewW w1)) 8 [(.string ⟨#[]⟩), (.int .i64 0), (.int .i64 0), (.int .i64 0), (.int .i64 0), (.int .i64 0), (.int .i64 0), (.int .u64 0)] 152 1 [(0, a1)] fun t24 w4 => Ld w4 false 1 t21 t22 ∧ (apC w4 72 8 [(.string ⟨#[]⟩), (.int .i64 0), (.int .i64 0), (.int .i64 0), (.int .i64 0), (.int .i64 0), (.int .i64 0), (.int .u64 0)] 152 t22 t24 fun t25 w5 => kp X2 w4 w5 ∧ pv (nilV a0) fun t26 => pv (addrV 1 t26) fun t27 => stC w5 1 t27 t25 fun w6 => kp X2 w5 w6 ∧ R (.bool true) w6))
theorem sh296 {a0 a1 : Value} {w : World} {R : Value → World → Prop} (h : S296 a0 a1 w R) : CallsR Tryz.prog 296 #[a0, a1] w R :=
  vcFB_go mixed [(3, 8, true)] [] .nil [(1, (.cons 0 (.cons 1 (.cons 2 (.cons 5 (.cons 6 (.cons 7 (.cons 3 (.cons 4 (.cons 8 (.cons 9 .nil)))))))))), [0, 1, 3, 7, 15, 0, 32, 96, 224, 511]), (4, (.cons 0 (.cons 1 (.cons 2 (.cons 3 (.cons 4 (.cons 5 (.cons 6 (.cons 7 (.cons 8 (.cons 9 (.cons 10 .nil))))))))))), [0, 0, 2, 6, 14, 0, 32, 126, 255, 511, 1023])] [] 296 [a0, a1] (by kernel_rfl) h

/-- (*doorman/feed.Feed).Watching -/
def S278 (a0 a1 a2 : Value) (w : World) (R : Value → World → Prop) : Prop :=
 pv (nilV a0) fun t11 => pv (addrV 0 t11) fun t12 => ldC w true 2 t12 fun t13 => CallsR Tryz.prog 279 #[t13, a2] w fun t15 w1 => pv (extV t15 0) fun t16 => pv (extV t15 1) fun t17 => CallsR Tryz.prog 280 #[a1] w1 fun t19 w2 => gdB t19 true (fun N3 => pv (binV .shr t16 a1) fun t23 => pv (binV .and t23 (.int .u32 1)) fun t24 => pv (binV .eql t24 (.int .u32 1)) fun t25 => N3 (upd e0 25 t25) w2 no) (fun N4 => N4 (upd e0 25 undef) w2 no)
 (fun g5 w6 X7 => pv (pickV t19 (g5 25) (.bool false)) fun t26 => R t26 w6)
theorem sh278 {a0 a1 a2 : Value} {w : World} {R : Value → World → Prop} (h : S278 a0 a1 a2 w R) : CallsR Tryz.prog 278 #[a0, a1, a2] w R :=
  vcFB_go mixed [] [] .nil [] [(2, [([25], 0, false)])] 278 [a0, a1, a2] (by kernel_rfl) h

/-- (*doorman/feed.Feed).Watch -/
def S191 (a0 a1 a2 : Value) (w : World) (R : Value → World → Prop) : Prop :=
 CallsR Tryz.prog 280 #[a1] w fun t9 w1 => pv (unV .not t9) fun t10 => condC t10
 (R (.tuple #[]) w1)
 (pv (nilV a0) fun t13 => pv (addrV 0 t13) fun t14 => ldC w1 true 2 t14 fun t15 => CallsR Tryz.prog 279 #[t15, a2] w1 fun t17 w2 => pv (extV t17 0) fun t18 => pv (extV t17 1) fun t19 => pv (nilV a0) fun t22 => pv (addrV 0 t22) fun t23 => pv (binV .shl (.int .u32 1) a1) fun t28 => pv (binV .or t18 t28) fun t29 => ldC (drewW w2) true 2 t23 fun t24 => CallsR Tryz.prog 282 #[t24, a2, t29] (drewW w2) fun t30 w3 => pv (nilV a0) fun t31 => pv (addrV 0 t31) fun t32 => stC w3 2 t32 t30 fun w4 => R (.tuple #[]) w4)
theorem sh191 {a0 a1 a2 : Value} {w : World} {R : Value → World → Prop} (h : S191 a0 a1 a2 w R) : CallsR Tryz.prog 191 #[a0, a1, a2] w R :=
  vcFB_go mixed [] [] .nil [(2, (.cons 0 (.cons 1 (.cons 2 (.cons 3 (.cons 5 (.cons 6 (.cons 7 (.cons 8 (.cons 9 (.cons 4 (.cons 10 (.cons 11 (.cons 12 (.cons 13 .nil)))))))))))))), [0, 0, 2, 6, 14, 0, 0, 0, 128, 448, 1022, 2047, 4095, 8191])] [] 191 [a0, a1, a2] (by kernel_rfl) h

/-- (*doorman/feed.Feed).Unwatch -/
def S179 (a0 a1 a2 : Value) (w : World) (R : Value → World → Prop) : Prop :=
 pv (nilV a0) fun t10 => pv (addrV 0 t10) fun t11 => ldC w true 2 t11 fun t12 => CallsR Tryz.prog 279 #[t12, a2] w fun t14 w1 => pv (extV t14 0) fun t15 => pv (extV t14 1) fun t16 => CallsR Tryz.prog 280 #[a1] w1 fun t18 w2 => pv (unV .not t18) fun t19 => gdB t19 false (fun N3 => pv (binV .eql t15 (.int .u32 0)) fun t22 => N3 (upd e0 22 t22) w2 no) (fun N4 => N4 (upd e0 22 undef) w2 no)
 (fun g5 w6 X7 => pv (pickV t19 (.bool true) (g5 22)) fun t23 => condC t23
 (R (.tuple #[]) w6)
 (pv (binV .shl (.int .u32 1) a1) fun t26 => pv (binV .andNot t15 t26) fun t27 => pv (binV .eql t27 (.int .u32 0)) fun t29 => condC t29
 (pv (nilV a0) fun t32 => pv (addrV 0 t32) fun t33 => ldC w6 true 2 t33 fun t34 => CallsR Tryz.prog 281 #[t34, a2] w6 fun t36 w8 => pv (nilV a0) fun t37 => pv (addrV 0 t37) fun t38 => stC w8 2 t38 t36 fun w9 => R (.tuple #[]) w9)
 (pv (nilV a0) fun t41 => pv (addrV 0 t41) fun t42 => ldC w6 true 2 t42 fun t43 => CallsR Tryz.prog 282 #[t43, a2, t27] w6 fun t46 w10 => pv (nilV a0) fun t47 => pv (addrV 0 t47) fun t48 => stC w10 2 t48 t46 fun w11 => R (.tuple #[]) w11)))
theorem sh179 {a0 a1 a2 : Value} {w : World} {R : Value → World → Prop} (h : S179 a0 a1 a2 w R) : CallsR Tryz.prog 179 #[a0, a1, a2] w R :=
  vcFB_go mixed [] [] .nil [] [(1, [([22], 0, false)])] 179 [a0, a1, a2] (by kernel_rfl) h

/-- doorman/book.settle -/
def S294 (a0 a1 a2 a3 : Value) (w : World) (R : Value → World → Prop) : Prop :=
 okB true 2 a0 = true ∧ syC w no fun w1 X2 => CallsR Tryz.prog 287 #[a0, a1] w1 fun t17 w3 => kp X2 w1 w3 ∧ pv (extV t17 0) fun t18 => pv (extV t17 1) fun t19 => okB true 4 t18 = true ∧ syC w3 X2 fun w4 X5 => CallsR Tryz.prog 352 #[a2, a3] w4 fun t22 w6 => kp X5 w4 w6 ∧ okB true 3 t22 = true ∧ jnB (fun K7 => pv (fieldV true 1 3 t18) fun t25 => pv (structV Tryz.prog .neq 150 t22 t25) fun t26 => condC t26
 (pv (fieldV true 1 3 t18) fun t29 => pv (buildV [(0, 1), (1, 3), (4, 3)] [(.string ⟨#[]⟩), (.int .i64 0), (.int .i64 0), (.int .i64 0), (.int .i64 0), (.int .i64 0), (.int .i64 0)] [(0, a1), (1, t29), (2, t22)]) fun t31 => syC w6 X5 fun w11 X12 => bsC w11 7 [(.string ⟨#[]⟩), (.int .i64 0), (.int .i64 0), (.int .i64 0), (.int .i64 0), (.int .i64 0), (.int .i64 0)] 364 1 [(0, t31)] fun t32 w13 => K7 (upd (upd (upd (upd (upd (upd e0 13 t32) 12 t22) 8 (.agg #[(.slice none 0 0), (.slice none 0 0)])) 4 a0) 2 a2) 1 a1) w13 X12)
 (K7 (upd (upd (upd (upd (upd (upd e0 13 (.slice none 0 0)) 12 t22) 8 (.agg #[(.slice none 0 0), (.slice none 0 0)])) 4 a0) 2 a2) 1 a1) w6 X5))
 (fun e8 w9 X10 => pv (lenV (e8 2)) fun t34 => pv (binV .eql t34 (.int .i64 0)) fun t35 => condC t35
 (syC w9 X10 fun w14 X15 => CallsR Tryz.prog 355 #[(e8 4), (e8 1)] w14 fun t38 w16 => kp X15 w14 w16 ∧ okB true 2 t38 = true ∧ syC w16 X15 fun w17 X18 => R (.tuple #[t38, (e8 13)]) w17)
 (pv (buildV [(0, 1), (1, 3)] [(.slice none 0 0), (.int .i64 0), (.int .i64 0), (.int .i64 0)] [(0, (e8 2)), (1, (e8 12))]) fun t44 => syC w9 X10 fun w19 X20 => CallsR Tryz.prog 356 #[(e8 4), (e8 1), t44] w19 fun t45 w21 => kp X20 w19 w21 ∧ okB true 2 t45 = true ∧ syC w21 X20 fun w22 X23 => R (.tuple #[t45, (e8 13)]) w22))
theorem sh294 {a0 a1 a2 a3 : Value} {w : World} {R : Value → World → Prop} (h : S294 a0 a1 a2 a3 w R) : CallsR Tryz.prog 294 #[a0, a1, a2, a3] w R :=
  vcFB_go mixed [(4, 2, true), (8, 2, true), (10, 4, true), (12, 3, true)] [(24, 10, 1), (28, 10, 1)] (.mk [] 2 true .nil (.mk [] 2 true .nil (.mk [] 2 true .nil (.mk [] 2 true .nil (.mk [1, 2, 4, 8, 12, 13] 2 true .nil .nil))))) [] [] 294 [a0, a1, a2, a3] (by kernel_rfl) h

/-- doorman/book.Presence -/
def S283 (a0 a1 a2 : Value) (w : World) (R : Value → World → Prop) : Prop :=
 okB true 2 a0 = true ∧ syC w no fun w1 X2 => CallsR Tryz.prog 287 #[a0, a1] w1 fun t12 w3 => kp X2 w1 w3 ∧ pv (extV t12 0) fun t13 => pv (extV t12 1) fun t14 => okB true 4 t13 = true ∧ pv (fieldV false 0 1 t13) fun t16 => syC w3 X2 fun w4 X5 => CallsR Tryz.prog 352 #[t16, a2] w4 fun t18 w6 => kp X5 w4 w6 ∧ okB true 3 t18 = true ∧ syC w6 X5 fun w7 X8 => R t18 w7
theorem sh283 {a0 a1 a2 : Value} {w : World} {R : Value → World → Prop} (h : S283 a0 a1 a2 w R) : CallsR Tryz.prog 283 #[a0, a1, a2] w R :=
  vcFB_go mixed [(3, 2, true), (6, 3, true), (7, 4, true)] [(15, 7, 0)] .nil [] [] 283 [a0, a1, a2] (by kernel_rfl) h

end Go.Dm
namespace Go.Dm
open Go Go.Proofs
set_option maxRecDepth 1000000
set_option linter.unusedVariables false
/-- doorman/aggr.Of -/
def S352 (a0 a1 : Value) (w : World) (R : Value → World → Prop) : Prop :=
 alC w [(.int .i64 0), (.int .i64 0), (.int .i64 0)] 150 fun t4 w1 => alC w1 [(.int .i64 0), (.int .i64 0), (.int .i64 0), (.int .u64 0)] 357 fun t5 w2 => alC w2 [(.int .i64 0)] 3 fun t6 w3 => stC w3 1 t6 (.int .i64 0) fun w4 => CallsR Tryz.prog 386 #[a0, a1] w4 fun t10 w5 => rfC Tryz.prog (fun L6 r7 f8 W9 K10 => alC W9 [(.int .i64 0), (.int .i64 0), (.int .i64 0), (.int .u64 0)] 357 fun t7 w11 => stC w11 4 t7 (f8 0) fun w12 => begR L6 r7 w12 fun w13 => jn (fun K14 => ldC w13 false 1 t6 fun t12 => pv (binV .eql t12 (.int .i64 0)) fun t13 => gd t13 false (fun G17 => ldC w13 true 4 t7 fun t15 => G17 t15 w13) (fun g15 w18 => gd t13 false (fun G19 => ldC w18 true 4 t5 fun t16 => G19 t16 w18) (fun g16 w20 => gd t13 false (fun G21 => CallsR Tryz.prog 387 #[g15, g16] w20 fun t17 w23 => G21 t17 w23) (fun g17 w22 => pv (pickV t13 (.bool true) g17) fun t18 => condC t18
 (ldC w22 true 4 t7 fun t19 => stC w22 4 t5 t19 fun w24 => K14 (upd (upd (upd (upd (upd (upd (upd (upd (upd (upd (upd (upd (upd (upd (upd (upd (envOf [a0, a1]) 4 t4) 5 t5) 6 t6) 8 a0) 9 a1) 10 t10) 11 (f8 0)) 7 t7) 12 t12) 13 t13) 14 t13) 15 g15) 16 g16) 17 g17) 18 t18) 19 t19) w24)
 (K14 (upd (upd (upd (upd (upd (upd (upd (upd (upd (upd (upd (upd (upd (upd (upd (envOf [a0, a1]) 4 t4) 5 t5) 6 t6) 8 a0) 9 a1) 10 t10) 11 (f8 0)) 7 t7) 12 t12) 13 t13) 14 t13) 15 g15) 16 g16) 17 g17) 18 t18) w22)) w20) w18) w13)
 (fun e15 w16 => ldC w16 false 1 (e15 6) fun t20 => pv (binV .add t20 (.int .i64 1)) fun t21 => stC w16 1 (e15 6) t21 fun w25 => endT L6 r7 K10 w25)) 1 t10 w5 (rfQ
 (fun w26 => pv (addrV 1 t5) fun t22_33 => ldC w26 false 1 t22_33 fun t23_34 => pv (addrV 2 t5) fun t24_35 => ldC w26 false 1 t24_35 fun t25_36 => ldC w26 false 1 t6 fun t26_37 => pv (buildV [(0, 1), (1, 1), (2, 1)] [(.int .i64 0), (.int .i64 0), (.int .i64 0)] [(0, t23_34), (1, t25_36), (2, t26_37)]) fun t27_38 => stC w26 3 t4 t27_38 fun w39 => shutM [w5.heap.size] w39 fun w40 => ldC w40 true 3 t4 fun r41 => R r41 w40)
 (fun w27 => shutM [w5.heap.size] w27 fun w42 => ldC w42 true 3 t4 fun r43 => R r43 w42)
 (fun i29 w28 => (match Nat.beq i29 0 with | true => pv (addrV 1 t5) fun t22 => ldC w28 false 1 t22 fun t23 => pv (addrV 2 t5) fun t24 => ldC w28 false 1 t24 fun t25 => ldC w28 false 1 t6 fun t26 => pv (buildV [(0, 1), (1, 1), (2, 1)] [(.int .i64 0), (.int .i64 0), (.int .i64 0)] [(0, t23), (1, t25), (2, t26)]) fun t27 => stC w28 3 t4 t27 fun w30 => shutM [w5.heap.size] w30 fun w31 => ldC w31 true 3 t4 fun r32 => R r32 w31 | false => False)))
theorem sh352 {a0 a1 : Value} {w : World} {R : Value → World → Prop} (h : S352 a0 a1 w R) : CallsR Tryz.prog 352 #[a0, a1] w R :=
  vcRFn_go mixed [] 352 [a0, a1] (by kernel_rfl) h

/-- doorman/book.Stored -/
def S187 (a0 : Value) (w : World) (R : Value → World → Prop) : Prop :=
 alC w (Value.cells a0).toList 192 fun t1 w1 => alC w1 [(.int .i64 0)] 3 fun t3 w2 => stC w2 1 t3 (.int .i64 0) fun w3 => ldC w3 true 2 t1 fun t6 => CallsR Tryz.prog 286 #[t6] w3 fun t7 w4 => rfC Tryz.prog (fun L5 r6 f7 W8 K9 => alC W8 [(.slice none 0 0), (.int .i64 0), (.int .i64 0), (.int .i64 0)] 349 fun t5 w10 => stC w10 4 t5 (f7 1) fun w11 => begR L5 r6 w11 fun w12 => ldC w12 false 1 t3 fun t10 => pv (addrV 0 t5) fun t11 => ldC w12 false 1 t11 fun t12 => pv (lenV t12) fun t13 => pv (binV .add t10 t13) fun t14 => stC w12 1 t3 t14 fun w13 => endT L5 r6 K9 w13) 2 t7 w4 (rfQ
 (fun w14 => ldC w14 false 1 t3 fun t15_19 => shutM [w4.heap.size] w14 fun w20 => R t15_19 w20)
 (fun w15 => shutM [w4.heap.size] w15 fun w21 => R (.int .i64 0) w21)
 (fun i17 w16 => (match Nat.beq i17 0 with | true => ldC w16 false 1 t3 fun t15 => shutM [w4.heap.size] w16 fun w18 => R t15 w18 | false => False)))
theorem sh187 {a0 : Value} {w : World} {R : Value → World → Prop} (h : S187 a0 w R) : CallsR Tryz.prog 187 #[a0] w R :=
  vcRFn_go mixed [] 187 [a0] (by kernel_rfl) h

/-- doorman/book.Sweep -/
def S195 (a0 a1 : Value) (w : World) (R : Value → World → Prop) : Prop :=
 alC w (Value.cells a0).toList 192 fun t2 w1 => alC w1 (Value.cells a1).toList 22 fun t3 w2 => alC w2 [(.slice none 0 0), (.slice none 0 0)] 192 fun t4 w3 => alC w3 [(.slice none 0 0)] 255 fun t6 w4 => ldC w4 true 2 t2 fun t11 => alC w4 [(.slice none 0 0), (.slice none 0 0)] 192 fun t7 w5 => stC w5 2 t7 t11 fun w6 => ldC w6 true 2 t2 fun t12 => CallsR Tryz.prog 286 #[t12] w6 fun t13 w7 => rfC Tryz.prog (fun L8 r9 f10 W11 K12 => alC W11 [(.slice none 0 0), (.int .i64 0), (.int .i64 0), (.int .i64 0)] 349 fun t9 w13 => stC w13 4 t9 (f10 1) fun w14 => begR L8 r9 w14 fun w15 => pv (addrV 0 t9) fun t19 => ldC (drewW w15) true 2 t7 fun t17 => ldC (drewW w15) false 1 t19 fun t20 => ldC (drewW w15) false 1 t3 fun t21 => ldC (drewW w15) false 1 t3 fun t23 => CallsR Tryz.prog 295 #[t20, t21] (drewW w15) fun t22 w16 => Ld w16 false 1 t3 t23 ∧ Ld w16 true 2 t7 t17 ∧ (CallsR Tryz.prog 294 #[t17, (f10 0), t22, t23] w16 fun t24 w17 => pv (extV t24 0) fun t25 => pv (extV t24 1) fun t26 => stC w17 2 t7 t25 fun w18 => ldC w18 false 1 t6 fun t27 => apC w18 64 7 [(.string ⟨#[]⟩), (.int .i64 0), (.int .i64 0), (.int .i64 0), (.int .i64 0), (.int .i64 0), (.int .i64 0)] 364 t27 t26 fun t29 w19 => stC w19 1 t6 t29 fun w20 => endT L8 r9 K12 w20)) 2 t13 w7 (rfQ
 (fun w21 => ldC (drewW w21) true 2 t7 fun t30_28 => ldC (drewW w21) false 1 t6 fun t31_29 => stC (drewW w21) 2 t4 t30_28 fun w30 => Ld w30 false 1 t6 t31_29 ∧ (shutM [w7.heap.size] w30 fun w31 => ldC w31 true 2 t4 fun r32 => R (.tuple #[r32, t31_29]) w31))
 (fun w22 => shutM [w7.heap.size] w22 fun w33 => ldC w33 true 2 t4 fun r34 => R (.tuple #[r34, (.slice none 0 0)]) w33)
 (fun i24 w23 => (match Nat.beq i24 0 with | true => ldC (drewW w23) true 2 t7 fun t30 => ldC (drewW w23) false 1 t6 fun t31 => stC (drewW w23) 2 t4 t30 fun w25 => Ld w25 false 1 t6 t31 ∧ (shutM [w7.heap.size] w25 fun w26 => ldC w26 true 2 t4 fun r27 => R (.tuple #[r27, t31]) w26) | false => False)))
theorem sh195 {a0 a1 : Value} {w : World} {R : Value → World → Prop} (h : S195 a0 a1 w R) : CallsR Tryz.prog 195 #[a0, a1] w R :=
  vcRFn_go mixed [(7, (.cons 1 (.cons 2 (.cons 0 (.cons 3 (.cons 4 (.cons 6 (.cons 5 (.cons 7 (.cons 8 (.cons 9 (.cons 10 (.cons 11 (.cons 12 .nil))))))))))))), [0, 0, 0, 4, 0, 28, 0, 127, 255, 511, 511, 1023, 4095]), (9, (.cons 0 (.cons 1 (.cons 2 (.cons 3 .nil)))), [0, 0, 1, 7]), (9, (.cons 0 (.cons 1 (.cons 2 (.cons 3 .nil)))), [0, 0, 1, 7])] 195 [a0, a1] (by kernel_rfl) h

/-- (*doorman/feed.Feed).Count -/
def S277 (a0 a1 : Value) (w : World) (R : Value → World → Prop) : Prop :=
 alC w (Value.cells a1).toList 3 fun t3 w1 => alC w1 [(.int .i64 0)] 3 fun t5 w2 => stC w2 1 t5 (.int .i64 0) fun w3 => pv (nilV a0) fun t9 => pv (addrV 0 t9) fun t10 => ldC w3 true 2 t10 fun t11 => CallsR Tryz.prog 344 #[t11] w3 fun t12 w4 => rfC Tryz.prog (fun L5 r6 f7 W8 K9 => begR L5 r6 W8 fun w10 => ldC w10 false 1 t3 fun t15 => CallsR Tryz.prog 280 #[t15] w10 fun t16 w11 => gd t16 true (fun G12 => G12 (f7 1) w11) (fun g18 w13 => gd t16 true (fun G14 => ldC w13 false 1 t3 fun t19 => G14 t19 w13) (fun g19 w15 => gd t16 true (fun G16 => pv (binV .shr g18 g19) fun t20 => G16 t20 w15) (fun g20 w17 => gd t16 true (fun G18 => pv (binV .and g20 (.int .u32 1)) fun t21 => G18 t21 w17) (fun g21 w19 => gd t16 true (fun G20 => pv (binV .eql g21 (.int .u32 1)) fun t22 => G20 t22 w19) (fun g22 w21 => pv (pickV t16 g22 (.bool false)) fun t23 => condC t23
 (ldC w21 false 1 t5 fun t24 => pv (binV .add t24 (.int .i64 1)) fun t25 => stC w21 1 t5 t25 fun w22 => endT L5 r6 K9 w22)
 (endT L5 r6 K9 w21)) w19) w17) w15) w13) w11) 2 t12 w4 (rfQ
 (fun w23 => ldC w23 false 1 t5 fun t26_28 => shutM [w4.heap.size] w23 fun w29 => R t26_28 w29)
 (fun w24 => shutM [w4.heap.size] w24 fun w30 => R (.int .i64 0) w30)
 (fun i26 w25 => (match Nat.beq i26 0 with | true => ldC w25 false 1 t5 fun t26 => shutM [w4.heap.size] w25 fun w27 => R t26 w27 | false => False)))
theorem sh277 {a0 a1 : Value} {w : World} {R : Value → World → Prop} (h : S277 a0 a1 w R) : CallsR Tryz.prog 277 #[a0, a1] w R :=
  vcRFn_go mixed [] 277 [a0, a1] (by kernel_rfl) h

/-- (*doorman/ring.Ring[doorman/api.Event]).Drain -/
def S297 (a0 : Value) (w : World) (R : Value → World → Prop) : Prop :=
 alC w [(.slice none 0 0)] 48 fun t4 w1 => CallsR Tryz.prog 361 #[a0] w1 fun t8 w2 => rfC Tryz.prog (fun L3 r4 f5 W6 K7 => alC W6 [(.string ⟨#[]⟩), (.int .i64 0), (.int .i64 0), (.int .i64 0), (.int .i64 0), (.int .i64 0), (.int .i64 0), (.int .u64 0)] 152 fun t5 w8 => stC w8 8 t5 (f5 0) fun w9 => begR L3 r4 w9 fun w10 => ldC w10 false 1 t4 fun t10 => ldC w10 true 8 t5 fun t11 => bsC w10 8 [(.string ⟨#[]⟩), (.int .i64 0), (.int .i64 0), (.int .i64 0), (.int .i64 0), (.int .i64 0), (.int .i64 0), (.int .u64 0)] 152 1 [(0, t11)] fun t12 w11 => apC w11 72 8 [(.string ⟨#[]⟩), (.int .i64 0), (.int .i64 0), (.int .i64 0), (.int .i64 0), (.int .i64 0), (.int .i64 0), (.int .u64 0)] 152 t10 t12 fun t13 w12 => stC w12 1 t4 t13 fun w13 => endT L3 r4 K7 w13) 1 t8 w2 (rfQ
 (fun w14 => pv (nilV a0) fun t15_21 => pv (addrV 2 t15_21) fun t16_22 => ldC w14 false 1 t16_22 fun t17_23 => pv (nilV a0) fun t20_24 => pv (addrV 1 t20_24) fun t21_25 => stC w14 1 t21_25 (.slice none 0 0) fun w26 => pv (nilV a0) fun t22_27 => pv (addrV 2 t22_27) fun t23_28 => stC w26 1 t23_28 (.bool false) fun w29 => ldC w29 false 1 t4 fun t24_30 => shutM [w2.heap.size] w29 fun w31 => R (.tuple #[t24_30, t17_23]) w31)
 (fun w15 => shutM [w2.heap.size] w15 fun w32 => R (.tuple #[(.slice none 0 0), (.bool false)]) w32)
 (fun i17 w16 => (match Nat.beq i17 0 with | true => pv (nilV a0) fun t15 => pv (addrV 2 t15) fun t16 => ldC w16 false 1 t16 fun t17 => pv (nilV a0) fun t20 => pv (addrV 1 t20) fun t21 => stC w16 1 t21 (.slice none 0 0) fun w18 => pv (nilV a0) fun t22 => pv (addrV 2 t22) fun t23 => stC w18 1 t23 (.bool false) fun w19 => ldC w19 false 1 t4 fun t24 => shutM [w2.heap.size] w19 fun w20 => R (.tuple #[t24, t17]) w20 | false => False)))
theorem sh297 {a0 : Value} {w : World} {R : Value → World → Prop} (h : S297 a0 w R) : CallsR Tryz.prog 297 #[a0] w R :=
  vcRFn_go mixed [] 297 [a0] (by kernel_rfl) h

/-- (doorman/omap.Map[string, doorman/book.Entry]).Keys -/
def S285 (a0 : Value) (w : World) (R : Value → World → Prop) : Prop :=
 alC w (Value.cells a0).toList 192 fun t1 w1 => alC w1 [(.slice none 0 0)] 40 fun t3 w2 => ldC w2 true 2 t1 fun t5 => CallsR Tryz.prog 286 #[t5] w2 fun t6 w3 => rfC Tryz.prog (fun L4 r5 f6 W7 K8 => begR L4 r5 W7 fun w9 => ldC w9 false 1 t3 fun t9 => bsC w9 1 [(.string ⟨#[]⟩)] 9 1 [(0, (f6 0))] fun t11 w10 => apC w10 16 1 [(.string ⟨#[]⟩)] 9 t9 t11 fun t12 w11 => stC w11 1 t3 t12 fun w12 => endT L4 r5 K8 w12) 2 t6 w3 (rfQ
 (fun w13 => ldC w13 false 1 t3 fun t13_18 => shutM [w3.heap.size] w13 fun w19 => R t13_18 w19)
 (fun w14 => shutM [w3.heap.size] w14 fun w20 => R (.slice none 0 0) w20)
 (fun i16 w15 => (match Nat.beq i16 0 with | true => ldC w15 false 1 t3 fun t13 => shutM [w3.heap.size] w15 fun w17 => R t13 w17 | false => False)))
theorem sh285 {a0 : Value} {w : World} {R : Value → World → Prop} (h : S285 a0 w R) : CallsR Tryz.prog 285 #[a0] w R :=
  vcRFn_go mixed [] 285 [a0] (by kernel_rfl) h

/-- doorman/book.Same -/
def S184 (a0 a1 : Value) (w : World) (R : Value → World → Prop) : Prop :=
 alC w (Value.cells a0).toList 192 fun t2 w1 => alC w1 (Value.cells a1).toList 192 fun t3 w2 => alC w2 [(.bool false)] 4 fun t4 w3 => ldC (drewW w3) true 2 t2 fun t9 => ldC (drewW w3) true 2 t3 fun t11 => CallsR Tryz.prog 285 #[t9] (drewW w3) fun t10 w4 => Ld w4 true 2 t3 t11 ∧ (CallsR Tryz.prog 285 #[t11] w4 fun t12 w5 => CallsR Tryz.prog 284 #[t10, t12] w5 fun t13 w6 => pv (unV .not t13) fun t14 => condC t14
 (stC w6 1 t4 (.bool false) fun w7 => shutM [] w7 fun w8 => ldC w8 false 1 t4 fun r9 => R r9 w8)
 (ldC w6 true 2 t2 fun t15 => CallsR Tryz.prog 286 #[t15] w6 fun t16 w10 => rfC Tryz.prog (fun L11 r12 f13 W14 K15 => alC W14 [(.slice none 0 0), (.int .i64 0), (.int .i64 0), (.int .i64 0)] 349 fun t6 w16 => stC w16 4 t6 (f13 1) fun w17 => begR L11 r12 w17 fun w18 => ldC w18 true 2 t3 fun t20 => CallsR Tryz.prog 287 #[t20, (f13 0)] w18 fun t22 w19 => pv (extV t22 0) fun t23 => pv (extV t22 1) fun t24 => alC w19 [(.slice none 0 0), (.int .i64 0), (.int .i64 0), (.int .i64 0)] 349 fun t7 w20 => stC w20 4 t7 t23 fun w21 => pv (addrV 1 t6) fun t25 => ldC w21 true 3 t25 fun t26 => pv (addrV 1 t7) fun t27 => ldC w21 true 3 t27 fun t28 => pv (structV Tryz.prog .neq 150 t26 t28) fun t29 => gd t29 false (fun G22 => pv (addrV 0 t6) fun t31 => G22 t31 w21) (fun g31 w23 => gd t29 false (fun G24 => ldC w23 false 1 g31 fun t32 => G24 t32 w23) (fun g32 w25 => gd t29 false (fun G26 => pv (addrV 0 t7) fun t33 => G26 t33 w25) (fun g33 w27 => gd t29 false (fun G28 => ldC w27 false 1 g33 fun t34 => G28 t34 w27) (fun g34 w29 => gd t29 false (fun G30 => CallsR Tryz.prog 288 #[g32, g34] w29 fun t35 w32 => G30 t35 w32) (fun g35 w31 => gd t29 false (fun G33 => pv (unV .not g35) fun t36 => G33 t36 w31) (fun g36 w34 => pv (pickV t29 (.bool true) g36) fun t37 => condC t37
 (stC w34 1 t4 (.bool false) fun w35 => endX L11 r12 .ret K15 w35)
 (endT L11 r12 K15 w34)) w31) w29) w27) w25) w23) w21) 2 t16 w10 (rfQ
 (fun w36 => stC w36 1 t4 (.bool true) fun w43 => shutM [w10.heap.size] w43 fun w44 => ldC w44 false 1 t4 fun r45 => R r45 w44)
 (fun w37 => shutM [w10.heap.size] w37 fun w46 => ldC w46 false 1 t4 fun r47 => R r47 w46)
 (fun i39 w38 => (match Nat.beq i39 0 with | true => stC w38 1 t4 (.bool true) fun w40 => shutM [w10.heap.size] w40 fun w41 => ldC w41 false 1 t4 fun r42 => R r42 w41 | false => False)))))
theorem sh184 {a0 a1 : Value} {w : World} {R : Value → World → Prop} (h : S184 a0 a1 w R) : CallsR Tryz.prog 184 #[a0, a1] w R :=
  vcRFn_go mixed [(1, (.cons 0 (.cons 2 (.cons 1 (.cons 3 (.cons 4 (.cons 5 .nil)))))), [0, 1, 0, 7, 15, 31])] 184 [a0, a1] (by kernel_rfl) h

end Go.Dm
