/- A part of the proof that doormanlaw21.LinOpen returns true for every input, on no condition. -/
import Derived.Test.YtbfajkpjilhkgaaGreatP1
set_option linter.unusedVariables false
set_option linter.unusedSimpArgs false
namespace Go.Dm
open Go Go.Proofs
set_option maxRecDepth 1000000
set_option linter.unusedVariables false
/-- doorman/hash.Right -/
def S172 (a0 : Value) (w : World) (R : Value → World → Prop) : Prop :=
 pv (binV .neq a0 (.string ⟨#[]⟩)) fun t4 => gdB t4 true (fun N1 => pv (lenSV a0) fun t7 => pv (binV .leq t7 (.int .i64 16)) fun t8 => N1 (upd e0 8 t8) w no) (fun N2 => N2 (upd e0 8 undef) w no)
 (fun g3 w4 X5 => pv (pickV t4 (g3 8) (.bool false)) fun t9 => R t9 w4)
theorem sh172 {a0 : Value} {w : World} {R : Value → World → Prop} (h : S172 a0 w R) : CallsR Tryz.prog 172 #[a0] w R :=
  vcFB_go mixed [] [] .nil [] [(1, [([8], 0, false)])] 172 [a0] (by kernel_rfl) h

/-- doorman/sess.Right -/
def S173 (a0 a1 a2 : Value) (w : World) (R : Value → World → Prop) : Prop :=
 pv (binV .geq a0 (.int .i64 0)) fun t8 => gdB t8 true (fun N1 => pv (binV .leq a0 (.int .i64 255)) fun t11 => N1 (upd e0 11 t11) w no) (fun N2 => N2 (upd e0 11 undef) w no)
 (fun g3 w4 X5 => pv (pickV t8 (g3 11) (.bool false)) fun t12 => gdB t12 true (fun N6 => pv (binV .geq a1 (.int .i64 1)) fun t15 => N6 (upd e0 15 t15) w4 X5) (fun N7 => N7 (upd e0 15 undef) w4 X5)
 (fun g8 w9 X10 => pv (pickV t12 (g8 15) (.bool false)) fun t16 => gdB t16 true (fun N11 => pv (binV .leq a1 (.int .i64 9)) fun t19 => N11 (upd e0 19 t19) w9 X10) (fun N12 => N12 (upd e0 19 undef) w9 X10)
 (fun g13 w14 X15 => pv (pickV t16 (g13 19) (.bool false)) fun t20 => gdB t20 true (fun N16 => pv (binV .geq a2 (.int .i64 0)) fun t23 => N16 (upd e0 23 t23) w14 X15) (fun N17 => N17 (upd e0 23 undef) w14 X15)
 (fun g18 w19 X20 => pv (pickV t20 (g18 23) (.bool false)) fun t24 => gdB t24 true (fun N21 => pv (binV .leq a2 (.int .i64 9)) fun t27 => N21 (upd e0 27 t27) w19 X20) (fun N22 => N22 (upd e0 27 undef) w19 X20)
 (fun g23 w24 X25 => pv (pickV t24 (g23 27) (.bool false)) fun t28 => R t28 w24)))))
theorem sh173 {a0 a1 a2 : Value} {w : World} {R : Value → World → Prop} (h : S173 a0 a1 a2 w R) : CallsR Tryz.prog 173 #[a0, a1, a2] w R :=
  vcFB_go mixed [] [] .nil [] [(1, [([11], 0, false), ([15], 0, false), ([19], 0, false), ([23], 0, false), ([27], 0, false)])] 173 [a0, a1, a2] (by kernel_rfl) h

/-- doorman/model.within -/
def S174 (a0 a1 a2 : Value) (w : World) (R : Value → World → Prop) : Prop :=
 pv (binV .geq a0 a1) fun t9 => gdB t9 true (fun N1 => pv (binV .leq a0 a2) fun t13 => N1 (upd e0 13 t13) w no) (fun N2 => N2 (upd e0 13 undef) w no)
 (fun g3 w4 X5 => pv (pickV t9 (g3 13) (.bool false)) fun t14 => R t14 w4)
theorem sh174 {a0 a1 a2 : Value} {w : World} {R : Value → World → Prop} (h : S174 a0 a1 a2 w R) : CallsR Tryz.prog 174 #[a0, a1, a2] w R :=
  vcFB_go mixed [] [] .nil [] [(1, [([13], 0, false)])] 174 [a0, a1, a2] (by kernel_rfl) h

/-- doorman/tick.Pass -/
def S171 (a0 a1 : Value) (w : World) (R : Value → World → Prop) : Prop :=
 okB true 3 a0 = true ∧ pv (fieldV false 0 1 a0) fun t6 => syC w no fun w1 X2 => CallsR Tryz.prog 276 #[t6, a1] w1 fun t8 w3 => kp X2 w1 w3 ∧ pv (setV 0 1 a0 t8) fun c2_4 => okB true 3 c2_4 = true ∧ syC w3 X2 fun w5 X6 => R c2_4 w5
theorem sh171 {a0 a1 : Value} {w : World} {R : Value → World → Prop} (h : S171 a0 a1 w R) : CallsR Tryz.prog 171 #[a0, a1] w R :=
  vcFB_go mixed [(2, 3, true), (4, 3, true)] [(5, 2, 0), (9, 2, 0)] .nil [] [] 171 [a0, a1] (by kernel_rfl) h

/-- (doorman/cell.Cell).Writing -/
def S183 (a0 : Value) (w : World) (R : Value → World → Prop) : Prop :=
 okB true 2 a0 = true ∧ pv (fieldV false 0 1 a0) fun t4 => pv (binV .and t4 (.int .u64 1)) fun t5 => pv (binV .eql t5 (.int .u64 1)) fun t6 => syC w no fun w1 X2 => R t6 w1
theorem sh183 {a0 : Value} {w : World} {R : Value → World → Prop} (h : S183 a0 w R) : CallsR Tryz.prog 183 #[a0] w R :=
  vcFB_go mixed [(1, 2, true)] [(3, 1, 0)] .nil [] [] 183 [a0] (by kernel_rfl) h

/-- doorman/hash.Stripe -/
def S185 (a0 a1 : Value) (w : World) (R : Value → World → Prop) : Prop :=
 pv (binV .lss a1 (.int .i64 1)) fun t6 => condC t6
 (R (.int .i64 0) w)
 (CallsR Tryz.prog 289 #[a0] w fun t8 w1 => pv (cvtV .u64 a1) fun t10 => pv (binV .rem t8 t10) fun t11 => pv (cvtV .i64 t11) fun t12 => R t12 w1)
theorem sh185 {a0 a1 : Value} {w : World} {R : Value → World → Prop} (h : S185 a0 a1 w R) : CallsR Tryz.prog 185 #[a0, a1] w R :=
  vcFB_go mixed [] [] .nil [] [] 185 [a0, a1] (by kernel_rfl) h

/-- (doorman/latch.Latch).Free -/
def S186 (a0 : Value) (w : World) (R : Value → World → Prop) : Prop :=
 okB true 1 a0 = true ∧ pv (fieldV false 0 1 a0) fun t4 => pv (binV .eql t4 (.int .i64 0)) fun t5 => syC w no fun w1 X2 => R t5 w1
theorem sh186 {a0 : Value} {w : World} {R : Value → World → Prop} (h : S186 a0 w R) : CallsR Tryz.prog 186 #[a0] w R :=
  vcFB_go mixed [(1, 1, true)] [(3, 1, 0)] .nil [] [] 186 [a0] (by kernel_rfl) h

/-- cmp.Compare[int] -/
def S243 (a0 a1 : Value) (w : World) (R : Value → World → Prop) : Prop :=
 CallsR Tryz.prog 324 #[a0] w fun t8 w1 => CallsR Tryz.prog 324 #[a1] w1 fun t10 w2 => condC t8
 (condC t10
 (R (.int .i64 0) w2)
 (R (.int .i64 (-1)) w2))
 (condC t10
 (R (.int .i64 1) w2)
 (pv (binV .lss a0 a1) fun t16 => condC t16
 (R (.int .i64 (-1)) w2)
 (pv (binV .gtr a0 a1) fun t19 => condC t19
 (R (.int .i64 1) w2)
 (R (.int .i64 0) w2))))
theorem sh243 {a0 a1 : Value} {w : World} {R : Value → World → Prop} (h : S243 a0 a1 w R) : CallsR Tryz.prog 243 #[a0, a1] w R :=
  vcFB_go mixed [] [] .nil [] [] 243 [a0, a1] (by kernel_rfl) h

/-- doorman/tick.Add -/
def S276 (a0 a1 : Value) (w : World) (R : Value → World → Prop) : Prop :=
 pv (binV .sub (.int .u64 18446744073709551615) a0) fun t7 => pv (binV .gtr a1 t7) fun t8 => condC t8
 (R (.int .u64 18446744073709551615) w)
 (pv (binV .add a0 a1) fun t11 => R t11 w)
theorem sh276 {a0 a1 : Value} {w : World} {R : Value → World → Prop} (h : S276 a0 a1 w R) : CallsR Tryz.prog 276 #[a0, a1] w R :=
  vcFB_go mixed [] [] .nil [] [] 276 [a0, a1] (by kernel_rfl) h

/-- doorman/feed.client -/
def S280 (a0 : Value) (w : World) (R : Value → World → Prop) : Prop :=
 pv (binV .geq a0 (.int .i64 0)) fun t4 => gdB t4 true (fun N1 => pv (binV .lss a0 (.int .i64 8)) fun t7 => N1 (upd e0 7 t7) w no) (fun N2 => N2 (upd e0 7 undef) w no)
 (fun g3 w4 X5 => pv (pickV t4 (g3 7) (.bool false)) fun t8 => R t8 w4)
theorem sh280 {a0 : Value} {w : World} {R : Value → World → Prop} (h : S280 a0 w R) : CallsR Tryz.prog 280 #[a0] w R :=
  vcFB_go mixed [] [] .nil [] [(1, [([7], 0, false)])] 280 [a0] (by kernel_rfl) h

/-- doorman/hash.Of -/
def S289 (a0 : Value) (w : World) (R : Value → World → Prop) : Prop :=
 jnB (fun K1 => pv (lenSV a0) fun t6 => lpB (fun e5 w6 X7 N8 => pv (binV .lss (e5 7) (e5 6)) fun t8 => condC t8
 (pv (idxStrV (e5 0) (e5 7)) fun t13 => pv (cvtV .u64 t13) fun t14 => pv (binV .xor (e5 3) t14) fun t15 => pv (binV .mul t15 (.int .u64 1099511628211)) fun t17 => pv (binV .add (e5 7) (.int .i64 1)) fun t18 => N8 (upd (upd (upd (upd e0 7 t18) 6 (e5 6)) 3 t17) 0 (e5 0)) w6 X7)
 (K1 (upd e0 3 (e5 3)) w6 X7)) (upd (upd (upd (upd e0 7 (.int .i64 0)) 6 t6) 3 (.int .u64 14695981039346656037)) 0 a0) w no)
 (fun e2 w3 X4 => R (e2 3) w3)
theorem sh289 {a0 : Value} {w : World} {R : Value → World → Prop} (h : S289 a0 w R) : CallsR Tryz.prog 289 #[a0] w R :=
  vcFB_go mixed [] [] (.mk [] 2 true .nil (.mk [] 2 true .nil (.mk [3] 0 false (.mk [] 2 true .nil (.mk [0, 3, 6, 7] 0 false .nil .nil)) .nil))) [] [] 289 [a0] (by kernel_rfl) h

/-- doorman/hall.Place -/
def S290 (a0 a1 : Value) (w : World) (R : Value → World → Prop) : Prop :=
 pv (binV .mul (.int .i64 4) a0) fun t6 => pv (binV .add t6 a1) fun t8 => R t8 w
theorem sh290 {a0 a1 : Value} {w : World} {R : Value → World → Prop} (h : S290 a0 a1 w R) : CallsR Tryz.prog 290 #[a0, a1] w R :=
  vcFB_go mixed [] [] .nil [] [] 290 [a0, a1] (by kernel_rfl) h

/-- (doorman/cell.Cell).Value -/
def S309 (a0 : Value) (w : World) (R : Value → World → Prop) : Prop :=
 okB true 2 a0 = true ∧ pv (fieldV false 0 1 a0) fun t4 => syC w no fun w1 X2 => R t4 w1
theorem sh309 {a0 : Value} {w : World} {R : Value → World → Prop} (h : S309 a0 w R) : CallsR Tryz.prog 309 #[a0] w R :=
  vcFB_go mixed [(1, 2, true)] [(3, 1, 0)] .nil [] [] 309 [a0] (by kernel_rfl) h

/-- (doorman/latch.Latch).Take -/
def S310 (a0 a1 : Value) (w : World) (R : Value → World → Prop) : Prop :=
 okB true 1 a0 = true ∧ pv (binV .lss a1 (.int .i64 0)) fun t7 => gdB t7 false (fun N1 => syC w no fun w6 X7 => CallsR Tryz.prog 186 #[a0] w6 fun t10 w8 => kp X7 w6 w8 ∧ pv (unV .not t10) fun t11 => N1 (upd e0 11 t11) w8 X7) (fun N2 => N2 (upd e0 11 undef) w no)
 (fun g3 w4 X5 => pv (pickV t7 (.bool true) (g3 11)) fun t12 => condC t12
 (okB true 1 a0 = true ∧ syC w4 X5 fun w9 X10 => R (.tuple #[a0, (.bool false)]) w9)
 (pv (binV .add a1 (.int .i64 1)) fun t15 => pv (buildV [(0, 1)] [(.int .i64 0)] [(0, t15)]) fun t16 => okB true 1 t16 = true ∧ syC w4 X5 fun w11 X12 => R (.tuple #[t16, (.bool true)]) w11))
theorem sh310 {a0 a1 : Value} {w : World} {R : Value → World → Prop} (h : S310 a0 a1 w R) : CallsR Tryz.prog 310 #[a0, a1] w R :=
  vcFB_go mixed [(2, 1, true), (4, 1, true)] [] .nil [] [(1, [([11], 1, true)])] 310 [a0, a1] (by kernel_rfl) h

/-- (doorman/latch.Latch).Give -/
def S311 (a0 a1 : Value) (w : World) (R : Value → World → Prop) : Prop :=
 okB true 1 a0 = true ∧ syC w no fun w1 X2 => CallsR Tryz.prog 186 #[a0] w1 fun t7 w3 => kp X2 w1 w3 ∧ gdB t7 false (fun N4 => CallsR Tryz.prog 365 #[a0] w3 fun t10 w9 => kp X2 w3 w9 ∧ pv (binV .neq t10 a1) fun t12 => N4 (upd e0 12 t12) w9 X2) (fun N5 => N5 (upd e0 12 undef) w3 X2)
 (fun g6 w7 X8 => pv (pickV t7 (.bool true) (g6 12)) fun t13 => condC t13
 (okB true 1 a0 = true ∧ syC w7 X8 fun w10 X11 => R (.tuple #[a0, (.bool false)]) w10)
 (pv (buildV [(0, 1)] [(.int .i64 0)] []) fun t15 => okB true 1 t15 = true ∧ syC w7 X8 fun w12 X13 => R (.tuple #[t15, (.bool true)]) w12))
theorem sh311 {a0 a1 : Value} {w : World} {R : Value → World → Prop} (h : S311 a0 a1 w R) : CallsR Tryz.prog 311 #[a0, a1] w R :=
  vcFB_go mixed [(2, 1, true), (4, 1, true)] [] .nil [] [(1, [([12], 0, true)])] 311 [a0, a1] (by kernel_rfl) h

/-- cmp.isNaN[int] -/
def S324 (a0 : Value) (w : World) (R : Value → World → Prop) : Prop :=
 pv (binV .neq a0 a0) fun t5 => R t5 w
theorem sh324 {a0 : Value} {w : World} {R : Value → World → Prop} (h : S324 a0 w R) : CallsR Tryz.prog 324 #[a0] w R :=
  vcFB_go mixed [] [] .nil [] [] 324 [a0] (by kernel_rfl) h

/-- doorman/tick.Late -/
def S360 (a0 a1 : Value) (w : World) (R : Value → World → Prop) : Prop :=
 pv (binV .leq a1 a0) fun t7 => R t7 w
theorem sh360 {a0 a1 : Value} {w : World} {R : Value → World → Prop} (h : S360 a0 a1 w R) : CallsR Tryz.prog 360 #[a0, a1] w R :=
  vcFB_go mixed [] [] .nil [] [] 360 [a0, a1] (by kernel_rfl) h

/-- (doorman/latch.Latch).Owner -/
def S365 (a0 : Value) (w : World) (R : Value → World → Prop) : Prop :=
 okB true 1 a0 = true ∧ pv (fieldV false 0 1 a0) fun t4 => pv (binV .sub t4 (.int .i64 1)) fun t5 => syC w no fun w1 X2 => R t5 w1
theorem sh365 {a0 : Value} {w : World} {R : Value → World → Prop} (h : S365 a0 w R) : CallsR Tryz.prog 365 #[a0] w R :=
  vcFB_go mixed [(1, 1, true)] [(3, 1, 0)] .nil [] [] 365 [a0] (by kernel_rfl) h

/-- (doorman/cell.Cell).Begin -/
def S377 (a0 : Value) (w : World) (R : Value → World → Prop) : Prop :=
 okB true 2 a0 = true ∧ jnB (fun K1 => syC w no fun w5 X6 => CallsR Tryz.prog 403 #[a0] w5 fun t4 w7 => kp X6 w5 w7 ∧ pv (unV .not t4) fun t5 => gdB t5 true (fun N8 => CallsR Tryz.prog 183 #[a0] w7 fun t8 w13 => kp X6 w7 w13 ∧ pv (unV .not t8) fun t9 => N8 (upd e0 9 t9) w13 X6) (fun N9 => N9 (upd e0 9 undef) w7 X6)
 (fun g10 w11 X12 => pv (pickV t5 (g10 9) (.bool false)) fun t10 => condC t10
 (pv (fieldV false 0 1 a0) fun t12 => pv (binV .add t12 (.int .u64 1)) fun t13 => pv (setV 0 1 a0 t13) fun c1_14 => K1 (upd (upd e0 2 (.agg #[(.int .u64 0), (.int .u64 0)])) 1 c1_14) w11 X12)
 (K1 (upd (upd e0 2 (.agg #[(.int .u64 0), (.int .u64 0)])) 1 a0) w11 X12)))
 (fun e2 w3 X4 => okB true 2 (e2 1) = true ∧ syC w3 X4 fun w15 X16 => R (e2 1) w15)
theorem sh377 {a0 : Value} {w : World} {R : Value → World → Prop} (h : S377 a0 w R) : CallsR Tryz.prog 377 #[a0] w R :=
  vcFB_go mixed [(1, 2, true), (2, 2, true)] [(11, 1, 0), (14, 1, 0)] (.mk [] 2 true .nil (.mk [1, 2] 2 true .nil .nil)) [] [(1, [([9], 0, true)])] 377 [a0] (by kernel_rfl) h

/-- (doorman/cell.Cell).End -/
def S378 (a0 : Value) (w : World) (R : Value → World → Prop) : Prop :=
 okB true 2 a0 = true ∧ jnB (fun K1 => syC w no fun w5 X6 => CallsR Tryz.prog 183 #[a0] w5 fun t4 w7 => kp X6 w5 w7 ∧ condC t4
 (pv (fieldV false 0 1 a0) fun t6 => pv (binV .add t6 (.int .u64 1)) fun t7 => pv (setV 0 1 a0 t7) fun c1_8 => K1 (upd (upd e0 2 (.agg #[(.int .u64 0), (.int .u64 0)])) 1 c1_8) w7 X6)
 (K1 (upd (upd e0 2 (.agg #[(.int .u64 0), (.int .u64 0)])) 1 a0) w7 X6))
 (fun e2 w3 X4 => okB true 2 (e2 1) = true ∧ syC w3 X4 fun w9 X10 => R (e2 1) w9)
theorem sh378 {a0 : Value} {w : World} {R : Value → World → Prop} (h : S378 a0 w R) : CallsR Tryz.prog 378 #[a0] w R :=
  vcFB_go mixed [(1, 2, true), (2, 2, true)] [(5, 1, 0), (8, 1, 0)] (.mk [] 2 true .nil (.mk [1, 2] 2 true .nil .nil)) [] [] 378 [a0] (by kernel_rfl) h

/-- doorman/aggr.Better -/
def S387 (a0 a1 : Value) (w : World) (R : Value → World → Prop) : Prop :=
 okB true 4 a0 = true ∧ okB true 4 a1 = true ∧ pv (fieldV false 2 1 a0) fun t6 => pv (fieldV false 2 1 a1) fun t8 => pv (binV .gtr t6 t8) fun t9 => gdB t9 false (fun N1 => pv (fieldV false 2 1 a0) fun t12 => pv (fieldV false 2 1 a1) fun t14 => pv (binV .eql t12 t14) fun t15 => N1 (upd e0 16 t15) w no) (fun N2 => N2 (upd e0 16 undef) w no)
 (fun g3 w4 X5 => gdB (g3 16) true (fun N6 => pv (fieldV false 0 1 a0) fun t18 => pv (fieldV false 0 1 a1) fun t20 => pv (binV .lss t18 t20) fun t21 => N6 (upd e0 21 t21) w4 X5) (fun N7 => N7 (upd e0 21 undef) w4 X5)
 (fun g8 w9 X10 => gdB t9 false (fun N11 => pv (pickV (g3 16) (g8 21) (.bool false)) fun t22 => N11 (upd e0 22 t22) w9 X10) (fun N12 => N12 (upd e0 22 undef) w9 X10)
 (fun g13 w14 X15 => pv (pickV t9 (.bool true) (g13 22)) fun t23 => syC w14 X15 fun w16 X17 => R t23 w16)))
theorem sh387 {a0 a1 : Value} {w : World} {R : Value → World → Prop} (h : S387 a0 a1 w R) : CallsR Tryz.prog 387 #[a0, a1] w R :=
  vcFB_go mixed [(2, 4, true), (3, 4, true)] [(5, 2, 2), (7, 3, 2), (11, 2, 2), (13, 3, 2), (17, 2, 0), (19, 3, 0)] .nil [] [(1, [([16], 1, false), ([21], 1, false), ([22], 1, false)])] 387 [a0, a1] (by kernel_rfl) h

/-- (doorman/cell.Cell).Spent -/
def S403 (a0 : Value) (w : World) (R : Value → World → Prop) : Prop :=
 okB true 2 a0 = true ∧ pv (fieldV false 0 1 a0) fun t4 => pv (fieldV false 1 1 a0) fun t6 => pv (binV .geq t4 t6) fun t7 => syC w no fun w1 X2 => R t7 w1
theorem sh403 {a0 : Value} {w : World} {R : Value → World → Prop} (h : S403 a0 w R) : CallsR Tryz.prog 403 #[a0] w R :=
  vcFB_go mixed [(1, 2, true)] [(3, 1, 0), (5, 1, 1)] .nil [] [] 403 [a0] (by kernel_rfl) h

/-- cmp.Less[string] -/
def S404 (a0 a1 : Value) (w : World) (R : Value → World → Prop) : Prop :=
 CallsR Tryz.prog 413 #[a0] w fun t6 w1 => gdB t6 true (fun N2 => CallsR Tryz.prog 413 #[a1] w1 fun t9 w7 => pv (unV .not t9) fun t10 => N2 (upd e0 10 t10) w7 no) (fun N3 => N3 (upd e0 10 undef) w1 no)
 (fun g4 w5 X6 => pv (pickV t6 (g4 10) (.bool false)) fun t11 => gdB t11 false (fun N8 => pv (binV .lss a0 a1) fun t15 => N8 (upd e0 15 t15) w5 X6) (fun N9 => N9 (upd e0 15 undef) w5 X6)
 (fun g10 w11 X12 => pv (pickV t11 (.bool true) (g10 15)) fun t16 => R t16 w11))
theorem sh404 {a0 a1 : Value} {w : World} {R : Value → World → Prop} (h : S404 a0 a1 w R) : CallsR Tryz.prog 404 #[a0, a1] w R :=
  vcFB_go mixed [] [] .nil [] [(1, [([10], 0, false), ([15], 0, false)])] 404 [a0, a1] (by kernel_rfl) h

/-- slices.isNaN[string] -/
def S405 (a0 : Value) (w : World) (R : Value → World → Prop) : Prop :=
 pv (binV .neq a0 a0) fun t5 => R t5 w
theorem sh405 {a0 : Value} {w : World} {R : Value → World → Prop} (h : S405 a0 w R) : CallsR Tryz.prog 405 #[a0] w R :=
  vcFB_go mixed [] [] .nil [] [] 405 [a0] (by kernel_rfl) h

/-- cmp.isNaN[string] -/
def S413 (a0 : Value) (w : World) (R : Value → World → Prop) : Prop :=
 pv (binV .neq a0 a0) fun t5 => R t5 w
theorem sh413 {a0 : Value} {w : World} {R : Value → World → Prop} (h : S413 a0 w R) : CallsR Tryz.prog 413 #[a0] w R :=
  vcFB_go mixed [] [] .nil [] [] 413 [a0] (by kernel_rfl) h

end Go.Dm
namespace Go.Dm
open Go Go.Proofs
set_option maxRecDepth 1000000
set_option linter.unusedVariables false
/-- slices.Clone[[]string,string] -/
def S347 (a0 : Value) (w : World) (R : Value → World → Prop) : Prop :=
 pv (slcV .eql a0 (.slice none 0 0)) fun t4 => condC t4
 (R (.slice none 0 0) w)
 (bsC w 1 [(.string ⟨#[]⟩)] 9 0 [] fun t5 w1 => apC w1 16 1 [(.string ⟨#[]⟩)] 9 t5 a0 fun t7 w2 => R t7 w2)
theorem sh347 {a0 : Value} {w : World} {R : Value → World → Prop} (h : S347 a0 w R) : CallsR Tryz.prog 347 #[a0] w R :=
  vcFB_go mixed [] [] .nil [] [] 347 [a0] (by kernel_rfl) h

/-- slices.Clone[[]uint32,uint32] -/
def S349 (a0 : Value) (w : World) (R : Value → World → Prop) : Prop :=
 pv (slcV .eql a0 (.slice none 0 0)) fun t4 => condC t4
 (R (.slice none 0 0) w)
 (bsC w 1 [(.int .u32 0)] 340 0 [] fun t5 w1 => apC w1 4 1 [(.int .u32 0)] 340 t5 a0 fun t7 w2 => R t7 w2)
theorem sh349 {a0 : Value} {w : World} {R : Value → World → Prop} (h : S349 a0 w R) : CallsR Tryz.prog 349 #[a0] w R :=
  vcFB_go mixed [] [] .nil [] [] 349 [a0] (by kernel_rfl) h

/-- slices.Clone[[]doorman/api.Session,doorman/api.Session] -/
def S358 (a0 : Value) (w : World) (R : Value → World → Prop) : Prop :=
 pv (slcV .eql a0 (.slice none 0 0)) fun t4 => condC t4
 (R (.slice none 0 0) w)
 (bsC w 4 [(.int .i64 0), (.int .i64 0), (.int .i64 0), (.int .u64 0)] 357 0 [] fun t5 w1 => apC w1 32 4 [(.int .i64 0), (.int .i64 0), (.int .i64 0), (.int .u64 0)] 357 t5 a0 fun t7 w2 => R t7 w2)
theorem sh358 {a0 : Value} {w : World} {R : Value → World → Prop} (h : S358 a0 w R) : CallsR Tryz.prog 358 #[a0] w R :=
  vcFB_go mixed [] [] .nil [] [] 358 [a0] (by kernel_rfl) h

/-- slices.Clone[[]doorman/book.Entry,doorman/book.Entry] -/
def S389 (a0 : Value) (w : World) (R : Value → World → Prop) : Prop :=
 pv (slcV .eql a0 (.slice none 0 0)) fun t4 => condC t4
 (R (.slice none 0 0) w)
 (bsC w 4 [(.slice none 0 0), (.int .i64 0), (.int .i64 0), (.int .i64 0)] 349 0 [] fun t5 w1 => apC w1 48 4 [(.slice none 0 0), (.int .i64 0), (.int .i64 0), (.int .i64 0)] 349 t5 a0 fun t7 w2 => R t7 w2)
theorem sh389 {a0 : Value} {w : World} {R : Value → World → Prop} (h : S389 a0 w R) : CallsR Tryz.prog 389 #[a0] w R :=
  vcFB_go mixed [] [] .nil [] [] 389 [a0] (by kernel_rfl) h

end Go.Dm
namespace Go.Dm
open Go Go.Proofs
set_option maxRecDepth 1000000
set_option linter.unusedVariables false
/-- slices.Insert[[]string,string] -/
def S350 (a0 a1 a2 : Value) (w : World) (R : Value → World → Prop) : Prop :=
 pv (sliceV 1 a0 (some a1) none) fun t12 => pv (lenV a2) fun t14 => pv (binV .eql t14 (.int .i64 0)) fun t16 => condC t16
 (R a0 w)
 (pv (lenV a0) fun t19 => pv (binV .eql a1 t19) fun t22 => condC t22
 (apC w 16 1 [(.string ⟨#[]⟩)] 9 a0 a2 fun t25 w1 => R t25 w1)
 (pv (binV .add t19 t14) fun t28 => pv (capV a0) fun t30 => pv (binV .gtr t28 t30) fun t31 => condC t31
 (pv (sliceV 1 a0 none (some a1)) fun t34 => pv (binV .add t19 t14) fun t37 => pv (binV .sub t37 a1) fun t39 => apzC w 16 1 [(.string ⟨#[]⟩)] 9 t34 t39 fun t40 w2 => pv (sliceV 1 t40 (some a1) none) fun t43 => cpC w2 1 t43 a2 fun t45 w3 => pv (binV .add a1 t14) fun t49 => pv (sliceV 1 t40 (some t49) none) fun t50 => pv (sliceV 1 a0 (some a1) none) fun t53 => cpC (drewW w3) 1 t50 t53 fun t54 w4 => R t40 w4)
 (pv (binV .add t19 t14) fun t59 => pv (sliceV 1 a0 none (some t59)) fun t60 => pv (binV .add a1 t14) fun t65 => pv (sliceV 1 t60 (some t65) none) fun t66 => exC Tryz.prog 382 #[a2, t66] w fun t67 w5 => pv (unV .not t67) fun t68 => condC t68
 (pv (binV .add a1 t14) fun t72 => pv (sliceV 1 t60 (some t72) none) fun t73 => pv (sliceV 1 t60 (some a1) none) fun t76 => cpC (drewW w5) 1 t73 t76 fun t77 w6 => pv (sliceV 1 t60 (some a1) none) fun t80 => cpC w6 1 t80 a2 fun t82 w7 => R t60 w7)
 (pv (sliceV 1 t60 (some t19) none) fun t86 => cpC w5 1 t86 a2 fun t88 w8 => pv (sliceV 1 t60 (some a1) none) fun t91 => CallsR Tryz.prog 383 #[t91, t14] w8 fun t93 w9 => R t60 w9))))
theorem sh350 {a0 a1 a2 : Value} {w : World} {R : Value → World → Prop} (h : S350 a0 a1 a2 w R) : CallsR Tryz.prog 350 #[a0, a1, a2] w R :=
  vcFB_go mixed [] [] .nil [(11, (.cons 0 (.cons 1 (.cons 2 (.cons 3 (.cons 4 (.cons 5 (.cons 6 (.cons 7 (.cons 8 .nil))))))))), [0, 0, 0, 6, 15, 0, 0, 96, 255]), (15, (.cons 0 (.cons 1 (.cons 2 (.cons 3 (.cons 4 (.cons 5 (.cons 6 (.cons 7 (.cons 8 .nil))))))))), [0, 0, 0, 6, 15, 0, 0, 96, 255])] [] 350 [a0, a1, a2] (by kernel_rfl) h

/-- slices.Insert[[]uint32,uint32] -/
def S351 (a0 a1 a2 : Value) (w : World) (R : Value → World → Prop) : Prop :=
 pv (sliceV 1 a0 (some a1) none) fun t12 => pv (lenV a2) fun t14 => pv (binV .eql t14 (.int .i64 0)) fun t16 => condC t16
 (R a0 w)
 (pv (lenV a0) fun t19 => pv (binV .eql a1 t19) fun t22 => condC t22
 (apC w 4 1 [(.int .u32 0)] 340 a0 a2 fun t25 w1 => R t25 w1)
 (pv (binV .add t19 t14) fun t28 => pv (capV a0) fun t30 => pv (binV .gtr t28 t30) fun t31 => condC t31
 (pv (sliceV 1 a0 none (some a1)) fun t34 => pv (binV .add t19 t14) fun t37 => pv (binV .sub t37 a1) fun t39 => apzC w 4 1 [(.int .u32 0)] 340 t34 t39 fun t40 w2 => pv (sliceV 1 t40 (some a1) none) fun t43 => cpC w2 1 t43 a2 fun t45 w3 => pv (binV .add a1 t14) fun t49 => pv (sliceV 1 t40 (some t49) none) fun t50 => pv (sliceV 1 a0 (some a1) none) fun t53 => cpC (drewW w3) 1 t50 t53 fun t54 w4 => R t40 w4)
 (pv (binV .add t19 t14) fun t59 => pv (sliceV 1 a0 none (some t59)) fun t60 => pv (binV .add a1 t14) fun t65 => pv (sliceV 1 t60 (some t65) none) fun t66 => exC Tryz.prog 384 #[a2, t66] w fun t67 w5 => pv (unV .not t67) fun t68 => condC t68
 (pv (binV .add a1 t14) fun t72 => pv (sliceV 1 t60 (some t72) none) fun t73 => pv (sliceV 1 t60 (some a1) none) fun t76 => cpC (drewW w5) 1 t73 t76 fun t77 w6 => pv (sliceV 1 t60 (some a1) none) fun t80 => cpC w6 1 t80 a2 fun t82 w7 => R t60 w7)
 (pv (sliceV 1 t60 (some t19) none) fun t86 => cpC w5 1 t86 a2 fun t88 w8 => pv (sliceV 1 t60 (some a1) none) fun t91 => CallsR Tryz.prog 385 #[t91, t14] w8 fun t93 w9 => R t60 w9))))
theorem sh351 {a0 a1 a2 : Value} {w : World} {R : Value → World → Prop} (h : S351 a0 a1 a2 w R) : CallsR Tryz.prog 351 #[a0, a1, a2] w R :=
  vcFB_go mixed [] [] .nil [(11, (.cons 0 (.cons 1 (.cons 2 (.cons 3 (.cons 4 (.cons 5 (.cons 6 (.cons 7 (.cons 8 .nil))))))))), [0, 0, 0, 6, 15, 0, 0, 96, 255]), (15, (.cons 0 (.cons 1 (.cons 2 (.cons 3 (.cons 4 (.cons 5 (.cons 6 (.cons 7 (.cons 8 .nil))))))))), [0, 0, 0, 6, 15, 0, 0, 96, 255])] [] 351 [a0, a1, a2] (by kernel_rfl) h

/-- slices.Insert[[]doorman/api.Session,doorman/api.Session] -/
def S375 (a0 a1 a2 : Value) (w : World) (R : Value → World → Prop) : Prop :=
 pv (sliceV 4 a0 (some a1) none) fun t12 => pv (lenV a2) fun t14 => pv (binV .eql t14 (.int .i64 0)) fun t16 => condC t16
 (R a0 w)
 (pv (lenV a0) fun t19 => pv (binV .eql a1 t19) fun t22 => condC t22
 (apC w 32 4 [(.int .i64 0), (.int .i64 0), (.int .i64 0), (.int .u64 0)] 357 a0 a2 fun t25 w1 => R t25 w1)
 (pv (binV .add t19 t14) fun t28 => pv (capV a0) fun t30 => pv (binV .gtr t28 t30) fun t31 => condC t31
 (pv (sliceV 4 a0 none (some a1)) fun t34 => pv (binV .add t19 t14) fun t37 => pv (binV .sub t37 a1) fun t39 => apzC w 32 4 [(.int .i64 0), (.int .i64 0), (.int .i64 0), (.int .u64 0)] 357 t34 t39 fun t40 w2 => pv (sliceV 4 t40 (some a1) none) fun t43 => cpC w2 4 t43 a2 fun t45 w3 => pv (binV .add a1 t14) fun t49 => pv (sliceV 4 t40 (some t49) none) fun t50 => pv (sliceV 4 a0 (some a1) none) fun t53 => cpC (drewW w3) 4 t50 t53 fun t54 w4 => R t40 w4)
 (pv (binV .add t19 t14) fun t59 => pv (sliceV 4 a0 none (some t59)) fun t60 => pv (binV .add a1 t14) fun t65 => pv (sliceV 4 t60 (some t65) none) fun t66 => exC Tryz.prog 401 #[a2, t66] w fun t67 w5 => pv (unV .not t67) fun t68 => condC t68
 (pv (binV .add a1 t14) fun t72 => pv (sliceV 4 t60 (some t72) none) fun t73 => pv (sliceV 4 t60 (some a1) none) fun t76 => cpC (drewW w5) 4 t73 t76 fun t77 w6 => pv (sliceV 4 t60 (some a1) none) fun t80 => cpC w6 4 t80 a2 fun t82 w7 => R t60 w7)
 (pv (sliceV 4 t60 (some t19) none) fun t86 => cpC w5 4 t86 a2 fun t88 w8 => pv (sliceV 4 t60 (some a1) none) fun t91 => CallsR Tryz.prog 402 #[t91, t14] w8 fun t93 w9 => R t60 w9))))
theorem sh375 {a0 a1 a2 : Value} {w : World} {R : Value → World → Prop} (h : S375 a0 a1 a2 w R) : CallsR Tryz.prog 375 #[a0, a1, a2] w R :=
  vcFB_go mixed [] [] .nil [(11, (.cons 0 (.cons 1 (.cons 2 (.cons 3 (.cons 4 (.cons 5 (.cons 6 (.cons 7 (.cons 8 .nil))))))))), [0, 0, 0, 6, 15, 0, 0, 96, 255]), (15, (.cons 0 (.cons 1 (.cons 2 (.cons 3 (.cons 4 (.cons 5 (.cons 6 (.cons 7 (.cons 8 .nil))))))))), [0, 0, 0, 6, 15, 0, 0, 96, 255])] [] 375 [a0, a1, a2] (by kernel_rfl) h

/-- slices.Insert[[]doorman/book.Entry,doorman/book.Entry] -/
def S390 (a0 a1 a2 : Value) (w : World) (R : Value → World → Prop) : Prop :=
 pv (sliceV 4 a0 (some a1) none) fun t12 => pv (lenV a2) fun t14 => pv (binV .eql t14 (.int .i64 0)) fun t16 => condC t16
 (R a0 w)
 (pv (lenV a0) fun t19 => pv (binV .eql a1 t19) fun t22 => condC t22
 (apC w 48 4 [(.slice none 0 0), (.int .i64 0), (.int .i64 0), (.int .i64 0)] 349 a0 a2 fun t25 w1 => R t25 w1)
 (pv (binV .add t19 t14) fun t28 => pv (capV a0) fun t30 => pv (binV .gtr t28 t30) fun t31 => condC t31
 (pv (sliceV 4 a0 none (some a1)) fun t34 => pv (binV .add t19 t14) fun t37 => pv (binV .sub t37 a1) fun t39 => apzC w 48 4 [(.slice none 0 0), (.int .i64 0), (.int .i64 0), (.int .i64 0)] 349 t34 t39 fun t40 w2 => pv (sliceV 4 t40 (some a1) none) fun t43 => cpC w2 4 t43 a2 fun t45 w3 => pv (binV .add a1 t14) fun t49 => pv (sliceV 4 t40 (some t49) none) fun t50 => pv (sliceV 4 a0 (some a1) none) fun t53 => cpC (drewW w3) 4 t50 t53 fun t54 w4 => R t40 w4)
 (pv (binV .add t19 t14) fun t59 => pv (sliceV 4 a0 none (some t59)) fun t60 => pv (binV .add a1 t14) fun t65 => pv (sliceV 4 t60 (some t65) none) fun t66 => exC Tryz.prog 409 #[a2, t66] w fun t67 w5 => pv (unV .not t67) fun t68 => condC t68
 (pv (binV .add a1 t14) fun t72 => pv (sliceV 4 t60 (some t72) none) fun t73 => pv (sliceV 4 t60 (some a1) none) fun t76 => cpC (drewW w5) 4 t73 t76 fun t77 w6 => pv (sliceV 4 t60 (some a1) none) fun t80 => cpC w6 4 t80 a2 fun t82 w7 => R t60 w7)
 (pv (sliceV 4 t60 (some t19) none) fun t86 => cpC w5 4 t86 a2 fun t88 w8 => pv (sliceV 4 t60 (some a1) none) fun t91 => CallsR Tryz.prog 410 #[t91, t14] w8 fun t93 w9 => R t60 w9))))
theorem sh390 {a0 a1 a2 : Value} {w : World} {R : Value → World → Prop} (h : S390 a0 a1 a2 w R) : CallsR Tryz.prog 390 #[a0, a1, a2] w R :=
  vcFB_go mixed [] [] .nil [(11, (.cons 0 (.cons 1 (.cons 2 (.cons 3 (.cons 4 (.cons 5 (.cons 6 (.cons 7 (.cons 8 .nil))))))))), [0, 0, 0, 6, 15, 0, 0, 96, 255]), (15, (.cons 0 (.cons 1 (.cons 2 (.cons 3 (.cons 4 (.cons 5 (.cons 6 (.cons 7 (.cons 8 .nil))))))))), [0, 0, 0, 6, 15, 0, 0, 96, 255])] [] 390 [a0, a1, a2] (by kernel_rfl) h

end Go.Dm
namespace Go.Dm
open Go Go.Proofs
set_option maxRecDepth 1000000
set_option linter.unusedVariables false
/-- slices.Delete[[]string,string] -/
def S346 (a0 a1 a2 : Value) (w : World) (R : Value → World → Prop) : Prop :=
 pv (lenV a0) fun t12 => pv (slice3V 1 a0 (some a1) (some a2) (some t12)) fun t13 => pv (binV .eql a1 a2) fun t16 => condC t16
 (R a0 w)
 (pv (lenV a0) fun t19 => pv (sliceV 1 a0 none (some a1)) fun t22 => pv (sliceV 1 a0 (some a2) none) fun t25 => apC (drewW w) 16 1 [(.string ⟨#[]⟩)] 9 t22 t25 fun t26 w1 => pv (lenV t26) fun t29 => pv (sliceV 1 t26 (some t29) (some t19)) fun t31 => clC w1 [(.string ⟨#[]⟩)] t31 fun _ w2 => R t26 w2)
theorem sh346 {a0 a1 a2 : Value} {w : World} {R : Value → World → Prop} (h : S346 a0 a1 a2 w R) : CallsR Tryz.prog 346 #[a0, a1, a2] w R :=
  vcFB_go mixed [] [] .nil [(5, (.cons 0 (.cons 1 (.cons 2 (.cons 3 (.cons 4 (.cons 5 (.cons 6 (.cons 7 .nil)))))))), [0, 0, 3, 0, 0, 24, 63, 127])] [] 346 [a0, a1, a2] (by kernel_rfl) h

/-- slices.Delete[[]uint32,uint32] -/
def S348 (a0 a1 a2 : Value) (w : World) (R : Value → World → Prop) : Prop :=
 pv (lenV a0) fun t12 => pv (slice3V 1 a0 (some a1) (some a2) (some t12)) fun t13 => pv (binV .eql a1 a2) fun t16 => condC t16
 (R a0 w)
 (pv (lenV a0) fun t19 => pv (sliceV 1 a0 none (some a1)) fun t22 => pv (sliceV 1 a0 (some a2) none) fun t25 => apC (drewW w) 4 1 [(.int .u32 0)] 340 t22 t25 fun t26 w1 => pv (lenV t26) fun t29 => pv (sliceV 1 t26 (some t29) (some t19)) fun t31 => clC w1 [(.int .u32 0)] t31 fun _ w2 => R t26 w2)
theorem sh348 {a0 a1 a2 : Value} {w : World} {R : Value → World → Prop} (h : S348 a0 a1 a2 w R) : CallsR Tryz.prog 348 #[a0, a1, a2] w R :=
  vcFB_go mixed [] [] .nil [(5, (.cons 0 (.cons 1 (.cons 2 (.cons 3 (.cons 4 (.cons 5 (.cons 6 (.cons 7 .nil)))))))), [0, 0, 3, 0, 0, 24, 63, 127])] [] 348 [a0, a1, a2] (by kernel_rfl) h

/-- slices.Delete[[]doorman/api.Session,doorman/api.Session] -/
def S376 (a0 a1 a2 : Value) (w : World) (R : Value → World → Prop) : Prop :=
 pv (lenV a0) fun t12 => pv (slice3V 4 a0 (some a1) (some a2) (some t12)) fun t13 => pv (binV .eql a1 a2) fun t16 => condC t16
 (R a0 w)
 (pv (lenV a0) fun t19 => pv (sliceV 4 a0 none (some a1)) fun t22 => pv (sliceV 4 a0 (some a2) none) fun t25 => apC (drewW w) 32 4 [(.int .i64 0), (.int .i64 0), (.int .i64 0), (.int .u64 0)] 357 t22 t25 fun t26 w1 => pv (lenV t26) fun t29 => pv (sliceV 4 t26 (some t29) (some t19)) fun t31 => clC w1 [(.int .i64 0), (.int .i64 0), (.int .i64 0), (.int .u64 0)] t31 fun _ w2 => R t26 w2)
theorem sh376 {a0 a1 a2 : Value} {w : World} {R : Value → World → Prop} (h : S376 a0 a1 a2 w R) : CallsR Tryz.prog 376 #[a0, a1, a2] w R :=
  vcFB_go mixed [] [] .nil [(5, (.cons 0 (.cons 1 (.cons 2 (.cons 3 (.cons 4 (.cons 5 (.cons 6 (.cons 7 .nil)))))))), [0, 0, 3, 0, 0, 24, 63, 127])] [] 376 [a0, a1, a2] (by kernel_rfl) h

/-- slices.Delete[[]doorman/book.Entry,doorman/book.Entry] -/
def S388 (a0 a1 a2 : Value) (w : World) (R : Value → World → Prop) : Prop :=
 pv (lenV a0) fun t12 => pv (slice3V 4 a0 (some a1) (some a2) (some t12)) fun t13 => pv (binV .eql a1 a2) fun t16 => condC t16
 (R a0 w)
 (pv (lenV a0) fun t19 => pv (sliceV 4 a0 none (some a1)) fun t22 => pv (sliceV 4 a0 (some a2) none) fun t25 => apC (drewW w) 48 4 [(.slice none 0 0), (.int .i64 0), (.int .i64 0), (.int .i64 0)] 349 t22 t25 fun t26 w1 => pv (lenV t26) fun t29 => pv (sliceV 4 t26 (some t29) (some t19)) fun t31 => clC w1 [(.slice none 0 0), (.int .i64 0), (.int .i64 0), (.int .i64 0)] t31 fun _ w2 => R t26 w2)
theorem sh388 {a0 a1 a2 : Value} {w : World} {R : Value → World → Prop} (h : S388 a0 a1 a2 w R) : CallsR Tryz.prog 388 #[a0, a1, a2] w R :=
  vcFB_go mixed [] [] .nil [(5, (.cons 0 (.cons 1 (.cons 2 (.cons 3 (.cons 4 (.cons 5 (.cons 6 (.cons 7 .nil)))))))), [0, 0, 3, 0, 0, 24, 63, 127])] [] 388 [a0, a1, a2] (by kernel_rfl) h

/-- slices.BinarySearch[[]string,string] -/
def S381 (a0 a1 : Value) (w : World) (R : Value → World → Prop) : Prop :=
 pv (lenV a0) fun t11 => jnB (fun K1 => lpB (fun e5 w6 X7 N8 => pv (binV .lss (e5 7) (e5 8)) fun t15 => condC t15
 (pv (binV .add (e5 7) (e5 8)) fun t18 => pv (cvtV .u64 t18) fun t19 => pv (binV .shr t19 (.int .u64 1)) fun t20 => pv (cvtV .i64 t20) fun t21 => pv (idxSV 1 (e5 0) t21) fun t24 => ldC w6 false 1 t24 fun t25 => CallsR Tryz.prog 404 #[t25, (e5 1)] w6 fun t27 w9 => condC t27
 (pv (binV .add t21 (.int .i64 1)) fun t29 => N8 (upd (upd (upd (upd (upd e0 8 (e5 8)) 7 t29) 6 (e5 6)) 1 (e5 1)) 0 (e5 0)) w9 X7)
 (N8 (upd (upd (upd (upd (upd e0 8 t21) 7 (e5 7)) 6 (e5 6)) 1 (e5 1)) 0 (e5 0)) w9 X7))
 (K1 (upd (upd (upd (upd e0 7 (e5 7)) 6 (e5 6)) 1 (e5 1)) 0 (e5 0)) w6 X7)) (upd (upd (upd (upd (upd e0 8 t11) 7 (.int .i64 0)) 6 t11) 1 a1) 0 a0) w no)
 (fun e2 w3 X4 => pv (binV .lss (e2 7) (e2 6)) fun t34 => gdB t34 true (fun N10 => pv (idxSV 1 (e2 0) (e2 7)) fun t38 => ldC w3 false 1 t38 fun t39 => pv (binV .eql t39 (e2 1)) fun t41 => N10 (upd e0 42 t41) w3 X4) (fun N11 => N11 (upd e0 42 undef) w3 X4)
 (fun g12 w13 X14 => gdB (g12 42) false (fun N15 => pv (idxSV 1 (e2 0) (e2 7)) fun t45 => ldC w13 false 1 t45 fun t46 => CallsR Tryz.prog 405 #[t46] w13 fun t47 w20 => N15 (upd e0 48 t47) w20 X14) (fun N16 => N16 (upd e0 48 undef) w13 X14)
 (fun g17 w18 X19 => gdB (g17 48) true (fun N21 => CallsR Tryz.prog 405 #[(e2 1)] w18 fun t50 w26 => N21 (upd e0 50 t50) w26 X19) (fun N22 => N22 (upd e0 50 undef) w18 X19)
 (fun g23 w24 X25 => gdB (g12 42) false (fun N27 => pv (pickV (g17 48) (g23 50) (.bool false)) fun t51 => N27 (upd e0 51 t51) w24 X25) (fun N28 => N28 (upd e0 51 undef) w24 X25)
 (fun g29 w30 X31 => gdB t34 true (fun N32 => pv (pickV (g12 42) (.bool true) (g29 51)) fun t52 => N32 (upd e0 52 t52) w30 X31) (fun N33 => N33 (upd e0 52 undef) w30 X31)
 (fun g34 w35 X36 => pv (pickV t34 (g34 52) (.bool false)) fun t53 => R (.tuple #[(e2 7), t53]) w35))))))
theorem sh381 {a0 a1 : Value} {w : World} {R : Value → World → Prop} (h : S381 a0 a1 w R) : CallsR Tryz.prog 381 #[a0, a1] w R :=
  vcFB_go mixed [] [] (.mk [] 2 true .nil (.mk [] 2 true .nil (.mk [] 2 true .nil (.mk [0, 1, 6, 7] 0 false (.mk [0, 1, 6, 7, 8] 0 false .nil .nil) .nil)))) [] [(8, [([42], 0, false), ([48], 0, false), ([50], 0, false), ([51], 0, false), ([52], 0, false)])] 381 [a0, a1] (by kernel_rfl) h

/-- slices.BinarySearchFunc[[]doorman/api.Session,doorman/api.Session,int] -/
def S399 (a0 a1 a2 : Value) (w : World) (R : Value → World → Prop) : Prop :=
 pv (lenV a0) fun t13 => jnB (fun K1 => lpB (fun e5 w6 X7 N8 => pv (binV .lss (e5 9) (e5 10)) fun t17 => condC t17
 (pv (binV .add (e5 9) (e5 10)) fun t20 => pv (cvtV .u64 t20) fun t21 => pv (binV .shr t21 (.int .u64 1)) fun t22 => pv (cvtV .i64 t22) fun t23 => pv (idxSV 4 (e5 0) t23) fun t27 => ldC w6 true 4 t27 fun t28 => dyC Tryz.prog (e5 2) #[t28, (e5 1)] w6 fun t30 w9 => pv (binV .lss t30 (.int .i64 0)) fun t31 => condC t31
 (pv (binV .add t23 (.int .i64 1)) fun t33 => N8 (upd (upd (upd (upd (upd (upd e0 10 (e5 10)) 9 t33) 8 (e5 8)) 2 (e5 2)) 1 (e5 1)) 0 (e5 0)) w9 X7)
 (N8 (upd (upd (upd (upd (upd (upd e0 10 t23) 9 (e5 9)) 8 (e5 8)) 2 (e5 2)) 1 (e5 1)) 0 (e5 0)) w9 X7))
 (K1 (upd (upd (upd (upd (upd e0 9 (e5 9)) 8 (e5 8)) 2 (e5 2)) 1 (e5 1)) 0 (e5 0)) w6 X7)) (upd (upd (upd (upd (upd (upd e0 10 t13) 9 (.int .i64 0)) 8 t13) 2 a2) 1 a1) 0 a0) w no)
 (fun e2 w3 X4 => pv (binV .lss (e2 9) (e2 8)) fun t38 => gdB t38 true (fun N10 => pv (idxSV 4 (e2 0) (e2 9)) fun t43 => ldC w3 true 4 t43 fun t44 => dyC Tryz.prog (e2 2) #[t44, (e2 1)] w3 fun t46 w15 => pv (binV .eql t46 (.int .i64 0)) fun t47 => N10 (upd e0 47 t47) w15 X4) (fun N11 => N11 (upd e0 47 undef) w3 X4)
 (fun g12 w13 X14 => pv (pickV t38 (g12 47) (.bool false)) fun t48 => R (.tuple #[(e2 9), t48]) w13))
theorem sh399 {a0 a1 a2 : Value} {w : World} {R : Value → World → Prop} (h : S399 a0 a1 a2 w R) : CallsR Tryz.prog 399 #[a0, a1, a2] w R :=
  vcFB_go mixed [] [] (.mk [] 2 true .nil (.mk [] 2 true .nil (.mk [] 2 true .nil (.mk [0, 1, 2, 8, 9] 0 false (.mk [0, 1, 2, 8, 9, 10] 0 false .nil .nil) .nil)))) [] [(8, [([47], 0, false)])] 399 [a0, a1, a2] (by kernel_rfl) h

/-- doorman/sess.find -/
def S374 (a0 a1 : Value) (w : World) (R : Value → World → Prop) : Prop :=
 CallsR Tryz.prog 399 #[a0, a1, (.func (.func 400) #[] #[])] w fun t8 w1 => pv (extV t8 0) fun t9 => pv (extV t8 1) fun t10 => R (.tuple #[t9, t10]) w1
theorem sh374 {a0 a1 : Value} {w : World} {R : Value → World → Prop} (h : S374 a0 a1 w R) : CallsR Tryz.prog 374 #[a0, a1] w R :=
  vcFB_go mixed [] [] .nil [] [] 374 [a0, a1] (by kernel_rfl) h

/-- doorman/sess.find$1 -/
def S400 (a0 a1 : Value) (w : World) (R : Value → World → Prop) : Prop :=
 okB true 4 a0 = true ∧ pv (fieldV false 0 1 a0) fun t6 => syC w no fun w1 X2 => CallsR Tryz.prog 243 #[t6, a1] w1 fun t8 w3 => kp X2 w1 w3 ∧ R t8 w3
theorem sh400 {a0 a1 : Value} {w : World} {R : Value → World → Prop} (h : S400 a0 a1 w R) : CallsR Tryz.prog 400 #[a0, a1] w R :=
  vcFB_go mixed [(2, 4, true)] [(5, 2, 0)] .nil [] [] 400 [a0, a1] (by kernel_rfl) h

/-- slices.IndexFunc[[]doorman/api.Session,doorman/api.Session] -/
def S391 (a0 a1 : Value) (w : World) (R : Value → World → Prop) : Prop :=
 jnB (fun K1 => pv (lenV a0) fun t7 => lpB (fun e5 w6 X7 N8 => pv (binV .lss (e5 8) (e5 7)) fun t9 => condC t9
 (pv (idxSV 4 (e5 0) (e5 8)) fun t14 => ldC w6 true 4 t14 fun t15 => dyC Tryz.prog (e5 1) #[t15] w6 fun t16 w9 => condC t16
 (R (e5 8) w9)
 (pv (binV .add (e5 8) (.int .i64 1)) fun t18 => N8 (upd (upd (upd (upd e0 8 t18) 7 (e5 7)) 1 (e5 1)) 0 (e5 0)) w9 X7))
 (K1 e0 w6 X7)) (upd (upd (upd (upd e0 8 (.int .i64 0)) 7 t7) 1 a1) 0 a0) w no)
 (fun e2 w3 X4 => R (.int .i64 (-1)) w3)
theorem sh391 {a0 a1 : Value} {w : World} {R : Value → World → Prop} (h : S391 a0 a1 w R) : CallsR Tryz.prog 391 #[a0, a1] w R :=
  vcFB_go mixed [] [] (.mk [] 2 true .nil (.mk [] 0 false (.mk [] 2 true .nil (.mk [0, 1, 7, 8] 0 false .nil .nil)) .nil)) [] [] 391 [a0, a1] (by kernel_rfl) h

/-- slices.DeleteFunc[[]doorman/api.Session,doorman/api.Session] -/
def S357 (a0 a1 : Value) (w : World) (R : Value → World → Prop) : Prop :=
 CallsR Tryz.prog 391 #[a0, a1] w fun t10 w1 => pv (binV .eql t10 (.int .i64 (-1))) fun t12 => condC t12
 (R a0 w1)
 (jnB (fun K2 => pv (binV .add t10 (.int .i64 1)) fun t15 => lpB (fun e6 w7 X8 N9 => pv (lenV (e6 0)) fun t18 => pv (binV .lss (e6 6) t18) fun t19 => condC t19
 (jnB (fun K10 => pv (idxSV 4 (e6 0) (e6 6)) fun t24 => ldC w7 true 4 t24 fun t25 => okB true 4 t25 = true ∧ syC w7 X8 fun w14 X15 => dyC Tryz.prog (e6 1) #[t25] w14 fun t28 w16 => kp X15 w14 w16 ∧ pv (unV .not t28) fun t29 => condC t29
 (pv (idxSV 4 (e6 0) (e6 5)) fun t33 => stC w16 4 t33 t25 fun w17 => kp X15 w16 w17 ∧ pv (binV .add (e6 5) (.int .i64 1)) fun t35 => K10 (upd (upd (upd (upd e0 6 (e6 6)) 5 t35) 1 (e6 1)) 0 (e6 0)) w17 X15)
 (K10 (upd (upd (upd (upd e0 6 (e6 6)) 5 (e6 5)) 1 (e6 1)) 0 (e6 0)) w16 X15))
 (fun e11 w12 X13 => pv (binV .add (e11 6) (.int .i64 1)) fun t21 => N9 (upd (upd (upd (upd e0 6 t21) 5 (e11 5)) 1 (e11 1)) 0 (e11 0)) w12 X13))
 (K2 (upd (upd e0 5 (e6 5)) 0 (e6 0)) w7 X8)) (upd (upd (upd (upd e0 6 t15) 5 t10) 1 a1) 0 a0) w1 no)
 (fun e3 w4 X5 => pv (sliceV 4 (e3 0) (some (e3 5)) none) fun t38 => clC w4 [(.int .i64 0), (.int .i64 0), (.int .i64 0), (.int .u64 0)] t38 fun _ w18 => kp X5 w4 w18 ∧ pv (sliceV 4 (e3 0) none (some (e3 5))) fun t41 => R t41 w18))
theorem sh357 {a0 a1 : Value} {w : World} {R : Value → World → Prop} (h : S357 a0 a1 w R) : CallsR Tryz.prog 357 #[a0, a1] w R :=
  vcFB_go mixed [(7, 4, true)] [] (.mk [] 2 true .nil (.mk [] 2 true .nil (.mk [] 2 true .nil (.mk [0, 5] 0 true (.mk [] 2 true .nil (.mk [0, 1, 5, 6] 0 true (.mk [] 2 true .nil (.mk [0, 1, 5, 6] 0 true .nil .nil)) .nil)) .nil)))) [] [] 357 [a0, a1] (by kernel_rfl) h

/-- doorman/sess.Purge -/
def S295 (a0 a1 : Value) (w : World) (R : Value → World → Prop) : Prop :=
 alC w (Value.cells a1).toList 22 fun t3 w1 => CallsR Tryz.prog 358 #[a0] w1 fun t6 w2 => CallsR Tryz.prog 357 #[t6, (.func (.func 359) #[] #[t3])] w2 fun t8 w3 => R t8 w3
theorem sh295 {a0 a1 : Value} {w : World} {R : Value → World → Prop} (h : S295 a0 a1 w R) : CallsR Tryz.prog 295 #[a0, a1] w R :=
  vcFB_go mixed [] [] .nil [] [] 295 [a0, a1] (by kernel_rfl) h

/-- doorman/sess.Purge$1 -/
def S359 (a0 a1 : Value) (w : World) (R : Value → World → Prop) : Prop :=
 okB true 4 a0 = true ∧ ldC w false 1 a1 fun t4 => pv (fieldV false 3 1 a0) fun t6 => syC w no fun w1 X2 => CallsR Tryz.prog 360 #[t4, t6] w1 fun t7 w3 => kp X2 w1 w3 ∧ R t7 w3
theorem sh359 {a0 a1 : Value} {w : World} {R : Value → World → Prop} (h : S359 a0 a1 w R) : CallsR Tryz.prog 359 #[a0, a1] w R :=
  vcFB_go mixed [(2, 4, true)] [(5, 2, 3)] .nil [] [] 359 [a0, a1] (by kernel_rfl) h

/-- slices.Equal[[]string,string] -/
def S284 (a0 a1 : Value) (w : World) (R : Value → World → Prop) : Prop :=
 pv (lenV a0) fun t7 => pv (lenV a1) fun t9 => pv (binV .neq t7 t9) fun t10 => condC t10
 (R (.bool false) w)
 (jnB (fun K1 => pv (lenV a0) fun t12 => lpB (fun e5 w6 X7 N8 => pv (binV .lss (e5 13) (e5 12)) fun t14 => condC t14
 (pv (idxSV 1 (e5 0) (e5 13)) fun t18 => pv (idxSV 1 (e5 1) (e5 13)) fun t22 => ldC (drewW w6) false 1 t18 fun t19 => ldC (drewW w6) false 1 t22 fun t23 => pv (binV .neq t19 t23) fun t24 => condC t24
 (R (.bool false) (drewW w6))
 (pv (binV .add (e5 13) (.int .i64 1)) fun t25 => N8 (upd (upd (upd (upd e0 13 t25) 12 (e5 12)) 1 (e5 1)) 0 (e5 0)) (drewW w6) X7))
 (K1 e0 w6 X7)) (upd (upd (upd (upd e0 13 (.int .i64 0)) 12 t12) 1 a1) 0 a0) w no)
 (fun e2 w3 X4 => R (.bool true) w3))
theorem sh284 {a0 a1 : Value} {w : World} {R : Value → World → Prop} (h : S284 a0 a1 w R) : CallsR Tryz.prog 284 #[a0, a1] w R :=
  vcFB_go mixed [] [] (.mk [] 2 true .nil (.mk [] 2 true .nil (.mk [] 0 false (.mk [] 2 true .nil (.mk [0, 1, 12, 13] 0 false .nil .nil)) .nil))) [(6, (.cons 0 (.cons 1 (.cons 2 (.cons 4 (.cons 5 (.cons 6 (.cons 3 (.cons 7 (.cons 8 .nil))))))))), [0, 0, 3, 7, 0, 0, 48, 112, 255])] [] 284 [a0, a1] (by kernel_rfl) h

/-- slices.Equal[[]doorman/api.Session,doorman/api.Session] -/
def S288 (a0 a1 : Value) (w : World) (R : Value → World → Prop) : Prop :=
 pv (lenV a0) fun t7 => pv (lenV a1) fun t9 => pv (binV .neq t7 t9) fun t10 => condC t10
 (R (.bool false) w)
 (jnB (fun K1 => pv (lenV a0) fun t12 => lpB (fun e5 w6 X7 N8 => pv (binV .lss (e5 13) (e5 12)) fun t14 => condC t14
 (pv (idxSV 4 (e5 0) (e5 13)) fun t18 => pv (idxSV 4 (e5 1) (e5 13)) fun t22 => ldC (drewW w6) true 4 t18 fun t19 => ldC (drewW w6) true 4 t22 fun t23 => pv (structV Tryz.prog .neq 357 t19 t23) fun t24 => condC t24
 (R (.bool false) (drewW w6))
 (pv (binV .add (e5 13) (.int .i64 1)) fun t25 => N8 (upd (upd (upd (upd e0 13 t25) 12 (e5 12)) 1 (e5 1)) 0 (e5 0)) (drewW w6) X7))
 (K1 e0 w6 X7)) (upd (upd (upd (upd e0 13 (.int .i64 0)) 12 t12) 1 a1) 0 a0) w no)
 (fun e2 w3 X4 => R (.bool true) w3))
theorem sh288 {a0 a1 : Value} {w : World} {R : Value → World → Prop} (h : S288 a0 a1 w R) : CallsR Tryz.prog 288 #[a0, a1] w R :=
  vcFB_go mixed [] [] (.mk [] 2 true .nil (.mk [] 2 true .nil (.mk [] 0 false (.mk [] 2 true .nil (.mk [0, 1, 12, 13] 0 false .nil .nil)) .nil))) [(6, (.cons 0 (.cons 1 (.cons 2 (.cons 4 (.cons 5 (.cons 6 (.cons 3 (.cons 7 (.cons 8 .nil))))))))), [0, 0, 3, 7, 0, 0, 48, 112, 255])] [] 288 [a0, a1] (by kernel_rfl) h

/-- slices.Equal[[]doorman/api.Presence,doorman/api.Presence] -/
def S362 (a0 a1 : Value) (w : World) (R : Value → World → Prop) : Prop :=
 pv (lenV a0) fun t7 => pv (lenV a1) fun t9 => pv (binV .neq t7 t9) fun t10 => condC t10
 (R (.bool false) w)
 (jnB (fun K1 => pv (lenV a0) fun t12 => lpB (fun e5 w6 X7 N8 => pv (binV .lss (e5 13) (e5 12)) fun t14 => condC t14
 (pv (idxSV 3 (e5 0) (e5 13)) fun t18 => pv (idxSV 3 (e5 1) (e5 13)) fun t22 => ldC (drewW w6) true 3 t18 fun t19 => ldC (drewW w6) true 3 t22 fun t23 => pv (structV Tryz.prog .neq 150 t19 t23) fun t24 => condC t24
 (R (.bool false) (drewW w6))
 (pv (binV .add (e5 13) (.int .i64 1)) fun t25 => N8 (upd (upd (upd (upd e0 13 t25) 12 (e5 12)) 1 (e5 1)) 0 (e5 0)) (drewW w6) X7))
 (K1 e0 w6 X7)) (upd (upd (upd (upd e0 13 (.int .i64 0)) 12 t12) 1 a1) 0 a0) w no)
 (fun e2 w3 X4 => R (.bool true) w3))
theorem sh362 {a0 a1 : Value} {w : World} {R : Value → World → Prop} (h : S362 a0 a1 w R) : CallsR Tryz.prog 362 #[a0, a1] w R :=
  vcFB_go mixed [] [] (.mk [] 2 true .nil (.mk [] 2 true .nil (.mk [] 0 false (.mk [] 2 true .nil (.mk [0, 1, 12, 13] 0 false .nil .nil)) .nil))) [(6, (.cons 0 (.cons 1 (.cons 2 (.cons 4 (.cons 5 (.cons 6 (.cons 3 (.cons 7 (.cons 8 .nil))))))))), [0, 0, 3, 7, 0, 0, 48, 112, 255])] [] 362 [a0, a1] (by kernel_rfl) h

/-- slices.Equal[[]doorman/api.Event,doorman/api.Event] -/
def S363 (a0 a1 : Value) (w : World) (R : Value → World → Prop) : Prop :=
 pv (lenV a0) fun t7 => pv (lenV a1) fun t9 => pv (binV .neq t7 t9) fun t10 => condC t10
 (R (.bool false) w)
 (jnB (fun K1 => pv (lenV a0) fun t12 => lpB (fun e5 w6 X7 N8 => pv (binV .lss (e5 13) (e5 12)) fun t14 => condC t14
 (pv (idxSV 8 (e5 0) (e5 13)) fun t18 => pv (idxSV 8 (e5 1) (e5 13)) fun t22 => ldC (drewW w6) true 8 t18 fun t19 => ldC (drewW w6) true 8 t22 fun t23 => pv (structV Tryz.prog .neq 152 t19 t23) fun t24 => condC t24
 (R (.bool false) (drewW w6))
 (pv (binV .add (e5 13) (.int .i64 1)) fun t25 => N8 (upd (upd (upd (upd e0 13 t25) 12 (e5 12)) 1 (e5 1)) 0 (e5 0)) (drewW w6) X7))
 (K1 e0 w6 X7)) (upd (upd (upd (upd e0 13 (.int .i64 0)) 12 t12) 1 a1) 0 a0) w no)
 (fun e2 w3 X4 => R (.bool true) w3))
theorem sh363 {a0 a1 : Value} {w : World} {R : Value → World → Prop} (h : S363 a0 a1 w R) : CallsR Tryz.prog 363 #[a0, a1] w R :=
  vcFB_go mixed [] [] (.mk [] 2 true .nil (.mk [] 2 true .nil (.mk [] 0 false (.mk [] 2 true .nil (.mk [0, 1, 12, 13] 0 false .nil .nil)) .nil))) [(6, (.cons 0 (.cons 1 (.cons 2 (.cons 4 (.cons 5 (.cons 6 (.cons 3 (.cons 7 (.cons 8 .nil))))))))), [0, 0, 3, 7, 0, 0, 48, 112, 255])] [] 363 [a0, a1] (by kernel_rfl) h

end Go.Dm
