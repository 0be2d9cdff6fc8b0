/- A part of the proof that doormanlaw21.LinOpen returns true for every input, on no condition. -/
import Derived.Test.YtbfajkpjilhkgaaGreatO1
import Derived.Test.YtbfajkpjilhkgaaGreatR8
import Derived.Test.YtbfajkpjilhkgaaGreatRows
import Derived.WalkKit
import Derived.ProofKit
import Derived.OpenShut
import Derived.ShutString
import Derived.ChangeOld
import Derived.Below
import Derived.SizedLaws
set_option linter.unusedVariables false
set_option linter.unusedSimpArgs false
namespace Go.Dm
open Go Go.Proofs Go.Proofs.YtbfajkpjilhkgaaGreat Go.ChangeShapes Go.WideShapes Go.ChangeAt Go.RowKit
open Go.ChangeMaps (open_string shut_string)
theorem own0 : ownKnob Tryz.prog.godebug = none := by kernel_rfl
theorem laidOut : laidOutB Tryz.prog = true := by kernel_rfl
theorem st_of {t : TypeId} {l : List (Bool × TypeId × Nat)} (hl : fieldsOf Tryz.prog t = some l) : ∃ fs, Tryz.prog.underlying t = some (.struct fs) := by
  unfold fieldsOf at hl
  split at hl
  · rename_i fs hu _; exact ⟨fs, hu⟩
  · cases hl
theorem Fr.below {w w' : World} (f : Fr no w w') : Below w.heap.size w w' := ⟨f.os, f.tape, f.output, f.size, fun k hk => f.keep k hk id⟩
set_option maxRecDepth 100000 in
theorem lifted9 (os : Os) (started : os.Started) (H : Type) (enc : TypeId × Value → H) :
    ReturnsInHanded {} Tryz.checked os 9 .any (Rows.linOpenSpec.pre6 enc Tryz.prog Tryz.f9 Rows.linOpenRow.domain false) (Rows.linOpenSpec.post enc Tryz.prog Tryz.f9 false true false false) := by
  refine returnsInHanded_of_change_sized (C := Tryz.checked) own0 started (by kernel_rfl) Tryz.func9
    (ChangeSpec.witness6 (enc := enc) (C := Tryz.checked) false ⟨#[], #[.agg #[.int .i64 0, .int .i64 0, .int .i64 0, .int .i64 0, .int .i64 0, .int .u64 0, .int .u64 0], .slice none 0 0, .agg #[.int .i64 0, .string ByteArray.empty, .int .i64 0, .int .i64 0, .int .i64 0, .int .u64 0, .slice none 0 0]], []⟩ 8 (by kernel_rfl) (by kernel_rfl) (by kernel_rfl) (by kernel_rfl)) ?_
  intro W base args ds gs before hval0 hW hcnd hsz0 _
  have hval : ∀ (j : Nat) t v, Tryz.f9.params[j]? = some t → args[j]? = some v → Value.okWide Tryz.prog W .any base t v := hval0
  have hW' := hW
  obtain ⟨p, q, hA0, hV, rfl, hfz, hnd⟩ := hW
  have hA : DataW.TrodAll enc Tryz.prog W 0 (fun _ => true) true Tryz.f9.params.toList args.toList ds p := hA0
  rw [Tryz.params9] at hA hval
  obtain ⟨v0, vs0, d0, ds0, p0, q0, hargs, rfl, rfl, h0, r0⟩ := trodAll_cons hA
  obtain ⟨v1, vs1, d1, ds1, p1, q1, rfl, rfl, rfl, h1, r1⟩ := trodAll_cons r0
  obtain ⟨v2, vs2, d2, ds2, p2, q2, rfl, rfl, rfl, h2, r2⟩ := trodAll_cons r1
  obtain ⟨rfl, rfl, rfl⟩ := trodAll_nil r2
  obtain rfl : args = #[v0, v1, v2] := by cases args; simp_all
  obtain ⟨rfl, rfl⟩ := trodVars_none hV
  have lt0 : ∀ x ∈ p0, x.block < W.heap.size := by obtain ⟨m, hm⟩ := h0; exact DataW.trod_lt m _ _ _ hm
  have lt1 : ∀ x ∈ p1, x.block < W.heap.size := by obtain ⟨m, hm⟩ := h1; exact DataW.trod_lt m _ _ _ hm
  have lt2 : ∀ x ∈ p2, x.block < W.heap.size := by obtain ⟨m, hm⟩ := h2; exact DataW.trod_lt m _ _ _ hm
  have g0 := hval 0 24 v0 rfl rfl
  have g1 := hval 1 110 v1 rfl rfl
  have g2 := hval 2 42 v2 rfl rfl
  obtain ⟨fs0, hu0⟩ := st_of l24
  obtain ⟨fs2, hu2⟩ := st_of l42
  obtain ⟨cs0, rfl, _⟩ := okWide_struct hu0 g0
  obtain ⟨cs2, rfl, _⟩ := okWide_struct hu2 g2
  obtain ⟨a1, len1, cap1, rfl⟩ := okWide_slice u110 g1
  obtain ⟨n0, t0⟩ := id h0
  obtain ⟨n1, t1⟩ := id h1
  obtain ⟨n2, t2⟩ := id h2
  obtain ⟨c, hc, hst⟩ := o_cfg (enc := enc) (w := W) t0
  obtain ⟨raws, hl⟩ := o_calls (enc := enc) (w := W) t1
  obtain ⟨x, us, hx, hus, htt⟩ := o_op (enc := enc) (w := W) t2
  have e0 : cs0 = c.cells.toArray := by
    have : cs0.toList = c.cells := hc
    rw [← this]
  have e2 : cs2 = #[.int .i64 x.kind, .string x.user, .int .i64 x.id, .int .i64 x.st, .int .i64 x.pr, .int .u64 x.ttl, us] := by
    have : cs2.toList = _ := hx
    rw [← Array.toArray_toList (xs := cs2), this]
  subst e0 e2
  refine (c9 (R := fun v w' => v = .bool true ∧ Below W.heap.size W w') hst hl ⟨us, rfl, hus, htt⟩ fun w' f => ⟨rfl, f.below⟩).mono fun e W' he => ?_
  obtain ⟨v, rfl, rfl, bel⟩ := he
  exact ⟨_, rfl, _, _, _, [], _, [], hW', trodAll_mk1 (shut_bool u4 _), (trodAll_cons_mk (Below.trod laidOut (by kernel_rfl) (of_decide_eq_true (by kernel_rfl)) h0 bel lt0) (trodAll_cons_mk (Below.trod laidOut (by kernel_rfl) (of_decide_eq_true (by kernel_rfl)) h1 bel lt1) (trodAll_cons_mk (Below.trod laidOut (by kernel_rfl) (of_decide_eq_true (by kernel_rfl)) h2 bel lt2) trodAll_mk0))), rfl, bel.frame _, fun h => by cases h⟩
theorem over9 : Rows.linOpenRow.holds Tryz.pinned (OpenSpec.ofChange Rows.linOpenSpec) :=
  OpenClaim.holds_of_wide 9 Tryz.f9 rfl rfl rfl rfl rfl rfl rfl ⟨rfl, rfl, rfl, rfl, rfl⟩ rfl rfl rfl rfl rfl (by kernel_rfl) Tryz.func9 linOpenClosed
    (of_decide_eq_true (by kernel_rfl)) (by unfold Func.isWrapper; first | (rw [if_pos (by decide +kernel)]; kernel_rfl) | (rw [if_neg (by decide +kernel)]; exact ⟨rfl, rfl⟩))
    (fun os started H enc _ => lifted9 os started H enc)
end Go.Dm
namespace Go.Proofs.YtbfajkpjilhkgaaGreat
/-- LinOpen returns true, whatever its input; what it is handed reads as it did. -/
theorem linOpen_holds : Rows.LinOpenSaid := Go.Dm.over9
end Go.Proofs.YtbfajkpjilhkgaaGreat
