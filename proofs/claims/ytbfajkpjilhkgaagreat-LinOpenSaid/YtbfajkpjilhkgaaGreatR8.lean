/- A part of the proof that doormanlaw21.LinOpen returns true for every input, on no condition. -/
import Derived.Test.YtbfajkpjilhkgaaGreatW0
import Derived.Test.YtbfajkpjilhkgaaGreatRows
import Derived.JoinedOf
set_option linter.unusedVariables false
set_option linter.unusedSimpArgs false
/-! The closed facts of a row. -/
namespace Go.Dm
open Go Go.Proofs Go.Proofs.YtbfajkpjilhkgaaGreat
theorem and_i {a b : Bool} (h1 : a = true) (h2 : b = true) : (a && b) = true := by rw [h1, h2]; rfl
theorem linOpenFact0 : (Rows.linOpenRow.wf (OpenSpec.ofChange Rows.linOpenSpec)) = true := by kernel_rfl
theorem linOpenFact1 : (laidOutB Tryz.prog) = true := by kernel_rfl
theorem linOpenFact2 : (mapsRowed Tryz.prog) = true := by kernel_rfl
theorem linOpenFact3 : (Tryz.f9.params.all (Tryz.prog.readableRec ·)) = true := by kernel_rfl
theorem linOpenFact4 : (namedTie Tryz.prog Rows.linOpenRow.named Rows.linOpenSpec.vars) = true := by kernel_rfl
theorem linOpenFact5 : ((Rows.linOpenRow.stops == [])) = true := by kernel_rfl
theorem linOpenFact6 : ((Tryz.prog.stops == [])) = true := by kernel_rfl
theorem linOpenFact7 : ((Rows.linOpenRow.knobs == [])) = true := by kernel_rfl
theorem linOpenFact8 : ((Tryz.prog.stopKnobs == [])) = true := by kernel_rfl
theorem linOpenFact9 : ((Rows.linOpenRow.inPlace == Tryz.prog.inPlace 9)) = true := by kernel_rfl
theorem linOpenFact10 : ((Rows.linOpenRow.unfollowed == Tryz.prog.unfollowed 9)) = true := by kernel_rfl
theorem linOpenFact11 : ((Rows.linOpenRow.recurses == Tryz.prog.recurses 9)) = true := by kernel_rfl
theorem linOpenFact12 : ((Rows.linOpenRow.named == Tryz.prog.varsNamed 9)) = true := by kernel_rfl
theorem linOpenFact13 : ((Rows.linOpenRow.maps == (Tryz.f9.params.toList ++ Rows.linOpenSpec.plain.varTypes Tryz.prog).any (Tryz.prog.mapsRec ·))) = true := by kernel_rfl
theorem linOpenFact14 : ((Rows.linOpenRow.ifaces == (Tryz.f9.params.toList ++ Rows.linOpenSpec.plain.varTypes Tryz.prog).any (Tryz.prog.ifacesRec ·))) = true := by kernel_rfl
theorem linOpenFact15 : ((Rows.linOpenRow.mapsOut == Tryz.prog.mapsAmong Tryz.f9.resultTypes.toList)) = true := by kernel_rfl
theorem linOpenFact16 : ((Rows.linOpenRow.loops == (Tryz.f9.params.toList ++ Rows.linOpenSpec.plain.varTypes Tryz.prog).any (Tryz.prog.loopsFrom ·))) = true := by kernel_rfl
theorem linOpenFact17 : ((Rows.linOpenRow.wideKeys == (Tryz.f9.params.toList ++ Rows.linOpenSpec.plain.varTypes Tryz.prog ++ Tryz.f9.resultTypes.toList).any (Tryz.prog.wideKeysFrom ·))) = true := by kernel_rfl
theorem linOpenFact18 : (Rows.linOpenSpec.vars.all (Tryz.prog.varReadable ·)) = true := by kernel_rfl
theorem linOpenFact19 : (Tryz.f9.resultTypes.all (fun t => Tryz.prog.readableRec t && decide (t < Tryz.prog.types.size))) = true := by kernel_rfl
theorem linOpenFact20 : ((Rows.linOpenRow.ifacesOut == Tryz.f9.resultTypes.toList.any (Tryz.prog.ifacesRec ·))) = true := by kernel_rfl
theorem linOpenFact21 : ((Rows.linOpenRow.loopsOut == Tryz.f9.resultTypes.toList.any (Tryz.prog.loopsFrom ·))) = true := by kernel_rfl
theorem linOpenFact22 : ((Rows.linOpenRow.plainKeys == Tryz.prog.plainKeys)) = true := by kernel_rfl
theorem linOpenFact23 : (Rows.linOpenRow.shortTexts.isNone) = true := by kernel_rfl
theorem linOpenFact24 : (Tryz.prog.stopsHeard) = true := by kernel_rfl
theorem linOpenFact25 : (Tryz.prog.mayEnter) = true := mayEnter0
theorem linOpenFact26 : ((Rows.linOpenRow.lifted == Tryz.prog.liftsFinal)) = true := by rw [liftsFinal0]; kernel_rfl
theorem linOpenFact27 : ((Tryz.prog.make == some Rows.linOpenRow.make)) = true := by rw [make0]; kernel_rfl
theorem linOpenFact28 : ((Rows.linOpenRow.kinds == (if Rows.linOpenRow.domain.isEmpty then [] else Tryz.f9.params.toList.map fun t => match Tryz.prog.underlying t with | some (.int k) => some k | _ => none))) = true := by kernel_rfl
theorem linOpenFact29 : ((Rows.linOpenRow.pinned == Rows.linOpenRow.pinnedBy)) = true := by kernel_rfl
theorem linOpenFact30 : ((Rows.linOpenRow.veiled == (Tryz.f9.params.toList ++ Rows.linOpenSpec.plain.varTypes Tryz.prog ++ Tryz.f9.resultTypes.toList).any (Tryz.prog.veiledRec ·))) = true := by kernel_rfl
theorem linOpenFact31 : (Rows.linOpenRow.veiledFits Tryz.prog Tryz.f9.params.toList (Tryz.f9.params.toList ++ Rows.linOpenSpec.plain.varTypes Tryz.prog ++ Tryz.f9.resultTypes.toList)) = true := by kernel_rfl
set_option maxRecDepth 100000 in
theorem linOpenClosed : joinedFacts Tryz.prog 9 Tryz.f9 Rows.linOpenSpec Rows.linOpenRow = true :=
  (and_i (and_i (and_i (and_i (and_i (and_i (and_i (and_i (and_i (and_i (and_i (and_i (and_i (and_i (and_i (and_i (and_i (and_i (and_i (and_i (and_i (and_i (and_i (and_i (and_i (and_i (and_i (and_i (and_i (and_i (and_i linOpenFact0 linOpenFact1) linOpenFact2) linOpenFact3) linOpenFact4) linOpenFact5) linOpenFact6) linOpenFact7) linOpenFact8) linOpenFact9) linOpenFact10) linOpenFact11) linOpenFact12) linOpenFact13) linOpenFact14) linOpenFact15) linOpenFact16) linOpenFact17) linOpenFact18) linOpenFact19) linOpenFact20) linOpenFact21) linOpenFact22) linOpenFact23) linOpenFact24) linOpenFact25) linOpenFact26) linOpenFact27) linOpenFact28) linOpenFact29) linOpenFact30) linOpenFact31)
end Go.Dm
