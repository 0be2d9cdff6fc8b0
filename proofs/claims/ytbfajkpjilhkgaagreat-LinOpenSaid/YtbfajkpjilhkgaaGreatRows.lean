/-
  No cell of these rows narrows 'for every input' (looked for: loops, veiled, ifaces, maps, wideKeys, modest, calm, conditions, laid).
  DERIVED. THE GIVEN ROWS OF THIS SEAT. 25 by the template 'for every input the law returns true; each argument reads behind the call as it read before'; 0 by the template 'total and deterministic' (their statements: YtbfajkpjilhkgaaGreatTotals.lean).
  GIVEN WITH THE SEED: the statements are not yours to turn. If you find one false, say at which input.
  Laid BY PROGRAM, IN A SANDBOX (cutbox-rows.mjs): the forced cells as the released guide's own fill.sh prints them over the translation 34ee1042a1205a33… (all of the seat's roots in one cut). By AI agents, Wed Nov 11 2026. No macro, syntax, notation, axiom, sorry.
-/
import Derived.Test.YtbfajkpjilhkgaaGreatChecked
import GoSem.Claim
import GoSem.ClaimJoined
import GoSem.ClaimMapViews
import Derived.JoinedTies
import Derived.KernelRfl
namespace Go.Proofs.YtbfajkpjilhkgaaGreat
/- THE CELL 'sum', in the pinned program and in every row, IS THE sha256 OF THE DUMP (.gsa) THAT YtbfajkpjilhkgaaGreatProg.lean LOADS. Nothing in Lean hashes anything: it is a label: what it is worth is what the hold of that sum in a sandbox is worth. -/
noncomputable def Tryz.pinned : Pinned := { name := "ytbfajkpjilhkgaagreat", sum := "34ee1042a1205a33a09a0c1332d4b01d328cdea5e01c6118e5fe7783af2a1a66", checked := Tryz.checked }
namespace Rows
def none {H : Type} : Left H := { results := [], args := [] }

/-- 'doormanlaw17.HeedTwice': WHATEVER THE INPUT: true; the input reads as it did. -/
def heedTwiceSpec : ChangeSpec := { name := "heedTwice", fn := fun _ => fun
  | [d] => { results := [.lit (.bool true)], args := [d] }
  | _ => none }
def heedTwiceRow : OpenClaim := { program := "ytbfajkpjilhkgaagreat", sum := "34ee1042a1205a33a09a0c1332d4b01d328cdea5e01c6118e5fe7783af2a1a66", func := "doorman/doormanlaw17.HeedTwice", spec := "heedTwice", inPlace := ["slices.overlaps[string]", "slices.overlaps[uint32]", "slices.overlaps[doorman/api.Session]", "slices.overlaps[doorman/book.Entry]"], unfollowed := true, recurses := true, apart := false }
def HeedTwiceSaid : Prop := heedTwiceRow.holds Tryz.pinned (OpenSpec.ofChange heedTwiceSpec)

/-- ITS FALSE NEIGHBOUR: 'it returns false'. Refute it at one input. -/
def heedTwiceWrong : ChangeSpec := { name := "heedTwice", fn := fun _ => fun
  | [d] => { results := [.lit (.bool false)], args := [d] }
  | _ => none }
def HeedTwiceWrongFalsely : Prop := heedTwiceRow.holds Tryz.pinned (OpenSpec.ofChange heedTwiceWrong)

/-- 'doormanlaw17.HeedPlays': WHATEVER THE INPUT: true; the input reads as it did. -/
def heedPlaysSpec : ChangeSpec := { name := "heedPlays", fn := fun _ => fun
  | [d1, d2] => { results := [.lit (.bool true)], args := [d1, d2] }
  | _ => none }
def heedPlaysRow : OpenClaim := { program := "ytbfajkpjilhkgaagreat", sum := "34ee1042a1205a33a09a0c1332d4b01d328cdea5e01c6118e5fe7783af2a1a66", func := "doorman/doormanlaw17.HeedPlays", spec := "heedPlays", inPlace := ["slices.overlaps[string]", "slices.overlaps[uint32]", "slices.overlaps[doorman/api.Session]", "slices.overlaps[doorman/book.Entry]"], unfollowed := true, recurses := true, apart := false }
def HeedPlaysSaid : Prop := heedPlaysRow.holds Tryz.pinned (OpenSpec.ofChange heedPlaysSpec)

/-- ITS FALSE NEIGHBOUR: 'it returns false'. Refute it at one input. -/
def heedPlaysWrong : ChangeSpec := { name := "heedPlays", fn := fun _ => fun
  | [d1, d2] => { results := [.lit (.bool false)], args := [d1, d2] }
  | _ => none }
def HeedPlaysWrongFalsely : Prop := heedPlaysRow.holds Tryz.pinned (OpenSpec.ofChange heedPlaysWrong)

/-- 'doormanlaw15.WriteAlone': WHATEVER THE INPUT: true; the input reads as it did. -/
def writeAloneSpec : ChangeSpec := { name := "writeAlone", fn := fun _ => fun
  | [d1, d2] => { results := [.lit (.bool true)], args := [d1, d2] }
  | _ => none }
def writeAloneRow : OpenClaim := { program := "ytbfajkpjilhkgaagreat", sum := "34ee1042a1205a33a09a0c1332d4b01d328cdea5e01c6118e5fe7783af2a1a66", func := "doorman/doormanlaw15.WriteAlone", spec := "writeAlone", inPlace := ["slices.overlaps[doorman/api.Session]", "slices.overlaps[string]", "slices.overlaps[doorman/book.Entry]", "slices.overlaps[uint32]"], unfollowed := true, recurses := true, apart := false }
def WriteAloneSaid : Prop := writeAloneRow.holds Tryz.pinned (OpenSpec.ofChange writeAloneSpec)

/-- ITS FALSE NEIGHBOUR: 'it returns false'. Refute it at one input. -/
def writeAloneWrong : ChangeSpec := { name := "writeAlone", fn := fun _ => fun
  | [d1, d2] => { results := [.lit (.bool false)], args := [d1, d2] }
  | _ => none }
def WriteAloneWrongFalsely : Prop := writeAloneRow.holds Tryz.pinned (OpenSpec.ofChange writeAloneWrong)

/-- 'doormanlaw18.SweepAlone': WHATEVER THE INPUT: true; the input reads as it did. -/
def sweepAloneSpec : ChangeSpec := { name := "sweepAlone", fn := fun _ => fun
  | [d1, d2, d3] => { results := [.lit (.bool true)], args := [d1, d2, d3] }
  | _ => none }
def sweepAloneRow : OpenClaim := { program := "ytbfajkpjilhkgaagreat", sum := "34ee1042a1205a33a09a0c1332d4b01d328cdea5e01c6118e5fe7783af2a1a66", func := "doorman/doormanlaw18.SweepAlone", spec := "sweepAlone", inPlace := ["slices.overlaps[string]", "slices.overlaps[doorman/book.Entry]", "slices.overlaps[doorman/api.Session]", "slices.overlaps[uint32]"], unfollowed := true, recurses := true, apart := false }
def SweepAloneSaid : Prop := sweepAloneRow.holds Tryz.pinned (OpenSpec.ofChange sweepAloneSpec)

/-- ITS FALSE NEIGHBOUR: 'it returns false'. Refute it at one input. -/
def sweepAloneWrong : ChangeSpec := { name := "sweepAlone", fn := fun _ => fun
  | [d1, d2, d3] => { results := [.lit (.bool false)], args := [d1, d2, d3] }
  | _ => none }
def SweepAloneWrongFalsely : Prop := sweepAloneRow.holds Tryz.pinned (OpenSpec.ofChange sweepAloneWrong)

/-- 'doormanlaw21.LinReplays': WHATEVER THE INPUT: true; the input reads as it did. -/
def linReplaysSpec : ChangeSpec := { name := "linReplays", fn := fun _ => fun
  | [d1, d2, d3] => { results := [.lit (.bool true)], args := [d1, d2, d3] }
  | _ => none }
def linReplaysRow : OpenClaim := { program := "ytbfajkpjilhkgaagreat", sum := "34ee1042a1205a33a09a0c1332d4b01d328cdea5e01c6118e5fe7783af2a1a66", func := "doorman/doormanlaw21.LinReplays", spec := "linReplays", inPlace := ["slices.overlaps[string]", "slices.overlaps[doorman/book.Entry]", "slices.overlaps[doorman/api.Session]", "slices.overlaps[uint32]"], unfollowed := true, recurses := true, apart := false }
def LinReplaysSaid : Prop := linReplaysRow.holds Tryz.pinned (OpenSpec.ofChange linReplaysSpec)

/-- ITS FALSE NEIGHBOUR: 'it returns false'. Refute it at one input. -/
def linReplaysWrong : ChangeSpec := { name := "linReplays", fn := fun _ => fun
  | [d1, d2, d3] => { results := [.lit (.bool false)], args := [d1, d2, d3] }
  | _ => none }
def LinReplaysWrongFalsely : Prop := linReplaysRow.holds Tryz.pinned (OpenSpec.ofChange linReplaysWrong)

/-- 'doormanlaw21.LinFinds': WHATEVER THE INPUT: true; the input reads as it did. -/
def linFindsSpec : ChangeSpec := { name := "linFinds", fn := fun _ => fun
  | [d1, d2] => { results := [.lit (.bool true)], args := [d1, d2] }
  | _ => none }
def linFindsRow : OpenClaim := { program := "ytbfajkpjilhkgaagreat", sum := "34ee1042a1205a33a09a0c1332d4b01d328cdea5e01c6118e5fe7783af2a1a66", func := "doorman/doormanlaw21.LinFinds", spec := "linFinds", inPlace := ["slices.overlaps[string]", "slices.overlaps[doorman/book.Entry]", "slices.overlaps[doorman/api.Session]", "slices.overlaps[uint32]"], unfollowed := true, recurses := true, apart := false }
def LinFindsSaid : Prop := linFindsRow.holds Tryz.pinned (OpenSpec.ofChange linFindsSpec)

/-- ITS FALSE NEIGHBOUR: 'it returns false'. Refute it at one input. -/
def linFindsWrong : ChangeSpec := { name := "linFinds", fn := fun _ => fun
  | [d1, d2] => { results := [.lit (.bool false)], args := [d1, d2] }
  | _ => none }
def LinFindsWrongFalsely : Prop := linFindsRow.holds Tryz.pinned (OpenSpec.ofChange linFindsWrong)

/-- 'doormanlaw21.LinOpen': WHATEVER THE INPUT: true; the input reads as it did. -/
def linOpenSpec : ChangeSpec := { name := "linOpen", fn := fun _ => fun
  | [d1, d2, d3] => { results := [.lit (.bool true)], args := [d1, d2, d3] }
  | _ => none }
def linOpenRow : OpenClaim := { program := "ytbfajkpjilhkgaagreat", sum := "34ee1042a1205a33a09a0c1332d4b01d328cdea5e01c6118e5fe7783af2a1a66", func := "doorman/doormanlaw21.LinOpen", spec := "linOpen", inPlace := ["slices.overlaps[string]", "slices.overlaps[doorman/book.Entry]", "slices.overlaps[doorman/api.Session]", "slices.overlaps[uint32]"], unfollowed := true, recurses := true, apart := false }
def LinOpenSaid : Prop := linOpenRow.holds Tryz.pinned (OpenSpec.ofChange linOpenSpec)

/-- ITS FALSE NEIGHBOUR: 'it returns false'. Refute it at one input. -/
def linOpenWrong : ChangeSpec := { name := "linOpen", fn := fun _ => fun
  | [d1, d2, d3] => { results := [.lit (.bool false)], args := [d1, d2, d3] }
  | _ => none }
def LinOpenWrongFalsely : Prop := linOpenRow.holds Tryz.pinned (OpenSpec.ofChange linOpenWrong)

/-- 'doormanlaw17.HeedTrue': WHATEVER THE INPUT: true; the input reads as it did. -/
def heedTrueSpec : ChangeSpec := { name := "heedTrue", fn := fun _ => fun
  | [d] => { results := [.lit (.bool true)], args := [d] }
  | _ => none }
def heedTrueRow : OpenClaim := { program := "ytbfajkpjilhkgaagreat", sum := "34ee1042a1205a33a09a0c1332d4b01d328cdea5e01c6118e5fe7783af2a1a66", func := "doorman/doormanlaw17.HeedTrue", spec := "heedTrue", inPlace := ["slices.overlaps[string]", "slices.overlaps[uint32]", "slices.overlaps[doorman/api.Session]", "slices.overlaps[doorman/book.Entry]"], unfollowed := true, recurses := true, apart := false }
def HeedTrueSaid : Prop := heedTrueRow.holds Tryz.pinned (OpenSpec.ofChange heedTrueSpec)

/-- ITS FALSE NEIGHBOUR: 'it returns false'. Refute it at one input. -/
def heedTrueWrong : ChangeSpec := { name := "heedTrue", fn := fun _ => fun
  | [d] => { results := [.lit (.bool false)], args := [d] }
  | _ => none }
def HeedTrueWrongFalsely : Prop := heedTrueRow.holds Tryz.pinned (OpenSpec.ofChange heedTrueWrong)

/-- 'doormanlaw17.HeedAlone': WHATEVER THE INPUT: true; the input reads as it did. -/
def heedAloneSpec : ChangeSpec := { name := "heedAlone", fn := fun _ => fun
  | [d] => { results := [.lit (.bool true)], args := [d] }
  | _ => none }
def heedAloneRow : OpenClaim := { program := "ytbfajkpjilhkgaagreat", sum := "34ee1042a1205a33a09a0c1332d4b01d328cdea5e01c6118e5fe7783af2a1a66", func := "doorman/doormanlaw17.HeedAlone", spec := "heedAlone", inPlace := ["slices.overlaps[string]", "slices.overlaps[uint32]", "slices.overlaps[doorman/api.Session]", "slices.overlaps[doorman/book.Entry]"], unfollowed := true, recurses := true, apart := false }
def HeedAloneSaid : Prop := heedAloneRow.holds Tryz.pinned (OpenSpec.ofChange heedAloneSpec)

/-- ITS FALSE NEIGHBOUR: 'it returns false'. Refute it at one input. -/
def heedAloneWrong : ChangeSpec := { name := "heedAlone", fn := fun _ => fun
  | [d] => { results := [.lit (.bool false)], args := [d] }
  | _ => none }
def HeedAloneWrongFalsely : Prop := heedAloneRow.holds Tryz.pinned (OpenSpec.ofChange heedAloneWrong)

/-- 'doormanlaw16.ReadTrue': WHATEVER THE INPUT: true; the input reads as it did. -/
def readTrueSpec : ChangeSpec := { name := "readTrue", fn := fun _ => fun
  | [d] => { results := [.lit (.bool true)], args := [d] }
  | _ => none }
def readTrueRow : OpenClaim := { program := "ytbfajkpjilhkgaagreat", sum := "34ee1042a1205a33a09a0c1332d4b01d328cdea5e01c6118e5fe7783af2a1a66", func := "doorman/doormanlaw16.ReadTrue", spec := "readTrue", inPlace := ["slices.overlaps[doorman/api.Session]", "slices.overlaps[string]", "slices.overlaps[doorman/book.Entry]", "slices.overlaps[uint32]"], unfollowed := true, recurses := true, apart := false }
def ReadTrueSaid : Prop := readTrueRow.holds Tryz.pinned (OpenSpec.ofChange readTrueSpec)

/-- ITS FALSE NEIGHBOUR: 'it returns false'. Refute it at one input. -/
def readTrueWrong : ChangeSpec := { name := "readTrue", fn := fun _ => fun
  | [d] => { results := [.lit (.bool false)], args := [d] }
  | _ => none }
def ReadTrueWrongFalsely : Prop := readTrueRow.holds Tryz.pinned (OpenSpec.ofChange readTrueWrong)

/-- 'doormanlaw19.RunMoves': WHATEVER THE INPUT: true; the input reads as it did. -/
def runMovesSpec : ChangeSpec := { name := "runMoves", fn := fun _ => fun
  | [d1, d2] => { results := [.lit (.bool true)], args := [d1, d2] }
  | _ => none }
def runMovesRow : OpenClaim := { program := "ytbfajkpjilhkgaagreat", sum := "34ee1042a1205a33a09a0c1332d4b01d328cdea5e01c6118e5fe7783af2a1a66", func := "doorman/doormanlaw19.RunMoves", spec := "runMoves", inPlace := ["slices.overlaps[string]", "slices.overlaps[doorman/book.Entry]", "slices.overlaps[doorman/api.Session]", "slices.overlaps[uint32]"], unfollowed := true, recurses := true, apart := false }
def RunMovesSaid : Prop := runMovesRow.holds Tryz.pinned (OpenSpec.ofChange runMovesSpec)

/-- ITS FALSE NEIGHBOUR: 'it returns false'. Refute it at one input. -/
def runMovesWrong : ChangeSpec := { name := "runMoves", fn := fun _ => fun
  | [d1, d2] => { results := [.lit (.bool false)], args := [d1, d2] }
  | _ => none }
def RunMovesWrongFalsely : Prop := runMovesRow.holds Tryz.pinned (OpenSpec.ofChange runMovesWrong)

/-- 'doormanlaw19.RunOrder': WHATEVER THE INPUT: true; the input reads as it did. -/
def runOrderSpec : ChangeSpec := { name := "runOrder", fn := fun _ => fun
  | [d] => { results := [.lit (.bool true)], args := [d] }
  | _ => none }
def runOrderRow : OpenClaim := { program := "ytbfajkpjilhkgaagreat", sum := "34ee1042a1205a33a09a0c1332d4b01d328cdea5e01c6118e5fe7783af2a1a66", func := "doorman/doormanlaw19.RunOrder", spec := "runOrder", inPlace := ["slices.overlaps[string]", "slices.overlaps[doorman/book.Entry]", "slices.overlaps[doorman/api.Session]", "slices.overlaps[uint32]"], unfollowed := true, recurses := true, apart := false }
def RunOrderSaid : Prop := runOrderRow.holds Tryz.pinned (OpenSpec.ofChange runOrderSpec)

/-- ITS FALSE NEIGHBOUR: 'it returns false'. Refute it at one input. -/
def runOrderWrong : ChangeSpec := { name := "runOrder", fn := fun _ => fun
  | [d] => { results := [.lit (.bool false)], args := [d] }
  | _ => none }
def RunOrderWrongFalsely : Prop := runOrderRow.holds Tryz.pinned (OpenSpec.ofChange runOrderWrong)

/-- 'doormanlaw19.RunFront': WHATEVER THE INPUT: true; the input reads as it did. -/
def runFrontSpec : ChangeSpec := { name := "runFront", fn := fun _ => fun
  | [d1, d2] => { results := [.lit (.bool true)], args := [d1, d2] }
  | _ => none }
def runFrontRow : OpenClaim := { program := "ytbfajkpjilhkgaagreat", sum := "34ee1042a1205a33a09a0c1332d4b01d328cdea5e01c6118e5fe7783af2a1a66", func := "doorman/doormanlaw19.RunFront", spec := "runFront", inPlace := ["slices.overlaps[string]", "slices.overlaps[doorman/book.Entry]", "slices.overlaps[doorman/api.Session]", "slices.overlaps[uint32]"], unfollowed := true, recurses := true, apart := false }
def RunFrontSaid : Prop := runFrontRow.holds Tryz.pinned (OpenSpec.ofChange runFrontSpec)

/-- ITS FALSE NEIGHBOUR: 'it returns false'. Refute it at one input. -/
def runFrontWrong : ChangeSpec := { name := "runFront", fn := fun _ => fun
  | [d1, d2] => { results := [.lit (.bool false)], args := [d1, d2] }
  | _ => none }
def RunFrontWrongFalsely : Prop := runFrontRow.holds Tryz.pinned (OpenSpec.ofChange runFrontWrong)

/-- 'doormanlaw19.RunCopies': WHATEVER THE INPUT: true; the input reads as it did. -/
def runCopiesSpec : ChangeSpec := { name := "runCopies", fn := fun _ => fun
  | [d] => { results := [.lit (.bool true)], args := [d] }
  | _ => none }
def runCopiesRow : OpenClaim := { program := "ytbfajkpjilhkgaagreat", sum := "34ee1042a1205a33a09a0c1332d4b01d328cdea5e01c6118e5fe7783af2a1a66", func := "doorman/doormanlaw19.RunCopies", spec := "runCopies", inPlace := ["slices.overlaps[string]", "slices.overlaps[doorman/book.Entry]", "slices.overlaps[doorman/api.Session]", "slices.overlaps[uint32]"], unfollowed := true, recurses := true, apart := false }
def RunCopiesSaid : Prop := runCopiesRow.holds Tryz.pinned (OpenSpec.ofChange runCopiesSpec)

/-- ITS FALSE NEIGHBOUR: 'it returns false'. Refute it at one input. -/
def runCopiesWrong : ChangeSpec := { name := "runCopies", fn := fun _ => fun
  | [d] => { results := [.lit (.bool false)], args := [d] }
  | _ => none }
def RunCopiesWrongFalsely : Prop := runCopiesRow.holds Tryz.pinned (OpenSpec.ofChange runCopiesWrong)

/-- 'doormanlaw19.RunTimes': WHATEVER THE INPUT: true; the input reads as it did. -/
def runTimesSpec : ChangeSpec := { name := "runTimes", fn := fun _ => fun
  | [d] => { results := [.lit (.bool true)], args := [d] }
  | _ => none }
def runTimesRow : OpenClaim := { program := "ytbfajkpjilhkgaagreat", sum := "34ee1042a1205a33a09a0c1332d4b01d328cdea5e01c6118e5fe7783af2a1a66", func := "doorman/doormanlaw19.RunTimes", spec := "runTimes", inPlace := ["slices.overlaps[string]", "slices.overlaps[doorman/book.Entry]", "slices.overlaps[doorman/api.Session]", "slices.overlaps[uint32]"], unfollowed := true, recurses := true, apart := false }
def RunTimesSaid : Prop := runTimesRow.holds Tryz.pinned (OpenSpec.ofChange runTimesSpec)

/-- ITS FALSE NEIGHBOUR: 'it returns false'. Refute it at one input. -/
def runTimesWrong : ChangeSpec := { name := "runTimes", fn := fun _ => fun
  | [d] => { results := [.lit (.bool false)], args := [d] }
  | _ => none }
def RunTimesWrongFalsely : Prop := runTimesRow.holds Tryz.pinned (OpenSpec.ofChange runTimesWrong)

/-- 'doormanlaw23.FairEnds': WHATEVER THE INPUT: true; the input reads as it did. -/
def fairEndsSpec : ChangeSpec := { name := "fairEnds", fn := fun _ => fun
  | [d1, d2] => { results := [.lit (.bool true)], args := [d1, d2] }
  | _ => none }
def fairEndsRow : OpenClaim := { program := "ytbfajkpjilhkgaagreat", sum := "34ee1042a1205a33a09a0c1332d4b01d328cdea5e01c6118e5fe7783af2a1a66", func := "doorman/doormanlaw23.FairEnds", spec := "fairEnds", inPlace := ["slices.overlaps[string]", "slices.overlaps[doorman/book.Entry]", "slices.overlaps[doorman/api.Session]", "slices.overlaps[uint32]"], unfollowed := true, recurses := true, apart := false }
def FairEndsSaid : Prop := fairEndsRow.holds Tryz.pinned (OpenSpec.ofChange fairEndsSpec)

/-- ITS FALSE NEIGHBOUR: 'it returns false'. Refute it at one input. -/
def fairEndsWrong : ChangeSpec := { name := "fairEnds", fn := fun _ => fun
  | [d1, d2] => { results := [.lit (.bool false)], args := [d1, d2] }
  | _ => none }
def FairEndsWrongFalsely : Prop := fairEndsRow.holds Tryz.pinned (OpenSpec.ofChange fairEndsWrong)

/-- 'doormanlaw23.FairWork': WHATEVER THE INPUT: true; the input reads as it did. -/
def fairWorkSpec : ChangeSpec := { name := "fairWork", fn := fun _ => fun
  | [d] => { results := [.lit (.bool true)], args := [d] }
  | _ => none }
def fairWorkRow : OpenClaim := { program := "ytbfajkpjilhkgaagreat", sum := "34ee1042a1205a33a09a0c1332d4b01d328cdea5e01c6118e5fe7783af2a1a66", func := "doorman/doormanlaw23.FairWork", spec := "fairWork", inPlace := ["slices.overlaps[string]", "slices.overlaps[doorman/book.Entry]", "slices.overlaps[doorman/api.Session]", "slices.overlaps[uint32]"], unfollowed := true, recurses := true, apart := false }
def FairWorkSaid : Prop := fairWorkRow.holds Tryz.pinned (OpenSpec.ofChange fairWorkSpec)

/-- ITS FALSE NEIGHBOUR: 'it returns false'. Refute it at one input. -/
def fairWorkWrong : ChangeSpec := { name := "fairWork", fn := fun _ => fun
  | [d] => { results := [.lit (.bool false)], args := [d] }
  | _ => none }
def FairWorkWrongFalsely : Prop := fairWorkRow.holds Tryz.pinned (OpenSpec.ofChange fairWorkWrong)

/-- 'doormanlaw19.RunIdle': WHATEVER THE INPUT: true; the input reads as it did. -/
def runIdleSpec : ChangeSpec := { name := "runIdle", fn := fun _ => fun
  | [d1, d2] => { results := [.lit (.bool true)], args := [d1, d2] }
  | _ => none }
def runIdleRow : OpenClaim := { program := "ytbfajkpjilhkgaagreat", sum := "34ee1042a1205a33a09a0c1332d4b01d328cdea5e01c6118e5fe7783af2a1a66", func := "doorman/doormanlaw19.RunIdle", spec := "runIdle", inPlace := ["slices.overlaps[string]", "slices.overlaps[doorman/book.Entry]", "slices.overlaps[doorman/api.Session]", "slices.overlaps[uint32]"], unfollowed := true, recurses := true, apart := false }
def RunIdleSaid : Prop := runIdleRow.holds Tryz.pinned (OpenSpec.ofChange runIdleSpec)

/-- ITS FALSE NEIGHBOUR: 'it returns false'. Refute it at one input. -/
def runIdleWrong : ChangeSpec := { name := "runIdle", fn := fun _ => fun
  | [d1, d2] => { results := [.lit (.bool false)], args := [d1, d2] }
  | _ => none }
def RunIdleWrongFalsely : Prop := runIdleRow.holds Tryz.pinned (OpenSpec.ofChange runIdleWrong)

/-- 'doormanlaw19.RunPlays': WHATEVER THE INPUT: true; the input reads as it did. -/
def runPlaysSpec : ChangeSpec := { name := "runPlays", fn := fun _ => fun
  | [d] => { results := [.lit (.bool true)], args := [d] }
  | _ => none }
def runPlaysRow : OpenClaim := { program := "ytbfajkpjilhkgaagreat", sum := "34ee1042a1205a33a09a0c1332d4b01d328cdea5e01c6118e5fe7783af2a1a66", func := "doorman/doormanlaw19.RunPlays", spec := "runPlays", inPlace := ["slices.overlaps[string]", "slices.overlaps[doorman/book.Entry]", "slices.overlaps[doorman/api.Session]", "slices.overlaps[uint32]"], unfollowed := true, recurses := true, apart := false }
def RunPlaysSaid : Prop := runPlaysRow.holds Tryz.pinned (OpenSpec.ofChange runPlaysSpec)

/-- ITS FALSE NEIGHBOUR: 'it returns false'. Refute it at one input. -/
def runPlaysWrong : ChangeSpec := { name := "runPlays", fn := fun _ => fun
  | [d] => { results := [.lit (.bool false)], args := [d] }
  | _ => none }
def RunPlaysWrongFalsely : Prop := runPlaysRow.holds Tryz.pinned (OpenSpec.ofChange runPlaysWrong)

/-- 'doormanlaw22.RaceNone': WHATEVER THE INPUT: true; the input reads as it did. -/
def raceNoneSpec : ChangeSpec := { name := "raceNone", fn := fun _ => fun
  | [d] => { results := [.lit (.bool true)], args := [d] }
  | _ => none }
def raceNoneRow : OpenClaim := { program := "ytbfajkpjilhkgaagreat", sum := "34ee1042a1205a33a09a0c1332d4b01d328cdea5e01c6118e5fe7783af2a1a66", func := "doorman/doormanlaw22.RaceNone", spec := "raceNone", inPlace := ["slices.overlaps[string]", "slices.overlaps[doorman/book.Entry]", "slices.overlaps[doorman/api.Session]", "slices.overlaps[uint32]"], unfollowed := true, recurses := true, apart := false }
def RaceNoneSaid : Prop := raceNoneRow.holds Tryz.pinned (OpenSpec.ofChange raceNoneSpec)

/-- ITS FALSE NEIGHBOUR: 'it returns false'. Refute it at one input. -/
def raceNoneWrong : ChangeSpec := { name := "raceNone", fn := fun _ => fun
  | [d] => { results := [.lit (.bool false)], args := [d] }
  | _ => none }
def RaceNoneWrongFalsely : Prop := raceNoneRow.holds Tryz.pinned (OpenSpec.ofChange raceNoneWrong)

/-- 'doormanlaw20.HistRuns': WHATEVER THE INPUT: true; the input reads as it did. -/
def histRunsSpec : ChangeSpec := { name := "histRuns", fn := fun _ => fun
  | [d] => { results := [.lit (.bool true)], args := [d] }
  | _ => none }
def histRunsRow : OpenClaim := { program := "ytbfajkpjilhkgaagreat", sum := "34ee1042a1205a33a09a0c1332d4b01d328cdea5e01c6118e5fe7783af2a1a66", func := "doorman/doormanlaw20.HistRuns", spec := "histRuns", inPlace := ["slices.overlaps[string]", "slices.overlaps[doorman/book.Entry]", "slices.overlaps[doorman/api.Session]", "slices.overlaps[uint32]"], unfollowed := true, recurses := true, apart := false }
def HistRunsSaid : Prop := histRunsRow.holds Tryz.pinned (OpenSpec.ofChange histRunsSpec)

/-- ITS FALSE NEIGHBOUR: 'it returns false'. Refute it at one input. -/
def histRunsWrong : ChangeSpec := { name := "histRuns", fn := fun _ => fun
  | [d] => { results := [.lit (.bool false)], args := [d] }
  | _ => none }
def HistRunsWrongFalsely : Prop := histRunsRow.holds Tryz.pinned (OpenSpec.ofChange histRunsWrong)

/-- 'doormanlaw21.LinRuns': WHATEVER THE INPUT: true; the input reads as it did. -/
def linRunsSpec : ChangeSpec := { name := "linRuns", fn := fun _ => fun
  | [d] => { results := [.lit (.bool true)], args := [d] }
  | _ => none }
def linRunsRow : OpenClaim := { program := "ytbfajkpjilhkgaagreat", sum := "34ee1042a1205a33a09a0c1332d4b01d328cdea5e01c6118e5fe7783af2a1a66", func := "doorman/doormanlaw21.LinRuns", spec := "linRuns", inPlace := ["slices.overlaps[string]", "slices.overlaps[doorman/book.Entry]", "slices.overlaps[doorman/api.Session]", "slices.overlaps[uint32]"], unfollowed := true, recurses := true, apart := false }
def LinRunsSaid : Prop := linRunsRow.holds Tryz.pinned (OpenSpec.ofChange linRunsSpec)

/-- ITS FALSE NEIGHBOUR: 'it returns false'. Refute it at one input. -/
def linRunsWrong : ChangeSpec := { name := "linRuns", fn := fun _ => fun
  | [d] => { results := [.lit (.bool false)], args := [d] }
  | _ => none }
def LinRunsWrongFalsely : Prop := linRunsRow.holds Tryz.pinned (OpenSpec.ofChange linRunsWrong)

/-- 'doormanlaw21.LinFew': WHATEVER THE INPUT: true; the input reads as it did. -/
def linFewSpec : ChangeSpec := { name := "linFew", fn := fun _ => fun
  | [d] => { results := [.lit (.bool true)], args := [d] }
  | _ => none }
def linFewRow : OpenClaim := { program := "ytbfajkpjilhkgaagreat", sum := "34ee1042a1205a33a09a0c1332d4b01d328cdea5e01c6118e5fe7783af2a1a66", func := "doorman/doormanlaw21.LinFew", spec := "linFew", inPlace := ["slices.overlaps[string]", "slices.overlaps[doorman/book.Entry]", "slices.overlaps[doorman/api.Session]", "slices.overlaps[uint32]"], unfollowed := true, recurses := true, apart := false }
def LinFewSaid : Prop := linFewRow.holds Tryz.pinned (OpenSpec.ofChange linFewSpec)

/-- ITS FALSE NEIGHBOUR: 'it returns false'. Refute it at one input. -/
def linFewWrong : ChangeSpec := { name := "linFew", fn := fun _ => fun
  | [d] => { results := [.lit (.bool false)], args := [d] }
  | _ => none }
def LinFewWrongFalsely : Prop := linFewRow.holds Tryz.pinned (OpenSpec.ofChange linFewWrong)

/-- 'doormanlaw21.LinSpoilt': WHATEVER THE INPUT: true; the input reads as it did. -/
def linSpoiltSpec : ChangeSpec := { name := "linSpoilt", fn := fun _ => fun
  | [d1, d2] => { results := [.lit (.bool true)], args := [d1, d2] }
  | _ => none }
def linSpoiltRow : OpenClaim := { program := "ytbfajkpjilhkgaagreat", sum := "34ee1042a1205a33a09a0c1332d4b01d328cdea5e01c6118e5fe7783af2a1a66", func := "doorman/doormanlaw21.LinSpoilt", spec := "linSpoilt", inPlace := ["slices.overlaps[string]", "slices.overlaps[doorman/book.Entry]", "slices.overlaps[doorman/api.Session]", "slices.overlaps[uint32]"], unfollowed := true, recurses := true, apart := false }
def LinSpoiltSaid : Prop := linSpoiltRow.holds Tryz.pinned (OpenSpec.ofChange linSpoiltSpec)

/-- ITS FALSE NEIGHBOUR: 'it returns false'. Refute it at one input. -/
def linSpoiltWrong : ChangeSpec := { name := "linSpoilt", fn := fun _ => fun
  | [d1, d2] => { results := [.lit (.bool false)], args := [d1, d2] }
  | _ => none }
def LinSpoiltWrongFalsely : Prop := linSpoiltRow.holds Tryz.pinned (OpenSpec.ofChange linSpoiltWrong)

/-- 'doormantop.TopSpent': WHATEVER THE INPUT: true; the input reads as it did. -/
def topSpentSpec : ChangeSpec := { name := "topSpent", fn := fun _ => fun
  | [d1, d2] => { results := [.lit (.bool true)], args := [d1, d2] }
  | _ => none }
def topSpentRow : OpenClaim := { program := "ytbfajkpjilhkgaagreat", sum := "34ee1042a1205a33a09a0c1332d4b01d328cdea5e01c6118e5fe7783af2a1a66", func := "doorman/doormantop.TopSpent", spec := "topSpent", inPlace := ["slices.overlaps[string]", "slices.overlaps[doorman/book.Entry]", "slices.overlaps[doorman/api.Session]", "slices.overlaps[uint32]"], unfollowed := true, recurses := true, apart := false }
def TopSpentSaid : Prop := topSpentRow.holds Tryz.pinned (OpenSpec.ofChange topSpentSpec)

/-- ITS FALSE NEIGHBOUR: 'it returns false'. Refute it at one input. -/
def topSpentWrong : ChangeSpec := { name := "topSpent", fn := fun _ => fun
  | [d1, d2] => { results := [.lit (.bool false)], args := [d1, d2] }
  | _ => none }
def TopSpentWrongFalsely : Prop := topSpentRow.holds Tryz.pinned (OpenSpec.ofChange topSpentWrong)

/- THE SECOND FORM. 'bulk': how many values and letters a reading holds, each counted each time it is reached (what is shared counts as often as it is met; a slice's spare places count too). A statement '..UptoSaid' is the law's where the arguments, and the package variables that the reading takes, are together of bulk at most 1048576: NARROWER than '..Said'. Prove '..Said' where nothing that the law and all that it calls make is longer than what came in: it says more and counts as full. Else prove '..UptoSaid'. A law counts once. -/
mutual
def uptoBulk {H : Type} : DataW H → Nat
  | .lit (.string bytes) => bytes.length + 1
  | .lit _ => 1
  | .nil => 1
  | .ptr d => uptoBulk d + 1
  | .slice elems spare => uptoBulkAll elems + uptoBulkAll spare + 1
  | .agg parts => uptoBulkAll parts + 1
  | .iface _ d => uptoBulk d + 1
  | .map entries => uptoBulkEntries entries + 1
  | .held _ => 1
def uptoBulkAll {H : Type} : List (DataW H) → Nat
  | [] => 0
  | d :: r => uptoBulk d + uptoBulkAll r
def uptoBulkEntries {H : Type} : List (Lit × DataW H) → Nat
  | [] => 0
  | x :: r => uptoBulkEntry x + uptoBulkEntries r
def uptoBulkEntry {H : Type} : Lit × DataW H → Nat
  | (.string bytes, d) => bytes.length + uptoBulk d + 1
  | (_, d) => uptoBulk d + 1
 end
def uptoSmall : (H : Type) → List (DataW H) → Bool := fun _ ds => decide (uptoBulkAll ds ≤ 1048576)
def OpenSpec.upto (s : _root_.Go.ChangeSpec) : _root_.Go.OpenSpec := { _root_.Go.OpenSpec.ofChange s with cond := some uptoSmall }

/-- 'doormanlaw17.HeedTwice', WHERE WHAT IT READS IS OF BULK AT MOST 1048576: true; the input reads as it did. -/
def heedTwiceUptoRow : OpenClaim := { program := "ytbfajkpjilhkgaagreat", sum := "34ee1042a1205a33a09a0c1332d4b01d328cdea5e01c6118e5fe7783af2a1a66", func := "doorman/doormanlaw17.HeedTwice", spec := "heedTwice", inPlace := ["slices.overlaps[string]", "slices.overlaps[uint32]", "slices.overlaps[doorman/api.Session]", "slices.overlaps[doorman/book.Entry]"], unfollowed := true, recurses := true, apart := false, narrowed := true }
def HeedTwiceUptoSaid : Prop := heedTwiceUptoRow.holds Tryz.pinned (OpenSpec.upto heedTwiceSpec)

/-- 'doormanlaw17.HeedPlays', WHERE WHAT IT READS IS OF BULK AT MOST 1048576: true; the input reads as it did. -/
def heedPlaysUptoRow : OpenClaim := { program := "ytbfajkpjilhkgaagreat", sum := "34ee1042a1205a33a09a0c1332d4b01d328cdea5e01c6118e5fe7783af2a1a66", func := "doorman/doormanlaw17.HeedPlays", spec := "heedPlays", inPlace := ["slices.overlaps[string]", "slices.overlaps[uint32]", "slices.overlaps[doorman/api.Session]", "slices.overlaps[doorman/book.Entry]"], unfollowed := true, recurses := true, apart := false, narrowed := true }
def HeedPlaysUptoSaid : Prop := heedPlaysUptoRow.holds Tryz.pinned (OpenSpec.upto heedPlaysSpec)

/-- 'doormanlaw15.WriteAlone', WHERE WHAT IT READS IS OF BULK AT MOST 1048576: true; the input reads as it did. -/
def writeAloneUptoRow : OpenClaim := { program := "ytbfajkpjilhkgaagreat", sum := "34ee1042a1205a33a09a0c1332d4b01d328cdea5e01c6118e5fe7783af2a1a66", func := "doorman/doormanlaw15.WriteAlone", spec := "writeAlone", inPlace := ["slices.overlaps[doorman/api.Session]", "slices.overlaps[string]", "slices.overlaps[doorman/book.Entry]", "slices.overlaps[uint32]"], unfollowed := true, recurses := true, apart := false, narrowed := true }
def WriteAloneUptoSaid : Prop := writeAloneUptoRow.holds Tryz.pinned (OpenSpec.upto writeAloneSpec)

/-- 'doormanlaw18.SweepAlone', WHERE WHAT IT READS IS OF BULK AT MOST 1048576: true; the input reads as it did. -/
def sweepAloneUptoRow : OpenClaim := { program := "ytbfajkpjilhkgaagreat", sum := "34ee1042a1205a33a09a0c1332d4b01d328cdea5e01c6118e5fe7783af2a1a66", func := "doorman/doormanlaw18.SweepAlone", spec := "sweepAlone", inPlace := ["slices.overlaps[string]", "slices.overlaps[doorman/book.Entry]", "slices.overlaps[doorman/api.Session]", "slices.overlaps[uint32]"], unfollowed := true, recurses := true, apart := false, narrowed := true }
def SweepAloneUptoSaid : Prop := sweepAloneUptoRow.holds Tryz.pinned (OpenSpec.upto sweepAloneSpec)

/-- 'doormanlaw21.LinReplays', WHERE WHAT IT READS IS OF BULK AT MOST 1048576: true; the input reads as it did. -/
def linReplaysUptoRow : OpenClaim := { program := "ytbfajkpjilhkgaagreat", sum := "34ee1042a1205a33a09a0c1332d4b01d328cdea5e01c6118e5fe7783af2a1a66", func := "doorman/doormanlaw21.LinReplays", spec := "linReplays", inPlace := ["slices.overlaps[string]", "slices.overlaps[doorman/book.Entry]", "slices.overlaps[doorman/api.Session]", "slices.overlaps[uint32]"], unfollowed := true, recurses := true, apart := false, narrowed := true }
def LinReplaysUptoSaid : Prop := linReplaysUptoRow.holds Tryz.pinned (OpenSpec.upto linReplaysSpec)

/-- 'doormanlaw21.LinFinds', WHERE WHAT IT READS IS OF BULK AT MOST 1048576: true; the input reads as it did. -/
def linFindsUptoRow : OpenClaim := { program := "ytbfajkpjilhkgaagreat", sum := "34ee1042a1205a33a09a0c1332d4b01d328cdea5e01c6118e5fe7783af2a1a66", func := "doorman/doormanlaw21.LinFinds", spec := "linFinds", inPlace := ["slices.overlaps[string]", "slices.overlaps[doorman/book.Entry]", "slices.overlaps[doorman/api.Session]", "slices.overlaps[uint32]"], unfollowed := true, recurses := true, apart := false, narrowed := true }
def LinFindsUptoSaid : Prop := linFindsUptoRow.holds Tryz.pinned (OpenSpec.upto linFindsSpec)

/-- 'doormanlaw21.LinOpen', WHERE WHAT IT READS IS OF BULK AT MOST 1048576: true; the input reads as it did. -/
def linOpenUptoRow : OpenClaim := { program := "ytbfajkpjilhkgaagreat", sum := "34ee1042a1205a33a09a0c1332d4b01d328cdea5e01c6118e5fe7783af2a1a66", func := "doorman/doormanlaw21.LinOpen", spec := "linOpen", inPlace := ["slices.overlaps[string]", "slices.overlaps[doorman/book.Entry]", "slices.overlaps[doorman/api.Session]", "slices.overlaps[uint32]"], unfollowed := true, recurses := true, apart := false, narrowed := true }
def LinOpenUptoSaid : Prop := linOpenUptoRow.holds Tryz.pinned (OpenSpec.upto linOpenSpec)

/-- 'doormanlaw17.HeedTrue', WHERE WHAT IT READS IS OF BULK AT MOST 1048576: true; the input reads as it did. -/
def heedTrueUptoRow : OpenClaim := { program := "ytbfajkpjilhkgaagreat", sum := "34ee1042a1205a33a09a0c1332d4b01d328cdea5e01c6118e5fe7783af2a1a66", func := "doorman/doormanlaw17.HeedTrue", spec := "heedTrue", inPlace := ["slices.overlaps[string]", "slices.overlaps[uint32]", "slices.overlaps[doorman/api.Session]", "slices.overlaps[doorman/book.Entry]"], unfollowed := true, recurses := true, apart := false, narrowed := true }
def HeedTrueUptoSaid : Prop := heedTrueUptoRow.holds Tryz.pinned (OpenSpec.upto heedTrueSpec)

/-- 'doormanlaw17.HeedAlone', WHERE WHAT IT READS IS OF BULK AT MOST 1048576: true; the input reads as it did. -/
def heedAloneUptoRow : OpenClaim := { program := "ytbfajkpjilhkgaagreat", sum := "34ee1042a1205a33a09a0c1332d4b01d328cdea5e01c6118e5fe7783af2a1a66", func := "doorman/doormanlaw17.HeedAlone", spec := "heedAlone", inPlace := ["slices.overlaps[string]", "slices.overlaps[uint32]", "slices.overlaps[doorman/api.Session]", "slices.overlaps[doorman/book.Entry]"], unfollowed := true, recurses := true, apart := false, narrowed := true }
def HeedAloneUptoSaid : Prop := heedAloneUptoRow.holds Tryz.pinned (OpenSpec.upto heedAloneSpec)

/-- 'doormanlaw16.ReadTrue', WHERE WHAT IT READS IS OF BULK AT MOST 1048576: true; the input reads as it did. -/
def readTrueUptoRow : OpenClaim := { program := "ytbfajkpjilhkgaagreat", sum := "34ee1042a1205a33a09a0c1332d4b01d328cdea5e01c6118e5fe7783af2a1a66", func := "doorman/doormanlaw16.ReadTrue", spec := "readTrue", inPlace := ["slices.overlaps[doorman/api.Session]", "slices.overlaps[string]", "slices.overlaps[doorman/book.Entry]", "slices.overlaps[uint32]"], unfollowed := true, recurses := true, apart := false, narrowed := true }
def ReadTrueUptoSaid : Prop := readTrueUptoRow.holds Tryz.pinned (OpenSpec.upto readTrueSpec)

/-- 'doormanlaw19.RunMoves', WHERE WHAT IT READS IS OF BULK AT MOST 1048576: true; the input reads as it did. -/
def runMovesUptoRow : OpenClaim := { program := "ytbfajkpjilhkgaagreat", sum := "34ee1042a1205a33a09a0c1332d4b01d328cdea5e01c6118e5fe7783af2a1a66", func := "doorman/doormanlaw19.RunMoves", spec := "runMoves", inPlace := ["slices.overlaps[string]", "slices.overlaps[doorman/book.Entry]", "slices.overlaps[doorman/api.Session]", "slices.overlaps[uint32]"], unfollowed := true, recurses := true, apart := false, narrowed := true }
def RunMovesUptoSaid : Prop := runMovesUptoRow.holds Tryz.pinned (OpenSpec.upto runMovesSpec)

/-- 'doormanlaw19.RunOrder', WHERE WHAT IT READS IS OF BULK AT MOST 1048576: true; the input reads as it did. -/
def runOrderUptoRow : OpenClaim := { program := "ytbfajkpjilhkgaagreat", sum := "34ee1042a1205a33a09a0c1332d4b01d328cdea5e01c6118e5fe7783af2a1a66", func := "doorman/doormanlaw19.RunOrder", spec := "runOrder", inPlace := ["slices.overlaps[string]", "slices.overlaps[doorman/book.Entry]", "slices.overlaps[doorman/api.Session]", "slices.overlaps[uint32]"], unfollowed := true, recurses := true, apart := false, narrowed := true }
def RunOrderUptoSaid : Prop := runOrderUptoRow.holds Tryz.pinned (OpenSpec.upto runOrderSpec)

/-- 'doormanlaw19.RunFront', WHERE WHAT IT READS IS OF BULK AT MOST 1048576: true; the input reads as it did. -/
def runFrontUptoRow : OpenClaim := { program := "ytbfajkpjilhkgaagreat", sum := "34ee1042a1205a33a09a0c1332d4b01d328cdea5e01c6118e5fe7783af2a1a66", func := "doorman/doormanlaw19.RunFront", spec := "runFront", inPlace := ["slices.overlaps[string]", "slices.overlaps[doorman/book.Entry]", "slices.overlaps[doorman/api.Session]", "slices.overlaps[uint32]"], unfollowed := true, recurses := true, apart := false, narrowed := true }
def RunFrontUptoSaid : Prop := runFrontUptoRow.holds Tryz.pinned (OpenSpec.upto runFrontSpec)

/-- 'doormanlaw19.RunCopies', WHERE WHAT IT READS IS OF BULK AT MOST 1048576: true; the input reads as it did. -/
def runCopiesUptoRow : OpenClaim := { program := "ytbfajkpjilhkgaagreat", sum := "34ee1042a1205a33a09a0c1332d4b01d328cdea5e01c6118e5fe7783af2a1a66", func := "doorman/doormanlaw19.RunCopies", spec := "runCopies", inPlace := ["slices.overlaps[string]", "slices.overlaps[doorman/book.Entry]", "slices.overlaps[doorman/api.Session]", "slices.overlaps[uint32]"], unfollowed := true, recurses := true, apart := false, narrowed := true }
def RunCopiesUptoSaid : Prop := runCopiesUptoRow.holds Tryz.pinned (OpenSpec.upto runCopiesSpec)

/-- 'doormanlaw19.RunTimes', WHERE WHAT IT READS IS OF BULK AT MOST 1048576: true; the input reads as it did. -/
def runTimesUptoRow : OpenClaim := { program := "ytbfajkpjilhkgaagreat", sum := "34ee1042a1205a33a09a0c1332d4b01d328cdea5e01c6118e5fe7783af2a1a66", func := "doorman/doormanlaw19.RunTimes", spec := "runTimes", inPlace := ["slices.overlaps[string]", "slices.overlaps[doorman/book.Entry]", "slices.overlaps[doorman/api.Session]", "slices.overlaps[uint32]"], unfollowed := true, recurses := true, apart := false, narrowed := true }
def RunTimesUptoSaid : Prop := runTimesUptoRow.holds Tryz.pinned (OpenSpec.upto runTimesSpec)

/-- 'doormanlaw23.FairEnds', WHERE WHAT IT READS IS OF BULK AT MOST 1048576: true; the input reads as it did. -/
def fairEndsUptoRow : OpenClaim := { program := "ytbfajkpjilhkgaagreat", sum := "34ee1042a1205a33a09a0c1332d4b01d328cdea5e01c6118e5fe7783af2a1a66", func := "doorman/doormanlaw23.FairEnds", spec := "fairEnds", inPlace := ["slices.overlaps[string]", "slices.overlaps[doorman/book.Entry]", "slices.overlaps[doorman/api.Session]", "slices.overlaps[uint32]"], unfollowed := true, recurses := true, apart := false, narrowed := true }
def FairEndsUptoSaid : Prop := fairEndsUptoRow.holds Tryz.pinned (OpenSpec.upto fairEndsSpec)

/-- 'doormanlaw23.FairWork', WHERE WHAT IT READS IS OF BULK AT MOST 1048576: true; the input reads as it did. -/
def fairWorkUptoRow : OpenClaim := { program := "ytbfajkpjilhkgaagreat", sum := "34ee1042a1205a33a09a0c1332d4b01d328cdea5e01c6118e5fe7783af2a1a66", func := "doorman/doormanlaw23.FairWork", spec := "fairWork", inPlace := ["slices.overlaps[string]", "slices.overlaps[doorman/book.Entry]", "slices.overlaps[doorman/api.Session]", "slices.overlaps[uint32]"], unfollowed := true, recurses := true, apart := false, narrowed := true }
def FairWorkUptoSaid : Prop := fairWorkUptoRow.holds Tryz.pinned (OpenSpec.upto fairWorkSpec)

/-- 'doormanlaw19.RunIdle', WHERE WHAT IT READS IS OF BULK AT MOST 1048576: true; the input reads as it did. -/
def runIdleUptoRow : OpenClaim := { program := "ytbfajkpjilhkgaagreat", sum := "34ee1042a1205a33a09a0c1332d4b01d328cdea5e01c6118e5fe7783af2a1a66", func := "doorman/doormanlaw19.RunIdle", spec := "runIdle", inPlace := ["slices.overlaps[string]", "slices.overlaps[doorman/book.Entry]", "slices.overlaps[doorman/api.Session]", "slices.overlaps[uint32]"], unfollowed := true, recurses := true, apart := false, narrowed := true }
def RunIdleUptoSaid : Prop := runIdleUptoRow.holds Tryz.pinned (OpenSpec.upto runIdleSpec)

/-- 'doormanlaw19.RunPlays', WHERE WHAT IT READS IS OF BULK AT MOST 1048576: true; the input reads as it did. -/
def runPlaysUptoRow : OpenClaim := { program := "ytbfajkpjilhkgaagreat", sum := "34ee1042a1205a33a09a0c1332d4b01d328cdea5e01c6118e5fe7783af2a1a66", func := "doorman/doormanlaw19.RunPlays", spec := "runPlays", inPlace := ["slices.overlaps[string]", "slices.overlaps[doorman/book.Entry]", "slices.overlaps[doorman/api.Session]", "slices.overlaps[uint32]"], unfollowed := true, recurses := true, apart := false, narrowed := true }
def RunPlaysUptoSaid : Prop := runPlaysUptoRow.holds Tryz.pinned (OpenSpec.upto runPlaysSpec)

/-- 'doormanlaw22.RaceNone', WHERE WHAT IT READS IS OF BULK AT MOST 1048576: true; the input reads as it did. -/
def raceNoneUptoRow : OpenClaim := { program := "ytbfajkpjilhkgaagreat", sum := "34ee1042a1205a33a09a0c1332d4b01d328cdea5e01c6118e5fe7783af2a1a66", func := "doorman/doormanlaw22.RaceNone", spec := "raceNone", inPlace := ["slices.overlaps[string]", "slices.overlaps[doorman/book.Entry]", "slices.overlaps[doorman/api.Session]", "slices.overlaps[uint32]"], unfollowed := true, recurses := true, apart := false, narrowed := true }
def RaceNoneUptoSaid : Prop := raceNoneUptoRow.holds Tryz.pinned (OpenSpec.upto raceNoneSpec)

/-- 'doormanlaw20.HistRuns', WHERE WHAT IT READS IS OF BULK AT MOST 1048576: true; the input reads as it did. -/
def histRunsUptoRow : OpenClaim := { program := "ytbfajkpjilhkgaagreat", sum := "34ee1042a1205a33a09a0c1332d4b01d328cdea5e01c6118e5fe7783af2a1a66", func := "doorman/doormanlaw20.HistRuns", spec := "histRuns", inPlace := ["slices.overlaps[string]", "slices.overlaps[doorman/book.Entry]", "slices.overlaps[doorman/api.Session]", "slices.overlaps[uint32]"], unfollowed := true, recurses := true, apart := false, narrowed := true }
def HistRunsUptoSaid : Prop := histRunsUptoRow.holds Tryz.pinned (OpenSpec.upto histRunsSpec)

/-- 'doormanlaw21.LinRuns', WHERE WHAT IT READS IS OF BULK AT MOST 1048576: true; the input reads as it did. -/
def linRunsUptoRow : OpenClaim := { program := "ytbfajkpjilhkgaagreat", sum := "34ee1042a1205a33a09a0c1332d4b01d328cdea5e01c6118e5fe7783af2a1a66", func := "doorman/doormanlaw21.LinRuns", spec := "linRuns", inPlace := ["slices.overlaps[string]", "slices.overlaps[doorman/book.Entry]", "slices.overlaps[doorman/api.Session]", "slices.overlaps[uint32]"], unfollowed := true, recurses := true, apart := false, narrowed := true }
def LinRunsUptoSaid : Prop := linRunsUptoRow.holds Tryz.pinned (OpenSpec.upto linRunsSpec)

/-- 'doormanlaw21.LinFew', WHERE WHAT IT READS IS OF BULK AT MOST 1048576: true; the input reads as it did. -/
def linFewUptoRow : OpenClaim := { program := "ytbfajkpjilhkgaagreat", sum := "34ee1042a1205a33a09a0c1332d4b01d328cdea5e01c6118e5fe7783af2a1a66", func := "doorman/doormanlaw21.LinFew", spec := "linFew", inPlace := ["slices.overlaps[string]", "slices.overlaps[doorman/book.Entry]", "slices.overlaps[doorman/api.Session]", "slices.overlaps[uint32]"], unfollowed := true, recurses := true, apart := false, narrowed := true }
def LinFewUptoSaid : Prop := linFewUptoRow.holds Tryz.pinned (OpenSpec.upto linFewSpec)

/-- 'doormanlaw21.LinSpoilt', WHERE WHAT IT READS IS OF BULK AT MOST 1048576: true; the input reads as it did. -/
def linSpoiltUptoRow : OpenClaim := { program := "ytbfajkpjilhkgaagreat", sum := "34ee1042a1205a33a09a0c1332d4b01d328cdea5e01c6118e5fe7783af2a1a66", func := "doorman/doormanlaw21.LinSpoilt", spec := "linSpoilt", inPlace := ["slices.overlaps[string]", "slices.overlaps[doorman/book.Entry]", "slices.overlaps[doorman/api.Session]", "slices.overlaps[uint32]"], unfollowed := true, recurses := true, apart := false, narrowed := true }
def LinSpoiltUptoSaid : Prop := linSpoiltUptoRow.holds Tryz.pinned (OpenSpec.upto linSpoiltSpec)

/-- 'doormantop.TopSpent', WHERE WHAT IT READS IS OF BULK AT MOST 1048576: true; the input reads as it did. -/
def topSpentUptoRow : OpenClaim := { program := "ytbfajkpjilhkgaagreat", sum := "34ee1042a1205a33a09a0c1332d4b01d328cdea5e01c6118e5fe7783af2a1a66", func := "doorman/doormantop.TopSpent", spec := "topSpent", inPlace := ["slices.overlaps[string]", "slices.overlaps[doorman/book.Entry]", "slices.overlaps[doorman/api.Session]", "slices.overlaps[uint32]"], unfollowed := true, recurses := true, apart := false, narrowed := true }
def TopSpentUptoSaid : Prop := topSpentUptoRow.holds Tryz.pinned (OpenSpec.upto topSpentSpec)

end Rows
end Go.Proofs.YtbfajkpjilhkgaaGreat
