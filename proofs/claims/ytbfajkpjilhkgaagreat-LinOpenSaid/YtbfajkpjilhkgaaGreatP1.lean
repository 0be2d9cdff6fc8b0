/- A part of the proof that doormanlaw21.LinOpen returns true for every input, on no condition. -/
import Derived.Test.YtbfajkpjilhkgaaGreatP0
set_option linter.unusedVariables false
set_option linter.unusedSimpArgs false
namespace Go.Dm
def e0 : Env := fun _ => undef
end Go.Dm
