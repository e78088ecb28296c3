/- The walks of sheet.put and its functions: writing lists with their lengths. -/
import Derived.Test.YtdmegkkifiahdaaGreatAppI
namespace Go.Proofs.YtdmegkkifiahdaaGreat
open Go.RowKit
attribute [local go_sem] bqOp bqAll bqUpon sqOp sqAll sqUpon
attribute [local irreducible] wpQuiet wpBQ wpPlan
set_option linter.unusedVariables false
end Go.Proofs.YtdmegkkifiahdaaGreat
