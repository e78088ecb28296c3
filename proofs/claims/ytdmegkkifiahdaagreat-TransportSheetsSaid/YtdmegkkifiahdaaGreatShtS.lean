/- The walk of sheet.Shown. -/
import Derived.Test.YtdmegkkifiahdaaGreatShtA
namespace Go.Proofs.YtdmegkkifiahdaaGreat
open Go.RowKit
attribute [local go_sem] bqOp bqAll bqUpon sqOp sqAll sqUpon ssOp ssAll
attribute [local irreducible] wpQuiet wpBQ wpPlan wsPlan
set_option linter.unusedVariables false
end Go.Proofs.YtdmegkkifiahdaaGreat
