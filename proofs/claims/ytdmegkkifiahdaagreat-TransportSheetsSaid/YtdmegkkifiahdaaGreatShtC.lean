/- The walks of sheet.one: the integers of a feature. -/
import Derived.Test.YtdmegkkifiahdaaGreatShtB
import Derived.Test.YtdmegkkifiahdaaGreatKB
namespace Go.Proofs.YtdmegkkifiahdaaGreat
open Go.RowKit
attribute [local go_sem] bqOp bqAll bqUpon sqOp sqAll sqUpon ssOp ssAll
attribute [local irreducible] wpQuiet wpBQ wpPlan wsPlan
set_option linter.unusedVariables false
end Go.Proofs.YtdmegkkifiahdaaGreat
