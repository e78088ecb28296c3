/- The walks of poly.In, of the shapes' covers, and of feature.of. -/
import Derived.Test.YtdmegkkifiahdaaGreatFeatC
namespace Go.Proofs.YtdmegkkifiahdaaGreat
open Go.RowKit Go.Shelf
attribute [local go_sem] bqOp bqAll bqUpon sqOp sqAll sqUpon
attribute [local irreducible] wpQuiet wpBQ wpPlan
set_option linter.unusedVariables false
end Go.Proofs.YtdmegkkifiahdaaGreat
