/- The walks of feature.Shown and of slices.EqualFunc of features. -/
import Derived.Test.YtdmegkkifiahdaaGreatFeatD
namespace Go.Proofs.YtdmegkkifiahdaaGreat
open Go.RowKit Go.Shelf
attribute [local go_sem] bqOp bqAll bqUpon sqOp sqAll sqUpon
attribute [local irreducible] wpQuiet wpBQ wpPlan
set_option linter.unusedVariables false
end Go.Proofs.YtdmegkkifiahdaaGreat
