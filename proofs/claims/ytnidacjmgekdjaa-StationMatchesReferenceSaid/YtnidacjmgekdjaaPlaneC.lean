/- The walks of package plane's meeting segments, squares of distances, nearness, and roots. -/
import Derived.Test.YtnidacjmgekdjaaPlaneB
namespace Go.Proofs.Ytnidacjmgekdjaa
open Go.RowKit
attribute [local go_sem] bqOp bqAll bqUpon
attribute [local irreducible] wpQuiet wpBQ
end Go.Proofs.Ytnidacjmgekdjaa
