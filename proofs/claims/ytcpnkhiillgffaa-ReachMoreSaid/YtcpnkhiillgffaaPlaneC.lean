/- The walks of package plane's meeting segments, squares of distances, nearness, and roots. -/
import Derived.Test.YtcpnkhiillgffaaPlaneB
namespace Go.Proofs.Ytcpnkhiillgffaa
open Go.RowKit
attribute [local go_sem] bqOp bqAll bqUpon
attribute [local irreducible] wpQuiet wpBQ
end Go.Proofs.Ytcpnkhiillgffaa
