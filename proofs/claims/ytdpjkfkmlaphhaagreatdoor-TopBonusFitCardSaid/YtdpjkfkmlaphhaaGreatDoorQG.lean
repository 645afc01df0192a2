/- POSITION, IN THE REFERENCE: the worst point, zones, the width that is needed. -/
import Derived.Test.YtdpjkfkmlaphhaaGreatDoorQE
import Derived.Test.YtdpjkfkmlaphhaaGreatDoorPG
namespace Go.Proofs.Wk
open Go.RowKit Mt Po

end Go.Proofs.Wk
