/- POSITION, IN THE REFERENCE: squared deviations, the farthest point, zones. -/
import Derived.Test.YtdpjkfkmlaphhaaGreatDoorPH
import Derived.Test.YtdpjkfkmlaphhaaGreatDoorPG
namespace Go.Proofs.Wk
open Go.RowKit Mt Po

end Go.Proofs.Wk
