/- THE REFERENCE's RATIONAL NUMBERS: quotients of texts; sums of lists; few texts. -/
import Derived.Test.YtdpjkfkmlaphhaaGreatDoorHE
import Derived.Test.YtdpjkfkmlaphhaaGreatDoorHA
import Derived.LoopN
namespace Go.Proofs.Wk
open Go.RowKit Mt

end Go.Proofs.Wk
