/- THE REFERENCE's RATIONAL NUMBERS: quotients of texts; sums of lists; few texts. -/
import Derived.Test.YtcdjhgkeehhaaaaGreatDoorHE
import Derived.Test.YtcdjhgkeehhaaaaGreatDoorHA
import Derived.LoopN
namespace Go.Proofs.Wk
open Go.RowKit Mt

end Go.Proofs.Wk
