/- POSITION: the statement Measures. -/
import Derived.Test.YtphbikfkeinmnaaGreatDoorPjD
import Derived.Test.YtphbikfkeinmnaaGreatDoorPM
namespace Go.Proofs.Wk
open Go.RowKit Mt Po

theorem measures_law (c : Ca) (fv dv sv : Value) (tt : TT) (ds : List Dt) (ls : List Sp) (n : Int) (w : World) (hg : Good w) (S : CaS w c fv dv sv ds ls) (hl : ∀ l ∈ tt.l, l.length ≤ 140737488355328) :
    Calls Tryz.prog 7 #[caV c fv dv sv, ttV tt, .int .i64 n] w (Ret w (.bool true)) := measures_z c fv dv sv tt ds ls n w hg S hl fun W => zero_c W
end Go.Proofs.Wk
