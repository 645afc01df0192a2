/- POSITION: the statement Judges. -/
import Derived.Test.YtphbikfkeinmnaaGreatDoorPjB
import Derived.Test.YtphbikfkeinmnaaGreatDoorPM
namespace Go.Proofs.Wk
open Go.RowKit Mt Po

theorem judges_law (c : Ca) (fv dv sv : Value) (tt : TT) (ds : List Dt) (ls : List Sp) (w : World) (hg : Good w) (S : CaS w c fv dv sv ds ls) (hl : ∀ l ∈ tt.l, l.length ≤ 140737488355328) :
    Calls Tryz.prog 4 #[caV c fv dv sv, ttV tt] w (Ret w (.bool true)) := judges_z c fv dv sv tt ds ls w hg S hl fun W => zero_c W
end Go.Proofs.Wk
