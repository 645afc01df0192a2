/- POSITION: the statement Worsens. -/
import Derived.Test.YtphbikfkeinmnaaGreatDoorPjA
import Derived.Test.YtphbikfkeinmnaaGreatDoorPM
namespace Go.Proofs.Wk
open Go.RowKit Mt Po

theorem worsens_law (c : Ca) (fv dv sv : Value) (tt : TT) (ds : List Dt) (ls : List Sp) (w : World) (hg : Good w) (S : CaS w c fv dv sv ds ls) (hl : ∀ l ∈ tt.l, l.length ≤ 140737488355328) :
    Calls Tryz.prog 3 #[caV c fv dv sv, ttV tt] w (Ret w (.bool true)) := worsens_z c fv dv sv tt ds ls w hg S hl fun W => zero_c W
end Go.Proofs.Wk
