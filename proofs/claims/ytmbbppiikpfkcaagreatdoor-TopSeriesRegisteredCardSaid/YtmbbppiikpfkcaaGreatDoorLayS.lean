/- WHAT THE LISTED VARIABLES GIVE A WALK: the error of what is no number too. -/
import Derived.Test.YtmbbppiikpfkcaaGreatDoorLay
import Derived.Test.YtmbbppiikpfkcaaGreatDoorLB
namespace Go.Proofs.Wk
open Go.RowKit Go.WideShapes Go.ChangeShapes

theorem lay_gs : Tryz.prog.globalNamed "strconv.ErrSyntax" = some 6 := by kernel_rfl
theorem lay_gst : (Tryz.prog.globals[6]?).map (·.type) = some 73 := by kernel_rfl
theorem goodS_of_laid {l : List (String × DataW Unit)} {text text2 : List UInt8} {W : World} (h : laidMet Tryz.prog l W)
    (h1 : (l.filter fun x => x.1 == "internal/strconv.uint64pow10") = [("internal/strconv.uint64pow10", Lib.tabData .u64 Lib.pow10Tab)])
    (h2 : (l.filter fun x => x.1 == "strconv.ErrRange") = [("strconv.ErrRange", .iface "*errors.errorString" (.ptr (.agg [.lit (.string text)])))])
    (h3 : (l.filter fun x => x.1 == "strconv.ErrSyntax") = [("strconv.ErrSyntax", .iface "*errors.errorString" (.ptr (.agg [.lit (.string text2)])))]) : GoodS W := by
  have a3 := h.filter fun x => x.1 == "strconv.ErrSyntax"
  rw [h3] at a3
  obtain ⟨a, s, hv, _⟩ := laid_sentinel a3 lay_gs lay_gst Tryz.underlying73 lay_row Tryz.underlying238 Tryz.underlying240 rfl rfl Tryz.underlying9 lay_ce lay_cs
  exact ⟨good_of_laid h h1 h2, _, _, hv⟩
end Go.Proofs.Wk
