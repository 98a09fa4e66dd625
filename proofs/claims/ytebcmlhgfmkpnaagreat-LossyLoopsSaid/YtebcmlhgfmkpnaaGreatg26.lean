/- Closed31z -/
import Derived.Test.YtebcmlhgfmkpnaaGreatg25
namespace Go.Proofs.YtebcmlhgfmkpnaaGreat
open Go.ChangeShapes Go.WideShapes Go.ChangeAt Go.RowKit Go.AM
set_option maxRecDepth 100000
theorem lossyLoopsClosed : joinedFacts Tryz.prog 5 Tryz.f5 Rows.lossyLoopsSpec Rows.lossyLoopsRow = true := by
 unfold joinedFacts
 exact and_mk (and_mk (and_mk (and_mk (and_mk (and_mk (and_mk (and_mk (and_mk (and_mk (and_mk (and_mk (and_mk (and_mk (and_mk (and_mk (and_mk (and_mk (and_mk (and_mk (and_mk (and_mk (and_mk (and_mk (and_mk (and_mk (and_mk (and_mk (and_mk (and_mk (and_mk lossyLoopsC0 cLaid) cRowed) lossyLoopsC3) lossyLoopsC4) lossyLoopsC5) lossyLoopsC6) lossyLoopsC7) lossyLoopsC8) lossyLoopsC9) lossyLoopsC10) lossyLoopsC11) lossyLoopsC12) lossyLoopsC13) lossyLoopsC14) lossyLoopsC15) lossyLoopsC16) lossyLoopsC17) lossyLoopsC18) lossyLoopsC19) lossyLoopsC20) lossyLoopsC21) lossyLoopsC22) lossyLoopsC23) cHeard) cEnter) cLifts) lossyLoopsC27) lossyLoopsC28) lossyLoopsC29) lossyLoopsC30) lossyLoopsC31
theorem lossyLoopsNamed : Tryz.prog.funcNamed Rows.lossyLoopsRow.func = some 5 := by kernel_rfl
end Go.Proofs.YtebcmlhgfmkpnaaGreat
