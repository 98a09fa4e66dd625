/- Closed31z -/
import Derived.Test.YtebcmlhgfmkpnaaGreatg35
namespace Go.Proofs.YtebcmlhgfmkpnaaGreat
open Go.ChangeShapes Go.WideShapes Go.ChangeAt Go.RowKit Go.AM
set_option maxRecDepth 100000
theorem lossyMaximalClosed : joinedFacts Tryz.prog 4 Tryz.f4 Rows.lossyMaximalSpec Rows.lossyMaximalRow = true := by
 unfold joinedFacts
 exact and_mk (and_mk (and_mk (and_mk (and_mk (and_mk (and_mk (and_mk (and_mk (and_mk (and_mk (and_mk (and_mk (and_mk (and_mk (and_mk (and_mk (and_mk (and_mk (and_mk (and_mk (and_mk (and_mk (and_mk (and_mk (and_mk (and_mk (and_mk (and_mk (and_mk (and_mk lossyMaximalC0 cLaid) cRowed) lossyMaximalC3) lossyMaximalC4) lossyMaximalC5) lossyMaximalC6) lossyMaximalC7) lossyMaximalC8) lossyMaximalC9) lossyMaximalC10) lossyMaximalC11) lossyMaximalC12) lossyMaximalC13) lossyMaximalC14) lossyMaximalC15) lossyMaximalC16) lossyMaximalC17) lossyMaximalC18) lossyMaximalC19) lossyMaximalC20) lossyMaximalC21) lossyMaximalC22) lossyMaximalC23) cHeard) cEnter) cLifts) lossyMaximalC27) lossyMaximalC28) lossyMaximalC29) lossyMaximalC30) lossyMaximalC31
theorem lossyMaximalNamed : Tryz.prog.funcNamed Rows.lossyMaximalRow.func = some 4 := by kernel_rfl
end Go.Proofs.YtebcmlhgfmkpnaaGreat
