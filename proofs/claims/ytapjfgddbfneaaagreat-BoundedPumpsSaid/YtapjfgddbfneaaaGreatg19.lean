/- Closed29pz -/
import Derived.Test.YtapjfgddbfneaaaGreatg18
namespace Go.Proofs.YtapjfgddbfneaaaGreat
open Go.ChangeShapes Go.WideShapes Go.ChangeAt Go.RowKit Go.AM
set_option maxRecDepth 100000
theorem boundedPumpsClosed : joinedFacts Tryz.prog 6 Tryz.f6 Rows.boundedPumpsSpec Rows.boundedPumpsRow = true := by
 unfold joinedFacts
 exact and_mk (and_mk (and_mk (and_mk (and_mk (and_mk (and_mk (and_mk (and_mk (and_mk (and_mk (and_mk (and_mk (and_mk (and_mk (and_mk (and_mk (and_mk (and_mk (and_mk (and_mk (and_mk (and_mk (and_mk (and_mk (and_mk (and_mk (and_mk (and_mk (and_mk (and_mk boundedPumpsC0 cLaid) cRowed) boundedPumpsC3) boundedPumpsC4) boundedPumpsC5) boundedPumpsC6) boundedPumpsC7) boundedPumpsC8) boundedPumpsC9) boundedPumpsC10) boundedPumpsC11) boundedPumpsC12) boundedPumpsC13) boundedPumpsC14) boundedPumpsC15) boundedPumpsC16) boundedPumpsC17) boundedPumpsC18) boundedPumpsC19) boundedPumpsC20) boundedPumpsC21) boundedPumpsC22) boundedPumpsC23) cHeard) cEnter) cLifts) boundedPumpsC27) boundedPumpsC28) boundedPumpsC29) boundedPumpsC30) boundedPumpsC31
theorem boundedPumpsNamed : Tryz.prog.funcNamed Rows.boundedPumpsRow.func = some 6 := by kernel_rfl
end Go.Proofs.YtapjfgddbfneaaaGreat
