/- Closed29z -/
import Derived.Test.YtapjfgddbfneaaaGreatg12
namespace Go.Proofs.YtapjfgddbfneaaaGreat
open Go.ChangeShapes Go.WideShapes Go.ChangeAt Go.RowKit Go.AM
set_option maxRecDepth 100000
theorem boundedHoldsClosed : joinedFacts Tryz.prog 3 Tryz.f3 Rows.boundedHoldsSpec Rows.boundedHoldsRow = true := by
 unfold joinedFacts
 exact and_mk (and_mk (and_mk (and_mk (and_mk (and_mk (and_mk (and_mk (and_mk (and_mk (and_mk (and_mk (and_mk (and_mk (and_mk (and_mk (and_mk (and_mk (and_mk (and_mk (and_mk (and_mk (and_mk (and_mk (and_mk (and_mk (and_mk (and_mk (and_mk (and_mk (and_mk boundedHoldsC0 cLaid) cRowed) boundedHoldsC3) boundedHoldsC4) boundedHoldsC5) boundedHoldsC6) boundedHoldsC7) boundedHoldsC8) boundedHoldsC9) boundedHoldsC10) boundedHoldsC11) boundedHoldsC12) boundedHoldsC13) boundedHoldsC14) boundedHoldsC15) boundedHoldsC16) boundedHoldsC17) boundedHoldsC18) boundedHoldsC19) boundedHoldsC20) boundedHoldsC21) boundedHoldsC22) boundedHoldsC23) cHeard) cEnter) cLifts) boundedHoldsC27) boundedHoldsC28) boundedHoldsC29) boundedHoldsC30) boundedHoldsC31
theorem boundedHoldsNamed : Tryz.prog.funcNamed Rows.boundedHoldsRow.func = some 3 := by kernel_rfl
theorem boundedApartClosed : joinedFacts Tryz.prog 4 Tryz.f4 Rows.boundedApartSpec Rows.boundedApartRow = true := by
 unfold joinedFacts
 exact and_mk (and_mk (and_mk (and_mk (and_mk (and_mk (and_mk (and_mk (and_mk (and_mk (and_mk (and_mk (and_mk (and_mk (and_mk (and_mk (and_mk (and_mk (and_mk (and_mk (and_mk (and_mk (and_mk (and_mk (and_mk (and_mk (and_mk (and_mk (and_mk (and_mk (and_mk boundedApartC0 cLaid) cRowed) boundedApartC3) boundedApartC4) boundedApartC5) boundedApartC6) boundedApartC7) boundedApartC8) boundedApartC9) boundedApartC10) boundedApartC11) boundedApartC12) boundedApartC13) boundedApartC14) boundedApartC15) boundedApartC16) boundedApartC17) boundedApartC18) boundedApartC19) boundedApartC20) boundedApartC21) boundedApartC22) boundedApartC23) cHeard) cEnter) cLifts) boundedApartC27) boundedApartC28) boundedApartC29) boundedApartC30) boundedApartC31
theorem boundedApartNamed : Tryz.prog.funcNamed Rows.boundedApartRow.func = some 4 := by kernel_rfl
theorem boundedWiderClosed : joinedFacts Tryz.prog 5 Tryz.f5 Rows.boundedWiderSpec Rows.boundedWiderRow = true := by
 unfold joinedFacts
 exact and_mk (and_mk (and_mk (and_mk (and_mk (and_mk (and_mk (and_mk (and_mk (and_mk (and_mk (and_mk (and_mk (and_mk (and_mk (and_mk (and_mk (and_mk (and_mk (and_mk (and_mk (and_mk (and_mk (and_mk (and_mk (and_mk (and_mk (and_mk (and_mk (and_mk (and_mk boundedWiderC0 cLaid) cRowed) boundedWiderC3) boundedWiderC4) boundedWiderC5) boundedWiderC6) boundedWiderC7) boundedWiderC8) boundedWiderC9) boundedWiderC10) boundedWiderC11) boundedWiderC12) boundedWiderC13) boundedWiderC14) boundedWiderC15) boundedWiderC16) boundedWiderC17) boundedWiderC18) boundedWiderC19) boundedWiderC20) boundedWiderC21) boundedWiderC22) boundedWiderC23) cHeard) cEnter) cLifts) boundedWiderC27) boundedWiderC28) boundedWiderC29) boundedWiderC30) boundedWiderC31
theorem boundedWiderNamed : Tryz.prog.funcNamed Rows.boundedWiderRow.func = some 5 := by kernel_rfl
end Go.Proofs.YtapjfgddbfneaaaGreat
