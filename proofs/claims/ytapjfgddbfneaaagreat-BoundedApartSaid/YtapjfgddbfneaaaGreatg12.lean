/- Closed29 -/
import Derived.Test.YtapjfgddbfneaaaGreatg11
namespace Go.Proofs.YtapjfgddbfneaaaGreat
open Go.ChangeShapes Go.WideShapes Go.ChangeAt Go.RowKit Go.AM
theorem and_mk {a b : Bool} (h1 : a = true) (h2 : b = true) : (a && b) = true := by rw [h1, h2]; rfl
theorem cLaid : laidOutB Tryz.prog = true := by kernel_rfl
theorem cRowed : mapsRowed Tryz.prog = true := by kernel_rfl
theorem cHeard : Tryz.prog.stopsHeard = true := by kernel_rfl
theorem cEnter : Tryz.prog.mayEnter = true := by kernel_rfl
theorem cLifts : (Rows.boundedHoldsRow.lifted == Tryz.prog.liftsFinal) = true := by kernel_rfl
theorem boundedHoldsC0 : (Rows.boundedHoldsRow.wf (OpenSpec.ofChange Rows.boundedHoldsSpec)) = true := by kernel_rfl
theorem boundedHoldsC3 : (Tryz.f3.params.all (Tryz.prog.readableRec ·)) = true := by kernel_rfl
theorem boundedHoldsC4 : (namedTie Tryz.prog Rows.boundedHoldsRow.named Rows.boundedHoldsSpec.vars) = true := by kernel_rfl
theorem boundedHoldsC5 : ((Rows.boundedHoldsRow.stops == [])) = true := by kernel_rfl
theorem boundedHoldsC6 : ((Tryz.prog.stops == [])) = true := by kernel_rfl
theorem boundedHoldsC7 : ((Rows.boundedHoldsRow.knobs == [])) = true := by kernel_rfl
theorem boundedHoldsC8 : ((Tryz.prog.stopKnobs == [])) = true := by kernel_rfl
theorem boundedHoldsC9 : ((Rows.boundedHoldsRow.inPlace == Tryz.prog.inPlace 3)) = true := by kernel_rfl
theorem boundedHoldsC10 : ((Rows.boundedHoldsRow.unfollowed == Tryz.prog.unfollowed 3)) = true := by kernel_rfl
theorem boundedHoldsC11 : ((Rows.boundedHoldsRow.recurses == Tryz.prog.recurses 3)) = true := by kernel_rfl
theorem boundedHoldsC12 : ((Rows.boundedHoldsRow.named == Tryz.prog.varsNamed 3)) = true := by kernel_rfl
theorem boundedHoldsC13 : ((Rows.boundedHoldsRow.maps == (Tryz.f3.params.toList ++ Rows.boundedHoldsSpec.plain.varTypes Tryz.prog).any (Tryz.prog.mapsRec ·))) = true := by kernel_rfl
theorem boundedHoldsC14 : ((Rows.boundedHoldsRow.ifaces == (Tryz.f3.params.toList ++ Rows.boundedHoldsSpec.plain.varTypes Tryz.prog).any (Tryz.prog.ifacesRec ·))) = true := by kernel_rfl
theorem boundedHoldsC15 : ((Rows.boundedHoldsRow.mapsOut == Tryz.prog.mapsAmong Tryz.f3.resultTypes.toList)) = true := by kernel_rfl
theorem boundedHoldsC16 : ((Rows.boundedHoldsRow.loops == (Tryz.f3.params.toList ++ Rows.boundedHoldsSpec.plain.varTypes Tryz.prog).any (Tryz.prog.loopsFrom ·))) = true := by kernel_rfl
theorem boundedHoldsC17 : ((Rows.boundedHoldsRow.wideKeys == (Tryz.f3.params.toList ++ Rows.boundedHoldsSpec.plain.varTypes Tryz.prog ++ Tryz.f3.resultTypes.toList).any (Tryz.prog.wideKeysFrom ·))) = true := by kernel_rfl
theorem boundedHoldsC18 : (Rows.boundedHoldsSpec.vars.all (Tryz.prog.varReadable ·)) = true := by kernel_rfl
theorem boundedHoldsC19 : (Tryz.f3.resultTypes.all (fun t => Tryz.prog.readableRec t && decide (t < Tryz.prog.types.size))) = true := by kernel_rfl
theorem boundedHoldsC20 : ((Rows.boundedHoldsRow.ifacesOut == Tryz.f3.resultTypes.toList.any (Tryz.prog.ifacesRec ·))) = true := by kernel_rfl
theorem boundedHoldsC21 : ((Rows.boundedHoldsRow.loopsOut == Tryz.f3.resultTypes.toList.any (Tryz.prog.loopsFrom ·))) = true := by kernel_rfl
theorem boundedHoldsC22 : ((Rows.boundedHoldsRow.plainKeys == Tryz.prog.plainKeys)) = true := by kernel_rfl
theorem boundedHoldsC23 : (Rows.boundedHoldsRow.shortTexts.isNone) = true := by kernel_rfl
theorem boundedHoldsC27 : ((Tryz.prog.make == some Rows.boundedHoldsRow.make)) = true := by kernel_rfl
theorem boundedHoldsC28 : ((Rows.boundedHoldsRow.kinds == (if Rows.boundedHoldsRow.domain.isEmpty then [] else Tryz.f3.params.toList.map fun t => match Tryz.prog.underlying t with | some (.int k) => some k | _ => none))) = true := by kernel_rfl
theorem boundedHoldsC29 : ((Rows.boundedHoldsRow.pinned == Rows.boundedHoldsRow.pinnedBy)) = true := by kernel_rfl
theorem boundedHoldsC30 : ((Rows.boundedHoldsRow.veiled == (Tryz.f3.params.toList ++ Rows.boundedHoldsSpec.plain.varTypes Tryz.prog ++ Tryz.f3.resultTypes.toList).any (Tryz.prog.veiledRec ·))) = true := by kernel_rfl
theorem boundedHoldsC31 : (Rows.boundedHoldsRow.veiledFits Tryz.prog Tryz.f3.params.toList (Tryz.f3.params.toList ++ Rows.boundedHoldsSpec.plain.varTypes Tryz.prog ++ Tryz.f3.resultTypes.toList)) = true := by kernel_rfl
theorem boundedApartC0 : (Rows.boundedApartRow.wf (OpenSpec.ofChange Rows.boundedApartSpec)) = true := by kernel_rfl
theorem boundedApartC3 : (Tryz.f4.params.all (Tryz.prog.readableRec ·)) = true := by kernel_rfl
theorem boundedApartC4 : (namedTie Tryz.prog Rows.boundedApartRow.named Rows.boundedApartSpec.vars) = true := by kernel_rfl
theorem boundedApartC5 : ((Rows.boundedApartRow.stops == [])) = true := by kernel_rfl
theorem boundedApartC6 : ((Tryz.prog.stops == [])) = true := by kernel_rfl
theorem boundedApartC7 : ((Rows.boundedApartRow.knobs == [])) = true := by kernel_rfl
theorem boundedApartC8 : ((Tryz.prog.stopKnobs == [])) = true := by kernel_rfl
theorem boundedApartC9 : ((Rows.boundedApartRow.inPlace == Tryz.prog.inPlace 4)) = true := by kernel_rfl
theorem boundedApartC10 : ((Rows.boundedApartRow.unfollowed == Tryz.prog.unfollowed 4)) = true := by kernel_rfl
theorem boundedApartC11 : ((Rows.boundedApartRow.recurses == Tryz.prog.recurses 4)) = true := by kernel_rfl
theorem boundedApartC12 : ((Rows.boundedApartRow.named == Tryz.prog.varsNamed 4)) = true := by kernel_rfl
theorem boundedApartC13 : ((Rows.boundedApartRow.maps == (Tryz.f4.params.toList ++ Rows.boundedApartSpec.plain.varTypes Tryz.prog).any (Tryz.prog.mapsRec ·))) = true := by kernel_rfl
theorem boundedApartC14 : ((Rows.boundedApartRow.ifaces == (Tryz.f4.params.toList ++ Rows.boundedApartSpec.plain.varTypes Tryz.prog).any (Tryz.prog.ifacesRec ·))) = true := by kernel_rfl
theorem boundedApartC15 : ((Rows.boundedApartRow.mapsOut == Tryz.prog.mapsAmong Tryz.f4.resultTypes.toList)) = true := by kernel_rfl
theorem boundedApartC16 : ((Rows.boundedApartRow.loops == (Tryz.f4.params.toList ++ Rows.boundedApartSpec.plain.varTypes Tryz.prog).any (Tryz.prog.loopsFrom ·))) = true := by kernel_rfl
theorem boundedApartC17 : ((Rows.boundedApartRow.wideKeys == (Tryz.f4.params.toList ++ Rows.boundedApartSpec.plain.varTypes Tryz.prog ++ Tryz.f4.resultTypes.toList).any (Tryz.prog.wideKeysFrom ·))) = true := by kernel_rfl
theorem boundedApartC18 : (Rows.boundedApartSpec.vars.all (Tryz.prog.varReadable ·)) = true := by kernel_rfl
theorem boundedApartC19 : (Tryz.f4.resultTypes.all (fun t => Tryz.prog.readableRec t && decide (t < Tryz.prog.types.size))) = true := by kernel_rfl
theorem boundedApartC20 : ((Rows.boundedApartRow.ifacesOut == Tryz.f4.resultTypes.toList.any (Tryz.prog.ifacesRec ·))) = true := by kernel_rfl
theorem boundedApartC21 : ((Rows.boundedApartRow.loopsOut == Tryz.f4.resultTypes.toList.any (Tryz.prog.loopsFrom ·))) = true := by kernel_rfl
theorem boundedApartC22 : ((Rows.boundedApartRow.plainKeys == Tryz.prog.plainKeys)) = true := by kernel_rfl
theorem boundedApartC23 : (Rows.boundedApartRow.shortTexts.isNone) = true := by kernel_rfl
theorem boundedApartC27 : ((Tryz.prog.make == some Rows.boundedApartRow.make)) = true := by kernel_rfl
theorem boundedApartC28 : ((Rows.boundedApartRow.kinds == (if Rows.boundedApartRow.domain.isEmpty then [] else Tryz.f4.params.toList.map fun t => match Tryz.prog.underlying t with | some (.int k) => some k | _ => none))) = true := by kernel_rfl
theorem boundedApartC29 : ((Rows.boundedApartRow.pinned == Rows.boundedApartRow.pinnedBy)) = true := by kernel_rfl
theorem boundedApartC30 : ((Rows.boundedApartRow.veiled == (Tryz.f4.params.toList ++ Rows.boundedApartSpec.plain.varTypes Tryz.prog ++ Tryz.f4.resultTypes.toList).any (Tryz.prog.veiledRec ·))) = true := by kernel_rfl
theorem boundedApartC31 : (Rows.boundedApartRow.veiledFits Tryz.prog Tryz.f4.params.toList (Tryz.f4.params.toList ++ Rows.boundedApartSpec.plain.varTypes Tryz.prog ++ Tryz.f4.resultTypes.toList)) = true := by kernel_rfl
theorem boundedWiderC0 : (Rows.boundedWiderRow.wf (OpenSpec.ofChange Rows.boundedWiderSpec)) = true := by kernel_rfl
theorem boundedWiderC3 : (Tryz.f5.params.all (Tryz.prog.readableRec ·)) = true := by kernel_rfl
theorem boundedWiderC4 : (namedTie Tryz.prog Rows.boundedWiderRow.named Rows.boundedWiderSpec.vars) = true := by kernel_rfl
theorem boundedWiderC5 : ((Rows.boundedWiderRow.stops == [])) = true := by kernel_rfl
theorem boundedWiderC6 : ((Tryz.prog.stops == [])) = true := by kernel_rfl
theorem boundedWiderC7 : ((Rows.boundedWiderRow.knobs == [])) = true := by kernel_rfl
theorem boundedWiderC8 : ((Tryz.prog.stopKnobs == [])) = true := by kernel_rfl
theorem boundedWiderC9 : ((Rows.boundedWiderRow.inPlace == Tryz.prog.inPlace 5)) = true := by kernel_rfl
theorem boundedWiderC10 : ((Rows.boundedWiderRow.unfollowed == Tryz.prog.unfollowed 5)) = true := by kernel_rfl
theorem boundedWiderC11 : ((Rows.boundedWiderRow.recurses == Tryz.prog.recurses 5)) = true := by kernel_rfl
theorem boundedWiderC12 : ((Rows.boundedWiderRow.named == Tryz.prog.varsNamed 5)) = true := by kernel_rfl
theorem boundedWiderC13 : ((Rows.boundedWiderRow.maps == (Tryz.f5.params.toList ++ Rows.boundedWiderSpec.plain.varTypes Tryz.prog).any (Tryz.prog.mapsRec ·))) = true := by kernel_rfl
theorem boundedWiderC14 : ((Rows.boundedWiderRow.ifaces == (Tryz.f5.params.toList ++ Rows.boundedWiderSpec.plain.varTypes Tryz.prog).any (Tryz.prog.ifacesRec ·))) = true := by kernel_rfl
theorem boundedWiderC15 : ((Rows.boundedWiderRow.mapsOut == Tryz.prog.mapsAmong Tryz.f5.resultTypes.toList)) = true := by kernel_rfl
theorem boundedWiderC16 : ((Rows.boundedWiderRow.loops == (Tryz.f5.params.toList ++ Rows.boundedWiderSpec.plain.varTypes Tryz.prog).any (Tryz.prog.loopsFrom ·))) = true := by kernel_rfl
theorem boundedWiderC17 : ((Rows.boundedWiderRow.wideKeys == (Tryz.f5.params.toList ++ Rows.boundedWiderSpec.plain.varTypes Tryz.prog ++ Tryz.f5.resultTypes.toList).any (Tryz.prog.wideKeysFrom ·))) = true := by kernel_rfl
theorem boundedWiderC18 : (Rows.boundedWiderSpec.vars.all (Tryz.prog.varReadable ·)) = true := by kernel_rfl
theorem boundedWiderC19 : (Tryz.f5.resultTypes.all (fun t => Tryz.prog.readableRec t && decide (t < Tryz.prog.types.size))) = true := by kernel_rfl
theorem boundedWiderC20 : ((Rows.boundedWiderRow.ifacesOut == Tryz.f5.resultTypes.toList.any (Tryz.prog.ifacesRec ·))) = true := by kernel_rfl
theorem boundedWiderC21 : ((Rows.boundedWiderRow.loopsOut == Tryz.f5.resultTypes.toList.any (Tryz.prog.loopsFrom ·))) = true := by kernel_rfl
theorem boundedWiderC22 : ((Rows.boundedWiderRow.plainKeys == Tryz.prog.plainKeys)) = true := by kernel_rfl
theorem boundedWiderC23 : (Rows.boundedWiderRow.shortTexts.isNone) = true := by kernel_rfl
theorem boundedWiderC27 : ((Tryz.prog.make == some Rows.boundedWiderRow.make)) = true := by kernel_rfl
theorem boundedWiderC28 : ((Rows.boundedWiderRow.kinds == (if Rows.boundedWiderRow.domain.isEmpty then [] else Tryz.f5.params.toList.map fun t => match Tryz.prog.underlying t with | some (.int k) => some k | _ => none))) = true := by kernel_rfl
theorem boundedWiderC29 : ((Rows.boundedWiderRow.pinned == Rows.boundedWiderRow.pinnedBy)) = true := by kernel_rfl
theorem boundedWiderC30 : ((Rows.boundedWiderRow.veiled == (Tryz.f5.params.toList ++ Rows.boundedWiderSpec.plain.varTypes Tryz.prog ++ Tryz.f5.resultTypes.toList).any (Tryz.prog.veiledRec ·))) = true := by kernel_rfl
theorem boundedWiderC31 : (Rows.boundedWiderRow.veiledFits Tryz.prog Tryz.f5.params.toList (Tryz.f5.params.toList ++ Rows.boundedWiderSpec.plain.varTypes Tryz.prog ++ Tryz.f5.resultTypes.toList)) = true := by kernel_rfl
end Go.Proofs.YtapjfgddbfneaaaGreat
