/- Closed29p -/
import Derived.Test.YtapjfgddbfneaaaGreatg6
namespace Go.Proofs.YtapjfgddbfneaaaGreat
open Go.ChangeShapes Go.WideShapes Go.ChangeAt Go.RowKit Go.AM
theorem and_mk {a b : Bool} (h1 : a = true) (h2 : b = true) : (a && b) = true := by rw [h1, h2]; rfl
theorem cLaid : laidOutB Tryz.prog = true := by kernel_rfl
theorem cRowed : mapsRowed Tryz.prog = true := by kernel_rfl
theorem cHeard : Tryz.prog.stopsHeard = true := by kernel_rfl
theorem cEnter : Tryz.prog.mayEnter = true := by kernel_rfl
theorem cLifts : (Rows.boundedPumpsRow.lifted == Tryz.prog.liftsFinal) = true := by kernel_rfl
theorem boundedPumpsC0 : (Rows.boundedPumpsRow.wf (OpenSpec.ofChange Rows.boundedPumpsSpec)) = true := by kernel_rfl
theorem boundedPumpsC3 : (Tryz.f6.params.all (Tryz.prog.readableRec ·)) = true := by kernel_rfl
theorem boundedPumpsC4 : (namedTie Tryz.prog Rows.boundedPumpsRow.named Rows.boundedPumpsSpec.vars) = true := by kernel_rfl
theorem boundedPumpsC5 : ((Rows.boundedPumpsRow.stops == [])) = true := by kernel_rfl
theorem boundedPumpsC6 : ((Tryz.prog.stops == [])) = true := by kernel_rfl
theorem boundedPumpsC7 : ((Rows.boundedPumpsRow.knobs == [])) = true := by kernel_rfl
theorem boundedPumpsC8 : ((Tryz.prog.stopKnobs == [])) = true := by kernel_rfl
theorem boundedPumpsC9 : ((Rows.boundedPumpsRow.inPlace == Tryz.prog.inPlace 6)) = true := by kernel_rfl
theorem boundedPumpsC10 : ((Rows.boundedPumpsRow.unfollowed == Tryz.prog.unfollowed 6)) = true := by kernel_rfl
theorem boundedPumpsC11 : ((Rows.boundedPumpsRow.recurses == Tryz.prog.recurses 6)) = true := by kernel_rfl
theorem boundedPumpsC12 : ((Rows.boundedPumpsRow.named == Tryz.prog.varsNamed 6)) = true := by kernel_rfl
theorem boundedPumpsC13 : ((Rows.boundedPumpsRow.maps == (Tryz.f6.params.toList ++ Rows.boundedPumpsSpec.plain.varTypes Tryz.prog).any (Tryz.prog.mapsRec ·))) = true := by kernel_rfl
theorem boundedPumpsC14 : ((Rows.boundedPumpsRow.ifaces == (Tryz.f6.params.toList ++ Rows.boundedPumpsSpec.plain.varTypes Tryz.prog).any (Tryz.prog.ifacesRec ·))) = true := by kernel_rfl
theorem boundedPumpsC15 : ((Rows.boundedPumpsRow.mapsOut == Tryz.prog.mapsAmong Tryz.f6.resultTypes.toList)) = true := by kernel_rfl
theorem boundedPumpsC16 : ((Rows.boundedPumpsRow.loops == (Tryz.f6.params.toList ++ Rows.boundedPumpsSpec.plain.varTypes Tryz.prog).any (Tryz.prog.loopsFrom ·))) = true := by kernel_rfl
theorem boundedPumpsC17 : ((Rows.boundedPumpsRow.wideKeys == (Tryz.f6.params.toList ++ Rows.boundedPumpsSpec.plain.varTypes Tryz.prog ++ Tryz.f6.resultTypes.toList).any (Tryz.prog.wideKeysFrom ·))) = true := by kernel_rfl
theorem boundedPumpsC18 : (Rows.boundedPumpsSpec.vars.all (Tryz.prog.varReadable ·)) = true := by kernel_rfl
theorem boundedPumpsC19 : (Tryz.f6.resultTypes.all (fun t => Tryz.prog.readableRec t && decide (t < Tryz.prog.types.size))) = true := by kernel_rfl
theorem boundedPumpsC20 : ((Rows.boundedPumpsRow.ifacesOut == Tryz.f6.resultTypes.toList.any (Tryz.prog.ifacesRec ·))) = true := by kernel_rfl
theorem boundedPumpsC21 : ((Rows.boundedPumpsRow.loopsOut == Tryz.f6.resultTypes.toList.any (Tryz.prog.loopsFrom ·))) = true := by kernel_rfl
theorem boundedPumpsC22 : ((Rows.boundedPumpsRow.plainKeys == Tryz.prog.plainKeys)) = true := by kernel_rfl
theorem boundedPumpsC23 : (Rows.boundedPumpsRow.shortTexts.isNone) = true := by kernel_rfl
theorem boundedPumpsC27 : ((Tryz.prog.make == some Rows.boundedPumpsRow.make)) = true := by kernel_rfl
theorem boundedPumpsC28 : ((Rows.boundedPumpsRow.kinds == (if Rows.boundedPumpsRow.domain.isEmpty then [] else Tryz.f6.params.toList.map fun t => match Tryz.prog.underlying t with | some (.int k) => some k | _ => none))) = true := by kernel_rfl
theorem boundedPumpsC29 : ((Rows.boundedPumpsRow.pinned == Rows.boundedPumpsRow.pinnedBy)) = true := by kernel_rfl
theorem boundedPumpsC30 : ((Rows.boundedPumpsRow.veiled == (Tryz.f6.params.toList ++ Rows.boundedPumpsSpec.plain.varTypes Tryz.prog ++ Tryz.f6.resultTypes.toList).any (Tryz.prog.veiledRec ·))) = true := by kernel_rfl
theorem boundedPumpsC31 : (Rows.boundedPumpsRow.veiledFits Tryz.prog Tryz.f6.params.toList (Tryz.f6.params.toList ++ Rows.boundedPumpsSpec.plain.varTypes Tryz.prog ++ Tryz.f6.resultTypes.toList)) = true := by kernel_rfl
end Go.Proofs.YtapjfgddbfneaaaGreat
