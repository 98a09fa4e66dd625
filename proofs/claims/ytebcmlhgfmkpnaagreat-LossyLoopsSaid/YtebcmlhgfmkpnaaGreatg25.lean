/- Closed31 -/
import Derived.Test.YtebcmlhgfmkpnaaGreatg23
namespace Go.Proofs.YtebcmlhgfmkpnaaGreat
open Go.ChangeShapes Go.WideShapes Go.ChangeAt Go.RowKit Go.AM
theorem and_mk {a b : Bool} (h1 : a = true) (h2 : b = true) : (a && b) = true := by rw [h1, h2]; rfl
theorem cLaid : laidOutB Tryz.prog = true := by kernel_rfl
theorem cRowed : mapsRowed Tryz.prog = true := by kernel_rfl
theorem cHeard : Tryz.prog.stopsHeard = true := by kernel_rfl
theorem cEnter : Tryz.prog.mayEnter = true := by kernel_rfl
theorem cLifts : (Rows.lossyLoopsRow.lifted == Tryz.prog.liftsFinal) = true := by kernel_rfl
theorem lossyLoopsC0 : (Rows.lossyLoopsRow.wf (OpenSpec.ofChange Rows.lossyLoopsSpec)) = true := by kernel_rfl
theorem lossyLoopsC3 : (Tryz.f5.params.all (Tryz.prog.readableRec ·)) = true := by kernel_rfl
theorem lossyLoopsC4 : (namedTie Tryz.prog Rows.lossyLoopsRow.named Rows.lossyLoopsSpec.vars) = true := by kernel_rfl
theorem lossyLoopsC5 : ((Rows.lossyLoopsRow.stops == [])) = true := by kernel_rfl
theorem lossyLoopsC6 : ((Tryz.prog.stops == [])) = true := by kernel_rfl
theorem lossyLoopsC7 : ((Rows.lossyLoopsRow.knobs == [])) = true := by kernel_rfl
theorem lossyLoopsC8 : ((Tryz.prog.stopKnobs == [])) = true := by kernel_rfl
theorem lossyLoopsC9 : ((Rows.lossyLoopsRow.inPlace == Tryz.prog.inPlace 5)) = true := by kernel_rfl
theorem lossyLoopsC10 : ((Rows.lossyLoopsRow.unfollowed == Tryz.prog.unfollowed 5)) = true := by kernel_rfl
theorem lossyLoopsC11 : ((Rows.lossyLoopsRow.recurses == Tryz.prog.recurses 5)) = true := by kernel_rfl
theorem lossyLoopsC12 : ((Rows.lossyLoopsRow.named == Tryz.prog.varsNamed 5)) = true := by kernel_rfl
theorem lossyLoopsC13 : ((Rows.lossyLoopsRow.maps == (Tryz.f5.params.toList ++ Rows.lossyLoopsSpec.plain.varTypes Tryz.prog).any (Tryz.prog.mapsRec ·))) = true := by kernel_rfl
theorem lossyLoopsC14 : ((Rows.lossyLoopsRow.ifaces == (Tryz.f5.params.toList ++ Rows.lossyLoopsSpec.plain.varTypes Tryz.prog).any (Tryz.prog.ifacesRec ·))) = true := by kernel_rfl
theorem lossyLoopsC15 : ((Rows.lossyLoopsRow.mapsOut == Tryz.prog.mapsAmong Tryz.f5.resultTypes.toList)) = true := by kernel_rfl
theorem lossyLoopsC16 : ((Rows.lossyLoopsRow.loops == (Tryz.f5.params.toList ++ Rows.lossyLoopsSpec.plain.varTypes Tryz.prog).any (Tryz.prog.loopsFrom ·))) = true := by kernel_rfl
theorem lossyLoopsC17 : ((Rows.lossyLoopsRow.wideKeys == (Tryz.f5.params.toList ++ Rows.lossyLoopsSpec.plain.varTypes Tryz.prog ++ Tryz.f5.resultTypes.toList).any (Tryz.prog.wideKeysFrom ·))) = true := by kernel_rfl
theorem lossyLoopsC18 : (Rows.lossyLoopsSpec.vars.all (Tryz.prog.varReadable ·)) = true := by kernel_rfl
theorem lossyLoopsC19 : (Tryz.f5.resultTypes.all (fun t => Tryz.prog.readableRec t && decide (t < Tryz.prog.types.size))) = true := by kernel_rfl
theorem lossyLoopsC20 : ((Rows.lossyLoopsRow.ifacesOut == Tryz.f5.resultTypes.toList.any (Tryz.prog.ifacesRec ·))) = true := by kernel_rfl
theorem lossyLoopsC21 : ((Rows.lossyLoopsRow.loopsOut == Tryz.f5.resultTypes.toList.any (Tryz.prog.loopsFrom ·))) = true := by kernel_rfl
theorem lossyLoopsC22 : ((Rows.lossyLoopsRow.plainKeys == Tryz.prog.plainKeys)) = true := by kernel_rfl
theorem lossyLoopsC23 : (Rows.lossyLoopsRow.shortTexts.isNone) = true := by kernel_rfl
theorem lossyLoopsC27 : ((Tryz.prog.make == some Rows.lossyLoopsRow.make)) = true := by kernel_rfl
theorem lossyLoopsC28 : ((Rows.lossyLoopsRow.kinds == (if Rows.lossyLoopsRow.domain.isEmpty then [] else Tryz.f5.params.toList.map fun t => match Tryz.prog.underlying t with | some (.int k) => some k | _ => none))) = true := by kernel_rfl
theorem lossyLoopsC29 : ((Rows.lossyLoopsRow.pinned == Rows.lossyLoopsRow.pinnedBy)) = true := by kernel_rfl
theorem lossyLoopsC30 : ((Rows.lossyLoopsRow.veiled == (Tryz.f5.params.toList ++ Rows.lossyLoopsSpec.plain.varTypes Tryz.prog ++ Tryz.f5.resultTypes.toList).any (Tryz.prog.veiledRec ·))) = true := by kernel_rfl
theorem lossyLoopsC31 : (Rows.lossyLoopsRow.veiledFits Tryz.prog Tryz.f5.params.toList (Tryz.f5.params.toList ++ Rows.lossyLoopsSpec.plain.varTypes Tryz.prog ++ Tryz.f5.resultTypes.toList)) = true := by kernel_rfl
end Go.Proofs.YtebcmlhgfmkpnaaGreat
