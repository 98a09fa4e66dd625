/- Closed31 -/
import Derived.Test.YtebcmlhgfmkpnaaGreatg23
namespace Go.Proofs.YtebcmlhgfmkpnaaGreat
open Go.ChangeShapes Go.WideShapes Go.ChangeAt Go.RowKit Go.AM
theorem and_mk {a b : Bool} (h1 : a = true) (h2 : b = true) : (a && b) = true := by rw [h1, h2]; rfl
theorem cLaid : laidOutB Tryz.prog = true := by kernel_rfl
theorem cRowed : mapsRowed Tryz.prog = true := by kernel_rfl
theorem cHeard : Tryz.prog.stopsHeard = true := by kernel_rfl
theorem cEnter : Tryz.prog.mayEnter = true := by kernel_rfl
theorem cLifts : (Rows.lossyLoopsRow.lifted == Tryz.prog.liftsFinal) = true := by kernel_rfl
theorem lossyMaximalC0 : (Rows.lossyMaximalRow.wf (OpenSpec.ofChange Rows.lossyMaximalSpec)) = true := by kernel_rfl
theorem lossyMaximalC3 : (Tryz.f4.params.all (Tryz.prog.readableRec ·)) = true := by kernel_rfl
theorem lossyMaximalC4 : (namedTie Tryz.prog Rows.lossyMaximalRow.named Rows.lossyMaximalSpec.vars) = true := by kernel_rfl
theorem lossyMaximalC5 : ((Rows.lossyMaximalRow.stops == [])) = true := by kernel_rfl
theorem lossyMaximalC6 : ((Tryz.prog.stops == [])) = true := by kernel_rfl
theorem lossyMaximalC7 : ((Rows.lossyMaximalRow.knobs == [])) = true := by kernel_rfl
theorem lossyMaximalC8 : ((Tryz.prog.stopKnobs == [])) = true := by kernel_rfl
theorem lossyMaximalC9 : ((Rows.lossyMaximalRow.inPlace == Tryz.prog.inPlace 4)) = true := by kernel_rfl
theorem lossyMaximalC10 : ((Rows.lossyMaximalRow.unfollowed == Tryz.prog.unfollowed 4)) = true := by kernel_rfl
theorem lossyMaximalC11 : ((Rows.lossyMaximalRow.recurses == Tryz.prog.recurses 4)) = true := by kernel_rfl
theorem lossyMaximalC12 : ((Rows.lossyMaximalRow.named == Tryz.prog.varsNamed 4)) = true := by kernel_rfl
theorem lossyMaximalC13 : ((Rows.lossyMaximalRow.maps == (Tryz.f4.params.toList ++ Rows.lossyMaximalSpec.plain.varTypes Tryz.prog).any (Tryz.prog.mapsRec ·))) = true := by kernel_rfl
theorem lossyMaximalC14 : ((Rows.lossyMaximalRow.ifaces == (Tryz.f4.params.toList ++ Rows.lossyMaximalSpec.plain.varTypes Tryz.prog).any (Tryz.prog.ifacesRec ·))) = true := by kernel_rfl
theorem lossyMaximalC15 : ((Rows.lossyMaximalRow.mapsOut == Tryz.prog.mapsAmong Tryz.f4.resultTypes.toList)) = true := by kernel_rfl
theorem lossyMaximalC16 : ((Rows.lossyMaximalRow.loops == (Tryz.f4.params.toList ++ Rows.lossyMaximalSpec.plain.varTypes Tryz.prog).any (Tryz.prog.loopsFrom ·))) = true := by kernel_rfl
theorem lossyMaximalC17 : ((Rows.lossyMaximalRow.wideKeys == (Tryz.f4.params.toList ++ Rows.lossyMaximalSpec.plain.varTypes Tryz.prog ++ Tryz.f4.resultTypes.toList).any (Tryz.prog.wideKeysFrom ·))) = true := by kernel_rfl
theorem lossyMaximalC18 : (Rows.lossyMaximalSpec.vars.all (Tryz.prog.varReadable ·)) = true := by kernel_rfl
theorem lossyMaximalC19 : (Tryz.f4.resultTypes.all (fun t => Tryz.prog.readableRec t && decide (t < Tryz.prog.types.size))) = true := by kernel_rfl
theorem lossyMaximalC20 : ((Rows.lossyMaximalRow.ifacesOut == Tryz.f4.resultTypes.toList.any (Tryz.prog.ifacesRec ·))) = true := by kernel_rfl
theorem lossyMaximalC21 : ((Rows.lossyMaximalRow.loopsOut == Tryz.f4.resultTypes.toList.any (Tryz.prog.loopsFrom ·))) = true := by kernel_rfl
theorem lossyMaximalC22 : ((Rows.lossyMaximalRow.plainKeys == Tryz.prog.plainKeys)) = true := by kernel_rfl
theorem lossyMaximalC23 : (Rows.lossyMaximalRow.shortTexts.isNone) = true := by kernel_rfl
theorem lossyMaximalC27 : ((Tryz.prog.make == some Rows.lossyMaximalRow.make)) = true := by kernel_rfl
theorem lossyMaximalC28 : ((Rows.lossyMaximalRow.kinds == (if Rows.lossyMaximalRow.domain.isEmpty then [] else Tryz.f4.params.toList.map fun t => match Tryz.prog.underlying t with | some (.int k) => some k | _ => none))) = true := by kernel_rfl
theorem lossyMaximalC29 : ((Rows.lossyMaximalRow.pinned == Rows.lossyMaximalRow.pinnedBy)) = true := by kernel_rfl
theorem lossyMaximalC30 : ((Rows.lossyMaximalRow.veiled == (Tryz.f4.params.toList ++ Rows.lossyMaximalSpec.plain.varTypes Tryz.prog ++ Tryz.f4.resultTypes.toList).any (Tryz.prog.veiledRec ·))) = true := by kernel_rfl
theorem lossyMaximalC31 : (Rows.lossyMaximalRow.veiledFits Tryz.prog Tryz.f4.params.toList (Tryz.f4.params.toList ++ Rows.lossyMaximalSpec.plain.varTypes Tryz.prog ++ Tryz.f4.resultTypes.toList)) = true := by kernel_rfl
end Go.Proofs.YtebcmlhgfmkpnaaGreat
