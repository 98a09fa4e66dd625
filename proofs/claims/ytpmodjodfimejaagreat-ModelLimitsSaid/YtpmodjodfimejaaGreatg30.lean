/-
  Closed facts of rows, one by one.
  Closed facts of rows, together.
-/
import Derived.Test.YtpmodjodfimejaaGreatg16
/-! ## Closed1Q -/
namespace Go.Proofs.YtpmodjodfimejaaGreat
open Go.ChangeShapes Go.WideShapes Go.ChangeAt Go.RowKit Go.AM
theorem and_mk {a b : Bool} (h1 : a = true) (h2 : b = true) : (a && b) = true := by rw [h1, h2]; rfl
theorem cLaid : laidOutB Tryz.prog = true := by kernel_rfl
theorem cRowed : mapsRowed Tryz.prog = true := by kernel_rfl
theorem cHeard : Tryz.prog.stopsHeard = true := by kernel_rfl
theorem cEnter : Tryz.prog.mayEnter = true := by kernel_rfl
theorem cLifts : (Rows.modelLimitsRow.lifted == Tryz.prog.liftsFinal) = true := by kernel_rfl
theorem modelLimitsC0 : (Rows.modelLimitsRow.wf (OpenSpec.ofChange Rows.modelLimitsSpec)) = true := by kernel_rfl
theorem modelLimitsC3 : (Tryz.f7.params.all (Tryz.prog.readableRec ·)) = true := by kernel_rfl
theorem modelLimitsC4 : (namedTie Tryz.prog Rows.modelLimitsRow.named Rows.modelLimitsSpec.vars) = true := by kernel_rfl
theorem modelLimitsC5 : ((Rows.modelLimitsRow.stops == [])) = true := by kernel_rfl
theorem modelLimitsC6 : ((Tryz.prog.stops == [])) = true := by kernel_rfl
theorem modelLimitsC7 : ((Rows.modelLimitsRow.knobs == [])) = true := by kernel_rfl
theorem modelLimitsC8 : ((Tryz.prog.stopKnobs == [])) = true := by kernel_rfl
theorem modelLimitsC9 : ((Rows.modelLimitsRow.inPlace == Tryz.prog.inPlace 7)) = true := by kernel_rfl
theorem modelLimitsC10 : ((Rows.modelLimitsRow.unfollowed == Tryz.prog.unfollowed 7)) = true := by kernel_rfl
theorem modelLimitsC11 : ((Rows.modelLimitsRow.recurses == Tryz.prog.recurses 7)) = true := by kernel_rfl
theorem modelLimitsC12 : ((Rows.modelLimitsRow.named == Tryz.prog.varsNamed 7)) = true := by kernel_rfl
theorem modelLimitsC13 : ((Rows.modelLimitsRow.maps == (Tryz.f7.params.toList ++ Rows.modelLimitsSpec.plain.varTypes Tryz.prog).any (Tryz.prog.mapsRec ·))) = true := by kernel_rfl
theorem modelLimitsC14 : ((Rows.modelLimitsRow.ifaces == (Tryz.f7.params.toList ++ Rows.modelLimitsSpec.plain.varTypes Tryz.prog).any (Tryz.prog.ifacesRec ·))) = true := by kernel_rfl
theorem modelLimitsC15 : ((Rows.modelLimitsRow.mapsOut == Tryz.prog.mapsAmong Tryz.f7.resultTypes.toList)) = true := by kernel_rfl
theorem modelLimitsC16 : ((Rows.modelLimitsRow.loops == (Tryz.f7.params.toList ++ Rows.modelLimitsSpec.plain.varTypes Tryz.prog).any (Tryz.prog.loopsFrom ·))) = true := by kernel_rfl
theorem modelLimitsC17 : ((Rows.modelLimitsRow.wideKeys == (Tryz.f7.params.toList ++ Rows.modelLimitsSpec.plain.varTypes Tryz.prog ++ Tryz.f7.resultTypes.toList).any (Tryz.prog.wideKeysFrom ·))) = true := by kernel_rfl
theorem modelLimitsC18 : (Rows.modelLimitsSpec.vars.all (Tryz.prog.varReadable ·)) = true := by kernel_rfl
theorem modelLimitsC19 : (Tryz.f7.resultTypes.all (fun t => Tryz.prog.readableRec t && decide (t < Tryz.prog.types.size))) = true := by kernel_rfl
theorem modelLimitsC20 : ((Rows.modelLimitsRow.ifacesOut == Tryz.f7.resultTypes.toList.any (Tryz.prog.ifacesRec ·))) = true := by kernel_rfl
theorem modelLimitsC21 : ((Rows.modelLimitsRow.loopsOut == Tryz.f7.resultTypes.toList.any (Tryz.prog.loopsFrom ·))) = true := by kernel_rfl
theorem modelLimitsC22 : ((Rows.modelLimitsRow.plainKeys == Tryz.prog.plainKeys)) = true := by kernel_rfl
theorem modelLimitsC23 : (Rows.modelLimitsRow.shortTexts.isNone) = true := by kernel_rfl
theorem modelLimitsC27 : ((Tryz.prog.make == some Rows.modelLimitsRow.make)) = true := by kernel_rfl
theorem modelLimitsC28 : ((Rows.modelLimitsRow.kinds == (if Rows.modelLimitsRow.domain.isEmpty then [] else Tryz.f7.params.toList.map fun t => match Tryz.prog.underlying t with | some (.int k) => some k | _ => none))) = true := by kernel_rfl
theorem modelLimitsC29 : ((Rows.modelLimitsRow.pinned == Rows.modelLimitsRow.pinnedBy)) = true := by kernel_rfl
theorem modelLimitsC30 : ((Rows.modelLimitsRow.veiled == (Tryz.f7.params.toList ++ Rows.modelLimitsSpec.plain.varTypes Tryz.prog ++ Tryz.f7.resultTypes.toList).any (Tryz.prog.veiledRec ·))) = true := by kernel_rfl
theorem modelLimitsC31 : (Rows.modelLimitsRow.veiledFits Tryz.prog Tryz.f7.params.toList (Tryz.f7.params.toList ++ Rows.modelLimitsSpec.plain.varTypes Tryz.prog ++ Tryz.f7.resultTypes.toList)) = true := by kernel_rfl
end Go.Proofs.YtpmodjodfimejaaGreat

/-! ## Closed1Qz -/
namespace Go.Proofs.YtpmodjodfimejaaGreat
open Go.ChangeShapes Go.WideShapes Go.ChangeAt Go.RowKit Go.AM
set_option maxRecDepth 100000
theorem modelLimitsClosed : joinedFacts Tryz.prog 7 Tryz.f7 Rows.modelLimitsSpec Rows.modelLimitsRow = true := by
 unfold joinedFacts
 exact and_mk (and_mk (and_mk (and_mk (and_mk (and_mk (and_mk (and_mk (and_mk (and_mk (and_mk (and_mk (and_mk (and_mk (and_mk (and_mk (and_mk (and_mk (and_mk (and_mk (and_mk (and_mk (and_mk (and_mk (and_mk (and_mk (and_mk (and_mk (and_mk (and_mk (and_mk modelLimitsC0 cLaid) cRowed) modelLimitsC3) modelLimitsC4) modelLimitsC5) modelLimitsC6) modelLimitsC7) modelLimitsC8) modelLimitsC9) modelLimitsC10) modelLimitsC11) modelLimitsC12) modelLimitsC13) modelLimitsC14) modelLimitsC15) modelLimitsC16) modelLimitsC17) modelLimitsC18) modelLimitsC19) modelLimitsC20) modelLimitsC21) modelLimitsC22) modelLimitsC23) cHeard) cEnter) cLifts) modelLimitsC27) modelLimitsC28) modelLimitsC29) modelLimitsC30) modelLimitsC31
theorem modelLimitsNamed : Tryz.prog.funcNamed Rows.modelLimitsRow.func = some 7 := by kernel_rfl
end Go.Proofs.YtpmodjodfimejaaGreat
