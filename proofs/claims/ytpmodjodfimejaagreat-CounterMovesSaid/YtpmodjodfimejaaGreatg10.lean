/-
  Closed facts of rows, one by one.
  Closed facts of rows, together.
-/
import Derived.Test.YtpmodjodfimejaaGreatg9
/-! ## Closed1M -/
namespace Go.Proofs.YtpmodjodfimejaaGreat
open Go.ChangeShapes Go.WideShapes Go.ChangeAt Go.RowKit Go.AM

theorem and_mk {a b : Bool} (h1 : a = true) (h2 : b = true) : (a && b) = true := by rw [h1, h2]; rfl
theorem cLaid : laidOutB Tryz.prog = true := by kernel_rfl
theorem cRowed : mapsRowed Tryz.prog = true := by kernel_rfl
theorem cHeard : Tryz.prog.stopsHeard = true := by kernel_rfl
theorem cEnter : Tryz.prog.mayEnter = true := by kernel_rfl
theorem cLifts : (Rows.counterMovesRow.lifted == Tryz.prog.liftsFinal) = true := by kernel_rfl
theorem counterMovesC0 : (Rows.counterMovesRow.wf (OpenSpec.ofChange Rows.counterMovesSpec)) = true := by kernel_rfl
theorem counterMovesC3 : (Tryz.f11.params.all (Tryz.prog.readableRec ·)) = true := by kernel_rfl
theorem counterMovesC4 : (namedTie Tryz.prog Rows.counterMovesRow.named Rows.counterMovesSpec.vars) = true := by kernel_rfl
theorem counterMovesC5 : ((Rows.counterMovesRow.stops == [])) = true := by kernel_rfl
theorem counterMovesC6 : ((Tryz.prog.stops == [])) = true := by kernel_rfl
theorem counterMovesC7 : ((Rows.counterMovesRow.knobs == [])) = true := by kernel_rfl
theorem counterMovesC8 : ((Tryz.prog.stopKnobs == [])) = true := by kernel_rfl
theorem counterMovesC9 : ((Rows.counterMovesRow.inPlace == Tryz.prog.inPlace 11)) = true := by kernel_rfl
theorem counterMovesC10 : ((Rows.counterMovesRow.unfollowed == Tryz.prog.unfollowed 11)) = true := by kernel_rfl
theorem counterMovesC11 : ((Rows.counterMovesRow.recurses == Tryz.prog.recurses 11)) = true := by kernel_rfl
theorem counterMovesC12 : ((Rows.counterMovesRow.named == Tryz.prog.varsNamed 11)) = true := by kernel_rfl
theorem counterMovesC13 : ((Rows.counterMovesRow.maps == (Tryz.f11.params.toList ++ Rows.counterMovesSpec.plain.varTypes Tryz.prog).any (Tryz.prog.mapsRec ·))) = true := by kernel_rfl
theorem counterMovesC14 : ((Rows.counterMovesRow.ifaces == (Tryz.f11.params.toList ++ Rows.counterMovesSpec.plain.varTypes Tryz.prog).any (Tryz.prog.ifacesRec ·))) = true := by kernel_rfl
theorem counterMovesC15 : ((Rows.counterMovesRow.mapsOut == Tryz.prog.mapsAmong Tryz.f11.resultTypes.toList)) = true := by kernel_rfl
theorem counterMovesC16 : ((Rows.counterMovesRow.loops == (Tryz.f11.params.toList ++ Rows.counterMovesSpec.plain.varTypes Tryz.prog).any (Tryz.prog.loopsFrom ·))) = true := by kernel_rfl
theorem counterMovesC17 : ((Rows.counterMovesRow.wideKeys == (Tryz.f11.params.toList ++ Rows.counterMovesSpec.plain.varTypes Tryz.prog ++ Tryz.f11.resultTypes.toList).any (Tryz.prog.wideKeysFrom ·))) = true := by kernel_rfl
theorem counterMovesC18 : (Rows.counterMovesSpec.vars.all (Tryz.prog.varReadable ·)) = true := by kernel_rfl
theorem counterMovesC19 : (Tryz.f11.resultTypes.all (fun t => Tryz.prog.readableRec t && decide (t < Tryz.prog.types.size))) = true := by kernel_rfl
theorem counterMovesC20 : ((Rows.counterMovesRow.ifacesOut == Tryz.f11.resultTypes.toList.any (Tryz.prog.ifacesRec ·))) = true := by kernel_rfl
theorem counterMovesC21 : ((Rows.counterMovesRow.loopsOut == Tryz.f11.resultTypes.toList.any (Tryz.prog.loopsFrom ·))) = true := by kernel_rfl
theorem counterMovesC22 : ((Rows.counterMovesRow.plainKeys == Tryz.prog.plainKeys)) = true := by kernel_rfl
theorem counterMovesC23 : (Rows.counterMovesRow.shortTexts.isNone) = true := by kernel_rfl
theorem counterMovesC27 : ((Tryz.prog.make == some Rows.counterMovesRow.make)) = true := by kernel_rfl
theorem counterMovesC28 : ((Rows.counterMovesRow.kinds == (if Rows.counterMovesRow.domain.isEmpty then [] else Tryz.f11.params.toList.map fun t => match Tryz.prog.underlying t with | some (.int k) => some k | _ => none))) = true := by kernel_rfl
theorem counterMovesC29 : ((Rows.counterMovesRow.pinned == Rows.counterMovesRow.pinnedBy)) = true := by kernel_rfl
theorem counterMovesC30 : ((Rows.counterMovesRow.veiled == (Tryz.f11.params.toList ++ Rows.counterMovesSpec.plain.varTypes Tryz.prog ++ Tryz.f11.resultTypes.toList).any (Tryz.prog.veiledRec ·))) = true := by kernel_rfl
theorem counterMovesC31 : (Rows.counterMovesRow.veiledFits Tryz.prog Tryz.f11.params.toList (Tryz.f11.params.toList ++ Rows.counterMovesSpec.plain.varTypes Tryz.prog ++ Tryz.f11.resultTypes.toList)) = true := by kernel_rfl
end Go.Proofs.YtpmodjodfimejaaGreat

/-! ## Closed1Mz -/
namespace Go.Proofs.YtpmodjodfimejaaGreat
open Go.ChangeShapes Go.WideShapes Go.ChangeAt Go.RowKit Go.AM

set_option maxRecDepth 100000 in
theorem counterMovesClosed : joinedFacts Tryz.prog 11 Tryz.f11 Rows.counterMovesSpec Rows.counterMovesRow = true := by
  unfold joinedFacts
  exact and_mk (and_mk (and_mk (and_mk (and_mk (and_mk (and_mk (and_mk (and_mk (and_mk (and_mk (and_mk (and_mk (and_mk (and_mk (and_mk (and_mk (and_mk (and_mk (and_mk (and_mk (and_mk (and_mk (and_mk (and_mk (and_mk (and_mk (and_mk (and_mk (and_mk (and_mk counterMovesC0 cLaid) cRowed) counterMovesC3) counterMovesC4) counterMovesC5) counterMovesC6) counterMovesC7) counterMovesC8) counterMovesC9) counterMovesC10) counterMovesC11) counterMovesC12) counterMovesC13) counterMovesC14) counterMovesC15) counterMovesC16) counterMovesC17) counterMovesC18) counterMovesC19) counterMovesC20) counterMovesC21) counterMovesC22) counterMovesC23) cHeard) cEnter) cLifts) counterMovesC27) counterMovesC28) counterMovesC29) counterMovesC30) counterMovesC31
theorem counterMovesNamed : Tryz.prog.funcNamed Rows.counterMovesRow.func = some 11 := by kernel_rfl
end Go.Proofs.YtpmodjodfimejaaGreat
