/-
  No cell of these rows narrows 'for every input' (looked for: loops, veiled, ifaces, maps, wideKeys, modest, calm, conditions, laid).
  DERIVED. THE GIVEN ROWS OF THIS SEAT. 10 by the template 'for every input the law returns true; each argument reads behind the call as it read before'; 0 by the template 'total and deterministic' (their statements: YtlldkikmjeeamaaGreatTotals.lean).
  GIVEN WITH THE SEED: the statements are not yours to turn. If you find one false, say at which input.
  Laid BY PROGRAM, IN A SANDBOX (cutbox-rows.mjs): the forced cells as the released guide's own fill.sh prints them over the translation e0f79bb7f9321791… (all of the seat's roots in one cut). By AI agents, Wed Nov 11 2026. No macro, syntax, notation, axiom, sorry.
-/
import Derived.Test.YtlldkikmjeeamaaGreatChecked
import GoSem.Claim
import GoSem.ClaimJoined
import GoSem.ClaimMapViews
import Derived.JoinedTies
import Derived.KernelRfl
namespace Go.Proofs.YtlldkikmjeeamaaGreat
/- THE CELL 'sum', in the pinned program and in every row, IS THE sha256 OF THE DUMP (.gsa) THAT YtlldkikmjeeamaaGreatProg.lean LOADS. Nothing in Lean hashes anything: it is a label: what it is worth is what the hold of that sum in a sandbox is worth. -/
noncomputable def Tryz.pinned : Pinned := { name := "ytlldkikmjeeamaagreat", sum := "e0f79bb7f9321791fc4d0f62ea277e11d85cd16dbc6098f52a54f1d04a8b337d", checked := Tryz.checked }
namespace Rows
def none {H : Type} : Left H := { results := [], args := [] }

/-- 'coverabilitylaw30.FlatRuns': WHATEVER THE INPUT: true; the input reads as it did. -/
def flatRunsSpec : ChangeSpec := { name := "flatRuns", fn := fun _ => fun
  | [d] => { results := [.lit (.bool true)], args := [d] }
  | _ => none }
def flatRunsRow : OpenClaim := { program := "ytlldkikmjeeamaagreat", sum := "e0f79bb7f9321791fc4d0f62ea277e11d85cd16dbc6098f52a54f1d04a8b337d", func := "coverability/coverabilitylaw30.FlatRuns", spec := "flatRuns", unfollowed := true, recurses := true, apart := false }
def FlatRunsSaid : Prop := flatRunsRow.holds Tryz.pinned (OpenSpec.ofChange flatRunsSpec)

/-- ITS FALSE NEIGHBOUR: 'it returns false'. Refute it at one input. -/
def flatRunsWrong : ChangeSpec := { name := "flatRuns", fn := fun _ => fun
  | [d] => { results := [.lit (.bool false)], args := [d] }
  | _ => none }
def FlatRunsWrongFalsely : Prop := flatRunsRow.holds Tryz.pinned (OpenSpec.ofChange flatRunsWrong)

/-- 'coverabilitylaw30.FlatReaches': WHATEVER THE INPUT: true; the input reads as it did. -/
def flatReachesSpec : ChangeSpec := { name := "flatReaches", fn := fun _ => fun
  | [d] => { results := [.lit (.bool true)], args := [d] }
  | _ => none }
def flatReachesRow : OpenClaim := { program := "ytlldkikmjeeamaagreat", sum := "e0f79bb7f9321791fc4d0f62ea277e11d85cd16dbc6098f52a54f1d04a8b337d", func := "coverability/coverabilitylaw30.FlatReaches", spec := "flatReaches", unfollowed := true, recurses := true, apart := false }
def FlatReachesSaid : Prop := flatReachesRow.holds Tryz.pinned (OpenSpec.ofChange flatReachesSpec)

/-- ITS FALSE NEIGHBOUR: 'it returns false'. Refute it at one input. -/
def flatReachesWrong : ChangeSpec := { name := "flatReaches", fn := fun _ => fun
  | [d] => { results := [.lit (.bool false)], args := [d] }
  | _ => none }
def FlatReachesWrongFalsely : Prop := flatReachesRow.holds Tryz.pinned (OpenSpec.ofChange flatReachesWrong)

/-- 'coverabilitylaw30.FlatSets': WHATEVER THE INPUT: true; the input reads as it did. -/
def flatSetsSpec : ChangeSpec := { name := "flatSets", fn := fun _ => fun
  | [d] => { results := [.lit (.bool true)], args := [d] }
  | _ => none }
def flatSetsRow : OpenClaim := { program := "ytlldkikmjeeamaagreat", sum := "e0f79bb7f9321791fc4d0f62ea277e11d85cd16dbc6098f52a54f1d04a8b337d", func := "coverability/coverabilitylaw30.FlatSets", spec := "flatSets", unfollowed := true, recurses := true, apart := false }
def FlatSetsSaid : Prop := flatSetsRow.holds Tryz.pinned (OpenSpec.ofChange flatSetsSpec)

/-- ITS FALSE NEIGHBOUR: 'it returns false'. Refute it at one input. -/
def flatSetsWrong : ChangeSpec := { name := "flatSets", fn := fun _ => fun
  | [d] => { results := [.lit (.bool false)], args := [d] }
  | _ => none }
def FlatSetsWrongFalsely : Prop := flatSetsRow.holds Tryz.pinned (OpenSpec.ofChange flatSetsWrong)

/-- 'coverabilitylaw30.FlatCycles': WHATEVER THE INPUT: true; the input reads as it did. -/
def flatCyclesSpec : ChangeSpec := { name := "flatCycles", fn := fun _ => fun
  | [d1, d2] => { results := [.lit (.bool true)], args := [d1, d2] }
  | _ => none }
def flatCyclesRow : OpenClaim := { program := "ytlldkikmjeeamaagreat", sum := "e0f79bb7f9321791fc4d0f62ea277e11d85cd16dbc6098f52a54f1d04a8b337d", func := "coverability/coverabilitylaw30.FlatCycles", spec := "flatCycles", unfollowed := true, recurses := true, apart := false }
def FlatCyclesSaid : Prop := flatCyclesRow.holds Tryz.pinned (OpenSpec.ofChange flatCyclesSpec)

/-- ITS FALSE NEIGHBOUR: 'it returns false'. Refute it at one input. -/
def flatCyclesWrong : ChangeSpec := { name := "flatCycles", fn := fun _ => fun
  | [d1, d2] => { results := [.lit (.bool false)], args := [d1, d2] }
  | _ => none }
def FlatCyclesWrongFalsely : Prop := flatCyclesRow.holds Tryz.pinned (OpenSpec.ofChange flatCyclesWrong)

/-- 'coverabilitylaw32.InvariantHolds': WHATEVER THE INPUT: true; the input reads as it did. -/
def invariantHoldsSpec : ChangeSpec := { name := "invariantHolds", fn := fun _ => fun
  | [d] => { results := [.lit (.bool true)], args := [d] }
  | _ => none }
def invariantHoldsRow : OpenClaim := { program := "ytlldkikmjeeamaagreat", sum := "e0f79bb7f9321791fc4d0f62ea277e11d85cd16dbc6098f52a54f1d04a8b337d", func := "coverability/coverabilitylaw32.InvariantHolds", spec := "invariantHolds", unfollowed := true, recurses := true, apart := false }
def InvariantHoldsSaid : Prop := invariantHoldsRow.holds Tryz.pinned (OpenSpec.ofChange invariantHoldsSpec)

/-- ITS FALSE NEIGHBOUR: 'it returns false'. Refute it at one input. -/
def invariantHoldsWrong : ChangeSpec := { name := "invariantHolds", fn := fun _ => fun
  | [d] => { results := [.lit (.bool false)], args := [d] }
  | _ => none }
def InvariantHoldsWrongFalsely : Prop := invariantHoldsRow.holds Tryz.pinned (OpenSpec.ofChange invariantHoldsWrong)

/-- 'coverabilitylaw32.InvariantStrongest': WHATEVER THE INPUT: true; the input reads as it did. -/
def invariantStrongestSpec : ChangeSpec := { name := "invariantStrongest", fn := fun _ => fun
  | [d] => { results := [.lit (.bool true)], args := [d] }
  | _ => none }
def invariantStrongestRow : OpenClaim := { program := "ytlldkikmjeeamaagreat", sum := "e0f79bb7f9321791fc4d0f62ea277e11d85cd16dbc6098f52a54f1d04a8b337d", func := "coverability/coverabilitylaw32.InvariantStrongest", spec := "invariantStrongest", unfollowed := true, recurses := true, apart := false }
def InvariantStrongestSaid : Prop := invariantStrongestRow.holds Tryz.pinned (OpenSpec.ofChange invariantStrongestSpec)

/-- ITS FALSE NEIGHBOUR: 'it returns false'. Refute it at one input. -/
def invariantStrongestWrong : ChangeSpec := { name := "invariantStrongest", fn := fun _ => fun
  | [d] => { results := [.lit (.bool false)], args := [d] }
  | _ => none }
def InvariantStrongestWrongFalsely : Prop := invariantStrongestRow.holds Tryz.pinned (OpenSpec.ofChange invariantStrongestWrong)

/-- 'coverabilitylaw32.InvariantWeaker': WHATEVER THE INPUT: true; the input reads as it did. -/
def invariantWeakerSpec : ChangeSpec := { name := "invariantWeaker", fn := fun _ => fun
  | [d1, d2] => { results := [.lit (.bool true)], args := [d1, d2] }
  | _ => none }
def invariantWeakerRow : OpenClaim := { program := "ytlldkikmjeeamaagreat", sum := "e0f79bb7f9321791fc4d0f62ea277e11d85cd16dbc6098f52a54f1d04a8b337d", func := "coverability/coverabilitylaw32.InvariantWeaker", spec := "invariantWeaker", unfollowed := true, recurses := true, apart := false }
def InvariantWeakerSaid : Prop := invariantWeakerRow.holds Tryz.pinned (OpenSpec.ofChange invariantWeakerSpec)

/-- ITS FALSE NEIGHBOUR: 'it returns false'. Refute it at one input. -/
def invariantWeakerWrong : ChangeSpec := { name := "invariantWeaker", fn := fun _ => fun
  | [d1, d2] => { results := [.lit (.bool false)], args := [d1, d2] }
  | _ => none }
def InvariantWeakerWrongFalsely : Prop := invariantWeakerRow.holds Tryz.pinned (OpenSpec.ofChange invariantWeakerWrong)

/-- 'coverabilitylaw30.FlatSteps': WHATEVER THE INPUT: true; the input reads as it did. -/
def flatStepsSpec : ChangeSpec := { name := "flatSteps", fn := fun _ => fun
  | [d1, d2, d3, d4, d5, d6, d7] => { results := [.lit (.bool true)], args := [d1, d2, d3, d4, d5, d6, d7] }
  | _ => none }
def flatStepsRow : OpenClaim := { program := "ytlldkikmjeeamaagreat", sum := "e0f79bb7f9321791fc4d0f62ea277e11d85cd16dbc6098f52a54f1d04a8b337d", func := "coverability/coverabilitylaw30.FlatSteps", spec := "flatSteps", unfollowed := true, recurses := true, apart := false }
def FlatStepsSaid : Prop := flatStepsRow.holds Tryz.pinned (OpenSpec.ofChange flatStepsSpec)

/-- ITS FALSE NEIGHBOUR: 'it returns false'. Refute it at one input. -/
def flatStepsWrong : ChangeSpec := { name := "flatSteps", fn := fun _ => fun
  | [d1, d2, d3, d4, d5, d6, d7] => { results := [.lit (.bool false)], args := [d1, d2, d3, d4, d5, d6, d7] }
  | _ => none }
def FlatStepsWrongFalsely : Prop := flatStepsRow.holds Tryz.pinned (OpenSpec.ofChange flatStepsWrong)

/-- 'coverabilitylaw32.InvariantCandidates': WHATEVER THE INPUT: true; the input reads as it did. -/
def invariantCandidatesSpec : ChangeSpec := { name := "invariantCandidates", fn := fun _ => fun
  | [d1, d2, d3] => { results := [.lit (.bool true)], args := [d1, d2, d3] }
  | _ => none }
def invariantCandidatesRow : OpenClaim := { program := "ytlldkikmjeeamaagreat", sum := "e0f79bb7f9321791fc4d0f62ea277e11d85cd16dbc6098f52a54f1d04a8b337d", func := "coverability/coverabilitylaw32.InvariantCandidates", spec := "invariantCandidates", unfollowed := true, recurses := true, apart := false }
def InvariantCandidatesSaid : Prop := invariantCandidatesRow.holds Tryz.pinned (OpenSpec.ofChange invariantCandidatesSpec)

/-- ITS FALSE NEIGHBOUR: 'it returns false'. Refute it at one input. -/
def invariantCandidatesWrong : ChangeSpec := { name := "invariantCandidates", fn := fun _ => fun
  | [d1, d2, d3] => { results := [.lit (.bool false)], args := [d1, d2, d3] }
  | _ => none }
def InvariantCandidatesWrongFalsely : Prop := invariantCandidatesRow.holds Tryz.pinned (OpenSpec.ofChange invariantCandidatesWrong)

/-- 'coverabilitylaw32.InvariantSteps': WHATEVER THE INPUT: true; the input reads as it did. -/
def invariantStepsSpec : ChangeSpec := { name := "invariantSteps", fn := fun _ => fun
  | [d1, d2, d3, d4, d5, d6] => { results := [.lit (.bool true)], args := [d1, d2, d3, d4, d5, d6] }
  | _ => none }
def invariantStepsRow : OpenClaim := { program := "ytlldkikmjeeamaagreat", sum := "e0f79bb7f9321791fc4d0f62ea277e11d85cd16dbc6098f52a54f1d04a8b337d", func := "coverability/coverabilitylaw32.InvariantSteps", spec := "invariantSteps", unfollowed := true, recurses := true, apart := false }
def InvariantStepsSaid : Prop := invariantStepsRow.holds Tryz.pinned (OpenSpec.ofChange invariantStepsSpec)

/-- ITS FALSE NEIGHBOUR: 'it returns false'. Refute it at one input. -/
def invariantStepsWrong : ChangeSpec := { name := "invariantSteps", fn := fun _ => fun
  | [d1, d2, d3, d4, d5, d6] => { results := [.lit (.bool false)], args := [d1, d2, d3, d4, d5, d6] }
  | _ => none }
def InvariantStepsWrongFalsely : Prop := invariantStepsRow.holds Tryz.pinned (OpenSpec.ofChange invariantStepsWrong)

/- THE SECOND FORM. 'bulk': how many values and letters a reading holds, each counted each time it is reached (what is shared counts as often as it is met; a slice's spare places count too). A statement '..UptoSaid' is the law's where the arguments, and the package variables that the reading takes, are together of bulk at most 1048576: NARROWER than '..Said'. Prove '..Said' where nothing that the law and all that it calls make is longer than what came in: it says more and counts as full. Else prove '..UptoSaid'. A law counts once. -/
mutual
def uptoBulk {H : Type} : DataW H → Nat
  | .lit (.string bytes) => bytes.length + 1
  | .lit _ => 1
  | .nil => 1
  | .ptr d => uptoBulk d + 1
  | .slice elems spare => uptoBulkAll elems + uptoBulkAll spare + 1
  | .agg parts => uptoBulkAll parts + 1
  | .iface _ d => uptoBulk d + 1
  | .map entries => uptoBulkEntries entries + 1
  | .held _ => 1
def uptoBulkAll {H : Type} : List (DataW H) → Nat
  | [] => 0
  | d :: r => uptoBulk d + uptoBulkAll r
def uptoBulkEntries {H : Type} : List (Lit × DataW H) → Nat
  | [] => 0
  | x :: r => uptoBulkEntry x + uptoBulkEntries r
def uptoBulkEntry {H : Type} : Lit × DataW H → Nat
  | (.string bytes, d) => bytes.length + uptoBulk d + 1
  | (_, d) => uptoBulk d + 1
 end
def uptoSmall : (H : Type) → List (DataW H) → Bool := fun _ ds => decide (uptoBulkAll ds ≤ 1048576)
def OpenSpec.upto (s : _root_.Go.ChangeSpec) : _root_.Go.OpenSpec := { _root_.Go.OpenSpec.ofChange s with cond := some uptoSmall }

/-- 'coverabilitylaw30.FlatRuns', WHERE WHAT IT READS IS OF BULK AT MOST 1048576: true; the input reads as it did. -/
def flatRunsUptoRow : OpenClaim := { program := "ytlldkikmjeeamaagreat", sum := "e0f79bb7f9321791fc4d0f62ea277e11d85cd16dbc6098f52a54f1d04a8b337d", func := "coverability/coverabilitylaw30.FlatRuns", spec := "flatRuns", unfollowed := true, recurses := true, apart := false, narrowed := true }
def FlatRunsUptoSaid : Prop := flatRunsUptoRow.holds Tryz.pinned (OpenSpec.upto flatRunsSpec)

/-- 'coverabilitylaw30.FlatReaches', WHERE WHAT IT READS IS OF BULK AT MOST 1048576: true; the input reads as it did. -/
def flatReachesUptoRow : OpenClaim := { program := "ytlldkikmjeeamaagreat", sum := "e0f79bb7f9321791fc4d0f62ea277e11d85cd16dbc6098f52a54f1d04a8b337d", func := "coverability/coverabilitylaw30.FlatReaches", spec := "flatReaches", unfollowed := true, recurses := true, apart := false, narrowed := true }
def FlatReachesUptoSaid : Prop := flatReachesUptoRow.holds Tryz.pinned (OpenSpec.upto flatReachesSpec)

/-- 'coverabilitylaw30.FlatSets', WHERE WHAT IT READS IS OF BULK AT MOST 1048576: true; the input reads as it did. -/
def flatSetsUptoRow : OpenClaim := { program := "ytlldkikmjeeamaagreat", sum := "e0f79bb7f9321791fc4d0f62ea277e11d85cd16dbc6098f52a54f1d04a8b337d", func := "coverability/coverabilitylaw30.FlatSets", spec := "flatSets", unfollowed := true, recurses := true, apart := false, narrowed := true }
def FlatSetsUptoSaid : Prop := flatSetsUptoRow.holds Tryz.pinned (OpenSpec.upto flatSetsSpec)

/-- 'coverabilitylaw30.FlatCycles', WHERE WHAT IT READS IS OF BULK AT MOST 1048576: true; the input reads as it did. -/
def flatCyclesUptoRow : OpenClaim := { program := "ytlldkikmjeeamaagreat", sum := "e0f79bb7f9321791fc4d0f62ea277e11d85cd16dbc6098f52a54f1d04a8b337d", func := "coverability/coverabilitylaw30.FlatCycles", spec := "flatCycles", unfollowed := true, recurses := true, apart := false, narrowed := true }
def FlatCyclesUptoSaid : Prop := flatCyclesUptoRow.holds Tryz.pinned (OpenSpec.upto flatCyclesSpec)

/-- 'coverabilitylaw32.InvariantHolds', WHERE WHAT IT READS IS OF BULK AT MOST 1048576: true; the input reads as it did. -/
def invariantHoldsUptoRow : OpenClaim := { program := "ytlldkikmjeeamaagreat", sum := "e0f79bb7f9321791fc4d0f62ea277e11d85cd16dbc6098f52a54f1d04a8b337d", func := "coverability/coverabilitylaw32.InvariantHolds", spec := "invariantHolds", unfollowed := true, recurses := true, apart := false, narrowed := true }
def InvariantHoldsUptoSaid : Prop := invariantHoldsUptoRow.holds Tryz.pinned (OpenSpec.upto invariantHoldsSpec)

/-- 'coverabilitylaw32.InvariantStrongest', WHERE WHAT IT READS IS OF BULK AT MOST 1048576: true; the input reads as it did. -/
def invariantStrongestUptoRow : OpenClaim := { program := "ytlldkikmjeeamaagreat", sum := "e0f79bb7f9321791fc4d0f62ea277e11d85cd16dbc6098f52a54f1d04a8b337d", func := "coverability/coverabilitylaw32.InvariantStrongest", spec := "invariantStrongest", unfollowed := true, recurses := true, apart := false, narrowed := true }
def InvariantStrongestUptoSaid : Prop := invariantStrongestUptoRow.holds Tryz.pinned (OpenSpec.upto invariantStrongestSpec)

/-- 'coverabilitylaw32.InvariantWeaker', WHERE WHAT IT READS IS OF BULK AT MOST 1048576: true; the input reads as it did. -/
def invariantWeakerUptoRow : OpenClaim := { program := "ytlldkikmjeeamaagreat", sum := "e0f79bb7f9321791fc4d0f62ea277e11d85cd16dbc6098f52a54f1d04a8b337d", func := "coverability/coverabilitylaw32.InvariantWeaker", spec := "invariantWeaker", unfollowed := true, recurses := true, apart := false, narrowed := true }
def InvariantWeakerUptoSaid : Prop := invariantWeakerUptoRow.holds Tryz.pinned (OpenSpec.upto invariantWeakerSpec)

/-- 'coverabilitylaw30.FlatSteps', WHERE WHAT IT READS IS OF BULK AT MOST 1048576: true; the input reads as it did. -/
def flatStepsUptoRow : OpenClaim := { program := "ytlldkikmjeeamaagreat", sum := "e0f79bb7f9321791fc4d0f62ea277e11d85cd16dbc6098f52a54f1d04a8b337d", func := "coverability/coverabilitylaw30.FlatSteps", spec := "flatSteps", unfollowed := true, recurses := true, apart := false, narrowed := true }
def FlatStepsUptoSaid : Prop := flatStepsUptoRow.holds Tryz.pinned (OpenSpec.upto flatStepsSpec)

/-- 'coverabilitylaw32.InvariantCandidates', WHERE WHAT IT READS IS OF BULK AT MOST 1048576: true; the input reads as it did. -/
def invariantCandidatesUptoRow : OpenClaim := { program := "ytlldkikmjeeamaagreat", sum := "e0f79bb7f9321791fc4d0f62ea277e11d85cd16dbc6098f52a54f1d04a8b337d", func := "coverability/coverabilitylaw32.InvariantCandidates", spec := "invariantCandidates", unfollowed := true, recurses := true, apart := false, narrowed := true }
def InvariantCandidatesUptoSaid : Prop := invariantCandidatesUptoRow.holds Tryz.pinned (OpenSpec.upto invariantCandidatesSpec)

/-- 'coverabilitylaw32.InvariantSteps', WHERE WHAT IT READS IS OF BULK AT MOST 1048576: true; the input reads as it did. -/
def invariantStepsUptoRow : OpenClaim := { program := "ytlldkikmjeeamaagreat", sum := "e0f79bb7f9321791fc4d0f62ea277e11d85cd16dbc6098f52a54f1d04a8b337d", func := "coverability/coverabilitylaw32.InvariantSteps", spec := "invariantSteps", unfollowed := true, recurses := true, apart := false, narrowed := true }
def InvariantStepsUptoSaid : Prop := invariantStepsUptoRow.holds Tryz.pinned (OpenSpec.upto invariantStepsSpec)

end Rows
end Go.Proofs.YtlldkikmjeeamaaGreat
