/-
  NARROWER THAN 'FOR EVERY INPUT', by the rows' own cells (each row's printed sentence says how): ModelExact: loops · CounterExact: loops.
  DERIVED. THE GIVEN ROWS OF THIS SEAT. 10 by the template 'for every input the law returns true; each argument reads behind the call as it read before'; 0 by the template 'total and deterministic' (their statements: YtpmodjodfimejaaGreatTotals.lean).
  GIVEN WITH THE SEED: the statements are not yours to turn. If you find one false, say at which input.
  Laid BY PROGRAM, IN A SANDBOX (cutbox-rows.mjs): the forced cells as the released guide's own fill.sh prints them over the translation 19be4c8b92904c06… (all of the seat's roots in one cut). By AI agents, Wed Nov 11 2026. No macro, syntax, notation, axiom, sorry.
-/
import Derived.Test.YtpmodjodfimejaaGreatChecked
import GoSem.Claim
import GoSem.ClaimJoined
import GoSem.ClaimMapViews
import Derived.JoinedTies
import Derived.KernelRfl
namespace Go.Proofs.YtpmodjodfimejaaGreat
/- THE CELL 'sum', in the pinned program and in every row, IS THE sha256 OF THE DUMP (.gsa) THAT YtpmodjodfimejaaGreatProg.lean LOADS. Nothing in Lean hashes anything: it is a label: what it is worth is what the hold of that sum in a sandbox is worth. -/
noncomputable def Tryz.pinned : Pinned := { name := "ytpmodjodfimejaagreat", sum := "19be4c8b92904c0657b50ca04ec0945b6884688716ec77056e4b09a11b6f786b", checked := Tryz.checked }
namespace Rows
def none {H : Type} : Left H := { results := [], args := [] }

/-- 'coverabilitylaw15.ModelExact': WHATEVER THE INPUT: true; the input reads as it did. -/
def modelExactSpec : ChangeSpec := { name := "modelExact", fn := fun _ => fun
  | [d1, d2, d3, d4] => { results := [.lit (.bool true)], args := [d1, d2, d3, d4] }
  | _ => none }
def modelExactRow : OpenClaim := { program := "ytpmodjodfimejaagreat", sum := "19be4c8b92904c0657b50ca04ec0945b6884688716ec77056e4b09a11b6f786b", func := "coverability/coverabilitylaw15.ModelExact", spec := "modelExact", unfollowed := true, recurses := true, loops := true, apart := false }
def ModelExactSaid : Prop := modelExactRow.holds Tryz.pinned (OpenSpec.ofChange modelExactSpec)

/-- ITS FALSE NEIGHBOUR: 'it returns false'. Refute it at one input. -/
def modelExactWrong : ChangeSpec := { name := "modelExact", fn := fun _ => fun
  | [d1, d2, d3, d4] => { results := [.lit (.bool false)], args := [d1, d2, d3, d4] }
  | _ => none }
def ModelExactWrongFalsely : Prop := modelExactRow.holds Tryz.pinned (OpenSpec.ofChange modelExactWrong)

/-- 'coverabilitylaw15.ModelConfigs': WHATEVER THE INPUT: true; the input reads as it did. -/
def modelConfigsSpec : ChangeSpec := { name := "modelConfigs", fn := fun _ => fun
  | [d] => { results := [.lit (.bool true)], args := [d] }
  | _ => none }
def modelConfigsRow : OpenClaim := { program := "ytpmodjodfimejaagreat", sum := "19be4c8b92904c0657b50ca04ec0945b6884688716ec77056e4b09a11b6f786b", func := "coverability/coverabilitylaw15.ModelConfigs", spec := "modelConfigs", unfollowed := true, recurses := true, apart := false }
def ModelConfigsSaid : Prop := modelConfigsRow.holds Tryz.pinned (OpenSpec.ofChange modelConfigsSpec)

/-- ITS FALSE NEIGHBOUR: 'it returns false'. Refute it at one input. -/
def modelConfigsWrong : ChangeSpec := { name := "modelConfigs", fn := fun _ => fun
  | [d] => { results := [.lit (.bool false)], args := [d] }
  | _ => none }
def ModelConfigsWrongFalsely : Prop := modelConfigsRow.holds Tryz.pinned (OpenSpec.ofChange modelConfigsWrong)

/-- 'coverabilitylaw15.ModelRules': WHATEVER THE INPUT: true; the input reads as it did. -/
def modelRulesSpec : ChangeSpec := { name := "modelRules", fn := fun _ => fun
  | [d] => { results := [.lit (.bool true)], args := [d] }
  | _ => none }
def modelRulesRow : OpenClaim := { program := "ytpmodjodfimejaagreat", sum := "19be4c8b92904c0657b50ca04ec0945b6884688716ec77056e4b09a11b6f786b", func := "coverability/coverabilitylaw15.ModelRules", spec := "modelRules", unfollowed := true, recurses := true, apart := false }
def ModelRulesSaid : Prop := modelRulesRow.holds Tryz.pinned (OpenSpec.ofChange modelRulesSpec)

/-- ITS FALSE NEIGHBOUR: 'it returns false'. Refute it at one input. -/
def modelRulesWrong : ChangeSpec := { name := "modelRules", fn := fun _ => fun
  | [d] => { results := [.lit (.bool false)], args := [d] }
  | _ => none }
def ModelRulesWrongFalsely : Prop := modelRulesRow.holds Tryz.pinned (OpenSpec.ofChange modelRulesWrong)

/-- 'coverabilitylaw15.ModelNames': WHATEVER THE INPUT: true; the input reads as it did. -/
def modelNamesSpec : ChangeSpec := { name := "modelNames", fn := fun _ => fun
  | [d] => { results := [.lit (.bool true)], args := [d] }
  | _ => none }
def modelNamesRow : OpenClaim := { program := "ytpmodjodfimejaagreat", sum := "19be4c8b92904c0657b50ca04ec0945b6884688716ec77056e4b09a11b6f786b", func := "coverability/coverabilitylaw15.ModelNames", spec := "modelNames", unfollowed := true, recurses := true, apart := false }
def ModelNamesSaid : Prop := modelNamesRow.holds Tryz.pinned (OpenSpec.ofChange modelNamesSpec)

/-- ITS FALSE NEIGHBOUR: 'it returns false'. Refute it at one input. -/
def modelNamesWrong : ChangeSpec := { name := "modelNames", fn := fun _ => fun
  | [d] => { results := [.lit (.bool false)], args := [d] }
  | _ => none }
def ModelNamesWrongFalsely : Prop := modelNamesRow.holds Tryz.pinned (OpenSpec.ofChange modelNamesWrong)

/-- 'coverabilitylaw15.ModelLimits': WHATEVER THE INPUT: true; the input reads as it did. -/
def modelLimitsSpec : ChangeSpec := { name := "modelLimits", fn := fun _ => fun
  | [d] => { results := [.lit (.bool true)], args := [d] }
  | _ => none }
def modelLimitsRow : OpenClaim := { program := "ytpmodjodfimejaagreat", sum := "19be4c8b92904c0657b50ca04ec0945b6884688716ec77056e4b09a11b6f786b", func := "coverability/coverabilitylaw15.ModelLimits", spec := "modelLimits", unfollowed := true, recurses := true, apart := false }
def ModelLimitsSaid : Prop := modelLimitsRow.holds Tryz.pinned (OpenSpec.ofChange modelLimitsSpec)

/-- ITS FALSE NEIGHBOUR: 'it returns false'. Refute it at one input. -/
def modelLimitsWrong : ChangeSpec := { name := "modelLimits", fn := fun _ => fun
  | [d] => { results := [.lit (.bool false)], args := [d] }
  | _ => none }
def ModelLimitsWrongFalsely : Prop := modelLimitsRow.holds Tryz.pinned (OpenSpec.ofChange modelLimitsWrong)

/-- 'coverabilitylaw17.CounterExact': WHATEVER THE INPUT: true; the input reads as it did. -/
def counterExactSpec : ChangeSpec := { name := "counterExact", fn := fun _ => fun
  | [d1, d2, d3, d4] => { results := [.lit (.bool true)], args := [d1, d2, d3, d4] }
  | _ => none }
def counterExactRow : OpenClaim := { program := "ytpmodjodfimejaagreat", sum := "19be4c8b92904c0657b50ca04ec0945b6884688716ec77056e4b09a11b6f786b", func := "coverability/coverabilitylaw17.CounterExact", spec := "counterExact", unfollowed := true, recurses := true, loops := true, apart := false }
def CounterExactSaid : Prop := counterExactRow.holds Tryz.pinned (OpenSpec.ofChange counterExactSpec)

/-- ITS FALSE NEIGHBOUR: 'it returns false'. Refute it at one input. -/
def counterExactWrong : ChangeSpec := { name := "counterExact", fn := fun _ => fun
  | [d1, d2, d3, d4] => { results := [.lit (.bool false)], args := [d1, d2, d3, d4] }
  | _ => none }
def CounterExactWrongFalsely : Prop := counterExactRow.holds Tryz.pinned (OpenSpec.ofChange counterExactWrong)

/-- 'coverabilitylaw17.CounterGrows': WHATEVER THE INPUT: true; the input reads as it did. -/
def counterGrowsSpec : ChangeSpec := { name := "counterGrows", fn := fun _ => fun
  | [d] => { results := [.lit (.bool true)], args := [d] }
  | _ => none }
def counterGrowsRow : OpenClaim := { program := "ytpmodjodfimejaagreat", sum := "19be4c8b92904c0657b50ca04ec0945b6884688716ec77056e4b09a11b6f786b", func := "coverability/coverabilitylaw17.CounterGrows", spec := "counterGrows", unfollowed := true, recurses := true, apart := false }
def CounterGrowsSaid : Prop := counterGrowsRow.holds Tryz.pinned (OpenSpec.ofChange counterGrowsSpec)

/-- ITS FALSE NEIGHBOUR: 'it returns false'. Refute it at one input. -/
def counterGrowsWrong : ChangeSpec := { name := "counterGrows", fn := fun _ => fun
  | [d] => { results := [.lit (.bool false)], args := [d] }
  | _ => none }
def CounterGrowsWrongFalsely : Prop := counterGrowsRow.holds Tryz.pinned (OpenSpec.ofChange counterGrowsWrong)

/-- 'coverabilitylaw17.CounterEffects': WHATEVER THE INPUT: true; the input reads as it did. -/
def counterEffectsSpec : ChangeSpec := { name := "counterEffects", fn := fun _ => fun
  | [d] => { results := [.lit (.bool true)], args := [d] }
  | _ => none }
def counterEffectsRow : OpenClaim := { program := "ytpmodjodfimejaagreat", sum := "19be4c8b92904c0657b50ca04ec0945b6884688716ec77056e4b09a11b6f786b", func := "coverability/coverabilitylaw17.CounterEffects", spec := "counterEffects", unfollowed := true, recurses := true, apart := false }
def CounterEffectsSaid : Prop := counterEffectsRow.holds Tryz.pinned (OpenSpec.ofChange counterEffectsSpec)

/-- ITS FALSE NEIGHBOUR: 'it returns false'. Refute it at one input. -/
def counterEffectsWrong : ChangeSpec := { name := "counterEffects", fn := fun _ => fun
  | [d] => { results := [.lit (.bool false)], args := [d] }
  | _ => none }
def CounterEffectsWrongFalsely : Prop := counterEffectsRow.holds Tryz.pinned (OpenSpec.ofChange counterEffectsWrong)

/-- 'coverabilitylaw17.CounterMoves': WHATEVER THE INPUT: true; the input reads as it did. -/
def counterMovesSpec : ChangeSpec := { name := "counterMoves", fn := fun _ => fun
  | [d] => { results := [.lit (.bool true)], args := [d] }
  | _ => none }
def counterMovesRow : OpenClaim := { program := "ytpmodjodfimejaagreat", sum := "19be4c8b92904c0657b50ca04ec0945b6884688716ec77056e4b09a11b6f786b", func := "coverability/coverabilitylaw17.CounterMoves", spec := "counterMoves", unfollowed := true, recurses := true, apart := false }
def CounterMovesSaid : Prop := counterMovesRow.holds Tryz.pinned (OpenSpec.ofChange counterMovesSpec)

/-- ITS FALSE NEIGHBOUR: 'it returns false'. Refute it at one input. -/
def counterMovesWrong : ChangeSpec := { name := "counterMoves", fn := fun _ => fun
  | [d] => { results := [.lit (.bool false)], args := [d] }
  | _ => none }
def CounterMovesWrongFalsely : Prop := counterMovesRow.holds Tryz.pinned (OpenSpec.ofChange counterMovesWrong)

/-- 'coverabilitylaw17.CounterResets': WHATEVER THE INPUT: true; the input reads as it did. -/
def counterResetsSpec : ChangeSpec := { name := "counterResets", fn := fun _ => fun
  | [d1, d2] => { results := [.lit (.bool true)], args := [d1, d2] }
  | _ => none }
def counterResetsRow : OpenClaim := { program := "ytpmodjodfimejaagreat", sum := "19be4c8b92904c0657b50ca04ec0945b6884688716ec77056e4b09a11b6f786b", func := "coverability/coverabilitylaw17.CounterResets", spec := "counterResets", unfollowed := true, recurses := true, apart := false }
def CounterResetsSaid : Prop := counterResetsRow.holds Tryz.pinned (OpenSpec.ofChange counterResetsSpec)

/-- ITS FALSE NEIGHBOUR: 'it returns false'. Refute it at one input. -/
def counterResetsWrong : ChangeSpec := { name := "counterResets", fn := fun _ => fun
  | [d1, d2] => { results := [.lit (.bool false)], args := [d1, d2] }
  | _ => none }
def CounterResetsWrongFalsely : Prop := counterResetsRow.holds Tryz.pinned (OpenSpec.ofChange counterResetsWrong)

/- THE SECOND FORM. 'bulk': how many values and letters a reading holds, each counted each time it is reached (what is shared counts as often as it is met; a slice's spare places count too). A statement '..UptoSaid' is the law's where the arguments, and the package variables that the reading takes, are together of bulk at most 1048576: NARROWER than '..Said'. Prove '..Said' where nothing that the law and all that it calls make is longer than what came in: it says more and counts as full. Else prove '..UptoSaid'. A law counts once. -/
mutual
def uptoBulk {H : Type} : DataW H → Nat
  | .lit (.string bytes) => bytes.length + 1
  | .lit _ => 1
  | .nil => 1
  | .ptr d => uptoBulk d + 1
  | .slice elems spare => uptoBulkAll elems + uptoBulkAll spare + 1
  | .agg parts => uptoBulkAll parts + 1
  | .iface _ d => uptoBulk d + 1
  | .map entries => uptoBulkEntries entries + 1
  | .held _ => 1
def uptoBulkAll {H : Type} : List (DataW H) → Nat
  | [] => 0
  | d :: r => uptoBulk d + uptoBulkAll r
def uptoBulkEntries {H : Type} : List (Lit × DataW H) → Nat
  | [] => 0
  | x :: r => uptoBulkEntry x + uptoBulkEntries r
def uptoBulkEntry {H : Type} : Lit × DataW H → Nat
  | (.string bytes, d) => bytes.length + uptoBulk d + 1
  | (_, d) => uptoBulk d + 1
 end
def uptoSmall : (H : Type) → List (DataW H) → Bool := fun _ ds => decide (uptoBulkAll ds ≤ 1048576)
def OpenSpec.upto (s : _root_.Go.ChangeSpec) : _root_.Go.OpenSpec := { _root_.Go.OpenSpec.ofChange s with cond := some uptoSmall }

/-- 'coverabilitylaw15.ModelExact', WHERE WHAT IT READS IS OF BULK AT MOST 1048576: true; the input reads as it did. -/
def modelExactUptoRow : OpenClaim := { program := "ytpmodjodfimejaagreat", sum := "19be4c8b92904c0657b50ca04ec0945b6884688716ec77056e4b09a11b6f786b", func := "coverability/coverabilitylaw15.ModelExact", spec := "modelExact", unfollowed := true, recurses := true, loops := true, apart := false, narrowed := true }
def ModelExactUptoSaid : Prop := modelExactUptoRow.holds Tryz.pinned (OpenSpec.upto modelExactSpec)

/-- 'coverabilitylaw15.ModelConfigs', WHERE WHAT IT READS IS OF BULK AT MOST 1048576: true; the input reads as it did. -/
def modelConfigsUptoRow : OpenClaim := { program := "ytpmodjodfimejaagreat", sum := "19be4c8b92904c0657b50ca04ec0945b6884688716ec77056e4b09a11b6f786b", func := "coverability/coverabilitylaw15.ModelConfigs", spec := "modelConfigs", unfollowed := true, recurses := true, apart := false, narrowed := true }
def ModelConfigsUptoSaid : Prop := modelConfigsUptoRow.holds Tryz.pinned (OpenSpec.upto modelConfigsSpec)

/-- 'coverabilitylaw15.ModelRules', WHERE WHAT IT READS IS OF BULK AT MOST 1048576: true; the input reads as it did. -/
def modelRulesUptoRow : OpenClaim := { program := "ytpmodjodfimejaagreat", sum := "19be4c8b92904c0657b50ca04ec0945b6884688716ec77056e4b09a11b6f786b", func := "coverability/coverabilitylaw15.ModelRules", spec := "modelRules", unfollowed := true, recurses := true, apart := false, narrowed := true }
def ModelRulesUptoSaid : Prop := modelRulesUptoRow.holds Tryz.pinned (OpenSpec.upto modelRulesSpec)

/-- 'coverabilitylaw15.ModelNames', WHERE WHAT IT READS IS OF BULK AT MOST 1048576: true; the input reads as it did. -/
def modelNamesUptoRow : OpenClaim := { program := "ytpmodjodfimejaagreat", sum := "19be4c8b92904c0657b50ca04ec0945b6884688716ec77056e4b09a11b6f786b", func := "coverability/coverabilitylaw15.ModelNames", spec := "modelNames", unfollowed := true, recurses := true, apart := false, narrowed := true }
def ModelNamesUptoSaid : Prop := modelNamesUptoRow.holds Tryz.pinned (OpenSpec.upto modelNamesSpec)

/-- 'coverabilitylaw15.ModelLimits', WHERE WHAT IT READS IS OF BULK AT MOST 1048576: true; the input reads as it did. -/
def modelLimitsUptoRow : OpenClaim := { program := "ytpmodjodfimejaagreat", sum := "19be4c8b92904c0657b50ca04ec0945b6884688716ec77056e4b09a11b6f786b", func := "coverability/coverabilitylaw15.ModelLimits", spec := "modelLimits", unfollowed := true, recurses := true, apart := false, narrowed := true }
def ModelLimitsUptoSaid : Prop := modelLimitsUptoRow.holds Tryz.pinned (OpenSpec.upto modelLimitsSpec)

/-- 'coverabilitylaw17.CounterExact', WHERE WHAT IT READS IS OF BULK AT MOST 1048576: true; the input reads as it did. -/
def counterExactUptoRow : OpenClaim := { program := "ytpmodjodfimejaagreat", sum := "19be4c8b92904c0657b50ca04ec0945b6884688716ec77056e4b09a11b6f786b", func := "coverability/coverabilitylaw17.CounterExact", spec := "counterExact", unfollowed := true, recurses := true, loops := true, apart := false, narrowed := true }
def CounterExactUptoSaid : Prop := counterExactUptoRow.holds Tryz.pinned (OpenSpec.upto counterExactSpec)

/-- 'coverabilitylaw17.CounterGrows', WHERE WHAT IT READS IS OF BULK AT MOST 1048576: true; the input reads as it did. -/
def counterGrowsUptoRow : OpenClaim := { program := "ytpmodjodfimejaagreat", sum := "19be4c8b92904c0657b50ca04ec0945b6884688716ec77056e4b09a11b6f786b", func := "coverability/coverabilitylaw17.CounterGrows", spec := "counterGrows", unfollowed := true, recurses := true, apart := false, narrowed := true }
def CounterGrowsUptoSaid : Prop := counterGrowsUptoRow.holds Tryz.pinned (OpenSpec.upto counterGrowsSpec)

/-- 'coverabilitylaw17.CounterEffects', WHERE WHAT IT READS IS OF BULK AT MOST 1048576: true; the input reads as it did. -/
def counterEffectsUptoRow : OpenClaim := { program := "ytpmodjodfimejaagreat", sum := "19be4c8b92904c0657b50ca04ec0945b6884688716ec77056e4b09a11b6f786b", func := "coverability/coverabilitylaw17.CounterEffects", spec := "counterEffects", unfollowed := true, recurses := true, apart := false, narrowed := true }
def CounterEffectsUptoSaid : Prop := counterEffectsUptoRow.holds Tryz.pinned (OpenSpec.upto counterEffectsSpec)

/-- 'coverabilitylaw17.CounterMoves', WHERE WHAT IT READS IS OF BULK AT MOST 1048576: true; the input reads as it did. -/
def counterMovesUptoRow : OpenClaim := { program := "ytpmodjodfimejaagreat", sum := "19be4c8b92904c0657b50ca04ec0945b6884688716ec77056e4b09a11b6f786b", func := "coverability/coverabilitylaw17.CounterMoves", spec := "counterMoves", unfollowed := true, recurses := true, apart := false, narrowed := true }
def CounterMovesUptoSaid : Prop := counterMovesUptoRow.holds Tryz.pinned (OpenSpec.upto counterMovesSpec)

/-- 'coverabilitylaw17.CounterResets', WHERE WHAT IT READS IS OF BULK AT MOST 1048576: true; the input reads as it did. -/
def counterResetsUptoRow : OpenClaim := { program := "ytpmodjodfimejaagreat", sum := "19be4c8b92904c0657b50ca04ec0945b6884688716ec77056e4b09a11b6f786b", func := "coverability/coverabilitylaw17.CounterResets", spec := "counterResets", unfollowed := true, recurses := true, apart := false, narrowed := true }
def CounterResetsUptoSaid : Prop := counterResetsUptoRow.holds Tryz.pinned (OpenSpec.upto counterResetsSpec)

end Rows
end Go.Proofs.YtpmodjodfimejaaGreat
