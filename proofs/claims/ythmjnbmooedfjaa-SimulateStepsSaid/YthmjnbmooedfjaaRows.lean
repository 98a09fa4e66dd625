/-
  NARROWER THAN 'FOR EVERY INPUT', by the rows' own cells (each row's printed sentence says how): SimulateSteps: loops.
  DERIVED. THE GIVEN ROWS OF THIS SEAT. 6 by the template 'for every input the law returns true; each argument reads behind the call as it read before'; 0 by the template 'total and deterministic' (their statements: YthmjnbmooedfjaaTotals.lean).
  GIVEN WITH THE SEED: the statements are not yours to turn. If you find one false, say at which input.
  Laid BY PROGRAM, IN A SANDBOX (cutbox-rows.mjs): the forced cells as the released guide's own fill.sh prints them over the translation 7a24a26444e9efad… (all of the seat's roots in one cut). By AI agents, Wed Nov 11 2026. No macro, syntax, notation, axiom, sorry.
-/
import Derived.Test.YthmjnbmooedfjaaChecked
import GoSem.Claim
import GoSem.ClaimJoined
import GoSem.ClaimMapViews
import Derived.JoinedTies
import Derived.KernelRfl
namespace Go.Proofs.Ythmjnbmooedfjaa
/- THE CELL 'sum', in the pinned program and in every row, IS THE sha256 OF THE DUMP (.gsa) THAT YthmjnbmooedfjaaProg.lean LOADS. Nothing in Lean hashes anything: it is a label: what it is worth is what the hold of that sum in a sandbox is worth. -/
noncomputable def Try.pinned : Pinned := { name := "ythmjnbmooedfjaa", sum := "7a24a26444e9efadfdd742707e257f614a6b716d0e279bbc35a63729e01a442c", checked := Try.checked }
namespace Rows
def none {H : Type} : Left H := { results := [], args := [] }

/-- 'coverabilitylaw36.SimulateWords': WHATEVER THE INPUT: true; the input reads as it did. -/
def simulateWordsSpec : ChangeSpec := { name := "simulateWords", fn := fun _ => fun
  | [d1, d2] => { results := [.lit (.bool true)], args := [d1, d2] }
  | _ => none }
def simulateWordsRow : OpenClaim := { program := "ythmjnbmooedfjaa", sum := "7a24a26444e9efadfdd742707e257f614a6b716d0e279bbc35a63729e01a442c", func := "coverability/coverabilitylaw36.SimulateWords", spec := "simulateWords", unfollowed := true, recurses := true, apart := false }
def SimulateWordsSaid : Prop := simulateWordsRow.holds Try.pinned (OpenSpec.ofChange simulateWordsSpec)

/-- ITS FALSE NEIGHBOUR: 'it returns false'. Refute it at one input. -/
def simulateWordsWrong : ChangeSpec := { name := "simulateWords", fn := fun _ => fun
  | [d1, d2] => { results := [.lit (.bool false)], args := [d1, d2] }
  | _ => none }
def SimulateWordsWrongFalsely : Prop := simulateWordsRow.holds Try.pinned (OpenSpec.ofChange simulateWordsWrong)

/-- 'coverabilitylaw36.SimulateTraces': WHATEVER THE INPUT: true; the input reads as it did. -/
def simulateTracesSpec : ChangeSpec := { name := "simulateTraces", fn := fun _ => fun
  | [d1, d2] => { results := [.lit (.bool true)], args := [d1, d2] }
  | _ => none }
def simulateTracesRow : OpenClaim := { program := "ythmjnbmooedfjaa", sum := "7a24a26444e9efadfdd742707e257f614a6b716d0e279bbc35a63729e01a442c", func := "coverability/coverabilitylaw36.SimulateTraces", spec := "simulateTraces", unfollowed := true, recurses := true, apart := false }
def SimulateTracesSaid : Prop := simulateTracesRow.holds Try.pinned (OpenSpec.ofChange simulateTracesSpec)

/-- ITS FALSE NEIGHBOUR: 'it returns false'. Refute it at one input. -/
def simulateTracesWrong : ChangeSpec := { name := "simulateTraces", fn := fun _ => fun
  | [d1, d2] => { results := [.lit (.bool false)], args := [d1, d2] }
  | _ => none }
def SimulateTracesWrongFalsely : Prop := simulateTracesRow.holds Try.pinned (OpenSpec.ofChange simulateTracesWrong)

/-- 'coverabilitylaw36.SimulateOrder': WHATEVER THE INPUT: true; the input reads as it did. -/
def simulateOrderSpec : ChangeSpec := { name := "simulateOrder", fn := fun _ => fun
  | [d] => { results := [.lit (.bool true)], args := [d] }
  | _ => none }
def simulateOrderRow : OpenClaim := { program := "ythmjnbmooedfjaa", sum := "7a24a26444e9efadfdd742707e257f614a6b716d0e279bbc35a63729e01a442c", func := "coverability/coverabilitylaw36.SimulateOrder", spec := "simulateOrder", unfollowed := true, recurses := true, apart := false }
def SimulateOrderSaid : Prop := simulateOrderRow.holds Try.pinned (OpenSpec.ofChange simulateOrderSpec)

/-- ITS FALSE NEIGHBOUR: 'it returns false'. Refute it at one input. -/
def simulateOrderWrong : ChangeSpec := { name := "simulateOrder", fn := fun _ => fun
  | [d] => { results := [.lit (.bool false)], args := [d] }
  | _ => none }
def SimulateOrderWrongFalsely : Prop := simulateOrderRow.holds Try.pinned (OpenSpec.ofChange simulateOrderWrong)

/-- 'coverabilitylaw36.SimulateGreatest': WHATEVER THE INPUT: true; the input reads as it did. -/
def simulateGreatestSpec : ChangeSpec := { name := "simulateGreatest", fn := fun _ => fun
  | [d] => { results := [.lit (.bool true)], args := [d] }
  | _ => none }
def simulateGreatestRow : OpenClaim := { program := "ythmjnbmooedfjaa", sum := "7a24a26444e9efadfdd742707e257f614a6b716d0e279bbc35a63729e01a442c", func := "coverability/coverabilitylaw36.SimulateGreatest", spec := "simulateGreatest", unfollowed := true, recurses := true, apart := false }
def SimulateGreatestSaid : Prop := simulateGreatestRow.holds Try.pinned (OpenSpec.ofChange simulateGreatestSpec)

/-- ITS FALSE NEIGHBOUR: 'it returns false'. Refute it at one input. -/
def simulateGreatestWrong : ChangeSpec := { name := "simulateGreatest", fn := fun _ => fun
  | [d] => { results := [.lit (.bool false)], args := [d] }
  | _ => none }
def SimulateGreatestWrongFalsely : Prop := simulateGreatestRow.holds Try.pinned (OpenSpec.ofChange simulateGreatestWrong)

/-- 'coverabilitylaw36.SimulateMore': WHATEVER THE INPUT: true; the input reads as it did. -/
def simulateMoreSpec : ChangeSpec := { name := "simulateMore", fn := fun _ => fun
  | [d] => { results := [.lit (.bool true)], args := [d] }
  | _ => none }
def simulateMoreRow : OpenClaim := { program := "ythmjnbmooedfjaa", sum := "7a24a26444e9efadfdd742707e257f614a6b716d0e279bbc35a63729e01a442c", func := "coverability/coverabilitylaw36.SimulateMore", spec := "simulateMore", unfollowed := true, recurses := true, apart := false }
def SimulateMoreSaid : Prop := simulateMoreRow.holds Try.pinned (OpenSpec.ofChange simulateMoreSpec)

/-- ITS FALSE NEIGHBOUR: 'it returns false'. Refute it at one input. -/
def simulateMoreWrong : ChangeSpec := { name := "simulateMore", fn := fun _ => fun
  | [d] => { results := [.lit (.bool false)], args := [d] }
  | _ => none }
def SimulateMoreWrongFalsely : Prop := simulateMoreRow.holds Try.pinned (OpenSpec.ofChange simulateMoreWrong)

/-- 'coverabilitylaw36.SimulateSteps': WHATEVER THE INPUT: true; the input reads as it did. -/
def simulateStepsSpec : ChangeSpec := { name := "simulateSteps", fn := fun _ => fun
  | [d1, d2, d3, d4, d5, d6] => { results := [.lit (.bool true)], args := [d1, d2, d3, d4, d5, d6] }
  | _ => none }
def simulateStepsRow : OpenClaim := { program := "ythmjnbmooedfjaa", sum := "7a24a26444e9efadfdd742707e257f614a6b716d0e279bbc35a63729e01a442c", func := "coverability/coverabilitylaw36.SimulateSteps", spec := "simulateSteps", unfollowed := true, recurses := true, loops := true, apart := false }
def SimulateStepsSaid : Prop := simulateStepsRow.holds Try.pinned (OpenSpec.ofChange simulateStepsSpec)

/-- ITS FALSE NEIGHBOUR: 'it returns false'. Refute it at one input. -/
def simulateStepsWrong : ChangeSpec := { name := "simulateSteps", fn := fun _ => fun
  | [d1, d2, d3, d4, d5, d6] => { results := [.lit (.bool false)], args := [d1, d2, d3, d4, d5, d6] }
  | _ => none }
def SimulateStepsWrongFalsely : Prop := simulateStepsRow.holds Try.pinned (OpenSpec.ofChange simulateStepsWrong)

/- THE SECOND FORM. 'bulk': how many values and letters a reading holds, each counted each time it is reached (what is shared counts as often as it is met; a slice's spare places count too). A statement '..UptoSaid' is the law's where the arguments, and the package variables that the reading takes, are together of bulk at most 1048576: NARROWER than '..Said'. Prove '..Said' where nothing that the law and all that it calls make is longer than what came in: it says more and counts as full. Else prove '..UptoSaid'. A law counts once. -/
mutual
def uptoBulk {H : Type} : DataW H → Nat
  | .lit (.string bytes) => bytes.length + 1
  | .lit _ => 1
  | .nil => 1
  | .ptr d => uptoBulk d + 1
  | .slice elems spare => uptoBulkAll elems + uptoBulkAll spare + 1
  | .agg parts => uptoBulkAll parts + 1
  | .iface _ d => uptoBulk d + 1
  | .map entries => uptoBulkEntries entries + 1
  | .held _ => 1
def uptoBulkAll {H : Type} : List (DataW H) → Nat
  | [] => 0
  | d :: r => uptoBulk d + uptoBulkAll r
def uptoBulkEntries {H : Type} : List (Lit × DataW H) → Nat
  | [] => 0
  | x :: r => uptoBulkEntry x + uptoBulkEntries r
def uptoBulkEntry {H : Type} : Lit × DataW H → Nat
  | (.string bytes, d) => bytes.length + uptoBulk d + 1
  | (_, d) => uptoBulk d + 1
 end
def uptoSmall : (H : Type) → List (DataW H) → Bool := fun _ ds => decide (uptoBulkAll ds ≤ 1048576)
def OpenSpec.upto (s : _root_.Go.ChangeSpec) : _root_.Go.OpenSpec := { _root_.Go.OpenSpec.ofChange s with cond := some uptoSmall }

/-- 'coverabilitylaw36.SimulateWords', WHERE WHAT IT READS IS OF BULK AT MOST 1048576: true; the input reads as it did. -/
def simulateWordsUptoRow : OpenClaim := { program := "ythmjnbmooedfjaa", sum := "7a24a26444e9efadfdd742707e257f614a6b716d0e279bbc35a63729e01a442c", func := "coverability/coverabilitylaw36.SimulateWords", spec := "simulateWords", unfollowed := true, recurses := true, apart := false, narrowed := true }
def SimulateWordsUptoSaid : Prop := simulateWordsUptoRow.holds Try.pinned (OpenSpec.upto simulateWordsSpec)

/-- 'coverabilitylaw36.SimulateTraces', WHERE WHAT IT READS IS OF BULK AT MOST 1048576: true; the input reads as it did. -/
def simulateTracesUptoRow : OpenClaim := { program := "ythmjnbmooedfjaa", sum := "7a24a26444e9efadfdd742707e257f614a6b716d0e279bbc35a63729e01a442c", func := "coverability/coverabilitylaw36.SimulateTraces", spec := "simulateTraces", unfollowed := true, recurses := true, apart := false, narrowed := true }
def SimulateTracesUptoSaid : Prop := simulateTracesUptoRow.holds Try.pinned (OpenSpec.upto simulateTracesSpec)

/-- 'coverabilitylaw36.SimulateOrder', WHERE WHAT IT READS IS OF BULK AT MOST 1048576: true; the input reads as it did. -/
def simulateOrderUptoRow : OpenClaim := { program := "ythmjnbmooedfjaa", sum := "7a24a26444e9efadfdd742707e257f614a6b716d0e279bbc35a63729e01a442c", func := "coverability/coverabilitylaw36.SimulateOrder", spec := "simulateOrder", unfollowed := true, recurses := true, apart := false, narrowed := true }
def SimulateOrderUptoSaid : Prop := simulateOrderUptoRow.holds Try.pinned (OpenSpec.upto simulateOrderSpec)

/-- 'coverabilitylaw36.SimulateGreatest', WHERE WHAT IT READS IS OF BULK AT MOST 1048576: true; the input reads as it did. -/
def simulateGreatestUptoRow : OpenClaim := { program := "ythmjnbmooedfjaa", sum := "7a24a26444e9efadfdd742707e257f614a6b716d0e279bbc35a63729e01a442c", func := "coverability/coverabilitylaw36.SimulateGreatest", spec := "simulateGreatest", unfollowed := true, recurses := true, apart := false, narrowed := true }
def SimulateGreatestUptoSaid : Prop := simulateGreatestUptoRow.holds Try.pinned (OpenSpec.upto simulateGreatestSpec)

/-- 'coverabilitylaw36.SimulateMore', WHERE WHAT IT READS IS OF BULK AT MOST 1048576: true; the input reads as it did. -/
def simulateMoreUptoRow : OpenClaim := { program := "ythmjnbmooedfjaa", sum := "7a24a26444e9efadfdd742707e257f614a6b716d0e279bbc35a63729e01a442c", func := "coverability/coverabilitylaw36.SimulateMore", spec := "simulateMore", unfollowed := true, recurses := true, apart := false, narrowed := true }
def SimulateMoreUptoSaid : Prop := simulateMoreUptoRow.holds Try.pinned (OpenSpec.upto simulateMoreSpec)

/-- 'coverabilitylaw36.SimulateSteps', WHERE WHAT IT READS IS OF BULK AT MOST 1048576: true; the input reads as it did. -/
def simulateStepsUptoRow : OpenClaim := { program := "ythmjnbmooedfjaa", sum := "7a24a26444e9efadfdd742707e257f614a6b716d0e279bbc35a63729e01a442c", func := "coverability/coverabilitylaw36.SimulateSteps", spec := "simulateSteps", unfollowed := true, recurses := true, loops := true, apart := false, narrowed := true }
def SimulateStepsUptoSaid : Prop := simulateStepsUptoRow.holds Try.pinned (OpenSpec.upto simulateStepsSpec)

end Rows
end Go.Proofs.Ythmjnbmooedfjaa
