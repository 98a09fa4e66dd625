/-
  No cell of these rows narrows 'for every input' (looked for: loops, veiled, ifaces, maps, wideKeys, modest, calm, conditions, laid).
  DERIVED. THE GIVEN ROWS OF THIS SEAT. 3 by the template 'for every input the law returns true; each argument reads behind the call as it read before'; 0 by the template 'total and deterministic' (their statements: YtlcckmmibeddeaaTotals.lean).
  GIVEN WITH THE SEED: the statements are not yours to turn. If you find one false, say at which input.
  Laid BY PROGRAM, IN A SANDBOX (cutbox-rows.mjs): the forced cells as the released guide's own fill.sh prints them over the translation b40b368046270705… (all of the seat's roots in one cut). By AI agents, Wed Nov 11 2026. No macro, syntax, notation, axiom, sorry.
-/
import Derived.Test.YtlcckmmibeddeaaChecked
import GoSem.Claim
import GoSem.ClaimJoined
import GoSem.ClaimMapViews
import Derived.JoinedTies
import Derived.KernelRfl
namespace Go.Proofs.Ytlcckmmibeddeaa
/- THE CELL 'sum', in the pinned program and in every row, IS THE sha256 OF THE DUMP (.gsa) THAT YtlcckmmibeddeaaProg.lean LOADS. Nothing in Lean hashes anything: it is a label: what it is worth is what the hold of that sum in a sandbox is worth. -/
noncomputable def Try.pinned : Pinned := { name := "ytlcckmmibeddeaa", sum := "b40b368046270705a0e4d67125ad732763fd04defb93e1eef9f27a4d9e1e9717", checked := Try.checked }
namespace Rows
def none {H : Type} : Left H := { results := [], args := [] }

/-- 'coverabilitylaw09.ExpressionWords': WHATEVER THE INPUT: true; the input reads as it did. -/
def expressionWordsSpec : ChangeSpec := { name := "expressionWords", fn := fun _ => fun
  | [d] => { results := [.lit (.bool true)], args := [d] }
  | _ => none }
def expressionWordsRow : OpenClaim := { program := "ytlcckmmibeddeaa", sum := "b40b368046270705a0e4d67125ad732763fd04defb93e1eef9f27a4d9e1e9717", func := "coverability/coverabilitylaw09.ExpressionWords", spec := "expressionWords", unfollowed := true, recurses := true, apart := false }
def ExpressionWordsSaid : Prop := expressionWordsRow.holds Try.pinned (OpenSpec.ofChange expressionWordsSpec)

/-- ITS FALSE NEIGHBOUR: 'it returns false'. Refute it at one input. -/
def expressionWordsWrong : ChangeSpec := { name := "expressionWords", fn := fun _ => fun
  | [d] => { results := [.lit (.bool false)], args := [d] }
  | _ => none }
def ExpressionWordsWrongFalsely : Prop := expressionWordsRow.holds Try.pinned (OpenSpec.ofChange expressionWordsWrong)

/-- 'coverabilitylaw09.ExpressionCommon': WHATEVER THE INPUT: true; the input reads as it did. -/
def expressionCommonSpec : ChangeSpec := { name := "expressionCommon", fn := fun _ => fun
  | [d] => { results := [.lit (.bool true)], args := [d] }
  | _ => none }
def expressionCommonRow : OpenClaim := { program := "ytlcckmmibeddeaa", sum := "b40b368046270705a0e4d67125ad732763fd04defb93e1eef9f27a4d9e1e9717", func := "coverability/coverabilitylaw09.ExpressionCommon", spec := "expressionCommon", unfollowed := true, recurses := true, apart := false }
def ExpressionCommonSaid : Prop := expressionCommonRow.holds Try.pinned (OpenSpec.ofChange expressionCommonSpec)

/-- ITS FALSE NEIGHBOUR: 'it returns false'. Refute it at one input. -/
def expressionCommonWrong : ChangeSpec := { name := "expressionCommon", fn := fun _ => fun
  | [d] => { results := [.lit (.bool false)], args := [d] }
  | _ => none }
def ExpressionCommonWrongFalsely : Prop := expressionCommonRow.holds Try.pinned (OpenSpec.ofChange expressionCommonWrong)

/-- 'coverabilitylaw09.ExpressionLetters': WHATEVER THE INPUT: true; the input reads as it did. -/
def expressionLettersSpec : ChangeSpec := { name := "expressionLetters", fn := fun _ => fun
  | [d] => { results := [.lit (.bool true)], args := [d] }
  | _ => none }
def expressionLettersRow : OpenClaim := { program := "ytlcckmmibeddeaa", sum := "b40b368046270705a0e4d67125ad732763fd04defb93e1eef9f27a4d9e1e9717", func := "coverability/coverabilitylaw09.ExpressionLetters", spec := "expressionLetters", unfollowed := true, recurses := true, apart := false }
def ExpressionLettersSaid : Prop := expressionLettersRow.holds Try.pinned (OpenSpec.ofChange expressionLettersSpec)

/-- ITS FALSE NEIGHBOUR: 'it returns false'. Refute it at one input. -/
def expressionLettersWrong : ChangeSpec := { name := "expressionLetters", fn := fun _ => fun
  | [d] => { results := [.lit (.bool false)], args := [d] }
  | _ => none }
def ExpressionLettersWrongFalsely : Prop := expressionLettersRow.holds Try.pinned (OpenSpec.ofChange expressionLettersWrong)

/- THE SECOND FORM. 'bulk': how many values and letters a reading holds, each counted each time it is reached (what is shared counts as often as it is met; a slice's spare places count too). A statement '..UptoSaid' is the law's where the arguments, and the package variables that the reading takes, are together of bulk at most 1048576: NARROWER than '..Said'. Prove '..Said' where nothing that the law and all that it calls make is longer than what came in: it says more and counts as full. Else prove '..UptoSaid'. A law counts once. -/
mutual
def uptoBulk {H : Type} : DataW H → Nat
  | .lit (.string bytes) => bytes.length + 1
  | .lit _ => 1
  | .nil => 1
  | .ptr d => uptoBulk d + 1
  | .slice elems spare => uptoBulkAll elems + uptoBulkAll spare + 1
  | .agg parts => uptoBulkAll parts + 1
  | .iface _ d => uptoBulk d + 1
  | .map entries => uptoBulkEntries entries + 1
  | .held _ => 1
def uptoBulkAll {H : Type} : List (DataW H) → Nat
  | [] => 0
  | d :: r => uptoBulk d + uptoBulkAll r
def uptoBulkEntries {H : Type} : List (Lit × DataW H) → Nat
  | [] => 0
  | x :: r => uptoBulkEntry x + uptoBulkEntries r
def uptoBulkEntry {H : Type} : Lit × DataW H → Nat
  | (.string bytes, d) => bytes.length + uptoBulk d + 1
  | (_, d) => uptoBulk d + 1
 end
def uptoSmall : (H : Type) → List (DataW H) → Bool := fun _ ds => decide (uptoBulkAll ds ≤ 1048576)
def OpenSpec.upto (s : _root_.Go.ChangeSpec) : _root_.Go.OpenSpec := { _root_.Go.OpenSpec.ofChange s with cond := some uptoSmall }

/-- 'coverabilitylaw09.ExpressionWords', WHERE WHAT IT READS IS OF BULK AT MOST 1048576: true; the input reads as it did. -/
def expressionWordsUptoRow : OpenClaim := { program := "ytlcckmmibeddeaa", sum := "b40b368046270705a0e4d67125ad732763fd04defb93e1eef9f27a4d9e1e9717", func := "coverability/coverabilitylaw09.ExpressionWords", spec := "expressionWords", unfollowed := true, recurses := true, apart := false, narrowed := true }
def ExpressionWordsUptoSaid : Prop := expressionWordsUptoRow.holds Try.pinned (OpenSpec.upto expressionWordsSpec)

/-- 'coverabilitylaw09.ExpressionCommon', WHERE WHAT IT READS IS OF BULK AT MOST 1048576: true; the input reads as it did. -/
def expressionCommonUptoRow : OpenClaim := { program := "ytlcckmmibeddeaa", sum := "b40b368046270705a0e4d67125ad732763fd04defb93e1eef9f27a4d9e1e9717", func := "coverability/coverabilitylaw09.ExpressionCommon", spec := "expressionCommon", unfollowed := true, recurses := true, apart := false, narrowed := true }
def ExpressionCommonUptoSaid : Prop := expressionCommonUptoRow.holds Try.pinned (OpenSpec.upto expressionCommonSpec)

/-- 'coverabilitylaw09.ExpressionLetters', WHERE WHAT IT READS IS OF BULK AT MOST 1048576: true; the input reads as it did. -/
def expressionLettersUptoRow : OpenClaim := { program := "ytlcckmmibeddeaa", sum := "b40b368046270705a0e4d67125ad732763fd04defb93e1eef9f27a4d9e1e9717", func := "coverability/coverabilitylaw09.ExpressionLetters", spec := "expressionLetters", unfollowed := true, recurses := true, apart := false, narrowed := true }
def ExpressionLettersUptoSaid : Prop := expressionLettersUptoRow.holds Try.pinned (OpenSpec.upto expressionLettersSpec)

end Rows
end Go.Proofs.Ytlcckmmibeddeaa
