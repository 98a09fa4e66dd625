/-
  NARROWER THAN 'FOR EVERY INPUT', by the rows' own cells (each row's printed sentence says how): BranchingExact: loops.
  DERIVED. THE GIVEN ROWS OF THIS SEAT. 5 by the template 'for every input the law returns true; each argument reads behind the call as it read before'; 0 by the template 'total and deterministic' (their statements: YtiklkcjkmhkgjaaGreatTotals.lean).
  GIVEN WITH THE SEED: the statements are not yours to turn. If you find one false, say at which input.
  Laid BY PROGRAM, IN A SANDBOX (cutbox-rows.mjs): the forced cells as the released guide's own fill.sh prints them over the translation 34f081f71664c052… (all of the seat's roots in one cut). By AI agents, Wed Nov 11 2026. No macro, syntax, notation, axiom, sorry.
-/
import Derived.Test.YtiklkcjkmhkgjaaGreatChecked
import GoSem.Claim
import GoSem.ClaimJoined
import GoSem.ClaimMapViews
import Derived.JoinedTies
import Derived.KernelRfl
namespace Go.Proofs.YtiklkcjkmhkgjaaGreat
/- THE CELL 'sum', in the pinned program and in every row, IS THE sha256 OF THE DUMP (.gsa) THAT YtiklkcjkmhkgjaaGreatProg.lean LOADS. Nothing in Lean hashes anything: it is a label: what it is worth is what the hold of that sum in a sandbox is worth. -/
noncomputable def Tryz.pinned : Pinned := { name := "ytiklkcjkmhkgjaagreat", sum := "34f081f71664c05241fcfd8b45514aceaa0c874ce04c9b2f721742c3c73d25cd", checked := Tryz.checked }
namespace Rows
def none {H : Type} : Left H := { results := [], args := [] }

/-- 'coverabilitylaw21.BranchingExact': WHATEVER THE INPUT: true; the input reads as it did. -/
def branchingExactSpec : ChangeSpec := { name := "branchingExact", fn := fun _ => fun
  | [d1, d2, d3] => { results := [.lit (.bool true)], args := [d1, d2, d3] }
  | _ => none }
def branchingExactRow : OpenClaim := { program := "ytiklkcjkmhkgjaagreat", sum := "34f081f71664c05241fcfd8b45514aceaa0c874ce04c9b2f721742c3c73d25cd", func := "coverability/coverabilitylaw21.BranchingExact", spec := "branchingExact", inPlace := ["slices.overlaps[coverability/api.Value]"], unfollowed := true, recurses := true, loops := true, apart := false }
def BranchingExactSaid : Prop := branchingExactRow.holds Tryz.pinned (OpenSpec.ofChange branchingExactSpec)

/-- ITS FALSE NEIGHBOUR: 'it returns false'. Refute it at one input. -/
def branchingExactWrong : ChangeSpec := { name := "branchingExact", fn := fun _ => fun
  | [d1, d2, d3] => { results := [.lit (.bool false)], args := [d1, d2, d3] }
  | _ => none }
def BranchingExactWrongFalsely : Prop := branchingExactRow.holds Tryz.pinned (OpenSpec.ofChange branchingExactWrong)

/-- 'coverabilitylaw21.BranchingFinds': WHATEVER THE INPUT: true; the input reads as it did. -/
def branchingFindsSpec : ChangeSpec := { name := "branchingFinds", fn := fun _ => fun
  | [d] => { results := [.lit (.bool true)], args := [d] }
  | _ => none }
def branchingFindsRow : OpenClaim := { program := "ytiklkcjkmhkgjaagreat", sum := "34f081f71664c05241fcfd8b45514aceaa0c874ce04c9b2f721742c3c73d25cd", func := "coverability/coverabilitylaw21.BranchingFinds", spec := "branchingFinds", inPlace := ["slices.overlaps[coverability/api.Value]"], unfollowed := true, recurses := true, apart := false }
def BranchingFindsSaid : Prop := branchingFindsRow.holds Tryz.pinned (OpenSpec.ofChange branchingFindsSpec)

/-- ITS FALSE NEIGHBOUR: 'it returns false'. Refute it at one input. -/
def branchingFindsWrong : ChangeSpec := { name := "branchingFinds", fn := fun _ => fun
  | [d] => { results := [.lit (.bool false)], args := [d] }
  | _ => none }
def BranchingFindsWrongFalsely : Prop := branchingFindsRow.holds Tryz.pinned (OpenSpec.ofChange branchingFindsWrong)

/-- 'coverabilitylaw21.BranchingGrows': WHATEVER THE INPUT: true; the input reads as it did. -/
def branchingGrowsSpec : ChangeSpec := { name := "branchingGrows", fn := fun _ => fun
  | [d] => { results := [.lit (.bool true)], args := [d] }
  | _ => none }
def branchingGrowsRow : OpenClaim := { program := "ytiklkcjkmhkgjaagreat", sum := "34f081f71664c05241fcfd8b45514aceaa0c874ce04c9b2f721742c3c73d25cd", func := "coverability/coverabilitylaw21.BranchingGrows", spec := "branchingGrows", inPlace := ["slices.overlaps[coverability/api.Value]"], unfollowed := true, recurses := true, apart := false }
def BranchingGrowsSaid : Prop := branchingGrowsRow.holds Tryz.pinned (OpenSpec.ofChange branchingGrowsSpec)

/-- ITS FALSE NEIGHBOUR: 'it returns false'. Refute it at one input. -/
def branchingGrowsWrong : ChangeSpec := { name := "branchingGrows", fn := fun _ => fun
  | [d] => { results := [.lit (.bool false)], args := [d] }
  | _ => none }
def BranchingGrowsWrongFalsely : Prop := branchingGrowsRow.holds Tryz.pinned (OpenSpec.ofChange branchingGrowsWrong)

/-- 'coverabilitylaw21.BranchingShapes': WHATEVER THE INPUT: true; the input reads as it did. -/
def branchingShapesSpec : ChangeSpec := { name := "branchingShapes", fn := fun _ => fun
  | [d] => { results := [.lit (.bool true)], args := [d] }
  | _ => none }
def branchingShapesRow : OpenClaim := { program := "ytiklkcjkmhkgjaagreat", sum := "34f081f71664c05241fcfd8b45514aceaa0c874ce04c9b2f721742c3c73d25cd", func := "coverability/coverabilitylaw21.BranchingShapes", spec := "branchingShapes", inPlace := ["slices.overlaps[coverability/api.Value]"], unfollowed := true, recurses := true, apart := false }
def BranchingShapesSaid : Prop := branchingShapesRow.holds Tryz.pinned (OpenSpec.ofChange branchingShapesSpec)

/-- ITS FALSE NEIGHBOUR: 'it returns false'. Refute it at one input. -/
def branchingShapesWrong : ChangeSpec := { name := "branchingShapes", fn := fun _ => fun
  | [d] => { results := [.lit (.bool false)], args := [d] }
  | _ => none }
def BranchingShapesWrongFalsely : Prop := branchingShapesRow.holds Tryz.pinned (OpenSpec.ofChange branchingShapesWrong)

/-- 'coverabilitylaw21.BranchingChains': WHATEVER THE INPUT: true; the input reads as it did. -/
def branchingChainsSpec : ChangeSpec := { name := "branchingChains", fn := fun _ => fun
  | [d] => { results := [.lit (.bool true)], args := [d] }
  | _ => none }
def branchingChainsRow : OpenClaim := { program := "ytiklkcjkmhkgjaagreat", sum := "34f081f71664c05241fcfd8b45514aceaa0c874ce04c9b2f721742c3c73d25cd", func := "coverability/coverabilitylaw21.BranchingChains", spec := "branchingChains", inPlace := ["slices.overlaps[coverability/api.Value]"], unfollowed := true, recurses := true, apart := false }
def BranchingChainsSaid : Prop := branchingChainsRow.holds Tryz.pinned (OpenSpec.ofChange branchingChainsSpec)

/-- ITS FALSE NEIGHBOUR: 'it returns false'. Refute it at one input. -/
def branchingChainsWrong : ChangeSpec := { name := "branchingChains", fn := fun _ => fun
  | [d] => { results := [.lit (.bool false)], args := [d] }
  | _ => none }
def BranchingChainsWrongFalsely : Prop := branchingChainsRow.holds Tryz.pinned (OpenSpec.ofChange branchingChainsWrong)

/- THE SECOND FORM. 'bulk': how many values and letters a reading holds, each counted each time it is reached (what is shared counts as often as it is met; a slice's spare places count too). A statement '..UptoSaid' is the law's where the arguments, and the package variables that the reading takes, are together of bulk at most 1048576: NARROWER than '..Said'. Prove '..Said' where nothing that the law and all that it calls make is longer than what came in: it says more and counts as full. Else prove '..UptoSaid'. A law counts once. -/
mutual
def uptoBulk {H : Type} : DataW H → Nat
  | .lit (.string bytes) => bytes.length + 1
  | .lit _ => 1
  | .nil => 1
  | .ptr d => uptoBulk d + 1
  | .slice elems spare => uptoBulkAll elems + uptoBulkAll spare + 1
  | .agg parts => uptoBulkAll parts + 1
  | .iface _ d => uptoBulk d + 1
  | .map entries => uptoBulkEntries entries + 1
  | .held _ => 1
def uptoBulkAll {H : Type} : List (DataW H) → Nat
  | [] => 0
  | d :: r => uptoBulk d + uptoBulkAll r
def uptoBulkEntries {H : Type} : List (Lit × DataW H) → Nat
  | [] => 0
  | x :: r => uptoBulkEntry x + uptoBulkEntries r
def uptoBulkEntry {H : Type} : Lit × DataW H → Nat
  | (.string bytes, d) => bytes.length + uptoBulk d + 1
  | (_, d) => uptoBulk d + 1
 end
def uptoSmall : (H : Type) → List (DataW H) → Bool := fun _ ds => decide (uptoBulkAll ds ≤ 1048576)
def OpenSpec.upto (s : _root_.Go.ChangeSpec) : _root_.Go.OpenSpec := { _root_.Go.OpenSpec.ofChange s with cond := some uptoSmall }

/-- 'coverabilitylaw21.BranchingExact', WHERE WHAT IT READS IS OF BULK AT MOST 1048576: true; the input reads as it did. -/
def branchingExactUptoRow : OpenClaim := { program := "ytiklkcjkmhkgjaagreat", sum := "34f081f71664c05241fcfd8b45514aceaa0c874ce04c9b2f721742c3c73d25cd", func := "coverability/coverabilitylaw21.BranchingExact", spec := "branchingExact", inPlace := ["slices.overlaps[coverability/api.Value]"], unfollowed := true, recurses := true, loops := true, apart := false, narrowed := true }
def BranchingExactUptoSaid : Prop := branchingExactUptoRow.holds Tryz.pinned (OpenSpec.upto branchingExactSpec)

/-- 'coverabilitylaw21.BranchingFinds', WHERE WHAT IT READS IS OF BULK AT MOST 1048576: true; the input reads as it did. -/
def branchingFindsUptoRow : OpenClaim := { program := "ytiklkcjkmhkgjaagreat", sum := "34f081f71664c05241fcfd8b45514aceaa0c874ce04c9b2f721742c3c73d25cd", func := "coverability/coverabilitylaw21.BranchingFinds", spec := "branchingFinds", inPlace := ["slices.overlaps[coverability/api.Value]"], unfollowed := true, recurses := true, apart := false, narrowed := true }
def BranchingFindsUptoSaid : Prop := branchingFindsUptoRow.holds Tryz.pinned (OpenSpec.upto branchingFindsSpec)

/-- 'coverabilitylaw21.BranchingGrows', WHERE WHAT IT READS IS OF BULK AT MOST 1048576: true; the input reads as it did. -/
def branchingGrowsUptoRow : OpenClaim := { program := "ytiklkcjkmhkgjaagreat", sum := "34f081f71664c05241fcfd8b45514aceaa0c874ce04c9b2f721742c3c73d25cd", func := "coverability/coverabilitylaw21.BranchingGrows", spec := "branchingGrows", inPlace := ["slices.overlaps[coverability/api.Value]"], unfollowed := true, recurses := true, apart := false, narrowed := true }
def BranchingGrowsUptoSaid : Prop := branchingGrowsUptoRow.holds Tryz.pinned (OpenSpec.upto branchingGrowsSpec)

/-- 'coverabilitylaw21.BranchingShapes', WHERE WHAT IT READS IS OF BULK AT MOST 1048576: true; the input reads as it did. -/
def branchingShapesUptoRow : OpenClaim := { program := "ytiklkcjkmhkgjaagreat", sum := "34f081f71664c05241fcfd8b45514aceaa0c874ce04c9b2f721742c3c73d25cd", func := "coverability/coverabilitylaw21.BranchingShapes", spec := "branchingShapes", inPlace := ["slices.overlaps[coverability/api.Value]"], unfollowed := true, recurses := true, apart := false, narrowed := true }
def BranchingShapesUptoSaid : Prop := branchingShapesUptoRow.holds Tryz.pinned (OpenSpec.upto branchingShapesSpec)

/-- 'coverabilitylaw21.BranchingChains', WHERE WHAT IT READS IS OF BULK AT MOST 1048576: true; the input reads as it did. -/
def branchingChainsUptoRow : OpenClaim := { program := "ytiklkcjkmhkgjaagreat", sum := "34f081f71664c05241fcfd8b45514aceaa0c874ce04c9b2f721742c3c73d25cd", func := "coverability/coverabilitylaw21.BranchingChains", spec := "branchingChains", inPlace := ["slices.overlaps[coverability/api.Value]"], unfollowed := true, recurses := true, apart := false, narrowed := true }
def BranchingChainsUptoSaid : Prop := branchingChainsUptoRow.holds Tryz.pinned (OpenSpec.upto branchingChainsSpec)

end Rows
end Go.Proofs.YtiklkcjkmhkgjaaGreat
