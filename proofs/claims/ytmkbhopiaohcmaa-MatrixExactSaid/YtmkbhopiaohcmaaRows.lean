/-
  No cell of these rows narrows 'for every input' (looked for: loops, veiled, ifaces, maps, wideKeys, modest, calm, conditions, laid).
  DERIVED. THE GIVEN ROWS OF THIS SEAT. 5 by the template 'for every input the law returns true; each argument reads behind the call as it read before'; 0 by the template 'total and deterministic' (their statements: YtmkbhopiaohcmaaTotals.lean).
  GIVEN WITH THE SEED: the statements are not yours to turn. If you find one false, say at which input.
  Laid BY PROGRAM, IN A SANDBOX (cutbox-rows.mjs): the forced cells as the released guide's own fill.sh prints them over the translation 0fa12aff3b3b3d67… (all of the seat's roots in one cut). By AI agents, Wed Nov 11 2026. No macro, syntax, notation, axiom, sorry.
-/
import Derived.Test.YtmkbhopiaohcmaaChecked
import GoSem.Claim
import GoSem.ClaimJoined
import GoSem.ClaimMapViews
import Derived.JoinedTies
import Derived.KernelRfl
namespace Go.Proofs.Ytmkbhopiaohcmaa
/- THE CELL 'sum', in the pinned program and in every row, IS THE sha256 OF THE DUMP (.gsa) THAT YtmkbhopiaohcmaaProg.lean LOADS. Nothing in Lean hashes anything: it is a label: what it is worth is what the hold of that sum in a sandbox is worth. -/
noncomputable def Try.pinned : Pinned := { name := "ytmkbhopiaohcmaa", sum := "0fa12aff3b3b3d671ae445cc46f735f77cf8d21f64847d279ffbadc246c3bf12", checked := Try.checked }
namespace Rows
def none {H : Type} : Left H := { results := [], args := [] }

/-- 'coverabilitylaw10.MatrixKernel': WHATEVER THE INPUT: true; the input reads as it did. -/
def matrixKernelSpec : ChangeSpec := { name := "matrixKernel", fn := fun _ => fun
  | [d] => { results := [.lit (.bool true)], args := [d] }
  | _ => none }
def matrixKernelRow : OpenClaim := { program := "ytmkbhopiaohcmaa", sum := "0fa12aff3b3b3d671ae445cc46f735f77cf8d21f64847d279ffbadc246c3bf12", func := "coverability/coverabilitylaw10.MatrixKernel", spec := "matrixKernel", unfollowed := true, recurses := true, apart := false }
def MatrixKernelSaid : Prop := matrixKernelRow.holds Try.pinned (OpenSpec.ofChange matrixKernelSpec)

/-- ITS FALSE NEIGHBOUR: 'it returns false'. Refute it at one input. -/
def matrixKernelWrong : ChangeSpec := { name := "matrixKernel", fn := fun _ => fun
  | [d] => { results := [.lit (.bool false)], args := [d] }
  | _ => none }
def MatrixKernelWrongFalsely : Prop := matrixKernelRow.holds Try.pinned (OpenSpec.ofChange matrixKernelWrong)

/-- 'coverabilitylaw10.MatrixLinear': WHATEVER THE INPUT: true; the input reads as it did. -/
def matrixLinearSpec : ChangeSpec := { name := "matrixLinear", fn := fun _ => fun
  | [d] => { results := [.lit (.bool true)], args := [d] }
  | _ => none }
def matrixLinearRow : OpenClaim := { program := "ytmkbhopiaohcmaa", sum := "0fa12aff3b3b3d671ae445cc46f735f77cf8d21f64847d279ffbadc246c3bf12", func := "coverability/coverabilitylaw10.MatrixLinear", spec := "matrixLinear", unfollowed := true, recurses := true, apart := false }
def MatrixLinearSaid : Prop := matrixLinearRow.holds Try.pinned (OpenSpec.ofChange matrixLinearSpec)

/-- ITS FALSE NEIGHBOUR: 'it returns false'. Refute it at one input. -/
def matrixLinearWrong : ChangeSpec := { name := "matrixLinear", fn := fun _ => fun
  | [d] => { results := [.lit (.bool false)], args := [d] }
  | _ => none }
def MatrixLinearWrongFalsely : Prop := matrixLinearRow.holds Try.pinned (OpenSpec.ofChange matrixLinearWrong)

/-- 'coverabilitylaw10.MatrixRank': WHATEVER THE INPUT: true; the input reads as it did. -/
def matrixRankSpec : ChangeSpec := { name := "matrixRank", fn := fun _ => fun
  | [d] => { results := [.lit (.bool true)], args := [d] }
  | _ => none }
def matrixRankRow : OpenClaim := { program := "ytmkbhopiaohcmaa", sum := "0fa12aff3b3b3d671ae445cc46f735f77cf8d21f64847d279ffbadc246c3bf12", func := "coverability/coverabilitylaw10.MatrixRank", spec := "matrixRank", unfollowed := true, recurses := true, apart := false }
def MatrixRankSaid : Prop := matrixRankRow.holds Try.pinned (OpenSpec.ofChange matrixRankSpec)

/-- ITS FALSE NEIGHBOUR: 'it returns false'. Refute it at one input. -/
def matrixRankWrong : ChangeSpec := { name := "matrixRank", fn := fun _ => fun
  | [d] => { results := [.lit (.bool false)], args := [d] }
  | _ => none }
def MatrixRankWrongFalsely : Prop := matrixRankRow.holds Try.pinned (OpenSpec.ofChange matrixRankWrong)

/-- 'coverabilitylaw10.MatrixExact': WHATEVER THE INPUT: true; the input reads as it did. -/
def matrixExactSpec : ChangeSpec := { name := "matrixExact", fn := fun _ => fun
  | [d1, d2, d3, d4] => { results := [.lit (.bool true)], args := [d1, d2, d3, d4] }
  | _ => none }
def matrixExactRow : OpenClaim := { program := "ytmkbhopiaohcmaa", sum := "0fa12aff3b3b3d671ae445cc46f735f77cf8d21f64847d279ffbadc246c3bf12", func := "coverability/coverabilitylaw10.MatrixExact", spec := "matrixExact", unfollowed := true, recurses := true, apart := false }
def MatrixExactSaid : Prop := matrixExactRow.holds Try.pinned (OpenSpec.ofChange matrixExactSpec)

/-- ITS FALSE NEIGHBOUR: 'it returns false'. Refute it at one input. -/
def matrixExactWrong : ChangeSpec := { name := "matrixExact", fn := fun _ => fun
  | [d1, d2, d3, d4] => { results := [.lit (.bool false)], args := [d1, d2, d3, d4] }
  | _ => none }
def MatrixExactWrongFalsely : Prop := matrixExactRow.holds Try.pinned (OpenSpec.ofChange matrixExactWrong)

/-- 'coverabilitylaw10.MatrixProducts': WHATEVER THE INPUT: true; the input reads as it did. -/
def matrixProductsSpec : ChangeSpec := { name := "matrixProducts", fn := fun _ => fun
  | [d] => { results := [.lit (.bool true)], args := [d] }
  | _ => none }
def matrixProductsRow : OpenClaim := { program := "ytmkbhopiaohcmaa", sum := "0fa12aff3b3b3d671ae445cc46f735f77cf8d21f64847d279ffbadc246c3bf12", func := "coverability/coverabilitylaw10.MatrixProducts", spec := "matrixProducts", unfollowed := true, recurses := true, apart := false }
def MatrixProductsSaid : Prop := matrixProductsRow.holds Try.pinned (OpenSpec.ofChange matrixProductsSpec)

/-- ITS FALSE NEIGHBOUR: 'it returns false'. Refute it at one input. -/
def matrixProductsWrong : ChangeSpec := { name := "matrixProducts", fn := fun _ => fun
  | [d] => { results := [.lit (.bool false)], args := [d] }
  | _ => none }
def MatrixProductsWrongFalsely : Prop := matrixProductsRow.holds Try.pinned (OpenSpec.ofChange matrixProductsWrong)

/- THE SECOND FORM. 'bulk': how many values and letters a reading holds, each counted each time it is reached (what is shared counts as often as it is met; a slice's spare places count too). A statement '..UptoSaid' is the law's where the arguments, and the package variables that the reading takes, are together of bulk at most 1048576: NARROWER than '..Said'. Prove '..Said' where nothing that the law and all that it calls make is longer than what came in: it says more and counts as full. Else prove '..UptoSaid'. A law counts once. -/
mutual
def uptoBulk {H : Type} : DataW H → Nat
  | .lit (.string bytes) => bytes.length + 1
  | .lit _ => 1
  | .nil => 1
  | .ptr d => uptoBulk d + 1
  | .slice elems spare => uptoBulkAll elems + uptoBulkAll spare + 1
  | .agg parts => uptoBulkAll parts + 1
  | .iface _ d => uptoBulk d + 1
  | .map entries => uptoBulkEntries entries + 1
  | .held _ => 1
def uptoBulkAll {H : Type} : List (DataW H) → Nat
  | [] => 0
  | d :: r => uptoBulk d + uptoBulkAll r
def uptoBulkEntries {H : Type} : List (Lit × DataW H) → Nat
  | [] => 0
  | x :: r => uptoBulkEntry x + uptoBulkEntries r
def uptoBulkEntry {H : Type} : Lit × DataW H → Nat
  | (.string bytes, d) => bytes.length + uptoBulk d + 1
  | (_, d) => uptoBulk d + 1
 end
def uptoSmall : (H : Type) → List (DataW H) → Bool := fun _ ds => decide (uptoBulkAll ds ≤ 1048576)
def OpenSpec.upto (s : _root_.Go.ChangeSpec) : _root_.Go.OpenSpec := { _root_.Go.OpenSpec.ofChange s with cond := some uptoSmall }

/-- 'coverabilitylaw10.MatrixKernel', WHERE WHAT IT READS IS OF BULK AT MOST 1048576: true; the input reads as it did. -/
def matrixKernelUptoRow : OpenClaim := { program := "ytmkbhopiaohcmaa", sum := "0fa12aff3b3b3d671ae445cc46f735f77cf8d21f64847d279ffbadc246c3bf12", func := "coverability/coverabilitylaw10.MatrixKernel", spec := "matrixKernel", unfollowed := true, recurses := true, apart := false, narrowed := true }
def MatrixKernelUptoSaid : Prop := matrixKernelUptoRow.holds Try.pinned (OpenSpec.upto matrixKernelSpec)

/-- 'coverabilitylaw10.MatrixLinear', WHERE WHAT IT READS IS OF BULK AT MOST 1048576: true; the input reads as it did. -/
def matrixLinearUptoRow : OpenClaim := { program := "ytmkbhopiaohcmaa", sum := "0fa12aff3b3b3d671ae445cc46f735f77cf8d21f64847d279ffbadc246c3bf12", func := "coverability/coverabilitylaw10.MatrixLinear", spec := "matrixLinear", unfollowed := true, recurses := true, apart := false, narrowed := true }
def MatrixLinearUptoSaid : Prop := matrixLinearUptoRow.holds Try.pinned (OpenSpec.upto matrixLinearSpec)

/-- 'coverabilitylaw10.MatrixRank', WHERE WHAT IT READS IS OF BULK AT MOST 1048576: true; the input reads as it did. -/
def matrixRankUptoRow : OpenClaim := { program := "ytmkbhopiaohcmaa", sum := "0fa12aff3b3b3d671ae445cc46f735f77cf8d21f64847d279ffbadc246c3bf12", func := "coverability/coverabilitylaw10.MatrixRank", spec := "matrixRank", unfollowed := true, recurses := true, apart := false, narrowed := true }
def MatrixRankUptoSaid : Prop := matrixRankUptoRow.holds Try.pinned (OpenSpec.upto matrixRankSpec)

/-- 'coverabilitylaw10.MatrixExact', WHERE WHAT IT READS IS OF BULK AT MOST 1048576: true; the input reads as it did. -/
def matrixExactUptoRow : OpenClaim := { program := "ytmkbhopiaohcmaa", sum := "0fa12aff3b3b3d671ae445cc46f735f77cf8d21f64847d279ffbadc246c3bf12", func := "coverability/coverabilitylaw10.MatrixExact", spec := "matrixExact", unfollowed := true, recurses := true, apart := false, narrowed := true }
def MatrixExactUptoSaid : Prop := matrixExactUptoRow.holds Try.pinned (OpenSpec.upto matrixExactSpec)

/-- 'coverabilitylaw10.MatrixProducts', WHERE WHAT IT READS IS OF BULK AT MOST 1048576: true; the input reads as it did. -/
def matrixProductsUptoRow : OpenClaim := { program := "ytmkbhopiaohcmaa", sum := "0fa12aff3b3b3d671ae445cc46f735f77cf8d21f64847d279ffbadc246c3bf12", func := "coverability/coverabilitylaw10.MatrixProducts", spec := "matrixProducts", unfollowed := true, recurses := true, apart := false, narrowed := true }
def MatrixProductsUptoSaid : Prop := matrixProductsUptoRow.holds Try.pinned (OpenSpec.upto matrixProductsSpec)

end Rows
end Go.Proofs.Ytmkbhopiaohcmaa
