/-
  No cell of these rows narrows 'for every input' (looked for: loops, veiled, ifaces, maps, wideKeys, modest, calm, conditions, laid).
  DERIVED. THE GIVEN ROWS OF THIS SEAT. 5 by the template 'for every input the law returns true; each argument reads behind the call as it read before'; 0 by the template 'total and deterministic' (their statements: YtoglpcfaojcmeaaTotals.lean).
  GIVEN WITH THE SEED: the statements are not yours to turn. If you find one false, say at which input.
  Laid BY PROGRAM, IN A SANDBOX (cutbox-rows.mjs): the forced cells as the released guide's own fill.sh prints them over the translation e63fdd7d5eb0d2b1… (all of the seat's roots in one cut). By AI agents, Wed Nov 11 2026. No macro, syntax, notation, axiom, sorry.
-/
import Derived.Test.YtoglpcfaojcmeaaChecked
import GoSem.Claim
import GoSem.ClaimJoined
import GoSem.ClaimMapViews
import Derived.JoinedTies
import Derived.KernelRfl
namespace Go.Proofs.Ytoglpcfaojcmeaa
/- THE CELL 'sum', in the pinned program and in every row, IS THE sha256 OF THE DUMP (.gsa) THAT YtoglpcfaojcmeaaProg.lean LOADS. Nothing in Lean hashes anything: it is a label: what it is worth is what the hold of that sum in a sandbox is worth. -/
noncomputable def Try.pinned : Pinned := { name := "ytoglpcfaojcmeaa", sum := "e63fdd7d5eb0d2b177e754c8ded3f135dc1e6f14f8f9c56684114f425de20f77", checked := Try.checked }
namespace Rows
def none {H : Type} : Left H := { results := [], args := [] }

/-- 'coverabilitylaw11.SemiflowExact': WHATEVER THE INPUT: true; the input reads as it did. -/
def semiflowExactSpec : ChangeSpec := { name := "semiflowExact", fn := fun _ => fun
  | [d1, d2, d3, d4, d5, d6] => { results := [.lit (.bool true)], args := [d1, d2, d3, d4, d5, d6] }
  | _ => none }
def semiflowExactRow : OpenClaim := { program := "ytoglpcfaojcmeaa", sum := "e63fdd7d5eb0d2b177e754c8ded3f135dc1e6f14f8f9c56684114f425de20f77", func := "coverability/coverabilitylaw11.SemiflowExact", spec := "semiflowExact", unfollowed := true, recurses := true, apart := false }
def SemiflowExactSaid : Prop := semiflowExactRow.holds Try.pinned (OpenSpec.ofChange semiflowExactSpec)

/-- ITS FALSE NEIGHBOUR: 'it returns false'. Refute it at one input. -/
def semiflowExactWrong : ChangeSpec := { name := "semiflowExact", fn := fun _ => fun
  | [d1, d2, d3, d4, d5, d6] => { results := [.lit (.bool false)], args := [d1, d2, d3, d4, d5, d6] }
  | _ => none }
def SemiflowExactWrongFalsely : Prop := semiflowExactRow.holds Try.pinned (OpenSpec.ofChange semiflowExactWrong)

/-- 'coverabilitylaw11.SemiflowHolds': WHATEVER THE INPUT: true; the input reads as it did. -/
def semiflowHoldsSpec : ChangeSpec := { name := "semiflowHolds", fn := fun _ => fun
  | [d] => { results := [.lit (.bool true)], args := [d] }
  | _ => none }
def semiflowHoldsRow : OpenClaim := { program := "ytoglpcfaojcmeaa", sum := "e63fdd7d5eb0d2b177e754c8ded3f135dc1e6f14f8f9c56684114f425de20f77", func := "coverability/coverabilitylaw11.SemiflowHolds", spec := "semiflowHolds", unfollowed := true, recurses := true, apart := false }
def SemiflowHoldsSaid : Prop := semiflowHoldsRow.holds Try.pinned (OpenSpec.ofChange semiflowHoldsSpec)

/-- ITS FALSE NEIGHBOUR: 'it returns false'. Refute it at one input. -/
def semiflowHoldsWrong : ChangeSpec := { name := "semiflowHolds", fn := fun _ => fun
  | [d] => { results := [.lit (.bool false)], args := [d] }
  | _ => none }
def SemiflowHoldsWrongFalsely : Prop := semiflowHoldsRow.holds Try.pinned (OpenSpec.ofChange semiflowHoldsWrong)

/-- 'coverabilitylaw11.SemiflowFinds': WHATEVER THE INPUT: true; the input reads as it did. -/
def semiflowFindsSpec : ChangeSpec := { name := "semiflowFinds", fn := fun _ => fun
  | [d] => { results := [.lit (.bool true)], args := [d] }
  | _ => none }
def semiflowFindsRow : OpenClaim := { program := "ytoglpcfaojcmeaa", sum := "e63fdd7d5eb0d2b177e754c8ded3f135dc1e6f14f8f9c56684114f425de20f77", func := "coverability/coverabilitylaw11.SemiflowFinds", spec := "semiflowFinds", unfollowed := true, recurses := true, apart := false }
def SemiflowFindsSaid : Prop := semiflowFindsRow.holds Try.pinned (OpenSpec.ofChange semiflowFindsSpec)

/-- ITS FALSE NEIGHBOUR: 'it returns false'. Refute it at one input. -/
def semiflowFindsWrong : ChangeSpec := { name := "semiflowFinds", fn := fun _ => fun
  | [d] => { results := [.lit (.bool false)], args := [d] }
  | _ => none }
def SemiflowFindsWrongFalsely : Prop := semiflowFindsRow.holds Try.pinned (OpenSpec.ofChange semiflowFindsWrong)

/-- 'coverabilitylaw11.SemiflowKeeps': WHATEVER THE INPUT: true; the input reads as it did. -/
def semiflowKeepsSpec : ChangeSpec := { name := "semiflowKeeps", fn := fun _ => fun
  | [d] => { results := [.lit (.bool true)], args := [d] }
  | _ => none }
def semiflowKeepsRow : OpenClaim := { program := "ytoglpcfaojcmeaa", sum := "e63fdd7d5eb0d2b177e754c8ded3f135dc1e6f14f8f9c56684114f425de20f77", func := "coverability/coverabilitylaw11.SemiflowKeeps", spec := "semiflowKeeps", unfollowed := true, recurses := true, apart := false }
def SemiflowKeepsSaid : Prop := semiflowKeepsRow.holds Try.pinned (OpenSpec.ofChange semiflowKeepsSpec)

/-- ITS FALSE NEIGHBOUR: 'it returns false'. Refute it at one input. -/
def semiflowKeepsWrong : ChangeSpec := { name := "semiflowKeeps", fn := fun _ => fun
  | [d] => { results := [.lit (.bool false)], args := [d] }
  | _ => none }
def SemiflowKeepsWrongFalsely : Prop := semiflowKeepsRow.holds Try.pinned (OpenSpec.ofChange semiflowKeepsWrong)

/-- 'coverabilitylaw11.SemiflowSums': WHATEVER THE INPUT: true; the input reads as it did. -/
def semiflowSumsSpec : ChangeSpec := { name := "semiflowSums", fn := fun _ => fun
  | [d] => { results := [.lit (.bool true)], args := [d] }
  | _ => none }
def semiflowSumsRow : OpenClaim := { program := "ytoglpcfaojcmeaa", sum := "e63fdd7d5eb0d2b177e754c8ded3f135dc1e6f14f8f9c56684114f425de20f77", func := "coverability/coverabilitylaw11.SemiflowSums", spec := "semiflowSums", unfollowed := true, recurses := true, apart := false }
def SemiflowSumsSaid : Prop := semiflowSumsRow.holds Try.pinned (OpenSpec.ofChange semiflowSumsSpec)

/-- ITS FALSE NEIGHBOUR: 'it returns false'. Refute it at one input. -/
def semiflowSumsWrong : ChangeSpec := { name := "semiflowSums", fn := fun _ => fun
  | [d] => { results := [.lit (.bool false)], args := [d] }
  | _ => none }
def SemiflowSumsWrongFalsely : Prop := semiflowSumsRow.holds Try.pinned (OpenSpec.ofChange semiflowSumsWrong)

/- THE SECOND FORM. 'bulk': how many values and letters a reading holds, each counted each time it is reached (what is shared counts as often as it is met; a slice's spare places count too). A statement '..UptoSaid' is the law's where the arguments, and the package variables that the reading takes, are together of bulk at most 1048576: NARROWER than '..Said'. Prove '..Said' where nothing that the law and all that it calls make is longer than what came in: it says more and counts as full. Else prove '..UptoSaid'. A law counts once. -/
mutual
def uptoBulk {H : Type} : DataW H → Nat
  | .lit (.string bytes) => bytes.length + 1
  | .lit _ => 1
  | .nil => 1
  | .ptr d => uptoBulk d + 1
  | .slice elems spare => uptoBulkAll elems + uptoBulkAll spare + 1
  | .agg parts => uptoBulkAll parts + 1
  | .iface _ d => uptoBulk d + 1
  | .map entries => uptoBulkEntries entries + 1
  | .held _ => 1
def uptoBulkAll {H : Type} : List (DataW H) → Nat
  | [] => 0
  | d :: r => uptoBulk d + uptoBulkAll r
def uptoBulkEntries {H : Type} : List (Lit × DataW H) → Nat
  | [] => 0
  | x :: r => uptoBulkEntry x + uptoBulkEntries r
def uptoBulkEntry {H : Type} : Lit × DataW H → Nat
  | (.string bytes, d) => bytes.length + uptoBulk d + 1
  | (_, d) => uptoBulk d + 1
 end
def uptoSmall : (H : Type) → List (DataW H) → Bool := fun _ ds => decide (uptoBulkAll ds ≤ 1048576)
def OpenSpec.upto (s : _root_.Go.ChangeSpec) : _root_.Go.OpenSpec := { _root_.Go.OpenSpec.ofChange s with cond := some uptoSmall }

/-- 'coverabilitylaw11.SemiflowExact', WHERE WHAT IT READS IS OF BULK AT MOST 1048576: true; the input reads as it did. -/
def semiflowExactUptoRow : OpenClaim := { program := "ytoglpcfaojcmeaa", sum := "e63fdd7d5eb0d2b177e754c8ded3f135dc1e6f14f8f9c56684114f425de20f77", func := "coverability/coverabilitylaw11.SemiflowExact", spec := "semiflowExact", unfollowed := true, recurses := true, apart := false, narrowed := true }
def SemiflowExactUptoSaid : Prop := semiflowExactUptoRow.holds Try.pinned (OpenSpec.upto semiflowExactSpec)

/-- 'coverabilitylaw11.SemiflowHolds', WHERE WHAT IT READS IS OF BULK AT MOST 1048576: true; the input reads as it did. -/
def semiflowHoldsUptoRow : OpenClaim := { program := "ytoglpcfaojcmeaa", sum := "e63fdd7d5eb0d2b177e754c8ded3f135dc1e6f14f8f9c56684114f425de20f77", func := "coverability/coverabilitylaw11.SemiflowHolds", spec := "semiflowHolds", unfollowed := true, recurses := true, apart := false, narrowed := true }
def SemiflowHoldsUptoSaid : Prop := semiflowHoldsUptoRow.holds Try.pinned (OpenSpec.upto semiflowHoldsSpec)

/-- 'coverabilitylaw11.SemiflowFinds', WHERE WHAT IT READS IS OF BULK AT MOST 1048576: true; the input reads as it did. -/
def semiflowFindsUptoRow : OpenClaim := { program := "ytoglpcfaojcmeaa", sum := "e63fdd7d5eb0d2b177e754c8ded3f135dc1e6f14f8f9c56684114f425de20f77", func := "coverability/coverabilitylaw11.SemiflowFinds", spec := "semiflowFinds", unfollowed := true, recurses := true, apart := false, narrowed := true }
def SemiflowFindsUptoSaid : Prop := semiflowFindsUptoRow.holds Try.pinned (OpenSpec.upto semiflowFindsSpec)

/-- 'coverabilitylaw11.SemiflowKeeps', WHERE WHAT IT READS IS OF BULK AT MOST 1048576: true; the input reads as it did. -/
def semiflowKeepsUptoRow : OpenClaim := { program := "ytoglpcfaojcmeaa", sum := "e63fdd7d5eb0d2b177e754c8ded3f135dc1e6f14f8f9c56684114f425de20f77", func := "coverability/coverabilitylaw11.SemiflowKeeps", spec := "semiflowKeeps", unfollowed := true, recurses := true, apart := false, narrowed := true }
def SemiflowKeepsUptoSaid : Prop := semiflowKeepsUptoRow.holds Try.pinned (OpenSpec.upto semiflowKeepsSpec)

/-- 'coverabilitylaw11.SemiflowSums', WHERE WHAT IT READS IS OF BULK AT MOST 1048576: true; the input reads as it did. -/
def semiflowSumsUptoRow : OpenClaim := { program := "ytoglpcfaojcmeaa", sum := "e63fdd7d5eb0d2b177e754c8ded3f135dc1e6f14f8f9c56684114f425de20f77", func := "coverability/coverabilitylaw11.SemiflowSums", spec := "semiflowSums", unfollowed := true, recurses := true, apart := false, narrowed := true }
def SemiflowSumsUptoSaid : Prop := semiflowSumsUptoRow.holds Try.pinned (OpenSpec.upto semiflowSumsSpec)

end Rows
end Go.Proofs.Ytoglpcfaojcmeaa
