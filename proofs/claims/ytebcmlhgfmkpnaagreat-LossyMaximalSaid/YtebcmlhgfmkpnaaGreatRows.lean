/-
  No cell of these rows narrows 'for every input' (looked for: loops, veiled, ifaces, maps, wideKeys, modest, calm, conditions, laid).
  DERIVED. THE GIVEN ROWS OF THIS SEAT. 5 by the template 'for every input the law returns true; each argument reads behind the call as it read before'; 0 by the template 'total and deterministic' (their statements: YtebcmlhgfmkpnaaGreatTotals.lean).
  GIVEN WITH THE SEED: the statements are not yours to turn. If you find one false, say at which input.
  Laid BY PROGRAM, IN A SANDBOX (cutbox-rows.mjs): the forced cells as the released guide's own fill.sh prints them over the translation 1df3744e84227104… (all of the seat's roots in one cut). By AI agents, Wed Nov 11 2026. No macro, syntax, notation, axiom, sorry.
-/
import Derived.Test.YtebcmlhgfmkpnaaGreatChecked
import GoSem.Claim
import GoSem.ClaimJoined
import GoSem.ClaimMapViews
import Derived.JoinedTies
import Derived.KernelRfl
namespace Go.Proofs.YtebcmlhgfmkpnaaGreat
/- THE CELL 'sum', in the pinned program and in every row, IS THE sha256 OF THE DUMP (.gsa) THAT YtebcmlhgfmkpnaaGreatProg.lean LOADS. Nothing in Lean hashes anything: it is a label: what it is worth is what the hold of that sum in a sandbox is worth. -/
noncomputable def Tryz.pinned : Pinned := { name := "ytebcmlhgfmkpnaagreat", sum := "1df3744e8422710480708259c780febec28211d01ba190640f147608b8c523ec", checked := Tryz.checked }
namespace Rows
def none {H : Type} : Left H := { results := [], args := [] }

/-- 'coverabilitylaw31.LossyHolds': WHATEVER THE INPUT: true; the input reads as it did. -/
def lossyHoldsSpec : ChangeSpec := { name := "lossyHolds", fn := fun _ => fun
  | [d] => { results := [.lit (.bool true)], args := [d] }
  | _ => none }
def lossyHoldsRow : OpenClaim := { program := "ytebcmlhgfmkpnaagreat", sum := "1df3744e8422710480708259c780febec28211d01ba190640f147608b8c523ec", func := "coverability/coverabilitylaw31.LossyHolds", spec := "lossyHolds", unfollowed := true, recurses := true, apart := false }
def LossyHoldsSaid : Prop := lossyHoldsRow.holds Tryz.pinned (OpenSpec.ofChange lossyHoldsSpec)

/-- ITS FALSE NEIGHBOUR: 'it returns false'. Refute it at one input. -/
def lossyHoldsWrong : ChangeSpec := { name := "lossyHolds", fn := fun _ => fun
  | [d] => { results := [.lit (.bool false)], args := [d] }
  | _ => none }
def LossyHoldsWrongFalsely : Prop := lossyHoldsRow.holds Tryz.pinned (OpenSpec.ofChange lossyHoldsWrong)

/-- 'coverabilitylaw31.LossyMaximal': WHATEVER THE INPUT: true; the input reads as it did. -/
def lossyMaximalSpec : ChangeSpec := { name := "lossyMaximal", fn := fun _ => fun
  | [d] => { results := [.lit (.bool true)], args := [d] }
  | _ => none }
def lossyMaximalRow : OpenClaim := { program := "ytebcmlhgfmkpnaagreat", sum := "1df3744e8422710480708259c780febec28211d01ba190640f147608b8c523ec", func := "coverability/coverabilitylaw31.LossyMaximal", spec := "lossyMaximal", unfollowed := true, recurses := true, apart := false }
def LossyMaximalSaid : Prop := lossyMaximalRow.holds Tryz.pinned (OpenSpec.ofChange lossyMaximalSpec)

/-- ITS FALSE NEIGHBOUR: 'it returns false'. Refute it at one input. -/
def lossyMaximalWrong : ChangeSpec := { name := "lossyMaximal", fn := fun _ => fun
  | [d] => { results := [.lit (.bool false)], args := [d] }
  | _ => none }
def LossyMaximalWrongFalsely : Prop := lossyMaximalRow.holds Tryz.pinned (OpenSpec.ofChange lossyMaximalWrong)

/-- 'coverabilitylaw31.LossyLoops': WHATEVER THE INPUT: true; the input reads as it did. -/
def lossyLoopsSpec : ChangeSpec := { name := "lossyLoops", fn := fun _ => fun
  | [d] => { results := [.lit (.bool true)], args := [d] }
  | _ => none }
def lossyLoopsRow : OpenClaim := { program := "ytebcmlhgfmkpnaagreat", sum := "1df3744e8422710480708259c780febec28211d01ba190640f147608b8c523ec", func := "coverability/coverabilitylaw31.LossyLoops", spec := "lossyLoops", unfollowed := true, recurses := true, apart := false }
def LossyLoopsSaid : Prop := lossyLoopsRow.holds Tryz.pinned (OpenSpec.ofChange lossyLoopsSpec)

/-- ITS FALSE NEIGHBOUR: 'it returns false'. Refute it at one input. -/
def lossyLoopsWrong : ChangeSpec := { name := "lossyLoops", fn := fun _ => fun
  | [d] => { results := [.lit (.bool false)], args := [d] }
  | _ => none }
def LossyLoopsWrongFalsely : Prop := lossyLoopsRow.holds Tryz.pinned (OpenSpec.ofChange lossyLoopsWrong)

/-- 'coverabilitylaw31.LossyPosts': WHATEVER THE INPUT: true; the input reads as it did. -/
def lossyPostsSpec : ChangeSpec := { name := "lossyPosts", fn := fun _ => fun
  | [d] => { results := [.lit (.bool true)], args := [d] }
  | _ => none }
def lossyPostsRow : OpenClaim := { program := "ytebcmlhgfmkpnaagreat", sum := "1df3744e8422710480708259c780febec28211d01ba190640f147608b8c523ec", func := "coverability/coverabilitylaw31.LossyPosts", spec := "lossyPosts", unfollowed := true, recurses := true, apart := false }
def LossyPostsSaid : Prop := lossyPostsRow.holds Tryz.pinned (OpenSpec.ofChange lossyPostsSpec)

/-- ITS FALSE NEIGHBOUR: 'it returns false'. Refute it at one input. -/
def lossyPostsWrong : ChangeSpec := { name := "lossyPosts", fn := fun _ => fun
  | [d] => { results := [.lit (.bool false)], args := [d] }
  | _ => none }
def LossyPostsWrongFalsely : Prop := lossyPostsRow.holds Tryz.pinned (OpenSpec.ofChange lossyPostsWrong)

/-- 'coverabilitylaw31.LossySteps': WHATEVER THE INPUT: true; the input reads as it did. -/
def lossyStepsSpec : ChangeSpec := { name := "lossySteps", fn := fun _ => fun
  | [d1, d2, d3, d4] => { results := [.lit (.bool true)], args := [d1, d2, d3, d4] }
  | _ => none }
def lossyStepsRow : OpenClaim := { program := "ytebcmlhgfmkpnaagreat", sum := "1df3744e8422710480708259c780febec28211d01ba190640f147608b8c523ec", func := "coverability/coverabilitylaw31.LossySteps", spec := "lossySteps", unfollowed := true, recurses := true, apart := false }
def LossyStepsSaid : Prop := lossyStepsRow.holds Tryz.pinned (OpenSpec.ofChange lossyStepsSpec)

/-- ITS FALSE NEIGHBOUR: 'it returns false'. Refute it at one input. -/
def lossyStepsWrong : ChangeSpec := { name := "lossySteps", fn := fun _ => fun
  | [d1, d2, d3, d4] => { results := [.lit (.bool false)], args := [d1, d2, d3, d4] }
  | _ => none }
def LossyStepsWrongFalsely : Prop := lossyStepsRow.holds Tryz.pinned (OpenSpec.ofChange lossyStepsWrong)

/- THE SECOND FORM. 'bulk': how many values and letters a reading holds, each counted each time it is reached (what is shared counts as often as it is met; a slice's spare places count too). A statement '..UptoSaid' is the law's where the arguments, and the package variables that the reading takes, are together of bulk at most 1048576: NARROWER than '..Said'. Prove '..Said' where nothing that the law and all that it calls make is longer than what came in: it says more and counts as full. Else prove '..UptoSaid'. A law counts once. -/
mutual
def uptoBulk {H : Type} : DataW H → Nat
  | .lit (.string bytes) => bytes.length + 1
  | .lit _ => 1
  | .nil => 1
  | .ptr d => uptoBulk d + 1
  | .slice elems spare => uptoBulkAll elems + uptoBulkAll spare + 1
  | .agg parts => uptoBulkAll parts + 1
  | .iface _ d => uptoBulk d + 1
  | .map entries => uptoBulkEntries entries + 1
  | .held _ => 1
def uptoBulkAll {H : Type} : List (DataW H) → Nat
  | [] => 0
  | d :: r => uptoBulk d + uptoBulkAll r
def uptoBulkEntries {H : Type} : List (Lit × DataW H) → Nat
  | [] => 0
  | x :: r => uptoBulkEntry x + uptoBulkEntries r
def uptoBulkEntry {H : Type} : Lit × DataW H → Nat
  | (.string bytes, d) => bytes.length + uptoBulk d + 1
  | (_, d) => uptoBulk d + 1
 end
def uptoSmall : (H : Type) → List (DataW H) → Bool := fun _ ds => decide (uptoBulkAll ds ≤ 1048576)
def OpenSpec.upto (s : _root_.Go.ChangeSpec) : _root_.Go.OpenSpec := { _root_.Go.OpenSpec.ofChange s with cond := some uptoSmall }

/-- 'coverabilitylaw31.LossyHolds', WHERE WHAT IT READS IS OF BULK AT MOST 1048576: true; the input reads as it did. -/
def lossyHoldsUptoRow : OpenClaim := { program := "ytebcmlhgfmkpnaagreat", sum := "1df3744e8422710480708259c780febec28211d01ba190640f147608b8c523ec", func := "coverability/coverabilitylaw31.LossyHolds", spec := "lossyHolds", unfollowed := true, recurses := true, apart := false, narrowed := true }
def LossyHoldsUptoSaid : Prop := lossyHoldsUptoRow.holds Tryz.pinned (OpenSpec.upto lossyHoldsSpec)

/-- 'coverabilitylaw31.LossyMaximal', WHERE WHAT IT READS IS OF BULK AT MOST 1048576: true; the input reads as it did. -/
def lossyMaximalUptoRow : OpenClaim := { program := "ytebcmlhgfmkpnaagreat", sum := "1df3744e8422710480708259c780febec28211d01ba190640f147608b8c523ec", func := "coverability/coverabilitylaw31.LossyMaximal", spec := "lossyMaximal", unfollowed := true, recurses := true, apart := false, narrowed := true }
def LossyMaximalUptoSaid : Prop := lossyMaximalUptoRow.holds Tryz.pinned (OpenSpec.upto lossyMaximalSpec)

/-- 'coverabilitylaw31.LossyLoops', WHERE WHAT IT READS IS OF BULK AT MOST 1048576: true; the input reads as it did. -/
def lossyLoopsUptoRow : OpenClaim := { program := "ytebcmlhgfmkpnaagreat", sum := "1df3744e8422710480708259c780febec28211d01ba190640f147608b8c523ec", func := "coverability/coverabilitylaw31.LossyLoops", spec := "lossyLoops", unfollowed := true, recurses := true, apart := false, narrowed := true }
def LossyLoopsUptoSaid : Prop := lossyLoopsUptoRow.holds Tryz.pinned (OpenSpec.upto lossyLoopsSpec)

/-- 'coverabilitylaw31.LossyPosts', WHERE WHAT IT READS IS OF BULK AT MOST 1048576: true; the input reads as it did. -/
def lossyPostsUptoRow : OpenClaim := { program := "ytebcmlhgfmkpnaagreat", sum := "1df3744e8422710480708259c780febec28211d01ba190640f147608b8c523ec", func := "coverability/coverabilitylaw31.LossyPosts", spec := "lossyPosts", unfollowed := true, recurses := true, apart := false, narrowed := true }
def LossyPostsUptoSaid : Prop := lossyPostsUptoRow.holds Tryz.pinned (OpenSpec.upto lossyPostsSpec)

/-- 'coverabilitylaw31.LossySteps', WHERE WHAT IT READS IS OF BULK AT MOST 1048576: true; the input reads as it did. -/
def lossyStepsUptoRow : OpenClaim := { program := "ytebcmlhgfmkpnaagreat", sum := "1df3744e8422710480708259c780febec28211d01ba190640f147608b8c523ec", func := "coverability/coverabilitylaw31.LossySteps", spec := "lossySteps", unfollowed := true, recurses := true, apart := false, narrowed := true }
def LossyStepsUptoSaid : Prop := lossyStepsUptoRow.holds Tryz.pinned (OpenSpec.upto lossyStepsSpec)

end Rows
end Go.Proofs.YtebcmlhgfmkpnaaGreat
