/-
  No cell of these rows narrows 'for every input' (looked for: loops, veiled, ifaces, maps, wideKeys, modest, calm, conditions, laid).
  DERIVED. THE GIVEN ROWS OF THIS SEAT. 4 by the template 'for every input the law returns true; each argument reads behind the call as it read before'; 0 by the template 'total and deterministic' (their statements: YtapjfgddbfneaaaGreatTotals.lean).
  GIVEN WITH THE SEED: the statements are not yours to turn. If you find one false, say at which input.
  Laid BY PROGRAM, IN A SANDBOX (cutbox-rows.mjs): the forced cells as the released guide's own fill.sh prints them over the translation b7f6042bdb5fe22c… (all of the seat's roots in one cut). By AI agents, Wed Nov 11 2026. No macro, syntax, notation, axiom, sorry.
-/
import Derived.Test.YtapjfgddbfneaaaGreatChecked
import GoSem.Claim
import GoSem.ClaimJoined
import GoSem.ClaimMapViews
import Derived.JoinedTies
import Derived.KernelRfl
namespace Go.Proofs.YtapjfgddbfneaaaGreat
/- THE CELL 'sum', in the pinned program and in every row, IS THE sha256 OF THE DUMP (.gsa) THAT YtapjfgddbfneaaaGreatProg.lean LOADS. Nothing in Lean hashes anything: it is a label: what it is worth is what the hold of that sum in a sandbox is worth. -/
noncomputable def Tryz.pinned : Pinned := { name := "ytapjfgddbfneaaagreat", sum := "b7f6042bdb5fe22c4b5bfedad387f5ccfbaaa036da910ff6ea6a7b6cd4362e18", checked := Tryz.checked }
namespace Rows
def none {H : Type} : Left H := { results := [], args := [] }

/-- 'coverabilitylaw29.BoundedHolds': WHATEVER THE INPUT: true; the input reads as it did. -/
def boundedHoldsSpec : ChangeSpec := { name := "boundedHolds", fn := fun _ => fun
  | [d] => { results := [.lit (.bool true)], args := [d] }
  | _ => none }
def boundedHoldsRow : OpenClaim := { program := "ytapjfgddbfneaaagreat", sum := "b7f6042bdb5fe22c4b5bfedad387f5ccfbaaa036da910ff6ea6a7b6cd4362e18", func := "coverability/coverabilitylaw29.BoundedHolds", spec := "boundedHolds", unfollowed := true, recurses := true, apart := false }
def BoundedHoldsSaid : Prop := boundedHoldsRow.holds Tryz.pinned (OpenSpec.ofChange boundedHoldsSpec)

/-- ITS FALSE NEIGHBOUR: 'it returns false'. Refute it at one input. -/
def boundedHoldsWrong : ChangeSpec := { name := "boundedHolds", fn := fun _ => fun
  | [d] => { results := [.lit (.bool false)], args := [d] }
  | _ => none }
def BoundedHoldsWrongFalsely : Prop := boundedHoldsRow.holds Tryz.pinned (OpenSpec.ofChange boundedHoldsWrong)

/-- 'coverabilitylaw29.BoundedApart': WHATEVER THE INPUT: true; the input reads as it did. -/
def boundedApartSpec : ChangeSpec := { name := "boundedApart", fn := fun _ => fun
  | [d1, d2] => { results := [.lit (.bool true)], args := [d1, d2] }
  | _ => none }
def boundedApartRow : OpenClaim := { program := "ytapjfgddbfneaaagreat", sum := "b7f6042bdb5fe22c4b5bfedad387f5ccfbaaa036da910ff6ea6a7b6cd4362e18", func := "coverability/coverabilitylaw29.BoundedApart", spec := "boundedApart", unfollowed := true, recurses := true, apart := false }
def BoundedApartSaid : Prop := boundedApartRow.holds Tryz.pinned (OpenSpec.ofChange boundedApartSpec)

/-- ITS FALSE NEIGHBOUR: 'it returns false'. Refute it at one input. -/
def boundedApartWrong : ChangeSpec := { name := "boundedApart", fn := fun _ => fun
  | [d1, d2] => { results := [.lit (.bool false)], args := [d1, d2] }
  | _ => none }
def BoundedApartWrongFalsely : Prop := boundedApartRow.holds Tryz.pinned (OpenSpec.ofChange boundedApartWrong)

/-- 'coverabilitylaw29.BoundedWider': WHATEVER THE INPUT: true; the input reads as it did. -/
def boundedWiderSpec : ChangeSpec := { name := "boundedWider", fn := fun _ => fun
  | [d] => { results := [.lit (.bool true)], args := [d] }
  | _ => none }
def boundedWiderRow : OpenClaim := { program := "ytapjfgddbfneaaagreat", sum := "b7f6042bdb5fe22c4b5bfedad387f5ccfbaaa036da910ff6ea6a7b6cd4362e18", func := "coverability/coverabilitylaw29.BoundedWider", spec := "boundedWider", unfollowed := true, recurses := true, apart := false }
def BoundedWiderSaid : Prop := boundedWiderRow.holds Tryz.pinned (OpenSpec.ofChange boundedWiderSpec)

/-- ITS FALSE NEIGHBOUR: 'it returns false'. Refute it at one input. -/
def boundedWiderWrong : ChangeSpec := { name := "boundedWider", fn := fun _ => fun
  | [d] => { results := [.lit (.bool false)], args := [d] }
  | _ => none }
def BoundedWiderWrongFalsely : Prop := boundedWiderRow.holds Tryz.pinned (OpenSpec.ofChange boundedWiderWrong)

/-- 'coverabilitylaw29.BoundedPumps': WHATEVER THE INPUT: true; the input reads as it did. -/
def boundedPumpsSpec : ChangeSpec := { name := "boundedPumps", fn := fun _ => fun
  | [d1, d2] => { results := [.lit (.bool true)], args := [d1, d2] }
  | _ => none }
def boundedPumpsRow : OpenClaim := { program := "ytapjfgddbfneaaagreat", sum := "b7f6042bdb5fe22c4b5bfedad387f5ccfbaaa036da910ff6ea6a7b6cd4362e18", func := "coverability/coverabilitylaw29.BoundedPumps", spec := "boundedPumps", unfollowed := true, recurses := true, apart := false }
def BoundedPumpsSaid : Prop := boundedPumpsRow.holds Tryz.pinned (OpenSpec.ofChange boundedPumpsSpec)

/-- ITS FALSE NEIGHBOUR: 'it returns false'. Refute it at one input. -/
def boundedPumpsWrong : ChangeSpec := { name := "boundedPumps", fn := fun _ => fun
  | [d1, d2] => { results := [.lit (.bool false)], args := [d1, d2] }
  | _ => none }
def BoundedPumpsWrongFalsely : Prop := boundedPumpsRow.holds Tryz.pinned (OpenSpec.ofChange boundedPumpsWrong)

/- THE SECOND FORM. 'bulk': how many values and letters a reading holds, each counted each time it is reached (what is shared counts as often as it is met; a slice's spare places count too). A statement '..UptoSaid' is the law's where the arguments, and the package variables that the reading takes, are together of bulk at most 1048576: NARROWER than '..Said'. Prove '..Said' where nothing that the law and all that it calls make is longer than what came in: it says more and counts as full. Else prove '..UptoSaid'. A law counts once. -/
mutual
def uptoBulk {H : Type} : DataW H → Nat
  | .lit (.string bytes) => bytes.length + 1
  | .lit _ => 1
  | .nil => 1
  | .ptr d => uptoBulk d + 1
  | .slice elems spare => uptoBulkAll elems + uptoBulkAll spare + 1
  | .agg parts => uptoBulkAll parts + 1
  | .iface _ d => uptoBulk d + 1
  | .map entries => uptoBulkEntries entries + 1
  | .held _ => 1
def uptoBulkAll {H : Type} : List (DataW H) → Nat
  | [] => 0
  | d :: r => uptoBulk d + uptoBulkAll r
def uptoBulkEntries {H : Type} : List (Lit × DataW H) → Nat
  | [] => 0
  | x :: r => uptoBulkEntry x + uptoBulkEntries r
def uptoBulkEntry {H : Type} : Lit × DataW H → Nat
  | (.string bytes, d) => bytes.length + uptoBulk d + 1
  | (_, d) => uptoBulk d + 1
 end
def uptoSmall : (H : Type) → List (DataW H) → Bool := fun _ ds => decide (uptoBulkAll ds ≤ 1048576)
def OpenSpec.upto (s : _root_.Go.ChangeSpec) : _root_.Go.OpenSpec := { _root_.Go.OpenSpec.ofChange s with cond := some uptoSmall }

/-- 'coverabilitylaw29.BoundedHolds', WHERE WHAT IT READS IS OF BULK AT MOST 1048576: true; the input reads as it did. -/
def boundedHoldsUptoRow : OpenClaim := { program := "ytapjfgddbfneaaagreat", sum := "b7f6042bdb5fe22c4b5bfedad387f5ccfbaaa036da910ff6ea6a7b6cd4362e18", func := "coverability/coverabilitylaw29.BoundedHolds", spec := "boundedHolds", unfollowed := true, recurses := true, apart := false, narrowed := true }
def BoundedHoldsUptoSaid : Prop := boundedHoldsUptoRow.holds Tryz.pinned (OpenSpec.upto boundedHoldsSpec)

/-- 'coverabilitylaw29.BoundedApart', WHERE WHAT IT READS IS OF BULK AT MOST 1048576: true; the input reads as it did. -/
def boundedApartUptoRow : OpenClaim := { program := "ytapjfgddbfneaaagreat", sum := "b7f6042bdb5fe22c4b5bfedad387f5ccfbaaa036da910ff6ea6a7b6cd4362e18", func := "coverability/coverabilitylaw29.BoundedApart", spec := "boundedApart", unfollowed := true, recurses := true, apart := false, narrowed := true }
def BoundedApartUptoSaid : Prop := boundedApartUptoRow.holds Tryz.pinned (OpenSpec.upto boundedApartSpec)

/-- 'coverabilitylaw29.BoundedWider', WHERE WHAT IT READS IS OF BULK AT MOST 1048576: true; the input reads as it did. -/
def boundedWiderUptoRow : OpenClaim := { program := "ytapjfgddbfneaaagreat", sum := "b7f6042bdb5fe22c4b5bfedad387f5ccfbaaa036da910ff6ea6a7b6cd4362e18", func := "coverability/coverabilitylaw29.BoundedWider", spec := "boundedWider", unfollowed := true, recurses := true, apart := false, narrowed := true }
def BoundedWiderUptoSaid : Prop := boundedWiderUptoRow.holds Tryz.pinned (OpenSpec.upto boundedWiderSpec)

/-- 'coverabilitylaw29.BoundedPumps', WHERE WHAT IT READS IS OF BULK AT MOST 1048576: true; the input reads as it did. -/
def boundedPumpsUptoRow : OpenClaim := { program := "ytapjfgddbfneaaagreat", sum := "b7f6042bdb5fe22c4b5bfedad387f5ccfbaaa036da910ff6ea6a7b6cd4362e18", func := "coverability/coverabilitylaw29.BoundedPumps", spec := "boundedPumps", unfollowed := true, recurses := true, apart := false, narrowed := true }
def BoundedPumpsUptoSaid : Prop := boundedPumpsUptoRow.holds Tryz.pinned (OpenSpec.upto boundedPumpsSpec)

end Rows
end Go.Proofs.YtapjfgddbfneaaaGreat
