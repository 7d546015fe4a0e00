/-
  No cell of these rows narrows 'for every input' (looked for: loops, veiled, ifaces, maps, wideKeys, modest, calm, conditions, laid).
  DERIVED. THE GIVEN ROWS OF THIS SEAT. 3 by the template 'for every input the law returns true; each argument reads behind the call as it read before'; 0 by the template 'total and deterministic' (their statements: YtfijbhacobjjgaeTotals.lean).
  GIVEN WITH THE SEED: the statements are not yours to turn. If you find one false, say at which input.
  Laid BY PROGRAM, IN A SANDBOX (cutbox-rows.mjs): the forced cells as the released guide's own fill.sh prints them over the translation 6b6139c08efe2d47… (all of the seat's roots in one cut). By AI agents, Wed Nov 11 2026. No macro, syntax, notation, axiom, sorry.
-/
import Derived.Test.YtfijbhacobjjgaeChecked
import GoSem.Claim
import GoSem.ClaimJoined
import GoSem.ClaimMapViews
import Derived.JoinedTies
import Derived.KernelRfl
namespace Go.Proofs.Ytfijbhacobjjgae
/- THE CELL 'sum', in the pinned program and in every row, IS THE sha256 OF THE DUMP (.gsa) THAT YtfijbhacobjjgaeProg.lean LOADS. Nothing in Lean hashes anything: it is a label: what it is worth is what the hold of that sum in a sandbox is worth. -/
noncomputable def Try.pinned : Pinned := { name := "ytfijbhacobjjgae", sum := "6b6139c08efe2d4738a7314f3d60c401dcd8f07a59369b0be6178fb1f1cc603d", checked := Try.checked }
namespace Rows
def none {H : Type} : Left H := { results := [], args := [] }

/-- 'pemmicanlaw47.RangerAny': WHATEVER THE INPUT: true; the input reads as it did. -/
def rangerAnySpec : ChangeSpec := { name := "rangerAny", fn := fun _ => fun
  | [d1, d2] => { results := [.lit (.bool true)], args := [d1, d2] }
  | _ => none }
def rangerAnyRow : OpenClaim := { program := "ytfijbhacobjjgae", sum := "6b6139c08efe2d4738a7314f3d60c401dcd8f07a59369b0be6178fb1f1cc603d", func := "pemmican/pemmicanlaw47.RangerAny", spec := "rangerAny", apart := false }
def RangerAnySaid : Prop := rangerAnyRow.holds Try.pinned (OpenSpec.ofChange rangerAnySpec)

/-- ITS FALSE NEIGHBOUR: 'it returns false'. Refute it at one input. -/
def rangerAnyWrong : ChangeSpec := { name := "rangerAny", fn := fun _ => fun
  | [d1, d2] => { results := [.lit (.bool false)], args := [d1, d2] }
  | _ => none }
def RangerAnyWrongFalsely : Prop := rangerAnyRow.holds Try.pinned (OpenSpec.ofChange rangerAnyWrong)

/-- 'pemmicanlaw47.RangerBack': WHATEVER THE INPUT: true; the input reads as it did. -/
def rangerBackSpec : ChangeSpec := { name := "rangerBack", fn := fun _ => fun
  | [d1, d2] => { results := [.lit (.bool true)], args := [d1, d2] }
  | _ => none }
def rangerBackRow : OpenClaim := { program := "ytfijbhacobjjgae", sum := "6b6139c08efe2d4738a7314f3d60c401dcd8f07a59369b0be6178fb1f1cc603d", func := "pemmican/pemmicanlaw47.RangerBack", spec := "rangerBack", apart := false }
def RangerBackSaid : Prop := rangerBackRow.holds Try.pinned (OpenSpec.ofChange rangerBackSpec)

/-- ITS FALSE NEIGHBOUR: 'it returns false'. Refute it at one input. -/
def rangerBackWrong : ChangeSpec := { name := "rangerBack", fn := fun _ => fun
  | [d1, d2] => { results := [.lit (.bool false)], args := [d1, d2] }
  | _ => none }
def RangerBackWrongFalsely : Prop := rangerBackRow.holds Try.pinned (OpenSpec.ofChange rangerBackWrong)

/-- 'pemmicanlaw47.RangerLearns': WHATEVER THE INPUT: true; the input reads as it did. -/
def rangerLearnsSpec : ChangeSpec := { name := "rangerLearns", fn := fun _ => fun
  | [d1, d2] => { results := [.lit (.bool true)], args := [d1, d2] }
  | _ => none }
def rangerLearnsRow : OpenClaim := { program := "ytfijbhacobjjgae", sum := "6b6139c08efe2d4738a7314f3d60c401dcd8f07a59369b0be6178fb1f1cc603d", func := "pemmican/pemmicanlaw47.RangerLearns", spec := "rangerLearns", apart := false }
def RangerLearnsSaid : Prop := rangerLearnsRow.holds Try.pinned (OpenSpec.ofChange rangerLearnsSpec)

/-- ITS FALSE NEIGHBOUR: 'it returns false'. Refute it at one input. -/
def rangerLearnsWrong : ChangeSpec := { name := "rangerLearns", fn := fun _ => fun
  | [d1, d2] => { results := [.lit (.bool false)], args := [d1, d2] }
  | _ => none }
def RangerLearnsWrongFalsely : Prop := rangerLearnsRow.holds Try.pinned (OpenSpec.ofChange rangerLearnsWrong)

/- THE SECOND FORM. 'bulk': how many values and letters a reading holds, each counted each time it is reached (what is shared counts as often as it is met; a slice's spare places count too). A statement '..UptoSaid' is the law's where the arguments, and the package variables that the reading takes, are together of bulk at most 1048576: NARROWER than '..Said'. Prove '..Said' where nothing that the law and all that it calls make is longer than what came in: it says more and counts as full. Else prove '..UptoSaid'. A law counts once. -/
mutual
def uptoBulk {H : Type} : DataW H → Nat
  | .lit (.string bytes) => bytes.length + 1
  | .lit _ => 1
  | .nil => 1
  | .ptr d => uptoBulk d + 1
  | .slice elems spare => uptoBulkAll elems + uptoBulkAll spare + 1
  | .agg parts => uptoBulkAll parts + 1
  | .iface _ d => uptoBulk d + 1
  | .map entries => uptoBulkEntries entries + 1
  | .held _ => 1
def uptoBulkAll {H : Type} : List (DataW H) → Nat
  | [] => 0
  | d :: r => uptoBulk d + uptoBulkAll r
def uptoBulkEntries {H : Type} : List (Lit × DataW H) → Nat
  | [] => 0
  | x :: r => uptoBulkEntry x + uptoBulkEntries r
def uptoBulkEntry {H : Type} : Lit × DataW H → Nat
  | (.string bytes, d) => bytes.length + uptoBulk d + 1
  | (_, d) => uptoBulk d + 1
 end
def uptoSmall : (H : Type) → List (DataW H) → Bool := fun _ ds => decide (uptoBulkAll ds ≤ 1048576)
def OpenSpec.upto (s : _root_.Go.ChangeSpec) : _root_.Go.OpenSpec := { _root_.Go.OpenSpec.ofChange s with cond := some uptoSmall }

/-- 'pemmicanlaw47.RangerAny', WHERE WHAT IT READS IS OF BULK AT MOST 1048576: true; the input reads as it did. -/
def rangerAnyUptoRow : OpenClaim := { program := "ytfijbhacobjjgae", sum := "6b6139c08efe2d4738a7314f3d60c401dcd8f07a59369b0be6178fb1f1cc603d", func := "pemmican/pemmicanlaw47.RangerAny", spec := "rangerAny", apart := false, narrowed := true }
def RangerAnyUptoSaid : Prop := rangerAnyUptoRow.holds Try.pinned (OpenSpec.upto rangerAnySpec)

/-- 'pemmicanlaw47.RangerBack', WHERE WHAT IT READS IS OF BULK AT MOST 1048576: true; the input reads as it did. -/
def rangerBackUptoRow : OpenClaim := { program := "ytfijbhacobjjgae", sum := "6b6139c08efe2d4738a7314f3d60c401dcd8f07a59369b0be6178fb1f1cc603d", func := "pemmican/pemmicanlaw47.RangerBack", spec := "rangerBack", apart := false, narrowed := true }
def RangerBackUptoSaid : Prop := rangerBackUptoRow.holds Try.pinned (OpenSpec.upto rangerBackSpec)

/-- 'pemmicanlaw47.RangerLearns', WHERE WHAT IT READS IS OF BULK AT MOST 1048576: true; the input reads as it did. -/
def rangerLearnsUptoRow : OpenClaim := { program := "ytfijbhacobjjgae", sum := "6b6139c08efe2d4738a7314f3d60c401dcd8f07a59369b0be6178fb1f1cc603d", func := "pemmican/pemmicanlaw47.RangerLearns", spec := "rangerLearns", apart := false, narrowed := true }
def RangerLearnsUptoSaid : Prop := rangerLearnsUptoRow.holds Try.pinned (OpenSpec.upto rangerLearnsSpec)

end Rows
end Go.Proofs.Ytfijbhacobjjgae
