/-
  No cell of these rows narrows 'for every input' (looked for: loops, veiled, ifaces, maps, wideKeys, modest, calm, conditions, laid).
  DERIVED. THE GIVEN ROWS OF THIS SEAT. 3 by the template 'for every input the law returns true; each argument reads behind the call as it read before'; 0 by the template 'total and deterministic' (their statements: YtfijbhacobjjgabTotals.lean).
  GIVEN WITH THE SEED: the statements are not yours to turn. If you find one false, say at which input.
  Laid BY PROGRAM, IN A SANDBOX (cutbox-rows.mjs): the forced cells as the released guide's own fill.sh prints them over the translation 8f49fef685337e52… (all of the seat's roots in one cut). By AI agents, Wed Nov 11 2026. No macro, syntax, notation, axiom, sorry.
-/
import Derived.Test.YtfijbhacobjjgabChecked
import GoSem.Claim
import GoSem.ClaimJoined
import GoSem.ClaimMapViews
import Derived.JoinedTies
import Derived.KernelRfl
namespace Go.Proofs.Ytfijbhacobjjgab
/- THE CELL 'sum', in the pinned program and in every row, IS THE sha256 OF THE DUMP (.gsa) THAT YtfijbhacobjjgabProg.lean LOADS. Nothing in Lean hashes anything: it is a label: what it is worth is what the hold of that sum in a sandbox is worth. -/
noncomputable def Try.pinned : Pinned := { name := "ytfijbhacobjjgab", sum := "8f49fef685337e523923e9cff1a8bec2c6bfa01913fa452b8f2c71098744196d", checked := Try.checked }
namespace Rows
def none {H : Type} : Left H := { results := [], args := [] }

/-- 'pemmicanlaw44.PaceShares': WHATEVER THE INPUT: true; the input reads as it did. -/
def paceSharesSpec : ChangeSpec := { name := "paceShares", fn := fun _ => fun
  | [d1, d2] => { results := [.lit (.bool true)], args := [d1, d2] }
  | _ => none }
def paceSharesRow : OpenClaim := { program := "ytfijbhacobjjgab", sum := "8f49fef685337e523923e9cff1a8bec2c6bfa01913fa452b8f2c71098744196d", func := "pemmican/pemmicanlaw44.PaceShares", spec := "paceShares", apart := false }
def PaceSharesSaid : Prop := paceSharesRow.holds Try.pinned (OpenSpec.ofChange paceSharesSpec)

/-- ITS FALSE NEIGHBOUR: 'it returns false'. Refute it at one input. -/
def paceSharesWrong : ChangeSpec := { name := "paceShares", fn := fun _ => fun
  | [d1, d2] => { results := [.lit (.bool false)], args := [d1, d2] }
  | _ => none }
def PaceSharesWrongFalsely : Prop := paceSharesRow.holds Try.pinned (OpenSpec.ofChange paceSharesWrong)

/-- 'pemmicanlaw44.PaceRuns': WHATEVER THE INPUT: true; the input reads as it did. -/
def paceRunsSpec : ChangeSpec := { name := "paceRuns", fn := fun _ => fun
  | [d1, d2, d3] => { results := [.lit (.bool true)], args := [d1, d2, d3] }
  | _ => none }
def paceRunsRow : OpenClaim := { program := "ytfijbhacobjjgab", sum := "8f49fef685337e523923e9cff1a8bec2c6bfa01913fa452b8f2c71098744196d", func := "pemmican/pemmicanlaw44.PaceRuns", spec := "paceRuns", apart := false }
def PaceRunsSaid : Prop := paceRunsRow.holds Try.pinned (OpenSpec.ofChange paceRunsSpec)

/-- ITS FALSE NEIGHBOUR: 'it returns false'. Refute it at one input. -/
def paceRunsWrong : ChangeSpec := { name := "paceRuns", fn := fun _ => fun
  | [d1, d2, d3] => { results := [.lit (.bool false)], args := [d1, d2, d3] }
  | _ => none }
def PaceRunsWrongFalsely : Prop := paceRunsRow.holds Try.pinned (OpenSpec.ofChange paceRunsWrong)

/-- 'pemmicanlaw44.PaceFair': WHATEVER THE INPUT: true; the input reads as it did. -/
def paceFairSpec : ChangeSpec := { name := "paceFair", fn := fun _ => fun
  | [d1, d2] => { results := [.lit (.bool true)], args := [d1, d2] }
  | _ => none }
def paceFairRow : OpenClaim := { program := "ytfijbhacobjjgab", sum := "8f49fef685337e523923e9cff1a8bec2c6bfa01913fa452b8f2c71098744196d", func := "pemmican/pemmicanlaw44.PaceFair", spec := "paceFair", apart := false }
def PaceFairSaid : Prop := paceFairRow.holds Try.pinned (OpenSpec.ofChange paceFairSpec)

/-- ITS FALSE NEIGHBOUR: 'it returns false'. Refute it at one input. -/
def paceFairWrong : ChangeSpec := { name := "paceFair", fn := fun _ => fun
  | [d1, d2] => { results := [.lit (.bool false)], args := [d1, d2] }
  | _ => none }
def PaceFairWrongFalsely : Prop := paceFairRow.holds Try.pinned (OpenSpec.ofChange paceFairWrong)

/- THE SECOND FORM. 'bulk': how many values and letters a reading holds, each counted each time it is reached (what is shared counts as often as it is met; a slice's spare places count too). A statement '..UptoSaid' is the law's where the arguments, and the package variables that the reading takes, are together of bulk at most 1048576: NARROWER than '..Said'. Prove '..Said' where nothing that the law and all that it calls make is longer than what came in: it says more and counts as full. Else prove '..UptoSaid'. A law counts once. -/
mutual
def uptoBulk {H : Type} : DataW H → Nat
  | .lit (.string bytes) => bytes.length + 1
  | .lit _ => 1
  | .nil => 1
  | .ptr d => uptoBulk d + 1
  | .slice elems spare => uptoBulkAll elems + uptoBulkAll spare + 1
  | .agg parts => uptoBulkAll parts + 1
  | .iface _ d => uptoBulk d + 1
  | .map entries => uptoBulkEntries entries + 1
  | .held _ => 1
def uptoBulkAll {H : Type} : List (DataW H) → Nat
  | [] => 0
  | d :: r => uptoBulk d + uptoBulkAll r
def uptoBulkEntries {H : Type} : List (Lit × DataW H) → Nat
  | [] => 0
  | x :: r => uptoBulkEntry x + uptoBulkEntries r
def uptoBulkEntry {H : Type} : Lit × DataW H → Nat
  | (.string bytes, d) => bytes.length + uptoBulk d + 1
  | (_, d) => uptoBulk d + 1
 end
def uptoSmall : (H : Type) → List (DataW H) → Bool := fun _ ds => decide (uptoBulkAll ds ≤ 1048576)
def OpenSpec.upto (s : _root_.Go.ChangeSpec) : _root_.Go.OpenSpec := { _root_.Go.OpenSpec.ofChange s with cond := some uptoSmall }

/-- 'pemmicanlaw44.PaceShares', WHERE WHAT IT READS IS OF BULK AT MOST 1048576: true; the input reads as it did. -/
def paceSharesUptoRow : OpenClaim := { program := "ytfijbhacobjjgab", sum := "8f49fef685337e523923e9cff1a8bec2c6bfa01913fa452b8f2c71098744196d", func := "pemmican/pemmicanlaw44.PaceShares", spec := "paceShares", apart := false, narrowed := true }
def PaceSharesUptoSaid : Prop := paceSharesUptoRow.holds Try.pinned (OpenSpec.upto paceSharesSpec)

/-- 'pemmicanlaw44.PaceRuns', WHERE WHAT IT READS IS OF BULK AT MOST 1048576: true; the input reads as it did. -/
def paceRunsUptoRow : OpenClaim := { program := "ytfijbhacobjjgab", sum := "8f49fef685337e523923e9cff1a8bec2c6bfa01913fa452b8f2c71098744196d", func := "pemmican/pemmicanlaw44.PaceRuns", spec := "paceRuns", apart := false, narrowed := true }
def PaceRunsUptoSaid : Prop := paceRunsUptoRow.holds Try.pinned (OpenSpec.upto paceRunsSpec)

/-- 'pemmicanlaw44.PaceFair', WHERE WHAT IT READS IS OF BULK AT MOST 1048576: true; the input reads as it did. -/
def paceFairUptoRow : OpenClaim := { program := "ytfijbhacobjjgab", sum := "8f49fef685337e523923e9cff1a8bec2c6bfa01913fa452b8f2c71098744196d", func := "pemmican/pemmicanlaw44.PaceFair", spec := "paceFair", apart := false, narrowed := true }
def PaceFairUptoSaid : Prop := paceFairUptoRow.holds Try.pinned (OpenSpec.upto paceFairSpec)

end Rows
end Go.Proofs.Ytfijbhacobjjgab
