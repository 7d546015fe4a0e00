/-
  No cell of these rows narrows 'for every input' (looked for: loops, veiled, ifaces, maps, wideKeys, modest, calm, conditions, laid).
  DERIVED. THE GIVEN ROWS OF THIS SEAT. 3 by the template 'for every input the law returns true; each argument reads behind the call as it read before'; 0 by the template 'total and deterministic' (their statements: YtfcpjblogeofpadTotals.lean).
  GIVEN WITH THE SEED: the statements are not yours to turn. If you find one false, say at which input.
  Laid BY PROGRAM, IN A SANDBOX (cutbox-rows.mjs): the forced cells as the released guide's own fill.sh prints them over the translation ecd072a9c0bf2dc0… (all of the seat's roots in one cut). By AI agents, Wed Nov 11 2026. No macro, syntax, notation, axiom, sorry.
-/
import Derived.Test.YtfcpjblogeofpadChecked
import GoSem.Claim
import GoSem.ClaimJoined
import GoSem.ClaimMapViews
import Derived.JoinedTies
import Derived.KernelRfl
namespace Go.Proofs.Ytfcpjblogeofpad
/- THE CELL 'sum', in the pinned program and in every row, IS THE sha256 OF THE DUMP (.gsa) THAT YtfcpjblogeofpadProg.lean LOADS. Nothing in Lean hashes anything: it is a label: what it is worth is what the hold of that sum in a sandbox is worth. -/
noncomputable def Try.pinned : Pinned := { name := "ytfcpjblogeofpad", sum := "ecd072a9c0bf2dc018813d81962ef9b7b8a1aaee38224aa5014af4ff498abb68", checked := Try.checked }
namespace Rows
def none {H : Type} : Left H := { results := [], args := [] }

/-- 'pemmicanlaw26.LogFull': WHATEVER THE INPUT: true; the input reads as it did. -/
def logFullSpec : ChangeSpec := { name := "logFull", fn := fun _ => fun
  | [d1, d2] => { results := [.lit (.bool true)], args := [d1, d2] }
  | _ => none }
def logFullRow : OpenClaim := { program := "ytfcpjblogeofpad", sum := "ecd072a9c0bf2dc018813d81962ef9b7b8a1aaee38224aa5014af4ff498abb68", func := "pemmican/pemmicanlaw26.LogFull", spec := "logFull", apart := false }
def LogFullSaid : Prop := logFullRow.holds Try.pinned (OpenSpec.ofChange logFullSpec)

/-- ITS FALSE NEIGHBOUR: 'it returns false'. Refute it at one input. -/
def logFullWrong : ChangeSpec := { name := "logFull", fn := fun _ => fun
  | [d1, d2] => { results := [.lit (.bool false)], args := [d1, d2] }
  | _ => none }
def LogFullWrongFalsely : Prop := logFullRow.holds Try.pinned (OpenSpec.ofChange logFullWrong)

/-- 'pemmicanlaw26.LogRuns': WHATEVER THE INPUT: true; the input reads as it did. -/
def logRunsSpec : ChangeSpec := { name := "logRuns", fn := fun _ => fun
  | [d] => { results := [.lit (.bool true)], args := [d] }
  | _ => none }
def logRunsRow : OpenClaim := { program := "ytfcpjblogeofpad", sum := "ecd072a9c0bf2dc018813d81962ef9b7b8a1aaee38224aa5014af4ff498abb68", func := "pemmican/pemmicanlaw26.LogRuns", spec := "logRuns", apart := false }
def LogRunsSaid : Prop := logRunsRow.holds Try.pinned (OpenSpec.ofChange logRunsSpec)

/-- ITS FALSE NEIGHBOUR: 'it returns false'. Refute it at one input. -/
def logRunsWrong : ChangeSpec := { name := "logRuns", fn := fun _ => fun
  | [d] => { results := [.lit (.bool false)], args := [d] }
  | _ => none }
def LogRunsWrongFalsely : Prop := logRunsRow.holds Try.pinned (OpenSpec.ofChange logRunsWrong)

/-- 'pemmicanlaw26.LogOwn': WHATEVER THE INPUT: true; the input reads as it did. -/
def logOwnSpec : ChangeSpec := { name := "logOwn", fn := fun _ => fun
  | [d1, d2, d3] => { results := [.lit (.bool true)], args := [d1, d2, d3] }
  | _ => none }
def logOwnRow : OpenClaim := { program := "ytfcpjblogeofpad", sum := "ecd072a9c0bf2dc018813d81962ef9b7b8a1aaee38224aa5014af4ff498abb68", func := "pemmican/pemmicanlaw26.LogOwn", spec := "logOwn", apart := false }
def LogOwnSaid : Prop := logOwnRow.holds Try.pinned (OpenSpec.ofChange logOwnSpec)

/-- ITS FALSE NEIGHBOUR: 'it returns false'. Refute it at one input. -/
def logOwnWrong : ChangeSpec := { name := "logOwn", fn := fun _ => fun
  | [d1, d2, d3] => { results := [.lit (.bool false)], args := [d1, d2, d3] }
  | _ => none }
def LogOwnWrongFalsely : Prop := logOwnRow.holds Try.pinned (OpenSpec.ofChange logOwnWrong)

/- THE SECOND FORM. 'bulk': how many values and letters a reading holds, each counted each time it is reached (what is shared counts as often as it is met; a slice's spare places count too). A statement '..UptoSaid' is the law's where the arguments, and the package variables that the reading takes, are together of bulk at most 1048576: NARROWER than '..Said'. Prove '..Said' where nothing that the law and all that it calls make is longer than what came in: it says more and counts as full. Else prove '..UptoSaid'. A law counts once. -/
mutual
def uptoBulk {H : Type} : DataW H → Nat
  | .lit (.string bytes) => bytes.length + 1
  | .lit _ => 1
  | .nil => 1
  | .ptr d => uptoBulk d + 1
  | .slice elems spare => uptoBulkAll elems + uptoBulkAll spare + 1
  | .agg parts => uptoBulkAll parts + 1
  | .iface _ d => uptoBulk d + 1
  | .map entries => uptoBulkEntries entries + 1
  | .held _ => 1
def uptoBulkAll {H : Type} : List (DataW H) → Nat
  | [] => 0
  | d :: r => uptoBulk d + uptoBulkAll r
def uptoBulkEntries {H : Type} : List (Lit × DataW H) → Nat
  | [] => 0
  | x :: r => uptoBulkEntry x + uptoBulkEntries r
def uptoBulkEntry {H : Type} : Lit × DataW H → Nat
  | (.string bytes, d) => bytes.length + uptoBulk d + 1
  | (_, d) => uptoBulk d + 1
 end
def uptoSmall : (H : Type) → List (DataW H) → Bool := fun _ ds => decide (uptoBulkAll ds ≤ 1048576)
def OpenSpec.upto (s : _root_.Go.ChangeSpec) : _root_.Go.OpenSpec := { _root_.Go.OpenSpec.ofChange s with cond := some uptoSmall }

/-- 'pemmicanlaw26.LogFull', WHERE WHAT IT READS IS OF BULK AT MOST 1048576: true; the input reads as it did. -/
def logFullUptoRow : OpenClaim := { program := "ytfcpjblogeofpad", sum := "ecd072a9c0bf2dc018813d81962ef9b7b8a1aaee38224aa5014af4ff498abb68", func := "pemmican/pemmicanlaw26.LogFull", spec := "logFull", apart := false, narrowed := true }
def LogFullUptoSaid : Prop := logFullUptoRow.holds Try.pinned (OpenSpec.upto logFullSpec)

/-- 'pemmicanlaw26.LogRuns', WHERE WHAT IT READS IS OF BULK AT MOST 1048576: true; the input reads as it did. -/
def logRunsUptoRow : OpenClaim := { program := "ytfcpjblogeofpad", sum := "ecd072a9c0bf2dc018813d81962ef9b7b8a1aaee38224aa5014af4ff498abb68", func := "pemmican/pemmicanlaw26.LogRuns", spec := "logRuns", apart := false, narrowed := true }
def LogRunsUptoSaid : Prop := logRunsUptoRow.holds Try.pinned (OpenSpec.upto logRunsSpec)

/-- 'pemmicanlaw26.LogOwn', WHERE WHAT IT READS IS OF BULK AT MOST 1048576: true; the input reads as it did. -/
def logOwnUptoRow : OpenClaim := { program := "ytfcpjblogeofpad", sum := "ecd072a9c0bf2dc018813d81962ef9b7b8a1aaee38224aa5014af4ff498abb68", func := "pemmican/pemmicanlaw26.LogOwn", spec := "logOwn", apart := false, narrowed := true }
def LogOwnUptoSaid : Prop := logOwnUptoRow.holds Try.pinned (OpenSpec.upto logOwnSpec)

end Rows
end Go.Proofs.Ytfcpjblogeofpad
