/-
  No cell of these rows narrows 'for every input' (looked for: loops, veiled, ifaces, maps, wideKeys, modest, calm, conditions, laid).
  DERIVED. THE GIVEN ROWS OF THIS SEAT. 3 by the template 'for every input the law returns true; each argument reads behind the call as it read before'; 0 by the template 'total and deterministic' (their statements: YtfcpjblogeofpacTotals.lean).
  GIVEN WITH THE SEED: the statements are not yours to turn. If you find one false, say at which input.
  Laid BY PROGRAM, IN A SANDBOX (cutbox-rows.mjs): the forced cells as the released guide's own fill.sh prints them over the translation 90c37bc3c72d0dec… (all of the seat's roots in one cut). By AI agents, Wed Nov 11 2026. No macro, syntax, notation, axiom, sorry.
-/
import Derived.Test.YtfcpjblogeofpacChecked
import GoSem.Claim
import GoSem.ClaimJoined
import GoSem.ClaimMapViews
import Derived.JoinedTies
import Derived.KernelRfl
namespace Go.Proofs.Ytfcpjblogeofpac
/- THE CELL 'sum', in the pinned program and in every row, IS THE sha256 OF THE DUMP (.gsa) THAT YtfcpjblogeofpacProg.lean LOADS. Nothing in Lean hashes anything: it is a label: what it is worth is what the hold of that sum in a sandbox is worth. -/
noncomputable def Try.pinned : Pinned := { name := "ytfcpjblogeofpac", sum := "90c37bc3c72d0decf8a19d2158246e2f843cf183c230ad76f19a0a925cb9c9b9", checked := Try.checked }
namespace Rows
def none {H : Type} : Left H := { results := [], args := [] }

/-- 'pemmicanlaw14.ExecRuns': WHATEVER THE INPUT: true; the input reads as it did. -/
def execRunsSpec : ChangeSpec := { name := "execRuns", fn := fun _ => fun
  | [d1, d2, d3] => { results := [.lit (.bool true)], args := [d1, d2, d3] }
  | _ => none }
def execRunsRow : OpenClaim := { program := "ytfcpjblogeofpac", sum := "90c37bc3c72d0decf8a19d2158246e2f843cf183c230ad76f19a0a925cb9c9b9", func := "pemmican/pemmicanlaw14.ExecRuns", spec := "execRuns", apart := false }
def ExecRunsSaid : Prop := execRunsRow.holds Try.pinned (OpenSpec.ofChange execRunsSpec)

/-- ITS FALSE NEIGHBOUR: 'it returns false'. Refute it at one input. -/
def execRunsWrong : ChangeSpec := { name := "execRuns", fn := fun _ => fun
  | [d1, d2, d3] => { results := [.lit (.bool false)], args := [d1, d2, d3] }
  | _ => none }
def ExecRunsWrongFalsely : Prop := execRunsRow.holds Try.pinned (OpenSpec.ofChange execRunsWrong)

/-- 'pemmicanlaw14.ExecRight': WHATEVER THE INPUT: true; the input reads as it did. -/
def execRightSpec : ChangeSpec := { name := "execRight", fn := fun _ => fun
  | [d1, d2, d3] => { results := [.lit (.bool true)], args := [d1, d2, d3] }
  | _ => none }
def execRightRow : OpenClaim := { program := "ytfcpjblogeofpac", sum := "90c37bc3c72d0decf8a19d2158246e2f843cf183c230ad76f19a0a925cb9c9b9", func := "pemmican/pemmicanlaw14.ExecRight", spec := "execRight", apart := false }
def ExecRightSaid : Prop := execRightRow.holds Try.pinned (OpenSpec.ofChange execRightSpec)

/-- ITS FALSE NEIGHBOUR: 'it returns false'. Refute it at one input. -/
def execRightWrong : ChangeSpec := { name := "execRight", fn := fun _ => fun
  | [d1, d2, d3] => { results := [.lit (.bool false)], args := [d1, d2, d3] }
  | _ => none }
def ExecRightWrongFalsely : Prop := execRightRow.holds Try.pinned (OpenSpec.ofChange execRightWrong)

/-- 'pemmicanlaw14.ExecMakes': WHATEVER THE INPUT: true; the input reads as it did. -/
def execMakesSpec : ChangeSpec := { name := "execMakes", fn := fun _ => fun
  | [d1, d2, d3] => { results := [.lit (.bool true)], args := [d1, d2, d3] }
  | _ => none }
def execMakesRow : OpenClaim := { program := "ytfcpjblogeofpac", sum := "90c37bc3c72d0decf8a19d2158246e2f843cf183c230ad76f19a0a925cb9c9b9", func := "pemmican/pemmicanlaw14.ExecMakes", spec := "execMakes", inPlace := ["internal/abi.NoEscape"], apart := false }
def ExecMakesSaid : Prop := execMakesRow.holds Try.pinned (OpenSpec.ofChange execMakesSpec)

/-- ITS FALSE NEIGHBOUR: 'it returns false'. Refute it at one input. -/
def execMakesWrong : ChangeSpec := { name := "execMakes", fn := fun _ => fun
  | [d1, d2, d3] => { results := [.lit (.bool false)], args := [d1, d2, d3] }
  | _ => none }
def ExecMakesWrongFalsely : Prop := execMakesRow.holds Try.pinned (OpenSpec.ofChange execMakesWrong)

/- THE SECOND FORM. 'bulk': how many values and letters a reading holds, each counted each time it is reached (what is shared counts as often as it is met; a slice's spare places count too). A statement '..UptoSaid' is the law's where the arguments, and the package variables that the reading takes, are together of bulk at most 1048576: NARROWER than '..Said'. Prove '..Said' where nothing that the law and all that it calls make is longer than what came in: it says more and counts as full. Else prove '..UptoSaid'. A law counts once. -/
mutual
def uptoBulk {H : Type} : DataW H → Nat
  | .lit (.string bytes) => bytes.length + 1
  | .lit _ => 1
  | .nil => 1
  | .ptr d => uptoBulk d + 1
  | .slice elems spare => uptoBulkAll elems + uptoBulkAll spare + 1
  | .agg parts => uptoBulkAll parts + 1
  | .iface _ d => uptoBulk d + 1
  | .map entries => uptoBulkEntries entries + 1
  | .held _ => 1
def uptoBulkAll {H : Type} : List (DataW H) → Nat
  | [] => 0
  | d :: r => uptoBulk d + uptoBulkAll r
def uptoBulkEntries {H : Type} : List (Lit × DataW H) → Nat
  | [] => 0
  | x :: r => uptoBulkEntry x + uptoBulkEntries r
def uptoBulkEntry {H : Type} : Lit × DataW H → Nat
  | (.string bytes, d) => bytes.length + uptoBulk d + 1
  | (_, d) => uptoBulk d + 1
 end
def uptoSmall : (H : Type) → List (DataW H) → Bool := fun _ ds => decide (uptoBulkAll ds ≤ 1048576)
def OpenSpec.upto (s : _root_.Go.ChangeSpec) : _root_.Go.OpenSpec := { _root_.Go.OpenSpec.ofChange s with cond := some uptoSmall }

/-- 'pemmicanlaw14.ExecRuns', WHERE WHAT IT READS IS OF BULK AT MOST 1048576: true; the input reads as it did. -/
def execRunsUptoRow : OpenClaim := { program := "ytfcpjblogeofpac", sum := "90c37bc3c72d0decf8a19d2158246e2f843cf183c230ad76f19a0a925cb9c9b9", func := "pemmican/pemmicanlaw14.ExecRuns", spec := "execRuns", apart := false, narrowed := true }
def ExecRunsUptoSaid : Prop := execRunsUptoRow.holds Try.pinned (OpenSpec.upto execRunsSpec)

/-- 'pemmicanlaw14.ExecRight', WHERE WHAT IT READS IS OF BULK AT MOST 1048576: true; the input reads as it did. -/
def execRightUptoRow : OpenClaim := { program := "ytfcpjblogeofpac", sum := "90c37bc3c72d0decf8a19d2158246e2f843cf183c230ad76f19a0a925cb9c9b9", func := "pemmican/pemmicanlaw14.ExecRight", spec := "execRight", apart := false, narrowed := true }
def ExecRightUptoSaid : Prop := execRightUptoRow.holds Try.pinned (OpenSpec.upto execRightSpec)

/-- 'pemmicanlaw14.ExecMakes', WHERE WHAT IT READS IS OF BULK AT MOST 1048576: true; the input reads as it did. -/
def execMakesUptoRow : OpenClaim := { program := "ytfcpjblogeofpac", sum := "90c37bc3c72d0decf8a19d2158246e2f843cf183c230ad76f19a0a925cb9c9b9", func := "pemmican/pemmicanlaw14.ExecMakes", spec := "execMakes", inPlace := ["internal/abi.NoEscape"], apart := false, narrowed := true }
def ExecMakesUptoSaid : Prop := execMakesUptoRow.holds Try.pinned (OpenSpec.upto execMakesSpec)

end Rows
end Go.Proofs.Ytfcpjblogeofpac
