/-
  No cell of these rows narrows 'for every input' (looked for: loops, veiled, ifaces, maps, wideKeys, modest, calm, conditions, laid).
  DERIVED. THE GIVEN ROWS OF THIS SEAT. 3 by the template 'for every input the law returns true; each argument reads behind the call as it read before'; 0 by the template 'total and deterministic' (their statements: YtfcpjblogeofpaaTotals.lean).
  GIVEN WITH THE SEED: the statements are not yours to turn. If you find one false, say at which input.
  Laid BY PROGRAM, IN A SANDBOX (cutbox-rows.mjs): the forced cells as the released guide's own fill.sh prints them over the translation 5ba86fafc872c7d2… (all of the seat's roots in one cut). By AI agents, Wed Nov 11 2026. No macro, syntax, notation, axiom, sorry.
-/
import Derived.Test.YtfcpjblogeofpaaChecked
import GoSem.Claim
import GoSem.ClaimJoined
import GoSem.ClaimMapViews
import Derived.JoinedTies
import Derived.KernelRfl
namespace Go.Proofs.Ytfcpjblogeofpaa
/- THE CELL 'sum', in the pinned program and in every row, IS THE sha256 OF THE DUMP (.gsa) THAT YtfcpjblogeofpaaProg.lean LOADS. Nothing in Lean hashes anything: it is a label: what it is worth is what the hold of that sum in a sandbox is worth. -/
noncomputable def Try.pinned : Pinned := { name := "ytfcpjblogeofpaa", sum := "5ba86fafc872c7d28752d8d5b8976c9c91f21d8f68600303c3d65278f2627025", checked := Try.checked }
namespace Rows
def none {H : Type} : Left H := { results := [], args := [] }

/-- 'pemmicanlaw04.SumTexts': WHATEVER THE INPUT: true; the input reads as it did. -/
def sumTextsSpec : ChangeSpec := { name := "sumTexts", fn := fun _ => fun
  | [d1, d2] => { results := [.lit (.bool true)], args := [d1, d2] }
  | _ => none }
def sumTextsRow : OpenClaim := { program := "ytfcpjblogeofpaa", sum := "5ba86fafc872c7d28752d8d5b8976c9c91f21d8f68600303c3d65278f2627025", func := "pemmican/pemmicanlaw04.SumTexts", spec := "sumTexts", apart := false }
def SumTextsSaid : Prop := sumTextsRow.holds Try.pinned (OpenSpec.ofChange sumTextsSpec)

/-- ITS FALSE NEIGHBOUR: 'it returns false'. Refute it at one input. -/
def sumTextsWrong : ChangeSpec := { name := "sumTexts", fn := fun _ => fun
  | [d1, d2] => { results := [.lit (.bool false)], args := [d1, d2] }
  | _ => none }
def SumTextsWrongFalsely : Prop := sumTextsRow.holds Try.pinned (OpenSpec.ofChange sumTextsWrong)

/-- 'pemmicanlaw04.SumPrefixes': WHATEVER THE INPUT: true; the input reads as it did. -/
def sumPrefixesSpec : ChangeSpec := { name := "sumPrefixes", fn := fun _ => fun
  | [d] => { results := [.lit (.bool true)], args := [d] }
  | _ => none }
def sumPrefixesRow : OpenClaim := { program := "ytfcpjblogeofpaa", sum := "5ba86fafc872c7d28752d8d5b8976c9c91f21d8f68600303c3d65278f2627025", func := "pemmican/pemmicanlaw04.SumPrefixes", spec := "sumPrefixes", apart := false }
def SumPrefixesSaid : Prop := sumPrefixesRow.holds Try.pinned (OpenSpec.ofChange sumPrefixesSpec)

/-- ITS FALSE NEIGHBOUR: 'it returns false'. Refute it at one input. -/
def sumPrefixesWrong : ChangeSpec := { name := "sumPrefixes", fn := fun _ => fun
  | [d] => { results := [.lit (.bool false)], args := [d] }
  | _ => none }
def SumPrefixesWrongFalsely : Prop := sumPrefixesRow.holds Try.pinned (OpenSpec.ofChange sumPrefixesWrong)

/-- 'pemmicanlaw04.SumStates': WHATEVER THE INPUT: true; the input reads as it did. -/
def sumStatesSpec : ChangeSpec := { name := "sumStates", fn := fun _ => fun
  | [d1, d2, d3] => { results := [.lit (.bool true)], args := [d1, d2, d3] }
  | _ => none }
def sumStatesRow : OpenClaim := { program := "ytfcpjblogeofpaa", sum := "5ba86fafc872c7d28752d8d5b8976c9c91f21d8f68600303c3d65278f2627025", func := "pemmican/pemmicanlaw04.SumStates", spec := "sumStates", apart := false }
def SumStatesSaid : Prop := sumStatesRow.holds Try.pinned (OpenSpec.ofChange sumStatesSpec)

/-- ITS FALSE NEIGHBOUR: 'it returns false'. Refute it at one input. -/
def sumStatesWrong : ChangeSpec := { name := "sumStates", fn := fun _ => fun
  | [d1, d2, d3] => { results := [.lit (.bool false)], args := [d1, d2, d3] }
  | _ => none }
def SumStatesWrongFalsely : Prop := sumStatesRow.holds Try.pinned (OpenSpec.ofChange sumStatesWrong)

/- THE SECOND FORM. 'bulk': how many values and letters a reading holds, each counted each time it is reached (what is shared counts as often as it is met; a slice's spare places count too). A statement '..UptoSaid' is the law's where the arguments, and the package variables that the reading takes, are together of bulk at most 1048576: NARROWER than '..Said'. Prove '..Said' where nothing that the law and all that it calls make is longer than what came in: it says more and counts as full. Else prove '..UptoSaid'. A law counts once. -/
mutual
def uptoBulk {H : Type} : DataW H → Nat
  | .lit (.string bytes) => bytes.length + 1
  | .lit _ => 1
  | .nil => 1
  | .ptr d => uptoBulk d + 1
  | .slice elems spare => uptoBulkAll elems + uptoBulkAll spare + 1
  | .agg parts => uptoBulkAll parts + 1
  | .iface _ d => uptoBulk d + 1
  | .map entries => uptoBulkEntries entries + 1
  | .held _ => 1
def uptoBulkAll {H : Type} : List (DataW H) → Nat
  | [] => 0
  | d :: r => uptoBulk d + uptoBulkAll r
def uptoBulkEntries {H : Type} : List (Lit × DataW H) → Nat
  | [] => 0
  | x :: r => uptoBulkEntry x + uptoBulkEntries r
def uptoBulkEntry {H : Type} : Lit × DataW H → Nat
  | (.string bytes, d) => bytes.length + uptoBulk d + 1
  | (_, d) => uptoBulk d + 1
 end
def uptoSmall : (H : Type) → List (DataW H) → Bool := fun _ ds => decide (uptoBulkAll ds ≤ 1048576)
def OpenSpec.upto (s : _root_.Go.ChangeSpec) : _root_.Go.OpenSpec := { _root_.Go.OpenSpec.ofChange s with cond := some uptoSmall }

/-- 'pemmicanlaw04.SumTexts', WHERE WHAT IT READS IS OF BULK AT MOST 1048576: true; the input reads as it did. -/
def sumTextsUptoRow : OpenClaim := { program := "ytfcpjblogeofpaa", sum := "5ba86fafc872c7d28752d8d5b8976c9c91f21d8f68600303c3d65278f2627025", func := "pemmican/pemmicanlaw04.SumTexts", spec := "sumTexts", apart := false, narrowed := true }
def SumTextsUptoSaid : Prop := sumTextsUptoRow.holds Try.pinned (OpenSpec.upto sumTextsSpec)

/-- 'pemmicanlaw04.SumPrefixes', WHERE WHAT IT READS IS OF BULK AT MOST 1048576: true; the input reads as it did. -/
def sumPrefixesUptoRow : OpenClaim := { program := "ytfcpjblogeofpaa", sum := "5ba86fafc872c7d28752d8d5b8976c9c91f21d8f68600303c3d65278f2627025", func := "pemmican/pemmicanlaw04.SumPrefixes", spec := "sumPrefixes", apart := false, narrowed := true }
def SumPrefixesUptoSaid : Prop := sumPrefixesUptoRow.holds Try.pinned (OpenSpec.upto sumPrefixesSpec)

/-- 'pemmicanlaw04.SumStates', WHERE WHAT IT READS IS OF BULK AT MOST 1048576: true; the input reads as it did. -/
def sumStatesUptoRow : OpenClaim := { program := "ytfcpjblogeofpaa", sum := "5ba86fafc872c7d28752d8d5b8976c9c91f21d8f68600303c3d65278f2627025", func := "pemmican/pemmicanlaw04.SumStates", spec := "sumStates", apart := false, narrowed := true }
def SumStatesUptoSaid : Prop := sumStatesUptoRow.holds Try.pinned (OpenSpec.upto sumStatesSpec)

end Rows
end Go.Proofs.Ytfcpjblogeofpaa
