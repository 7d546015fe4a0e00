/-
  No cell of these rows narrows 'for every input' (looked for: loops, veiled, ifaces, maps, wideKeys, modest, calm, conditions, laid).
  DERIVED. THE GIVEN ROWS OF THIS SEAT. 4 by the template 'for every input the law returns true; each argument reads behind the call as it read before'; 0 by the template 'total and deterministic' (their statements: YtfafekejjnpbcaaTotals.lean).
  GIVEN WITH THE SEED: the statements are not yours to turn. If you find one false, say at which input.
  Laid BY PROGRAM, IN A SANDBOX (cutbox-rows.mjs): the forced cells as the released guide's own fill.sh prints them over the translation c8d8e94d3fbe4235… (all of the seat's roots in one cut). By AI agents, Wed Nov 11 2026. No macro, syntax, notation, axiom, sorry.
-/
import Derived.Test.YtfafekejjnpbcaaChecked
import GoSem.Claim
import GoSem.ClaimJoined
import GoSem.ClaimMapViews
import Derived.JoinedTies
import Derived.KernelRfl
namespace Go.Proofs.Ytfafekejjnpbcaa
/- THE CELL 'sum', in the pinned program and in every row, IS THE sha256 OF THE DUMP (.gsa) THAT YtfafekejjnpbcaaProg.lean LOADS. Nothing in Lean hashes anything: it is a label: what it is worth is what the hold of that sum in a sandbox is worth. -/
noncomputable def Try.pinned : Pinned := { name := "ytfafekejjnpbcaa", sum := "c8d8e94d3fbe4235063a927a997fa9b2b1b93f62bf2958def32c147b169d86d3", checked := Try.checked }
namespace Rows
def none {H : Type} : Left H := { results := [], args := [] }

/-- 'pemmicanlaw38.ProofPaths': WHATEVER THE INPUT: true; the input reads as it did. -/
def proofPathsSpec : ChangeSpec := { name := "proofPaths", fn := fun _ => fun
  | [d1, d2] => { results := [.lit (.bool true)], args := [d1, d2] }
  | _ => none }
def proofPathsRow : OpenClaim := { program := "ytfafekejjnpbcaa", sum := "c8d8e94d3fbe4235063a927a997fa9b2b1b93f62bf2958def32c147b169d86d3", func := "pemmican/pemmicanlaw38.ProofPaths", spec := "proofPaths", recurses := true, apart := false }
def ProofPathsSaid : Prop := proofPathsRow.holds Try.pinned (OpenSpec.ofChange proofPathsSpec)

/-- ITS FALSE NEIGHBOUR: 'it returns false'. Refute it at one input. -/
def proofPathsWrong : ChangeSpec := { name := "proofPaths", fn := fun _ => fun
  | [d1, d2] => { results := [.lit (.bool false)], args := [d1, d2] }
  | _ => none }
def ProofPathsWrongFalsely : Prop := proofPathsRow.holds Try.pinned (OpenSpec.ofChange proofPathsWrong)

/-- 'pemmicanlaw38.ProofVerifies': WHATEVER THE INPUT: true; the input reads as it did. -/
def proofVerifiesSpec : ChangeSpec := { name := "proofVerifies", fn := fun _ => fun
  | [d1, d2, d3] => { results := [.lit (.bool true)], args := [d1, d2, d3] }
  | _ => none }
def proofVerifiesRow : OpenClaim := { program := "ytfafekejjnpbcaa", sum := "c8d8e94d3fbe4235063a927a997fa9b2b1b93f62bf2958def32c147b169d86d3", func := "pemmican/pemmicanlaw38.ProofVerifies", spec := "proofVerifies", recurses := true, apart := false }
def ProofVerifiesSaid : Prop := proofVerifiesRow.holds Try.pinned (OpenSpec.ofChange proofVerifiesSpec)

/-- ITS FALSE NEIGHBOUR: 'it returns false'. Refute it at one input. -/
def proofVerifiesWrong : ChangeSpec := { name := "proofVerifies", fn := fun _ => fun
  | [d1, d2, d3] => { results := [.lit (.bool false)], args := [d1, d2, d3] }
  | _ => none }
def ProofVerifiesWrongFalsely : Prop := proofVerifiesRow.holds Try.pinned (OpenSpec.ofChange proofVerifiesWrong)

/-- 'pemmicanlaw38.ProofOthers': WHATEVER THE INPUT: true; the input reads as it did. -/
def proofOthersSpec : ChangeSpec := { name := "proofOthers", fn := fun _ => fun
  | [d1, d2, d3] => { results := [.lit (.bool true)], args := [d1, d2, d3] }
  | _ => none }
def proofOthersRow : OpenClaim := { program := "ytfafekejjnpbcaa", sum := "c8d8e94d3fbe4235063a927a997fa9b2b1b93f62bf2958def32c147b169d86d3", func := "pemmican/pemmicanlaw38.ProofOthers", spec := "proofOthers", recurses := true, apart := false }
def ProofOthersSaid : Prop := proofOthersRow.holds Try.pinned (OpenSpec.ofChange proofOthersSpec)

/-- ITS FALSE NEIGHBOUR: 'it returns false'. Refute it at one input. -/
def proofOthersWrong : ChangeSpec := { name := "proofOthers", fn := fun _ => fun
  | [d1, d2, d3] => { results := [.lit (.bool false)], args := [d1, d2, d3] }
  | _ => none }
def ProofOthersWrongFalsely : Prop := proofOthersRow.holds Try.pinned (OpenSpec.ofChange proofOthersWrong)

/-- 'pemmicanlaw38.ProofDiffers': WHATEVER THE INPUT: true; the input reads as it did. -/
def proofDiffersSpec : ChangeSpec := { name := "proofDiffers", fn := fun _ => fun
  | [d1, d2, d3] => { results := [.lit (.bool true)], args := [d1, d2, d3] }
  | _ => none }
def proofDiffersRow : OpenClaim := { program := "ytfafekejjnpbcaa", sum := "c8d8e94d3fbe4235063a927a997fa9b2b1b93f62bf2958def32c147b169d86d3", func := "pemmican/pemmicanlaw38.ProofDiffers", spec := "proofDiffers", recurses := true, apart := false }
def ProofDiffersSaid : Prop := proofDiffersRow.holds Try.pinned (OpenSpec.ofChange proofDiffersSpec)

/-- ITS FALSE NEIGHBOUR: 'it returns false'. Refute it at one input. -/
def proofDiffersWrong : ChangeSpec := { name := "proofDiffers", fn := fun _ => fun
  | [d1, d2, d3] => { results := [.lit (.bool false)], args := [d1, d2, d3] }
  | _ => none }
def ProofDiffersWrongFalsely : Prop := proofDiffersRow.holds Try.pinned (OpenSpec.ofChange proofDiffersWrong)

/- THE SECOND FORM. 'bulk': how many values and letters a reading holds, each counted each time it is reached (what is shared counts as often as it is met; a slice's spare places count too). A statement '..UptoSaid' is the law's where the arguments, and the package variables that the reading takes, are together of bulk at most 1048576: NARROWER than '..Said'. Prove '..Said' where nothing that the law and all that it calls make is longer than what came in: it says more and counts as full. Else prove '..UptoSaid'. A law counts once. -/
mutual
def uptoBulk {H : Type} : DataW H → Nat
  | .lit (.string bytes) => bytes.length + 1
  | .lit _ => 1
  | .nil => 1
  | .ptr d => uptoBulk d + 1
  | .slice elems spare => uptoBulkAll elems + uptoBulkAll spare + 1
  | .agg parts => uptoBulkAll parts + 1
  | .iface _ d => uptoBulk d + 1
  | .map entries => uptoBulkEntries entries + 1
  | .held _ => 1
def uptoBulkAll {H : Type} : List (DataW H) → Nat
  | [] => 0
  | d :: r => uptoBulk d + uptoBulkAll r
def uptoBulkEntries {H : Type} : List (Lit × DataW H) → Nat
  | [] => 0
  | x :: r => uptoBulkEntry x + uptoBulkEntries r
def uptoBulkEntry {H : Type} : Lit × DataW H → Nat
  | (.string bytes, d) => bytes.length + uptoBulk d + 1
  | (_, d) => uptoBulk d + 1
 end
def uptoSmall : (H : Type) → List (DataW H) → Bool := fun _ ds => decide (uptoBulkAll ds ≤ 1048576)
def OpenSpec.upto (s : _root_.Go.ChangeSpec) : _root_.Go.OpenSpec := { _root_.Go.OpenSpec.ofChange s with cond := some uptoSmall }

/-- 'pemmicanlaw38.ProofPaths', WHERE WHAT IT READS IS OF BULK AT MOST 1048576: true; the input reads as it did. -/
def proofPathsUptoRow : OpenClaim := { program := "ytfafekejjnpbcaa", sum := "c8d8e94d3fbe4235063a927a997fa9b2b1b93f62bf2958def32c147b169d86d3", func := "pemmican/pemmicanlaw38.ProofPaths", spec := "proofPaths", recurses := true, apart := false, narrowed := true }
def ProofPathsUptoSaid : Prop := proofPathsUptoRow.holds Try.pinned (OpenSpec.upto proofPathsSpec)

/-- 'pemmicanlaw38.ProofVerifies', WHERE WHAT IT READS IS OF BULK AT MOST 1048576: true; the input reads as it did. -/
def proofVerifiesUptoRow : OpenClaim := { program := "ytfafekejjnpbcaa", sum := "c8d8e94d3fbe4235063a927a997fa9b2b1b93f62bf2958def32c147b169d86d3", func := "pemmican/pemmicanlaw38.ProofVerifies", spec := "proofVerifies", recurses := true, apart := false, narrowed := true }
def ProofVerifiesUptoSaid : Prop := proofVerifiesUptoRow.holds Try.pinned (OpenSpec.upto proofVerifiesSpec)

/-- 'pemmicanlaw38.ProofOthers', WHERE WHAT IT READS IS OF BULK AT MOST 1048576: true; the input reads as it did. -/
def proofOthersUptoRow : OpenClaim := { program := "ytfafekejjnpbcaa", sum := "c8d8e94d3fbe4235063a927a997fa9b2b1b93f62bf2958def32c147b169d86d3", func := "pemmican/pemmicanlaw38.ProofOthers", spec := "proofOthers", recurses := true, apart := false, narrowed := true }
def ProofOthersUptoSaid : Prop := proofOthersUptoRow.holds Try.pinned (OpenSpec.upto proofOthersSpec)

/-- 'pemmicanlaw38.ProofDiffers', WHERE WHAT IT READS IS OF BULK AT MOST 1048576: true; the input reads as it did. -/
def proofDiffersUptoRow : OpenClaim := { program := "ytfafekejjnpbcaa", sum := "c8d8e94d3fbe4235063a927a997fa9b2b1b93f62bf2958def32c147b169d86d3", func := "pemmican/pemmicanlaw38.ProofDiffers", spec := "proofDiffers", recurses := true, apart := false, narrowed := true }
def ProofDiffersUptoSaid : Prop := proofDiffersUptoRow.holds Try.pinned (OpenSpec.upto proofDiffersSpec)

end Rows
end Go.Proofs.Ytfafekejjnpbcaa
