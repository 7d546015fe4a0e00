/-
  No cell of these rows narrows 'for every input' (looked for: loops, veiled, ifaces, maps, wideKeys, modest, calm, conditions, laid).
  DERIVED. THE GIVEN ROWS OF THIS SEAT. 3 by the template 'for every input the law returns true; each argument reads behind the call as it read before'; 0 by the template 'total and deterministic' (their statements: YtfijbhacobjjgaaTotals.lean).
  GIVEN WITH THE SEED: the statements are not yours to turn. If you find one false, say at which input.
  Laid BY PROGRAM, IN A SANDBOX (cutbox-rows.mjs): the forced cells as the released guide's own fill.sh prints them over the translation 3039b2fce85f3c7a… (all of the seat's roots in one cut). By AI agents, Wed Nov 11 2026. No macro, syntax, notation, axiom, sorry.
-/
import Derived.Test.YtfijbhacobjjgaaChecked
import GoSem.Claim
import GoSem.ClaimJoined
import GoSem.ClaimMapViews
import Derived.JoinedTies
import Derived.KernelRfl
namespace Go.Proofs.Ytfijbhacobjjgaa
/- THE CELL 'sum', in the pinned program and in every row, IS THE sha256 OF THE DUMP (.gsa) THAT YtfijbhacobjjgaaProg.lean LOADS. Nothing in Lean hashes anything: it is a label: what it is worth is what the hold of that sum in a sandbox is worth. -/
noncomputable def Try.pinned : Pinned := { name := "ytfijbhacobjjgaa", sum := "3039b2fce85f3c7ae1696b6e4e2787bea567968519f922724eb6607ddbf98ba6", checked := Try.checked }
namespace Rows
def none {H : Type} : Left H := { results := [], args := [] }

/-- 'pemmicanlaw11.ChainFinds': WHATEVER THE INPUT: true; the input reads as it did. -/
def chainFindsSpec : ChangeSpec := { name := "chainFinds", fn := fun _ => fun
  | [d1, d2, d3] => { results := [.lit (.bool true)], args := [d1, d2, d3] }
  | _ => none }
def chainFindsRow : OpenClaim := { program := "ytfijbhacobjjgaa", sum := "3039b2fce85f3c7ae1696b6e4e2787bea567968519f922724eb6607ddbf98ba6", func := "pemmican/pemmicanlaw11.ChainFinds", spec := "chainFinds", apart := false }
def ChainFindsSaid : Prop := chainFindsRow.holds Try.pinned (OpenSpec.ofChange chainFindsSpec)

/-- ITS FALSE NEIGHBOUR: 'it returns false'. Refute it at one input. -/
def chainFindsWrong : ChangeSpec := { name := "chainFinds", fn := fun _ => fun
  | [d1, d2, d3] => { results := [.lit (.bool false)], args := [d1, d2, d3] }
  | _ => none }
def ChainFindsWrongFalsely : Prop := chainFindsRow.holds Try.pinned (OpenSpec.ofChange chainFindsWrong)

/-- 'pemmicanlaw11.ChainTrue': WHATEVER THE INPUT: true; the input reads as it did. -/
def chainTrueSpec : ChangeSpec := { name := "chainTrue", fn := fun _ => fun
  | [d1, d2] => { results := [.lit (.bool true)], args := [d1, d2] }
  | _ => none }
def chainTrueRow : OpenClaim := { program := "ytfijbhacobjjgaa", sum := "3039b2fce85f3c7ae1696b6e4e2787bea567968519f922724eb6607ddbf98ba6", func := "pemmican/pemmicanlaw11.ChainTrue", spec := "chainTrue", apart := false }
def ChainTrueSaid : Prop := chainTrueRow.holds Try.pinned (OpenSpec.ofChange chainTrueSpec)

/-- ITS FALSE NEIGHBOUR: 'it returns false'. Refute it at one input. -/
def chainTrueWrong : ChangeSpec := { name := "chainTrue", fn := fun _ => fun
  | [d1, d2] => { results := [.lit (.bool false)], args := [d1, d2] }
  | _ => none }
def ChainTrueWrongFalsely : Prop := chainTrueRow.holds Try.pinned (OpenSpec.ofChange chainTrueWrong)

/-- 'pemmicanlaw11.ChainSame': WHATEVER THE INPUT: true; the input reads as it did. -/
def chainSameSpec : ChangeSpec := { name := "chainSame", fn := fun _ => fun
  | [d1, d2, d3] => { results := [.lit (.bool true)], args := [d1, d2, d3] }
  | _ => none }
def chainSameRow : OpenClaim := { program := "ytfijbhacobjjgaa", sum := "3039b2fce85f3c7ae1696b6e4e2787bea567968519f922724eb6607ddbf98ba6", func := "pemmican/pemmicanlaw11.ChainSame", spec := "chainSame", apart := false }
def ChainSameSaid : Prop := chainSameRow.holds Try.pinned (OpenSpec.ofChange chainSameSpec)

/-- ITS FALSE NEIGHBOUR: 'it returns false'. Refute it at one input. -/
def chainSameWrong : ChangeSpec := { name := "chainSame", fn := fun _ => fun
  | [d1, d2, d3] => { results := [.lit (.bool false)], args := [d1, d2, d3] }
  | _ => none }
def ChainSameWrongFalsely : Prop := chainSameRow.holds Try.pinned (OpenSpec.ofChange chainSameWrong)

/- THE SECOND FORM. 'bulk': how many values and letters a reading holds, each counted each time it is reached (what is shared counts as often as it is met; a slice's spare places count too). A statement '..UptoSaid' is the law's where the arguments, and the package variables that the reading takes, are together of bulk at most 1048576: NARROWER than '..Said'. Prove '..Said' where nothing that the law and all that it calls make is longer than what came in: it says more and counts as full. Else prove '..UptoSaid'. A law counts once. -/
mutual
def uptoBulk {H : Type} : DataW H → Nat
  | .lit (.string bytes) => bytes.length + 1
  | .lit _ => 1
  | .nil => 1
  | .ptr d => uptoBulk d + 1
  | .slice elems spare => uptoBulkAll elems + uptoBulkAll spare + 1
  | .agg parts => uptoBulkAll parts + 1
  | .iface _ d => uptoBulk d + 1
  | .map entries => uptoBulkEntries entries + 1
  | .held _ => 1
def uptoBulkAll {H : Type} : List (DataW H) → Nat
  | [] => 0
  | d :: r => uptoBulk d + uptoBulkAll r
def uptoBulkEntries {H : Type} : List (Lit × DataW H) → Nat
  | [] => 0
  | x :: r => uptoBulkEntry x + uptoBulkEntries r
def uptoBulkEntry {H : Type} : Lit × DataW H → Nat
  | (.string bytes, d) => bytes.length + uptoBulk d + 1
  | (_, d) => uptoBulk d + 1
 end
def uptoSmall : (H : Type) → List (DataW H) → Bool := fun _ ds => decide (uptoBulkAll ds ≤ 1048576)
def OpenSpec.upto (s : _root_.Go.ChangeSpec) : _root_.Go.OpenSpec := { _root_.Go.OpenSpec.ofChange s with cond := some uptoSmall }

/-- 'pemmicanlaw11.ChainFinds', WHERE WHAT IT READS IS OF BULK AT MOST 1048576: true; the input reads as it did. -/
def chainFindsUptoRow : OpenClaim := { program := "ytfijbhacobjjgaa", sum := "3039b2fce85f3c7ae1696b6e4e2787bea567968519f922724eb6607ddbf98ba6", func := "pemmican/pemmicanlaw11.ChainFinds", spec := "chainFinds", apart := false, narrowed := true }
def ChainFindsUptoSaid : Prop := chainFindsUptoRow.holds Try.pinned (OpenSpec.upto chainFindsSpec)

/-- 'pemmicanlaw11.ChainTrue', WHERE WHAT IT READS IS OF BULK AT MOST 1048576: true; the input reads as it did. -/
def chainTrueUptoRow : OpenClaim := { program := "ytfijbhacobjjgaa", sum := "3039b2fce85f3c7ae1696b6e4e2787bea567968519f922724eb6607ddbf98ba6", func := "pemmican/pemmicanlaw11.ChainTrue", spec := "chainTrue", apart := false, narrowed := true }
def ChainTrueUptoSaid : Prop := chainTrueUptoRow.holds Try.pinned (OpenSpec.upto chainTrueSpec)

/-- 'pemmicanlaw11.ChainSame', WHERE WHAT IT READS IS OF BULK AT MOST 1048576: true; the input reads as it did. -/
def chainSameUptoRow : OpenClaim := { program := "ytfijbhacobjjgaa", sum := "3039b2fce85f3c7ae1696b6e4e2787bea567968519f922724eb6607ddbf98ba6", func := "pemmican/pemmicanlaw11.ChainSame", spec := "chainSame", apart := false, narrowed := true }
def ChainSameUptoSaid : Prop := chainSameUptoRow.holds Try.pinned (OpenSpec.upto chainSameSpec)

end Rows
end Go.Proofs.Ytfijbhacobjjgaa
