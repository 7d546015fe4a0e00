/-
  No cell of these rows narrows 'for every input' (looked for: loops, veiled, ifaces, maps, wideKeys, modest, calm, conditions, laid).
  DERIVED. THE GIVEN ROWS OF THIS SEAT. 3 by the template 'for every input the law returns true; each argument reads behind the call as it read before'; 0 by the template 'total and deterministic' (their statements: YtfijbhacobjjgahTotals.lean).
  GIVEN WITH THE SEED: the statements are not yours to turn. If you find one false, say at which input.
  Laid BY PROGRAM, IN A SANDBOX (cutbox-rows.mjs): the forced cells as the released guide's own fill.sh prints them over the translation a6bc164c3e47385f… (all of the seat's roots in one cut). By AI agents, Wed Nov 11 2026. No macro, syntax, notation, axiom, sorry.
-/
import Derived.Test.YtfijbhacobjjgahChecked
import GoSem.Claim
import GoSem.ClaimJoined
import GoSem.ClaimMapViews
import Derived.JoinedTies
import Derived.KernelRfl
namespace Go.Proofs.Ytfijbhacobjjgah
/- THE CELL 'sum', in the pinned program and in every row, IS THE sha256 OF THE DUMP (.gsa) THAT YtfijbhacobjjgahProg.lean LOADS. Nothing in Lean hashes anything: it is a label: what it is worth is what the hold of that sum in a sandbox is worth. -/
noncomputable def Try.pinned : Pinned := { name := "ytfijbhacobjjgah", sum := "a6bc164c3e47385fdcee6d7a6d345ee40994dfc91885f645b9b52525d14cf97d", checked := Try.checked }
namespace Rows
def none {H : Type} : Left H := { results := [], args := [] }

/-- 'pemmicanlaw49.TopkRuns': WHATEVER THE INPUT: true; the input reads as it did. -/
def topkRunsSpec : ChangeSpec := { name := "topkRuns", fn := fun _ => fun
  | [d1, d2] => { results := [.lit (.bool true)], args := [d1, d2] }
  | _ => none }
def topkRunsRow : OpenClaim := { program := "ytfijbhacobjjgah", sum := "a6bc164c3e47385fdcee6d7a6d345ee40994dfc91885f645b9b52525d14cf97d", func := "pemmican/pemmicanlaw49.TopkRuns", spec := "topkRuns", unfollowed := true, recurses := true, apart := false }
def TopkRunsSaid : Prop := topkRunsRow.holds Try.pinned (OpenSpec.ofChange topkRunsSpec)

/-- ITS FALSE NEIGHBOUR: 'it returns false'. Refute it at one input. -/
def topkRunsWrong : ChangeSpec := { name := "topkRuns", fn := fun _ => fun
  | [d1, d2] => { results := [.lit (.bool false)], args := [d1, d2] }
  | _ => none }
def TopkRunsWrongFalsely : Prop := topkRunsRow.holds Try.pinned (OpenSpec.ofChange topkRunsWrong)

/-- 'pemmicanlaw49.TopkNobody': WHATEVER THE INPUT: true; the input reads as it did. -/
def topkNobodySpec : ChangeSpec := { name := "topkNobody", fn := fun _ => fun
  | [d1, d2, d3] => { results := [.lit (.bool true)], args := [d1, d2, d3] }
  | _ => none }
def topkNobodyRow : OpenClaim := { program := "ytfijbhacobjjgah", sum := "a6bc164c3e47385fdcee6d7a6d345ee40994dfc91885f645b9b52525d14cf97d", func := "pemmican/pemmicanlaw49.TopkNobody", spec := "topkNobody", unfollowed := true, recurses := true, apart := false }
def TopkNobodySaid : Prop := topkNobodyRow.holds Try.pinned (OpenSpec.ofChange topkNobodySpec)

/-- ITS FALSE NEIGHBOUR: 'it returns false'. Refute it at one input. -/
def topkNobodyWrong : ChangeSpec := { name := "topkNobody", fn := fun _ => fun
  | [d1, d2, d3] => { results := [.lit (.bool false)], args := [d1, d2, d3] }
  | _ => none }
def TopkNobodyWrongFalsely : Prop := topkNobodyRow.holds Try.pinned (OpenSpec.ofChange topkNobodyWrong)

/-- 'pemmicanlaw49.TopkWords': WHATEVER THE INPUT: true; the input reads as it did. -/
def topkWordsSpec : ChangeSpec := { name := "topkWords", fn := fun _ => fun
  | [d1, d2] => { results := [.lit (.bool true)], args := [d1, d2] }
  | _ => none }
def topkWordsRow : OpenClaim := { program := "ytfijbhacobjjgah", sum := "a6bc164c3e47385fdcee6d7a6d345ee40994dfc91885f645b9b52525d14cf97d", func := "pemmican/pemmicanlaw49.TopkWords", spec := "topkWords", unfollowed := true, recurses := true, apart := false }
def TopkWordsSaid : Prop := topkWordsRow.holds Try.pinned (OpenSpec.ofChange topkWordsSpec)

/-- ITS FALSE NEIGHBOUR: 'it returns false'. Refute it at one input. -/
def topkWordsWrong : ChangeSpec := { name := "topkWords", fn := fun _ => fun
  | [d1, d2] => { results := [.lit (.bool false)], args := [d1, d2] }
  | _ => none }
def TopkWordsWrongFalsely : Prop := topkWordsRow.holds Try.pinned (OpenSpec.ofChange topkWordsWrong)

/- THE SECOND FORM. 'bulk': how many values and letters a reading holds, each counted each time it is reached (what is shared counts as often as it is met; a slice's spare places count too). A statement '..UptoSaid' is the law's where the arguments, and the package variables that the reading takes, are together of bulk at most 1048576: NARROWER than '..Said'. Prove '..Said' where nothing that the law and all that it calls make is longer than what came in: it says more and counts as full. Else prove '..UptoSaid'. A law counts once. -/
mutual
def uptoBulk {H : Type} : DataW H → Nat
  | .lit (.string bytes) => bytes.length + 1
  | .lit _ => 1
  | .nil => 1
  | .ptr d => uptoBulk d + 1
  | .slice elems spare => uptoBulkAll elems + uptoBulkAll spare + 1
  | .agg parts => uptoBulkAll parts + 1
  | .iface _ d => uptoBulk d + 1
  | .map entries => uptoBulkEntries entries + 1
  | .held _ => 1
def uptoBulkAll {H : Type} : List (DataW H) → Nat
  | [] => 0
  | d :: r => uptoBulk d + uptoBulkAll r
def uptoBulkEntries {H : Type} : List (Lit × DataW H) → Nat
  | [] => 0
  | x :: r => uptoBulkEntry x + uptoBulkEntries r
def uptoBulkEntry {H : Type} : Lit × DataW H → Nat
  | (.string bytes, d) => bytes.length + uptoBulk d + 1
  | (_, d) => uptoBulk d + 1
 end
def uptoSmall : (H : Type) → List (DataW H) → Bool := fun _ ds => decide (uptoBulkAll ds ≤ 1048576)
def OpenSpec.upto (s : _root_.Go.ChangeSpec) : _root_.Go.OpenSpec := { _root_.Go.OpenSpec.ofChange s with cond := some uptoSmall }

/-- 'pemmicanlaw49.TopkRuns', WHERE WHAT IT READS IS OF BULK AT MOST 1048576: true; the input reads as it did. -/
def topkRunsUptoRow : OpenClaim := { program := "ytfijbhacobjjgah", sum := "a6bc164c3e47385fdcee6d7a6d345ee40994dfc91885f645b9b52525d14cf97d", func := "pemmican/pemmicanlaw49.TopkRuns", spec := "topkRuns", unfollowed := true, recurses := true, apart := false, narrowed := true }
def TopkRunsUptoSaid : Prop := topkRunsUptoRow.holds Try.pinned (OpenSpec.upto topkRunsSpec)

/-- 'pemmicanlaw49.TopkNobody', WHERE WHAT IT READS IS OF BULK AT MOST 1048576: true; the input reads as it did. -/
def topkNobodyUptoRow : OpenClaim := { program := "ytfijbhacobjjgah", sum := "a6bc164c3e47385fdcee6d7a6d345ee40994dfc91885f645b9b52525d14cf97d", func := "pemmican/pemmicanlaw49.TopkNobody", spec := "topkNobody", unfollowed := true, recurses := true, apart := false, narrowed := true }
def TopkNobodyUptoSaid : Prop := topkNobodyUptoRow.holds Try.pinned (OpenSpec.upto topkNobodySpec)

/-- 'pemmicanlaw49.TopkWords', WHERE WHAT IT READS IS OF BULK AT MOST 1048576: true; the input reads as it did. -/
def topkWordsUptoRow : OpenClaim := { program := "ytfijbhacobjjgah", sum := "a6bc164c3e47385fdcee6d7a6d345ee40994dfc91885f645b9b52525d14cf97d", func := "pemmican/pemmicanlaw49.TopkWords", spec := "topkWords", unfollowed := true, recurses := true, apart := false, narrowed := true }
def TopkWordsUptoSaid : Prop := topkWordsUptoRow.holds Try.pinned (OpenSpec.upto topkWordsSpec)

end Rows
end Go.Proofs.Ytfijbhacobjjgah
