/- SchedOrder: the walk, out of the row's reading. -/
import Derived.Test.YtfijbhacobjjgagOrderWalk
namespace Go.Proofs.Ytfijbhacobjjgag
open Go.RowKit Go.Proofs.YtfijbhacobjjgagW.PrintWords Go.Proofs.YtfijbhacobjjgagW.PrintLast Go.Proofs.YtfijbhacobjjgagW.PrintMore Go.Proofs.Ytfijbhacobjjgag.Fr
set_option linter.unusedVariables false
set_option linter.unusedSimpArgs false
attribute [local go_sem] max2_int min2_int max_two min_two

theorem order_open (A : Option Addr) (n c : Nat) (l : List Int) (w0 : World) (hcap : n ≤ c) (hC : (Kd.int .i64).C w0 A n l) (hwf : ∀ p ∈ l, (Lit.int .i64 p).wf = true) : Calls Try.prog 3 #[.slice A n c] w0 fun e w' => e = .returned (.bool true) ∧ Below w0.heap.size w0 w' := by
  obtain ⟨hl, hR⟩ := rdk_of hC
  exact order_walk A n c l hcap w0 hl hR
end Go.Proofs.Ytfijbhacobjjgag
