/- LogRuns: the deeds, opened out of their reading. -/
import Derived.Test.YtfcpjblogeofpadLogRunsWalk
import Derived.Deep.Slices
import Derived.Deep.Fields
import Derived.Deep.Strs
namespace Go.Proofs.Ytfcpjblogeofpad
open Go.RowKit Go.Proofs.YtfcpjblogeofpadW.PrintWords Go.Proofs.YtfcpjblogeofpadW.PrintLast Go.Proofs.YtfcpjblogeofpadW.PrintMore Go.Proofs.Ytfcpjblogeofpad.Fr
set_option linter.unusedVariables false
set_option linter.unusedSimpArgs false

open Go.ChangeShapes Go.WideShapes
theorem is_deeds {H : Type} {enc : TypeId × Value → H} {P : Program} {W : World} {base : Nat} {spare : Nat → Bool} {held : Bool} {t e : TypeId} {f0 f1 f2 : Field} {A : Option Addr} {len cap fuel : Nat} {x : DataW H × List MemPlace}
    (ht : P.underlying t = some (.slice e)) (he : P.underlying e = some (.struct #[f0, f1, f2])) (hone : Go.Deep.oneCellFields P #[f0, f1, f2] = true) (hC : P.cellsOf e = 3)
    (h0 : P.underlying f0.type = some (.int .u8)) (h1 : P.underlying f1.type = some (.int .i64)) (h2 : P.underlying f2.type = some .string)
    (h : DataW.trod enc P W base spare held fuel t [.slice A len cap] = some x) : IsDeeds W A len cap := by
  rcases Go.Deep.open_slice ht h with ⟨hcs, _⟩ | ⟨a, len', cap', m, n, D, Pl, hcs, _, hl, _, hmm, _, hi⟩
  · cases hcs
    exact ⟨Nat.le_refl _, fun i hi => by omega⟩
  · cases hcs
    refine ⟨hl, fun i hil => ?_⟩
    have hle : len ≤ m := by rw [hmm]; split <;> omega
    obtain ⟨cs', hc, ht'⟩ := hi i (by omega)
    rw [hC] at hc
    obtain ⟨_, hcl, hat⟩ := World.cells?_some hc
    obtain ⟨o0, k0⟩ := Go.Deep.hone_of hone 0 f0 rfl
    obtain ⟨o1, k1⟩ := Go.Deep.hone_of hone 1 f1 rfl
    obtain ⟨o2, k2⟩ := Go.Deep.hone_of hone 2 f2 rfl
    obtain ⟨y0, y1, y2, n', _, _, t0, t1, t2⟩ := Go.Deep.trod_struct3 he ht'
    rw [o0, k0] at t0
    rw [o1, k1] at t1
    rw [o2, k2] at t2
    match cs', hcl with
    | [c0, c1, c2], _ =>
      obtain ⟨z0, e0, _, wf0⟩ := DataW.trod_int h0 t0
      obtain ⟨z1, e1, _, _⟩ := DataW.trod_int h1 t1
      obtain ⟨z2, e2, _, _⟩ := DataW.trod_string h2 t2
      simp at e0 e1 e2
      subst e0 e1 e2
      have a0 := hat 0 (by decide)
      have a1 := hat 1 (by decide)
      have a2 := hat 2 (by decide)
      rw [add_add] at a0 a1 a2
      have hz : 0 ≤ z0 ∧ z0 ≤ 255 := by simp [Lit.wf] at wf0; exact wf0
      exact ⟨(z0, z1, z2), ⟨a, rfl, a0, a1, a2⟩, hz.1, hz.2⟩
end Go.Proofs.Ytfcpjblogeofpad
