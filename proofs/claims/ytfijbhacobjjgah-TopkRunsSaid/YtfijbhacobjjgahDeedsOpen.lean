/- The deeds of chapter 49, opened out of their reading. -/
import Derived.Test.YtfijbhacobjjgahRunsA
import Derived.Test.YtfijbhacobjjgahOpen
import Derived.Deep.Slices
import Derived.Deep.Fields
import Derived.Deep.Strs
namespace Go.Proofs.Ytfijbhacobjjgah
open Go.RowKit Go.Proofs.YtfijbhacobjjgahW.PrintWords Go.Proofs.YtfijbhacobjjgahW.PrintLast Go.Proofs.YtfijbhacobjjgahW.PrintMore Go.Proofs.Ytfijbhacobjjgah.Fr
set_option linter.unusedVariables false
set_option linter.unusedSimpArgs false
attribute [local go_sem] max2_int min2_int max_two min_two

open Go.ChangeShapes Go.WideShapes
structure Dd where
  kd : Int
  n : Int
  s : ByteArray
def RdD (w : World) (A : Option Addr) (i : Nat) (d : Dd) : Prop := ∃ ad, A = some ad ∧ w.cell? (ad.add (i * 3)) = some (.int .u8 d.kd) ∧ w.cell? ((ad.add (i * 3)).add 1) = some (.int .i64 d.n) ∧ w.cell? ((ad.add (i * 3)).add 2) = some (.string d.s)
theorem RdD.below {w w1 : World} {A : Option Addr} {i : Nat} {d : Dd} (h : RdD w A i d) (hb : Below w.heap.size w w1) : RdD w1 A i d := by
  obtain ⟨ad, e, h0, h1, h2⟩ := h
  exact ⟨ad, e, pw_cell_below hb h0, pw_cell_below hb h1, pw_cell_below hb h2⟩
def IsDeeds (w : World) (A : Option Addr) (len cap : Nat) : Prop := len ≤ cap ∧ ∀ i, i < len → ∃ d : Dd, RdD w A i d ∧ 0 ≤ d.kd ∧ d.kd ≤ 255 ∧ (Lit.int .i64 d.n).wf = true
theorem is_deeds {H : Type} {enc : TypeId × Value → H} {P : Program} {W : World} {base : Nat} {spare : Nat → Bool} {held : Bool} {t e : TypeId} {f0 f1 f2 : Field} {A : Option Addr} {len cap fuel : Nat} {x : DataW H × List MemPlace}
    (ht : P.underlying t = some (.slice e)) (he : P.underlying e = some (.struct #[f0, f1, f2])) (hC : P.cellsOf e = 3)
    (ho : f0.offset = 0 ∧ P.cellsOf f0.type = 1 ∧ f1.offset = 1 ∧ P.cellsOf f1.type = 1 ∧ f2.offset = 2 ∧ P.cellsOf f2.type = 1)
    (h0 : P.underlying f0.type = some (.int .u8)) (h1 : P.underlying f1.type = some (.int .i64)) (h2 : P.underlying f2.type = some .string)
    (h : DataW.trod enc P W base spare held fuel t [.slice A len cap] = some x) : IsDeeds W A len cap := by
  rcases Go.Deep.open_slice ht h with ⟨hcs, _⟩ | ⟨a, len', cap', m, n, D, Pl, hcs, _, hl, _, hmm, _, hi⟩
  · cases hcs
    exact ⟨Nat.le_refl _, fun i hi => by omega⟩
  · cases hcs
    refine ⟨hl, fun i hil => ?_⟩
    have hle : len ≤ m := by rw [hmm]; split <;> omega
    obtain ⟨cs', hc, ht'⟩ := hi i (by omega)
    rw [hC] at hc
    obtain ⟨_, hcl, hat⟩ := World.cells?_some hc
    obtain ⟨o0, k0, o1, k1, o2, k2⟩ := ho
    obtain ⟨y0, y1, y2, n', _, _, t0, t1, t2⟩ := Go.Deep.trod_struct3 he ht'
    rw [o0, k0] at t0
    rw [o1, k1] at t1
    rw [o2, k2] at t2
    match cs', hcl with
    | [c0, c1, c2], _ =>
      simp at t0 t1 t2
      obtain ⟨z0, e0, _, wf0⟩ := DataW.trod_int h0 t0
      obtain ⟨z1, e1, _, wf1⟩ := DataW.trod_int h1 t1
      obtain ⟨z2, e2, _, _⟩ := DataW.trod_string h2 t2
      simp at e0 e1 e2
      subst e0 e1 e2
      have a0 := hat 0 (by decide)
      have a1 := hat 1 (by decide)
      have a2 := hat 2 (by decide)
      have hz : 0 ≤ z0 ∧ z0 ≤ 255 := by simp [Lit.wf] at wf0; exact wf0
      have ha0 : (a.add (i * 3)).add 0 = a.add (i * 3) := by unfold Addr.add; simp
      rw [ha0] at a0
      exact ⟨⟨z0, z1, z2⟩, ⟨a, rfl, a0, a1, a2⟩, hz.1, hz.2, wf1⟩
theorem deeds_of {H : Type} {enc : TypeId × Value → H} {W : World} {base : Nat} {spare : Nat → Bool} {held : Bool} {A : Option Addr} {len cap fuel : Nat} {x : DataW H × List MemPlace} (h : DataW.trod enc Try.prog W base spare held fuel 22 [.slice A len cap] = some x) : IsDeeds W A len cap :=
  is_deeds Try.underlying22 Try.underlying29 (by kernel_rfl) ⟨rfl, by kernel_rfl, rfl, by kernel_rfl, rfl, by kernel_rfl⟩ Try.underlying5 Try.underlying3 Try.underlying9 h
end Go.Proofs.Ytfijbhacobjjgah
