/- The deeds of chapter 39, opened out of their reading. -/
import Derived.Test.YtfijbhacobjjgagRunsA
import Derived.Test.YtfijbhacobjjgagOpen
import Derived.Deep.Slices
import Derived.Deep.Fields
import Derived.Deep.Strs
namespace Go.Proofs.Ytfijbhacobjjgag
open Go.RowKit Go.Proofs.YtfijbhacobjjgagW.PrintWords Go.Proofs.YtfijbhacobjjgagW.PrintLast Go.Proofs.YtfijbhacobjjgagW.PrintMore Go.Proofs.Ytfijbhacobjjgag.Fr
set_option linter.unusedVariables false
set_option linter.unusedSimpArgs false
attribute [local go_sem] max2_int min2_int max_two min_two

open Go.ChangeShapes Go.WideShapes
structure Dd where
  kd : Int
  n : Int
  a : Ac
def RdD (w : World) (A : Option Addr) (i : Nat) (d : Dd) : Prop := ∃ ad, A = some ad ∧ w.cell? (ad.add (i * 7)) = some (.int .u8 d.kd) ∧ w.cell? ((ad.add (i * 7)).add 1) = some (.int .i64 d.n) ∧ w.cell? ((ad.add (i * 7)).add 2) = some (.int .i64 d.a.k) ∧ w.cell? ((ad.add (i * 7)).add 3) = some (.int .i64 d.a.nd) ∧ w.cell? ((ad.add (i * 7)).add 4) = some (.int .i64 d.a.n) ∧ w.cell? ((ad.add (i * 7)).add 5) = some (.bool d.a.up) ∧ w.cell? ((ad.add (i * 7)).add 6) = some (.string d.a.s)
theorem RdD.below {w w1 : World} {A : Option Addr} {i : Nat} {d : Dd} (h : RdD w A i d) (hb : Below w.heap.size w w1) : RdD w1 A i d := by
  obtain ⟨ad, e, h0, h1, h2, h3, h4, h5, h6⟩ := h
  exact ⟨ad, e, pw_cell_below hb h0, pw_cell_below hb h1, pw_cell_below hb h2, pw_cell_below hb h3, pw_cell_below hb h4, pw_cell_below hb h5, pw_cell_below hb h6⟩
def IsDeeds (w : World) (A : Option Addr) (len cap : Nat) : Prop := len ≤ cap ∧ ∀ i, i < len → ∃ d : Dd, RdD w A i d ∧ 0 ≤ d.kd ∧ d.kd ≤ 255 ∧ (Lit.int .i64 d.n).wf = true
theorem is_deeds {H : Type} {enc : TypeId × Value → H} {P : Program} {W : World} {base : Nat} {spare : Nat → Bool} {held : Bool} {t e : TypeId} {f0 f1 f2 g0 g1 g2 g3 g4 : Field} {A : Option Addr} {len cap fuel : Nat} {x : DataW H × List MemPlace}
    (ht : P.underlying t = some (.slice e)) (he : P.underlying e = some (.struct #[f0, f1, f2])) (hC : P.cellsOf e = 7)
    (ho : f0.offset = 0 ∧ P.cellsOf f0.type = 1 ∧ f1.offset = 1 ∧ P.cellsOf f1.type = 1 ∧ f2.offset = 2 ∧ P.cellsOf f2.type = 5)
    (h0 : P.underlying f0.type = some (.int .u8)) (h1 : P.underlying f1.type = some (.int .i64)) (h2 : P.underlying f2.type = some (.struct #[g0, g1, g2, g3, g4])) (hone : Go.Deep.oneCellFields P #[g0, g1, g2, g3, g4] = true)
    (q0 : P.underlying g0.type = some (.int .i64)) (q1 : P.underlying g1.type = some (.int .i64)) (q2 : P.underlying g2.type = some (.int .i64)) (q3 : P.underlying g3.type = some .bool) (q4 : P.underlying g4.type = some .string)
    (h : DataW.trod enc P W base spare held fuel t [.slice A len cap] = some x) : IsDeeds W A len cap := by
  rcases Go.Deep.open_slice ht h with ⟨hcs, _⟩ | ⟨a, len', cap', m, n, D, Pl, hcs, _, hl, _, hmm, _, hi⟩
  · cases hcs
    exact ⟨Nat.le_refl _, fun i hi => by omega⟩
  · cases hcs
    refine ⟨hl, fun i hil => ?_⟩
    have hle : len ≤ m := by rw [hmm]; split <;> omega
    obtain ⟨cs', hc, ht'⟩ := hi i (by omega)
    rw [hC] at hc
    obtain ⟨_, hcl, hat⟩ := World.cells?_some hc
    obtain ⟨o0, k0, o1, k1, o2, k2⟩ := ho
    obtain ⟨y0, y1, y2, n', _, _, t0, t1, t2⟩ := Go.Deep.trod_struct3 he ht'
    rw [o0, k0] at t0
    rw [o1, k1] at t1
    rw [o2, k2] at t2
    match cs', hcl with
    | [c0, c1, c2, c3, c4, c5, c6], _ =>
      simp at t0 t1 t2
      obtain ⟨z0, e0, _, wf0⟩ := DataW.trod_int h0 t0
      obtain ⟨z1, e1, _, wf1⟩ := DataW.trod_int h1 t1
      obtain ⟨u0, v0⟩ := Go.Deep.hone_of hone 0 g0 rfl
      obtain ⟨u1, v1⟩ := Go.Deep.hone_of hone 1 g1 rfl
      obtain ⟨u2, v2⟩ := Go.Deep.hone_of hone 2 g2 rfl
      obtain ⟨u3, v3⟩ := Go.Deep.hone_of hone 3 g3 rfl
      obtain ⟨u4, v4⟩ := Go.Deep.hone_of hone 4 g4 rfl
      obtain ⟨xs, n2, _, _, _, hlen, hf⟩ := DataW.trod_struct h2 t2
      match xs, hlen with
      | [y0, y1, y2, y3, y4], _ =>
      have s0 := hf 0 g0 rfl
      have s1 := hf 1 g1 rfl
      have s2 := hf 2 g2 rfl
      have s3 := hf 3 g3 rfl
      have s4 := hf 4 g4 rfl
      rw [u0, v0] at s0
      rw [u1, v1] at s1
      rw [u2, v2] at s2
      rw [u3, v3] at s3
      rw [u4, v4] at s4
      obtain ⟨z2, e2, _, _⟩ := DataW.trod_int q0 s0
      obtain ⟨z3, e3, _, _⟩ := DataW.trod_int q1 s1
      obtain ⟨z4, e4, _, _⟩ := DataW.trod_int q2 s2
      obtain ⟨z5, e5, _⟩ := DataW.trod_bool q3 s3
      obtain ⟨z6, e6, _, _⟩ := DataW.trod_string q4 s4
      simp at e0 e1 e2 e3 e4 e5 e6
      subst e0 e1 e2 e3 e4 e5 e6
      have a0 := hat 0 (by decide)
      have a1 := hat 1 (by decide)
      have a2 := hat 2 (by decide)
      have a3 := hat 3 (by decide)
      have a4 := hat 4 (by decide)
      have a5 := hat 5 (by decide)
      have a6 := hat 6 (by decide)
      have hz : 0 ≤ z0 ∧ z0 ≤ 255 := by simp [Lit.wf] at wf0; exact wf0
      have ha0 : (a.add (i * 7)).add 0 = a.add (i * 7) := by unfold Addr.add; simp
      rw [ha0] at a0
      exact ⟨⟨z0, z1, ⟨z2, z3, z4, z5, z6⟩⟩, ⟨a, rfl, a0, a1, a2, a3, a4, a5, a6⟩, hz.1, hz.2, wf1⟩
theorem deeds_of {H : Type} {enc : TypeId × Value → H} {W : World} {base : Nat} {spare : Nat → Bool} {held : Bool} {A : Option Addr} {len cap fuel : Nat} {x : DataW H × List MemPlace} (h : DataW.trod enc Try.prog W base spare held fuel 34 [.slice A len cap] = some x) : IsDeeds W A len cap :=
  is_deeds Try.underlying34 Try.underlying40 (by kernel_rfl) ⟨rfl, by kernel_rfl, rfl, by kernel_rfl, rfl, by kernel_rfl⟩ Try.underlying5 Try.underlying3 Try.underlying28 (by kernel_rfl) Try.underlying3 Try.underlying3 Try.underlying3 Try.underlying4 Try.underlying9 h
end Go.Proofs.Ytfijbhacobjjgag
