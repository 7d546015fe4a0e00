/- The deeds of chapter 28, opened out of their reading. -/
import Derived.Test.YtfijbhacobjjgacStateH
import Derived.Deep.Slices
import Derived.Deep.Fields
import Derived.Deep.Strs
import Derived.Test.YtfijbhacobjjgacStrs
namespace Go.Proofs.Ytfijbhacobjjgac
open Go.RowKit Go.Proofs.YtfijbhacobjjgacW.PrintWords Go.Proofs.YtfijbhacobjjgacW.PrintLast Go.Proofs.YtfijbhacobjjgacW.PrintMore Go.Proofs.Ytfijbhacobjjgac.Fr
set_option linter.unusedVariables false
set_option linter.unusedSimpArgs false
attribute [local go_sem] max2_int min2_int max_two min_two

open Go.ChangeShapes Go.WideShapes
theorem rds_strs {H : Type} {enc : TypeId × Value → H} {P : Program} {W : World} {base : Nat} {spare : Nat → Bool} {held : Bool} {t e : TypeId} {fuel : Nat} {c : Value} {x : DataW H × List MemPlace}
    (hu : P.underlying t = some (.slice e)) (he : P.underlying e = some .string) (hc : P.cellsOf e = 1) (h : DataW.trod enc P W base spare held fuel t [c] = some x) : ∃ (A : Option Addr) (L : List ByteArray) (cap : Nat), c = .slice A L.length cap ∧ L.length ≤ cap ∧ RdS W A L := by
  rcases open_strings hu he hc h with ⟨hcs, _⟩ | ⟨a, l, cp, ss, hcs, _, hl, hm, hz, hx, hcell, _⟩
  · simp at hcs
    exact ⟨none, [], 0, hcs, Nat.le_refl _, fun i hi => by simp at hi⟩
  · simp at hcs
    have hl2 : l ≤ ss.length := by
      rw [hz]
      split
      · exact hl
      · exact Nat.le_refl _
    have hlen : (ss.take l).length = l := by rw [List.length_take]; omega
    have hget : ∀ i, i < l → (ss.take l).getD i ByteArray.empty = ss.getD i ByteArray.empty := fun i hi => by simp [List.getD_eq_getElem?_getD, List.getElem?_take, hi]
    refine ⟨some a, ss.take l, cp, by rw [hlen]; exact hcs, by omega, fun i hi => ⟨a, rfl, ?_⟩⟩
    rw [hlen] at hi
    rw [hget i hi]
    exact hcell i (by omega)
theorem is_deeds {H : Type} {enc : TypeId × Value → H} {P : Program} {W : World} {base : Nat} {spare : Nat → Bool} {held : Bool} {t e e9 : TypeId} {f0 f1 f2 f3 f4 : Field} {A : Option Addr} {len cap fuel : Nat} {x : DataW H × List MemPlace}
    (ht : P.underlying t = some (.slice e)) (he : P.underlying e = some (.struct #[f0, f1, f2, f3, f4])) (hone : Go.Deep.oneCellFields P #[f0, f1, f2, f3, f4] = true) (hC : P.cellsOf e = 5)
    (h0 : P.underlying f0.type = some (.int .u8)) (h1 : P.underlying f1.type = some .bool) (h2 : P.underlying f2.type = some (.int .i64)) (h3 : P.underlying f3.type = some .string) (h4 : P.underlying f4.type = some (.slice e9)) (h9 : P.underlying e9 = some .string) (hc9 : P.cellsOf e9 = 1)
    (h : DataW.trod enc P W base spare held fuel t [.slice A len cap] = some x) : IsDeeds W A len cap := by
  rcases Go.Deep.open_slice ht h with ⟨hcs, _⟩ | ⟨a, len', cap', m, n, D, Pl, hcs, _, hl, _, hmm, _, hi⟩
  · cases hcs
    exact ⟨Nat.le_refl _, fun i hi => by omega⟩
  · cases hcs
    refine ⟨hl, fun i hil => ?_⟩
    have hle : len ≤ m := by rw [hmm]; split <;> omega
    obtain ⟨cs', hc, ht'⟩ := hi i (by omega)
    rw [hC] at hc
    obtain ⟨_, hcl, hat⟩ := World.cells?_some hc
    obtain ⟨o0, k0⟩ := Go.Deep.hone_of hone 0 f0 rfl
    obtain ⟨o1, k1⟩ := Go.Deep.hone_of hone 1 f1 rfl
    obtain ⟨o2, k2⟩ := Go.Deep.hone_of hone 2 f2 rfl
    obtain ⟨o3, k3⟩ := Go.Deep.hone_of hone 3 f3 rfl
    obtain ⟨o4, k4⟩ := Go.Deep.hone_of hone 4 f4 rfl
    obtain ⟨xs, n', _, _, _, hlen, hf⟩ := DataW.trod_struct he ht'
    match xs, hlen with
    | [y0, y1, y2, y3, y4], _ =>
    have t0 := hf 0 f0 rfl
    have t1 := hf 1 f1 rfl
    have t2 := hf 2 f2 rfl
    have t3 := hf 3 f3 rfl
    have t4 := hf 4 f4 rfl
    rw [o0, k0] at t0
    rw [o1, k1] at t1
    rw [o2, k2] at t2
    rw [o3, k3] at t3
    rw [o4, k4] at t4
    match cs', hcl with
    | [c0, c1, c2, c3, c4], _ =>
      obtain ⟨z0, e0, _, wf0⟩ := DataW.trod_int h0 t0
      obtain ⟨z1, e1, _⟩ := DataW.trod_bool h1 t1
      obtain ⟨z2, e2, _, wf2⟩ := DataW.trod_int h2 t2
      obtain ⟨z3, e3, _, _⟩ := DataW.trod_string h3 t3
      obtain ⟨LA, L, lc, e4, hlc, hrd⟩ := rds_strs h4 h9 hc9 t4
      simp at e0 e1 e2 e3 e4
      subst e0 e1 e2 e3 e4
      have a0 := hat 0 (by decide)
      have a1 := hat 1 (by decide)
      have a2 := hat 2 (by decide)
      have a3 := hat 3 (by decide)
      have a4 := hat 4 (by decide)
      have hz : 0 ≤ z0 ∧ z0 ≤ 255 := by simp [Lit.wf] at wf0; exact wf0
      have ha0 : (a.add (i * 5)).add 0 = a.add (i * 5) := by unfold Addr.add; simp
      rw [ha0] at a0
      exact ⟨⟨z0, z1, z2, z3, LA, lc, L⟩, ⟨a, rfl, a0, a1, a2, a3, a4⟩, ⟨hz.1, hz.2, wf2⟩, hlc, hrd⟩
end Go.Proofs.Ytfijbhacobjjgac
