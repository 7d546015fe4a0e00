/- The deeds of chapter 28. -/
import Derived.Test.YtfijbhacobjjgacStateG
namespace Go.Proofs.Ytfijbhacobjjgac
open Go.RowKit Go.Proofs.YtfijbhacobjjgacW.PrintWords Go.Proofs.YtfijbhacobjjgacW.PrintLast Go.Proofs.YtfijbhacobjjgacW.PrintMore Go.Proofs.Ytfijbhacobjjgac.Fr
set_option linter.unusedVariables false
set_option linter.unusedSimpArgs false
attribute [local go_sem] max2_int min2_int max_two min_two

theorem cell_off (x : Addr) {j : Nat} (hj : j ≠ 0) : x.add j = ⟨x.block, x.off + j, none⟩ := by unfold Addr.add; rw [if_neg hj]
/-- A deed that was handed in. -/
structure Deed where
  kd : Int
  nx : Bool
  nn : Int
  s : ByteArray
  LA : Option Addr
  lc : Nat
  L : List ByteArray
def DeedAt (w : World) (A : Option Addr) (i : Nat) (x : Deed) : Prop := (∃ ad : Addr, A = some ad ∧ w.cell? (ad.add (i * 5)) = some (.int .u8 x.kd) ∧ w.cell? ((ad.add (i * 5)).add 1) = some (.bool x.nx) ∧ w.cell? ((ad.add (i * 5)).add 2) = some (.int .i64 x.nn) ∧ w.cell? ((ad.add (i * 5)).add 3) = some (.string x.s) ∧ w.cell? ((ad.add (i * 5)).add 4) = some (.slice x.LA x.L.length x.lc)) ∧
  (0 ≤ x.kd ∧ x.kd ≤ 255 ∧ (Lit.int .i64 x.nn).wf = true) ∧ x.L.length ≤ x.lc ∧ RdS w x.LA x.L
def IsDeeds (w : World) (A : Option Addr) (len cap : Nat) : Prop := len ≤ cap ∧ ∀ i, i < len → ∃ x, DeedAt w A i x
theorem DeedAt.below {w w1 : World} {A : Option Addr} {i : Nat} {x : Deed} (h : DeedAt w A i x) (hb : Below w.heap.size w w1) : DeedAt w1 A i x := by
  obtain ⟨⟨ad, e, h0, h1, h2, h3, h4⟩, k0, k1, k2⟩ := h
  exact ⟨⟨ad, e, pw_cell_below hb h0, pw_cell_below hb h1, pw_cell_below hb h2, pw_cell_below hb h3, pw_cell_below hb h4⟩, k0, k1, k2.below hb⟩
/-- A block of the caller's, beside a state. -/
structure Bx (B g : Nat) (rv dv : Value) (md : Nat) (w : World) (p : Nat) (o : Obj) : Prop where
  box : w.heap[p]? = some o
  dis : Free B g rv dv md p
theorem Bx.move {B : Nat} {w w1 : World} {g : Nat} {rv dv rv1 dv1 : Value} {md p : Nat} {o : Obj} (h : Bx B g rv dv md w p o) (m : Mv g rv dv md rv1 dv1 w w1) : Bx B g rv1 dv1 md w1 p o :=
  ⟨m.ch.blk h.box (fun e2 => by
      have f := h.dis
      rcases e2 with e2 | e2 | e2
      · exact f.2.1 e2
      · exact f.2.2.2.2 e2.symm
      · exact f.2.2.1 e2.symm), by
      have f := h.dis
      have hlt := blk_lt h.box
      refine ⟨f.1, f.2.1, fun e2 => ?_, fun e2 => ?_, f.2.2.2.2⟩
      · rcases m.r p e2 with e3 | e3
        · exact f.2.2.1 e3
        · omega
      · rcases m.d p e2 with e3 | e3
        · exact f.2.2.2.1 e3
        · omega⟩
theorem Bx.from {B : Nat} {w w1 : World} {g : Nat} {rv dv : Value} {md p : Nat} {o : Obj} (h : Bx B g rv dv md w p o) (k : Below w.heap.size w w1) : Bx B g rv dv md w1 p o := ⟨blk_below h.box k, h.dis⟩
theorem rds_of {w : World} {B : Nat} {A : Option Addr} {l : List ByteArray} {m c : Nat} (h : w.ownsRow B 9 1 (.slice A m c) (svals l).length (svals l)) : RdS w A l := by
  obtain ⟨A', c', e, _, hr⟩ := own_rds h
  cases e
  exact hr
theorem RdS.pre {w : World} {A : Option Addr} {l r : List ByteArray} (h : RdS w A l) (hr : l.take r.length = r) : RdS w A r := by
  intro i hi
  have hl : r.length ≤ l.length := by
    have := congrArg List.length hr
    rw [List.length_take] at this
    omega
  obtain ⟨ad, e, hc⟩ := h i (by omega)
  refine ⟨ad, e, ?_⟩
  rw [hc, ← hr]
  simp [List.getD_eq_getElem?_getD, List.getElem?_take, hi]

end Go.Proofs.Ytfijbhacobjjgac
