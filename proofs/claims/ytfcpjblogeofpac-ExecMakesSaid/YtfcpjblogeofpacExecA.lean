/- A text that is made, in memory; the contracts of exec's room, copied. -/
import Derived.Test.YtfcpjblogeofpacLaw14
import Derived.Test.YtfcpjblogeofpacMark
import Derived.Test.YtfcpjblogeofpacStrs
import Derived.Test.YtfcpjblogeofpacSteadyT
import Derived.Test.YtfcpjblogeofpacProg
import Derived.Test.YtfcpjblogeofpacVals
import Derived.Test.YtfcpjblogeofpacWLast
import Derived.Test.YtfcpjblogeofpacWMore
import Derived.RegionTactic
import Derived.ChangeAlike
import Derived.BigRegion
import Derived.WalkLawsBesides
import Derived.WalkSpells
import Derived.Deep.LoopGhost
import Derived.Deep.QuietTactic
import Derived.BigQuiet
import Derived.OwnWalk
namespace Go.Proofs.Ytfcpjblogeofpac
open Go.RowKit Go.Proofs.YtfcpjblogeofpacW.PrintWords Go.Proofs.YtfcpjblogeofpacW.PrintLast Go.Proofs.YtfcpjblogeofpacW.PrintMore Go.Proofs.Ytfcpjblogeofpac.Fr
set_option linter.unusedVariables false
set_option linter.unusedSimpArgs false
attribute [local go_sem] max2_int min2_int max_two min_two

open Go.Proofs.Ytfcpjblogeofpac.Pl
/-- Bytes as numbers. -/
def bi (b : Bs) : List Int := b.map fun c => (c.toNat : Int)
theorem bi_length (b : Bs) : (bi b).length = b.length := by simp [bi]
theorem bi_append (a b : Bs) : bi (a ++ b) = bi a ++ bi b := by simp [bi]
theorem bi_get (b : Bs) (i : Nat) (h : i < b.length) : (bi b).getD i 0 = ((b.getD i 0).toNat : Int) := by simp [bi, List.getD_eq_getElem?_getD, h]
/-- A text, being made. -/
structure TX (w0 w : World) (g : Nat) (v : Value) (b : Bs) (ah : Nat) (lim : Int) : Prop where
  box : w.heap[g]? = some (.cells #[v, .int .i64 ah, .int .i64 lim] 41 (0, 0))
  row : MRow w w0.heap.size 5 v (nums .u8 (bi b))
  bel : Below w0.heap.size w0 w
  hg : w0.heap.size ≤ g
variable {w0 w w1 : World} {g : Nat} {v : Value} {b : Bs} {ah : Nat} {lim : Int}
theorem TX.below (x : TX w0 w g v b ah lim) (k : Below w.heap.size w w1) : TX w0 w1 g v b ah lim := ⟨blk_below x.box k, x.row.below k, below_step x.bel k, x.hg⟩
theorem mrow_ne {B : Nat} {xs : List Value} {cs : Array Value} {t : TypeId} (hb : w.heap[g]? = some (.cells cs t (0, 0))) (hr : MRow w B 5 v xs) (ht : t ≠ 5) : some g ≠ v.ownBlock := fun e => by
  obtain ⟨_, cs', fr, h⟩ := hr.blk e.symm
  rw [hb] at h
  simp only [Option.some.injEq, Obj.cells.injEq] at h
  exact ht h.2.1
theorem TX.shape (x : TX w0 w g v b ah lim) : ∃ A c, v = .slice A b.length c ∧ b.length ≤ c ∧ ReadsInt w .u8 A b.length (bi b) := by
  obtain ⟨A, c, h1, h2, h3⟩ := x.row.reads
  rw [bi_length] at h1 h2 h3
  exact ⟨A, c, h1, h2, h3⟩
theorem info5 : (Try.prog.info? 5).map (fun i => (i.zero, i.size, i.bytes)) = some (some (.int .u8 0), 1, 1) := by kernel_rfl
theorem reach (ops : Array Oper) (l : Nat → Bool) (hcl : ∀ j k, l j = true → St.edge ops j k = true → l k = true) (d m n : Nat) (hall : (List.range n).all (fun k => k == d || St.edge ops d k || (St.edge ops d m && St.edge ops m k)) = true) (h : l d = true) (i : Nat) (hi : i < n) : l i = true := by
  have := List.all_eq_true.1 hall i (List.mem_range.2 hi)
  simp only [Bool.or_eq_true, Bool.and_eq_true, beq_iff_eq] at this
  rcases this with (e | e) | ⟨e1, e2⟩
  · rw [e]; exact h
  · exact hcl d i h e
  · exact hcl m i (hcl d m h e1) e2
/-- Is there room for so many more? -/
def roomB (b : Bs) (ah : Nat) (lim n : Int) : Bool := decide (n ≤ lim - ((b.length : Int) - ah))
theorem room_any (n : Int) (x : TX w0 w g v b ah lim) (hb : b.length ≤ 1000000) (ha : ah ≤ 1000000) (hl0 : 0 ≤ lim) (hl : lim ≤ 1000000) : Calls Try.prog 15 #[.pointer (some ⟨g, 0, none⟩), .int .i64 n] w fun e w' => e = .returned (.bool (roomB b ah lim n)) ∧ Drawn0 w w' := by
  obtain ⟨A, c, rfl, _, _⟩ := x.shape
  have c0 : w.cell? ⟨g, 0, none⟩ = some (.slice A b.length c) := (blk_cell x.box 0).trans rfl
  have c1 : w.cell? ⟨g, 1, none⟩ = some (.int .i64 ah) := (blk_cell x.box 1).trans rfl
  have c2 : w.cell? ⟨g, 2, none⟩ = some (.int .i64 lim) := (blk_cell x.box 2).trans rfl
  have hw1 : IntKind.i64.wrap ((b.length : Int) - (ah : Int)) = (b.length : Int) - (ah : Int) := by rw [IntKind.wrap_i64]; omega
  have hw2 : IntKind.i64.wrap (lim - ((b.length : Int) - (ah : Int))) = lim - ((b.length : Int) - (ah : Int)) := by rw [IntKind.wrap_i64]; omega
  clear x
  have HE : Aside0 (roomB b ah lim n = decide (n ≤ lim - ((b.length : Int) - ah))) := ⟨rfl⟩
  obtain ⟨r, hr⟩ : ∃ r, decide (n ≤ lim - ((b.length : Int) - (ah : Int))) = r := ⟨_, rfl⟩
  rw [hr] at HE
  go_enter Try.func15, Try.ntmps15
  go_wp2
  go_quiet (fail)
  clear hw1 hw2
  go_wp2
  go_ret
  rw [HE.out]
  exact ⟨rfl, Drawn0.step (Drawn0.refl _) _⟩
end Go.Proofs.Ytfcpjblogeofpac
