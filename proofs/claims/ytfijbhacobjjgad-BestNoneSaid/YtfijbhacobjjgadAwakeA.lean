/- The check that all is awake; the least offsets behind a dictionary: the program's. -/
import Derived.Test.YtfijbhacobjjgadWEqStruct
import Derived.Test.YtfijbhacobjjgadProg
import Derived.Test.YtfijbhacobjjgadVals
import Derived.Test.YtfijbhacobjjgadWLast
import Derived.Test.YtfijbhacobjjgadWMore
import Derived.RegionTactic
import Derived.ChangeAlike
import Derived.BigRegion
import Derived.WalkLawsBesides
import Derived.WalkSpells
import Derived.Deep.LoopGhost
import Derived.Deep.QuietTactic
import Derived.BigQuiet
import Derived.OwnWalk
import Derived.Test.YtfijbhacobjjgadCostA
namespace Go.Proofs.Ytfijbhacobjjgad
open Go.RowKit Go.Proofs.YtfijbhacobjjgadW.PrintWords Go.Proofs.YtfijbhacobjjgadW.PrintLast Go.Proofs.YtfijbhacobjjgadW.PrintMore Go.Proofs.Ytfijbhacobjjgad.Fr
set_option linter.unusedVariables false
set_option linter.unusedSimpArgs false
attribute [local go_sem] max2_int min2_int max_two min_two

open Pl
theorem eqA35 (d : Nat) (w : World) (x0 y0 : Int) (x1 y1 : Int) (x2 y2 : Int) :
    (Op.equalIn (d + 2) 35 (.agg #[.int .i64 x0, .int .i64 x1, .int .i64 x2]) (.agg #[.int .i64 y0, .int .i64 y1, .int .i64 y2])).run Try.prog w = .ok (x0 == y0 && (x1 == y1 && (x2 == y2))) w := by
  refine eqA_of Try.underlying35 (by kernel_rfl) ?_
  refine eqf_cons (by rfl) (by go_simp; rfl) (by go_simp; rfl) (by go_simp) ?_
  refine eqf_cons (by rfl) (by go_simp; rfl) (by go_simp; rfl) (by go_simp) ?_
  exact eqf_last (by rfl) (by go_simp; rfl) (by go_simp; rfl) (by go_simp)
section
attribute [local go_sem high] eqA35
theorem run_eqS {ρ : Operand → Value} {o : Oper} {a b : Operand} {t : TypeId} (ho : o.op = .binOp .eql 35 a b t) {x0 x1 x2 y0 y1 y2 : Int} (ha : ρ a = .agg #[.int .i64 x0, .int .i64 x1, .int .i64 x2]) (hb : ρ b = .agg #[.int .i64 y0, .int .i64 y1, .int .i64 y2]) (w : World) :
    (execOp ρ o).run Try.prog w = .ok (.value (.bool (x0 == y0 && (x1 == y1 && (x2 == y2))))) w := by
  unfold execOp
  rw [ho]
  simp only [ha, hb]
  go_simp
theorem run_eqV {x0 x1 x2 y0 y1 y2 : Int} (w : World) : (binOp .eql 35 (.agg #[.int .i64 x0, .int .i64 x1, .int .i64 x2]) (.agg #[.int .i64 y0, .int .i64 y1, .int .i64 y2])).run Try.prog w = .ok (.bool (x0 == y0 && (x1 == y1 && (x2 == y2)))) w := by
  go_simp
end
def a10 : ByteArray := ⟨#[97, 97, 97, 97, 97, 97, 97, 97, 97, 97]⟩
theorem e0_size : (⟨#[]⟩ : ByteArray).size = 0 := rfl
theorem a10_size : a10.size = 10 := rfl
theorem bestS_a10 : bestS ⟨#[]⟩ a10 = [(1, 9, 1)] := by decide +kernel
theorem lst_a10 : lst ⟨#[]⟩ a10 = 28 := by decide +kernel
theorem cost_a10 : costI a10.data.toList [(1, 9, 1)] = 28 := by decide +kernel
set_option maxRecDepth 100000 in
set_option maxHeartbeats 4000000 in
theorem awake_any (w0 : World) : Calls Try.prog 6 #[] w0 fun e w' => e = .returned (.bool true) ∧ Below w0.heap.size w0 w' := by
  have HS := Aside0.mk (steps_any ⟨#[]⟩ a10 (by rw [e0_size]; decide) (by rw [a10_size]; decide) w0)
  rw [bestS_a10] at HS
  have HL : Aside0 (∀ w, Calls Try.prog 10 #[.string ⟨#[]⟩, .string a10] w fun e w' => e = .returned (.int .i64 28) ∧ Below w.heap.size w w') := ⟨fun w => by
    have := least_any ⟨#[]⟩ a10 (by rw [e0_size]; decide) (by rw [a10_size]; decide) w
    rwa [lst_a10] at this⟩
  have HC : Aside0 (∀ (A : Option Addr) (c : Nat) (w : World), Steps w A [(1, 9, 1)] → Calls Try.prog 11 #[.string a10, .slice A 1 c] w fun e w' => e = .returned (.int .i64 28) ∧ Below w.heap.size w w') := ⟨fun A c w h => by
    have := cost_any a10 A c [(1, 9, 1)] w (by rw [a10_size]; decide) (by decide) h (by intro s hs; simp at hs; subst hs; decide)
    rw [cost_a10] at this
    exact this⟩
  have heq : ∀ w : World, (binOp .eql 35 (.agg #[.int .i64 1, .int .i64 9, .int .i64 1]) (.agg #[.int .i64 1, .int .i64 9, .int .i64 1])).run Try.prog w = .ok (.bool true) w := fun w => run_eqV w
  go_enter Try.func6, Try.ntmps6
  go_wp2_with fail
  refine HS.out.mono ?_
  rintro e w1 ⟨A, c, rfl, hc, hc2, hst, hb1⟩
  obtain ⟨ad, rfl, h0, h1, h2⟩ := hst 0 (by decide)
  have HST := Aside0.mk hst
  rw [Nat.zero_mul] at h0 h1 h2
  simp only [List.getD_cons_zero, Nat.zero_add] at h0 h1 h2
  rw [show ad.add 0 = ad by simp [Addr.add]] at h0
  rw [cell_off _ (by decide)] at h1 h2
  have HB1 := Aside0.mk hb1
  clear hst hb1 HS
  go_wp2_with fail
  refine (HC.out _ _ _ HST.out).mono ?_
  rintro e w2 ⟨rfl, hb2⟩
  go_wp2_with fail
  refine (HL.out _).mono ?_
  rintro e w3 ⟨rfl, hb3⟩
  go_wp2
  go_ret
  exact ⟨rfl, below_step (below_step HB1.out hb2) hb3⟩
set_option maxRecDepth 100000 in
theorem bnear_out (D X : ByteArray) (hD : D.size ≤ 1000) (hX : X.size ≤ 1000) (i : Int) (h : i < 0 ∨ (X.size : Int) ≤ i) (w : World) : Calls Try.prog 12 #[.string D, .string X, .int .i64 i] w fun e w' => e = .returned (.slice none 0 0) ∧ w' = w := by
  by_cases h0 : i < 0
  · clear h
    go_enter Try.func12, Try.ntmps12
    go_wp2
    go_ret
    exact ⟨rfl, rfl⟩
  · have h1 : (X.size : Int) ≤ i := by omega
    clear h
    go_enter Try.func12, Try.ntmps12
    go_wp2
    go_ret
    exact ⟨rfl, rfl⟩
set_option maxRecDepth 100000 in
theorem bnear_any (D X : ByteArray) (hD : D.size ≤ 1000) (hX : X.size ≤ 1000) (i : Nat) (h : i < X.size) (w : World) : Calls Try.prog 12 #[.string D, .string X, .int .i64 i] w (NumsPost .i64 3 (nl (D ++ X) (D.size + i) (D.size + i) (nlen (so (D ++ X) (D.size + i)) (D.size + i))) w) := by
  have hTs : (D ++ X).size = D.size + X.size := ByteArray.size_append ..
  have HN := Aside0.mk (near_any (D ++ X) (D.size + i) (by omega) (by omega) w)
  have h0 : ¬ (i : Int) < 0 := by omega
  have h1 : ¬ (X.size : Int) ≤ (i : Int) := by omega
  have h2 : ¬ (2000 : Int) < (D.size : Int) + (X.size : Int) := by omega
  have d1 : decide ((i : Int) < 0) = false := decide_eq_false h0
  have d2 : decide (X.size ≤ i) = false := decide_eq_false (by omega)
  clear hTs
  go_enter Try.func12, Try.ntmps12
  go_wp2_with fail
  rw [show (D.size : Int) + (i : Int) = ((D.size + i : Nat) : Int) by omega]
  refine HN.out.mono ?_
  rintro e w1 ⟨v, rfl, hown, hb⟩
  go_wp2
  go_ret
  exact ⟨v, rfl, hown, hb⟩
end Go.Proofs.Ytfijbhacobjjgad
