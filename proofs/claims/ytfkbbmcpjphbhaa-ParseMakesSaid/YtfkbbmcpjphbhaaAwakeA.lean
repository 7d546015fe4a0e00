/- The check that all is awake. -/
import Derived.Test.YtfkbbmcpjphbhaaWEqStruct
import Derived.Test.YtfkbbmcpjphbhaaProg
import Derived.Test.YtfkbbmcpjphbhaaVals
import Derived.Test.YtfkbbmcpjphbhaaWLast
import Derived.Test.YtfkbbmcpjphbhaaWMore
import Derived.RegionTactic
import Derived.ChangeAlike
import Derived.BigRegion
import Derived.WalkLawsBesides
import Derived.WalkSpells
import Derived.Deep.LoopGhost
import Derived.Deep.QuietTactic
import Derived.BigQuiet
import Derived.OwnWalk
import Derived.Test.YtfkbbmcpjphbhaaParseA
import Derived.Test.YtfkbbmcpjphbhaaBuildA
namespace Go.Proofs.Ytfkbbmcpjphbhaa
open Go.RowKit Go.Proofs.YtfkbbmcpjphbhaaW.PrintWords Go.Proofs.YtfkbbmcpjphbhaaW.PrintLast Go.Proofs.YtfkbbmcpjphbhaaW.PrintMore Go.Proofs.Ytfkbbmcpjphbhaa.Fr
set_option linter.unusedVariables false
set_option linter.unusedSimpArgs false
attribute [local go_sem] max2_int min2_int max_two min_two

open Pl
theorem eqA27 (d : Nat) (w : World) (x0 y0 : Int) (x1 y1 : Int) (x2 y2 : Int) :
    (Op.equalIn (d + 2) 27 (.agg #[.int .i64 x0, .int .i64 x1, .int .i64 x2]) (.agg #[.int .i64 y0, .int .i64 y1, .int .i64 y2])).run Try.prog w = .ok (x0 == y0 && (x1 == y1 && (x2 == y2))) w := by
  refine eqA_of Try.underlying27 (by kernel_rfl) ?_
  refine eqf_cons (by rfl) (by go_simp; rfl) (by go_simp; rfl) (by go_simp) ?_
  refine eqf_cons (by rfl) (by go_simp; rfl) (by go_simp; rfl) (by go_simp) ?_
  exact eqf_last (by rfl) (by go_simp; rfl) (by go_simp; rfl) (by go_simp)
section
attribute [local go_sem high] eqA27
theorem run_eqV {x0 x1 x2 y0 y1 y2 : Int} (w : World) : (binOp .eql 27 (.agg #[.int .i64 x0, .int .i64 x1, .int .i64 x2]) (.agg #[.int .i64 y0, .int .i64 y1, .int .i64 y2])).run Try.prog w = .ok (.bool (x0 == y0 && (x1 == y1 && (x2 == y2)))) w := by
  go_simp
end
def abc3 : ByteArray := ⟨#[97, 98, 99, 97, 98, 99, 97, 98, 99]⟩
theorem e0_size : (⟨#[]⟩ : ByteArray).size = 0 := rfl
theorem abc3_size : abc3.size = 9 := rfl
theorem psF_abc : psF ⟨#[]⟩ abc3 1 = [(3, 6, 3)] := by decide +kernel
theorem lit_abc : toS (litC abc3.data.toList [(3, 6, 3)]) = ⟨#[97, 98, 99]⟩ := by decide +kernel
set_option maxRecDepth 100000 in
set_option maxHeartbeats 4000000 in
theorem awake_any (w0 : World) : Calls Try.prog 4 #[] w0 fun e w' => e = .returned (.bool true) ∧ Below w0.heap.size w0 w' := by
  have HS := Aside0.mk (psteps_any ⟨#[]⟩ abc3 (by rw [e0_size]; decide) (by rw [abc3_size]; decide) 1 w0)
  have HPF := Aside0.mk psF_abc
  have HC : Aside0 (∀ (A : Option Addr) (c : Nat) (w : World), Steps w A [(3, 6, 3)] → Calls Try.prog 8 #[.string abc3, .slice A 1 c] w fun e w' => e = .returned (.string ⟨#[97, 98, 99]⟩) ∧ Below w.heap.size w w') := ⟨fun A c w h => by
    have := plits_any abc3 A c [(3, 6, 3)] w (by rw [abc3_size]; decide) (by decide) h
    rw [lit_abc] at this
    exact this⟩
  have heq : ∀ w : World, (binOp .eql 27 (.agg #[.int .i64 3, .int .i64 6, .int .i64 3]) (.agg #[.int .i64 3, .int .i64 6, .int .i64 3])).run Try.prog w = .ok (.bool true) w := fun w => run_eqV w
  go_enter Try.func4, Try.ntmps4
  go_wp2_with fail
  refine HS.out.mono ?_
  rintro e w1 ⟨l, A, c, rfl, hc, hc2, hst, hb1, _, _, _, _, hl⟩
  rw [HPF.out] at hl
  subst hl
  obtain ⟨ad, rfl, h0, h1, h2⟩ := hst 0 (by decide)
  have HST := Aside0.mk hst
  rw [Nat.zero_mul] at h0 h1 h2
  simp only [List.getD_cons_zero, Nat.zero_add] at h0 h1 h2
  rw [show ad.add 0 = ad by simp [Addr.add]] at h0
  rw [cell_off _ (by decide)] at h1 h2
  have HB1 := Aside0.mk hb1
  clear hst hb1 HS
  go_wp2_with fail
  refine (HC.out _ _ _ HST.out).mono ?_
  rintro e w2 ⟨rfl, hb2⟩
  go_wp2
  go_ret
  exact ⟨rfl, below_step HB1.out hb2⟩
end Go.Proofs.Ytfkbbmcpjphbhaa
