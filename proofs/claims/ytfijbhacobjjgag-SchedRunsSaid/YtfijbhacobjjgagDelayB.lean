/- Delays: the program's. -/
import Derived.Test.YtfijbhacobjjgagDelayA
namespace Go.Proofs.Ytfijbhacobjjgag
open Go.RowKit Go.Proofs.YtfijbhacobjjgagW.PrintWords Go.Proofs.YtfijbhacobjjgagW.PrintLast Go.Proofs.YtfijbhacobjjgagW.PrintMore Go.Proofs.Ytfijbhacobjjgag.Fr
set_option linter.unusedVariables false
set_option linter.unusedSimpArgs false
attribute [local go_sem] max2_int min2_int max_two min_two

open Pl Hp
theorem delay_any (b n : Int) (w : World) : Calls Try.prog 20 #[.int .i64 b, .int .i64 n] w fun e w' => e = .returned (.int .i64 (min (brI b 1 1000 * 2 ^ (brI n 0 20).toNat) 100000)) ∧ w = w' := by
  obtain ⟨d, hd⟩ : ∃ d, brI b 1 1000 = d := ⟨_, rfl⟩
  have hd2 : 1 ≤ d ∧ d ≤ 1000 := by rw [← hd]; unfold brI; omega
  obtain ⟨K, hK⟩ : ∃ K : Nat, brI n 0 20 = K := ⟨(brI n 0 20).toNat, by unfold brI; omega⟩
  have hK2 : K ≤ 20 := by have : brI n 0 20 ≤ 20 := (by unfold brI; omega); omega
  have HE := Aside0.mk (And.intro hd hK)
  have hk0 : (0 : Int) ≤ K := by omega
  have hp1 : (2 : Int) ^ K ≤ 1048576 := by
    have h : 2 ^ K ≤ 2 ^ 20 := Nat.pow_le_pow_right (by decide) hK2
    have e : ((2 ^ K : Nat) : Int) = (2 : Int) ^ K := by rw [Int.natCast_pow]; rfl
    have h2 : ((2 ^ K : Nat) : Int) ≤ ((2 ^ 20 : Nat) : Int) := Int.ofNat_le.2 h
    rw [e] at h2
    exact h2
  have hp0 : (0 : Int) < 2 ^ K := Int.pow_pos (by decide)
  have hb0 : 0 ≤ d * 2 ^ K := Int.mul_nonneg (by omega) (by omega)
  have hb1 : d * 2 ^ K ≤ 1000 * 1048576 := Int.mul_le_mul (by omega) hp1 (by omega) (by decide)
  obtain ⟨P, hP⟩ : ∃ P, d * 2 ^ K = P := ⟨_, rfl⟩
  have hw : wrap64 (d * 2 ^ K) = P := by rw [hP] at hb0 hb1 ⊢; unfold wrap64; omega
  rw [hd, hK, Int.toNat_natCast, hP]
  clear hd hK hd2 hp0 hp1 hb0 hb1 hP
  go_enter Try.func20, Try.ntmps20
  go_wp2_with fail
  refine (brought_any b 1 1000 w).mono ?_
  rintro e w1 ⟨rfl, rfl⟩
  rw [HE.out.1]
  go_wp2_with fail
  refine (brought_any n 0 20 w).mono ?_
  rintro e w1 ⟨rfl, rfl⟩
  rw [HE.out.2]
  go_wp2
  all_goals
    go_ret
    have key : ∀ r, r = min P 100000 → Ending.returned (.int .i64 r) = Ending.returned (.int .i64 (min P 100000)) := by rintro _ rfl; rfl
    exact ⟨key _ (by omega), rfl⟩
end Go.Proofs.Ytfijbhacobjjgag
