/- Taken over from chapter 38's text HalfA. -/
import Derived.Test.YtfijbhacobjjgafProg
import Derived.Test.YtfijbhacobjjgafVals
import Derived.Test.YtfijbhacobjjgafWLast
import Derived.Test.YtfijbhacobjjgafWMore
import Derived.RegionTactic
import Derived.ChangeAlike
import Derived.BigRegion
import Derived.WalkLawsBesides
import Derived.WalkSpells
import Derived.Deep.LoopGhost
import Derived.Deep.QuietTactic
import Derived.BigQuiet
import Derived.OwnWalk
import Derived.Test.YtfijbhacobjjgafWriterA
import Derived.StillTailTactics
namespace Go.Proofs.Ytfijbhacobjjgaf
open Go.RowKit Go.Proofs.YtfijbhacobjjgafW.PrintWords Go.Proofs.YtfijbhacobjjgafW.PrintLast Go.Proofs.YtfijbhacobjjgafW.PrintMore Go.Proofs.Ytfijbhacobjjgaf.Fr
set_option linter.unusedVariables false
set_option linter.unusedSimpArgs false
attribute [local go_sem] max2_int min2_int max_two min_two
open Pl
theorem bitLen_half (n : Nat) (h : 2 ≤ n) (h2 : n ≤ 1099511627776) : 1 ≤ Lib.bitLen (n - 1) ∧ Lib.bitLen (n - 1) ≤ 40 ∧ half n = 2 ^ (Lib.bitLen (n - 1) - 1) := by
  have h1 := Nat.log2_self_le (n := n - 1) (by omega)
  have h3 := Nat.lt_log2_self (n := n - 1)
  have e : Lib.bitLen (n - 1) = Nat.log2 (n - 1) + 1 := by
    rw [Lib.bitLen_shift (Nat.log2 (n - 1)) (n - 1) h1 (by omega)]
    have : (n - 1) / 2 ^ Nat.log2 (n - 1) = 1 := by
      have hp : 0 < 2 ^ Nat.log2 (n - 1) := Nat.two_pow_pos _
      rw [Nat.pow_succ] at h3
      exact Nat.div_eq_of_lt_le (by omega) (by omega)
    rw [this]
    rfl
  have hl : Nat.log2 (n - 1) < 40 := by
    by_cases hc : Nat.log2 (n - 1) < 40
    · exact hc
    · have : 2 ^ 40 ≤ 2 ^ Nat.log2 (n - 1) := Nat.pow_le_pow_right (by omega) (by omega)
      omega
  refine ⟨by omega, by omega, ?_⟩
  rw [e]
  rfl
theorem half_any (n : Nat) (h : 2 ≤ n) (h2 : n ≤ 1099511627776) (w : World) : Calls Try.prog 23 #[.int .i64 n] w fun e w' => e = .returned (.int .i64 (half n)) ∧ w' = w := by
  obtain ⟨q1, q2, q3⟩ := bitLen_half n h h2
  have HQ := Aside0.mk q3
  have hn : (n : Int) ≤ 1099511627776 := by omega
  have hn2 : (2 : Int) ≤ n := by omega
  have hw : IntKind.u64.wrap ((n : Int) - 1) = (n : Int) - 1 := w64_id (by omega) (by omega)
  have ht : ((n : Int) - 1).toNat = n - 1 := by omega
  clear q3
  go_enter Try.func23, Try.ntmps23
  go_wp2_with fail
  refine (Go.Proofs.Try.bits_Len ((n : Int) - 1) w (by omega) (by omega)).mono ?_
  rintro e w1 ⟨rfl, rfl⟩
  rw [ht]
  obtain ⟨m, hm⟩ : ∃ m, Lib.bitLen (n - 1) - 1 = m := ⟨_, rfl⟩
  have hb : Lib.bitLen (n - 1) = m + 1 := by omega
  rw [hb]
  rw [hb] at q2
  rw [hm] at HQ
  clear hb hm q1
  go_wp2
  go_ret
  have hp : (2 : Int) ^ m = ((2 ^ m : Nat) : Int) := by simp
  have hle : 2 ^ m ≤ 2 ^ 40 := Nat.pow_le_pow_right (by omega) (by omega)
  have hw2 : wrap64 ((2 : Int) ^ m) = ((half n : Nat) : Int) := by
    rw [HQ.out, hp]
    generalize 2 ^ m = z at hle
    unfold wrap64
    omega
  exact ⟨by rw [← hw2]; rfl, rfl⟩
theorem refHalf_any (n : Nat) (h : 2 ≤ n) (h2 : n ≤ 1099511627776) (w : World) : Calls Try.prog 15 #[.int .i64 n] w fun e w' => e = .returned (.int .i64 (half n)) ∧ w' = w := by
  have hn : (n : Int) ≤ 1099511627776 := by omega
  have hn2 : (2 : Int) ≤ n := by omega
  go_enter Try.func15, Try.ntmps15
  go_wp2
  go_loopg [3] 64 (fun gk x wr => ∃ (j : Nat) (p : Nat), Aside0 (j + gk = 64 ∧ p = 2 ^ j) ∧ x = .int .i64 p ∧ Aside0 (p < n ∧ 1 ≤ p) ∧ wr = w)
  case atStart => exact ⟨0, 1, ⟨by omega, rfl⟩, rfl, ⟨by omega, by omega⟩, rfl⟩
  case round =>
    obtain ⟨j, p, HK, rfl, HP, rfl⟩ := hrel
    have hp := HP.out.1
    have hp1 := HP.out.2
    by_cases hlt : p + p < n
    · have hl : (p : Int) + (p : Int) < (n : Int) := by omega
      go_wp2
      go_roundg (gk - 1)
      case measure =>
        have hj : j < 40 := by
          have h1 := HK.out.2
          by_cases hc : j < 40
          · exact hc
          · have : 2 ^ 40 ≤ 2 ^ j := Nat.pow_le_pow_right (by omega) (by omega)
            omega
        have := HK.out.1
        omega
      case rel =>
        have hj : j < 40 := by
          have h1 := HK.out.2
          by_cases hc : j < 40
          · exact hc
          · have : 2 ^ 40 ≤ 2 ^ j := Nat.pow_le_pow_right (by omega) (by omega)
            omega
        exact ⟨j + 1, p + p, ⟨by have := HK.out.1; omega, by rw [Nat.pow_succ, ← HK.out.2]; omega⟩, by go_num, ⟨hlt, by omega⟩, rfl⟩
    · have hl : ¬ (p : Int) + (p : Int) < (n : Int) := by omega
      have hh : half n = p := by
        rw [HK.out.2]
        exact half_one h (by rw [← HK.out.2]; exact hp) (by rw [← HK.out.2]; omega)
      have HH := Aside0.mk hh
      clear hh
      go_wp2
      go_ret
      rw [HH.out]
      exact ⟨rfl, rfl⟩
end Go.Proofs.Ytfijbhacobjjgaf
