/- RangerBack: the walk. -/
import Derived.Test.YtfijbhacobjjgaeProg
import Derived.Test.YtfijbhacobjjgaeVals
import Derived.Test.YtfijbhacobjjgaeWLast
import Derived.Test.YtfijbhacobjjgaeWMore
import Derived.RegionTactic
import Derived.ChangeAlike
import Derived.BigRegion
import Derived.WalkLawsBesides
import Derived.WalkSpells
import Derived.Deep.LoopGhost
import Derived.Deep.QuietTactic
import Derived.BigQuiet
import Derived.OwnWalk
import Derived.Test.YtfijbhacobjjgaeAwakeA
namespace Go.Proofs.Ytfijbhacobjjgae
open Go.RowKit Go.Proofs.YtfijbhacobjjgaeW.PrintWords Go.Proofs.YtfijbhacobjjgaeW.PrintLast Go.Proofs.YtfijbhacobjjgaeW.PrintMore Go.Proofs.Ytfijbhacobjjgae.Fr
set_option linter.unusedVariables false
set_option linter.unusedSimpArgs false
attribute [local go_sem] max2_int min2_int max_two min_two

open Pl
set_option maxRecDepth 100000 in
theorem back_walk (T : ByteArray) (hT : T.size ≤ 140737488351232) (n : Int) (hn : (Lit.int .i64 n).wf = true) (w : World) : Calls Try.prog 4 #[.string T, .int .i64 n] w fun e w' => e = .returned (.bool true) ∧ Below w.heap.size w w' := by
  have HAW := Aside0.mk awake_any
  clear hn
  by_cases h300 : 300 < T.size
  · have h1 : (300 : Int) < T.size := by omega
    go_enter Try.func4, Try.ntmps4
    go_wp2_with fail
    refine (HAW.out _).mono ?_
    rintro e w1 ⟨rfl, hb1⟩
    go_wp2
    go_ret
    exact ⟨rfl, hb1⟩
  have h1 : ¬ (300 : Int) < T.size := by omega
  by_cases h600 : 600 < n ∧ n ≤ 1048576
  · obtain ⟨h2, h3⟩ := h600
    go_enter Try.func4, Try.ntmps4
    go_wp2_with fail
    refine (HAW.out _).mono ?_
    rintro e w1 ⟨rfl, hb1⟩
    go_wp2
    go_ret
    exact ⟨rfl, hb1⟩
  have HE0 := fun w => enc_cd T (by omega) w
  have HE1 := fun w => back_any T (by omega) w
  have HE2 := fun w => refenc_cd T (by omega) w
  have HE3 := fun w => size_any T (by omega) w
  have HO0 := fun (h : n < 0 ∨ 1048576 < n) (w : World) => dec_out (cd T) n h w
  have hcs := (cd_size T).1
  have hDn := fun (m : Nat) (hm : m ≤ 600) w => dec_any (cd T) m (by omega) (by omega) w
  have hRn := fun (m : Nat) (hm : m ≤ 600) w => refdec_any (cd T) m (by omega) (by omega) w
  obtain ⟨c, hc⟩ : ∃ c, cd T = c := ⟨_, rfl⟩
  rw [hc] at HE0 HE1 HE2 HE3 HO0 hcs hDn hRn
  have HE0 := Aside0.mk HE0
  have HE1 := Aside0.mk HE1
  have HE2 := Aside0.mk HE2
  have HE3 := Aside0.mk HE3
  clear hc
  by_cases hout : n < 0 ∨ 1048576 < n
  · have HO := Aside0.mk (fun w => HO0 hout w)
    clear hDn hRn HO0 hcs
    have hd : (n < 0) ∨ (¬ n < 0 ∧ 600 < n ∧ 1048576 < n) := by omega
    clear hout h600
    rcases hd with h2 | ⟨h2, h3, h4⟩
    all_goals
      go_enter Try.func4, Try.ntmps4
      go_wp2_with fail
      refine (HAW.out _).mono ?_
      rintro e w1 ⟨rfl, hb1⟩
      go_wp2_with fail
      refine (HE0.out _).mono ?_
      rintro e w2 ⟨rfl, hb2⟩
      go_wp2_with fail
      refine (HE1.out _).mono ?_
      rintro e w3 ⟨rfl, hb3⟩
      have HB3 := Aside0.mk (below_step (below_step hb1 hb2) hb3)
      clear hb1 hb2 hb3
      go_wp2_with fail
      refine (HE2.out _).mono ?_
      rintro e w4 ⟨rfl, hb4⟩
      go_wp2_with fail
      refine (HE3.out _).mono ?_
      rintro e w5 ⟨rfl, hb5⟩
      have HB5 := Aside0.mk (below_step (below_step HB3.out hb4) hb5)
      clear hb4 hb5
      go_wp2_with fail
      refine (HO.out _).mono ?_
      rintro e w6 ⟨rfl, rfl⟩
      go_wp2
      go_ret
      exact ⟨rfl, HB5.out⟩
  · obtain ⟨m, rfl⟩ := Int.eq_ofNat_of_zero_le (show 0 ≤ n by omega)
    have hm : m ≤ 600 := by omega
    have hD := hDn m hm
    have hR := hRn m hm
    have h2 : ¬ (600 : Int) < (m : Int) := by omega
    have h3 : (0 : Int) ≤ (m : Int) := by omega
    clear hDn hRn HO0 hout h600 hcs
    obtain ⟨s, b, hsb⟩ : ∃ s b, ansV (ans (bz c) m) = .tuple #[.string s, .bool b] := by
      cases ans (bz c) m with
      | none => exact ⟨_, _, rfl⟩
      | some l => exact ⟨_, _, rfl⟩
    rw [hsb] at hD hR
    have HD := Aside0.mk hD
    have HR := Aside0.mk hR
    clear hsb hD hR
    go_enter Try.func4, Try.ntmps4
    go_wp2_with fail
    refine (HAW.out _).mono ?_
    rintro e w1 ⟨rfl, hb1⟩
    go_wp2_with fail
    refine (HE0.out _).mono ?_
    rintro e w2 ⟨rfl, hb2⟩
    go_wp2_with fail
    refine (HE1.out _).mono ?_
    rintro e w3 ⟨rfl, hb3⟩
    have HB3 := Aside0.mk (below_step (below_step hb1 hb2) hb3)
    clear hb1 hb2 hb3
    go_wp2_with fail
    refine (HE2.out _).mono ?_
    rintro e w4 ⟨rfl, hb4⟩
    go_wp2_with fail
    refine (HE3.out _).mono ?_
    rintro e w5 ⟨rfl, hb5⟩
    have HB5 := Aside0.mk (below_step (below_step HB3.out hb4) hb5)
    clear hb4 hb5
    go_wp2_with fail
    refine (HD.out _).mono ?_
    rintro e w6 ⟨rfl, hb6⟩
    go_wp2_with fail
    refine (HR.out _).mono ?_
    rintro e w7 ⟨rfl, hb7⟩
    have HB7 := Aside0.mk (below_step (below_step HB5.out hb6) hb7)
    clear hb6 hb7
    cases b
    all_goals
      go_wp2
      go_ret
      exact ⟨rfl, HB7.out⟩
end Go.Proofs.Ytfijbhacobjjgae
