/- RangerAny: the walk. -/
import Derived.Test.YtfijbhacobjjgaeProg
import Derived.Test.YtfijbhacobjjgaeVals
import Derived.Test.YtfijbhacobjjgaeWLast
import Derived.Test.YtfijbhacobjjgaeWMore
import Derived.RegionTactic
import Derived.ChangeAlike
import Derived.BigRegion
import Derived.WalkLawsBesides
import Derived.WalkSpells
import Derived.Deep.LoopGhost
import Derived.Deep.QuietTactic
import Derived.BigQuiet
import Derived.OwnWalk
import Derived.Test.YtfijbhacobjjgaeAwakeA
namespace Go.Proofs.Ytfijbhacobjjgae
open Go.RowKit Go.Proofs.YtfijbhacobjjgaeW.PrintWords Go.Proofs.YtfijbhacobjjgaeW.PrintLast Go.Proofs.YtfijbhacobjjgaeW.PrintMore Go.Proofs.Ytfijbhacobjjgae.Fr
set_option linter.unusedVariables false
set_option linter.unusedSimpArgs false
attribute [local go_sem] max2_int min2_int max_two min_two

open Pl
set_option maxRecDepth 100000 in
theorem any_walk (T : ByteArray) (hT : T.size ≤ 140737488351232) (z : Int) (hz : (Lit.int .u8 z).wf = true) (w : World) : Calls Try.prog 3 #[.string T, .int .u8 z] w fun e w' => e = .returned (.bool true) ∧ Below w.heap.size w w' := by
  have hz2 : 0 ≤ z ∧ z < 256 := by
    simp [Lit.wf, IntKind.min, IntKind.max, IntKind.signed, IntKind.bits] at hz
    omega
  obtain ⟨n, rfl⟩ := Int.eq_ofNat_of_zero_le hz2.1
  have HAW := Aside0.mk awake_any
  have n0 : (0 : Int) ≤ (n : Int) := by omega
  have n1 : (n : Int) < 256 := hz2.2
  clear hz hz2
  by_cases h60 : 60 < T.size
  · have h1 : (60 : Int) < T.size := by omega
    go_enter Try.func3, Try.ntmps3
    go_wp2_with fail
    refine (HAW.out _).mono ?_
    rintro e w1 ⟨rfl, hb1⟩
    go_wp2
    go_ret
    exact ⟨rfl, hb1⟩
  have h1 : ¬ (60 : Int) < T.size := by omega
  by_cases h200 : 200 < n
  · have h2 : (200 : Int) < (n : Int) := by omega
    go_enter Try.func3, Try.ntmps3
    go_wp2_with fail
    refine (HAW.out _).mono ?_
    rintro e w1 ⟨rfl, hb1⟩
    go_wp2
    go_ret
    exact ⟨rfl, hb1⟩
  have h2 : ¬ (200 : Int) < (n : Int) := by omega
  have hD := fun w => dec_any T n (by omega) (by omega) w
  have hR := fun w => refdec_any T n (by omega) (by omega) w
  cases hA : ans (bz T) n with
  | none =>
    rw [hA] at hD hR
    have HD : Aside0 (∀ w : World, Calls Try.prog 7 #[.string T, .int .i64 n] w fun e w' => e = .returned (.tuple #[.string (⟨#[]⟩ : ByteArray), .bool false]) ∧ Below w.heap.size w w') := ⟨hD⟩
    have HR : Aside0 (∀ w : World, Calls Try.prog 8 #[.string T, .int .i64 n] w fun e w' => e = .returned (.tuple #[.string (⟨#[]⟩ : ByteArray), .bool false]) ∧ Below w.heap.size w w') := ⟨hR⟩
    clear hA hD hR h60 h200
    go_enter Try.func3, Try.ntmps3
    go_wp2_with fail
    refine (HAW.out _).mono ?_
    rintro e w1 ⟨rfl, hb1⟩
    go_wp2_with fail
    refine (HD.out _).mono ?_
    rintro e w2 ⟨rfl, hb2⟩
    go_wp2_with fail
    refine (HR.out _).mono ?_
    rintro e w3 ⟨rfl, hb3⟩
    have HB3 := Aside0.mk (below_step (below_step hb1 hb2) hb3)
    clear hb1 hb2 hb3
    go_wp2
    go_ret
    exact ⟨rfl, HB3.out⟩
  | some l =>
    rw [hA] at hD hR
    obtain ⟨e1, e2, e3⟩ := ans_some hA
    have hE := fun w => enc_cd (strOfNums (toI l)) (by rw [sn_size, toI_len]; omega) w
    have e4 : cd (strOfNums (toI l)) = T := by unfold cd; rw [nb_of l e3, e1]
    rw [e4] at hE
    obtain ⟨s, hs⟩ : ∃ s, strOfNums (toI l) = s := ⟨_, rfl⟩
    have e5 : ansV (some l) = .tuple #[.string s, .bool true] := by rw [← hs]; rfl
    rw [e5] at hD hR
    rw [hs] at hE
    have HD := Aside0.mk hD
    have HR := Aside0.mk hR
    have HE := Aside0.mk hE
    clear hA hD hR h60 h200 e1 e2 e3 e4 e5 hE hs
    go_enter Try.func3, Try.ntmps3
    go_wp2_with fail
    refine (HAW.out _).mono ?_
    rintro e w1 ⟨rfl, hb1⟩
    go_wp2_with fail
    refine (HD.out _).mono ?_
    rintro e w2 ⟨rfl, hb2⟩
    go_wp2_with fail
    refine (HR.out _).mono ?_
    rintro e w3 ⟨rfl, hb3⟩
    have HB3 := Aside0.mk (below_step (below_step hb1 hb2) hb3)
    clear hb1 hb2 hb3
    go_wp2_with fail
    refine (HE.out _).mono ?_
    rintro e w4 ⟨rfl, hb4⟩
    have HB4 := Aside0.mk (below_step HB3.out hb4)
    clear hb4
    go_wp2
    go_ret
    exact ⟨rfl, HB4.out⟩
end Go.Proofs.Ytfijbhacobjjgae
