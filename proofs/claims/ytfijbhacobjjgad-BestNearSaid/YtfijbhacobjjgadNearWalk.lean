/- BestNear: the walk. -/
import Derived.Test.YtfijbhacobjjgadProg
import Derived.Test.YtfijbhacobjjgadVals
import Derived.Test.YtfijbhacobjjgadWLast
import Derived.Test.YtfijbhacobjjgadWMore
import Derived.RegionTactic
import Derived.ChangeAlike
import Derived.BigRegion
import Derived.WalkLawsBesides
import Derived.WalkSpells
import Derived.Deep.LoopGhost
import Derived.Deep.QuietTactic
import Derived.BigQuiet
import Derived.OwnWalk
import Derived.Test.YtfijbhacobjjgadAwakeA
import Derived.OpenShut
namespace Go.Proofs.Ytfijbhacobjjgad
open Go.RowKit Go.Proofs.YtfijbhacobjjgadW.PrintWords Go.Proofs.YtfijbhacobjjgadW.PrintLast Go.Proofs.YtfijbhacobjjgadW.PrintMore Go.Proofs.Ytfijbhacobjjgad.Fr
set_option linter.unusedVariables false
set_option linter.unusedSimpArgs false
attribute [local go_sem] max2_int min2_int max_two min_two

open Pl
set_option maxRecDepth 100000 in
set_option maxHeartbeats 4000000 in
theorem near_walk (D : ByteArray) (hD : D.size ≤ 140737488351232) (X : ByteArray) (hX : X.size ≤ 140737488351232) (i : Int) (hi : (Lit.int .i64 i).wf = true) (w : World) :
    Calls Try.prog 4 #[.string D, .string X, .int .i64 i] w fun e w' => e = .returned (.bool true) ∧ Below w.heap.size w w' := by
  obtain ⟨hi0, hi1⟩ := bounds_i64 hi
  clear hi
  by_cases h1 : 100 < D.size
  · have h2 : (100 : Int) < (D.size : Int) := by omega
    go_enter Try.func4, Try.ntmps4
    go_wp2_with fail
    refine (awake_any w).mono ?_
    rintro e w1 ⟨rfl, hb1⟩
    go_wp2
    go_ret
    exact ⟨rfl, hb1⟩
  · have h2 : ¬ (100 : Int) < (D.size : Int) := by omega
    by_cases h3 : 100 < X.size
    · have h4 : (100 : Int) < (X.size : Int) := by omega
      go_enter Try.func4, Try.ntmps4
      go_wp2_with fail
      refine (awake_any w).mono ?_
      rintro e w1 ⟨rfl, hb1⟩
      go_wp2
      go_ret
      exact ⟨rfl, hb1⟩
    · have h4 : ¬ (100 : Int) < (X.size : Int) := by omega
      by_cases hin : 0 ≤ i ∧ i < (X.size : Int)
      · obtain ⟨hi2, hi3⟩ := hin
        obtain ⟨j, rfl⟩ : ∃ j : Nat, i = (j : Int) := ⟨i.toNat, by omega⟩
        have HN1 := fun w => bnear_any D X (by omega) (by omega) j (by omega) w
        have HN2 := fun w => rnear_any D X j (by omega) (by omega) (by omega) w
        obtain ⟨p, hp⟩ : ∃ p, nl (D ++ X) (D.size + j) (D.size + j) (nlen (so (D ++ X) (D.size + j)) (D.size + j)) = p := ⟨_, rfl⟩
        rw [hp] at HN1 HN2
        have HN1 := Aside0.mk HN1
        have HN2 := Aside0.mk HN2
        have d1 : decide ((j : Int) < 0) = false := decide_eq_false (by omega)
        have d2 : decide (X.size ≤ j) = false := decide_eq_false (by omega)
        have d3 : decide ((100 : Int) < (D.size : Int)) = false := decide_eq_false h2
        have d4 : decide ((100 : Int) < (X.size : Int)) = false := decide_eq_false h4
        clear hp
        go_enter Try.func4, Try.ntmps4
        go_wp2_with fail
        refine (awake_any w).mono ?_
        rintro e w1 ⟨rfl, hb1⟩
        go_wp2_with fail
        refine (HN1.out w1).mono ?_
        rintro e w4 ⟨v, rfl, hown, hb4⟩
        obtain ⟨A1, c1, rfl, hc1, _⟩ := own_nums hown
        have HP1 := Aside0.mk (own_rdk hown)
        have HB4 := Aside0.mk (below_step hb1 hb4)
        have hcap := own_capM hown
        clear hown hb4 hb1
        go_wp2_with fail
        refine (HN2.out w4).mono ?_
        rintro e w5 ⟨v, rfl, hown, hb5⟩
        obtain ⟨A2, c2, rfl, hc2, _⟩ := own_nums hown
        have HP2 := Aside0.mk (own_rdk hown)
        have HP3 := Aside0.mk (HP1.out.below hb5)
        have HB5 := Aside0.mk (below_step HB4.out hb5)
        obtain ⟨m, hm⟩ : ∃ m, p.length = m := ⟨_, rfl⟩
        rw [hm] at hc1 hc2
        have HM := Aside0.mk hm
        rw [hm]
        have hml : m ≤ 9223372036854775807 := by omega
        clear hown hb5 HP1 hm
        go_wp2
        go_loopg [46] m (fun gk x wr => ∃ k : Nat, Aside0 (k + gk = m) ∧ x = .int .i64 k ∧ Aside0 (Drawn0 w5 wr))
        case atStart => exact ⟨0, ⟨by omega⟩, rfl, ⟨Drawn0.refl _⟩⟩
        case round =>
          obtain ⟨k2, HK2, rfl, HD⟩ := hrel
          by_cases hlt : k2 < m
          · obtain ⟨a1, rfl, hx1⟩ := (HP3.out.drawn HD.out) k2 (by rw [HM.out]; exact hlt)
            obtain ⟨a2, rfl, hx2⟩ := (HP2.out.drawn HD.out) k2 (by rw [HM.out]; exact hlt)
            obtain ⟨x, hx⟩ : ∃ x, p.getD k2 0 = x := ⟨_, rfl⟩
            rw [hx] at hx1 hx2
            clear hx
            have hk0 : (0 : Int) ≤ (k2 : Int) := by omega
            have hk1 : (k2 : Int) < (m : Int) := by omega
            go_wp2
            go_quiet (fail)
            go_wp2
            go_roundg (gk - 1)
            case measure => have := HK2.out; omega
            case rel => exact ⟨k2 + 1, ⟨by have := HK2.out; omega⟩, by go_num, ⟨Drawn0.step HD.out _⟩⟩
          · have hk1 : ¬ (k2 : Int) < (m : Int) := by omega
            go_wp2
            go_ret
            exact ⟨rfl, drawn_below HB5.out HD.out⟩
      · have HO := Aside0.mk (fun w => bnear_out D X (by omega) (by omega) i (by omega) w)
        by_cases hneg : i < 0
        · go_enter Try.func4, Try.ntmps4
          go_wp2_with fail
          refine (awake_any w).mono ?_
          rintro e w1 ⟨rfl, hb1⟩
          go_wp2_with fail
          refine (HO.out _).mono ?_
          rintro e w2 ⟨rfl, rfl⟩
          go_wp2
          go_ret
          exact ⟨rfl, hb1⟩
        · have hge : (X.size : Int) ≤ i := by omega
          go_enter Try.func4, Try.ntmps4
          go_wp2_with fail
          refine (awake_any w).mono ?_
          rintro e w1 ⟨rfl, hb1⟩
          go_wp2_with fail
          refine (HO.out _).mono ?_
          rintro e w2 ⟨rfl, rfl⟩
          go_wp2
          go_ret
          exact ⟨rfl, hb1⟩
end Go.Proofs.Ytfijbhacobjjgad
