/- ExecMakes: the walk. -/
import Derived.Test.YtfcpjblogeofpacProg
import Derived.Test.YtfcpjblogeofpacVals
import Derived.Test.YtfcpjblogeofpacWLast
import Derived.Test.YtfcpjblogeofpacWMore
import Derived.RegionTactic
import Derived.ChangeAlike
import Derived.BigRegion
import Derived.WalkLawsBesides
import Derived.WalkSpells
import Derived.Deep.LoopGhost
import Derived.Deep.QuietTactic
import Derived.BigQuiet
import Derived.OwnWalk
import Derived.Test.YtfcpjblogeofpacParseA
import Derived.Test.YtfcpjblogeofpacBuildA
import Derived.Test.YtfcpjblogeofpacLaw14b
import Derived.OpenShut
namespace Go.Proofs.Ytfcpjblogeofpac
open Go.RowKit Go.Proofs.YtfcpjblogeofpacW.PrintWords Go.Proofs.YtfcpjblogeofpacW.PrintLast Go.Proofs.YtfcpjblogeofpacW.PrintMore Go.Proofs.Ytfcpjblogeofpac.Fr
set_option linter.unusedVariables false
set_option linter.unusedSimpArgs false
attribute [local go_sem] max2_int min2_int max_two min_two

open Pl
theorem limOf_pos {x : Int} (h : 0 ≤ x) : limOf x = x := by unfold limOf; first | (unfold mx; split <;> omega) | (split <;> omega) | omega
theorem lits_le2 (t : Bs) : ∀ (l : List Stp) (a : Nat), fits t.length l a → (litsOf t l a).length ≤ t.length - a
  | [], a, _ => by simp [litsOf]
  | s :: r, a, h => by
    obtain ⟨h1, h2, h3, h4⟩ := h
    have := lits_le2 t r _ h4
    simp only [litsOf, List.length_append, List.length_take, List.length_drop]
    omega
set_option maxRecDepth 100000 in
set_option maxHeartbeats 4000000 in
theorem makes_walk (D : ByteArray) (hD : D.size ≤ 140737488351232) (X : ByteArray) (hX : X.size ≤ 140737488351232) (lev : Int) (hlev : (Lit.int .i64 lev).wf = true) (w : World) :
    Calls Try.prog 5 #[.string D, .string X, .int .i64 lev] w fun e w' => e = .returned (.bool true) ∧ Below w.heap.size w w' := by
  clear hlev
  by_cases h1 : 200 < D.size
  · have h2 : (200 : Int) < (D.size : Int) := by omega
    go_enter Try.func5, Try.ntmps5
    go_wp2_with fail
    refine (awake_any w).mono ?_
    rintro e w1 ⟨rfl, hb1⟩
    go_wp2
    go_ret
    exact ⟨rfl, hb1⟩
  · have h2 : ¬ (200 : Int) < (D.size : Int) := by omega
    by_cases h3 : 200 < X.size
    · have h4 : (200 : Int) < (X.size : Int) := by omega
      go_enter Try.func5, Try.ntmps5
      go_wp2_with fail
      refine (awake_any w).mono ?_
      rintro e w1 ⟨rfl, hb1⟩
      go_wp2
      go_ret
      exact ⟨rfl, hb1⟩
    · have h4 : ¬ (200 : Int) < (X.size : Int) := by omega
      have hD3 : D.size ≤ 200 := by omega
      have hX3 : X.size ≤ 200 := by omega
      have HS := Aside0.mk (fun w => psteps_any D X (by omega) (by omega) lev w)
      have d3 : decide ((200 : Int) < (D.size : Int)) = false := decide_eq_false h2
      have d4 : decide ((200 : Int) < (X.size : Int)) = false := decide_eq_false h4
      go_enter Try.func5, Try.ntmps5
      go_wp2_with fail
      refine (awake_any w).mono ?_
      rintro e w1 ⟨rfl, hb1⟩
      have HB1 := Aside0.mk hb1
      clear hb1
      go_wp2_with fail
      refine (HS.out _).mono ?_
      rintro e w2 ⟨l, A, c, rfl, hc, hc2, hst, hb2, hrt, hps1, hlz, hll⟩
      clear hps1 hlz
      have HB2 := Aside0.mk (below_step HB1.out hb2)
      have hft := right_fits (all := D.data.toList ++ X.data.toList) (n := X.data.toList.length) (ah := D.size) (by rw [List.length_append, data_length]) l 0 hrt
      have hlc := litC_fits X.data.toList l 0 hft
      rw [List.drop_zero] at hlc
      have hle := lits_le2 X.data.toList l 0 hft
      rw [data_length] at hle
      have HPL : Aside0 (∀ w, Steps w A l → Calls Try.prog 13 #[.string X, .slice A l.length c] w fun e w' => e = .returned (.string (toS (litsOf X.data.toList l 0))) ∧ Below w.heap.size w w') := ⟨fun w h => by
        have := plits_any X A c l w (by omega) (by omega) h
        rwa [hlc] at this⟩
      have hts := toS_size (litsOf X.data.toList l 0)
      have hRM := fun lim => run_made D.data.toList X.data.toList lim l D.size (by rw [data_length]; omega) (by rw [data_length, data_length]; omega) hrt
      have hRN : ∀ lim, run D.size lim l D.data.toList (toS (litsOf X.data.toList l 0)).data.toList = if (X.size : Int) ≤ lim then (X.data.toList, 0) else ([], 5) := fun lim => by
        have := hRM lim
        rw [data_length, data_length, Nat.sub_self, List.take_append_of_le_length (by rw [data_length]; omega), List.take_of_length_le (by rw [data_length]; omega)] at this
        rw [toS_list]
        exact this
      obtain ⟨Y, hY⟩ : ∃ Y, toS (litsOf X.data.toList l 0) = Y := ⟨_, rfl⟩
      rw [hY] at hts HPL hRN
      have HRA : Aside0 (∀ w, Steps w A l → Calls Try.prog 7 #[.string D, .string Y, .slice A l.length c, .int .i64 X.size] w fun e w' => e = .returned (.tuple #[.string X, .int .i64 0]) ∧ Below w.heap.size w w') := ⟨fun w h => by
        have := run_any D Y A c l (X.size : Int) w (by omega) (by omega) (by omega) (by omega) h
        unfold RunPost at this
        rw [limOf_pos (by omega), hRN, if_pos (Int.le_refl _)] at this
        rw [toS_of] at this
        exact this⟩
      have HRB : Aside0 (X.size ≠ 0 → ∀ w, Steps w A l → Calls Try.prog 7 #[.string D, .string Y, .slice A l.length c, .int .i64 ((X.size : Int) - 1)] w fun e w' => e = .returned (.tuple #[.string ⟨#[]⟩, .int .i64 5]) ∧ Below w.heap.size w w') := ⟨fun h0 w h => by
        have := run_any D Y A c l ((X.size : Int) - 1) w (by omega) (by omega) (by omega) (by omega) h
        unfold RunPost at this
        rw [limOf_pos (by omega), hRN, if_neg (by omega)] at this
        exact this⟩
      have HRZ : Aside0 (∀ w, Steps w A l → ∃ s z, Calls Try.prog 7 #[.string D, .string Y, .slice A l.length c, .int .i64 ((X.size : Int) - 1)] w fun e w' => e = .returned (.tuple #[.string s, .int .i64 z]) ∧ Below w.heap.size w w') := ⟨fun w h => by
        have := run_any D Y A c l ((X.size : Int) - 1) w (by omega) (by omega) (by omega) (by omega) h
        exact ⟨_, _, this⟩⟩
      have HST := Aside0.mk hst
      obtain ⟨ln, hln⟩ : ∃ ln, l.length = ln := ⟨_, rfl⟩
      rw [hln] at HPL HRA HRB HRZ
      rw [hln]
      clear hst hb2 hrt hft hlc hY hts HS HB1 hle hc hll hRM hRN hln
      go_wp2_with fail
      refine (HPL.out w2 HST.out).mono ?_
      rintro e w3 ⟨rfl, hb3⟩
      have HST3 := Aside0.mk (HST.out.below hb3)
      have HB3 := Aside0.mk (below_step HB2.out hb3)
      clear hb3 HPL
      go_wp2_with fail
      refine (HRA.out w3 HST3.out).mono ?_
      rintro e w4 ⟨rfl, hb4⟩
      have HST4 := Aside0.mk (HST3.out.below hb4)
      have HB4 := Aside0.mk (below_step HB3.out hb4)
      clear hb4 HRA
      by_cases hz : X.size = 0
      · obtain ⟨s, z, hrz⟩ := HRZ.out w4 HST4.out
        have HRR := Aside0.mk hrz
        have hz1 : ((X.size : Int) == 0) = true := beq_iff_eq.2 (by omega)
        have HZ := Aside0.mk hz
        clear hrz hz HRB HRZ
        go_wp2_with fail
        refine HRR.out.mono ?_
        rintro e w5 ⟨rfl, hb5⟩
        go_wp2
        go_ret
        exact ⟨rfl, below_step HB4.out hb5⟩
      · have HRR := Aside0.mk (HRB.out hz w4 HST4.out)
        have hz1 : ((X.size : Int) == 0) = false := beq_eq_false_iff_ne.2 (by omega)
        clear hz HRB HRZ
        go_wp2_with fail
        refine HRR.out.mono ?_
        rintro e w5 ⟨rfl, hb5⟩
        go_wp2
        go_ret
        exact ⟨rfl, below_step HB4.out hb5⟩
end Go.Proofs.Ytfcpjblogeofpac
