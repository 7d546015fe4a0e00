/- The contract of best's Cost. -/
import Derived.Test.YtfijbhacobjjgadProg
import Derived.Test.YtfijbhacobjjgadVals
import Derived.Test.YtfijbhacobjjgadWLast
import Derived.Test.YtfijbhacobjjgadWMore
import Derived.RegionTactic
import Derived.ChangeAlike
import Derived.BigRegion
import Derived.WalkLawsBesides
import Derived.WalkSpells
import Derived.Deep.LoopGhost
import Derived.Deep.QuietTactic
import Derived.BigQuiet
import Derived.OwnWalk
import Derived.Test.YtfijbhacobjjgadLitsA
import Derived.Test.YtfijbhacobjjgadStepsA
namespace Go.Proofs.Ytfijbhacobjjgad
open Go.RowKit Go.Proofs.YtfijbhacobjjgadW.PrintWords Go.Proofs.YtfijbhacobjjgadW.PrintLast Go.Proofs.YtfijbhacobjjgadW.PrintMore Go.Proofs.Ytfijbhacobjjgad.Fr
set_option linter.unusedVariables false
set_option linter.unusedSimpArgs false
attribute [local go_sem] max2_int min2_int max_two min_two

open Pl
def sumC : List Stp → Int
  | [] => 0
  | s :: r => stI (if s.2.1 < 0 then 0 else s.2.1) s.2.2 + sumC r
theorem sumC_in : ∀ l : List Stp, 0 ≤ sumC l ∧ sumC l ≤ 80 * l.length
  | [] => by simp [sumC]
  | s :: r => by
    have h1 := stI_in (if s.2.1 < 0 then 0 else s.2.1) s.2.2
    have h2 := sumC_in r
    simp only [sumC, List.length_cons]
    omega
def costI (t : Bs) (l : List Stp) : Int := 8 * ((litC t l).length : Int) + sumC l
set_option maxRecDepth 100000 in
set_option maxHeartbeats 4000000 in
theorem cost_any (X : ByteArray) (A0 : Option Addr) (cap : Nat) (xs : List Stp) (w0 : World) (hX : X.size ≤ 1000000) (hxl : xs.length ≤ 1000000) (hS : Steps w0 A0 xs) (hW : ∀ s ∈ xs, s.2.1 ≤ 9223372036854775807) :
    Calls Try.prog 11 #[.string X, .slice A0 xs.length cap] w0 fun e w' => e = .returned (.int .i64 (costI X.data.toList xs)) ∧ Below w0.heap.size w0 w' := by
  have HS := Aside0.mk hS
  have HPL := Aside0.mk (plits_any X A0 cap xs w0 hX hxl hS)
  have hll := litC_le xs X.data.toList
  rw [data_length] at hll
  obtain ⟨q, hq⟩ : ∃ q, (litC X.data.toList xs).length = q := ⟨_, rfl⟩
  have HE : Aside0 (costI X.data.toList xs = 8 * (q : Int) + sumC xs) := ⟨by unfold costI; rw [hq]⟩
  rw [hq] at hll
  have hts := toS_size (litC X.data.toList xs)
  rw [hq] at hts
  obtain ⟨Y, hY⟩ : ∃ Y, toS (litC X.data.toList xs) = Y := ⟨_, rfl⟩
  rw [hY] at HPL hts
  have HW := Aside0.mk hW
  have hsn := sumC_in xs
  clear hS hW hq hY
  go_enter Try.func11, Try.ntmps11
  go_wp2_with fail
  refine HPL.out.mono ?_
  rintro e w1 ⟨rfl, hb1⟩
  have HB1 := Aside0.mk hb1
  clear hb1 HPL
  go_wp2
  clear hts
  go_loopg [5, 15] xs.length (fun gk x y wr => ∃ (k : Nat) (z : Int), Aside0 (k + gk = xs.length ∧ z + sumC (xs.drop k) = 8 * (q : Int) + sumC xs ∧ 0 ≤ z) ∧ x = .int .i64 z ∧ y = .int .i64 k ∧ Aside0 (Below w0.heap.size w0 wr))
  case atStart => exact ⟨0, 8 * (q : Int), ⟨by omega, rfl, by omega⟩, rfl, rfl, HB1⟩
  case round =>
    clear HB1
    obtain ⟨k, z, HK, rfl, rfl, HB⟩ := hrel
    by_cases hlt : k < xs.length
    · obtain ⟨ad, rfl, hc0, hc1, hc2⟩ := (HS.out.below HB.out) k hlt
      have hz := HK.out.2.1
      have hz0 := HK.out.2.2
      rw [drop_get xs k hlt] at hz
      have hmm := HW.out (xs.getD k (0, 0, 0)) (by rw [List.getD_eq_getElem?_getD, List.getElem?_eq_getElem hlt]; exact List.getElem_mem _)
      obtain ⟨s1, s2, s3, hs⟩ : ∃ s1 s2 s3, xs.getD k (0, 0, 0) = (s1, s2, s3) := ⟨_, _, _, rfl⟩
      rw [hs] at hc0 hc1 hc2 hz hmm
      simp only [sumC] at hz
      simp only at hc0 hc1 hc2 hmm
      rw [← add_add, cell_off _ (by decide)] at hc1 hc2
      obtain ⟨u2, hu2⟩ : ∃ u2, (if s2 < 0 then 0 else s2) = u2 := ⟨_, rfl⟩
      have hu3 : 0 ≤ u2 ∧ u2 ≤ 9223372036854775807 := by rw [← hu2]; split <;> omega
      rw [hu2] at hz
      have hst := stI_in u2 s3
      have hsr := sumC_in (xs.drop (k + 1))
      have HST := Aside0.mk (fun w => step_any u2 s3 (by omega) hu3.2 w)
      obtain ⟨x, hx⟩ : ∃ x, stI u2 s3 = x := ⟨_, rfl⟩
      rw [hx] at hz hst HST
      obtain ⟨r, hr⟩ : ∃ r, sumC (xs.drop (k + 1)) = r := ⟨_, rfl⟩
      rw [hr] at hz hsr
      have HR := Aside0.mk hr
      have hb : z + x ≤ 100000000 := by omega
      have HZ : Aside0 ((z + x) + r = 8 * (q : Int) + sumC xs) := ⟨by omega⟩
      obtain ⟨b1, b2⟩ := hst
      clear hs hx hr hz hsr hu3
      go_wp2_with fail
      refine (HST.out _).mono ?_
      rintro e w2 ⟨rfl, rfl⟩
      go_wp2
      go_roundg (gk - 1)
      case measure => have := HK.out.1; omega
      case rel => exact ⟨k + 1, z + x, ⟨by have := HK.out.1; omega, by rw [HR.out]; exact HZ.out, by omega⟩, rfl, by go_num, ⟨below_alloc HB.out _⟩⟩
    · have HZ : Aside0 (z = 8 * (q : Int) + sumC xs) := ⟨by
        have h := HK.out.2.1
        rw [List.drop_of_length_le (by omega)] at h
        simp only [sumC] at h
        omega⟩
      go_wp2
      go_ret
      rw [HE.out, ← HZ.out]
      exact ⟨rfl, HB.out⟩
end Go.Proofs.Ytfijbhacobjjgad
