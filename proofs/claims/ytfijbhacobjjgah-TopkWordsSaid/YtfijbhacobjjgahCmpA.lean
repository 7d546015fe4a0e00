/- Comparing numbers and texts; the first that is not zero. -/
import Derived.Test.YtfijbhacobjjgahProg
import Derived.Test.YtfijbhacobjjgahVals
import Derived.Test.YtfijbhacobjjgahWLast
import Derived.Test.YtfijbhacobjjgahWMore
import Derived.RegionTactic
import Derived.ChangeAlike
import Derived.BigRegion
import Derived.WalkLawsBesides
import Derived.WalkSpells
import Derived.Deep.LoopGhost
import Derived.Deep.QuietTactic
import Derived.BigQuiet
import Derived.OwnWalk
import Derived.Test.YtfijbhacobjjgahNums
import Derived.Test.YtfijbhacobjjgahLaw49
import Derived.Test.YtfijbhacobjjgahSteadyT
namespace Go.Proofs.Ytfijbhacobjjgah
open Go.RowKit Go.Proofs.YtfijbhacobjjgahW.PrintWords Go.Proofs.YtfijbhacobjjgahW.PrintLast Go.Proofs.YtfijbhacobjjgahW.PrintMore Go.Proofs.Ytfijbhacobjjgah.Fr
set_option linter.unusedVariables false
set_option linter.unusedSimpArgs false
attribute [local go_sem] max2_int min2_int max_two min_two
theorem nan_any (a : Int) (w : World) : Calls Try.prog 48 #[.int .i64 a] w fun e w' => e = .returned (.bool false) ∧ w = w' := by
  go_enter Try.func48, Try.ntmps48
  go_wp2
  go_ret
  exact ⟨rfl, rfl⟩
def cmpI (a b : Int) : Int := if a < b then -1 else if b < a then 1 else 0
theorem cmp_any (a b : Int) (w : World) : Calls Try.prog 46 #[.int .i64 a, .int .i64 b] w fun e w' => e = .returned (.int .i64 (cmpI a b)) ∧ w = w' := by
  have E : Aside0 (cmpI a b = if a < b then -1 else if b < a then 1 else 0) := ⟨rfl⟩
  rcases Int.lt_trichotomy a b with h | h | h
  · have E : Aside0 (cmpI a b = -1) := ⟨by unfold cmpI; rw [if_pos h]⟩
    go_enter Try.func46, Try.ntmps46
    go_wp2_with ((go_at_call 48; refine (nan_any _ _).mono ?_; rintro e w1 ⟨rfl, rfl⟩; skip))
    go_ret
    rw [E.out]
    exact ⟨rfl, rfl⟩
  · have E : Aside0 (cmpI a b = 0) := ⟨by unfold cmpI; rw [if_neg (by omega), if_neg (by omega)]⟩
    have h1 : ¬ a < b := by omega
    have h2 : ¬ b < a := by omega
    clear h
    go_enter Try.func46, Try.ntmps46
    go_wp2_with ((go_at_call 48; refine (nan_any _ _).mono ?_; rintro e w1 ⟨rfl, rfl⟩; skip))
    go_ret
    rw [E.out]
    exact ⟨rfl, rfl⟩
  · have E : Aside0 (cmpI a b = 1) := ⟨by unfold cmpI; rw [if_neg (by omega), if_pos h]⟩
    have h1 : ¬ a < b := by omega
    go_enter Try.func46, Try.ntmps46
    go_wp2_with ((go_at_call 48; refine (nan_any _ _).mono ?_; rintro e w1 ⟨rfl, rfl⟩; skip))
    go_ret
    rw [E.out]
    exact ⟨rfl, rfl⟩
def orI (x y : Int) : Int := if x = 0 then y else x
theorem or_two (x y : Int) (g : Nat) (w : World) (h0 : w.cell? ⟨g, 0, none⟩ = some (.int .i64 x)) (h1 : w.cell? ⟨g, 1, none⟩ = some (.int .i64 y)) : Calls Try.prog 45 #[.slice (some ⟨g, 0, none⟩) 2 2] w fun e w' => e = .returned (.int .i64 (orI x y)) ∧ w = w' := by
  go_enter Try.func45, Try.ntmps45
  go_wp2_with fail
  go_loopg [8] 2 (fun d x8 wr => ∃ (i : Nat), Aside0 (i + d = 2) ∧ x8 = .int .i64 i ∧ Aside0 ((1 ≤ i → x = 0) ∧ (2 ≤ i → y = 0)) ∧ wr = w)
  case atStart => exact ⟨0, ⟨by omega⟩, rfl, ⟨by omega, by omega⟩, rfl⟩
  case round =>
    obtain ⟨i, HI, rfl, HX, rfl⟩ := hrel
    rcases (by have := HI.out; omega : i = 0 ∨ i = 1 ∨ i = 2) with rfl | rfl | rfl
    · by_cases hx : x = 0
      · have hq : (x == 0) = true := by simpa using hx
        have HE := Aside0.mk hx
        clear hx
        go_wp2
        go_roundg (gk - 1)
        case measure => have := HI.out; omega
        case rel => exact ⟨1, ⟨by have := HI.out; omega⟩, by go_num, ⟨fun _ => HE.out, fun h => by omega⟩, rfl⟩
      · have hq : (x == 0) = false := by simpa using hx
        have E : Aside0 (orI x y = x) := ⟨by unfold orI; rw [if_neg hx]⟩
        clear hx
        go_wp2
        go_ret
        rw [E.out]
        exact ⟨rfl, rfl⟩
    · by_cases hy : y = 0
      · have hq : (y == 0) = true := by simpa using hy
        have HE := Aside0.mk hy
        clear hy
        go_wp2
        go_roundg (gk - 1)
        case measure => have := HI.out; omega
        case rel => exact ⟨2, ⟨by have := HI.out; omega⟩, by go_num, ⟨fun _ => HX.out.1 (by omega), fun _ => HE.out⟩, rfl⟩
      · have hq : (y == 0) = false := by simpa using hy
        have E : Aside0 (orI x y = y) := ⟨by unfold orI; rw [if_pos (HX.out.1 (by omega))]⟩
        clear hy
        go_wp2
        go_ret
        rw [E.out]
        exact ⟨rfl, rfl⟩
    · have E : Aside0 (orI x y = 0) := ⟨by unfold orI; rw [if_pos (HX.out.1 (by omega))]; exact HX.out.2 (by omega)⟩
      go_wp2
      go_ret
      rw [E.out]
      exact ⟨rfl, rfl⟩
open Pl
theorem nans_any (a : ByteArray) (w : World) : Calls Try.prog 49 #[.string a] w fun e w' => e = .returned (.bool false) ∧ w = w' := by
  go_enter Try.func49, Try.ntmps49
  go_wp2
  go_ret
  exact ⟨rfl, rfl⟩
def cmpS (a b : ByteArray) : Int := if bl a.toList b.toList then -1 else if bl b.toList a.toList then 1 else 0
theorem cmps_any (a b : ByteArray) (w : World) : Calls Try.prog 47 #[.string a, .string b] w fun e w' => e = .returned (.int .i64 (cmpS a b)) ∧ w = w' := by
  rcases bl_tot a.toList b.toList with h | h | h
  · have E : Aside0 (cmpS a b = -1) := ⟨by unfold cmpS; rw [if_pos h]⟩
    have h1 : Go.Op.bytesLess a.toList b.toList = true := h
    clear h
    go_enter Try.func47, Try.ntmps47
    go_wp2_with ((go_at_call 49; refine (nans_any _ _).mono ?_; rintro e w1 ⟨rfl, rfl⟩; skip))
    go_ret
    rw [E.out]
    exact ⟨rfl, rfl⟩
  · have E : Aside0 (cmpS a b = 0) := ⟨by unfold cmpS; rw [h, bl_irr]; rfl⟩
    have h1 : Go.Op.bytesLess a.toList b.toList = false := by rw [h]; exact bl_irr _
    have h2 : (a.toList == b.toList) = true := by rw [h]; simp
    clear h
    go_enter Try.func47, Try.ntmps47
    go_wp2_with ((go_at_call 49; refine (nans_any _ _).mono ?_; rintro e w1 ⟨rfl, rfl⟩; skip))
    go_ret
    rw [E.out]
    exact ⟨rfl, rfl⟩
  · have h1 : Go.Op.bytesLess a.toList b.toList = false := bl_asym _ _ h
    have E : Aside0 (cmpS a b = 1) := ⟨by unfold cmpS; rw [if_neg (by rw [show bl a.toList b.toList = false from h1]; decide), if_pos h]⟩
    have h2 : (a.toList == b.toList) = false := beq_eq_false_iff_ne.2 (fun e => by rw [e, bl_irr] at h; cases h)
    clear h
    go_enter Try.func47, Try.ntmps47
    go_wp2_with ((go_at_call 49; refine (nans_any _ _).mono ?_; rintro e w1 ⟨rfl, rfl⟩; skip))
    go_ret
    rw [E.out]
    exact ⟨rfl, rfl⟩
end Go.Proofs.Ytfijbhacobjjgah
