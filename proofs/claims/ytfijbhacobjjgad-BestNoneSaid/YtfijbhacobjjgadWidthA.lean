/- Widths of numbers, what a match costs: program and document. -/
import Derived.Test.YtfijbhacobjjgadProg
import Derived.Test.YtfijbhacobjjgadVals
import Derived.Test.YtfijbhacobjjgadWLast
import Derived.Test.YtfijbhacobjjgadWMore
import Derived.RegionTactic
import Derived.ChangeAlike
import Derived.BigRegion
import Derived.WalkLawsBesides
import Derived.WalkSpells
import Derived.Deep.LoopGhost
import Derived.Deep.QuietTactic
import Derived.BigQuiet
import Derived.OwnWalk
import Derived.Test.YtfijbhacobjjgadShelf
import Derived.Test.YtfijbhacobjjgadSameA
namespace Go.Proofs.Ytfijbhacobjjgad
open Go.RowKit Go.Proofs.YtfijbhacobjjgadW.PrintWords Go.Proofs.YtfijbhacobjjgadW.PrintLast Go.Proofs.YtfijbhacobjjgadW.PrintMore Go.Proofs.Ytfijbhacobjjgad.Fr
set_option linter.unusedVariables false
set_option linter.unusedSimpArgs false
attribute [local go_sem] max2_int min2_int max_two min_two

def wd (n : Int) : Int := if n < 0 then 0 else if 2147483648 < n then 32 else (Lib.bitLen n.toNat : Int)
theorem bl_mono : ∀ f x y : Nat, x ≤ y → Lib.bitLenAux f x ≤ Lib.bitLenAux f y
  | 0, _, _, _ => Nat.le_refl _
  | f + 1, x, y, h => by
    simp only [Lib.bitLenAux]
    by_cases h0 : x = 0
    · rw [if_pos h0]; omega
    · rw [if_neg h0, if_neg (by omega)]
      have := bl_mono f (x / 2) (y / 2) (by omega)
      omega
theorem wd_mono {a b : Int} (h : a ≤ b) : wd a ≤ wd b := by
  unfold wd
  have hb : ∀ x : Nat, x ≤ 2147483648 → Lib.bitLen x ≤ 32 := fun x hx => Lib.bitLen_le x 32 (by decide) (by omega)
  have hm := bl_mono 64 a.toNat b.toNat (by omega)
  change Lib.bitLen a.toNat ≤ Lib.bitLen b.toNat at hm
  have h1 := hb a.toNat
  have h2 := hb b.toNat
  split <;> split <;> (try split) <;> (try split) <;> omega
theorem wd_in (n : Int) : 0 ≤ wd n ∧ wd n ≤ 32 := by
  unfold wd
  have hb : n ≤ 2147483648 → Lib.bitLen n.toNat ≤ 32 := fun h => Lib.bitLen_le n.toNat 32 (by decide) (by omega)
  split
  · omega
  · split
    · omega
    · have := hb (by omega); omega
theorem w32_id {x : Int} (h0 : 0 ≤ x) (h : x < 4294967296) : IntKind.u32.wrap x = x := by
  rw [show IntKind.u32.wrap x = x % 4294967296 by simp [IntKind.wrap, IntKind.bits, IntKind.signed]]
  omega
theorem bwidth_any (x : Int) (h0 : 0 ≤ x) (h1 : x ≤ 4294967295) (w : World) : Calls Try.prog 40 #[.int .u32 x] w fun e w' => e = .returned (.int .i64 (Lib.bitLen x.toNat)) ∧ w' = w := by
  go_enter Try.func40, Try.ntmps40
  go_wp2_with fail
  refine (Try.bits_Len32 x w h0 h1).mono ?_
  rintro e w1 ⟨rfl, rfl⟩
  go_wp2
  go_ret
  exact ⟨rfl, rfl⟩
theorem width_any (n : Int) (w : World) : Calls Try.prog 34 #[.int .i64 n] w fun e w' => e = .returned (.int .i64 (wd n)) ∧ w' = w := by
  by_cases h0 : n < 0
  · have E : Aside0 (wd n = 0) := ⟨by unfold wd; rw [if_pos h0]⟩
    have hx : (if n < 0 then (0 : Int) else n) = 0 := if_pos h0
    go_enter Try.func34, Try.ntmps34
    go_wp2_with fail
    refine (bwidth_any 0 (by omega) (by omega) w).mono ?_
    rintro e w1 ⟨rfl, rfl⟩
    go_wp2
    go_ret
    rw [E.out]
    exact ⟨rfl, rfl⟩
  · by_cases h1 : 2147483648 < n
    · have E : Aside0 (wd n = 32) := ⟨by unfold wd; rw [if_neg h0, if_pos h1]⟩
      go_enter Try.func34, Try.ntmps34
      go_wp2_with fail
      refine (bwidth_any 2147483648 (by omega) (by omega) w).mono ?_
      rintro e w1 ⟨rfl, rfl⟩
      go_wp2
      go_ret
      rw [E.out]
      exact ⟨rfl, rfl⟩
    · have E : Aside0 (wd n = (Lib.bitLen n.toNat : Int)) := ⟨by unfold wd; rw [if_neg h0, if_neg h1]⟩
      have hw := w32_id (x := n) (by omega) (by omega)
      have h2 : n ≤ 2147483648 := by omega
      have h3 : 0 ≤ n := by omega
      go_enter Try.func34, Try.ntmps34
      go_wp2_with fail
      refine (bwidth_any n (by omega) (by omega) w).mono ?_
      rintro e w1 ⟨rfl, rfl⟩
      go_wp2
      go_ret
      rw [E.out]
      exact ⟨rfl, rfl⟩
theorem rbwidth_any (x : Nat) (h1 : x ≤ 4294967295) (w : World) : Calls Try.prog 36 #[.int .u32 x] w fun e w' => e = .returned (.int .i64 (Lib.bitLen x)) ∧ w' = w := by
  go_enter Try.func36, Try.ntmps36
  go_wp2
  go_loopg [0, 3] x (fun gk v n wr => ∃ (y k : Nat), Aside0 (y = gk ∧ Lib.bitLen x = k + Lib.bitLen y) ∧ v = .int .u32 y ∧ n = .int .i64 k ∧ Aside0 (k + y ≤ x + 64 ∧ y ≤ x ∧ k ≤ 64) ∧ wr = w)
  case atStart => exact ⟨x, 0, ⟨rfl, by omega⟩, rfl, rfl, ⟨by omega, by omega, by omega⟩, rfl⟩
  case round =>
    obtain ⟨y, k, HK, rfl, rfl, HB, rfl⟩ := hrel
    have hy := HB.out.2.1
    have hk := HB.out.2.2
    by_cases hlt : 0 < y
    · have hl : (0 : Int) < (y : Int) := by omega
      have hb := Lib.bitLen_half y (by omega) (by omega)
      have hs := Lib.bitLen_le x 32 (by decide) (by omega)
      have HH : Aside0 (Lib.bitLen x = (k + 1) + Lib.bitLen (y / 2)) := ⟨by have := HK.out.2; omega⟩
      have hk2 : k + 1 ≤ 64 := by have := HK.out.2; omega
      clear hb hs
      go_wp2
      go_roundg (y / 2)
      case measure => have := HK.out.1; omega
      case rel => exact ⟨y / 2, k + 1, ⟨rfl, HH.out⟩, by go_num, by go_num, ⟨by omega, by omega, hk2⟩, rfl⟩
    · have hE : Lib.bitLen x = k := by
        have h0 : y = 0 := by omega
        have := HK.out.2
        rw [h0] at this
        rw [this]
        rfl
      have HE := Aside0.mk hE
      have hl : ¬ (0 : Int) < (y : Int) := by omega
      clear hE
      go_wp2
      go_ret
      rw [HE.out]
      exact ⟨rfl, rfl⟩
theorem rwidth_any (n : Int) (w : World) : Calls Try.prog 24 #[.int .i64 n] w fun e w' => e = .returned (.int .i64 (wd n)) ∧ w' = w := by
  by_cases h0 : n < 0
  · have E : Aside0 (wd n = 0) := ⟨by unfold wd; rw [if_pos h0]⟩
    go_enter Try.func24, Try.ntmps24
    go_wp2
    go_ret
    rw [E.out]
    exact ⟨rfl, rfl⟩
  · by_cases h1 : 2147483648 < n
    · have E : Aside0 (wd n = 32) := ⟨by unfold wd; rw [if_neg h0, if_pos h1]⟩
      go_enter Try.func24, Try.ntmps24
      go_wp2
      go_ret
      rw [E.out]
      exact ⟨rfl, rfl⟩
    · obtain ⟨m, rfl⟩ : ∃ m : Nat, n = (m : Int) := ⟨n.toNat, by omega⟩
      have E : Aside0 (wd (m : Int) = (Lib.bitLen m : Int)) := ⟨by unfold wd; rw [if_neg h0, if_neg h1]; rfl⟩
      have hw := w32_id (x := (m : Int)) (by omega) (by omega)
      have h2 : (m : Int) ≤ 2147483648 := by omega
      go_enter Try.func24, Try.ntmps24
      go_wp2_with fail
      refine (rbwidth_any m (by omega) w).mono ?_
      rintro e w1 ⟨rfl, rfl⟩
      go_wp2
      go_ret
      rw [E.out]
      exact ⟨rfl, rfl⟩
/-- What a match costs. -/
def stI (m o : Int) : Int := 16 + wd (m - 2) + wd o
def stN (m o : Nat) : Int := stI m o
theorem stN_mono (m o o' : Nat) (h : o ≤ o') : stN m o ≤ stN m o' := by
  have := wd_mono (a := (o : Int)) (b := (o' : Int)) (by omega)
  unfold stN stI; omega
theorem stI_in (m o : Int) : 16 ≤ stI m o ∧ stI m o ≤ 80 := by
  have h1 := wd_in (m - 2)
  have h2 := wd_in o
  unfold stI; omega
theorem step_any (m o : Int) (hm : -9223372036854775800 ≤ m) (hm2 : m ≤ 9223372036854775807) (w : World) : Calls Try.prog 22 #[.int .i64 m, .int .i64 o] w fun e w' => e = .returned (.int .i64 (stI m o)) ∧ w' = w := by
  have E : Aside0 (stI m o = 16 + wd (m - 2) + wd o) := ⟨rfl⟩
  have b1 := wd_in (m - 2)
  have b2 := wd_in o
  obtain ⟨x, hx⟩ : ∃ x, wd (m - 2) = x := ⟨_, rfl⟩
  obtain ⟨y, hy⟩ : ∃ y, wd o = y := ⟨_, rfl⟩
  rw [hx] at b1 E
  rw [hy] at b2 E
  have HX := Aside0.mk (And.intro hx hy)
  obtain ⟨b3, b4⟩ := b1
  obtain ⟨b5, b6⟩ := b2
  clear hx hy
  go_enter Try.func22, Try.ntmps22
  go_wp2_with fail
  refine (width_any (m - 2) w).mono ?_
  rintro e w1 ⟨rfl, rfl⟩
  rw [HX.out.1]
  go_wp2_with fail
  refine (width_any o _).mono ?_
  rintro e w1 ⟨rfl, rfl⟩
  rw [HX.out.2]
  go_wp2
  go_ret
  rw [E.out]
  exact ⟨rfl, rfl⟩

theorem rstep_any (m o : Int) (hm : -9223372036854775800 ≤ m) (hm2 : m ≤ 9223372036854775807) (w : World) : Calls Try.prog 15 #[.int .i64 m, .int .i64 o] w fun e w' => e = .returned (.int .i64 (stI m o)) ∧ w' = w := by
  have E : Aside0 (stI m o = 16 + wd (m - 2) + wd o) := ⟨rfl⟩
  have b1 := wd_in (m - 2)
  have b2 := wd_in o
  obtain ⟨x, hx⟩ : ∃ x, wd (m - 2) = x := ⟨_, rfl⟩
  obtain ⟨y, hy⟩ : ∃ y, wd o = y := ⟨_, rfl⟩
  rw [hx] at b1 E
  rw [hy] at b2 E
  have HX := Aside0.mk (And.intro hx hy)
  obtain ⟨b3, b4⟩ := b1
  obtain ⟨b5, b6⟩ := b2
  clear hx hy
  go_enter Try.func15, Try.ntmps15
  go_wp2_with fail
  refine (rwidth_any (m - 2) w).mono ?_
  rintro e w1 ⟨rfl, rfl⟩
  rw [HX.out.1]
  go_wp2_with fail
  refine (rwidth_any o _).mono ?_
  rintro e w1 ⟨rfl, rfl⟩
  rw [HX.out.2]
  go_wp2
  go_ret
  rw [E.out]
  exact ⟨rfl, rfl⟩

end Go.Proofs.Ytfijbhacobjjgad
