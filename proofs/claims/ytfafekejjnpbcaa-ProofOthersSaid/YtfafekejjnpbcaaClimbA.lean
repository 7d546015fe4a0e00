/- The way up. -/
import Derived.Test.YtfafekejjnpbcaaProg
import Derived.Test.YtfafekejjnpbcaaVals
import Derived.Test.YtfafekejjnpbcaaWLast
import Derived.Test.YtfafekejjnpbcaaWMore
import Derived.RegionTactic
import Derived.ChangeAlike
import Derived.BigRegion
import Derived.WalkLawsBesides
import Derived.WalkSpells
import Derived.Deep.LoopGhost
import Derived.Deep.QuietTactic
import Derived.BigQuiet
import Derived.OwnWalk
import Derived.Test.YtfafekejjnpbcaaPathA
import Derived.StillTailTactics
namespace Go.Proofs.Ytfafekejjnpbcaa
open Go.RowKit Go.Proofs.YtfafekejjnpbcaaW.PrintWords Go.Proofs.YtfafekejjnpbcaaW.PrintLast Go.Proofs.YtfafekejjnpbcaaW.PrintMore Go.Proofs.Ytfafekejjnpbcaa.Fr
set_option linter.unusedVariables false
set_option linter.unusedSimpArgs false
attribute [local go_sem] max2_int min2_int max_two min_two

open Pl
def RdN (w : World) (A : Option Addr) (p : List Int) : Prop := ∀ i, i < p.length → ∃ ad, A = some ad ∧ w.cell? (ad.add i) = some (.int .u64 (p.getD i 0))
theorem RdN.below {w w1 : World} {A : Option Addr} {l : List Int} (h : RdN w A l) (hb : Below w.heap.size w w1) : RdN w1 A l := fun i hi => by
  obtain ⟨ad, e, hc⟩ := h i hi
  exact ⟨ad, e, pw_cell_below hb hc⟩
theorem RdN.dropLast {w : World} {A : Option Addr} {l : List Int} (h : RdN w A l) : RdN w A l.dropLast := fun i hi => by
  rw [List.length_dropLast] at hi
  obtain ⟨ad, e, hc⟩ := h i (by omega)
  refine ⟨ad, e, ?_⟩
  rw [hc]
  rw [List.dropLast_eq_take, List.getD_eq_getElem?_getD, List.getD_eq_getElem?_getD, List.getElem?_take, if_pos hi]
/-- What climb answers. -/
def up (n i : Nat) (a : Int) (p : List Int) : Int × Bool :=
  if h : 2 ≤ n then
    have : half n < n := half_lt h
    have : 0 < half n := half_pos _
    if p = [] then (0, false)
    else if i < half n then (pr (up (half n) i a p.dropLast).1 (p.getLastD 0), (up (half n) i a p.dropLast).2)
    else (pr (p.getLastD 0) (up (n - half n) (i - half n) a p.dropLast).1, (up (n - half n) (i - half n) a p.dropLast).2)
  else (a, decide (p = []))
termination_by n
theorem up_one {n : Nat} (i : Nat) (a : Int) (p : List Int) (h : n < 2) : up n i a p = (a, decide (p = [])) := by rw [up, dif_neg (by omega)]
theorem up_nil {n : Nat} (i : Nat) (a : Int) (h : 2 ≤ n) : up n i a [] = (0, false) := by rw [up, dif_pos h, if_pos rfl]
theorem up_low {n i : Nat} (a : Int) (p : List Int) (h : 2 ≤ n) (hp : p ≠ []) (hi : i < half n) : up n i a p = (pr (up (half n) i a p.dropLast).1 (p.getLastD 0), (up (half n) i a p.dropLast).2) := by rw [up, dif_pos h, if_neg hp, if_pos hi]
theorem up_high {n i : Nat} (a : Int) (p : List Int) (h : 2 ≤ n) (hp : p ≠ []) (hi : ¬ i < half n) : up n i a p = (pr (p.getLastD 0) (up (n - half n) (i - half n) a p.dropLast).1, (up (n - half n) (i - half n) a p.dropLast).2) := by rw [up, dif_pos h, if_neg hp, if_neg hi]
theorem up_in (n i : Nat) (a : Int) (p : List Int) (ha : 0 ≤ a ∧ a < 18446744073709551616) : 0 ≤ (up n i a p).1 ∧ (up n i a p).1 < 18446744073709551616 := by
  by_cases h : 2 ≤ n
  · by_cases hp : p = []
    · subst hp; rw [up_nil i a h]; decide
    · by_cases hi : i < half n
      · rw [up_low a p h hp hi]; exact endS_in _
      · rw [up_high a p h hp hi]; exact endS_in _
  · rw [up_one i a p (by omega)]; exact ha
theorem up_steps : ∀ (n i : Nat) (a : Int) (p : List Int), p.length = steps n i → up n i a p = (climb pr n i a p, true) := by
  intro n
  induction n using Nat.strongRecOn with
  | _ n ih =>
    intro i a p hl
    by_cases h : 2 ≤ n
    · have h1 := half_lt h
      have h2 := half_pos n
      by_cases hi : i < half n
      · rw [steps_low h hi] at hl
        have hp : p ≠ [] := by intro e; rw [e] at hl; simp at hl
        rw [up_low a p h hp hi, ih _ h1 i a p.dropLast (by rw [List.length_dropLast]; omega), climb_low pr a p h hi]
      · rw [steps_high h hi] at hl
        have hp : p ≠ [] := by intro e; rw [e] at hl; simp at hl
        rw [up_high a p h hp hi, ih _ (by omega) _ a p.dropLast (by rw [List.length_dropLast]; omega), climb_high pr a p h hi]
    · rw [steps_one i (by omega)] at hl
      have hp : p = [] := List.eq_nil_of_length_eq_zero hl
      rw [up_one i a p (by omega), climb_one pr i a p (by omega), hp]
      rfl
theorem up_not : ∀ (n i : Nat) (a : Int) (p : List Int), p.length ≠ steps n i → (up n i a p).2 = false := by
  intro n
  induction n using Nat.strongRecOn with
  | _ n ih =>
    intro i a p hl
    by_cases h : 2 ≤ n
    · have h1 := half_lt h
      have h2 := half_pos n
      by_cases hp : p = []
      · subst hp; rw [up_nil i a h]
      · have hpl : 0 < p.length := List.length_pos_iff.2 hp
        by_cases hi : i < half n
        · rw [steps_low h hi] at hl
          rw [up_low a p h hp hi]
          exact ih _ h1 i a p.dropLast (by rw [List.length_dropLast]; omega)
        · rw [steps_high h hi] at hl
          rw [up_high a p h hp hi]
          exact ih _ (by omega) _ a p.dropLast (by rw [List.length_dropLast]; omega)
    · rw [steps_one i (by omega)] at hl
      rw [up_one i a p (by omega)]
      exact decide_eq_false (fun e => hl (by rw [e]; rfl))
set_option maxRecDepth 100000 in
set_option maxHeartbeats 1000000 in
theorem climb_any : ∀ (n i : Nat) (s : ByteArray) (p : List Int) (A : Option Addr) (c k : Nat) (w0 : World), 1 ≤ n → n ≤ 1099511627776 → i < n → s.size ≤ 140737488355328 → p.length = k → k ≤ c → c ≤ 9223372036854775807 → RdN w0 A p → (∀ x ∈ p, 0 ≤ x ∧ x < 18446744073709551616) → Calls Try.prog 23 #[.int .i64 n, .int .i64 i, .string s, .slice A k c] w0 fun e w' => e = .returned (.tuple #[.int .u64 (up n i (lf s) p).1, .bool (up n i (lf s) p).2]) ∧ Below w0.heap.size w0 w' := by
  intro n
  induction n using Nat.strongRecOn with
  | _ n ih =>
    intro i s p A c k w0 hn1 hn hi hs hk hkc hc0 HR HV
    by_cases h2 : 2 ≤ n
    · have hb : ¬ (n : Int) = 1 := by omega
      match k, p, hk with
      | 0, p, hk =>
        obtain rfl : p = [] := List.eq_nil_of_length_eq_zero hk
        rw [up_nil i (lf s) h2]
        clear ih HR HV
        go_enter Try.func23, Try.ntmps23
        go_wp2
        go_ret2
        exact ⟨rfl, Below.refl _ _⟩
      | k + 1, p, hk =>
        have HR := Aside0.mk HR
        have HV := Aside0.mk HV
        have HK := Aside0.mk hk
        obtain ⟨ad, rfl, _⟩ := HR.out 0 (by omega)
        have hp : p ≠ [] := by intro e; rw [e] at hk; simp at hk
        have hlast : p.getLastD 0 = p.getD k 0 := by
          rw [List.getLastD_eq_getLast?, List.getLast?_eq_getElem?, hk, List.getD_eq_getElem?_getD]
          rfl
        have HUL : Aside0 (i < half n → up n i (lf s) p = (pr (up (half n) i (lf s) p.dropLast).1 (p.getD k 0), (up (half n) i (lf s) p.dropLast).2)) := ⟨fun h => by rw [up_low (lf s) p h2 hp h, hlast]⟩
        have HUH : Aside0 (¬ i < half n → up n i (lf s) p = (pr (p.getD k 0) (up (n - half n) (i - half n) (lf s) p.dropLast).1, (up (n - half n) (i - half n) (lf s) p.dropLast).2)) := ⟨fun h => by rw [up_high (lf s) p h2 hp h, hlast]⟩
        have HH : Aside0 (half n < n ∧ 0 < half n) := ⟨half_lt h2, half_pos n⟩
        clear hk hp hlast
        obtain ⟨m, hm⟩ : ∃ m, n = m := ⟨_, rfl⟩
        subst hm
        obtain ⟨h, hh⟩ : ∃ h, half n = h := ⟨_, rfl⟩
        rw [hh] at HH HUL HUH
        have hh1 := HH.out.1
        have hh2 := HH.out.2
        go_enter Try.func23, Try.ntmps23
        go_wp2_with fail
        refine (half_any n h2 (by omega) w0).mono ?_
        rintro e w1 ⟨rfl, rfl⟩
        rw [hh]
        clear hh
        have hb1 : Below w1.heap.size w1 w1 := Below.refl _ _
        by_cases hc : i < h
        · have hci : (i : Int) < (h : Int) := by omega
          go_wp2_with fail
          refine (ih h (by omega) i s p.dropLast (some ad) c k w1 (by omega) (by omega) (by omega) hs (by rw [List.length_dropLast, HK.out]; rfl) (by omega) hc0 ((HR.out.below hb1).dropLast) (fun x hx => HV.out x ((List.dropLast_sublist p).subset hx))).mono ?_
          rintro e w2 ⟨rfl, hb2⟩
          have HU := Aside0.mk (HUL.out hc)
          have hx := up_in h i (lf s) p.dropLast (root_in [s] |> fun h => by rw [root_one] at h; exact h)
          obtain ⟨x, hxe⟩ : ∃ x, (up h i (lf s) p.dropLast).1 = x := ⟨_, rfl⟩
          obtain ⟨b, hbe⟩ : ∃ b, (up h i (lf s) p.dropLast).2 = b := ⟨_, rfl⟩
          rw [hxe, hbe] at HU
          rw [hxe] at hx
          rw [hxe, hbe]
          clear hxe hbe
          have hy := HV.out (p.getD k 0) (by rw [List.getD_eq_getElem?_getD, List.getElem?_eq_getElem (by rw [HK.out]; omega)]; exact List.getElem_mem _)
          have hcell : w2.cell? (ad.add k) = some (.int .u64 (p.getD k 0)) := by
            obtain ⟨ad', e, hq⟩ := ((HR.out.below hb1).below hb2) k (by rw [HK.out]; omega)
            cases e
            exact hq
          obtain ⟨y, hye⟩ : ∃ y, p.getD k 0 = y := ⟨_, rfl⟩
          rw [hye] at HU hy hcell
          clear hye
          go_wp2_with fail
          refine (pair_any x y hx.1 hx.2 hy.1 hy.2 w2).mono ?_
          rintro e w3 ⟨rfl, hb3⟩
          go_wp2
          go_ret2
          rw [HU.out]
          exact ⟨rfl, below_step (below_step hb1 hb2) hb3⟩
        · have hci : ¬ (i : Int) < (h : Int) := by omega
          have hcj : (h : Int) ≤ (i : Int) := by omega
          go_wp2_with fail
          have hcast : (i : Int) - (h : Int) = ((i - h : Nat) : Int) := by omega
          have hcast2 : (n : Int) - (h : Int) = ((n - h : Nat) : Int) := by omega
          simp only [hcast, hcast2]
          clear hcast hcast2
          refine (ih (n - h) (by omega) (i - h) s p.dropLast (some ad) c k w1 (by omega) (by omega) (by omega) hs (by rw [List.length_dropLast, HK.out]; rfl) (by omega) hc0 ((HR.out.below hb1).dropLast) (fun x hx => HV.out x ((List.dropLast_sublist p).subset hx))).mono ?_
          rintro e w2 ⟨rfl, hb2⟩
          have HU := Aside0.mk (HUH.out hc)
          have hx := up_in (n - h) (i - h) (lf s) p.dropLast (root_in [s] |> fun h => by rw [root_one] at h; exact h)
          obtain ⟨x, hxe⟩ : ∃ x, (up (n - h) (i - h) (lf s) p.dropLast).1 = x := ⟨_, rfl⟩
          obtain ⟨b, hbe⟩ : ∃ b, (up (n - h) (i - h) (lf s) p.dropLast).2 = b := ⟨_, rfl⟩
          rw [hxe, hbe] at HU
          rw [hxe] at hx
          rw [hxe, hbe]
          clear hxe hbe
          have hy := HV.out (p.getD k 0) (by rw [List.getD_eq_getElem?_getD, List.getElem?_eq_getElem (by rw [HK.out]; omega)]; exact List.getElem_mem _)
          have hcell : w2.cell? (ad.add k) = some (.int .u64 (p.getD k 0)) := by
            obtain ⟨ad', e, hq⟩ := ((HR.out.below hb1).below hb2) k (by rw [HK.out]; omega)
            cases e
            exact hq
          obtain ⟨y, hye⟩ : ∃ y, p.getD k 0 = y := ⟨_, rfl⟩
          rw [hye] at HU hy hcell
          clear hye
          go_wp2_with fail
          refine (pair_any y x hy.1 hy.2 hx.1 hx.2 w2).mono ?_
          rintro e w3 ⟨rfl, hb3⟩
          go_wp2
          go_ret2
          rw [HU.out]
          exact ⟨rfl, below_step (below_step hb1 hb2) hb3⟩
    · obtain rfl : n = 1 := by omega
      rw [up_one i (lf s) p (by omega)]
      have hd : decide (p = []) = decide (k = 0) := by
        rw [← hk]
        cases p <;> simp
      have HD := Aside0.mk hd
      clear ih HR HV hd
      go_enter Try.func23, Try.ntmps23
      go_wp2_with fail
      refine (leaf_any s w0 hs).mono ?_
      rintro e w1 ⟨rfl, hb⟩
      go_wp2
      go_ret2
      rw [HD.out]
      exact ⟨by cases k <;> rfl, hb⟩
end Go.Proofs.Ytfafekejjnpbcaa
