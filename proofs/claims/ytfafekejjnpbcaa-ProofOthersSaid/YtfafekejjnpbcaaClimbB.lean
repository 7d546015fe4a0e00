/- The document's way up. -/
import Derived.Test.YtfafekejjnpbcaaProg
import Derived.Test.YtfafekejjnpbcaaVals
import Derived.Test.YtfafekejjnpbcaaWLast
import Derived.Test.YtfafekejjnpbcaaWMore
import Derived.RegionTactic
import Derived.ChangeAlike
import Derived.BigRegion
import Derived.WalkLawsBesides
import Derived.WalkSpells
import Derived.Deep.LoopGhost
import Derived.Deep.QuietTactic
import Derived.BigQuiet
import Derived.OwnWalk
import Derived.Test.YtfafekejjnpbcaaAwakeA
import Derived.StillTailTactics
namespace Go.Proofs.Ytfafekejjnpbcaa
open Go.RowKit Go.Proofs.YtfafekejjnpbcaaW.PrintWords Go.Proofs.YtfafekejjnpbcaaW.PrintLast Go.Proofs.YtfafekejjnpbcaaW.PrintMore Go.Proofs.Ytfafekejjnpbcaa.Fr
set_option linter.unusedVariables false
set_option linter.unusedSimpArgs false
attribute [local go_sem] max2_int min2_int max_two min_two

open Pl
theorem climb_in (n i : Nat) (a : Int) (p : List Int) (ha : 0 ≤ a ∧ a < 18446744073709551616) : 0 ≤ climb pr n i a p ∧ climb pr n i a p < 18446744073709551616 := by
  by_cases h : 2 ≤ n
  · by_cases hi : i < half n
    · rw [climb_low pr a p h hi]; exact endS_in _
    · rw [climb_high pr a p h hi]; exact endS_in _
  · rw [climb_one pr i a p (by omega)]; exact ha
set_option maxRecDepth 100000 in
set_option maxHeartbeats 1000000 in
theorem refClimb_any : ∀ (n i : Nat) (a : Int) (p : List Int) (A : Option Addr) (c k : Nat) (w0 : World), 1 ≤ n → n ≤ 1099511627776 → i < n → (0 ≤ a ∧ a < 18446744073709551616) → p.length = k → k = steps n i → k ≤ c → c ≤ 9223372036854775807 → RdN w0 A p → (∀ x ∈ p, 0 ≤ x ∧ x < 18446744073709551616) → Calls Try.prog 14 #[.int .i64 n, .int .i64 i, .int .u64 a, .slice A k c] w0 fun e w' => e = .returned (.int .u64 (climb pr n i a p)) ∧ Below w0.heap.size w0 w' := by
  intro n
  induction n using Nat.strongRecOn with
  | _ n ih =>
    intro i a p A c k w0 hn1 hn hi ha hk hst hkc hc0 HR HV
    by_cases h2 : 2 ≤ n
    · have hb : ¬ (n : Int) = 1 := by omega
      have hh1 := half_lt h2
      have hh2 := half_pos n
      have hs0 : 1 ≤ k := by
        rw [hst]
        by_cases hc : i < half n
        · rw [steps_low h2 hc]; omega
        · rw [steps_high h2 hc]; omega
      have HSL : Aside0 (i < half n → k = steps (half n) i + 1) := ⟨fun h => by rw [hst, steps_low h2 h]⟩
      have HSH : Aside0 (¬ i < half n → k = steps (n - half n) (i - half n) + 1) := ⟨fun h => by rw [hst, steps_high h2 h]⟩
      clear hst
      match k, p, hk with
      | 0, p, hk => omega
      | k + 1, p, hk =>
        have HR := Aside0.mk HR
        have HV := Aside0.mk HV
        have HK := Aside0.mk hk
        obtain ⟨ad, rfl, _⟩ := HR.out 0 (by omega)
        have hlast : p.getLastD 0 = p.getD k 0 := by
          rw [List.getLastD_eq_getLast?, List.getLast?_eq_getElem?, hk, List.getD_eq_getElem?_getD]
          rfl
        have HUL : Aside0 (i < half n → climb pr n i a p = pr (climb pr (half n) i a p.dropLast) (p.getD k 0)) := ⟨fun h => by rw [climb_low pr a p h2 h, hlast]⟩
        have HUH : Aside0 (¬ i < half n → climb pr n i a p = pr (p.getD k 0) (climb pr (n - half n) (i - half n) a p.dropLast)) := ⟨fun h => by rw [climb_high pr a p h2 h, hlast]⟩
        have hyr := HV.out (p.getD k 0) (by rw [List.getD_eq_getElem?_getD, List.getElem?_eq_getElem (by rw [HK.out]; omega)]; exact List.getElem_mem _)
        clear hk hlast hs0
        obtain ⟨y, hy⟩ : ∃ y, p.getD k 0 = y := ⟨_, rfl⟩
        rw [hy] at HUL HUH hyr
        have HY := Aside0.mk hy
        have HYR := Aside0.mk hyr
        clear hy hyr
        obtain ⟨h, hh⟩ : ∃ h, half n = h := ⟨_, rfl⟩
        rw [hh] at HUL HUH HSL HSH hh1 hh2
        go_enter Try.func14, Try.ntmps14
        go_wp2_with fail
        refine (refHalf_any n h2 (by omega) w0).mono ?_
        rintro e w1 ⟨rfl, rfl⟩
        rw [hh]
        clear hh
        by_cases hc : i < h
        · have hci : (i : Int) < (h : Int) := by omega
          have HU := Aside0.mk (HUL.out hc)
          have hs := HSL.out hc
          have HXR := Aside0.mk (climb_in h i a p.dropLast ha)
          obtain ⟨x, hx⟩ : ∃ x, climb pr h i a p.dropLast = x := ⟨_, rfl⟩
          rw [hx] at HU HXR
          have HIH : Aside0 (∀ w, Below w1.heap.size w1 w → Calls Try.prog 14 #[.int .i64 (h : Nat), .int .i64 (i : Nat), .int .u64 a, .slice (some ad) k c] w fun e w' => e = .returned (.int .u64 x) ∧ Below w.heap.size w w') := ⟨fun w hw => by
            have := ih h (by omega) i a p.dropLast (some ad) c k w (by omega) (by omega) (by omega) ha (by rw [List.length_dropLast, HK.out]; rfl) (by omega) (by omega) hc0 ((HR.out.below hw).dropLast) (fun x hx => HV.out x ((List.dropLast_sublist p).subset hx))
            rw [hx] at this
            exact this⟩
          clear hx ih

          clear hs
          have kc : k ≤ c := by omega
          have kk : (k : Int) < (k : Int) + 1 := by omega
          go_wp2
          refine St.steadyR (n := 13) (by kernel_rfl) ([] :: [] :: [] :: [] :: [] :: [(3, 25), (4, 26)] :: [(0, 22), (1, 23), (2, 24), (5, 27)] :: [] :: [] :: [(7, 29), (8, 30)] :: [(9, 31)] :: [(6, 28), (10, 32)] :: [(11, 33)] :: []) (some 22 :: some 23 :: some 24 :: some 25 :: some 26 :: some 27 :: some 28 :: some 29 :: some 30 :: some 31 :: some 32 :: some 33 :: some 8 :: []) (by kernel_rfl) ((St.eqT ?c6_0x10) :: (St.eqT ?c6_1x10) :: (St.eqT ?c6_2x10) :: (St.eqT ?c6_3x10) :: (St.eqT ?c6_4x10) :: (St.eqT ?c6_5x10) :: (St.eqT ?c6_6x10) :: (St.eqT ?c6_7x10) :: (St.eqT ?c6_8x10) :: (St.eqT ?c6_9x10) :: (St.eqT ?c6_10x10) :: (St.eqT ?c6_11x10) :: (St.eqT ?c6_12x10) :: []) rfl (by rfl) (fun w' => Below w1.heap.size w1 w') (fun w w' => Below w.heap.size w w') ?hst ?h0 ?hB ?hop ?hend
          case hop =>
            refine ⟨?_, ?_, ?_, ?_, ?_, ?_, ?_, ?_, ?_, ?_, ?_, ?_, ?_, trivial⟩
            · intro w hB
              simp only [St.withD]
              refine St.ob_value (v := ?_) (w' := w) (by rfl) ?_ ⟨Below.refl _ _, ?_⟩
              rotate_left
              · go_simp
                with_reducible rfl
              · rfl
            · intro w hB
              simp only [St.withD]
              refine St.ob_value (v := ?_) (w' := w) (by rfl) ?_ ⟨Below.refl _ _, ?_⟩
              rotate_left
              · go_simp
                with_reducible rfl
              · rfl
            · intro w hB
              simp only [St.withD]
              refine St.ob_value (v := ?_) (w' := w) (by rfl) ?_ ⟨Below.refl _ _, ?_⟩
              rotate_left
              · go_simp
                with_reducible rfl
              · rfl
            · intro w hB
              simp only [St.withD]
              refine St.ob_value (v := ?_) (w' := w) (by rfl) ?_ ⟨Below.refl _ _, ?_⟩
              rotate_left
              · go_simp
                with_reducible rfl
              · rfl
            · intro w hB
              simp only [St.withD]
              refine St.ob_value (v := ?_) (w' := w) (by rfl) ?_ ⟨Below.refl _ _, ?_⟩
              rotate_left
              · go_simp
                with_reducible rfl
              · rfl
            · intro w hB; rintro _ ⟨_, rfl⟩ _ ⟨_, rfl⟩
              simp only [St.withD, List.nil_append, List.cons_append, Act.put, List.setIfInBounds_toArray, List.set_cons_zero, List.set_cons_succ]
              refine St.ob_value (v := ?_) (w' := w) (by rfl) ?_ ⟨Below.refl _ _, ?_⟩
              rotate_left
              · go_simp
                with_reducible rfl
              · rfl
            · intro w hB; rintro _ ⟨_, rfl⟩ _ ⟨_, rfl⟩ _ ⟨_, rfl⟩ _ ⟨_, rfl⟩
              simp only [St.withD, List.nil_append, List.cons_append, Act.put, List.setIfInBounds_toArray, List.set_cons_zero, List.set_cons_succ]
              refine St.ob_call Try.func14 (by kernel_rfl) rfl #[.int .i64 (h : Nat), .int .i64 (i : Nat), .int .u64 a, .slice (some ad) k c] (by rfl) rfl (by (try simp only [List.map_toArray, List.map_cons, List.map_nil]); first | done | rfl | (simp only [List.length_drop, List.length_take]; rfl)) ?_
              refine (HIH.out w hB).mono ?_
              rintro e w2 ⟨rfl, hb2⟩
              refine ⟨_, rfl, hb2, ?_⟩
              rfl
            · intro w hB
              simp only [St.withD]
              refine St.ob_value (v := ?_) (w' := w) (by rfl) ?_ ⟨Below.refl _ _, ?_⟩
              rotate_left
              · go_simp
                with_reducible rfl
              · rfl
            · intro w hB
              simp only [St.withD]
              refine St.ob_value (v := ?_) (w' := w) (by rfl) ?_ ⟨Below.refl _ _, ?_⟩
              rotate_left
              · go_simp
                with_reducible rfl
              · rfl
            · intro w hB; rintro _ ⟨_, rfl⟩ _ ⟨_, rfl⟩
              simp only [St.withD, List.nil_append, List.cons_append, Act.put, List.setIfInBounds_toArray, List.set_cons_zero, List.set_cons_succ]
              refine St.ob_value (v := ?_) (w' := w) (by rfl) ?_ ⟨Below.refl _ _, ?_⟩
              rotate_left
              · go_simp
                with_reducible rfl
              · rfl
            · intro w hB; rintro _ ⟨_, rfl⟩
              simp only [St.withD, List.nil_append, List.cons_append, Act.put, List.setIfInBounds_toArray, List.set_cons_zero, List.set_cons_succ]
              obtain ⟨ad', e, c0⟩ := (HR.out.below hB) k (by rw [HK.out]; omega)
              cases e
              rw [HY.out] at c0
              refine St.ob_value (v := .int .u64 y) (w' := w) (by rfl) ?_ ⟨Below.refl _ _, ?_⟩
              · go_simp
              · rfl
            · intro w hB; rintro _ ⟨_, rfl⟩ _ ⟨_, rfl⟩
              simp only [St.withD, List.nil_append, List.cons_append, Act.put, List.setIfInBounds_toArray, List.set_cons_zero, List.set_cons_succ]
              refine St.ob_call Try.func22 (by kernel_rfl) rfl #[.int .u64 x, .int .u64 y] (by rfl) rfl (by (try simp only [List.map_toArray, List.map_cons, List.map_nil]); first | done | rfl | (simp only [List.length_drop, List.length_take]; rfl)) ?_
              refine (refPair_any x y HXR.out.1 HXR.out.2 HYR.out.1 HYR.out.2 w).mono ?_
              rintro e w2 ⟨rfl, hb2⟩
              refine ⟨_, rfl, hb2, ?_⟩
              rfl
            · intro w hB; rintro _ ⟨_, rfl⟩
              simp only [St.withD, List.nil_append, List.cons_append, Act.put, List.setIfInBounds_toArray, List.set_cons_zero, List.set_cons_succ]
              refine St.ob_value (v := ?_) (w' := w) (by rfl) ?_ ⟨Below.refl _ _, ?_⟩
              rotate_left
              · go_simp
                with_reducible rfl
              · rfl
          case hst => exact ⟨St.eqT_st, St.eqT_st, St.eqT_st, St.eqT_st, St.eqT_st, St.eqT_st, St.eqT_st, St.eqT_st, St.eqT_st, St.eqT_st, St.eqT_st, St.eqT_st, St.eqT_st, trivial⟩
          case h0 => exact below_drew (Below.refl _ _)
          case hB => exact fun w w' h k => below_step h k
          case hend =>
            intro w hB
            rintro _ rfl _ rfl _ rfl _ rfl _ rfl _ rfl _ rfl _ rfl _ rfl _ rfl _ rfl _ rfl _ rfl
            simp only [List.map_cons, List.map_nil, List.nil_append, List.cons_append, List.getD_cons_zero, List.getD_cons_succ, Act.put, List.setIfInBounds_toArray, List.set_cons_zero, List.set_cons_succ]
            rw [St.withE_nil]
            go_wp2
            go_ret
            rw [HU.out]
            exact ⟨rfl, hB⟩
        · have hci : ¬ (i : Int) < (h : Int) := by omega
          have hcj : (h : Int) ≤ (i : Int) := by omega
          have HU := Aside0.mk (HUH.out hc)
          have hs := HSH.out hc
          have HXR := Aside0.mk (climb_in (n - h) (i - h) a p.dropLast ha)
          obtain ⟨x, hx⟩ : ∃ x, climb pr (n - h) (i - h) a p.dropLast = x := ⟨_, rfl⟩
          rw [hx] at HU HXR
          have HIH : Aside0 (∀ w, Below w1.heap.size w1 w → Calls Try.prog 14 #[.int .i64 ((n : Int) - (h : Int)), .int .i64 ((i : Int) - (h : Int)), .int .u64 a, .slice (some ad) k c] w fun e w' => e = .returned (.int .u64 x) ∧ Below w.heap.size w w') := ⟨fun w hw => by
            have := ih (n - h) (by omega) (i - h) a p.dropLast (some ad) c k w (by omega) (by omega) (by omega) ha (by rw [List.length_dropLast, HK.out]; rfl) (by omega) (by omega) hc0 ((HR.out.below hw).dropLast) (fun x hx => HV.out x ((List.dropLast_sublist p).subset hx))
            rw [hx] at this
            rw [show ((n : Int) - (h : Int)) = ((n - h : Nat) : Int) by omega, show ((i : Int) - (h : Int)) = ((i - h : Nat) : Int) by omega]
            exact this⟩
          clear hx ih

          clear hs
          have kc : k ≤ c := by omega
          have kk : (k : Int) < (k : Int) + 1 := by omega
          have hw1 : IntKind.i64.wrap ((n : Int) - (h : Int)) = (n : Int) - (h : Int) := by rw [IntKind.wrap_i64]; omega
          have hw2 : IntKind.i64.wrap ((i : Int) - (h : Int)) = (i : Int) - (h : Int) := by rw [IntKind.wrap_i64]; omega
          go_wp2
          refine St.steadyR (n := 17) (by kernel_rfl) ([] :: [] :: [(0, 34), (1, 35)] :: [(2, 36)] :: [] :: [] :: [(4, 38), (5, 39)] :: [] :: [] :: [(7, 41), (8, 42)] :: [] :: [] :: [] :: [(11, 45), (12, 46)] :: [(6, 40), (9, 43), (10, 44), (13, 47)] :: [(3, 37), (14, 48)] :: [(15, 49)] :: []) (some 34 :: some 35 :: some 36 :: some 37 :: some 38 :: some 39 :: some 40 :: some 41 :: some 42 :: some 43 :: some 44 :: some 45 :: some 46 :: some 47 :: some 48 :: some 49 :: some 8 :: []) (by kernel_rfl) ((St.eqT ?c7_0x11) :: (St.eqT ?c7_1x11) :: (St.eqT ?c7_2x11) :: (St.eqT ?c7_3x11) :: (St.eqT ?c7_4x11) :: (St.eqT ?c7_5x11) :: (St.eqT ?c7_6x11) :: (St.eqT ?c7_7x11) :: (St.eqT ?c7_8x11) :: (St.eqT ?c7_9x11) :: (St.eqT ?c7_10x11) :: (St.eqT ?c7_11x11) :: (St.eqT ?c7_12x11) :: (St.eqT ?c7_13x11) :: (St.eqT ?c7_14x11) :: (St.eqT ?c7_15x11) :: (St.eqT ?c7_16x11) :: []) rfl (by rfl) (fun w' => Below w1.heap.size w1 w') (fun w w' => Below w.heap.size w w') ?hst ?h0 ?hB ?hop ?hend
          case hop =>
            refine ⟨?_, ?_, ?_, ?_, ?_, ?_, ?_, ?_, ?_, ?_, ?_, ?_, ?_, ?_, ?_, ?_, ?_, trivial⟩
            · intro w hB
              simp only [St.withD]
              refine St.ob_value (v := ?_) (w' := w) (by rfl) ?_ ⟨Below.refl _ _, ?_⟩
              rotate_left
              · go_simp
                with_reducible rfl
              · rfl
            · intro w hB
              simp only [St.withD]
              refine St.ob_value (v := ?_) (w' := w) (by rfl) ?_ ⟨Below.refl _ _, ?_⟩
              rotate_left
              · go_simp
                with_reducible rfl
              · rfl
            · intro w hB; rintro _ ⟨_, rfl⟩ _ ⟨_, rfl⟩
              simp only [St.withD, List.nil_append, List.cons_append, Act.put, List.setIfInBounds_toArray, List.set_cons_zero, List.set_cons_succ]
              refine St.ob_value (v := ?_) (w' := w) (by rfl) ?_ ⟨Below.refl _ _, ?_⟩
              rotate_left
              · go_simp
                with_reducible rfl
              · rfl
            · intro w hB; rintro _ ⟨_, rfl⟩
              simp only [St.withD, List.nil_append, List.cons_append, Act.put, List.setIfInBounds_toArray, List.set_cons_zero, List.set_cons_succ]
              obtain ⟨ad', e, c0⟩ := (HR.out.below hB) k (by rw [HK.out]; omega)
              cases e
              rw [HY.out] at c0
              refine St.ob_value (v := .int .u64 y) (w' := w) (by rfl) ?_ ⟨Below.refl _ _, ?_⟩
              · go_simp
              · rfl
            · intro w hB
              simp only [St.withD]
              refine St.ob_value (v := ?_) (w' := w) (by rfl) ?_ ⟨Below.refl _ _, ?_⟩
              rotate_left
              · go_simp
                with_reducible rfl
              · rfl
            · intro w hB
              simp only [St.withD]
              refine St.ob_value (v := ?_) (w' := w) (by rfl) ?_ ⟨Below.refl _ _, ?_⟩
              rotate_left
              · go_simp
                with_reducible rfl
              · rfl
            · intro w hB; rintro _ ⟨_, rfl⟩ _ ⟨_, rfl⟩
              simp only [St.withD, List.nil_append, List.cons_append, Act.put, List.setIfInBounds_toArray, List.set_cons_zero, List.set_cons_succ]
              refine St.ob_value (v := ?_) (w' := w) (by rfl) ?_ ⟨Below.refl _ _, ?_⟩
              rotate_left
              · go_simp
                with_reducible rfl
              · rfl
            · intro w hB
              simp only [St.withD]
              refine St.ob_value (v := ?_) (w' := w) (by rfl) ?_ ⟨Below.refl _ _, ?_⟩
              rotate_left
              · go_simp
                with_reducible rfl
              · rfl
            · intro w hB
              simp only [St.withD]
              refine St.ob_value (v := ?_) (w' := w) (by rfl) ?_ ⟨Below.refl _ _, ?_⟩
              rotate_left
              · go_simp
                with_reducible rfl
              · rfl
            · intro w hB; rintro _ ⟨_, rfl⟩ _ ⟨_, rfl⟩
              simp only [St.withD, List.nil_append, List.cons_append, Act.put, List.setIfInBounds_toArray, List.set_cons_zero, List.set_cons_succ]
              refine St.ob_value (v := ?_) (w' := w) (by rfl) ?_ ⟨Below.refl _ _, ?_⟩
              rotate_left
              · go_simp
                with_reducible rfl
              · rfl
            · intro w hB
              simp only [St.withD]
              refine St.ob_value (v := ?_) (w' := w) (by rfl) ?_ ⟨Below.refl _ _, ?_⟩
              rotate_left
              · go_simp
                with_reducible rfl
              · rfl
            · intro w hB
              simp only [St.withD]
              refine St.ob_value (v := ?_) (w' := w) (by rfl) ?_ ⟨Below.refl _ _, ?_⟩
              rotate_left
              · go_simp
                with_reducible rfl
              · rfl
            · intro w hB
              simp only [St.withD]
              refine St.ob_value (v := ?_) (w' := w) (by rfl) ?_ ⟨Below.refl _ _, ?_⟩
              rotate_left
              · go_simp
                with_reducible rfl
              · rfl
            · intro w hB; rintro _ ⟨_, rfl⟩ _ ⟨_, rfl⟩
              simp only [St.withD, List.nil_append, List.cons_append, Act.put, List.setIfInBounds_toArray, List.set_cons_zero, List.set_cons_succ]
              refine St.ob_value (v := ?_) (w' := w) (by rfl) ?_ ⟨Below.refl _ _, ?_⟩
              rotate_left
              · go_simp
                with_reducible rfl
              · rfl
            · intro w hB; rintro _ ⟨_, rfl⟩ _ ⟨_, rfl⟩ _ ⟨_, rfl⟩ _ ⟨_, rfl⟩
              simp only [St.withD, List.nil_append, List.cons_append, Act.put, List.setIfInBounds_toArray, List.set_cons_zero, List.set_cons_succ]
              refine St.ob_call Try.func14 (by kernel_rfl) rfl #[.int .i64 ((n : Int) - (h : Int)), .int .i64 ((i : Int) - (h : Int)), .int .u64 a, .slice (some ad) k c] (by rfl) rfl (by (try simp only [List.map_toArray, List.map_cons, List.map_nil]); first | done | rfl | (simp only [List.length_drop, List.length_take]; rfl)) ?_
              refine (HIH.out w hB).mono ?_
              rintro e w2 ⟨rfl, hb2⟩
              refine ⟨_, rfl, hb2, ?_⟩
              rfl
            · intro w hB; rintro _ ⟨_, rfl⟩ _ ⟨_, rfl⟩
              simp only [St.withD, List.nil_append, List.cons_append, Act.put, List.setIfInBounds_toArray, List.set_cons_zero, List.set_cons_succ]
              refine St.ob_call Try.func22 (by kernel_rfl) rfl #[.int .u64 y, .int .u64 x] (by rfl) rfl (by (try simp only [List.map_toArray, List.map_cons, List.map_nil]); first | done | rfl | (simp only [List.length_drop, List.length_take]; rfl)) ?_
              refine (refPair_any y x HYR.out.1 HYR.out.2 HXR.out.1 HXR.out.2 w).mono ?_
              rintro e w2 ⟨rfl, hb2⟩
              refine ⟨_, rfl, hb2, ?_⟩
              rfl
            · intro w hB; rintro _ ⟨_, rfl⟩
              simp only [St.withD, List.nil_append, List.cons_append, Act.put, List.setIfInBounds_toArray, List.set_cons_zero, List.set_cons_succ]
              refine St.ob_value (v := ?_) (w' := w) (by rfl) ?_ ⟨Below.refl _ _, ?_⟩
              rotate_left
              · go_simp
                with_reducible rfl
              · rfl
          case hst => exact ⟨St.eqT_st, St.eqT_st, St.eqT_st, St.eqT_st, St.eqT_st, St.eqT_st, St.eqT_st, St.eqT_st, St.eqT_st, St.eqT_st, St.eqT_st, St.eqT_st, St.eqT_st, St.eqT_st, St.eqT_st, St.eqT_st, St.eqT_st, trivial⟩
          case h0 => exact below_drew (Below.refl _ _)
          case hB => exact fun w w' h k => below_step h k
          case hend =>
            intro w hB
            rintro _ rfl _ rfl _ rfl _ rfl _ rfl _ rfl _ rfl _ rfl _ rfl _ rfl _ rfl _ rfl _ rfl _ rfl _ rfl _ rfl _ rfl
            simp only [List.map_cons, List.map_nil, List.nil_append, List.cons_append, List.getD_cons_zero, List.getD_cons_succ, Act.put, List.setIfInBounds_toArray, List.set_cons_zero, List.set_cons_succ]
            rw [St.withE_nil]
            go_wp2
            go_ret
            rw [HU.out]
            exact ⟨rfl, hB⟩
    · obtain rfl : n = 1 := by omega
      rw [climb_one pr i a p (by omega)]
      clear ih HR HV hst
      go_enter Try.func14, Try.ntmps14
      go_wp2
      go_ret
      exact ⟨rfl, Below.refl _ _⟩
theorem refSteps_any (n i : Nat) (w : World) (hn : n ≤ 1099511627776) (hi : i < n) : Calls Try.prog 13 #[.int .i64 n, .int .i64 i] w fun e w' => e = .returned (.int .i64 (steps n i)) ∧ w' = w := by
  have hi0 : (i : Int) < (n : Int) := by omega
  go_enter Try.func13, Try.ntmps13
  go_wp2
  go_loopg [0, 1, 5] n (fun gk x y z wr => ∃ (m j s : Nat), Aside0 (m = gk ∧ j < m ∧ m ≤ n ∧ steps n i = s + steps m j) ∧ x = .int .i64 m ∧ y = .int .i64 j ∧ z = .int .i64 s ∧ wr = w)
  case atStart => exact ⟨n, i, 0, ⟨rfl, hi, Nat.le_refl _, by omega⟩, rfl, rfl, rfl, rfl⟩
  case round =>
    obtain ⟨m, j, s, HK, rfl, rfl, rfl, rfl⟩ := hrel
    have hjm := HK.out.2.1
    have hmn := HK.out.2.2.1
    by_cases h2 : 2 ≤ m
    · have hm1 : (1 : Int) < (m : Int) := by omega
      have hh1 := half_lt h2
      have hh2 := half_pos m
      have HL : Aside0 (j < half m → steps m j = steps (half m) j + 1) := ⟨fun h => steps_low h2 h⟩
      have HH : Aside0 (¬ j < half m → steps m j = steps (m - half m) (j - half m) + 1) := ⟨fun h => steps_high h2 h⟩
      have hsn : s ≤ n := by have := HK.out.2.2.2; have := steps_le n i hi; omega
      obtain ⟨h, hh⟩ : ∃ h, half m = h := ⟨_, rfl⟩
      rw [hh] at HL HH hh1 hh2
      go_wp2_with fail
      refine (refHalf_any m h2 (by omega) wr).mono ?_
      rintro e w1 ⟨rfl, rfl⟩
      rw [hh]
      clear hh
      by_cases hc : j < h
      · have hci : (j : Int) < (h : Int) := by omega
        go_wp2
        go_roundg h
        case measure => have := HK.out.1; omega
        case rel => exact ⟨h, j, s + 1, ⟨rfl, hc, by omega, by have := HK.out.2.2.2; have := HL.out hc; omega⟩, rfl, rfl, by go_num, rfl⟩
      · have hci : ¬ (j : Int) < (h : Int) := by omega
        have hcj : (h : Int) ≤ (j : Int) := by omega
        go_wp2
        go_roundg (m - h)
        case measure => have := HK.out.1; omega
        case rel => exact ⟨m - h, j - h, s + 1, ⟨rfl, by omega, by omega, by have := HK.out.2.2.2; have := HH.out hc; omega⟩, by go_num, by go_num, by go_num, rfl⟩
    · have HE : Aside0 (steps n i = s) := ⟨by have := HK.out.2.2.2; rw [steps_one j (by omega)] at this; omega⟩
      have hm1 : ¬ (1 : Int) < (m : Int) := by omega
      go_wp2
      go_ret
      rw [HE.out]
      exact ⟨rfl, rfl⟩
end Go.Proofs.Ytfafekejjnpbcaa
