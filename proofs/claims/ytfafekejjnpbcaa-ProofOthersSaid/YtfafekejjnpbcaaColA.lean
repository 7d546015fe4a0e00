/- Two unlike pairs with one sum: the law's own search. -/
import Derived.Test.YtfafekejjnpbcaaProg
import Derived.Test.YtfafekejjnpbcaaVals
import Derived.Test.YtfafekejjnpbcaaWLast
import Derived.Test.YtfafekejjnpbcaaWMore
import Derived.RegionTactic
import Derived.ChangeAlike
import Derived.BigRegion
import Derived.WalkLawsBesides
import Derived.WalkSpells
import Derived.Deep.LoopGhost
import Derived.Deep.QuietTactic
import Derived.BigQuiet
import Derived.OwnWalk
import Derived.Test.YtfafekejjnpbcaaPathsWalk
import Derived.StillTailTactics
namespace Go.Proofs.Ytfafekejjnpbcaa
open Go.RowKit Go.Proofs.YtfafekejjnpbcaaW.PrintWords Go.Proofs.YtfafekejjnpbcaaW.PrintLast Go.Proofs.YtfafekejjnpbcaaW.PrintMore Go.Proofs.Ytfafekejjnpbcaa.Fr
set_option linter.unusedVariables false
set_option linter.unusedSimpArgs false
attribute [local go_sem] max2_int min2_int max_two min_two

open Pl
set_option maxRecDepth 100000 in
set_option maxHeartbeats 2000000 in
theorem collides_any : ∀ (n i : Nat) (a b : Int) (p : List Int) (A : Option Addr) (c k : Nat) (w0 : World), 1 ≤ n → n ≤ 1099511627776 → i < n → (0 ≤ a ∧ a < 18446744073709551616) → (0 ≤ b ∧ b < 18446744073709551616) → p.length = k → k = steps n i → k ≤ c → c ≤ 9223372036854775807 → RdN w0 A p → (∀ x ∈ p, 0 ≤ x ∧ x < 18446744073709551616) → Calls Try.prog 16 #[.int .i64 n, .int .i64 i, .int .u64 a, .int .u64 b, .slice A k c] w0 fun e w' => e = .returned (.bool (collides pr n i a b p)) ∧ Below w0.heap.size w0 w' := by
  intro n
  induction n using Nat.strongRecOn with
  | _ n ih =>
    intro i a b p A c k w0 hn1 hn hi ha hb hk hst hkc hc0 HR HV
    by_cases h2 : 2 ≤ n
    · have hnb : ¬ (n : Int) = 1 := by omega
      have hh1 := half_lt h2
      have hh2 := half_pos n
      have hs0 : 1 ≤ k := by
        rw [hst]
        by_cases hc : i < half n
        · rw [steps_low h2 hc]; omega
        · rw [steps_high h2 hc]; omega
      have HNA : Aside0 (∀ w, Below w0.heap.size w0 w → Calls Try.prog 14 #[.int .i64 n, .int .i64 i, .int .u64 a, .slice A k c] w fun e w' => e = .returned (.int .u64 (climb pr n i a p)) ∧ Below w.heap.size w w') := ⟨fun w hw => refClimb_any n i a p A c k w hn1 hn hi ha hk hst hkc hc0 (HR.below hw) HV⟩
      have HNB : Aside0 (∀ w, Below w0.heap.size w0 w → Calls Try.prog 14 #[.int .i64 n, .int .i64 i, .int .u64 b, .slice A k c] w fun e w' => e = .returned (.int .u64 (climb pr n i b p)) ∧ Below w.heap.size w w') := ⟨fun w hw => refClimb_any n i b p A c k w hn1 hn hi hb hk hst hkc hc0 (HR.below hw) HV⟩
      have HSL : Aside0 (i < half n → k = steps (half n) i + 1) := ⟨fun h => by rw [hst, steps_low h2 h]⟩
      have HSH : Aside0 (¬ i < half n → k = steps (n - half n) (i - half n) + 1) := ⟨fun h => by rw [hst, steps_high h2 h]⟩
      have HUL := Aside0.mk (fun h => collides_low pr (n := n) (i := i) a b p h2 h)
      have HUH := Aside0.mk (fun h => collides_high pr (n := n) (i := i) a b p h2 h)
      clear hst
      match k, p, hk with
      | 0, p, hk => omega
      | k + 1, p, hk =>
        have HR := Aside0.mk HR
        have HV := Aside0.mk HV
        have HK := Aside0.mk hk
        obtain ⟨ad, rfl, _⟩ := HR.out 0 (by omega)
        clear hk hs0
        obtain ⟨h, hh⟩ : ∃ h, half n = h := ⟨_, rfl⟩
        rw [hh] at HUL HUH HSL HSH hh1 hh2
        have kc : k ≤ c := by omega
        have kk : (k : Int) < (k : Int) + 1 := by omega
        go_enter Try.func16, Try.ntmps16
        go_wp2_with fail
        refine (refHalf_any n h2 (by omega) w0).mono ?_
        rintro e w1 ⟨rfl, rfl⟩
        rw [hh]
        clear hh
        by_cases hc : i < h
        · have hci : (i : Int) < (h : Int) := by omega
          have HV0 := Aside0.mk (HUL.out hc)
          have hst2 := HSL.out hc
          have HIH := Aside0.mk (ih h (by omega) i a b p.dropLast (some ad) c k w1 (by omega) (by omega) (by omega) ha hb (by rw [List.length_dropLast, HK.out]; rfl) (by omega) (by omega) hc0 HR.out.dropLast (fun x hx => HV.out x ((List.dropLast_sublist p).subset hx)))
          have HCA : Aside0 (∀ w, Below w1.heap.size w1 w → Calls Try.prog 14 #[.int .i64 ((h : Nat) : Int), .int .i64 ((i : Nat) : Int), .int .u64 a, .slice (some ad) k c] w fun e w' => e = .returned (.int .u64 (climb pr h i a p.dropLast)) ∧ Below w.heap.size w w') := ⟨fun w hw => refClimb_any h i a p.dropLast (some ad) c k w (by omega) (by omega) (by omega) ha (by rw [List.length_dropLast, HK.out]; rfl) (by omega) (by omega) hc0 ((HR.out.below hw).dropLast) (fun x hx => HV.out x ((List.dropLast_sublist p).subset hx))⟩
          have HCB : Aside0 (∀ w, Below w1.heap.size w1 w → Calls Try.prog 14 #[.int .i64 ((h : Nat) : Int), .int .i64 ((i : Nat) : Int), .int .u64 b, .slice (some ad) k c] w fun e w' => e = .returned (.int .u64 (climb pr h i b p.dropLast)) ∧ Below w.heap.size w w') := ⟨fun w hw => refClimb_any h i b p.dropLast (some ad) c k w (by omega) (by omega) (by omega) hb (by rw [List.length_dropLast, HK.out]; rfl) (by omega) (by omega) hc0 ((HR.out.below hw).dropLast) (fun x hx => HV.out x ((List.dropLast_sublist p).subset hx))⟩
          obtain ⟨o, ho⟩ : ∃ o, collides pr n i a b p = o := ⟨_, rfl⟩
          obtain ⟨q, hq⟩ : ∃ q, collides pr h i a b p.dropLast = q := ⟨_, rfl⟩
          obtain ⟨x, hx⟩ : ∃ x, climb pr h i a p.dropLast = x := ⟨_, rfl⟩
          obtain ⟨y, hy⟩ : ∃ y, climb pr h i b p.dropLast = y := ⟨_, rfl⟩
          obtain ⟨u, hu⟩ : ∃ u, climb pr n i a p = u := ⟨_, rfl⟩
          obtain ⟨v, hv⟩ : ∃ v, climb pr n i b p = v := ⟨_, rfl⟩
          rw [ho, hq, hx, hy, hu, hv] at HV0
          rw [hx] at HCA
          rw [hy] at HCB
          rw [hq] at HIH
          rw [hu] at HNA
          rw [hv] at HNB
          have HO := Aside0.mk ho
          clear ho hq hx hy hu hv ih HUL HUH HSL HSH hst2
          go_wp2_with fail
          refine HIH.out.mono ?_
          rintro e w2 ⟨rfl, hb2⟩
          have HB2 := Aside0.mk hb2
          clear hb2 HIH
          cases q
          · have HV : Aside0 (o = (x != y && u == v)) := ⟨by rw [HV0.out]; rfl⟩
            have HCA : Aside0 (∀ w, Below w2.heap.size w2 w → _) := ⟨fun w hw => HCA.out w (below_step HB2.out hw)⟩
            have HCB : Aside0 (∀ w, Below w2.heap.size w2 w → _) := ⟨fun w hw => HCB.out w (below_step HB2.out hw)⟩
            clear HV0
            go_wp2
            refine St.steadyR (n := 16) (by kernel_rfl) ([] :: [] :: [] :: [] :: [] :: [(3, 46), (4, 47)] :: [(0, 43), (1, 44), (2, 45), (5, 48)] :: [] :: [] :: [] :: [] :: [] :: [(10, 53), (11, 54)] :: [(7, 50), (8, 51), (9, 52), (12, 55)] :: [(6, 49)] :: [(13, 56)] :: []) (some 43 :: some 44 :: some 45 :: some 46 :: some 47 :: some 48 :: some 49 :: some 50 :: some 51 :: some 52 :: some 53 :: some 54 :: some 55 :: some 56 :: some 15 :: some 16 :: []) (by kernel_rfl) ((St.eqT ?c9_0x14) :: (St.eqT ?c9_1x14) :: (St.eqT ?c9_2x14) :: (St.eqT ?c9_3x14) :: (St.eqT ?c9_4x14) :: (St.eqT ?c9_5x14) :: (St.eqT ?c9_6x14) :: (St.eqT ?c9_7x14) :: (St.eqT ?c9_8x14) :: (St.eqT ?c9_9x14) :: (St.eqT ?c9_10x14) :: (St.eqT ?c9_11x14) :: (St.eqT ?c9_12x14) :: (St.eqT ?c9_13x14) :: (St.eqT ?c9_14x14) :: (St.eqT ?c9_15x14) :: []) rfl (by rfl) (fun w' => Below w2.heap.size w2 w') (fun w w' => Below w.heap.size w w') ?hst ?h0 ?hB ?hop ?hend
            case hop =>
              refine ⟨?_, ?_, ?_, ?_, ?_, ?_, ?_, ?_, ?_, ?_, ?_, ?_, ?_, ?_, ?_, ?_, trivial⟩
              · intro w hB
                simp only [St.withD]
                refine St.ob_value (v := ?_) (w' := w) (by rfl) ?_ ⟨Below.refl _ _, ?_⟩
                rotate_left
                · go_simp
                  with_reducible rfl
                · rfl
              · intro w hB
                simp only [St.withD]
                refine St.ob_value (v := ?_) (w' := w) (by rfl) ?_ ⟨Below.refl _ _, ?_⟩
                rotate_left
                · go_simp
                  with_reducible rfl
                · rfl
              · intro w hB
                simp only [St.withD]
                refine St.ob_value (v := ?_) (w' := w) (by rfl) ?_ ⟨Below.refl _ _, ?_⟩
                rotate_left
                · go_simp
                  with_reducible rfl
                · rfl
              · intro w hB
                simp only [St.withD]
                refine St.ob_value (v := ?_) (w' := w) (by rfl) ?_ ⟨Below.refl _ _, ?_⟩
                rotate_left
                · go_simp
                  with_reducible rfl
                · rfl
              · intro w hB
                simp only [St.withD]
                refine St.ob_value (v := ?_) (w' := w) (by rfl) ?_ ⟨Below.refl _ _, ?_⟩
                rotate_left
                · go_simp
                  with_reducible rfl
                · rfl
              · intro w hB; rintro _ ⟨_, rfl⟩ _ ⟨_, rfl⟩
                simp only [St.withD, List.nil_append, List.cons_append, Act.put, List.setIfInBounds_toArray, List.set_cons_zero, List.set_cons_succ]
                refine St.ob_value (v := ?_) (w' := w) (by rfl) ?_ ⟨Below.refl _ _, ?_⟩
                rotate_left
                · go_simp
                  with_reducible rfl
                · rfl
              · intro w hB; rintro _ ⟨_, rfl⟩ _ ⟨_, rfl⟩ _ ⟨_, rfl⟩ _ ⟨_, rfl⟩
                simp only [St.withD, List.nil_append, List.cons_append, Act.put, List.setIfInBounds_toArray, List.set_cons_zero, List.set_cons_succ]
                refine St.ob_call Try.func14 (by kernel_rfl) rfl #[.int .i64 h, .int .i64 i, .int .u64 a, .slice (some ad) k c] (by rfl) rfl (by (try simp only [List.map_toArray, List.map_cons, List.map_nil]); first | done | rfl | (simp only [List.length_drop, List.length_take]; rfl)) ?_
                refine (HCA.out w hB).mono ?_
                rintro e w1 ⟨rfl, hb1⟩
                refine ⟨_, rfl, hb1, ?_⟩
                rfl
              · intro w hB
                simp only [St.withD]
                refine St.ob_value (v := ?_) (w' := w) (by rfl) ?_ ⟨Below.refl _ _, ?_⟩
                rotate_left
                · go_simp
                  with_reducible rfl
                · rfl
              · intro w hB
                simp only [St.withD]
                refine St.ob_value (v := ?_) (w' := w) (by rfl) ?_ ⟨Below.refl _ _, ?_⟩
                rotate_left
                · go_simp
                  with_reducible rfl
                · rfl
              · intro w hB
                simp only [St.withD]
                refine St.ob_value (v := ?_) (w' := w) (by rfl) ?_ ⟨Below.refl _ _, ?_⟩
                rotate_left
                · go_simp
                  with_reducible rfl
                · rfl
              · intro w hB
                simp only [St.withD]
                refine St.ob_value (v := ?_) (w' := w) (by rfl) ?_ ⟨Below.refl _ _, ?_⟩
                rotate_left
                · go_simp
                  with_reducible rfl
                · rfl
              · intro w hB
                simp only [St.withD]
                refine St.ob_value (v := ?_) (w' := w) (by rfl) ?_ ⟨Below.refl _ _, ?_⟩
                rotate_left
                · go_simp
                  with_reducible rfl
                · rfl
              · intro w hB; rintro _ ⟨_, rfl⟩ _ ⟨_, rfl⟩
                simp only [St.withD, List.nil_append, List.cons_append, Act.put, List.setIfInBounds_toArray, List.set_cons_zero, List.set_cons_succ]
                refine St.ob_value (v := ?_) (w' := w) (by rfl) ?_ ⟨Below.refl _ _, ?_⟩
                rotate_left
                · go_simp
                  with_reducible rfl
                · rfl
              · intro w hB; rintro _ ⟨_, rfl⟩ _ ⟨_, rfl⟩ _ ⟨_, rfl⟩ _ ⟨_, rfl⟩
                simp only [St.withD, List.nil_append, List.cons_append, Act.put, List.setIfInBounds_toArray, List.set_cons_zero, List.set_cons_succ]
                refine St.ob_call Try.func14 (by kernel_rfl) rfl #[.int .i64 h, .int .i64 i, .int .u64 b, .slice (some ad) k c] (by rfl) rfl (by (try simp only [List.map_toArray, List.map_cons, List.map_nil]); first | done | rfl | (simp only [List.length_drop, List.length_take]; rfl)) ?_
                refine (HCB.out w hB).mono ?_
                rintro e w1 ⟨rfl, hb1⟩
                refine ⟨_, rfl, hb1, ?_⟩
                rfl
              · intro w hB; rintro _ ⟨_, rfl⟩
                simp only [St.withD, List.nil_append, List.cons_append, Act.put, List.setIfInBounds_toArray, List.set_cons_zero, List.set_cons_succ]
                refine St.ob_value (v := ?_) (w' := w) (by rfl) ?_ ⟨Below.refl _ _, ?_⟩
                rotate_left
                · go_simp
                  with_reducible rfl
                · rfl
              · intro w hB; rintro _ ⟨_, rfl⟩
                simp only [St.withD, List.nil_append, List.cons_append, Act.put, List.setIfInBounds_toArray, List.set_cons_zero, List.set_cons_succ]
                refine St.ob_value (v := ?_) (w' := w) (by rfl) ?_ ⟨Below.refl _ _, ?_⟩
                rotate_left
                · go_simp
                  with_reducible rfl
                · rfl
            case hst => exact ⟨St.eqT_st, St.eqT_st, St.eqT_st, St.eqT_st, St.eqT_st, St.eqT_st, St.eqT_st, St.eqT_st, St.eqT_st, St.eqT_st, St.eqT_st, St.eqT_st, St.eqT_st, St.eqT_st, St.eqT_st, St.eqT_st, trivial⟩
            case h0 => exact below_drew (Below.refl _ _)
            case hB => exact fun w w' h k => below_step h k
            case hend =>
              intro w hB
              rintro _ rfl _ rfl _ rfl _ rfl _ rfl _ rfl _ rfl _ rfl _ rfl _ rfl _ rfl _ rfl _ rfl _ rfl _ rfl _ rfl
              simp only [List.map_cons, List.map_nil, List.nil_append, List.cons_append, List.getD_cons_zero, List.getD_cons_succ, Act.put, List.setIfInBounds_toArray, List.set_cons_zero, List.set_cons_succ]
              rw [St.withE_nil]
              have HB3 := Aside0.mk hB
              clear hB HCA HCB
              by_cases hxy : x = y
              · have hxy1 : (x != y) = false := by simp [hxy]
                have HE : Aside0 (o = false) := ⟨by rw [HV.out, hxy1]; simp⟩
                clear hxy
                go_wp2
                go_ret
                rw [HO.out, HE.out]
                exact ⟨rfl, below_step HB2.out HB3.out⟩
              · have hxy1 : (x != y) = true := by simp [hxy]
                have HE : Aside0 (o = (u == v)) := ⟨by rw [HV.out, hxy1]; simp⟩
                clear hxy
                go_wp2_with fail
                refine (HNA.out _ (below_step HB2.out HB3.out)).mono ?_
                rintro e w4 ⟨rfl, hb4⟩
                go_wp2_with fail
                refine (HNB.out _ (below_step (below_step HB2.out HB3.out) hb4)).mono ?_
                rintro e w5 ⟨rfl, hb5⟩
                go_wp2
                go_ret
                rw [HO.out, HE.out]
                exact ⟨rfl, below_step (below_step (below_step HB2.out HB3.out) hb4) hb5⟩
          · have HE : Aside0 (o = true) := ⟨by rw [HV0.out]; rfl⟩
            go_wp2
            go_ret
            rw [HO.out, HE.out]
            exact ⟨rfl, HB2.out⟩

        · have hci : ¬ (i : Int) < (h : Int) := by omega
          have hcj : (h : Int) ≤ (i : Int) := by omega
          have HV0 := Aside0.mk (HUH.out hc)
          have hst2 := HSH.out hc
          have HIH := Aside0.mk (ih (n - h) (by omega) (i - h) a b p.dropLast (some ad) c k w1 (by omega) (by omega) (by omega) ha hb (by rw [List.length_dropLast, HK.out]; rfl) (by omega) (by omega) hc0 HR.out.dropLast (fun x hx => HV.out x ((List.dropLast_sublist p).subset hx)))
          have HCA : Aside0 (∀ w, Below w1.heap.size w1 w → Calls Try.prog 14 #[.int .i64 (((n - h) : Nat) : Int), .int .i64 (((i - h) : Nat) : Int), .int .u64 a, .slice (some ad) k c] w fun e w' => e = .returned (.int .u64 (climb pr (n - h) (i - h) a p.dropLast)) ∧ Below w.heap.size w w') := ⟨fun w hw => refClimb_any (n - h) (i - h) a p.dropLast (some ad) c k w (by omega) (by omega) (by omega) ha (by rw [List.length_dropLast, HK.out]; rfl) (by omega) (by omega) hc0 ((HR.out.below hw).dropLast) (fun x hx => HV.out x ((List.dropLast_sublist p).subset hx))⟩
          have HCB : Aside0 (∀ w, Below w1.heap.size w1 w → Calls Try.prog 14 #[.int .i64 (((n - h) : Nat) : Int), .int .i64 (((i - h) : Nat) : Int), .int .u64 b, .slice (some ad) k c] w fun e w' => e = .returned (.int .u64 (climb pr (n - h) (i - h) b p.dropLast)) ∧ Below w.heap.size w w') := ⟨fun w hw => refClimb_any (n - h) (i - h) b p.dropLast (some ad) c k w (by omega) (by omega) (by omega) hb (by rw [List.length_dropLast, HK.out]; rfl) (by omega) (by omega) hc0 ((HR.out.below hw).dropLast) (fun x hx => HV.out x ((List.dropLast_sublist p).subset hx))⟩
          obtain ⟨o, ho⟩ : ∃ o, collides pr n i a b p = o := ⟨_, rfl⟩
          obtain ⟨q, hq⟩ : ∃ q, collides pr (n - h) (i - h) a b p.dropLast = q := ⟨_, rfl⟩
          obtain ⟨x, hx⟩ : ∃ x, climb pr (n - h) (i - h) a p.dropLast = x := ⟨_, rfl⟩
          obtain ⟨y, hy⟩ : ∃ y, climb pr (n - h) (i - h) b p.dropLast = y := ⟨_, rfl⟩
          obtain ⟨u, hu⟩ : ∃ u, climb pr n i a p = u := ⟨_, rfl⟩
          obtain ⟨v, hv⟩ : ∃ v, climb pr n i b p = v := ⟨_, rfl⟩
          rw [ho, hq, hx, hy, hu, hv] at HV0
          rw [hx] at HCA
          rw [hy] at HCB
          rw [hq] at HIH
          rw [hu] at HNA
          rw [hv] at HNB
          have HO := Aside0.mk ho
          clear ho hq hx hy hu hv ih HUL HUH HSL HSH hst2
          go_wp2_with fail
          have hcast : (i : Int) - (h : Int) = ((i - h : Nat) : Int) := by omega
          have hcast2 : (n : Int) - (h : Int) = ((n - h : Nat) : Int) := by omega
          simp only [hcast, hcast2]
          clear hcast hcast2
          obtain ⟨m, hm⟩ : ∃ m, n - h = m := ⟨_, rfl⟩
          obtain ⟨j, hj⟩ : ∃ j, i - h = j := ⟨_, rfl⟩
          rw [hm, hj] at HCA HCB HIH
          rw [hm, hj]
          clear hm hj
          refine HIH.out.mono ?_
          rintro e w2 ⟨rfl, hb2⟩
          have HB2 := Aside0.mk hb2
          clear hb2 HIH
          cases q
          · have HV : Aside0 (o = (x != y && u == v)) := ⟨by rw [HV0.out]; rfl⟩
            have HCA : Aside0 (∀ w, Below w2.heap.size w2 w → _) := ⟨fun w hw => HCA.out w (below_step HB2.out hw)⟩
            have HCB : Aside0 (∀ w, Below w2.heap.size w2 w → _) := ⟨fun w hw => HCB.out w (below_step HB2.out hw)⟩
            clear HV0
            go_wp2
            refine St.steadyR (n := 16) (by kernel_rfl) ([] :: [] :: [] :: [] :: [] :: [(3, 46), (4, 47)] :: [(0, 43), (1, 44), (2, 45), (5, 48)] :: [] :: [] :: [] :: [] :: [] :: [(10, 53), (11, 54)] :: [(7, 50), (8, 51), (9, 52), (12, 55)] :: [(6, 49)] :: [(13, 56)] :: []) (some 43 :: some 44 :: some 45 :: some 46 :: some 47 :: some 48 :: some 49 :: some 50 :: some 51 :: some 52 :: some 53 :: some 54 :: some 55 :: some 56 :: some 15 :: some 16 :: []) (by kernel_rfl) ((St.eqT ?c9_0x15) :: (St.eqT ?c9_1x15) :: (St.eqT ?c9_2x15) :: (St.eqT ?c9_3x15) :: (St.eqT ?c9_4x15) :: (St.eqT ?c9_5x15) :: (St.eqT ?c9_6x15) :: (St.eqT ?c9_7x15) :: (St.eqT ?c9_8x15) :: (St.eqT ?c9_9x15) :: (St.eqT ?c9_10x15) :: (St.eqT ?c9_11x15) :: (St.eqT ?c9_12x15) :: (St.eqT ?c9_13x15) :: (St.eqT ?c9_14x15) :: (St.eqT ?c9_15x15) :: []) rfl (by rfl) (fun w' => Below w2.heap.size w2 w') (fun w w' => Below w.heap.size w w') ?hst ?h0 ?hB ?hop ?hend
            case hop =>
              refine ⟨?_, ?_, ?_, ?_, ?_, ?_, ?_, ?_, ?_, ?_, ?_, ?_, ?_, ?_, ?_, ?_, trivial⟩
              · intro w hB
                simp only [St.withD]
                refine St.ob_value (v := ?_) (w' := w) (by rfl) ?_ ⟨Below.refl _ _, ?_⟩
                rotate_left
                · go_simp
                  with_reducible rfl
                · rfl
              · intro w hB
                simp only [St.withD]
                refine St.ob_value (v := ?_) (w' := w) (by rfl) ?_ ⟨Below.refl _ _, ?_⟩
                rotate_left
                · go_simp
                  with_reducible rfl
                · rfl
              · intro w hB
                simp only [St.withD]
                refine St.ob_value (v := ?_) (w' := w) (by rfl) ?_ ⟨Below.refl _ _, ?_⟩
                rotate_left
                · go_simp
                  with_reducible rfl
                · rfl
              · intro w hB
                simp only [St.withD]
                refine St.ob_value (v := ?_) (w' := w) (by rfl) ?_ ⟨Below.refl _ _, ?_⟩
                rotate_left
                · go_simp
                  with_reducible rfl
                · rfl
              · intro w hB
                simp only [St.withD]
                refine St.ob_value (v := ?_) (w' := w) (by rfl) ?_ ⟨Below.refl _ _, ?_⟩
                rotate_left
                · go_simp
                  with_reducible rfl
                · rfl
              · intro w hB; rintro _ ⟨_, rfl⟩ _ ⟨_, rfl⟩
                simp only [St.withD, List.nil_append, List.cons_append, Act.put, List.setIfInBounds_toArray, List.set_cons_zero, List.set_cons_succ]
                refine St.ob_value (v := ?_) (w' := w) (by rfl) ?_ ⟨Below.refl _ _, ?_⟩
                rotate_left
                · go_simp
                  with_reducible rfl
                · rfl
              · intro w hB; rintro _ ⟨_, rfl⟩ _ ⟨_, rfl⟩ _ ⟨_, rfl⟩ _ ⟨_, rfl⟩
                simp only [St.withD, List.nil_append, List.cons_append, Act.put, List.setIfInBounds_toArray, List.set_cons_zero, List.set_cons_succ]
                refine St.ob_call Try.func14 (by kernel_rfl) rfl #[.int .i64 m, .int .i64 j, .int .u64 a, .slice (some ad) k c] (by rfl) rfl (by (try simp only [List.map_toArray, List.map_cons, List.map_nil]); first | done | rfl | (simp only [List.length_drop, List.length_take]; rfl)) ?_
                refine (HCA.out w hB).mono ?_
                rintro e w1 ⟨rfl, hb1⟩
                refine ⟨_, rfl, hb1, ?_⟩
                rfl
              · intro w hB
                simp only [St.withD]
                refine St.ob_value (v := ?_) (w' := w) (by rfl) ?_ ⟨Below.refl _ _, ?_⟩
                rotate_left
                · go_simp
                  with_reducible rfl
                · rfl
              · intro w hB
                simp only [St.withD]
                refine St.ob_value (v := ?_) (w' := w) (by rfl) ?_ ⟨Below.refl _ _, ?_⟩
                rotate_left
                · go_simp
                  with_reducible rfl
                · rfl
              · intro w hB
                simp only [St.withD]
                refine St.ob_value (v := ?_) (w' := w) (by rfl) ?_ ⟨Below.refl _ _, ?_⟩
                rotate_left
                · go_simp
                  with_reducible rfl
                · rfl
              · intro w hB
                simp only [St.withD]
                refine St.ob_value (v := ?_) (w' := w) (by rfl) ?_ ⟨Below.refl _ _, ?_⟩
                rotate_left
                · go_simp
                  with_reducible rfl
                · rfl
              · intro w hB
                simp only [St.withD]
                refine St.ob_value (v := ?_) (w' := w) (by rfl) ?_ ⟨Below.refl _ _, ?_⟩
                rotate_left
                · go_simp
                  with_reducible rfl
                · rfl
              · intro w hB; rintro _ ⟨_, rfl⟩ _ ⟨_, rfl⟩
                simp only [St.withD, List.nil_append, List.cons_append, Act.put, List.setIfInBounds_toArray, List.set_cons_zero, List.set_cons_succ]
                refine St.ob_value (v := ?_) (w' := w) (by rfl) ?_ ⟨Below.refl _ _, ?_⟩
                rotate_left
                · go_simp
                  with_reducible rfl
                · rfl
              · intro w hB; rintro _ ⟨_, rfl⟩ _ ⟨_, rfl⟩ _ ⟨_, rfl⟩ _ ⟨_, rfl⟩
                simp only [St.withD, List.nil_append, List.cons_append, Act.put, List.setIfInBounds_toArray, List.set_cons_zero, List.set_cons_succ]
                refine St.ob_call Try.func14 (by kernel_rfl) rfl #[.int .i64 m, .int .i64 j, .int .u64 b, .slice (some ad) k c] (by rfl) rfl (by (try simp only [List.map_toArray, List.map_cons, List.map_nil]); first | done | rfl | (simp only [List.length_drop, List.length_take]; rfl)) ?_
                refine (HCB.out w hB).mono ?_
                rintro e w1 ⟨rfl, hb1⟩
                refine ⟨_, rfl, hb1, ?_⟩
                rfl
              · intro w hB; rintro _ ⟨_, rfl⟩
                simp only [St.withD, List.nil_append, List.cons_append, Act.put, List.setIfInBounds_toArray, List.set_cons_zero, List.set_cons_succ]
                refine St.ob_value (v := ?_) (w' := w) (by rfl) ?_ ⟨Below.refl _ _, ?_⟩
                rotate_left
                · go_simp
                  with_reducible rfl
                · rfl
              · intro w hB; rintro _ ⟨_, rfl⟩
                simp only [St.withD, List.nil_append, List.cons_append, Act.put, List.setIfInBounds_toArray, List.set_cons_zero, List.set_cons_succ]
                refine St.ob_value (v := ?_) (w' := w) (by rfl) ?_ ⟨Below.refl _ _, ?_⟩
                rotate_left
                · go_simp
                  with_reducible rfl
                · rfl
            case hst => exact ⟨St.eqT_st, St.eqT_st, St.eqT_st, St.eqT_st, St.eqT_st, St.eqT_st, St.eqT_st, St.eqT_st, St.eqT_st, St.eqT_st, St.eqT_st, St.eqT_st, St.eqT_st, St.eqT_st, St.eqT_st, St.eqT_st, trivial⟩
            case h0 => exact below_drew (Below.refl _ _)
            case hB => exact fun w w' h k => below_step h k
            case hend =>
              intro w hB
              rintro _ rfl _ rfl _ rfl _ rfl _ rfl _ rfl _ rfl _ rfl _ rfl _ rfl _ rfl _ rfl _ rfl _ rfl _ rfl _ rfl
              simp only [List.map_cons, List.map_nil, List.nil_append, List.cons_append, List.getD_cons_zero, List.getD_cons_succ, Act.put, List.setIfInBounds_toArray, List.set_cons_zero, List.set_cons_succ]
              rw [St.withE_nil]
              have HB3 := Aside0.mk hB
              clear hB HCA HCB
              by_cases hxy : x = y
              · have hxy1 : (x != y) = false := by simp [hxy]
                have HE : Aside0 (o = false) := ⟨by rw [HV.out, hxy1]; simp⟩
                clear hxy
                go_wp2
                go_ret
                rw [HO.out, HE.out]
                exact ⟨rfl, below_step HB2.out HB3.out⟩
              · have hxy1 : (x != y) = true := by simp [hxy]
                have HE : Aside0 (o = (u == v)) := ⟨by rw [HV.out, hxy1]; simp⟩
                clear hxy
                go_wp2_with fail
                refine (HNA.out _ (below_step HB2.out HB3.out)).mono ?_
                rintro e w4 ⟨rfl, hb4⟩
                go_wp2_with fail
                refine (HNB.out _ (below_step (below_step HB2.out HB3.out) hb4)).mono ?_
                rintro e w5 ⟨rfl, hb5⟩
                go_wp2
                go_ret
                rw [HO.out, HE.out]
                exact ⟨rfl, below_step (below_step (below_step HB2.out HB3.out) hb4) hb5⟩
          · have HE : Aside0 (o = true) := ⟨by rw [HV0.out]; rfl⟩
            go_wp2
            go_ret
            rw [HO.out, HE.out]
            exact ⟨rfl, HB2.out⟩

    · obtain rfl : n = 1 := by omega
      rw [collides_one pr i a b p (by omega)]
      clear ih HR HV hst
      go_enter Try.func16, Try.ntmps16
      go_wp2
      go_ret
      exact ⟨rfl, Below.refl _ _⟩
end Go.Proofs.Ytfafekejjnpbcaa
