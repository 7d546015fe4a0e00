/- Verify, and the check that all is awake. -/
import Derived.Test.YtfafekejjnpbcaaProg
import Derived.Test.YtfafekejjnpbcaaVals
import Derived.Test.YtfafekejjnpbcaaWLast
import Derived.Test.YtfafekejjnpbcaaWMore
import Derived.RegionTactic
import Derived.ChangeAlike
import Derived.BigRegion
import Derived.WalkLawsBesides
import Derived.WalkSpells
import Derived.Deep.LoopGhost
import Derived.Deep.QuietTactic
import Derived.BigQuiet
import Derived.OwnWalk
import Derived.Test.YtfafekejjnpbcaaClimbA
import Derived.StillTailTactics
namespace Go.Proofs.Ytfafekejjnpbcaa
open Go.RowKit Go.Proofs.YtfafekejjnpbcaaW.PrintWords Go.Proofs.YtfafekejjnpbcaaW.PrintLast Go.Proofs.YtfafekejjnpbcaaW.PrintMore Go.Proofs.Ytfafekejjnpbcaa.Fr
set_option linter.unusedVariables false
set_option linter.unusedSimpArgs false
attribute [local go_sem] max2_int min2_int max_two min_two

open Pl
theorem verify_out (r n i : Int) (s : ByteArray) (v : Value) (w : World) (h : i < 0 ∨ n ≤ i ∨ 1099511627776 < n) : Calls Try.prog 12 #[.int .u64 r, .int .i64 n, .int .i64 i, .string s, v] w fun e w' => e = .returned (.bool false) ∧ w' = w := by
  by_cases h1 : i < 0
  · clear h
    go_enter Try.func12, Try.ntmps12
    go_wp2
    go_ret
    exact ⟨rfl, rfl⟩
  · by_cases h2 : n ≤ i
    · clear h
      go_enter Try.func12, Try.ntmps12
      go_wp2
      go_ret
      exact ⟨rfl, rfl⟩
    · have h3 : 1099511627776 < n := by omega
      clear h
      go_enter Try.func12, Try.ntmps12
      go_wp2
      go_ret
      exact ⟨rfl, rfl⟩
set_option maxRecDepth 100000 in
theorem verify_in (r : Int) (n i : Nat) (s : ByteArray) (p : List Int) (A : Option Addr) (c k : Nat) (w : World) (hn : n ≤ 1099511627776) (hi : i < n) (hs : s.size ≤ 140737488355328) (hk : p.length = k) (hkc : k ≤ c) (hc0 : c ≤ 9223372036854775807) (HR : RdN w A p) (HV : ∀ x ∈ p, 0 ≤ x ∧ x < 18446744073709551616) : Calls Try.prog 12 #[.int .u64 r, .int .i64 n, .int .i64 i, .string s, .slice A k c] w fun e w' => e = .returned (.bool ((up n i (lf s) p).2 && decide ((up n i (lf s) p).1 = r))) ∧ Below w.heap.size w w' := by
  have HC := Aside0.mk (climb_any n i s p A c k w (by omega) hn hi hs hk hkc hc0 HR HV)
  have h1 : (0 : Int) ≤ (i : Int) := by omega
  have h2 : (i : Int) < (n : Int) := by omega
  have h3 : (n : Int) ≤ 1099511627776 := by omega
  clear HR HV hk
  go_enter Try.func12, Try.ntmps12
  go_wp2_with fail
  refine HC.out.mono ?_
  rintro e w1 ⟨rfl, hb1⟩
  obtain ⟨x, hx⟩ : ∃ x, (up n i (lf s) p).1 = x := ⟨_, rfl⟩
  obtain ⟨b, hb⟩ : ∃ b, (up n i (lf s) p).2 = b := ⟨_, rfl⟩
  have HXB := Aside0.mk (And.intro hx hb)
  rw [hx, hb]
  clear hx hb HC
  cases b
  · go_wp2
    go_ret
    rw [HXB.out.1, HXB.out.2]
    exact ⟨rfl, hb1⟩
  · go_wp2
    go_ret
    rw [HXB.out.1, HXB.out.2]
    exact ⟨rfl, hb1⟩
theorem path_out (n : Nat) (A : Option Addr) (c : Nat) (i : Int) (w : World) (h : i < 0 ∨ (n : Int) ≤ i) : Calls Try.prog 10 #[.slice A n c, .int .i64 i] w fun e w' => e = .returned (.tuple #[.slice none 0 0, .bool false]) ∧ w' = w := by
  by_cases h1 : i < 0
  · clear h
    go_enter Try.func10, Try.ntmps10
    go_wp2
    go_ret2
    exact ⟨rfl, rfl⟩
  · have h2 : (n : Int) ≤ i := by omega
    clear h
    go_enter Try.func10, Try.ntmps10
    go_wp2
    go_ret2
    exact ⟨rfl, rfl⟩
def ta : ByteArray := ⟨#[97]⟩
def tb : ByteArray := ⟨#[98]⟩
def tc : ByteArray := ⟨#[99]⟩
theorem lf_in (s : ByteArray) : 0 ≤ lf s ∧ lf s < 18446744073709551616 := endS_in _
theorem half3 : half 3 = 2 := by decide
theorem half2 : half 2 = 1 := by decide
theorem root2 (x y : ByteArray) : root lf pr [x, y] = pr (lf x) (lf y) := by
  rw [root_two lf pr _ (by simp)]
  simp only [List.length_cons, List.length_nil, Nat.zero_add, Nat.reduceAdd, half2, List.take_succ_cons, List.take_zero, List.drop_succ_cons, List.drop_zero]
  rw [root_one, root_one]
theorem root3 (x y z : ByteArray) : root lf pr [x, y, z] = pr (pr (lf x) (lf y)) (lf z) := by
  rw [root_two lf pr _ (by simp)]
  simp only [List.length_cons, List.length_nil, Nat.zero_add, Nat.reduceAdd, half3, List.take_succ_cons, List.take_zero, List.drop_succ_cons, List.drop_zero]
  rw [root2, root_one]
theorem path3 (x y z : ByteArray) : (path lf pr [x, y, z] 2).length = 1 := by
  rw [path_length lf pr 3 _ 2 rfl, steps_high (by decide) (by decide), half3, steps_one _ (by decide)]
theorem own_rdn {w : World} {B n c : Nat} {A : Option Addr} {l : List Int} (h : w.ownsRow B 24 1 (.slice A l.length c) n (nums .u64 l)) : RdN w A l := by
  obtain ⟨A1, c1, e, _, hr⟩ := own_nums h
  cases e
  intro i hi
  obtain ⟨g, rfl, hc⟩ := hr i hi
  exact ⟨⟨g, 0, none⟩, rfl, by
    rw [show (⟨g, 0, none⟩ : Addr).add i = ⟨g, i, none⟩ by unfold Addr.add; split <;> simp_all]
    exact hc⟩
theorem own_cap {w : World} {B n m c : Nat} {e : TypeId} {A : Option Addr} {l : List Value} (h : w.ownsRow B e 1 (.slice A m c) n l) : c ≤ 9223372036854775807 := by
  rcases h.2 with ⟨e, _⟩ | ⟨g, cap, cur, e, hb, hh, hn, hc, hs, ht⟩
  · cases e; omega
  · cases e
    unfold maxLen at hc
    omega
theorem path_in_range (l : List ByteArray) (i : Nat) : ∀ x ∈ path lf pr l i, 0 ≤ x ∧ x < 18446744073709551616 := by
  suffices H : ∀ (m : Nat) (l : List ByteArray) (i : Nat), l.length = m → ∀ x ∈ path lf pr l i, 0 ≤ x ∧ x < 18446744073709551616 from H _ l i rfl
  intro m
  induction m using Nat.strongRecOn with
  | _ m ih =>
    intro l i hl x hx
    by_cases h : 2 ≤ m
    · have h1 := half_lt h
      have h2 := half_pos m
      by_cases hi : i < half m
      · rw [path_low lf pr l i (by omega) (by rw [hl]; exact hi), hl] at hx
        rcases List.mem_append.1 hx with hx | hx
        · exact ih _ h1 _ i (by rw [List.length_take]; omega) x hx
        · rw [List.mem_singleton.1 hx]; exact root_in _
      · rw [path_high lf pr l i (by omega) (by rw [hl]; exact hi), hl] at hx
        rcases List.mem_append.1 hx with hx | hx
        · exact ih (m - half m) (by omega) _ (i - half m) (by rw [List.length_drop]; omega) x hx
        · rw [List.mem_singleton.1 hx]; exact root_in _
    · rw [path_one lf pr l i (by omega)] at hx
      cases hx
set_option maxRecDepth 100000 in
set_option maxHeartbeats 2000000 in
theorem awake_any (w : World) : Calls Try.prog 7 #[] w fun e w' => e = .returned (.bool true) ∧ Below w.heap.size w w' := by
  have HX : Aside0 (RdS (w.alloc (.cells #[.string ta, .string tb, .string tc] 9)) (some ⟨w.heap.size, 0, none⟩) [ta, tb, tc]) := ⟨fun i hi => ⟨_, rfl, by
    rw [show (⟨w.heap.size, 0, none⟩ : Addr).add i = ⟨w.heap.size, i, none⟩ by unfold Addr.add; split <;> simp_all]
    rw [blk_cell (blk_new w _)]
    match i, hi with
    | 0, _ => rfl
    | 1, _ => rfl
    | 2, _ => rfl
    | i + 3, hi => exact absurd hi (by simp)⟩⟩
  have HSZ : Aside0 (∀ s ∈ [ta, tb, tc], s.size ≤ 140737488355328) := ⟨by intro s hs; simp at hs; rcases hs with rfl | rfl | rfl <;> decide⟩
  have HB0 : Aside0 (Below w.heap.size w (w.alloc (.cells #[.string ta, .string tb, .string tc] 9))) := ⟨below_alloc (Below.refl _ _) _⟩
  go_enter Try.func7, Try.ntmps7
  go_wp2_with fail
  change Calls Try.prog 10 _ (w.alloc (.cells #[.string ta, .string tb, .string tc] 9)) _
  generalize w.alloc (.cells #[.string ta, .string tb, .string tc] 9) = w1 at HX HB0 ⊢
  refine (path_in 3 [ta, tb, tc] _ 3 2 w1 rfl (by decide) (by decide) (by decide) (by decide) HX.out HSZ.out).mono ?_
  rintro e w2 ⟨v, rfl, hown, hb2⟩
  have HP3 := path3 ta tb tc
  have HPR := Aside0.mk (path_in_range [ta, tb, tc] 2)
  have HUP : Aside0 (up 3 2 (lf tc) (path lf pr [ta, tb, tc] 2) = (root lf pr [ta, tb, tc], true)) := ⟨by
    rw [up_steps 3 2 (lf tc) _ (by rw [HP3]; decide +kernel)]
    rw [← climb_path lf pr 3 [ta, tb, tc] 2 rfl (by decide)]
    rfl⟩
  obtain ⟨p, hp⟩ : ∃ p, path lf pr [ta, tb, tc] 2 = p := ⟨_, rfl⟩
  rw [hp] at hown HP3 HPR HUP
  clear hp
  obtain ⟨A, c, rfl, hc, _⟩ := own_nums hown
  have HRP := Aside0.mk (own_rdn hown)
  rw [HP3] at hc
  simp only [HP3]
  have HP := Aside0.mk HP3
  have HX2 := Aside0.mk (HX.out.below hb2)
  have HB2 := Aside0.mk (below_step HB0.out hb2)
  have hcc : c ≤ 9223372036854775807 := own_cap hown
  have HR3 := Aside0.mk (root3 ta tb tc)
  obtain ⟨r, hr⟩ : ∃ r, root lf pr [ta, tb, tc] = r := ⟨_, rfl⟩
  clear HP3 hown hb2
  go_wp2_with fail
  refine (root_any 3 [ta, tb, tc] _ 3 w2 rfl (by decide) (by decide) (by decide) HX2.out HSZ.out).mono ?_
  rintro e w3 ⟨rfl, hb3⟩
  rw [hr]
  go_wp2_with fail
  refine (leaf_any ta w3 (by decide)).mono ?_
  rintro e w4 ⟨rfl, hb4⟩
  go_wp2_with fail
  refine (leaf_any tb w4 (by decide)).mono ?_
  rintro e w5 ⟨rfl, hb5⟩
  go_wp2_with fail
  refine (pair_any _ _ (lf_in ta).1 (lf_in ta).2 (lf_in tb).1 (lf_in tb).2 w5).mono ?_
  rintro e w6 ⟨rfl, hb6⟩
  go_wp2_with fail
  refine (leaf_any tc w6 (by decide)).mono ?_
  rintro e w7 ⟨rfl, hb7⟩
  go_wp2_with fail
  refine (pair_any (pr (lf ta) (lf tb)) (lf tc) (endS_in _).1 (endS_in _).2 (lf_in tc).1 (lf_in tc).2 w7).mono ?_
  rintro e w8 ⟨rfl, hb8⟩
  rw [← HR3.out, hr]
  rw [hr] at HUP
  have HRR := Aside0.mk hr
  clear hr
  have hb28 : Aside0 (Below w2.heap.size w2 w8) := ⟨below_step (below_step (below_step (below_step (below_step hb3 hb4) hb5) hb6) hb7) hb8⟩
  have HX8 := Aside0.mk (HX2.out.below hb28.out)
  have HRP8 := Aside0.mk (HRP.out.below hb28.out)
  clear hb3 hb4 hb5 hb6 hb7 hb8
  go_wp2_with fail
  refine (root_any 3 [ta, tb, tc] _ 3 w8 rfl (by decide) (by decide) (by decide) HX8.out HSZ.out).mono ?_
  rintro e w9 ⟨rfl, hb9⟩
  rw [HRR.out]
  go_wp2_with fail
  refine (verify_in _ 3 2 tc p A c 1 w9 (by decide) (by decide) (by decide) HP.out hc hcc (HRP8.out.below hb9) HPR.out).mono ?_
  rintro e w10 ⟨rfl, hb10⟩
  rw [HUP.out]
  rw [show ((((r, true) : Int × Bool).2 && decide (((r, true) : Int × Bool).1 = r)) = true) by simp]
  go_wp2_with fail
  refine (half_any 3 (by decide) (by decide) w10).mono ?_
  rintro e w11 ⟨rfl, rfl⟩
  rw [half3]
  go_wp2
  go_ret
  exact ⟨rfl, below_step HB2.out (below_step hb28.out (below_step hb9 hb10))⟩
end Go.Proofs.Ytfafekejjnpbcaa
