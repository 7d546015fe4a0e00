/- BestLeast: the walk. -/
import Derived.Test.YtfijbhacobjjgadProg
import Derived.Test.YtfijbhacobjjgadVals
import Derived.Test.YtfijbhacobjjgadWLast
import Derived.Test.YtfijbhacobjjgadWMore
import Derived.RegionTactic
import Derived.ChangeAlike
import Derived.BigRegion
import Derived.WalkLawsBesides
import Derived.WalkSpells
import Derived.Deep.LoopGhost
import Derived.Deep.QuietTactic
import Derived.BigQuiet
import Derived.OwnWalk
import Derived.Test.YtfijbhacobjjgadAwakeA
import Derived.OpenShut
namespace Go.Proofs.Ytfijbhacobjjgad
open Go.RowKit Go.Proofs.YtfijbhacobjjgadW.PrintWords Go.Proofs.YtfijbhacobjjgadW.PrintLast Go.Proofs.YtfijbhacobjjgadW.PrintMore Go.Proofs.Ytfijbhacobjjgad.Fr
set_option linter.unusedVariables false
set_option linter.unusedSimpArgs false
attribute [local go_sem] max2_int min2_int max_two min_two

open Pl
theorem all_get (D X : ByteArray) (i : Nat) : (D.data.toList ++ X.data.toList).getD i 0 = bg (D ++ X) i := by
  unfold bg
  rw [app_list]
/-- What is known of the matches. -/
theorem Sx_same (D X : ByteArray) (a o i : Nat) (ha : a < X.size) (hi : i < Sx (D ++ X) D.size a o) : (D.data.toList ++ X.data.toList).getD (D.size + a + i) 0 = (D.data.toList ++ X.data.toList).getD (D.size + a - o + i) 0 := by
  rw [all_get, all_get]
  have := cnt_all (D ++ X) (D.size + a - o) (D.size + a) (D ++ X).size 0 i (Nat.zero_le _) hi
  exact this.2.2.symm
theorem best_right (D X : ByteArray) : right (D.data.toList ++ X.data.toList) (bestS D X) D.size := by
  have hTs : (D ++ X).size = D.size + X.size := ByteArray.size_append ..
  have hl : (D.data.toList ++ X.data.toList).length = D.size + X.size := by rw [List.length_append, data_length, data_length]
  have h := wk_right (fun i => (tb (D ++ X) D.size X.size X.size).getD i zc) X.size (D.data.toList ++ X.data.toList) D.size stN (fun a o => if o ≤ D.size + a then Sx (D ++ X) D.size a o else 0) hl (fun a o i ha hi => by
    by_cases ho : o ≤ D.size + a
    · simp only [if_pos ho] at hi
      have := Sx_same D X a o i ha hi
      rw [this, show D.size + a + i - o = D.size + a - o + i by omega]
    · simp only [if_neg ho] at hi; omega) (fun a o ha => by
    have := Sx_le (D ++ X) D.size X.size hTs a o ha
    show (if o ≤ D.size + a then _ else 0) ≤ _
    split <;> omega) (fun a ha => by
    rcases good_tb D X a ha with h | ⟨h1, h2, h3, h4, h5⟩
    · exact .inl h
    · refine .inr ⟨h1, ?_, h3, h4, h5⟩
      show _ ≤ (if _ then _ else 0)
      rw [if_pos h4]; exact h2) X.size 0 0 (Nat.le_refl _) (Nat.zero_le _)
  rwa [Nat.add_zero, Nat.sub_zero] at h
theorem sumC_costS : ∀ (l : List Stp), (∀ s ∈ l, 0 ≤ s.2.1 ∧ 0 ≤ s.2.2) → sumC l = costS stN l
  | [], _ => rfl
  | s :: r, h => by
    have h1 := h s (List.mem_cons_self ..)
    simp only [sumC, costS]
    rw [sumC_costS r (fun x hx => h x (List.mem_cons_of_mem _ hx)), if_neg (by omega)]
    unfold stN
    rw [Int.toNat_of_nonneg h1.1, Int.toNat_of_nonneg h1.2]
theorem right_pos {all : Bs} : ∀ (l : List Stp) (a : Nat), right all l a → ∀ s ∈ l, 0 ≤ s.2.1 ∧ 0 ≤ s.2.2 ∧ s.2.1 ≤ all.length
  | [], _, _, s, hs => by cases hs
  | x :: r, a, h, s, hs => by
    obtain ⟨h1, _, h3⟩ := h
    unfold okStep at h1
    rcases List.mem_cons.1 hs with rfl | hs
    · omega
    · exact right_pos r _ h3 s hs
theorem cost_right (D X : ByteArray) (l : List Stp) (h : right (D.data.toList ++ X.data.toList) l D.size) : costI X.data.toList l = 8 * ((litsOf X.data.toList l 0).length : Int) + costS stN l := by
  have hf : fits X.data.toList.length l 0 := right_fits (all := D.data.toList ++ X.data.toList) (ah := D.size) (by rw [List.length_append, data_length]) l 0 h
  have := litC_fits X.data.toList l 0 hf
  rw [List.drop_zero] at this
  unfold costI
  rw [this, sumC_costS l (fun s hs => ⟨(right_pos l _ h s hs).1, (right_pos l _ h s hs).2.1⟩)]
theorem best_cost (D X : ByteArray) : costI X.data.toList (bestS D X) = lst D X := by
  have hTs : (D ++ X).size = D.size + X.size := ByteArray.size_append ..
  rw [cost_right D X _ (best_right D X)]
  have h := wk_cost (fun i => (tb (D ++ X) D.size X.size X.size).getD i zc) X.size D.size stN (Sx (D ++ X) D.size) X.data.toList (by rw [data_length]) ?_ (Sx_le (D ++ X) D.size X.size hTs) (good_tb D X) X.size 0 0 (by omega) (by omega) (by omega)
  · rw [Nat.sub_zero] at h
    unfold bestS
    rw [h]
    simp [lst]
  · exact cst_end stN (Sx (D ++ X) D.size) D.size X.size
theorem wk_len (C : Nat → Chc) (n : Nat) : ∀ f a l, (wk C n f a l).length ≤ f
  | 0, _, _ => Nat.le_refl _
  | f + 1, a, l => by
    simp only [wk]
    split
    · simp
    · split
      · have := wk_len C n f (a + 1) (l + 1); omega
      · have := wk_len C n f (a + (C a).1) 0; simp only [List.length_cons]; omega
set_option maxRecDepth 100000 in
set_option maxHeartbeats 4000000 in
theorem least_walk (D : ByteArray) (hD : D.size ≤ 140737488351232) (X : ByteArray) (hX : X.size ≤ 140737488351232) (w : World) :
    Calls Try.prog 3 #[.string D, .string X] w fun e w' => e = .returned (.bool true) ∧ Below w.heap.size w w' := by
  by_cases h1 : 100 < D.size
  · have h2 : (100 : Int) < (D.size : Int) := by omega
    go_enter Try.func3, Try.ntmps3
    go_wp2_with fail
    refine (awake_any w).mono ?_
    rintro e w1 ⟨rfl, hb1⟩
    go_wp2
    go_ret
    exact ⟨rfl, hb1⟩
  · have h2 : ¬ (100 : Int) < (D.size : Int) := by omega
    by_cases h3 : 100 < X.size
    · have h4 : (100 : Int) < (X.size : Int) := by omega
      go_enter Try.func3, Try.ntmps3
      go_wp2_with fail
      refine (awake_any w).mono ?_
      rintro e w1 ⟨rfl, hb1⟩
      go_wp2
      go_ret
      exact ⟨rfl, hb1⟩
    · have h4 : ¬ (100 : Int) < (X.size : Int) := by omega
      have HS := Aside0.mk (fun w => steps_any D X (by omega) (by omega) w)
      have HRL : Aside0 (∀ w, Calls Try.prog 8 #[.string D, .string X] w fun e w' => e = .returned (.int .i64 (lst D X)) ∧ Below w.heap.size w w') := ⟨fun w => rleast_any D X (by omega) (by omega) w⟩
      have HL := Aside0.mk (fun w => least_any D X (by omega) (by omega) w)
      have hll : (bestS D X).length ≤ X.size := wk_len _ _ _ _ _
      have HR : Aside0 (∀ (A : Option Addr) (c : Nat) (w : World), Steps w A (bestS D X) → Calls Try.prog 9 #[.string D, .string X, .slice A (bestS D X).length c] w fun e w' => e = .returned (.bool true) ∧ Below w.heap.size w w') := ⟨fun A c w h => r12_any D X A c (bestS D X) w (by omega) (by omega) (by omega) h (best_right D X)⟩
      have HC : Aside0 (∀ (A : Option Addr) (c : Nat) (w : World), Steps w A (bestS D X) → Calls Try.prog 11 #[.string X, .slice A (bestS D X).length c] w fun e w' => e = .returned (.int .i64 (lst D X)) ∧ Below w.heap.size w w') := ⟨fun A c w h => by
        have := cost_any X A c (bestS D X) w (by omega) (by omega) h (fun s hs => by
          have := (right_pos _ _ (best_right D X) s hs).2.2
          rw [List.length_append, data_length, data_length] at this
          omega)
        rwa [best_cost] at this⟩
      obtain ⟨l, hl⟩ : ∃ l, bestS D X = l := ⟨_, rfl⟩
      obtain ⟨z, hz⟩ : ∃ z, lst D X = z := ⟨_, rfl⟩
      rw [hl] at HS HR HC
      rw [hz] at HRL HL HC
      clear hl hz hll
      go_enter Try.func3, Try.ntmps3
      go_wp2_with fail
      refine (awake_any w).mono ?_
      rintro e w1 ⟨rfl, hb1⟩
      have HB1 := Aside0.mk hb1
      clear hb1
      go_wp2_with fail
      refine (HS.out _).mono ?_
      rintro e w2 ⟨A, c, rfl, hc, hc2, hst, hb2⟩
      have HB2 := Aside0.mk (below_step HB1.out hb2)
      have HST := Aside0.mk hst
      obtain ⟨m, hm⟩ : ∃ m, l.length = m := ⟨_, rfl⟩
      rw [hm] at HR HC
      rw [hm]
      clear hst hb2 hc hm HS
      go_wp2_with fail
      refine (HRL.out _).mono ?_
      rintro e w3 ⟨rfl, hb3⟩
      have HST3 := Aside0.mk (HST.out.below hb3)
      have HB3 := Aside0.mk (below_step HB2.out hb3)
      clear hb3
      go_wp2_with fail
      refine (HR.out _ _ _ HST3.out).mono ?_
      rintro e w4 ⟨rfl, hb4⟩
      have HST4 := Aside0.mk (HST3.out.below hb4)
      have HB4 := Aside0.mk (below_step HB3.out hb4)
      clear hb4
      go_wp2_with fail
      refine (HL.out _).mono ?_
      rintro e w5 ⟨rfl, hb5⟩
      have HST5 := Aside0.mk (HST4.out.below hb5)
      have HB5 := Aside0.mk (below_step HB4.out hb5)
      clear hb5
      go_wp2_with fail
      refine (HC.out _ _ _ HST5.out).mono ?_
      rintro e w6 ⟨rfl, hb6⟩
      go_wp2
      go_ret
      exact ⟨rfl, below_step HB5.out hb6⟩
end Go.Proofs.Ytfijbhacobjjgad
