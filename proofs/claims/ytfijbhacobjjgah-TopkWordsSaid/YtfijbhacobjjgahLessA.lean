/- Which item comes first. -/
import Derived.Test.YtfijbhacobjjgahCmpA
namespace Go.Proofs.Ytfijbhacobjjgah
open Go.RowKit Go.Proofs.YtfijbhacobjjgahW.PrintWords Go.Proofs.YtfijbhacobjjgahW.PrintLast Go.Proofs.YtfijbhacobjjgahW.PrintMore Go.Proofs.Ytfijbhacobjjgah.Fr
set_option linter.unusedVariables false
set_option linter.unusedSimpArgs false
attribute [local go_sem] max2_int min2_int max_two min_two

open Pl
theorem less_cmp (ti tj : ByteArray) (ci cj : Int) : decide (orI (cmpI cj ci) (cmpS ti tj) < 0) = ilt ⟨ti, ci⟩ ⟨tj, cj⟩ := by
  unfold orI cmpI cmpS ilt
  rcases Int.lt_trichotomy cj ci with h | h | h
  · simp [h]
  · subst h
    rcases bl_tot ti.toList tj.toList with h | h | h
    · simp [h]
    · simp [h, bl_irr]
    · simp [h, bl_asym _ _ h]
  · simp [h, show ¬ cj < ci by omega, show ¬ ci = cj by omega]
theorem less_any (g n c i j : Nat) (ti tj : ByteArray) (ci cj : Int) (w0 : World) (hi : i < n) (hj : j < n) (hn : n ≤ 100000) (hc : n ≤ c)
    (h : w0.cell? ⟨g, i * 2, none⟩ = some (.string ti) ∧ w0.cell? ⟨g, i * 2 + 1, none⟩ = some (.int .i64 ci) ∧ w0.cell? ⟨g, j * 2, none⟩ = some (.string tj) ∧ w0.cell? ⟨g, j * 2 + 1, none⟩ = some (.int .i64 cj)) :
    Calls Try.prog 42 #[.slice (some ⟨g, 0, none⟩) n c, .int .i64 i, .int .i64 j] w0 fun e w' => e = .returned (.bool (ilt ⟨ti, ci⟩ ⟨tj, cj⟩)) ∧ Below w0.heap.size w0 w' := by
  have HC := Aside0.mk h
  have HLB := Aside0.mk (less_cmp ti tj ci cj)
  have hi0 : (0 : Int) ≤ i := by omega
  have hj0 : (0 : Int) ≤ j := by omega
  have hiI : (i : Int) < n := by omega
  have hjI : (j : Int) < n := by omega
  clear h
  go_enter Try.func42, Try.ntmps42
  go_wp2
  refine St.steadyR (n := 26) (by kernel_rfl) ([] :: [] :: [(0, 7), (1, 8)] :: [(2, 9)] :: [(3, 10)] :: [] :: [] :: [(5, 12), (6, 13)] :: [(7, 14)] :: [(8, 15)] :: [(4, 11), (9, 16)] :: [] :: [] :: [(11, 18), (12, 19)] :: [(13, 20)] :: [(14, 21)] :: [] :: [] :: [(16, 23), (17, 24)] :: [(18, 25)] :: [(19, 26)] :: [(15, 22), (20, 27)] :: [(10, 17), (21, 28)] :: [(22, 29)] :: [(23, 30)] :: [(24, 31)] :: []) (some 7 :: some 8 :: some 9 :: some 10 :: some 11 :: some 12 :: some 13 :: some 14 :: some 15 :: some 16 :: some 17 :: some 18 :: some 19 :: some 20 :: some 21 :: some 22 :: some 23 :: some 24 :: some 25 :: some 26 :: some 27 :: some 28 :: some 29 :: some 30 :: some 31 :: some 6 :: []) (by kernel_rfl) ((St.eqT ?c1_0) :: (St.eqT ?c1_1) :: (St.eqT ?c1_2) :: (St.eqT ?c1_3) :: (St.eqT ?c1_4) :: (St.eqT ?c1_5) :: (St.eqT ?c1_6) :: (St.eqT ?c1_7) :: (St.eqT ?c1_8) :: (St.eqT ?c1_9) :: (St.eqT ?c1_10) :: (St.eqT ?c1_11) :: (St.eqT ?c1_12) :: (St.eqT ?c1_13) :: (St.eqT ?c1_14) :: (St.eqT ?c1_15) :: (St.eqT ?c1_16) :: (St.eqT ?c1_17) :: (St.eqT ?c1_18) :: (St.eqT ?c1_19) :: (St.eqT ?c1_20) :: (St.eqT ?c1_21) :: (fun _ v w => ∃ q, v = .slice (some ⟨q, 0, none⟩) 2 2 ∧ q < w.heap.size ∧ w.cell? ⟨q, 0, none⟩ = some (.int .i64 (cmpI cj ci)) ∧ w.cell? ⟨q, 1, none⟩ = some (.int .i64 (cmpS ti tj))) :: (St.eqT ?c1_23) :: (St.eqT ?c1_24) :: (St.eqT ?c1_25) :: []) rfl (by rfl) (fun w' => Below w0.heap.size w0 w') (fun w w' => Below w.heap.size w w') ?hst ?h0 ?hB ?hop ?hend
  case hop =>
    refine ⟨?_, ?_, ?_, ?_, ?_, ?_, ?_, ?_, ?_, ?_, ?_, ?_, ?_, ?_, ?_, ?_, ?_, ?_, ?_, ?_, ?_, ?_, ?_, ?_, ?_, ?_, trivial⟩
    · intro w hB
      simp only [St.withD]
      refine St.ob_value (v := ?_) (w' := w) (by rfl) ?_ ⟨Below.refl _ _, ?_⟩
      rotate_left
      · go_simp
        with_reducible rfl
      · rfl
    · intro w hB
      simp only [St.withD]
      refine St.ob_value (v := ?_) (w' := w) (by rfl) ?_ ⟨Below.refl _ _, ?_⟩
      rotate_left
      · go_simp
        with_reducible rfl
      · rfl
    · intro w hB; rintro _ ⟨_, rfl⟩ _ ⟨_, rfl⟩
      simp only [St.withD, List.nil_append, List.cons_append, Act.put, List.setIfInBounds_toArray, List.set_cons_zero, List.set_cons_succ]
      refine St.ob_value (v := ?_) (w' := w) (by rfl) ?_ ⟨Below.refl _ _, ?_⟩
      rotate_left
      · go_simp
        with_reducible rfl
      · rfl
    · intro w hB; rintro _ ⟨_, rfl⟩
      simp only [St.withD, List.nil_append, List.cons_append, Act.put, List.setIfInBounds_toArray, List.set_cons_zero, List.set_cons_succ]
      refine St.ob_value (v := ?_) (w' := w) (by rfl) ?_ ⟨Below.refl _ _, ?_⟩
      rotate_left
      · go_simp
        with_reducible rfl
      · rfl
    · intro w hB; rintro _ ⟨_, rfl⟩
      simp only [St.withD, List.nil_append, List.cons_append, Act.put, List.setIfInBounds_toArray, List.set_cons_zero, List.set_cons_succ]
      have b0 := pw_cell_below hB HC.out.1
      have b1 := pw_cell_below hB HC.out.2.1
      have b2 := pw_cell_below hB HC.out.2.2.1
      have b3 := pw_cell_below hB HC.out.2.2.2
      refine St.ob_value (v := ?_) (w' := w) (by rfl) ?_ ⟨Below.refl _ _, ?_⟩
      rotate_left
      · go_simp
        with_reducible rfl
      · rfl
    · intro w hB
      simp only [St.withD]
      refine St.ob_value (v := ?_) (w' := w) (by rfl) ?_ ⟨Below.refl _ _, ?_⟩
      rotate_left
      · go_simp
        with_reducible rfl
      · rfl
    · intro w hB
      simp only [St.withD]
      refine St.ob_value (v := ?_) (w' := w) (by rfl) ?_ ⟨Below.refl _ _, ?_⟩
      rotate_left
      · go_simp
        with_reducible rfl
      · rfl
    · intro w hB; rintro _ ⟨_, rfl⟩ _ ⟨_, rfl⟩
      simp only [St.withD, List.nil_append, List.cons_append, Act.put, List.setIfInBounds_toArray, List.set_cons_zero, List.set_cons_succ]
      refine St.ob_value (v := ?_) (w' := w) (by rfl) ?_ ⟨Below.refl _ _, ?_⟩
      rotate_left
      · go_simp
        with_reducible rfl
      · rfl
    · intro w hB; rintro _ ⟨_, rfl⟩
      simp only [St.withD, List.nil_append, List.cons_append, Act.put, List.setIfInBounds_toArray, List.set_cons_zero, List.set_cons_succ]
      refine St.ob_value (v := ?_) (w' := w) (by rfl) ?_ ⟨Below.refl _ _, ?_⟩
      rotate_left
      · go_simp
        with_reducible rfl
      · rfl
    · intro w hB; rintro _ ⟨_, rfl⟩
      simp only [St.withD, List.nil_append, List.cons_append, Act.put, List.setIfInBounds_toArray, List.set_cons_zero, List.set_cons_succ]
      have b0 := pw_cell_below hB HC.out.1
      have b1 := pw_cell_below hB HC.out.2.1
      have b2 := pw_cell_below hB HC.out.2.2.1
      have b3 := pw_cell_below hB HC.out.2.2.2
      refine St.ob_value (v := ?_) (w' := w) (by rfl) ?_ ⟨Below.refl _ _, ?_⟩
      rotate_left
      · go_simp
        with_reducible rfl
      · rfl
    · intro w hB; rintro _ ⟨_, rfl⟩ _ ⟨_, rfl⟩
      simp only [St.withD, List.nil_append, List.cons_append, Act.put, List.setIfInBounds_toArray, List.set_cons_zero, List.set_cons_succ]
      refine St.ob_call Try.func46 (by kernel_rfl) rfl #[.int .i64 cj, .int .i64 ci] (by rfl) rfl (by (try simp only [List.map_toArray, List.map_cons, List.map_nil]); first | done | rfl | (simp only [List.length_drop, List.length_take]; rfl)) ?_
      refine (cmp_any cj ci w).mono ?_
      rintro e w1 ⟨rfl, rfl⟩
      refine ⟨_, rfl, Below.refl _ _, ?_⟩
      rfl
    · intro w hB
      simp only [St.withD]
      refine St.ob_value (v := ?_) (w' := w) (by rfl) ?_ ⟨Below.refl _ _, ?_⟩
      rotate_left
      · go_simp
        with_reducible rfl
      · rfl
    · intro w hB
      simp only [St.withD]
      refine St.ob_value (v := ?_) (w' := w) (by rfl) ?_ ⟨Below.refl _ _, ?_⟩
      rotate_left
      · go_simp
        with_reducible rfl
      · rfl
    · intro w hB; rintro _ ⟨_, rfl⟩ _ ⟨_, rfl⟩
      simp only [St.withD, List.nil_append, List.cons_append, Act.put, List.setIfInBounds_toArray, List.set_cons_zero, List.set_cons_succ]
      refine St.ob_value (v := ?_) (w' := w) (by rfl) ?_ ⟨Below.refl _ _, ?_⟩
      rotate_left
      · go_simp
        with_reducible rfl
      · rfl
    · intro w hB; rintro _ ⟨_, rfl⟩
      simp only [St.withD, List.nil_append, List.cons_append, Act.put, List.setIfInBounds_toArray, List.set_cons_zero, List.set_cons_succ]
      refine St.ob_value (v := ?_) (w' := w) (by rfl) ?_ ⟨Below.refl _ _, ?_⟩
      rotate_left
      · go_simp
        with_reducible rfl
      · rfl
    · intro w hB; rintro _ ⟨_, rfl⟩
      simp only [St.withD, List.nil_append, List.cons_append, Act.put, List.setIfInBounds_toArray, List.set_cons_zero, List.set_cons_succ]
      have b0 := pw_cell_below hB HC.out.1
      have b1 := pw_cell_below hB HC.out.2.1
      have b2 := pw_cell_below hB HC.out.2.2.1
      have b3 := pw_cell_below hB HC.out.2.2.2
      refine St.ob_value (v := ?_) (w' := w) (by rfl) ?_ ⟨Below.refl _ _, ?_⟩
      rotate_left
      · go_simp
        with_reducible rfl
      · rfl
    · intro w hB
      simp only [St.withD]
      refine St.ob_value (v := ?_) (w' := w) (by rfl) ?_ ⟨Below.refl _ _, ?_⟩
      rotate_left
      · go_simp
        with_reducible rfl
      · rfl
    · intro w hB
      simp only [St.withD]
      refine St.ob_value (v := ?_) (w' := w) (by rfl) ?_ ⟨Below.refl _ _, ?_⟩
      rotate_left
      · go_simp
        with_reducible rfl
      · rfl
    · intro w hB; rintro _ ⟨_, rfl⟩ _ ⟨_, rfl⟩
      simp only [St.withD, List.nil_append, List.cons_append, Act.put, List.setIfInBounds_toArray, List.set_cons_zero, List.set_cons_succ]
      refine St.ob_value (v := ?_) (w' := w) (by rfl) ?_ ⟨Below.refl _ _, ?_⟩
      rotate_left
      · go_simp
        with_reducible rfl
      · rfl
    · intro w hB; rintro _ ⟨_, rfl⟩
      simp only [St.withD, List.nil_append, List.cons_append, Act.put, List.setIfInBounds_toArray, List.set_cons_zero, List.set_cons_succ]
      refine St.ob_value (v := ?_) (w' := w) (by rfl) ?_ ⟨Below.refl _ _, ?_⟩
      rotate_left
      · go_simp
        with_reducible rfl
      · rfl
    · intro w hB; rintro _ ⟨_, rfl⟩
      simp only [St.withD, List.nil_append, List.cons_append, Act.put, List.setIfInBounds_toArray, List.set_cons_zero, List.set_cons_succ]
      have b0 := pw_cell_below hB HC.out.1
      have b1 := pw_cell_below hB HC.out.2.1
      have b2 := pw_cell_below hB HC.out.2.2.1
      have b3 := pw_cell_below hB HC.out.2.2.2
      refine St.ob_value (v := ?_) (w' := w) (by rfl) ?_ ⟨Below.refl _ _, ?_⟩
      rotate_left
      · go_simp
        with_reducible rfl
      · rfl
    · intro w hB; rintro _ ⟨_, rfl⟩ _ ⟨_, rfl⟩
      simp only [St.withD, List.nil_append, List.cons_append, Act.put, List.setIfInBounds_toArray, List.set_cons_zero, List.set_cons_succ]
      refine St.ob_call Try.func47 (by kernel_rfl) rfl #[.string ti, .string tj] (by rfl) rfl (by (try simp only [List.map_toArray, List.map_cons, List.map_nil]); first | done | rfl | (simp only [List.length_drop, List.length_take]; rfl)) ?_
      refine (cmps_any ti tj w).mono ?_
      rintro e w1 ⟨rfl, rfl⟩
      refine ⟨_, rfl, Below.refl _ _, ?_⟩
      rfl
    · intro w hB; rintro _ ⟨_, rfl⟩ _ ⟨_, rfl⟩
      simp only [St.withD, List.nil_append, List.cons_append, Act.put, List.setIfInBounds_toArray, List.set_cons_zero, List.set_cons_succ]
      refine St.ob_value (v := .slice (some ⟨w.heap.size, 0, none⟩) 2 2) (w' := w.alloc (.cells #[.int .i64 (cmpI cj ci), .int .i64 (cmpS ti tj)] 3)) (by rfl) ?_ ⟨below_alloc (Below.refl _ _) _, w.heap.size, rfl, by simp, (blk_cell (blk_new w _) 0).trans rfl, (blk_cell (blk_new w _) 1).trans rfl⟩
      go_simp
    · intro w hB; rintro v22 ⟨ds22, ht22⟩
      simp only [St.withD, List.nil_append, List.cons_append, Act.put, List.setIfInBounds_toArray, List.set_cons_zero, List.set_cons_succ]
      obtain ⟨q, rfl, hq, h0, h1⟩ := ht22
      refine St.ob_call Try.func45 (by kernel_rfl) rfl #[.slice (some ⟨q, 0, none⟩) 2 2] (by rfl) rfl (by (try simp only [List.map_toArray, List.map_cons, List.map_nil]); first | done | rfl | (simp only [List.length_drop, List.length_take]; rfl)) ?_
      refine (or_two (cmpI cj ci) (cmpS ti tj) q w h0 h1).mono ?_
      rintro e w1 ⟨rfl, rfl⟩
      refine ⟨_, rfl, Below.refl _ _, ?_⟩
      rfl
    · intro w hB; rintro _ ⟨_, rfl⟩
      simp only [St.withD, List.nil_append, List.cons_append, Act.put, List.setIfInBounds_toArray, List.set_cons_zero, List.set_cons_succ]
      refine St.ob_value (v := ?_) (w' := w) (by rfl) ?_ ⟨Below.refl _ _, ?_⟩
      rotate_left
      · go_simp
        with_reducible rfl
      · rfl
    · intro w hB; rintro _ ⟨_, rfl⟩
      simp only [St.withD, List.nil_append, List.cons_append, Act.put, List.setIfInBounds_toArray, List.set_cons_zero, List.set_cons_succ]
      refine St.ob_value (v := ?_) (w' := w) (by rfl) ?_ ⟨Below.refl _ _, ?_⟩
      rotate_left
      · go_simp
        with_reducible rfl
      · rfl
  case hst => exact ⟨St.eqT_st, St.eqT_st, St.eqT_st, St.eqT_st, St.eqT_st, St.eqT_st, St.eqT_st, St.eqT_st, St.eqT_st, St.eqT_st, St.eqT_st, St.eqT_st, St.eqT_st, St.eqT_st, St.eqT_st, St.eqT_st, St.eqT_st, St.eqT_st, St.eqT_st, St.eqT_st, St.eqT_st, St.eqT_st, fun ds v w w' h hR => by (obtain ⟨q, e, hq, h0, h1⟩ := h; exact ⟨q, e, Nat.lt_of_lt_of_le hq hR.size, pw_cell_below hR h0, pw_cell_below hR h1⟩), St.eqT_st, St.eqT_st, St.eqT_st, trivial⟩
  case h0 => exact below_drew1 (Below.refl _ _)
  case hB => exact fun w w' h k => below_step h k
  case hend =>
    intro w hB
    rintro _ rfl _ rfl _ rfl _ rfl _ rfl _ rfl _ rfl _ rfl _ rfl _ rfl _ rfl _ rfl _ rfl _ rfl _ rfl _ rfl _ rfl _ rfl _ rfl _ rfl _ rfl _ rfl v22 ht22 _ rfl _ rfl _ rfl
    simp only [List.map_cons, List.map_nil, List.nil_append, List.cons_append, List.getD_cons_zero, List.getD_cons_succ, Act.put, List.setIfInBounds_toArray, List.set_cons_zero, List.set_cons_succ]
    rw [St.withE_nil]
    have HB := Aside0.mk hB
    clear hB ht22
    go_wp2
    go_ret
    rw [← HLB.out]
    exact ⟨rfl, HB.out⟩
end Go.Proofs.Ytfijbhacobjjgah
