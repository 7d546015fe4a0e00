/- The contract of Tick. -/
import Derived.Test.YtfijbhacobjjgabPaceA
import Derived.Test.YtfijbhacobjjgabSteadyT
namespace Go.Proofs.Ytfijbhacobjjgab
open Go.RowKit Go.Proofs.YtfijbhacobjjgabW.PrintWords Go.Proofs.YtfijbhacobjjgabW.PrintLast Go.Proofs.YtfijbhacobjjgabW.PrintMore Go.Proofs.Ytfijbhacobjjgab.Fr
set_option linter.unusedVariables false
set_option linter.unusedSimpArgs false

attribute [local go_sem] max2_int min2_int max_two min_two
theorem tick_any (g : Nat) (r b h n y : Int) (hy : bring n 0 1048576 = y) (w0 : World) (hb : BucketAt w0 g r b h) (hr0 : 0 ≤ r) (hr1 : r ≤ 1048576) (hh0 : 0 ≤ h) (hh1 : h ≤ 1048576) :
    Calls Try.prog 15 #[.pointer (some ⟨g, 0, none⟩), .int .i64 n] w0 fun e w' => e = .returned (.int .i64 (mn (h + r * y) b)) ∧ BucketAt w' g r b (mn (h + r * y) b) ∧ Ch (fun i => i = g) w0 w' := by
  have hy0 : 0 ≤ y ∧ y ≤ 1048576 := by rw [← hy]; unfold bring mn mx; constructor <;> (repeat' split) <;> omega
  have hp0 : 0 ≤ r * y := Int.mul_nonneg hr0 hy0.1
  have hp1 : r * y ≤ 1099511627776 := by
    have h1 : r * y ≤ 1048576 * y := Int.mul_le_mul_of_nonneg_right hr1 hy0.1
    have := hy0.2
    omega
  have HBR : Aside0 (∀ w, Calls Try.prog 18 #[.int .i64 n, .int .i64 0, .int .i64 1048576] w fun e w' => e = .returned (.int .i64 y) ∧ w = w') := ⟨fun w => hy ▸ brought_any n 0 1048576 w⟩
  have HB := Aside0.mk hb
  clear hb hy hy0
  go_enter Try.func15, Try.ntmps15
  go_wp2
  refine St.steadyW (n := 21) (by kernel_rfl) ([] :: [] :: [(1, 8)] :: [(2, 9)] :: [(3, 10)] :: [] :: [(5, 12)] :: [(6, 13)] :: [(7, 14)] :: [] :: [(9, 16)] :: [(8, 15), (10, 17)] :: [(4, 11), (11, 18)] :: [] :: [(13, 20)] :: [(14, 21)] :: [(15, 22)] :: [(12, 19), (16, 23)] :: [(0, 7)] :: [(18, 25)] :: [(17, 24), (19, 26)] :: []) (some 7 :: some 8 :: some 9 :: some 10 :: some 11 :: some 12 :: some 13 :: some 14 :: some 15 :: some 16 :: some 17 :: some 18 :: some 19 :: some 20 :: some 21 :: some 22 :: some 23 :: some 24 :: some 25 :: some 26 :: none :: []) (by kernel_rfl) 20 (0 :: 0 :: 0 :: 0 :: 0 :: 0 :: 0 :: 0 :: 0 :: 0 :: 0 :: 0 :: 0 :: 0 :: 0 :: 0 :: 0 :: 0 :: 0 :: 0 :: 1 :: []) (by kernel_rfl) rfl (by decide) ((St.eqT ?c3_0) :: (St.eqT ?c3_1) :: (St.eqT ?c3_2) :: (St.eqT ?c3_3) :: (St.eqT ?c3_4) :: (St.eqT ?c3_5) :: (St.eqT ?c3_6) :: (St.eqT ?c3_7) :: (St.eqT ?c3_8) :: (St.eqT ?c3_9) :: (St.eqT ?c3_10) :: (St.eqT ?c3_11) :: (St.eqT ?c3_12) :: (St.eqT ?c3_13) :: (St.eqT ?c3_14) :: (St.eqT ?c3_15) :: (St.eqT ?c3_16) :: (St.eqT ?c3_17) :: (St.eqT ?c3_18) :: (St.eqT ?c3_19) :: (St.eqT undef) :: []) rfl (by rfl) (fun w' => Drawn0 w0 w') (fun w w' => w = w') (fun _ _ => True) (fun w' => ∃ nq, w' = (w0.drewN nq).setCell ⟨g, 2, none⟩ (.int .i64 (mn (h + r * y) b))) (fun w w' => w = w') ?hst ?h0 ?hB ?hC ?hop ?hend
  case hop =>
    refine ⟨?_, ?_, ?_, ?_, ?_, ?_, ?_, ?_, ?_, ?_, ?_, ?_, ?_, ?_, ?_, ?_, ?_, ?_, ?_, ?_, ?_, trivial⟩
    · intro w hB
      simp only [St.withD]
      refine St.ob_value (v := ?_) (w' := w) (by rfl) ?_ ⟨rfl, ?_⟩
      rotate_left
      · go_simp
        with_reducible rfl
      · rfl
    · intro w hB
      simp only [St.withD]
      refine St.ob_value (v := ?_) (w' := w) (by rfl) ?_ ⟨rfl, ?_⟩
      rotate_left
      · go_simp
        with_reducible rfl
      · rfl
    · intro w hB; rintro _ ⟨_, rfl⟩
      simp only [St.withD, List.nil_append, List.cons_append, Act.put, List.setIfInBounds_toArray, List.set_cons_zero, List.set_cons_succ]
      refine St.ob_value (v := ?_) (w' := w) (by rfl) ?_ ⟨rfl, ?_⟩
      rotate_left
      · go_simp
        with_reducible rfl
      · rfl
    · intro w hB; rintro _ ⟨_, rfl⟩
      simp only [St.withD, List.nil_append, List.cons_append, Act.put, List.setIfInBounds_toArray, List.set_cons_zero, List.set_cons_succ]
      refine St.ob_value (v := ?_) (w' := w) (by rfl) ?_ ⟨rfl, ?_⟩
      rotate_left
      · go_simp
        with_reducible rfl
      · rfl
    · intro w hB; rintro _ ⟨_, rfl⟩
      simp only [St.withD, List.nil_append, List.cons_append, Act.put, List.setIfInBounds_toArray, List.set_cons_zero, List.set_cons_succ]
      have HW : BucketAt w g r b h := by obtain ⟨⟨nq, rfl⟩⟩ := hB; exact HB.out
      have c0 : w.cell? ⟨g, 0, none⟩ = some (.int .i64 r) := (blk_cell HW 0).trans rfl
      have c1 : w.cell? ⟨g, 1, none⟩ = some (.int .i64 b) := (blk_cell HW 1).trans rfl
      have c2 : w.cell? ⟨g, 2, none⟩ = some (.int .i64 h) := (blk_cell HW 2).trans rfl
      clear HW
      refine St.ob_value (v := ?_) (w' := w) (by rfl) ?_ ⟨rfl, ?_⟩
      rotate_left
      · go_simp
        with_reducible rfl
      · rfl
    · intro w hB
      simp only [St.withD]
      refine St.ob_value (v := ?_) (w' := w) (by rfl) ?_ ⟨rfl, ?_⟩
      rotate_left
      · go_simp
        with_reducible rfl
      · rfl
    · intro w hB; rintro _ ⟨_, rfl⟩
      simp only [St.withD, List.nil_append, List.cons_append, Act.put, List.setIfInBounds_toArray, List.set_cons_zero, List.set_cons_succ]
      refine St.ob_value (v := ?_) (w' := w) (by rfl) ?_ ⟨rfl, ?_⟩
      rotate_left
      · go_simp
        with_reducible rfl
      · rfl
    · intro w hB; rintro _ ⟨_, rfl⟩
      simp only [St.withD, List.nil_append, List.cons_append, Act.put, List.setIfInBounds_toArray, List.set_cons_zero, List.set_cons_succ]
      refine St.ob_value (v := ?_) (w' := w) (by rfl) ?_ ⟨rfl, ?_⟩
      rotate_left
      · go_simp
        with_reducible rfl
      · rfl
    · intro w hB; rintro _ ⟨_, rfl⟩
      simp only [St.withD, List.nil_append, List.cons_append, Act.put, List.setIfInBounds_toArray, List.set_cons_zero, List.set_cons_succ]
      have HW : BucketAt w g r b h := by obtain ⟨⟨nq, rfl⟩⟩ := hB; exact HB.out
      have c0 : w.cell? ⟨g, 0, none⟩ = some (.int .i64 r) := (blk_cell HW 0).trans rfl
      have c1 : w.cell? ⟨g, 1, none⟩ = some (.int .i64 b) := (blk_cell HW 1).trans rfl
      have c2 : w.cell? ⟨g, 2, none⟩ = some (.int .i64 h) := (blk_cell HW 2).trans rfl
      clear HW
      refine St.ob_value (v := ?_) (w' := w) (by rfl) ?_ ⟨rfl, ?_⟩
      rotate_left
      · go_simp
        with_reducible rfl
      · rfl
    · intro w hB
      simp only [St.withD]
      refine St.ob_value (v := ?_) (w' := w) (by rfl) ?_ ⟨rfl, ?_⟩
      rotate_left
      · go_simp
        with_reducible rfl
      · rfl
    · intro w hB; rintro _ ⟨_, rfl⟩
      simp only [St.withD, List.nil_append, List.cons_append, Act.put, List.setIfInBounds_toArray, List.set_cons_zero, List.set_cons_succ]
      refine St.ob_call Try.func18 (by kernel_rfl) rfl #[.int .i64 n, .int .i64 0, .int .i64 1048576] (by rfl) rfl (by (try simp only [List.map_toArray, List.map_cons, List.map_nil]); first | done | rfl | (simp only [List.length_drop, List.length_take]; rfl)) ?_
      refine (HBR.out w).mono ?_
      rintro e w1 ⟨rfl, rfl⟩
      refine ⟨_, rfl, rfl, ?_⟩
      rfl
    · intro w hB; rintro _ ⟨_, rfl⟩ _ ⟨_, rfl⟩
      simp only [St.withD, List.nil_append, List.cons_append, Act.put, List.setIfInBounds_toArray, List.set_cons_zero, List.set_cons_succ]
      refine St.ob_value (v := ?_) (w' := w) (by rfl) ?_ ⟨rfl, ?_⟩
      rotate_left
      · go_simp
        with_reducible rfl
      · rfl
    · intro w hB; rintro _ ⟨_, rfl⟩ _ ⟨_, rfl⟩
      simp only [St.withD, List.nil_append, List.cons_append, Act.put, List.setIfInBounds_toArray, List.set_cons_zero, List.set_cons_succ]
      refine St.ob_value (v := ?_) (w' := w) (by rfl) ?_ ⟨rfl, ?_⟩
      rotate_left
      · go_simp
        with_reducible rfl
      · rfl
    · intro w hB
      simp only [St.withD]
      refine St.ob_value (v := ?_) (w' := w) (by rfl) ?_ ⟨rfl, ?_⟩
      rotate_left
      · go_simp
        with_reducible rfl
      · rfl
    · intro w hB; rintro _ ⟨_, rfl⟩
      simp only [St.withD, List.nil_append, List.cons_append, Act.put, List.setIfInBounds_toArray, List.set_cons_zero, List.set_cons_succ]
      refine St.ob_value (v := ?_) (w' := w) (by rfl) ?_ ⟨rfl, ?_⟩
      rotate_left
      · go_simp
        with_reducible rfl
      · rfl
    · intro w hB; rintro _ ⟨_, rfl⟩
      simp only [St.withD, List.nil_append, List.cons_append, Act.put, List.setIfInBounds_toArray, List.set_cons_zero, List.set_cons_succ]
      refine St.ob_value (v := ?_) (w' := w) (by rfl) ?_ ⟨rfl, ?_⟩
      rotate_left
      · go_simp
        with_reducible rfl
      · rfl
    · intro w hB; rintro _ ⟨_, rfl⟩
      simp only [St.withD, List.nil_append, List.cons_append, Act.put, List.setIfInBounds_toArray, List.set_cons_zero, List.set_cons_succ]
      have HW : BucketAt w g r b h := by obtain ⟨⟨nq, rfl⟩⟩ := hB; exact HB.out
      have c0 : w.cell? ⟨g, 0, none⟩ = some (.int .i64 r) := (blk_cell HW 0).trans rfl
      have c1 : w.cell? ⟨g, 1, none⟩ = some (.int .i64 b) := (blk_cell HW 1).trans rfl
      have c2 : w.cell? ⟨g, 2, none⟩ = some (.int .i64 h) := (blk_cell HW 2).trans rfl
      clear HW
      refine St.ob_value (v := ?_) (w' := w) (by rfl) ?_ ⟨rfl, ?_⟩
      rotate_left
      · go_simp
        with_reducible rfl
      · rfl
    · intro w hB; rintro _ ⟨_, rfl⟩ _ ⟨_, rfl⟩
      simp only [St.withD, List.nil_append, List.cons_append, Act.put, List.setIfInBounds_toArray, List.set_cons_zero, List.set_cons_succ]
      refine St.ob_value (v := ?_) (w' := w) (by rfl) ?_ ⟨rfl, ?_⟩
      rotate_left
      · go_simp
        with_reducible rfl
      · rfl
    · intro w hB; rintro _ ⟨_, rfl⟩
      simp only [St.withD, List.nil_append, List.cons_append, Act.put, List.setIfInBounds_toArray, List.set_cons_zero, List.set_cons_succ]
      refine St.ob_value (v := ?_) (w' := w) (by rfl) ?_ ⟨rfl, ?_⟩
      rotate_left
      · go_simp
        with_reducible rfl
      · rfl
    · intro w hB; rintro _ ⟨_, rfl⟩
      simp only [St.withD, List.nil_append, List.cons_append, Act.put, List.setIfInBounds_toArray, List.set_cons_zero, List.set_cons_succ]
      refine St.ob_value (v := ?_) (w' := w) (by rfl) ?_ ⟨rfl, ?_⟩
      rotate_left
      · go_simp
        with_reducible rfl
      · rfl
    · intro w hB; rintro _ ⟨_, rfl⟩ _ ⟨_, rfl⟩
      simp only [St.withD, List.nil_append, List.cons_append, Act.put, List.setIfInBounds_toArray, List.set_cons_zero, List.set_cons_succ]
      obtain ⟨⟨nq, rfl⟩⟩ := hB
      have f2 : (w0.drewN nq).frozen? ⟨g, 2, none⟩ = false := blk_frozen (w := w0.drewN nq) HB.out 2
      refine St.ob_skip (w' := (w0.drewN nq).setCell ⟨g, 2, none⟩ (.int .i64 (mn (h + r * y) b))) (by rfl) ?_ ⟨⟨trivial, nq, rfl⟩, rfl⟩
      have hw1 : IntKind.i64.wrap (r * y) = r * y := by rw [IntKind.wrap_i64]; omega
      have hw2 : IntKind.i64.wrap (h + r * y) = h + r * y := by rw [IntKind.wrap_i64]; omega
      have c2 : w0.cell? ⟨g, 2, none⟩ = some (.int .i64 h) := (blk_cell HB.out 2).trans rfl
      go_simp
      try rw [hw1, hw2]
      try rfl
  case hst => exact ⟨St.eqT_st, St.eqT_st, St.eqT_st, St.eqT_st, St.eqT_st, St.eqT_st, St.eqT_st, St.eqT_st, St.eqT_st, St.eqT_st, St.eqT_st, St.eqT_st, St.eqT_st, St.eqT_st, St.eqT_st, St.eqT_st, St.eqT_st, St.eqT_st, St.eqT_st, St.eqT_st, St.eqT_st, trivial⟩
  case h0 => exact Drawn0.step (Drawn0.refl _) 1
  case hB => exact fun w w' h e => e ▸ h
  case hC => (intro w w' h e; subst e; exact h)
  case hend =>
    intro w hB
    rintro _ rfl _ rfl _ rfl _ rfl _ rfl _ rfl _ rfl _ rfl _ rfl _ rfl _ rfl _ rfl _ rfl _ rfl _ rfl _ rfl _ rfl _ rfl _ rfl _ rfl _ rfl
    simp only [List.map_cons, List.map_nil, List.nil_append, List.cons_append, List.getD_cons_zero, List.getD_cons_succ, Act.put, List.setIfInBounds_toArray, List.set_cons_zero, List.set_cons_succ]
    rw [St.withE_nil]
    obtain ⟨nq, rfl⟩ := hB
    have HK : Aside0 (BucketAt ((w0.drewN nq).setCell ⟨g, 2, none⟩ (.int .i64 (mn (h + r * y) b))) g r b (mn (h + r * y) b)) := ⟨blk_put (w := w0.drewN nq) HB.out 2 _ rfl⟩
    have HC : Aside0 (Ch (fun i => i = g) w0 ((w0.drewN nq).setCell ⟨g, 2, none⟩ (.int .i64 (mn (h + r * y) b)))) := ⟨((Ch.refl _ _).drewN nq).set rfl⟩
    generalize (w0.drewN nq).setCell ⟨g, 2, none⟩ (.int .i64 (mn (h + r * y) b)) = V at HK HC ⊢
    have c2 : V.cell? ⟨g, 2, none⟩ = some (.int .i64 (mn (h + r * y) b)) := (blk_cell HK.out 2).trans rfl
    go_wp2
    all_goals go_ret
    all_goals exact ⟨rfl, HK.out, HC.out⟩
end Go.Proofs.Ytfijbhacobjjgab
