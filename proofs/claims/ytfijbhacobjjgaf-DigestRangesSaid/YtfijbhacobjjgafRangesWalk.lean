/- DigestRanges: the walk. -/
import Derived.Test.YtfijbhacobjjgafRangesA
import Derived.Deep.CutBlock
namespace Go.Proofs.Ytfijbhacobjjgaf
open Go.RowKit Go.Proofs.YtfijbhacobjjgafW.PrintWords Go.Proofs.YtfijbhacobjjgafW.PrintLast Go.Proofs.YtfijbhacobjjgafW.PrintMore Go.Proofs.Ytfijbhacobjjgaf.Fr
set_option linter.unusedVariables false
set_option linter.unusedSimpArgs false
attribute [local go_sem] max2_int min2_int max_two min_two

open Pl

set_option maxRecDepth 100000 in
set_option maxHeartbeats 40000000 in
theorem ranges_in (A : Option Addr) (na ca : Nat) (l : List ByteArray) (a b c : Int) (wa : (Lit.int .i64 a).wf = true) (wb : (Lit.int .i64 b).wf = true) (wc : (Lit.int .i64 c).wf = true) (B : Option Addr) (nb cb : Nat) (m : List ByteArray) (w0 : World) (hLA : LI w0 A na ca l) (hLB : LI w0 B nb cb m)
    (hSA : ∀ w : World, Below w0.heap.size w0 w → Calls Try.prog 7 #[.slice A na ca] w (SmPost true w)) (hSB : ∀ w : World, Below w0.heap.size w0 w → Calls Try.prog 7 #[.slice B nb cb] w (SmPost true w)) :
    Calls Try.prog 5 #[.slice A na ca, .agg #[.int .i64 a, .int .i64 b, .int .i64 c], .slice B nb cb] w0 fun e w' => e = .returned (.bool true) ∧ Below w0.heap.size w0 w' := by
  have HSA := Aside0.mk hSA
  have HSB := Aside0.mk hSB
  have HLA := Aside0.mk hLA
  have HLB := Aside0.mk hLB
  have hna := hLA.ls.le
  have hnb := hLB.ls.le
  have hca := hLA.ls.cap
  have hcb := hLB.ls.cap
  have HWF := Aside0.mk (And.intro wa (And.intro wb wc))
  clear hSA hSB hLA hLB wa wb wc
  go_enter Try.func5, Try.ntmps5
  go_wp2_with fail
  have HX0 : Aside0 (RX a b c w0 (w0.alloc (.cells #[.int .i64 a, .int .i64 b, .int .i64 c] 34))) := ⟨⟨blk_new w0 _, below_alloc (Below.refl _ _) _⟩⟩
  refine (awake_any _).mono ?_
  rintro e w1 ⟨rfl, hb1⟩
  have HX1 : Aside0 (RX a b c w0 w1) := ⟨HX0.out.below hb1⟩
  clear hb1 HX0
  go_wp2_with fail
  refine (HSA.out _ HX1.out.bel).mono ?_
  rintro e w2 ⟨rfl, rfl⟩
  go_wp2_with fail
  refine (HSB.out _ HX1.out.bel).mono ?_
  rintro e w3 ⟨rfl, rfl⟩
  obtain ⟨n0, n1, n2⟩ := HX1.out.cells
  go_wp2_with fail
  refine (of_gen l A na ca a b _ (HLA.out.below HX1.out.bel).ls).mono ?_
  rintro e w4 ⟨⟨ox, oy, oz, rfl, hof⟩, hb4⟩
  have HOF := Aside0.mk hof
  have HX4 : Aside0 (RX a b c w0 (w4.alloc (.cells #[.int .i64 ox, .int .i64 oy, .int .u64 oz] 37))) := ⟨(HX1.out.below hb4).below (below_alloc (Below.refl _ _) _)⟩
  have HB7 : Aside0 ((w4.alloc (.cells #[.int .i64 ox, .int .i64 oy, .int .u64 oz] 37)).heap[w4.heap.size]? = some (.cells #[.int .i64 ox, .int .i64 oy, .int .u64 oz] 37 (0, 0))) := ⟨blk_new w4 _⟩
  clear n0 n1 n2 hb4 hof HX1
  go_upto_region 6 with fail
  generalize w4.alloc (.cells #[.int .i64 ox, .int .i64 oy, .int .u64 oz] 37) = wv at HX4 HB7 ⊢
  generalize w4.heap.size = g7 at HB7 ⊢
  go_cut [9] from 22 to 57 (fun x9 W => x9 = .bool (win a b na) ∧ wv = W)
  case first =>
    skip
    obtain ⟨n0, n1, n2⟩ := HX4.out.cells
    have HW : ∀ r, decide (0 ≤ a ∧ a ≤ b ∧ b ≤ na) = r → Aside0 (win a b na = r) := fun r h => ⟨h⟩
    by_cases h1 : 0 ≤ a
    · by_cases h2 : a ≤ b
      · by_cases h3 : b ≤ na
        · have HQ := HW true (decide_eq_true ⟨h1, h2, h3⟩)
          clear HOF HW
          go_wp2_with fail
          go_meet
          case rel => exact ⟨by rw [HQ.out], rfl⟩
        · have HQ := HW false (decide_eq_false (fun h => h3 h.2.2))
          clear HOF HW
          go_wp2_with fail
          go_meet
          case rel => exact ⟨by rw [HQ.out], rfl⟩
      · have HQ := HW false (decide_eq_false (fun h => h2 h.2.1))
        clear HOF HW
        go_wp2_with fail
        go_meet
        case rel => exact ⟨by rw [HQ.out], rfl⟩
    · have HQ := HW false (decide_eq_false (fun h => h1 h.1))
      clear HOF HW
      go_wp2_with fail
      go_meet
      case rel => exact ⟨by rw [HQ.out], rfl⟩
  case rest =>
  obtain ⟨rfl, rfl⟩ := hcut
  go_upto_region 7 with fail
  go_cut [1, 8, 9, 88] from 22 to 87 (fun x1 x8 x9 x88 W => x1 = .agg #[.int .i64 a, .int .i64 b, .int .i64 c] ∧ x8 = .bool (win a b na) ∧ x9 = .bool (win a b na) ∧ x88 = .bool false ∧ Aside0 (Below wv.heap.size wv W))
  case first =>
    skip
    cases hw : win a b na
    · obtain ⟨rfl, rfl, rfl⟩ := HOF.out.2 hw
      have HQ := Aside0.mk hw
      clear hw HOF
      have hEQ : ∀ w : World, (Op.equalIn 10000 37 (.agg #[.int .i64 0, .int .i64 0, .int .u64 0]) (.agg #[.int .i64 0, .int .i64 0, .int .u64 0])).run Try.prog w = .ok true w := fun w => by have := eqA37 9998 w (0) (0) (0) (0) (0) (0); simpa using this
      refine St.steadyR (n := 31) (by kernel_rfl) ([] :: [] :: [(0, 58), (1, 59)] :: [(2, 60)] :: [(3, 61)] :: [(3, 61), (4, 62)] :: [(3, 61), (5, 63)] :: [(6, 64)] :: [(6, 64)] :: [(6, 64), (7, 65), (8, 66)] :: [(3, 61), (6, 64), (9, 67)] :: [(3, 61), (10, 68)] :: [(11, 69)] :: [(12, 70)] :: [(12, 70), (13, 71)] :: [(14, 72)] :: [(14, 72)] :: [(14, 72), (16, 74)] :: [(14, 72)] :: [(14, 72), (18, 76)] :: [(14, 72)] :: [(14, 72)] :: [(14, 72), (21, 79)] :: [(14, 72)] :: [(14, 72), (23, 81)] :: [(14, 72), (20, 78), (22, 80), (24, 82)] :: [(14, 72), (25, 83)] :: [(14, 72), (17, 75), (19, 77), (26, 84)] :: [(14, 72), (15, 73), (27, 85)] :: [(12, 70), (14, 72), (28, 86)] :: [(12, 70), (29, 87)] :: []) (some 58 :: some 59 :: some 60 :: some 61 :: some 62 :: some 63 :: some 64 :: some 65 :: some 66 :: some 67 :: some 68 :: some 69 :: some 70 :: some 71 :: some 72 :: some 73 :: some 74 :: some 75 :: some 76 :: some 77 :: some 78 :: some 79 :: some 80 :: some 81 :: some 82 :: some 83 :: some 84 :: some 85 :: some 86 :: some 87 :: some 88 :: []) (by kernel_rfl) ((St.eqT ?c7_0x2) :: (St.eqT ?c7_1x2) :: (St.eqT ?c7_2x2) :: (St.eqT ?c7_3x2) :: (St.eqT ?c7_4x2) :: (St.eqT ?c7_5x2) :: (St.eqT ?c7_6x2) :: (St.eqT ?c7_7x2) :: (St.eqT ?c7_8x2) :: (St.eqT (.bool false)) :: (St.eqT ?c7_10x2) :: (St.eqT ?c7_11x2) :: (St.eqT ?c7_12x2) :: (St.eqT ?c7_13x2) :: (St.eqT ?c7_14x2) :: (St.eqT undef) :: (St.eqT undef) :: (St.eqT undef) :: (St.eqT undef) :: (St.eqT undef) :: (St.eqT undef) :: (St.eqT undef) :: (St.eqT undef) :: (St.eqT undef) :: (St.eqT undef) :: (St.eqT undef) :: (St.eqT undef) :: (St.eqT undef) :: (St.eqT undef) :: (St.eqT ?c7_29x2) :: (St.eqT ?c7_30x2) :: []) rfl (by rfl) (fun w' => Below wv.heap.size wv w') (fun w w' => Below w.heap.size w w') ?hst ?h0 ?hB ?hop ?hend
      case hop =>
        refine obs_op 248 ((0, _) :: (4, _) :: (7, _) :: (8, _) :: (9, _) :: []) rfl ⟨⟨rfl, fun _ => rfl⟩, ⟨rfl, fun _ => rfl⟩, ⟨rfl, fun _ => rfl⟩, ⟨rfl, fun _ => rfl⟩, ⟨rfl, fun _ => rfl⟩, trivial⟩ ?_
        rintro a0 hsz ⟨⟨f0, e0⟩, ⟨f4, e4⟩, ⟨f7, e7⟩, ⟨f8, e8⟩, ⟨f9, e9⟩, _⟩
        simp only at f0 e0 f4 e4 f7 e7 f8 e8 f9 e9
        refine ⟨?_, ?_, ?_, ?_, ?_, ?_, ?_, ?_, ?_, ?_, ?_, ?_, ?_, ?_, ?_, ?_, ?_, ?_, ?_, ?_, ?_, ?_, ?_, ?_, ?_, ?_, ?_, ?_, ?_, ?_, ?_, trivial⟩
        · intro w hB
          simp only [St.withD, List.nil_append, List.cons_append]
          refine St.ob_value (v := ?_) (w' := w) (by rfl) ?_ ⟨Below.refl _ _, ?_⟩
          rotate_left
          · go_simp
            with_reducible rfl
          · rfl
        · intro w hB
          simp only [St.withD, List.nil_append, List.cons_append]
          refine St.ob_value (v := ?_) (w' := w) (by rfl) ?_ ⟨Below.refl _ _, ?_⟩
          rotate_left
          · go_simp
            with_reducible rfl
          · rfl
        · intro w hB; rintro _ ⟨_, rfl⟩ _ ⟨_, rfl⟩
          simp only [St.withD, List.nil_append, List.cons_append]
          refine St.ob_value (v := ?_) (w' := w) (by rfl) ?_ ⟨Below.refl _ _, ?_⟩
          rotate_left
          · go_simp
            with_reducible rfl
          · rfl
        · intro w hB; rintro _ ⟨_, rfl⟩
          simp only [St.withD, List.nil_append, List.cons_append]
          refine St.ob_value (v := ?_) (w' := w) (by rfl) ?_ ⟨Below.refl _ _, ?_⟩
          rotate_left
          · go_simp
            with_reducible rfl
          · rfl
        · intro w hB; rintro _ ⟨_, rfl⟩
          simp only [St.withD, List.nil_append, List.cons_append]
          refine St.ob_value (v := ?_) (w' := w) (by go_simp) ?_ ⟨Below.refl _ _, ?_⟩
          rotate_left
          · go_simp
            with_reducible rfl
          · rfl
        · intro w hB; rintro _ ⟨_, rfl⟩ _ ⟨_, rfl⟩
          simp only [St.withD, List.nil_append, List.cons_append]
          refine St.ob_value (v := ?_) (w' := w) (by go_simp) ?_ ⟨Below.refl _ _, ?_⟩
          rotate_left
          · go_simp
            with_reducible rfl
          · rfl
        · intro w hB; rintro _ ⟨_, rfl⟩ _ ⟨_, rfl⟩
          simp only [St.withD, List.nil_append, List.cons_append]
          refine St.ob_value (v := ?_) (w' := w) (by go_simp) ?_ ⟨Below.refl _ _, ?_⟩
          rotate_left
          · go_simp
            with_reducible rfl
          · rfl
        · intro w hB; rintro _ ⟨_, rfl⟩
          simp only [St.withD, List.nil_append, List.cons_append]
          obtain ⟨n0, n1, n2⟩ := (HX4.out.below hB).cells
          have h7 := blk_below HB7.out hB
          have b0 : w.cell? ⟨g7, 0, none⟩ = some (.int .i64 0) := (blk_cell h7 0).trans rfl
          have b1 : w.cell? ⟨g7, 1, none⟩ = some (.int .i64 0) := (blk_cell h7 1).trans rfl
          have b2 : w.cell? ⟨g7, 2, none⟩ = some (.int .u64 0) := (blk_cell h7 2).trans rfl
          refine St.ob_value (v := ?_) (w' := w) (by go_simp) ?_ ⟨Below.refl _ _, ?_⟩
          rotate_left
          · go_simp
            with_reducible rfl
          · rfl
        · intro w hB; rintro _ ⟨_, rfl⟩
          simp only [St.withD, List.nil_append, List.cons_append]
          refine St.ob_value (v := ?_) (w' := w) (by go_simp) ?_ ⟨Below.refl _ _, ?_⟩
          rotate_left
          · go_simp
            with_reducible rfl
          · rfl
        · intro w hB; rintro _ ⟨_, rfl⟩ _ ⟨_, rfl⟩ _ ⟨_, rfl⟩
          simp only [St.withD, List.nil_append, List.cons_append]
          refine St.ob_value (v := .bool false) (w' := w) (by go_simp) ?_ ⟨Below.refl _ _, rfl⟩
          go_simp
          try rfl
        · intro w hB; rintro _ ⟨_, rfl⟩ _ ⟨_, rfl⟩ _ ⟨_, rfl⟩
          simp only [St.withD, List.nil_append, List.cons_append]
          refine St.ob_value (v := ?_) (w' := w) (by go_simp) ?_ ⟨Below.refl _ _, ?_⟩
          rotate_left
          · go_simp
            with_reducible rfl
          · rfl
        · intro w hB; rintro _ ⟨_, rfl⟩ _ ⟨_, rfl⟩
          simp only [St.withD, List.nil_append, List.cons_append]
          refine St.ob_value (v := ?_) (w' := w) (by rfl) ?_ ⟨Below.refl _ _, ?_⟩
          rotate_left
          · go_simp
            with_reducible rfl
          · rfl
        · intro w hB; rintro _ ⟨_, rfl⟩
          simp only [St.withD, List.nil_append, List.cons_append]
          refine St.ob_value (v := ?_) (w' := w) (by rfl) ?_ ⟨Below.refl _ _, ?_⟩
          rotate_left
          · go_simp
            with_reducible rfl
          · rfl
        · intro w hB; rintro _ ⟨_, rfl⟩
          simp only [St.withD, List.nil_append, List.cons_append]
          refine St.ob_value (v := ?_) (w' := w) (by go_simp) ?_ ⟨Below.refl _ _, ?_⟩
          rotate_left
          · go_simp
            with_reducible rfl
          · rfl
        · intro w hB; rintro _ ⟨_, rfl⟩ _ ⟨_, rfl⟩
          simp only [St.withD, List.nil_append, List.cons_append]
          refine St.ob_value (v := ?_) (w' := w) (by go_simp) ?_ ⟨Below.refl _ _, ?_⟩
          rotate_left
          · go_simp
            with_reducible rfl
          · rfl
        · intro w hB; rintro _ ⟨_, rfl⟩
          simp only [St.withD, List.nil_append, List.cons_append]
          refine St.ob_off (by go_simp) ⟨Below.refl _ _, rfl⟩
        · intro w hB; rintro _ ⟨_, rfl⟩
          simp only [St.withD, List.nil_append, List.cons_append]
          refine St.ob_off (by go_simp) ⟨Below.refl _ _, rfl⟩
        · intro w hB; rintro _ ⟨_, rfl⟩ _ ⟨_, rfl⟩
          simp only [St.withD, List.nil_append, List.cons_append]
          refine St.ob_off (by go_simp) ⟨Below.refl _ _, rfl⟩
        · intro w hB; rintro _ ⟨_, rfl⟩
          simp only [St.withD, List.nil_append, List.cons_append]
          refine St.ob_off (by go_simp) ⟨Below.refl _ _, rfl⟩
        · intro w hB; rintro _ ⟨_, rfl⟩ _ ⟨_, rfl⟩
          simp only [St.withD, List.nil_append, List.cons_append]
          refine St.ob_off (by go_simp) ⟨Below.refl _ _, rfl⟩
        · intro w hB; rintro _ ⟨_, rfl⟩
          simp only [St.withD, List.nil_append, List.cons_append]
          refine St.ob_off (by go_simp) ⟨Below.refl _ _, rfl⟩
        · intro w hB; rintro _ ⟨_, rfl⟩
          simp only [St.withD, List.nil_append, List.cons_append]
          refine St.ob_off (by go_simp) ⟨Below.refl _ _, rfl⟩
        · intro w hB; rintro _ ⟨_, rfl⟩ _ ⟨_, rfl⟩
          simp only [St.withD, List.nil_append, List.cons_append]
          refine St.ob_off (by go_simp) ⟨Below.refl _ _, rfl⟩
        · intro w hB; rintro _ ⟨_, rfl⟩
          simp only [St.withD, List.nil_append, List.cons_append]
          refine St.ob_off (by go_simp) ⟨Below.refl _ _, rfl⟩
        · intro w hB; rintro _ ⟨_, rfl⟩ _ ⟨_, rfl⟩
          simp only [St.withD, List.nil_append, List.cons_append]
          refine St.ob_off (by go_simp) ⟨Below.refl _ _, rfl⟩
        · intro w hB; rintro _ ⟨_, rfl⟩ _ ⟨_, rfl⟩ _ ⟨_, rfl⟩ _ ⟨_, rfl⟩
          simp only [St.withD, List.nil_append, List.cons_append]
          refine St.ob_off (by go_simp) ⟨Below.refl _ _, rfl⟩
        · intro w hB; rintro _ ⟨_, rfl⟩ _ ⟨_, rfl⟩
          simp only [St.withD, List.nil_append, List.cons_append]
          refine St.ob_off (by go_simp) ⟨Below.refl _ _, rfl⟩
        · intro w hB; rintro _ ⟨_, rfl⟩ _ ⟨_, rfl⟩ _ ⟨_, rfl⟩ _ ⟨_, rfl⟩
          simp only [St.withD, List.nil_append, List.cons_append]
          refine St.ob_off (by go_simp) ⟨Below.refl _ _, rfl⟩
        · intro w hB; rintro _ ⟨_, rfl⟩ _ ⟨_, rfl⟩ _ ⟨_, rfl⟩
          simp only [St.withD, List.nil_append, List.cons_append]
          refine St.ob_off (by go_simp) ⟨Below.refl _ _, rfl⟩
        · intro w hB; rintro _ ⟨_, rfl⟩ _ ⟨_, rfl⟩ _ ⟨_, rfl⟩
          simp only [St.withD, List.nil_append, List.cons_append]
          refine St.ob_value (v := ?_) (w' := w) (by go_simp) ?_ ⟨Below.refl _ _, ?_⟩
          rotate_left
          · go_simp
            with_reducible rfl
          · rfl
        · intro w hB; rintro _ ⟨_, rfl⟩ _ ⟨_, rfl⟩
          simp only [St.withD, List.nil_append, List.cons_append]
          refine St.ob_value (v := ?_) (w' := w) (by rfl) ?_ ⟨Below.refl _ _, ?_⟩
          rotate_left
          · go_simp
            with_reducible rfl
          · rfl
      case hst => exact ⟨St.eqT_st, St.eqT_st, St.eqT_st, St.eqT_st, St.eqT_st, St.eqT_st, St.eqT_st, St.eqT_st, St.eqT_st, St.eqT_st, St.eqT_st, St.eqT_st, St.eqT_st, St.eqT_st, St.eqT_st, St.eqT_st, St.eqT_st, St.eqT_st, St.eqT_st, St.eqT_st, St.eqT_st, St.eqT_st, St.eqT_st, St.eqT_st, St.eqT_st, St.eqT_st, St.eqT_st, St.eqT_st, St.eqT_st, St.eqT_st, St.eqT_st, trivial⟩
      case h0 => exact below_drew1 (Below.refl _ _)
      case hB => exact fun w w' h k => below_step h k
      case hend =>
        intro w hB
        rintro _ rfl _ rfl _ rfl _ rfl _ rfl _ rfl _ rfl _ rfl _ rfl _ rfl _ rfl _ rfl _ rfl _ rfl _ rfl _ rfl _ rfl _ rfl _ rfl _ rfl _ rfl _ rfl _ rfl _ rfl _ rfl _ rfl _ rfl _ rfl _ rfl _ rfl _ rfl
        simp only [List.map_cons, List.map_nil, List.nil_append, List.cons_append, List.getD_cons_zero, List.getD_cons_succ, Act.put, List.setIfInBounds_toArray, List.set_cons_zero, List.set_cons_succ]
        rw [St.withE_nil]
        have HBQ := Aside0.mk hB
        clear hB
        go_wp2_with fail
        go_meet
        case rel => exact ⟨rfl, by rw [HQ.out], by rw [HQ.out], rfl, HBQ⟩
    · obtain ⟨f, t, rfl, rfl, hft, htn⟩ := win_true hw
      obtain ⟨rfl, rfl, hoz⟩ := HOF.out.1 f t rfl rfl hft htn
      obtain ⟨r, hr⟩ : ∃ r, root lf pr (sub l f (t - f)) = r := ⟨_, rfl⟩
      obtain ⟨A', hcut, hrt⟩ := root_gen l A na ca f t hft htn hca
      rw [hr] at hoz hrt
      subst hoz
      have HRR := Aside0.mk hrt
      have e0 : (0 : Int) ≤ f := by omega
      have e1 : (f : Int) ≤ t := by omega
      have e2 : (t : Int) ≤ na := by omega
      have HQ := Aside0.mk hw
      clear hw HOF hrt hr
      have hEQ : ∀ w : World, (Op.equalIn 10000 37 (.agg #[.int .i64 (f : Int), .int .i64 (t : Int), .int .u64 oz]) (.agg #[.int .i64 (f : Int), .int .i64 (t : Int), .int .u64 oz])).run Try.prog w = .ok true w := fun w => by have := eqA37 9998 w ((f : Int)) ((f : Int)) ((t : Int)) ((t : Int)) (oz) (oz); simpa using this
      refine St.steadyR (n := 31) (by kernel_rfl) ([] :: [] :: [(0, 58), (1, 59)] :: [(2, 60)] :: [(3, 61)] :: [(3, 61), (4, 62)] :: [(3, 61), (5, 63)] :: [(6, 64)] :: [(6, 64)] :: [(6, 64), (7, 65), (8, 66)] :: [(3, 61), (6, 64), (9, 67)] :: [(3, 61), (10, 68)] :: [(11, 69)] :: [(12, 70)] :: [(12, 70), (13, 71)] :: [(14, 72)] :: [(14, 72)] :: [(14, 72), (16, 74)] :: [(14, 72)] :: [(14, 72), (18, 76)] :: [(14, 72)] :: [(14, 72)] :: [(14, 72), (21, 79)] :: [(14, 72)] :: [(14, 72), (23, 81)] :: [(14, 72), (20, 78), (22, 80), (24, 82)] :: [(14, 72), (25, 83)] :: [(14, 72), (17, 75), (19, 77), (26, 84)] :: [(14, 72), (15, 73), (27, 85)] :: [(12, 70), (14, 72), (28, 86)] :: [(12, 70), (29, 87)] :: []) (some 58 :: some 59 :: some 60 :: some 61 :: some 62 :: some 63 :: some 64 :: some 65 :: some 66 :: some 67 :: some 68 :: some 69 :: some 70 :: some 71 :: some 72 :: some 73 :: some 74 :: some 75 :: some 76 :: some 77 :: some 78 :: some 79 :: some 80 :: some 81 :: some 82 :: some 83 :: some 84 :: some 85 :: some 86 :: some 87 :: some 88 :: []) (by kernel_rfl) ((St.eqT ?c7_0) :: (St.eqT ?c7_1) :: (St.eqT ?c7_2) :: (St.eqT ?c7_3) :: (St.eqT ?c7_4) :: (St.eqT ?c7_5) :: (St.eqT ?c7_6) :: (St.eqT undef) :: (St.eqT undef) :: (St.eqT undef) :: (St.eqT ?c7_10) :: (St.eqT ?c7_11) :: (St.eqT ?c7_12) :: (St.eqT ?c7_13) :: (St.eqT ?c7_14) :: (St.eqT ?c7_15) :: (St.eqT ?c7_16) :: (St.eqT ?c7_17) :: (St.eqT ?c7_18) :: (St.eqT ?c7_19) :: (St.eqT ?c7_20) :: (St.eqT ?c7_21) :: (St.eqT ?c7_22) :: (St.eqT ?c7_23) :: (St.eqT ?c7_24) :: (St.eqT ?c7_25) :: (St.eqT ?c7_26) :: (St.eqT ?c7_27) :: (St.eqT (.bool false)) :: (St.eqT ?c7_29) :: (St.eqT ?c7_30) :: []) rfl (by rfl) (fun w' => Below wv.heap.size wv w') (fun w w' => Below w.heap.size w w') ?hst ?h0 ?hB ?hop ?hend
      case hop =>
        refine obs_op 248 ((0, _) :: (4, _) :: (7, _) :: (8, _) :: (9, _) :: []) rfl ⟨⟨rfl, fun _ => rfl⟩, ⟨rfl, fun _ => rfl⟩, ⟨rfl, fun _ => rfl⟩, ⟨rfl, fun _ => rfl⟩, ⟨rfl, fun _ => rfl⟩, trivial⟩ ?_
        rintro a0 hsz ⟨⟨f0, e0⟩, ⟨f4, e4⟩, ⟨f7, e7⟩, ⟨f8, e8⟩, ⟨f9, e9⟩, _⟩
        simp only at f0 e0 f4 e4 f7 e7 f8 e8 f9 e9
        refine ⟨?_, ?_, ?_, ?_, ?_, ?_, ?_, ?_, ?_, ?_, ?_, ?_, ?_, ?_, ?_, ?_, ?_, ?_, ?_, ?_, ?_, ?_, ?_, ?_, ?_, ?_, ?_, ?_, ?_, ?_, ?_, trivial⟩
        · intro w hB
          simp only [St.withD, List.nil_append, List.cons_append]
          refine St.ob_value (v := ?_) (w' := w) (by rfl) ?_ ⟨Below.refl _ _, ?_⟩
          rotate_left
          · go_simp
            with_reducible rfl
          · rfl
        · intro w hB
          simp only [St.withD, List.nil_append, List.cons_append]
          refine St.ob_value (v := ?_) (w' := w) (by rfl) ?_ ⟨Below.refl _ _, ?_⟩
          rotate_left
          · go_simp
            with_reducible rfl
          · rfl
        · intro w hB; rintro _ ⟨_, rfl⟩ _ ⟨_, rfl⟩
          simp only [St.withD, List.nil_append, List.cons_append]
          refine St.ob_value (v := ?_) (w' := w) (by rfl) ?_ ⟨Below.refl _ _, ?_⟩
          rotate_left
          · go_simp
            with_reducible rfl
          · rfl
        · intro w hB; rintro _ ⟨_, rfl⟩
          simp only [St.withD, List.nil_append, List.cons_append]
          refine St.ob_value (v := ?_) (w' := w) (by rfl) ?_ ⟨Below.refl _ _, ?_⟩
          rotate_left
          · go_simp
            with_reducible rfl
          · rfl
        · intro w hB; rintro _ ⟨_, rfl⟩
          simp only [St.withD, List.nil_append, List.cons_append]
          refine St.ob_value (v := ?_) (w' := w) (by go_simp) ?_ ⟨Below.refl _ _, ?_⟩
          rotate_left
          · go_simp
            with_reducible rfl
          · rfl
        · intro w hB; rintro _ ⟨_, rfl⟩ _ ⟨_, rfl⟩
          simp only [St.withD, List.nil_append, List.cons_append]
          refine St.ob_value (v := ?_) (w' := w) (by go_simp) ?_ ⟨Below.refl _ _, ?_⟩
          rotate_left
          · go_simp
            with_reducible rfl
          · rfl
        · intro w hB; rintro _ ⟨_, rfl⟩ _ ⟨_, rfl⟩
          simp only [St.withD, List.nil_append, List.cons_append]
          refine St.ob_value (v := ?_) (w' := w) (by go_simp) ?_ ⟨Below.refl _ _, ?_⟩
          rotate_left
          · go_simp
            with_reducible rfl
          · rfl
        · intro w hB; rintro _ ⟨_, rfl⟩
          simp only [St.withD, List.nil_append, List.cons_append]
          refine St.ob_off (by go_simp) ⟨Below.refl _ _, rfl⟩
        · intro w hB; rintro _ ⟨_, rfl⟩
          simp only [St.withD, List.nil_append, List.cons_append]
          refine St.ob_off (by go_simp) ⟨Below.refl _ _, rfl⟩
        · intro w hB; rintro _ ⟨_, rfl⟩ _ ⟨_, rfl⟩ _ ⟨_, rfl⟩
          simp only [St.withD, List.nil_append, List.cons_append]
          refine St.ob_off (by go_simp) ⟨Below.refl _ _, rfl⟩
        · intro w hB; rintro _ ⟨_, rfl⟩ _ ⟨_, rfl⟩ _ ⟨_, rfl⟩
          simp only [St.withD, List.nil_append, List.cons_append]
          refine St.ob_value (v := ?_) (w' := w) (by go_simp) ?_ ⟨Below.refl _ _, ?_⟩
          rotate_left
          · go_simp
            with_reducible rfl
          · rfl
        · intro w hB; rintro _ ⟨_, rfl⟩ _ ⟨_, rfl⟩
          simp only [St.withD, List.nil_append, List.cons_append]
          refine St.ob_value (v := ?_) (w' := w) (by rfl) ?_ ⟨Below.refl _ _, ?_⟩
          rotate_left
          · go_simp
            with_reducible rfl
          · rfl
        · intro w hB; rintro _ ⟨_, rfl⟩
          simp only [St.withD, List.nil_append, List.cons_append]
          refine St.ob_value (v := ?_) (w' := w) (by rfl) ?_ ⟨Below.refl _ _, ?_⟩
          rotate_left
          · go_simp
            with_reducible rfl
          · rfl
        · intro w hB; rintro _ ⟨_, rfl⟩
          simp only [St.withD, List.nil_append, List.cons_append]
          refine St.ob_value (v := ?_) (w' := w) (by go_simp) ?_ ⟨Below.refl _ _, ?_⟩
          rotate_left
          · go_simp
            with_reducible rfl
          · rfl
        · intro w hB; rintro _ ⟨_, rfl⟩ _ ⟨_, rfl⟩
          simp only [St.withD, List.nil_append, List.cons_append]
          refine St.ob_value (v := ?_) (w' := w) (by go_simp) ?_ ⟨Below.refl _ _, ?_⟩
          rotate_left
          · go_simp
            with_reducible rfl
          · rfl
        · intro w hB; rintro _ ⟨_, rfl⟩
          simp only [St.withD, List.nil_append, List.cons_append]
          obtain ⟨n0, n1, n2⟩ := (HX4.out.below hB).cells
          have h7 := blk_below HB7.out hB
          have b0 : w.cell? ⟨g7, 0, none⟩ = some (.int .i64 (f : Int)) := (blk_cell h7 0).trans rfl
          have b1 : w.cell? ⟨g7, 1, none⟩ = some (.int .i64 (t : Int)) := (blk_cell h7 1).trans rfl
          have b2 : w.cell? ⟨g7, 2, none⟩ = some (.int .u64 oz) := (blk_cell h7 2).trans rfl
          refine St.ob_value (v := ?_) (w' := w) (by go_simp) ?_ ⟨Below.refl _ _, ?_⟩
          rotate_left
          · go_simp
            with_reducible rfl
          · rfl
        · intro w hB; rintro _ ⟨_, rfl⟩
          simp only [St.withD, List.nil_append, List.cons_append]
          refine St.ob_value (v := ?_) (w' := w) (by go_simp) ?_ ⟨Below.refl _ _, ?_⟩
          rotate_left
          · go_simp
            with_reducible rfl
          · rfl
        · intro w hB; rintro _ ⟨_, rfl⟩ _ ⟨_, rfl⟩
          simp only [St.withD, List.nil_append, List.cons_append]
          obtain ⟨n0, n1, n2⟩ := (HX4.out.below hB).cells
          have h7 := blk_below HB7.out hB
          have b0 : w.cell? ⟨g7, 0, none⟩ = some (.int .i64 (f : Int)) := (blk_cell h7 0).trans rfl
          have b1 : w.cell? ⟨g7, 1, none⟩ = some (.int .i64 (t : Int)) := (blk_cell h7 1).trans rfl
          have b2 : w.cell? ⟨g7, 2, none⟩ = some (.int .u64 oz) := (blk_cell h7 2).trans rfl
          refine St.ob_value (v := ?_) (w' := w) (by go_simp) ?_ ⟨Below.refl _ _, ?_⟩
          rotate_left
          · go_simp
            with_reducible rfl
          · rfl
        · intro w hB; rintro _ ⟨_, rfl⟩
          simp only [St.withD, List.nil_append, List.cons_append]
          refine St.ob_value (v := ?_) (w' := w) (by go_simp) ?_ ⟨Below.refl _ _, ?_⟩
          rotate_left
          · go_simp
            with_reducible rfl
          · rfl
        · intro w hB; rintro _ ⟨_, rfl⟩ _ ⟨_, rfl⟩
          simp only [St.withD, List.nil_append, List.cons_append]
          obtain ⟨n0, n1, n2⟩ := (HX4.out.below hB).cells
          have h7 := blk_below HB7.out hB
          have b0 : w.cell? ⟨g7, 0, none⟩ = some (.int .i64 (f : Int)) := (blk_cell h7 0).trans rfl
          have b1 : w.cell? ⟨g7, 1, none⟩ = some (.int .i64 (t : Int)) := (blk_cell h7 1).trans rfl
          have b2 : w.cell? ⟨g7, 2, none⟩ = some (.int .u64 oz) := (blk_cell h7 2).trans rfl
          refine St.ob_value (v := ?_) (w' := w) (by go_simp) ?_ ⟨Below.refl _ _, ?_⟩
          rotate_left
          · go_simp
            with_reducible rfl
          · rfl
        · intro w hB; rintro _ ⟨_, rfl⟩
          simp only [St.withD, List.nil_append, List.cons_append]
          refine St.ob_value (v := ?_) (w' := w) (by go_simp) ?_ ⟨Below.refl _ _, ?_⟩
          rotate_left
          · go_simp
            with_reducible rfl
          · rfl
        · intro w hB; rintro _ ⟨_, rfl⟩
          simp only [St.withD, List.nil_append, List.cons_append]
          refine St.ob_value (v := ?_) (w' := w) (by go_simp) ?_ ⟨Below.refl _ _, ?_⟩
          rotate_left
          · go_simp
            with_reducible rfl
          · rfl
        · intro w hB; rintro _ ⟨_, rfl⟩ _ ⟨_, rfl⟩
          simp only [St.withD, List.nil_append, List.cons_append]
          obtain ⟨n0, n1, n2⟩ := (HX4.out.below hB).cells
          have h7 := blk_below HB7.out hB
          have b0 : w.cell? ⟨g7, 0, none⟩ = some (.int .i64 (f : Int)) := (blk_cell h7 0).trans rfl
          have b1 : w.cell? ⟨g7, 1, none⟩ = some (.int .i64 (t : Int)) := (blk_cell h7 1).trans rfl
          have b2 : w.cell? ⟨g7, 2, none⟩ = some (.int .u64 oz) := (blk_cell h7 2).trans rfl
          refine St.ob_value (v := ?_) (w' := w) (by go_simp) ?_ ⟨Below.refl _ _, ?_⟩
          rotate_left
          · go_simp
            with_reducible rfl
          · rfl
        · intro w hB; rintro _ ⟨_, rfl⟩
          simp only [St.withD, List.nil_append, List.cons_append]
          refine St.ob_value (v := ?_) (w' := w) (by go_simp) ?_ ⟨Below.refl _ _, ?_⟩
          rotate_left
          · go_simp
            with_reducible rfl
          · rfl
        · intro w hB; rintro _ ⟨_, rfl⟩ _ ⟨_, rfl⟩
          simp only [St.withD, List.nil_append, List.cons_append]
          obtain ⟨n0, n1, n2⟩ := (HX4.out.below hB).cells
          have h7 := blk_below HB7.out hB
          have b0 : w.cell? ⟨g7, 0, none⟩ = some (.int .i64 (f : Int)) := (blk_cell h7 0).trans rfl
          have b1 : w.cell? ⟨g7, 1, none⟩ = some (.int .i64 (t : Int)) := (blk_cell h7 1).trans rfl
          have b2 : w.cell? ⟨g7, 2, none⟩ = some (.int .u64 oz) := (blk_cell h7 2).trans rfl
          refine St.ob_value (v := ?_) (w' := w) (by go_simp) ?_ ⟨Below.refl _ _, ?_⟩
          rotate_left
          · go_simp
            with_reducible rfl
          · rfl
        · intro w hB; rintro _ ⟨_, rfl⟩ _ ⟨_, rfl⟩ _ ⟨_, rfl⟩ _ ⟨_, rfl⟩
          simp only [St.withD, List.nil_append, List.cons_append]
          refine St.ob_value (v := ?_) (w' := w) (by go_simp) ?_ ⟨Below.refl _ _, ?_⟩
          rotate_left
          · go_simp
            with_reducible rfl
          · rfl
        · intro w hB; rintro _ ⟨_, rfl⟩ _ ⟨_, rfl⟩
          simp only [St.withD, List.nil_append, List.cons_append]
          refine St.ob_call Try.func13 (by kernel_rfl) rfl #[.slice A' (t - f) (ca - f)] (by go_simp) rfl (by go_simp) ?_
          refine (HRR.out w (HLA.out.below (HX4.out.below hB).bel).ls).mono ?_
          rintro e w1 ⟨rfl, hb1⟩
          refine ⟨_, rfl, hb1, ?_⟩
          rfl
        · intro w hB; rintro _ ⟨_, rfl⟩ _ ⟨_, rfl⟩ _ ⟨_, rfl⟩ _ ⟨_, rfl⟩
          simp only [St.withD, List.nil_append, List.cons_append]
          refine St.ob_value (v := ?_) (w' := w) (by go_simp) ?_ ⟨Below.refl _ _, ?_⟩
          rotate_left
          · go_simp
            with_reducible rfl
          · rfl
        · intro w hB; rintro _ ⟨_, rfl⟩ _ ⟨_, rfl⟩ _ ⟨_, rfl⟩
          simp only [St.withD, List.nil_append, List.cons_append]
          refine St.ob_value (v := .bool false) (w' := w) (by go_simp) ?_ ⟨Below.refl _ _, rfl⟩
          go_simp
          try rfl
        · intro w hB; rintro _ ⟨_, rfl⟩ _ ⟨_, rfl⟩ _ ⟨_, rfl⟩
          simp only [St.withD, List.nil_append, List.cons_append]
          refine St.ob_value (v := ?_) (w' := w) (by go_simp) ?_ ⟨Below.refl _ _, ?_⟩
          rotate_left
          · go_simp
            with_reducible rfl
          · rfl
        · intro w hB; rintro _ ⟨_, rfl⟩ _ ⟨_, rfl⟩
          simp only [St.withD, List.nil_append, List.cons_append]
          refine St.ob_value (v := ?_) (w' := w) (by rfl) ?_ ⟨Below.refl _ _, ?_⟩
          rotate_left
          · go_simp
            with_reducible rfl
          · rfl
      case hst => exact ⟨St.eqT_st, St.eqT_st, St.eqT_st, St.eqT_st, St.eqT_st, St.eqT_st, St.eqT_st, St.eqT_st, St.eqT_st, St.eqT_st, St.eqT_st, St.eqT_st, St.eqT_st, St.eqT_st, St.eqT_st, St.eqT_st, St.eqT_st, St.eqT_st, St.eqT_st, St.eqT_st, St.eqT_st, St.eqT_st, St.eqT_st, St.eqT_st, St.eqT_st, St.eqT_st, St.eqT_st, St.eqT_st, St.eqT_st, St.eqT_st, St.eqT_st, trivial⟩
      case h0 => exact below_drew1 (Below.refl _ _)
      case hB => exact fun w w' h k => below_step h k
      case hend =>
        intro w hB
        rintro _ rfl _ rfl _ rfl _ rfl _ rfl _ rfl _ rfl _ rfl _ rfl _ rfl _ rfl _ rfl _ rfl _ rfl _ rfl _ rfl _ rfl _ rfl _ rfl _ rfl _ rfl _ rfl _ rfl _ rfl _ rfl _ rfl _ rfl _ rfl _ rfl _ rfl _ rfl
        simp only [List.map_cons, List.map_nil, List.nil_append, List.cons_append, List.getD_cons_zero, List.getD_cons_succ, Act.put, List.setIfInBounds_toArray, List.set_cons_zero, List.set_cons_succ]
        rw [St.withE_nil]
        have HBQ := Aside0.mk hB
        clear hB
        go_wp2_with fail
        go_meet
        case rel => exact ⟨rfl, by rw [HQ.out], by rw [HQ.out], rfl, HBQ⟩
  case rest =>
  obtain ⟨rfl, rfl, rfl, rfl, HW7⟩ := hcut
  have HX7 := Aside0.mk (HX4.out.below HW7.out)
  clear HW7 HB7 HOF HX4
  obtain ⟨n0, n1, n2⟩ := HX7.out.cells
  go_wp2_with fail
  refine (halves_gen l A na ca a b _ (HLA.out.below HX7.out.bel).ls HWF.out.1 HWF.out.2.1).mono ?_
  rintro e w9 ⟨⟨A3, m3, c3, rfl, hhv⟩, hb9⟩
  have HHV := Aside0.mk hhv
  have HX9 := Aside0.mk (HX7.out.below hb9)
  clear n0 n1 n2 hb9 hhv HX7
  go_upto_region 10 with fail
  go_cut [1, 8, 9, 104] from 22 to 103 (fun x1 x8 x9 x104 W => x1 = .agg #[.int .i64 a, .int .i64 b, .int .i64 c] ∧ x8 = .bool (win a b na) ∧ x9 = .bool (win a b na) ∧ x104 = .bool (two a b na) ∧ w9 = W)
  case first =>
    skip
    obtain ⟨n0, n1, n2⟩ := HX9.out.cells
    cases hw : win a b na
    · have H2 : Aside0 (two a b na = false) := ⟨decide_eq_false (fun h => by have := win_false hw; omega)⟩
      have HQ := Aside0.mk hw
      clear hw HHV
      go_wp2_with fail
      go_meet
      case rel => exact ⟨rfl, by rw [HQ.out], by rw [HQ.out], by rw [H2.out], rfl⟩
    · obtain ⟨f, t, rfl, rfl, hft, htn⟩ := win_true hw
      have HQ := Aside0.mk hw
      have e0 : (0 : Int) ≤ f := by omega
      have e1 : (f : Int) ≤ t := by omega
      have e2 : (t : Int) ≤ na := by omega
      by_cases h2 : f + 2 ≤ t
      · have H3 : Aside0 (two f t na = true) := ⟨decide_eq_true ⟨by omega, by omega, by omega⟩⟩
        have h4 : (2 : Int) ≤ t - f := by omega
        clear hw HHV
        go_wp2_with fail
        go_meet
        case rel => exact ⟨rfl, by rw [HQ.out], by rw [HQ.out], by rw [H3.out], rfl⟩
      · have H3 : Aside0 (two f t na = false) := ⟨decide_eq_false (fun h => by omega)⟩
        have h4 : ¬ (2 : Int) ≤ t - f := by omega
        clear hw HHV
        go_wp2_with fail
        go_meet
        case rel => exact ⟨rfl, by rw [HQ.out], by rw [HQ.out], by rw [H3.out], rfl⟩
  case rest =>
  obtain ⟨rfl, rfl, rfl, rfl, rfl⟩ := hcut
  go_upto_if 104 with fail
  go_cut [1, 8, 9, 10, 104] from 22 to 151 (fun x1 x8 x9 x10 x104 W => Aside0 (Below w9.heap.size w9 W))
  case first =>
    skip
    cases h2 : two a b na
    · obtain ⟨rfl, rfl, rfl⟩ := HHV.out.2 h2
      clear HHV h2
      go_wp2_with fail
      go_meet
      case rel => exact ⟨Below.refl _ _⟩
    · obtain ⟨f, t, rfl, rfl, hft, htn⟩ := two_true h2
      obtain ⟨g9, rfl, rfl, rfl, _, hbx⟩ := HHV.out.1 f t rfl rfl hft htn
      have HRH : Aside0 (∀ w : World, Calls Try.prog 15 #[.int .i64 ((t : Int) - f)] w fun e w' => e = .returned (.int .i64 (half (t - f))) ∧ w = w') := ⟨fun w => by
        have := refHalf_any (t - f) (by omega) (by omega) w
        rw [show ((t - f : Nat) : Int) = (t : Int) - f by omega] at this
        exact this.mono fun e w' h => ⟨h.1, h.2.symm⟩⟩
      have hh1 := half_lt (n := t - f) (by omega)
      obtain ⟨h, hh⟩ : ∃ h, half (t - f) = h := ⟨_, rfl⟩
      rw [hh] at HRH hbx hh1
      obtain ⟨A1, hcut1, hrt1⟩ := root_gen l A na ca f (f + h) (by omega) (by omega) hca
      obtain ⟨A2, hcut2, hrt2⟩ := root_gen l A na ca (f + h) t (by omega) htn hca
      obtain ⟨r1, hr1⟩ : ∃ r, root lf pr (sub l f (f + h - f)) = r := ⟨_, rfl⟩
      obtain ⟨r2, hr2⟩ : ∃ r, root lf pr (sub l (f + h) (t - (f + h))) = r := ⟨_, rfl⟩
      rw [hr1] at hbx hrt1
      rw [hr2] at hbx hrt2
      simp only [Int.natCast_add] at hbx hcut1 hcut2
      rw [show f + h - f = h by omega] at hcut1 hrt1
      have HG9 := Aside0.mk hbx
      have HR1 := Aside0.mk hrt1
      have HR2 := Aside0.mk hrt2
      have e0 : (0 : Int) ≤ f := by omega
      have e1 : (f : Int) + h ≤ t := by omega
      have e2 : (t : Int) ≤ na := by omega
      have e3 : (0 : Int) ≤ h := by omega
      clear h2 hbx hrt1 hrt2 hr1 hr2 HHV hh
      have hEQ1 : ∀ w : World, (Op.equalIn 10000 37 (.agg #[.int .i64 (f : Int), .int .i64 ((f : Int) + h), .int .u64 r1]) (.agg #[.int .i64 (f : Int), .int .i64 ((f : Int) + h), .int .u64 r1])).run Try.prog w = .ok true w := fun w => by have := eqA37 9998 w ((f : Int)) ((f : Int)) (((f : Int) + h)) (((f : Int) + h)) (r1) (r1); simpa using this
      have hEQ2 : ∀ w : World, (Op.equalIn 10000 37 (.agg #[.int .i64 ((f : Int) + h), .int .i64 (t : Int), .int .u64 r2]) (.agg #[.int .i64 ((f : Int) + h), .int .i64 (t : Int), .int .u64 r2])).run Try.prog w = .ok true w := fun w => by have := eqA37 9998 w (((f : Int) + h)) (((f : Int) + h)) ((t : Int)) ((t : Int)) (r2) (r2); simpa using this
      have hws : IntKind.i64.wrap ((t : Int) - f) = (t : Int) - f := by rw [IntKind.wrap_i64]; omega
      have hwa : IntKind.i64.wrap ((f : Int) + h) = (f : Int) + h := by rw [IntKind.wrap_i64]; omega
      go_upto_region 11 with fail
      go_cut [11] from 105 to 112 (fun x11 W => x11 = .int .i64 ((f : Int) + h) ∧ Aside0 (Drawn0 w9 W))
      case first =>
        obtain ⟨n0, n1, n2⟩ := HX9.out.cells
        go_quiet ((go_at_call 15; exact q_same (HRH.out _)))
        go_wp2_with fail
        go_meet
        case rel => exact ⟨rfl, ⟨⟨_, rfl⟩⟩⟩
      case rest =>
      obtain ⟨rfl, HD11⟩ := hcut
      have HB11 := Aside0.mk (Drawn0.below HD11.out)
      clear HD11
      go_upto_region 12 with fail
      refine St.steadyR (n := 35) (by kernel_rfl) ([] :: [(0, 114)] :: [(1, 115)] :: [(2, 116)] :: [(3, 117)] :: [(3, 117), (4, 118)] :: [(3, 117), (5, 119)] :: [(3, 117)] :: [(3, 117), (7, 121)] :: [(3, 117)] :: [(3, 117)] :: [(3, 117)] :: [(3, 117), (11, 125)] :: [(3, 117)] :: [(3, 117), (10, 124), (12, 126), (13, 127)] :: [(3, 117), (14, 128)] :: [(3, 117), (8, 122), (9, 123), (15, 129)] :: [(3, 117), (6, 120), (16, 130)] :: [(3, 117), (17, 131)] :: [(18, 132)] :: [(19, 133)] :: [(19, 133), (20, 134)] :: [(19, 133), (21, 135)] :: [(19, 133)] :: [(19, 133)] :: [(19, 133), (24, 138)] :: [(19, 133)] :: [(19, 133)] :: [(19, 133)] :: [(19, 133), (28, 142)] :: [(19, 133), (26, 140), (27, 141), (29, 143)] :: [(19, 133), (30, 144)] :: [(19, 133), (23, 137), (25, 139), (31, 145)] :: [(19, 133), (22, 136), (32, 146)] :: [(19, 133), (33, 147)] :: []) (some 114 :: some 115 :: some 116 :: some 117 :: some 118 :: some 119 :: some 120 :: some 121 :: some 122 :: some 123 :: some 124 :: some 125 :: some 126 :: some 127 :: some 128 :: some 129 :: some 130 :: some 131 :: some 132 :: some 133 :: some 134 :: some 135 :: some 136 :: some 137 :: some 138 :: some 139 :: some 140 :: some 141 :: some 142 :: some 143 :: some 144 :: some 145 :: some 146 :: some 147 :: some 148 :: []) (by kernel_rfl) ((St.eqT ?c12_0x3) :: (St.eqT ?c12_1x3) :: (St.eqT ?c12_2x3) :: (St.eqT ?c12_3x3) :: (St.eqT ?c12_4x3) :: (St.eqT ?c12_5x3) :: (St.eqT ?c12_6x3) :: (St.eqT ?c12_7x3) :: (St.eqT ?c12_8x3) :: (St.eqT ?c12_9x3) :: (St.eqT ?c12_10x3) :: (St.eqT ?c12_11x3) :: (St.eqT ?c12_12x3) :: (St.eqT ?c12_13x3) :: (St.eqT ?c12_14x3) :: (St.eqT ?c12_15x3) :: (St.eqT ?c12_16x3) :: (St.eqT (.bool false)) :: (St.eqT ?c12_18x3) :: (St.eqT ?c12_19x3) :: (St.eqT ?c12_20x3) :: (St.eqT ?c12_21x3) :: (St.eqT ?c12_22x3) :: (St.eqT ?c12_23x3) :: (St.eqT ?c12_24x3) :: (St.eqT ?c12_25x3) :: (St.eqT ?c12_26x3) :: (St.eqT ?c12_27x3) :: (St.eqT ?c12_28x3) :: (St.eqT ?c12_29x3) :: (St.eqT ?c12_30x3) :: (St.eqT ?c12_31x3) :: (St.eqT ?c12_32x3) :: (St.eqT (.bool false)) :: (St.eqT ?c12_34x3) :: []) rfl (by rfl) (fun w' => Below w9.heap.size w9 w') (fun w w' => Below w.heap.size w w') ?hst ?h0 ?hB ?hop ?hend
      case hop =>
        refine obs_op 248 ((0, _) :: (4, _) :: (10, _) :: (11, _) :: []) rfl ⟨⟨rfl, fun _ => rfl⟩, ⟨rfl, fun _ => rfl⟩, ⟨rfl, fun _ => rfl⟩, ⟨rfl, fun _ => rfl⟩, trivial⟩ ?_
        rintro a0 hsz ⟨⟨f0, e0⟩, ⟨f4, e4⟩, ⟨f10, e10⟩, ⟨f11, e11⟩, _⟩
        simp only at f0 e0 f4 e4 f10 e10 f11 e11
        refine ⟨?_, ?_, ?_, ?_, ?_, ?_, ?_, ?_, ?_, ?_, ?_, ?_, ?_, ?_, ?_, ?_, ?_, ?_, ?_, ?_, ?_, ?_, ?_, ?_, ?_, ?_, ?_, ?_, ?_, ?_, ?_, ?_, ?_, ?_, ?_, trivial⟩
        · intro w hB
          simp only [St.withD, List.nil_append, List.cons_append]
          refine St.ob_value (v := ?_) (w' := w) (by rfl) ?_ ⟨Below.refl _ _, ?_⟩
          rotate_left
          · go_simp
            with_reducible rfl
          · rfl
        · intro w hB; rintro _ ⟨_, rfl⟩
          simp only [St.withD, List.nil_append, List.cons_append]
          refine St.ob_value (v := ?_) (w' := w) (by rfl) ?_ ⟨Below.refl _ _, ?_⟩
          rotate_left
          · go_simp
            with_reducible rfl
          · rfl
        · intro w hB; rintro _ ⟨_, rfl⟩
          simp only [St.withD, List.nil_append, List.cons_append]
          refine St.ob_value (v := ?_) (w' := w) (by rfl) ?_ ⟨Below.refl _ _, ?_⟩
          rotate_left
          · go_simp
            with_reducible rfl
          · rfl
        · intro w hB; rintro _ ⟨_, rfl⟩
          simp only [St.withD, List.nil_append, List.cons_append]
          refine St.ob_value (v := ?_) (w' := w) (by rfl) ?_ ⟨Below.refl _ _, ?_⟩
          rotate_left
          · go_simp
            with_reducible rfl
          · rfl
        · intro w hB; rintro _ ⟨_, rfl⟩
          simp only [St.withD, List.nil_append, List.cons_append]
          refine St.ob_value (v := ?_) (w' := w) (by go_simp) ?_ ⟨Below.refl _ _, ?_⟩
          rotate_left
          · go_simp
            with_reducible rfl
          · rfl
        · intro w hB; rintro _ ⟨_, rfl⟩ _ ⟨_, rfl⟩
          simp only [St.withD, List.nil_append, List.cons_append]
          refine St.ob_value (v := ?_) (w' := w) (by go_simp) ?_ ⟨Below.refl _ _, ?_⟩
          rotate_left
          · go_simp
            with_reducible rfl
          · rfl
        · intro w hB; rintro _ ⟨_, rfl⟩ _ ⟨_, rfl⟩
          simp only [St.withD, List.nil_append, List.cons_append]
          obtain ⟨n0, n1, n2⟩ := (HX9.out.below hB).cells
          have h9 := blk_below HG9.out hB
          have d0 : w.cell? ⟨g9, 0, none⟩ = some (.int .i64 (f : Int)) := (blk_cell h9 0).trans rfl
          have d1 : w.cell? ⟨g9, 1, none⟩ = some (.int .i64 ((f : Int) + h)) := (blk_cell h9 1).trans rfl
          have d2 : w.cell? ⟨g9, 2, none⟩ = some (.int .u64 r1) := (blk_cell h9 2).trans rfl
          have d3 : w.cell? ⟨g9, 3, none⟩ = some (.int .i64 ((f : Int) + h)) := (blk_cell h9 3).trans rfl
          have d4 : w.cell? ⟨g9, 4, none⟩ = some (.int .i64 (t : Int)) := (blk_cell h9 4).trans rfl
          have d5 : w.cell? ⟨g9, 5, none⟩ = some (.int .u64 r2) := (blk_cell h9 5).trans rfl
          refine St.ob_value (v := ?_) (w' := w) (by go_simp) ?_ ⟨Below.refl _ _, ?_⟩
          rotate_left
          · go_simp
            with_reducible rfl
          · rfl
        · intro w hB; rintro _ ⟨_, rfl⟩
          simp only [St.withD, List.nil_append, List.cons_append]
          refine St.ob_value (v := ?_) (w' := w) (by go_simp) ?_ ⟨Below.refl _ _, ?_⟩
          rotate_left
          · go_simp
            with_reducible rfl
          · rfl
        · intro w hB; rintro _ ⟨_, rfl⟩ _ ⟨_, rfl⟩
          simp only [St.withD, List.nil_append, List.cons_append]
          obtain ⟨n0, n1, n2⟩ := (HX9.out.below hB).cells
          have h9 := blk_below HG9.out hB
          have d0 : w.cell? ⟨g9, 0, none⟩ = some (.int .i64 (f : Int)) := (blk_cell h9 0).trans rfl
          have d1 : w.cell? ⟨g9, 1, none⟩ = some (.int .i64 ((f : Int) + h)) := (blk_cell h9 1).trans rfl
          have d2 : w.cell? ⟨g9, 2, none⟩ = some (.int .u64 r1) := (blk_cell h9 2).trans rfl
          have d3 : w.cell? ⟨g9, 3, none⟩ = some (.int .i64 ((f : Int) + h)) := (blk_cell h9 3).trans rfl
          have d4 : w.cell? ⟨g9, 4, none⟩ = some (.int .i64 (t : Int)) := (blk_cell h9 4).trans rfl
          have d5 : w.cell? ⟨g9, 5, none⟩ = some (.int .u64 r2) := (blk_cell h9 5).trans rfl
          refine St.ob_value (v := ?_) (w' := w) (by go_simp) ?_ ⟨Below.refl _ _, ?_⟩
          rotate_left
          · go_simp
            with_reducible rfl
          · rfl
        · intro w hB; rintro _ ⟨_, rfl⟩
          simp only [St.withD, List.nil_append, List.cons_append]
          refine St.ob_value (v := ?_) (w' := w) (by go_simp) ?_ ⟨Below.refl _ _, ?_⟩
          rotate_left
          · go_simp
            with_reducible rfl
          · rfl
        · intro w hB; rintro _ ⟨_, rfl⟩
          simp only [St.withD, List.nil_append, List.cons_append]
          refine St.ob_value (v := ?_) (w' := w) (by go_simp) ?_ ⟨Below.refl _ _, ?_⟩
          rotate_left
          · go_simp
            with_reducible rfl
          · rfl
        · intro w hB; rintro _ ⟨_, rfl⟩
          simp only [St.withD, List.nil_append, List.cons_append]
          refine St.ob_value (v := ?_) (w' := w) (by go_simp) ?_ ⟨Below.refl _ _, ?_⟩
          rotate_left
          · go_simp
            with_reducible rfl
          · rfl
        · intro w hB; rintro _ ⟨_, rfl⟩ _ ⟨_, rfl⟩
          simp only [St.withD, List.nil_append, List.cons_append]
          obtain ⟨n0, n1, n2⟩ := (HX9.out.below hB).cells
          have h9 := blk_below HG9.out hB
          have d0 : w.cell? ⟨g9, 0, none⟩ = some (.int .i64 (f : Int)) := (blk_cell h9 0).trans rfl
          have d1 : w.cell? ⟨g9, 1, none⟩ = some (.int .i64 ((f : Int) + h)) := (blk_cell h9 1).trans rfl
          have d2 : w.cell? ⟨g9, 2, none⟩ = some (.int .u64 r1) := (blk_cell h9 2).trans rfl
          have d3 : w.cell? ⟨g9, 3, none⟩ = some (.int .i64 ((f : Int) + h)) := (blk_cell h9 3).trans rfl
          have d4 : w.cell? ⟨g9, 4, none⟩ = some (.int .i64 (t : Int)) := (blk_cell h9 4).trans rfl
          have d5 : w.cell? ⟨g9, 5, none⟩ = some (.int .u64 r2) := (blk_cell h9 5).trans rfl
          refine St.ob_value (v := ?_) (w' := w) (by go_simp) ?_ ⟨Below.refl _ _, ?_⟩
          rotate_left
          · go_simp
            with_reducible rfl
          · rfl
        · intro w hB; rintro _ ⟨_, rfl⟩
          simp only [St.withD, List.nil_append, List.cons_append]
          refine St.ob_value (v := ?_) (w' := w) (by go_simp) ?_ ⟨Below.refl _ _, ?_⟩
          rotate_left
          · go_simp
            with_reducible rfl
          · rfl
        · intro w hB; rintro _ ⟨_, rfl⟩ _ ⟨_, rfl⟩ _ ⟨_, rfl⟩ _ ⟨_, rfl⟩
          simp only [St.withD, List.nil_append, List.cons_append]
          refine St.ob_value (v := ?_) (w' := w) (by go_simp) ?_ ⟨Below.refl _ _, ?_⟩
          rotate_left
          · go_simp
            with_reducible rfl
          · rfl
        · intro w hB; rintro _ ⟨_, rfl⟩ _ ⟨_, rfl⟩
          simp only [St.withD, List.nil_append, List.cons_append]
          refine St.ob_call Try.func13 (by kernel_rfl) rfl #[.slice A1 h (ca - f)] (by go_simp) rfl (by go_simp) ?_
          refine (HR1.out w (HLA.out.below (HX9.out.below hB).bel).ls).mono ?_
          rintro e w1 ⟨rfl, hb1⟩
          refine ⟨_, rfl, hb1, ?_⟩
          rfl
        · intro w hB; rintro _ ⟨_, rfl⟩ _ ⟨_, rfl⟩ _ ⟨_, rfl⟩ _ ⟨_, rfl⟩
          simp only [St.withD, List.nil_append, List.cons_append]
          refine St.ob_value (v := ?_) (w' := w) (by go_simp) ?_ ⟨Below.refl _ _, ?_⟩
          rotate_left
          · go_simp
            with_reducible rfl
          · rfl
        · intro w hB; rintro _ ⟨_, rfl⟩ _ ⟨_, rfl⟩ _ ⟨_, rfl⟩
          simp only [St.withD, List.nil_append, List.cons_append]
          refine St.ob_value (v := .bool false) (w' := w) (by go_simp) ?_ ⟨Below.refl _ _, rfl⟩
          go_simp
          try rfl
        · intro w hB; rintro _ ⟨_, rfl⟩ _ ⟨_, rfl⟩
          simp only [St.withD, List.nil_append, List.cons_append]
          refine St.ob_value (v := ?_) (w' := w) (by rfl) ?_ ⟨Below.refl _ _, ?_⟩
          rotate_left
          · go_simp
            with_reducible rfl
          · rfl
        · intro w hB; rintro _ ⟨_, rfl⟩
          simp only [St.withD, List.nil_append, List.cons_append]
          refine St.ob_value (v := ?_) (w' := w) (by rfl) ?_ ⟨Below.refl _ _, ?_⟩
          rotate_left
          · go_simp
            with_reducible rfl
          · rfl
        · intro w hB; rintro _ ⟨_, rfl⟩
          simp only [St.withD, List.nil_append, List.cons_append]
          refine St.ob_value (v := ?_) (w' := w) (by go_simp) ?_ ⟨Below.refl _ _, ?_⟩
          rotate_left
          · go_simp
            with_reducible rfl
          · rfl
        · intro w hB; rintro _ ⟨_, rfl⟩ _ ⟨_, rfl⟩
          simp only [St.withD, List.nil_append, List.cons_append]
          refine St.ob_value (v := ?_) (w' := w) (by go_simp) ?_ ⟨Below.refl _ _, ?_⟩
          rotate_left
          · go_simp
            with_reducible rfl
          · rfl
        · intro w hB; rintro _ ⟨_, rfl⟩ _ ⟨_, rfl⟩
          simp only [St.withD, List.nil_append, List.cons_append]
          obtain ⟨n0, n1, n2⟩ := (HX9.out.below hB).cells
          have h9 := blk_below HG9.out hB
          have d0 : w.cell? ⟨g9, 0, none⟩ = some (.int .i64 (f : Int)) := (blk_cell h9 0).trans rfl
          have d1 : w.cell? ⟨g9, 1, none⟩ = some (.int .i64 ((f : Int) + h)) := (blk_cell h9 1).trans rfl
          have d2 : w.cell? ⟨g9, 2, none⟩ = some (.int .u64 r1) := (blk_cell h9 2).trans rfl
          have d3 : w.cell? ⟨g9, 3, none⟩ = some (.int .i64 ((f : Int) + h)) := (blk_cell h9 3).trans rfl
          have d4 : w.cell? ⟨g9, 4, none⟩ = some (.int .i64 (t : Int)) := (blk_cell h9 4).trans rfl
          have d5 : w.cell? ⟨g9, 5, none⟩ = some (.int .u64 r2) := (blk_cell h9 5).trans rfl
          refine St.ob_value (v := ?_) (w' := w) (by go_simp) ?_ ⟨Below.refl _ _, ?_⟩
          rotate_left
          · go_simp
            with_reducible rfl
          · rfl
        · intro w hB; rintro _ ⟨_, rfl⟩
          simp only [St.withD, List.nil_append, List.cons_append]
          refine St.ob_value (v := ?_) (w' := w) (by go_simp) ?_ ⟨Below.refl _ _, ?_⟩
          rotate_left
          · go_simp
            with_reducible rfl
          · rfl
        · intro w hB; rintro _ ⟨_, rfl⟩
          simp only [St.withD, List.nil_append, List.cons_append]
          refine St.ob_value (v := ?_) (w' := w) (by go_simp) ?_ ⟨Below.refl _ _, ?_⟩
          rotate_left
          · go_simp
            with_reducible rfl
          · rfl
        · intro w hB; rintro _ ⟨_, rfl⟩ _ ⟨_, rfl⟩
          simp only [St.withD, List.nil_append, List.cons_append]
          obtain ⟨n0, n1, n2⟩ := (HX9.out.below hB).cells
          have h9 := blk_below HG9.out hB
          have d0 : w.cell? ⟨g9, 0, none⟩ = some (.int .i64 (f : Int)) := (blk_cell h9 0).trans rfl
          have d1 : w.cell? ⟨g9, 1, none⟩ = some (.int .i64 ((f : Int) + h)) := (blk_cell h9 1).trans rfl
          have d2 : w.cell? ⟨g9, 2, none⟩ = some (.int .u64 r1) := (blk_cell h9 2).trans rfl
          have d3 : w.cell? ⟨g9, 3, none⟩ = some (.int .i64 ((f : Int) + h)) := (blk_cell h9 3).trans rfl
          have d4 : w.cell? ⟨g9, 4, none⟩ = some (.int .i64 (t : Int)) := (blk_cell h9 4).trans rfl
          have d5 : w.cell? ⟨g9, 5, none⟩ = some (.int .u64 r2) := (blk_cell h9 5).trans rfl
          refine St.ob_value (v := ?_) (w' := w) (by go_simp) ?_ ⟨Below.refl _ _, ?_⟩
          rotate_left
          · go_simp
            with_reducible rfl
          · rfl
        · intro w hB; rintro _ ⟨_, rfl⟩
          simp only [St.withD, List.nil_append, List.cons_append]
          refine St.ob_value (v := ?_) (w' := w) (by go_simp) ?_ ⟨Below.refl _ _, ?_⟩
          rotate_left
          · go_simp
            with_reducible rfl
          · rfl
        · intro w hB; rintro _ ⟨_, rfl⟩
          simp only [St.withD, List.nil_append, List.cons_append]
          refine St.ob_value (v := ?_) (w' := w) (by go_simp) ?_ ⟨Below.refl _ _, ?_⟩
          rotate_left
          · go_simp
            with_reducible rfl
          · rfl
        · intro w hB; rintro _ ⟨_, rfl⟩
          simp only [St.withD, List.nil_append, List.cons_append]
          refine St.ob_value (v := ?_) (w' := w) (by go_simp) ?_ ⟨Below.refl _ _, ?_⟩
          rotate_left
          · go_simp
            with_reducible rfl
          · rfl
        · intro w hB; rintro _ ⟨_, rfl⟩ _ ⟨_, rfl⟩
          simp only [St.withD, List.nil_append, List.cons_append]
          obtain ⟨n0, n1, n2⟩ := (HX9.out.below hB).cells
          have h9 := blk_below HG9.out hB
          have d0 : w.cell? ⟨g9, 0, none⟩ = some (.int .i64 (f : Int)) := (blk_cell h9 0).trans rfl
          have d1 : w.cell? ⟨g9, 1, none⟩ = some (.int .i64 ((f : Int) + h)) := (blk_cell h9 1).trans rfl
          have d2 : w.cell? ⟨g9, 2, none⟩ = some (.int .u64 r1) := (blk_cell h9 2).trans rfl
          have d3 : w.cell? ⟨g9, 3, none⟩ = some (.int .i64 ((f : Int) + h)) := (blk_cell h9 3).trans rfl
          have d4 : w.cell? ⟨g9, 4, none⟩ = some (.int .i64 (t : Int)) := (blk_cell h9 4).trans rfl
          have d5 : w.cell? ⟨g9, 5, none⟩ = some (.int .u64 r2) := (blk_cell h9 5).trans rfl
          refine St.ob_value (v := ?_) (w' := w) (by go_simp) ?_ ⟨Below.refl _ _, ?_⟩
          rotate_left
          · go_simp
            with_reducible rfl
          · rfl
        · intro w hB; rintro _ ⟨_, rfl⟩ _ ⟨_, rfl⟩ _ ⟨_, rfl⟩ _ ⟨_, rfl⟩
          simp only [St.withD, List.nil_append, List.cons_append]
          refine St.ob_value (v := ?_) (w' := w) (by go_simp) ?_ ⟨Below.refl _ _, ?_⟩
          rotate_left
          · go_simp
            with_reducible rfl
          · rfl
        · intro w hB; rintro _ ⟨_, rfl⟩ _ ⟨_, rfl⟩
          simp only [St.withD, List.nil_append, List.cons_append]
          refine St.ob_call Try.func13 (by kernel_rfl) rfl #[.slice A2 (t - (f + h)) (ca - (f + h))] (by go_simp) rfl (by go_simp) ?_
          refine (HR2.out w (HLA.out.below (HX9.out.below hB).bel).ls).mono ?_
          rintro e w1 ⟨rfl, hb1⟩
          refine ⟨_, rfl, hb1, ?_⟩
          rfl
        · intro w hB; rintro _ ⟨_, rfl⟩ _ ⟨_, rfl⟩ _ ⟨_, rfl⟩ _ ⟨_, rfl⟩
          simp only [St.withD, List.nil_append, List.cons_append]
          refine St.ob_value (v := ?_) (w' := w) (by go_simp) ?_ ⟨Below.refl _ _, ?_⟩
          rotate_left
          · go_simp
            with_reducible rfl
          · rfl
        · intro w hB; rintro _ ⟨_, rfl⟩ _ ⟨_, rfl⟩ _ ⟨_, rfl⟩
          simp only [St.withD, List.nil_append, List.cons_append]
          refine St.ob_value (v := .bool false) (w' := w) (by go_simp) ?_ ⟨Below.refl _ _, rfl⟩
          go_simp
          try rfl
        · intro w hB; rintro _ ⟨_, rfl⟩ _ ⟨_, rfl⟩
          simp only [St.withD, List.nil_append, List.cons_append]
          refine St.ob_value (v := ?_) (w' := w) (by rfl) ?_ ⟨Below.refl _ _, ?_⟩
          rotate_left
          · go_simp
            with_reducible rfl
          · rfl
      case hst => exact ⟨St.eqT_st, St.eqT_st, St.eqT_st, St.eqT_st, St.eqT_st, St.eqT_st, St.eqT_st, St.eqT_st, St.eqT_st, St.eqT_st, St.eqT_st, St.eqT_st, St.eqT_st, St.eqT_st, St.eqT_st, St.eqT_st, St.eqT_st, St.eqT_st, St.eqT_st, St.eqT_st, St.eqT_st, St.eqT_st, St.eqT_st, St.eqT_st, St.eqT_st, St.eqT_st, St.eqT_st, St.eqT_st, St.eqT_st, St.eqT_st, St.eqT_st, St.eqT_st, St.eqT_st, St.eqT_st, St.eqT_st, trivial⟩
      case h0 => exact below_drew1 HB11.out
      case hB => exact fun w w' h k => below_step h k
      case hend =>
        intro w hB
        rintro _ rfl _ rfl _ rfl _ rfl _ rfl _ rfl _ rfl _ rfl _ rfl _ rfl _ rfl _ rfl _ rfl _ rfl _ rfl _ rfl _ rfl _ rfl _ rfl _ rfl _ rfl _ rfl _ rfl _ rfl _ rfl _ rfl _ rfl _ rfl _ rfl _ rfl _ rfl _ rfl _ rfl _ rfl _ rfl
        simp only [List.map_cons, List.map_nil, List.nil_append, List.cons_append, List.getD_cons_zero, List.getD_cons_succ, Act.put, List.setIfInBounds_toArray, List.set_cons_zero, List.set_cons_succ]
        rw [St.withE_nil]
        have HBQ := Aside0.mk hB
        clear hB
        go_wp2_with fail
        go_meet
        case rel => exact HBQ
  case rest =>
  have HW15 := hcut
  have HX15 := Aside0.mk (HX9.out.below HW15.out)
  clear HW15 HX9 HHV
  go_upto_region 16 with fail
  obtain ⟨wn, hwn⟩ : ∃ wn : Nat, max c 1 = wn := ⟨(max c 1).toNat, by omega⟩
  have hw1 : 1 ≤ wn := by omega
  have HC := Aside0.mk hwn
  clear hwn
  go_cut [12] from 152 to 154 (fun x12 W => x12 = .int .i64 (wn : Int) ∧ wc = W)
  case first =>
    skip
    obtain ⟨n0, n1, n2⟩ := HX15.out.cells
    go_wp2_with fail
    all_goals
      go_meet
      case rel => exact ⟨congrArg _ (by have := HC.out; omega), rfl⟩
  case rest =>
  obtain ⟨rfl, rfl⟩ := hcut
  obtain ⟨n0, n1, n2⟩ := HX15.out.cells
  go_wp2_with fail
  refine (cut_any l A na ca c _ (HLA.out.below HX15.out.bel).ls (wf_in HWF.out.2.2).1 (wf_in HWF.out.2.2).2).mono ?_
  rintro e w18 ⟨v14, rfl, hrr, hb18⟩
  have HX18 := Aside0.mk (HX15.out.below hb18)
  rw [HC.out, Int.toNat_natCast] at hrr
  have HOP : Aside0 (∀ p ∈ cts na wn na 0, p.1 ≤ p.2 ∧ p.2 ≤ na) := ⟨cts_in na wn hw1 na 0⟩
  have hol := cts_len na wn na 0
  obtain ⟨o, ho⟩ : ∃ o, cts na wn na 0 = o := ⟨_, rfl⟩
  rw [ho] at hrr HOP hol
  obtain ⟨A4, c4, rfl, hc4, hc4m, hcell⟩ := hrr.shape
  obtain ⟨k, hk⟩ : ∃ k, o.length = k := ⟨_, rfl⟩
  have HK := Aside0.mk hk
  rw [hk] at hol hc4 hrr ⊢
  have HO := Aside0.mk hrr
  have HCL := Aside0.mk hcell
  have HO0 := Aside0.mk ho.symm
  clear hrr hcell ho hk hb18 n0 n1 n2 HX15
  go_wp2_with fail
  go_loopg [13, 161] k (fun d x13 x161 wr => ∃ (i x f : Nat), Aside0 (i + d = k) ∧ x13 = .int .i64 x ∧ x161 = .int .i64 i ∧ Aside0 (x ≤ na ∧ na ≤ x + f ∧ o.drop i = cts na wn f x) ∧ Aside0 (Below w18.heap.size w18 wr))
  case atStart => exact ⟨0, 0, na, ⟨by omega⟩, rfl, rfl, ⟨by omega, by omega, HO0.out⟩, ⟨Below.refl _ _⟩⟩
  case round =>
    clear HO0
    obtain ⟨i, x, f, HI, rfl, rfl, HS, HB⟩ := hrel
    by_cases hlt : i < k
    · skip
      obtain ⟨f', hf', hxn, hget, hnext⟩ := cts_step (by have := HK.out; omega) HS.out.2.2
      obtain ⟨g4, rfl, hg4, hgl, a0, a1, a2⟩ := HCL.out i (by have := HK.out; omega)
      rw [hget] at a0 a1 a2
      obtain ⟨u, hu⟩ : ∃ u, min wn (na - x) = u := ⟨_, rfl⟩
      obtain ⟨A1, hcut1, hrt1⟩ := root_gen l A na ca x (x + u) (by omega) (by omega) hca
      obtain ⟨r, hr⟩ : ∃ r, root lf pr (sub l x (x + u - x)) = r := ⟨_, rfl⟩
      rw [hr] at hrt1
      rw [hu] at a0 a1 a2
      unfold rt at a2
      simp only [hr] at a2
      simp only [Int.natCast_add] at a1 hcut1
      rw [show x + u - x = u by omega] at hcut1 hrt1
      rw [hu] at hnext
      have b0 : wr.cell? ⟨g4, i * 3, none⟩ = some (.int .i64 (x : Int)) := (HB.out.cell (p := ⟨g4, i * 3, none⟩) hgl).trans a0
      have b1 : wr.cell? ⟨g4, i * 3 + 1, none⟩ = some (.int .i64 ((x : Int) + u)) := (HB.out.cell (p := ⟨g4, i * 3 + 1, none⟩) hgl).trans a1
      have b2 : wr.cell? ⟨g4, i * 3 + 2, none⟩ = some (.int .u64 r) := (HB.out.cell (p := ⟨g4, i * 3 + 2, none⟩) hgl).trans a2
      have HNX : Aside0 (na ≤ x + u + f' ∧ o.drop (i + 1) = cts na wn f' (x + u)) := ⟨by have := HS.out.2.1; omega, hnext⟩
      have HR1 := Aside0.mk hrt1
      have HU := Aside0.mk hu
      have hiI : (i : Int) < k := by omega
      have hi0 : (0 : Int) ≤ i := by omega
      have hxI : ¬ (na : Int) ≤ x := by omega
      have hx0 : (0 : Int) ≤ x := by omega
      have hu0 : (0 : Int) ≤ u := by omega
      have hxu : (x : Int) + u ≤ na := by omega
      clear a0 a1 a2 hget hnext hrt1 hr hu hf'
      go_upto_region 22 with fail
      have HX9 : Aside0 (RX a b c w0 (wr.alloc (.cells #[.int .i64 (x : Int), .int .i64 ((x : Int) + u), .int .u64 r] 37))) := ⟨(HX18.out.below HB.out).below (below_alloc (Below.refl _ _) _)⟩
      have HG9 : Aside0 ((wr.alloc (.cells #[.int .i64 (x : Int), .int .i64 ((x : Int) + u), .int .u64 r] 37)).heap[wr.heap.size]? = some (.cells #[.int .i64 (x : Int), .int .i64 ((x : Int) + u), .int .u64 r] 37 (0, 0))) := ⟨blk_new wr _⟩
      have HBW : Aside0 (Below w18.heap.size w18 (wr.alloc (.cells #[.int .i64 (x : Int), .int .i64 ((x : Int) + u), .int .u64 r] 37))) := ⟨below_step HB.out (below_alloc (Below.refl _ _) _)⟩
      clear b0 b1 b2
      generalize wr.alloc (.cells #[.int .i64 (x : Int), .int .i64 ((x : Int) + u), .int .u64 r] 37) = W1 at HX9 HG9 HBW ⊢
      generalize wr.heap.size = g9 at HG9 ⊢
      go_cut [17] from 165 to 172 (fun x17 W => x17 = .int .i64 ((x : Int) + u) ∧ W1 = W)
      case first =>
        have hxa : (x : Int) ≤ na := by omega
        have hwx : IntKind.i64.wrap ((na : Int) - x) = (na : Int) - x := by rw [IntKind.wrap_i64]; omega
        go_wp2_with fail
        all_goals
          go_meet
          case rel => exact ⟨congrArg _ (by have := HU.out; omega), rfl⟩
      case rest =>
      obtain ⟨rfl, rfl⟩ := hcut
      go_upto_region 23 with fail
      go_cut [188] from 173 to 187 (fun x188 W => x188 = .bool false ∧ Aside0 (Below W1.heap.size W1 W))
      case first =>
        have hEQ : ∀ w : World, (Op.equalIn 10000 37 (.agg #[.int .i64 (x : Int), .int .i64 ((x : Int) + u), .int .u64 r]) (.agg #[.int .i64 (x : Int), .int .i64 ((x : Int) + u), .int .u64 r])).run Try.prog w = .ok true w := fun w => by have := eqA37 9998 w ((x : Int)) ((x : Int)) (((x : Int) + u)) (((x : Int) + u)) (r) (r); simpa using this
        refine St.steadyR (n := 16) (by kernel_rfl) ([] :: [] :: [(1, 174)] :: [(0, 173), (2, 175)] :: [(3, 176)] :: [(4, 177)] :: [(4, 177)] :: [(4, 177)] :: [(4, 177)] :: [(4, 177)] :: [(4, 177)] :: [(4, 177), (8, 181), (9, 182), (10, 183)] :: [(4, 177), (11, 184)] :: [(4, 177), (6, 179), (7, 180), (12, 185)] :: [(4, 177), (5, 178), (13, 186)] :: [(4, 177), (14, 187)] :: []) (some 173 :: some 174 :: some 175 :: some 176 :: some 177 :: some 178 :: some 179 :: some 180 :: some 181 :: some 182 :: some 183 :: some 184 :: some 185 :: some 186 :: some 187 :: some 188 :: []) (by kernel_rfl) ((St.eqT ?c23_0x4) :: (St.eqT ?c23_1x4) :: (St.eqT ?c23_2x4) :: (St.eqT ?c23_3x4) :: (St.eqT ?c23_4x4) :: (St.eqT ?c23_5x4) :: (St.eqT ?c23_6x4) :: (St.eqT ?c23_7x4) :: (St.eqT ?c23_8x4) :: (St.eqT ?c23_9x4) :: (St.eqT ?c23_10x4) :: (St.eqT ?c23_11x4) :: (St.eqT ?c23_12x4) :: (St.eqT ?c23_13x4) :: (St.eqT (.bool false)) :: (St.eqT ?c23_15x4) :: []) rfl (by rfl) (fun w' => Below W1.heap.size W1 w') (fun w w' => Below w.heap.size w w') ?hst ?h0 ?hB ?hop ?hend
        case hop =>
          refine obs_op 248 ((0, _) :: (13, _) :: (16, _) :: (17, _) :: []) rfl ⟨⟨rfl, fun _ => rfl⟩, ⟨rfl, fun _ => rfl⟩, ⟨rfl, fun _ => rfl⟩, ⟨rfl, fun _ => rfl⟩, trivial⟩ ?_
          rintro a0 hsz ⟨⟨f0, e0⟩, ⟨f13, e13⟩, ⟨f16, e16⟩, ⟨f17, e17⟩, _⟩
          simp only at f0 e0 f13 e13 f16 e16 f17 e17
          refine ⟨?_, ?_, ?_, ?_, ?_, ?_, ?_, ?_, ?_, ?_, ?_, ?_, ?_, ?_, ?_, ?_, trivial⟩
          · intro w hB
            simp only [St.withD, List.nil_append, List.cons_append]
            refine St.ob_value (v := ?_) (w' := w) (by rfl) ?_ ⟨Below.refl _ _, ?_⟩
            rotate_left
            · go_simp
              with_reducible rfl
            · rfl
          · intro w hB
            simp only [St.withD, List.nil_append, List.cons_append]
            refine St.ob_value (v := ?_) (w' := w) (by rfl) ?_ ⟨Below.refl _ _, ?_⟩
            rotate_left
            · go_simp
              with_reducible rfl
            · rfl
          · intro w hB; rintro _ ⟨_, rfl⟩
            simp only [St.withD, List.nil_append, List.cons_append]
            refine St.ob_value (v := ?_) (w' := w) (by rfl) ?_ ⟨Below.refl _ _, ?_⟩
            rotate_left
            · go_simp
              with_reducible rfl
            · rfl
          · intro w hB; rintro _ ⟨_, rfl⟩ _ ⟨_, rfl⟩
            simp only [St.withD, List.nil_append, List.cons_append]
            refine St.ob_value (v := ?_) (w' := w) (by rfl) ?_ ⟨Below.refl _ _, ?_⟩
            rotate_left
            · go_simp
              with_reducible rfl
            · rfl
          · intro w hB; rintro _ ⟨_, rfl⟩
            simp only [St.withD, List.nil_append, List.cons_append]
            refine St.ob_value (v := ?_) (w' := w) (by rfl) ?_ ⟨Below.refl _ _, ?_⟩
            rotate_left
            · go_simp
              with_reducible rfl
            · rfl
          · intro w hB; rintro _ ⟨_, rfl⟩
            simp only [St.withD, List.nil_append, List.cons_append]
            have h9 := blk_below HG9.out hB
            have d0 : w.cell? ⟨g9, 0, none⟩ = some (.int .i64 (x : Int)) := (blk_cell h9 0).trans rfl
            have d1 : w.cell? ⟨g9, 1, none⟩ = some (.int .i64 ((x : Int) + u)) := (blk_cell h9 1).trans rfl
            have d2 : w.cell? ⟨g9, 2, none⟩ = some (.int .u64 r) := (blk_cell h9 2).trans rfl
            refine St.ob_value (v := ?_) (w' := w) (by go_simp) ?_ ⟨Below.refl _ _, ?_⟩
            rotate_left
            · go_simp
              with_reducible rfl
            · rfl
          · intro w hB; rintro _ ⟨_, rfl⟩
            simp only [St.withD, List.nil_append, List.cons_append]
            refine St.ob_value (v := ?_) (w' := w) (by go_simp) ?_ ⟨Below.refl _ _, ?_⟩
            rotate_left
            · go_simp
              with_reducible rfl
            · rfl
          · intro w hB; rintro _ ⟨_, rfl⟩
            simp only [St.withD, List.nil_append, List.cons_append]
            refine St.ob_value (v := ?_) (w' := w) (by go_simp) ?_ ⟨Below.refl _ _, ?_⟩
            rotate_left
            · go_simp
              with_reducible rfl
            · rfl
          · intro w hB; rintro _ ⟨_, rfl⟩
            simp only [St.withD, List.nil_append, List.cons_append]
            refine St.ob_value (v := ?_) (w' := w) (by go_simp) ?_ ⟨Below.refl _ _, ?_⟩
            rotate_left
            · go_simp
              with_reducible rfl
            · rfl
          · intro w hB; rintro _ ⟨_, rfl⟩
            simp only [St.withD, List.nil_append, List.cons_append]
            refine St.ob_value (v := ?_) (w' := w) (by go_simp) ?_ ⟨Below.refl _ _, ?_⟩
            rotate_left
            · go_simp
              with_reducible rfl
            · rfl
          · intro w hB; rintro _ ⟨_, rfl⟩
            simp only [St.withD, List.nil_append, List.cons_append]
            refine St.ob_value (v := ?_) (w' := w) (by go_simp) ?_ ⟨Below.refl _ _, ?_⟩
            rotate_left
            · go_simp
              with_reducible rfl
            · rfl
          · intro w hB; rintro _ ⟨_, rfl⟩ _ ⟨_, rfl⟩ _ ⟨_, rfl⟩ _ ⟨_, rfl⟩
            simp only [St.withD, List.nil_append, List.cons_append]
            refine St.ob_value (v := ?_) (w' := w) (by go_simp) ?_ ⟨Below.refl _ _, ?_⟩
            rotate_left
            · go_simp
              with_reducible rfl
            · rfl
          · intro w hB; rintro _ ⟨_, rfl⟩ _ ⟨_, rfl⟩
            simp only [St.withD, List.nil_append, List.cons_append]
            refine St.ob_call Try.func13 (by kernel_rfl) rfl #[.slice A1 u (ca - x)] (by go_simp) rfl (by go_simp) ?_
            refine (HR1.out w (HLA.out.below (HX9.out.below hB).bel).ls).mono ?_
            rintro e w1 ⟨rfl, hb1⟩
            refine ⟨_, rfl, hb1, ?_⟩
            rfl
          · intro w hB; rintro _ ⟨_, rfl⟩ _ ⟨_, rfl⟩ _ ⟨_, rfl⟩ _ ⟨_, rfl⟩
            simp only [St.withD, List.nil_append, List.cons_append]
            refine St.ob_value (v := ?_) (w' := w) (by go_simp) ?_ ⟨Below.refl _ _, ?_⟩
            rotate_left
            · go_simp
              with_reducible rfl
            · rfl
          · intro w hB; rintro _ ⟨_, rfl⟩ _ ⟨_, rfl⟩ _ ⟨_, rfl⟩
            simp only [St.withD, List.nil_append, List.cons_append]
            refine St.ob_value (v := .bool false) (w' := w) (by go_simp) ?_ ⟨Below.refl _ _, rfl⟩
            go_simp
            try rfl
          · intro w hB; rintro _ ⟨_, rfl⟩ _ ⟨_, rfl⟩
            simp only [St.withD, List.nil_append, List.cons_append]
            refine St.ob_value (v := ?_) (w' := w) (by rfl) ?_ ⟨Below.refl _ _, ?_⟩
            rotate_left
            · go_simp
              with_reducible rfl
            · rfl
        case hst => exact ⟨St.eqT_st, St.eqT_st, St.eqT_st, St.eqT_st, St.eqT_st, St.eqT_st, St.eqT_st, St.eqT_st, St.eqT_st, St.eqT_st, St.eqT_st, St.eqT_st, St.eqT_st, St.eqT_st, St.eqT_st, St.eqT_st, trivial⟩
        case h0 => exact below_drew1 (Below.refl _ _)
        case hB => exact fun w w' h k => below_step h k
        case hend =>
          intro w hB
          rintro _ rfl _ rfl _ rfl _ rfl _ rfl _ rfl _ rfl _ rfl _ rfl _ rfl _ rfl _ rfl _ rfl _ rfl _ rfl _ rfl
          simp only [List.map_cons, List.map_nil, List.nil_append, List.cons_append, List.getD_cons_zero, List.getD_cons_succ, Act.put, List.setIfInBounds_toArray, List.set_cons_zero, List.set_cons_succ]
          rw [St.withE_nil]
          have HBQ := Aside0.mk hB
          clear hB
          go_wp2_with fail
          go_meet
          case rel => exact ⟨rfl, HBQ⟩
      case rest =>
      obtain ⟨rfl, HBC⟩ := hcut
      have HBZ := Aside0.mk (below_step HBW.out HBC.out)
      clear HBC HBW HX9 HG9 hcut1
      go_wp2
      go_roundg (gk - 1)
      case measure => have := HI.out; omega
      case rel => exact ⟨i + 1, x + u, f', ⟨by have := HI.out; omega⟩, by go_num, by go_num, ⟨by omega, HNX.out.1, HNX.out.2⟩, HBZ⟩
    · have hxn : x = na := by
        have h1 := HS.out
        have h2 := cts_end (by have := HK.out; omega) h1.2.2 h1.2.1
        omega
      subst hxn
      go_wp2_with fail
      refine (unlike_any l l o (fun p hp => ⟨(HOP.out p hp).1, by have := (HOP.out p hp).2; omega⟩) (by have := HK.out; omega) A x ca _ _ _ (HLA.out.below (HX18.out.below HB.out).bel).ls (HO.out.below HB.out)).mono ?_
      rintro e w27 ⟨v27, rfl, hr27, hb27⟩
      rw [unl_same l o 0 (fun p hp => by rw [(HLA.out).ls.len]; exact (HOP.out p hp).2)] at hr27
      obtain ⟨A5, c5, rfl, _, _⟩ := own_nums hr27
      have HB27 := Aside0.mk (below_step HB.out hb27)
      clear hr27 hb27 HB
      go_wp2_with fail
      refine (unlike_any l m o (fun p hp => ⟨(HOP.out p hp).1, by have := (HOP.out p hp).2; omega⟩) (by have := HK.out; omega) B nb cb _ _ _ (HLB.out.below (HX18.out.below HB27.out).bel).ls (HO.out.below HB27.out)).mono ?_
      rintro e w29 ⟨v29, rfl, hr29, hb29⟩
      have HB29 := Aside0.mk (below_step HB27.out hb29)
      have HN0 : Aside0 (∃ xs, unl m l 0 o = xs) := ⟨_, rfl⟩
      obtain ⟨xs, hxs⟩ := HN0.out
      have hxk := unl_len m l o 0
      rw [hxs] at hr29 hxk
      obtain ⟨A6, c6, rfl, hc6, hs6⟩ := own_nums hr29
      obtain ⟨kx, hkx⟩ : ∃ kx, xs.length = kx := ⟨_, rfl⟩
      have HKX := Aside0.mk hkx
      rw [hkx] at hc6 hxk ⊢
      have hxk2 : kx ≤ k := by have := HK.out; omega
      have HS6 := Aside0.mk hs6
      have HXS := Aside0.mk hxs
      clear hr29 hb29 HB27 HN0 hs6 hxs hkx hxk
      go_wp2_with fail
      go_loopg [19, 207] k (fun d x19 x207 wr => ∃ (i j : Nat), Aside0 (i + d = k) ∧ x19 = .int .i64 j ∧ x207 = .int .i64 i ∧ Aside0 (j ≤ kx ∧ xs.drop j = unl m l i (o.drop i)) ∧ Aside0 (Below w29.heap.size w29 wr))
      case atStart => exact ⟨0, 0, ⟨by omega⟩, rfl, rfl, ⟨Nat.zero_le _, by simpa using HXS.out.symm⟩, ⟨Below.refl _ _⟩⟩
      case round =>
        clear HXS
        obtain ⟨i, j, HI2, rfl, rfl, HS2, HB2⟩ := hrel
        by_cases hl2 : i < k
        · skip
          have hio : i < o.length := by have := HK.out; omega
          obtain ⟨g4, rfl, hg4, hgl, a0, a1, a2⟩ := HCL.out i hio
          have HUD := Aside0.mk (unl_drop m l o i hio)
          obtain ⟨p, hp⟩ : ∃ p, o.getD i (0, 0) = p := ⟨_, rfl⟩
          have hpm : p ∈ o := by rw [← hp, List.getD_eq_getElem?_getD, List.getElem?_eq_getElem hio]; exact List.getElem_mem _
          obtain ⟨hp1, hp2⟩ := HOP.out p hpm
          rw [hp] at a0 a1 a2 HUD
          have HBL : Below w18.heap.size w18 wr := below_step HB29.out HB2.out
          obtain ⟨px, py⟩ := p
          obtain ⟨r, hr⟩ : ∃ r, rt l (px, py) = r := ⟨_, rfl⟩
          rw [hr] at a2
          simp only at a0 a1 hp1 hp2
          have b0 : wr.cell? ⟨g4, i * 3, none⟩ = some (.int .i64 (px : Int)) := (HBL.cell (p := ⟨g4, i * 3, none⟩) hgl).trans a0
          have b1 : wr.cell? ⟨g4, i * 3 + 1, none⟩ = some (.int .i64 (py : Int)) := (HBL.cell (p := ⟨g4, i * 3 + 1, none⟩) hgl).trans a1
          have b2 : wr.cell? ⟨g4, i * 3 + 2, none⟩ = some (.int .u64 r) := (HBL.cell (p := ⟨g4, i * 3 + 2, none⟩) hgl).trans a2
          have hiI : (i : Int) < k := by omega
          have hi0 : (0 : Int) ≤ i := by omega
          have hp0 : (0 : Int) ≤ px := by omega
          have hpy : (px : Int) ≤ py := by omega
          have HRT := Aside0.mk hr
          clear a0 a1 a2 hp hpm hr
          go_upto_region 34 with fail
          have HX9 : Aside0 (RX a b c w0 (wr.alloc (.cells #[.int .i64 (px : Int), .int .i64 (py : Int), .int .u64 r] 37))) := ⟨(HX18.out.below HBL).below (below_alloc (Below.refl _ _) _)⟩
          have HG9 : Aside0 ((wr.alloc (.cells #[.int .i64 (px : Int), .int .i64 (py : Int), .int .u64 r] 37)).heap[wr.heap.size]? = some (.cells #[.int .i64 (px : Int), .int .i64 (py : Int), .int .u64 r] 37 (0, 0))) := ⟨blk_new wr _⟩
          have HBW : Aside0 (Below w29.heap.size w29 (wr.alloc (.cells #[.int .i64 (px : Int), .int .i64 (py : Int), .int .u64 r] 37))) := ⟨below_step HB2.out (below_alloc (Below.refl _ _) _)⟩
          clear b0 b1 b2 HBL
          generalize wr.alloc (.cells #[.int .i64 (px : Int), .int .i64 (py : Int), .int .u64 r] 37) = W1 at HX9 HG9 HBW ⊢
          generalize wr.heap.size = g9 at HG9 ⊢
          go_cut [228] from 212 to 227 (fun x228 W => x228 = .bool (smR m l (px, py)) ∧ Aside0 (Below W1.heap.size W1 W))
          case first =>
            by_cases hyn : py ≤ nb
            · obtain ⟨A1, hcut1, hrt1⟩ := root_gen m B nb cb px py hp1 hyn hcb
              obtain ⟨r2, hr2⟩ : ∃ r, root lf pr (sub m px (py - px)) = r := ⟨_, rfl⟩
              rw [hr2] at hrt1
              have HR1 := Aside0.mk hrt1
              have HSM : Aside0 (smR m l (px, py) = (r2 == r)) := ⟨by
                unfold smR
                rw [HRT.out, show rt m (px, py) = r2 from hr2, HLB.out.ls.len]
                by_cases e : r2 = r
                · rw [decide_eq_true ⟨hyn, e⟩]; simp [e]
                · rw [decide_eq_false (fun h => e h.2)]; simp [e]⟩
              have hyI : (py : Int) ≤ nb := by omega
              clear hrt1 hr2
              refine St.steadyR (n := 17) (by kernel_rfl) ([] :: [(0, 212)] :: [] :: [(2, 214)] :: [(1, 213), (3, 215)] :: [(4, 216)] :: [(5, 217)] :: [(5, 217)] :: [(5, 217), (7, 219)] :: [(5, 217)] :: [(5, 217), (9, 221)] :: [(5, 217), (6, 218), (8, 220), (10, 222)] :: [(5, 217), (11, 223)] :: [(5, 217)] :: [(5, 217), (13, 225)] :: [(5, 217), (12, 224), (14, 226)] :: [(5, 217), (15, 227)] :: []) (some 212 :: some 213 :: some 214 :: some 215 :: some 216 :: some 217 :: some 218 :: some 219 :: some 220 :: some 221 :: some 222 :: some 223 :: some 224 :: some 225 :: some 226 :: some 227 :: some 228 :: []) (by kernel_rfl) ((St.eqT ?c34_0x5) :: (St.eqT ?c34_1x5) :: (St.eqT ?c34_2x5) :: (St.eqT ?c34_3x5) :: (St.eqT ?c34_4x5) :: (St.eqT ?c34_5x5) :: (St.eqT ?c34_6x5) :: (St.eqT ?c34_7x5) :: (St.eqT ?c34_8x5) :: (St.eqT ?c34_9x5) :: (St.eqT ?c34_10x5) :: (St.eqT ?c34_11x5) :: (St.eqT ?c34_12x5) :: (St.eqT ?c34_13x5) :: (St.eqT ?c34_14x5) :: (St.eqT ?c34_15x5) :: (St.eqT ?c34_16x5) :: []) rfl (by rfl) (fun w' => Below W1.heap.size W1 w') (fun w w' => Below w.heap.size w w') ?hst ?h0 ?hB ?hop ?hend
              case hop =>
                refine obs_op 248 ((2, _) :: (21, _) :: []) rfl ⟨⟨rfl, fun _ => rfl⟩, ⟨rfl, fun _ => rfl⟩, trivial⟩ ?_
                rintro a0 hsz ⟨⟨f2, e2⟩, ⟨f21, e21⟩, _⟩
                simp only at f2 e2 f21 e21
                refine ⟨?_, ?_, ?_, ?_, ?_, ?_, ?_, ?_, ?_, ?_, ?_, ?_, ?_, ?_, ?_, ?_, ?_, trivial⟩
                · intro w hB
                  simp only [St.withD, List.nil_append, List.cons_append]
                  refine St.ob_value (v := ?_) (w' := w) (by rfl) ?_ ⟨Below.refl _ _, ?_⟩
                  rotate_left
                  · go_simp
                    with_reducible rfl
                  · rfl
                · intro w hB; rintro _ ⟨_, rfl⟩
                  simp only [St.withD, List.nil_append, List.cons_append]
                  have h9 := blk_below HG9.out hB
                  have d0 : w.cell? ⟨g9, 0, none⟩ = some (.int .i64 (px : Int)) := (blk_cell h9 0).trans rfl
                  have d1 : w.cell? ⟨g9, 1, none⟩ = some (.int .i64 (py : Int)) := (blk_cell h9 1).trans rfl
                  have d2 : w.cell? ⟨g9, 2, none⟩ = some (.int .u64 r) := (blk_cell h9 2).trans rfl
                  refine St.ob_value (v := ?_) (w' := w) (by rfl) ?_ ⟨Below.refl _ _, ?_⟩
                  rotate_left
                  · go_simp
                    with_reducible rfl
                  · rfl
                · intro w hB
                  simp only [St.withD, List.nil_append, List.cons_append]
                  refine St.ob_value (v := ?_) (w' := w) (by rfl) ?_ ⟨Below.refl _ _, ?_⟩
                  rotate_left
                  · go_simp
                    with_reducible rfl
                  · rfl
                · intro w hB; rintro _ ⟨_, rfl⟩
                  simp only [St.withD, List.nil_append, List.cons_append]
                  refine St.ob_value (v := ?_) (w' := w) (by rfl) ?_ ⟨Below.refl _ _, ?_⟩
                  rotate_left
                  · go_simp
                    with_reducible rfl
                  · rfl
                · intro w hB; rintro _ ⟨_, rfl⟩ _ ⟨_, rfl⟩
                  simp only [St.withD, List.nil_append, List.cons_append]
                  refine St.ob_value (v := ?_) (w' := w) (by rfl) ?_ ⟨Below.refl _ _, ?_⟩
                  rotate_left
                  · go_simp
                    with_reducible rfl
                  · rfl
                · intro w hB; rintro _ ⟨_, rfl⟩
                  simp only [St.withD, List.nil_append, List.cons_append]
                  refine St.ob_value (v := ?_) (w' := w) (by rfl) ?_ ⟨Below.refl _ _, ?_⟩
                  rotate_left
                  · go_simp
                    with_reducible rfl
                  · rfl
                · intro w hB; rintro _ ⟨_, rfl⟩
                  simp only [St.withD, List.nil_append, List.cons_append]
                  refine St.ob_value (v := ?_) (w' := w) (by go_simp) ?_ ⟨Below.refl _ _, ?_⟩
                  rotate_left
                  · go_simp
                    with_reducible rfl
                  · rfl
                · intro w hB; rintro _ ⟨_, rfl⟩
                  simp only [St.withD, List.nil_append, List.cons_append]
                  refine St.ob_value (v := ?_) (w' := w) (by go_simp) ?_ ⟨Below.refl _ _, ?_⟩
                  rotate_left
                  · go_simp
                    with_reducible rfl
                  · rfl
                · intro w hB; rintro _ ⟨_, rfl⟩ _ ⟨_, rfl⟩
                  simp only [St.withD, List.nil_append, List.cons_append]
                  have h9 := blk_below HG9.out hB
                  have d0 : w.cell? ⟨g9, 0, none⟩ = some (.int .i64 (px : Int)) := (blk_cell h9 0).trans rfl
                  have d1 : w.cell? ⟨g9, 1, none⟩ = some (.int .i64 (py : Int)) := (blk_cell h9 1).trans rfl
                  have d2 : w.cell? ⟨g9, 2, none⟩ = some (.int .u64 r) := (blk_cell h9 2).trans rfl
                  refine St.ob_value (v := ?_) (w' := w) (by go_simp) ?_ ⟨Below.refl _ _, ?_⟩
                  rotate_left
                  · go_simp
                    with_reducible rfl
                  · rfl
                · intro w hB; rintro _ ⟨_, rfl⟩
                  simp only [St.withD, List.nil_append, List.cons_append]
                  refine St.ob_value (v := ?_) (w' := w) (by go_simp) ?_ ⟨Below.refl _ _, ?_⟩
                  rotate_left
                  · go_simp
                    with_reducible rfl
                  · rfl
                · intro w hB; rintro _ ⟨_, rfl⟩ _ ⟨_, rfl⟩
                  simp only [St.withD, List.nil_append, List.cons_append]
                  have h9 := blk_below HG9.out hB
                  have d0 : w.cell? ⟨g9, 0, none⟩ = some (.int .i64 (px : Int)) := (blk_cell h9 0).trans rfl
                  have d1 : w.cell? ⟨g9, 1, none⟩ = some (.int .i64 (py : Int)) := (blk_cell h9 1).trans rfl
                  have d2 : w.cell? ⟨g9, 2, none⟩ = some (.int .u64 r) := (blk_cell h9 2).trans rfl
                  refine St.ob_value (v := ?_) (w' := w) (by go_simp) ?_ ⟨Below.refl _ _, ?_⟩
                  rotate_left
                  · go_simp
                    with_reducible rfl
                  · rfl
                · intro w hB; rintro _ ⟨_, rfl⟩ _ ⟨_, rfl⟩ _ ⟨_, rfl⟩ _ ⟨_, rfl⟩
                  simp only [St.withD, List.nil_append, List.cons_append]
                  refine St.ob_value (v := ?_) (w' := w) (by go_simp) ?_ ⟨Below.refl _ _, ?_⟩
                  rotate_left
                  · go_simp
                    with_reducible rfl
                  · rfl
                · intro w hB; rintro _ ⟨_, rfl⟩ _ ⟨_, rfl⟩
                  simp only [St.withD, List.nil_append, List.cons_append]
                  refine St.ob_call Try.func13 (by kernel_rfl) rfl #[.slice A1 (py - px) (cb - px)] (by go_simp) rfl (by go_simp) ?_
                  refine (HR1.out w (HLB.out.below (HX9.out.below hB).bel).ls).mono ?_
                  rintro e w1 ⟨rfl, hb1⟩
                  refine ⟨_, rfl, hb1, ?_⟩
                  rfl
                · intro w hB; rintro _ ⟨_, rfl⟩
                  simp only [St.withD, List.nil_append, List.cons_append]
                  refine St.ob_value (v := ?_) (w' := w) (by go_simp) ?_ ⟨Below.refl _ _, ?_⟩
                  rotate_left
                  · go_simp
                    with_reducible rfl
                  · rfl
                · intro w hB; rintro _ ⟨_, rfl⟩ _ ⟨_, rfl⟩
                  simp only [St.withD, List.nil_append, List.cons_append]
                  have h9 := blk_below HG9.out hB
                  have d0 : w.cell? ⟨g9, 0, none⟩ = some (.int .i64 (px : Int)) := (blk_cell h9 0).trans rfl
                  have d1 : w.cell? ⟨g9, 1, none⟩ = some (.int .i64 (py : Int)) := (blk_cell h9 1).trans rfl
                  have d2 : w.cell? ⟨g9, 2, none⟩ = some (.int .u64 r) := (blk_cell h9 2).trans rfl
                  refine St.ob_value (v := ?_) (w' := w) (by go_simp) ?_ ⟨Below.refl _ _, ?_⟩
                  rotate_left
                  · go_simp
                    with_reducible rfl
                  · rfl
                · intro w hB; rintro _ ⟨_, rfl⟩ _ ⟨_, rfl⟩ _ ⟨_, rfl⟩
                  simp only [St.withD, List.nil_append, List.cons_append]
                  refine St.ob_value (v := ?_) (w' := w) (by go_simp) ?_ ⟨Below.refl _ _, ?_⟩
                  rotate_left
                  · go_simp
                    with_reducible rfl
                  · rfl
                · intro w hB; rintro _ ⟨_, rfl⟩ _ ⟨_, rfl⟩
                  simp only [St.withD, List.nil_append, List.cons_append]
                  refine St.ob_value (v := ?_) (w' := w) (by rfl) ?_ ⟨Below.refl _ _, ?_⟩
                  rotate_left
                  · go_simp
                    with_reducible rfl
                  · rfl
              case hst => exact ⟨St.eqT_st, St.eqT_st, St.eqT_st, St.eqT_st, St.eqT_st, St.eqT_st, St.eqT_st, St.eqT_st, St.eqT_st, St.eqT_st, St.eqT_st, St.eqT_st, St.eqT_st, St.eqT_st, St.eqT_st, St.eqT_st, St.eqT_st, trivial⟩
              case h0 => exact below_drew1 (Below.refl _ _)
              case hB => exact fun w w' h k => below_step h k
              case hend =>
                intro w hB
                rintro _ rfl _ rfl _ rfl _ rfl _ rfl _ rfl _ rfl _ rfl _ rfl _ rfl _ rfl _ rfl _ rfl _ rfl _ rfl _ rfl _ rfl
                simp only [List.map_cons, List.map_nil, List.nil_append, List.cons_append, List.getD_cons_zero, List.getD_cons_succ, Act.put, List.setIfInBounds_toArray, List.set_cons_zero, List.set_cons_succ]
                rw [St.withE_nil]
                have HBQ := Aside0.mk hB
                clear hB
                go_wp2_with fail
                go_meet
                case rel => exact ⟨by rw [HSM.out], HBQ⟩
            · have HSM : Aside0 (smR m l (px, py) = false) := ⟨by
                unfold smR
                exact decide_eq_false (fun h => hyn (by have := h.1; rw [HLB.out.ls.len] at this; exact this))⟩
              have hyI : ¬ (py : Int) ≤ nb := by omega
              refine St.steadyR (n := 17) (by kernel_rfl) ([] :: [(0, 212)] :: [] :: [(2, 214)] :: [(1, 213), (3, 215)] :: [(4, 216)] :: [(5, 217)] :: [(5, 217)] :: [(5, 217), (7, 219)] :: [(5, 217)] :: [(5, 217), (9, 221)] :: [(5, 217), (6, 218), (8, 220), (10, 222)] :: [(5, 217), (11, 223)] :: [(5, 217)] :: [(5, 217), (13, 225)] :: [(5, 217), (12, 224), (14, 226)] :: [(5, 217), (15, 227)] :: []) (some 212 :: some 213 :: some 214 :: some 215 :: some 216 :: some 217 :: some 218 :: some 219 :: some 220 :: some 221 :: some 222 :: some 223 :: some 224 :: some 225 :: some 226 :: some 227 :: some 228 :: []) (by kernel_rfl) ((St.eqT ?c34_0x6) :: (St.eqT ?c34_1x6) :: (St.eqT ?c34_2x6) :: (St.eqT ?c34_3x6) :: (St.eqT ?c34_4x6) :: (St.eqT ?c34_5x6) :: (St.eqT undef) :: (St.eqT undef) :: (St.eqT undef) :: (St.eqT undef) :: (St.eqT undef) :: (St.eqT undef) :: (St.eqT undef) :: (St.eqT undef) :: (St.eqT undef) :: (St.eqT undef) :: (St.eqT ?c34_16x6) :: []) rfl (by rfl) (fun w' => Below W1.heap.size W1 w') (fun w w' => Below w.heap.size w w') ?hst ?h0 ?hB ?hop ?hend
              case hop =>
                refine obs_op 248 ((2, _) :: (21, _) :: []) rfl ⟨⟨rfl, fun _ => rfl⟩, ⟨rfl, fun _ => rfl⟩, trivial⟩ ?_
                rintro a0 hsz ⟨⟨f2, e2⟩, ⟨f21, e21⟩, _⟩
                simp only at f2 e2 f21 e21
                refine ⟨?_, ?_, ?_, ?_, ?_, ?_, ?_, ?_, ?_, ?_, ?_, ?_, ?_, ?_, ?_, ?_, ?_, trivial⟩
                · intro w hB
                  simp only [St.withD, List.nil_append, List.cons_append]
                  refine St.ob_value (v := ?_) (w' := w) (by rfl) ?_ ⟨Below.refl _ _, ?_⟩
                  rotate_left
                  · go_simp
                    with_reducible rfl
                  · rfl
                · intro w hB; rintro _ ⟨_, rfl⟩
                  simp only [St.withD, List.nil_append, List.cons_append]
                  have h9 := blk_below HG9.out hB
                  have d0 : w.cell? ⟨g9, 0, none⟩ = some (.int .i64 (px : Int)) := (blk_cell h9 0).trans rfl
                  have d1 : w.cell? ⟨g9, 1, none⟩ = some (.int .i64 (py : Int)) := (blk_cell h9 1).trans rfl
                  have d2 : w.cell? ⟨g9, 2, none⟩ = some (.int .u64 r) := (blk_cell h9 2).trans rfl
                  refine St.ob_value (v := ?_) (w' := w) (by rfl) ?_ ⟨Below.refl _ _, ?_⟩
                  rotate_left
                  · go_simp
                    with_reducible rfl
                  · rfl
                · intro w hB
                  simp only [St.withD, List.nil_append, List.cons_append]
                  refine St.ob_value (v := ?_) (w' := w) (by rfl) ?_ ⟨Below.refl _ _, ?_⟩
                  rotate_left
                  · go_simp
                    with_reducible rfl
                  · rfl
                · intro w hB; rintro _ ⟨_, rfl⟩
                  simp only [St.withD, List.nil_append, List.cons_append]
                  refine St.ob_value (v := ?_) (w' := w) (by rfl) ?_ ⟨Below.refl _ _, ?_⟩
                  rotate_left
                  · go_simp
                    with_reducible rfl
                  · rfl
                · intro w hB; rintro _ ⟨_, rfl⟩ _ ⟨_, rfl⟩
                  simp only [St.withD, List.nil_append, List.cons_append]
                  refine St.ob_value (v := ?_) (w' := w) (by rfl) ?_ ⟨Below.refl _ _, ?_⟩
                  rotate_left
                  · go_simp
                    with_reducible rfl
                  · rfl
                · intro w hB; rintro _ ⟨_, rfl⟩
                  simp only [St.withD, List.nil_append, List.cons_append]
                  refine St.ob_value (v := ?_) (w' := w) (by rfl) ?_ ⟨Below.refl _ _, ?_⟩
                  rotate_left
                  · go_simp
                    with_reducible rfl
                  · rfl
                · intro w hB; rintro _ ⟨_, rfl⟩
                  simp only [St.withD, List.nil_append, List.cons_append]
                  refine St.ob_off (by go_simp) ⟨Below.refl _ _, rfl⟩
                · intro w hB; rintro _ ⟨_, rfl⟩
                  simp only [St.withD, List.nil_append, List.cons_append]
                  refine St.ob_off (by go_simp) ⟨Below.refl _ _, rfl⟩
                · intro w hB; rintro _ ⟨_, rfl⟩ _ ⟨_, rfl⟩
                  simp only [St.withD, List.nil_append, List.cons_append]
                  refine St.ob_off (by go_simp) ⟨Below.refl _ _, rfl⟩
                · intro w hB; rintro _ ⟨_, rfl⟩
                  simp only [St.withD, List.nil_append, List.cons_append]
                  refine St.ob_off (by go_simp) ⟨Below.refl _ _, rfl⟩
                · intro w hB; rintro _ ⟨_, rfl⟩ _ ⟨_, rfl⟩
                  simp only [St.withD, List.nil_append, List.cons_append]
                  refine St.ob_off (by go_simp) ⟨Below.refl _ _, rfl⟩
                · intro w hB; rintro _ ⟨_, rfl⟩ _ ⟨_, rfl⟩ _ ⟨_, rfl⟩ _ ⟨_, rfl⟩
                  simp only [St.withD, List.nil_append, List.cons_append]
                  refine St.ob_off (by go_simp) ⟨Below.refl _ _, rfl⟩
                · intro w hB; rintro _ ⟨_, rfl⟩ _ ⟨_, rfl⟩
                  simp only [St.withD, List.nil_append, List.cons_append]
                  refine St.ob_off (by go_simp) ⟨Below.refl _ _, rfl⟩
                · intro w hB; rintro _ ⟨_, rfl⟩
                  simp only [St.withD, List.nil_append, List.cons_append]
                  refine St.ob_off (by go_simp) ⟨Below.refl _ _, rfl⟩
                · intro w hB; rintro _ ⟨_, rfl⟩ _ ⟨_, rfl⟩
                  simp only [St.withD, List.nil_append, List.cons_append]
                  refine St.ob_off (by go_simp) ⟨Below.refl _ _, rfl⟩
                · intro w hB; rintro _ ⟨_, rfl⟩ _ ⟨_, rfl⟩ _ ⟨_, rfl⟩
                  simp only [St.withD, List.nil_append, List.cons_append]
                  refine St.ob_off (by go_simp) ⟨Below.refl _ _, rfl⟩
                · intro w hB; rintro _ ⟨_, rfl⟩ _ ⟨_, rfl⟩
                  simp only [St.withD, List.nil_append, List.cons_append]
                  refine St.ob_value (v := ?_) (w' := w) (by rfl) ?_ ⟨Below.refl _ _, ?_⟩
                  rotate_left
                  · go_simp
                    with_reducible rfl
                  · rfl
              case hst => exact ⟨St.eqT_st, St.eqT_st, St.eqT_st, St.eqT_st, St.eqT_st, St.eqT_st, St.eqT_st, St.eqT_st, St.eqT_st, St.eqT_st, St.eqT_st, St.eqT_st, St.eqT_st, St.eqT_st, St.eqT_st, St.eqT_st, St.eqT_st, trivial⟩
              case h0 => exact below_drew1 (Below.refl _ _)
              case hB => exact fun w w' h k => below_step h k
              case hend =>
                intro w hB
                rintro _ rfl _ rfl _ rfl _ rfl _ rfl _ rfl _ rfl _ rfl _ rfl _ rfl _ rfl _ rfl _ rfl _ rfl _ rfl _ rfl _ rfl
                simp only [List.map_cons, List.map_nil, List.nil_append, List.cons_append, List.getD_cons_zero, List.getD_cons_succ, Act.put, List.setIfInBounds_toArray, List.set_cons_zero, List.set_cons_succ]
                rw [St.withE_nil]
                have HBQ := Aside0.mk hB
                clear hB
                go_wp2_with fail
                go_meet
                case rel => exact ⟨by rw [HSM.out], HBQ⟩
          case rest =>
          obtain ⟨rfl, HBC⟩ := hcut
          have HBZ := Aside0.mk (below_step HBW.out HBC.out)
          clear HBC HBW HX9 HG9
          cases hsm : smR m l (px, py)
          · have HDR : Aside0 (xs.drop j = (i : Int) :: unl m l (i + 1) (o.drop (i + 1))) := ⟨by
              have := HS2.out.2
              rw [HUD.out, hsm] at this
              exact this⟩
            have hjx : j < xs.length := by
              rcases Nat.lt_or_ge j xs.length with e | e
              · exact e
              · have := HDR.out
                rw [List.drop_eq_nil_of_le e] at this
                cases this
            have hjv : xs.getD j 0 = (i : Int) ∧ xs.drop (j + 1) = unl m l (i + 1) (o.drop (i + 1)) := by
              have := HDR.out
              rw [List.drop_eq_getElem_cons hjx] at this
              obtain ⟨e1, e2⟩ := List.cons.inj this
              exact ⟨by rw [List.getD_eq_getElem?_getD, List.getElem?_eq_getElem hjx]; exact e1, e2⟩
            obtain ⟨g6, rfl, hv6⟩ := HS6.out j hjx
            rw [hjv.1] at hv6
            have v6 := (HBZ.out.cell (p := ⟨g6, j, none⟩) (World.block_lt_of_cell? w29 _ hv6)).trans hv6
            have hjk : j < kx := by have := HKX.out; omega
            have hjI : ¬ (kx : Int) ≤ j := by omega
            have hj0 : (0 : Int) ≤ j := by omega
            have HNX := Aside0.mk hjv.2
            clear hv6 hjv HDR hsm
            go_wp2
            go_roundg (gk - 1)
            case measure => have := HI2.out; omega
            case rel => exact ⟨i + 1, j + 1, ⟨by have := HI2.out; omega⟩, by go_num, by go_num, ⟨by omega, HNX.out⟩, HBZ⟩
          · have HNX : Aside0 (xs.drop j = unl m l (i + 1) (o.drop (i + 1))) := ⟨by
              have := HS2.out.2
              rw [HUD.out, hsm] at this
              exact this⟩
            clear hsm
            go_wp2
            go_roundg (gk - 1)
            case measure => have := HI2.out; omega
            case rel => exact ⟨i + 1, j, ⟨by have := HI2.out; omega⟩, rfl, by go_num, ⟨HS2.out.1, HNX.out⟩, HBZ⟩
        · have hjk : j = kx := by
            have h1 := HS2.out
            have h2 : xs.drop j = [] := by rw [h1.2, List.drop_eq_nil_of_le (by have := HK.out; omega)]; rfl
            have h3 := congrArg List.length h2
            rw [List.length_drop] at h3
            have := HKX.out
            simp at h3
            omega
          subst hjk
          have HF : Aside0 (Below w0.heap.size w0 wr) := ⟨(HX18.out.below (below_step HB29.out HB2.out)).bel⟩
          have hiI : ¬ (i : Int) < k := by omega
          go_wp2
          go_ret
          exact ⟨rfl, HF.out⟩

set_option maxRecDepth 100000 in
theorem ranges_walk (A : Option Addr) (na ca : Nat) (l : List ByteArray) (a b c : Int) (wa : (Lit.int .i64 a).wf = true) (wb : (Lit.int .i64 b).wf = true) (wc : (Lit.int .i64 c).wf = true) (B : Option Addr) (nb cb : Nat) (m : List ByteArray) (w0 : World) (hA : IsStrs w0 A na ca l) (hB : IsStrs w0 B nb cb m) :
    Calls Try.prog 5 #[.slice A na ca, .agg #[.int .i64 a, .int .i64 b, .int .i64 c], .slice B nb cb] w0 fun e w' => e = .returned (.bool true) ∧ Below w0.heap.size w0 w' := by
  have HSA : Aside0 (∀ w : World, Below w0.heap.size w0 w → Calls Try.prog 7 #[.slice A na ca] w (SmPost (smallB l) w)) := ⟨fun w hbb => by
    obtain ⟨h1, h2, h3, h4, h5, h6⟩ := hA
    exact small_any A na ca l h1 (by omega) w (h4.below hbb) h5⟩
  have HSB : Aside0 (∀ w : World, Below w0.heap.size w0 w → Calls Try.prog 7 #[.slice B nb cb] w (SmPost (smallB m) w)) := ⟨fun w hbb => by
    obtain ⟨h1, h2, h3, h4, h5, h6⟩ := hB
    exact small_any B nb cb m h1 (by omega) w (h4.below hbb) h5⟩
  cases hsa : smallB l
  · rw [hsa] at HSA
    clear hsa hA hB wa wb wc
    go_enter Try.func5, Try.ntmps5
    go_wp2_with fail
    have HX0 : Aside0 (RX a b c w0 (w0.alloc (.cells #[.int .i64 a, .int .i64 b, .int .i64 c] 34))) := ⟨⟨blk_new w0 _, below_alloc (Below.refl _ _) _⟩⟩
    refine (awake_any _).mono ?_
    rintro e w1 ⟨rfl, hb1⟩
    have HX1 : Aside0 (RX a b c w0 w1) := ⟨HX0.out.below hb1⟩
    clear hb1 HX0
    go_wp2_with fail
    refine (HSA.out _ HX1.out.bel).mono ?_
    rintro e w2 ⟨rfl, rfl⟩
    go_wp2
    go_ret
    exact ⟨rfl, HX1.out.bel⟩
  · rw [hsa] at HSA
    cases hsb : smallB m
    · rw [hsb] at HSB
      clear hsa hsb hA hB wa wb wc
      go_enter Try.func5, Try.ntmps5
      go_wp2_with fail
      have HX0 : Aside0 (RX a b c w0 (w0.alloc (.cells #[.int .i64 a, .int .i64 b, .int .i64 c] 34))) := ⟨⟨blk_new w0 _, below_alloc (Below.refl _ _) _⟩⟩
      refine (awake_any _).mono ?_
      rintro e w1 ⟨rfl, hb1⟩
      have HX1 : Aside0 (RX a b c w0 w1) := ⟨HX0.out.below hb1⟩
      clear hb1 HX0
      go_wp2_with fail
      refine (HSA.out _ HX1.out.bel).mono ?_
      rintro e w2 ⟨rfl, rfl⟩
      go_wp2_with fail
      refine (HSB.out _ HX1.out.bel).mono ?_
      rintro e w3 ⟨rfl, rfl⟩
      go_wp2
      go_ret
      exact ⟨rfl, HX1.out.bel⟩
    · rw [hsb] at HSB
      exact ranges_in A na ca l a b c wa wb wc B nb cb m w0 (li_of hA hsa) (li_of hB hsb) HSA.out HSB.out

end Go.Proofs.Ytfijbhacobjjgaf
