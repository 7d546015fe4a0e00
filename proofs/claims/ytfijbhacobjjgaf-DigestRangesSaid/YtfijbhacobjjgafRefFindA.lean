/- The contract of the document's search. -/
import Derived.Test.YtfijbhacobjjgafProg
import Derived.Test.YtfijbhacobjjgafVals
import Derived.Test.YtfijbhacobjjgafWLast
import Derived.Test.YtfijbhacobjjgafWMore
import Derived.RegionTactic
import Derived.ChangeAlike
import Derived.BigRegion
import Derived.WalkLawsBesides
import Derived.WalkSpells
import Derived.Deep.LoopGhost
import Derived.Deep.QuietTactic
import Derived.BigQuiet
import Derived.OwnWalk
import Derived.Test.YtfijbhacobjjgafFindA
namespace Go.Proofs.Ytfijbhacobjjgaf
open Go.RowKit Go.Proofs.YtfijbhacobjjgafW.PrintWords Go.Proofs.YtfijbhacobjjgafW.PrintLast Go.Proofs.YtfijbhacobjjgafW.PrintMore Go.Proofs.Ytfijbhacobjjgaf.Fr
set_option linter.unusedVariables false
set_option linter.unusedSimpArgs false
attribute [local go_sem] max2_int min2_int max_two min_two

open Pl
set_option maxRecDepth 100000 in
set_option maxHeartbeats 1000000 in
theorem reffind_any (A : Option Addr) (na ca : Nat) (a : List ByteArray) (B : Option Addr) (nb cb : Nat) (b : List ByteArray) : ∀ (n f : Nat) (w : World), 1 ≤ n → f + n ≤ na → f + n ≤ nb → LS w A na ca a → LS w B nb cb b → Calls Try.prog 9 #[.slice A na ca, .slice B nb cb, .int .i64 (f : Int), .int .i64 ((f + n : Nat) : Int)] w (FindPost (fnd lf pr a b n f).1 (fnd lf pr a b n f).2 w) := by
  intro n
  induction n using Nat.strongRecOn with
  | _ n ih =>
    intro f w0 hn hfa hfb hA hB
    have IH := Aside0.mk ih
    clear ih
    obtain ⟨t, ht⟩ : ∃ t, f + n = t := ⟨_, rfl⟩
    rw [ht] at hfa hfb ⊢
    have HT := Aside0.mk ht
    have hft : f < t := by omega
    have ht1 : f + n ≤ t := by omega
    have ht2 : t ≤ f + n := by omega
    have hna := hA.le
    obtain ⟨A1, hcutA, _, hrA⟩ := hA.roots f t (by omega) hfa
    obtain ⟨B1, hcutB, _, hrB⟩ := hB.roots f t (by omega) hfb
    rw [show t - f = n by omega] at hrA hrB hcutA hcutB
    have HA := Aside0.mk hA
    have HB := Aside0.mk hB
    obtain ⟨r1, hr1⟩ : ∃ r1, root lf pr (sub a f n) = r1 := ⟨_, rfl⟩
    obtain ⟨r2, hr2⟩ : ∃ r2, root lf pr (sub b f n) = r2 := ⟨_, rfl⟩
    rw [hr1] at hrA
    rw [hr2] at hrB
    have HR := Aside0.mk (And.intro hr1 hr2)
    have HRA := Aside0.mk hrA
    have HRB := Aside0.mk hrB
    clear hr1 hr2 ht hA hB hrA hrB
    go_enter Try.func9, Try.ntmps9
    go_wp2
    refine St.steadyR (n := 11) (by kernel_rfl) ([] :: [] :: [] :: [(0, 15), (1, 16), (2, 17)] :: [(3, 18)] :: [] :: [] :: [] :: [(5, 20), (6, 21), (7, 22)] :: [(8, 23)] :: [(4, 19), (9, 24)] :: []) (some 15 :: some 16 :: some 17 :: some 18 :: some 19 :: some 20 :: some 21 :: some 22 :: some 23 :: some 24 :: some 25 :: []) (by kernel_rfl) ((St.eqT ?c1_0x2) :: (St.eqT ?c1_1x2) :: (St.eqT ?c1_2x2) :: (St.eqT ?c1_3x2) :: (St.eqT ?c1_4x2) :: (St.eqT ?c1_5x2) :: (St.eqT ?c1_6x2) :: (St.eqT ?c1_7x2) :: (St.eqT ?c1_8x2) :: (St.eqT ?c1_9x2) :: (St.eqT ?c1_10x2) :: []) rfl (by rfl) (fun w' => Below w0.heap.size w0 w') (fun w w' => Below w.heap.size w w') ?hst ?h0 ?hB ?hop ?hend
    case hop =>
      refine ⟨?_, ?_, ?_, ?_, ?_, ?_, ?_, ?_, ?_, ?_, ?_, trivial⟩
      · intro w hB
        simp only [St.withD]
        refine St.ob_value (v := ?_) (w' := w) (by rfl) ?_ ⟨Below.refl _ _, ?_⟩
        rotate_left
        · go_simp
          with_reducible rfl
        · rfl
      · intro w hB
        simp only [St.withD]
        refine St.ob_value (v := ?_) (w' := w) (by rfl) ?_ ⟨Below.refl _ _, ?_⟩
        rotate_left
        · go_simp
          with_reducible rfl
        · rfl
      · intro w hB
        simp only [St.withD]
        refine St.ob_value (v := ?_) (w' := w) (by rfl) ?_ ⟨Below.refl _ _, ?_⟩
        rotate_left
        · go_simp
          with_reducible rfl
        · rfl
      · intro w hB; rintro _ ⟨_, rfl⟩ _ ⟨_, rfl⟩ _ ⟨_, rfl⟩
        simp only [St.withD, List.nil_append, List.cons_append, Act.put, List.setIfInBounds_toArray, List.set_cons_zero, List.set_cons_succ]
        refine St.ob_value (v := ?_) (w' := w) (by rfl) ?_ ⟨Below.refl _ _, ?_⟩
        rotate_left
        · go_simp
          with_reducible rfl
        · rfl
      · intro w hB; rintro _ ⟨_, rfl⟩
        simp only [St.withD, List.nil_append, List.cons_append, Act.put, List.setIfInBounds_toArray, List.set_cons_zero, List.set_cons_succ]
        refine St.ob_call Try.func13 (by kernel_rfl) rfl #[.slice A1 n (ca - f)] (by rfl) rfl (by (try simp only [List.map_toArray, List.map_cons, List.map_nil]); first | done | rfl | (simp only [List.length_drop, List.length_take]; rfl)) ?_
        refine (HRA.out w hB).mono ?_
        rintro e w1 ⟨rfl, hb1⟩
        refine ⟨_, rfl, hb1, ?_⟩
        rfl
      · intro w hB
        simp only [St.withD]
        refine St.ob_value (v := ?_) (w' := w) (by rfl) ?_ ⟨Below.refl _ _, ?_⟩
        rotate_left
        · go_simp
          with_reducible rfl
        · rfl
      · intro w hB
        simp only [St.withD]
        refine St.ob_value (v := ?_) (w' := w) (by rfl) ?_ ⟨Below.refl _ _, ?_⟩
        rotate_left
        · go_simp
          with_reducible rfl
        · rfl
      · intro w hB
        simp only [St.withD]
        refine St.ob_value (v := ?_) (w' := w) (by rfl) ?_ ⟨Below.refl _ _, ?_⟩
        rotate_left
        · go_simp
          with_reducible rfl
        · rfl
      · intro w hB; rintro _ ⟨_, rfl⟩ _ ⟨_, rfl⟩ _ ⟨_, rfl⟩
        simp only [St.withD, List.nil_append, List.cons_append, Act.put, List.setIfInBounds_toArray, List.set_cons_zero, List.set_cons_succ]
        refine St.ob_value (v := ?_) (w' := w) (by rfl) ?_ ⟨Below.refl _ _, ?_⟩
        rotate_left
        · go_simp
          with_reducible rfl
        · rfl
      · intro w hB; rintro _ ⟨_, rfl⟩
        simp only [St.withD, List.nil_append, List.cons_append, Act.put, List.setIfInBounds_toArray, List.set_cons_zero, List.set_cons_succ]
        refine St.ob_call Try.func13 (by kernel_rfl) rfl #[.slice B1 n (cb - f)] (by rfl) rfl (by (try simp only [List.map_toArray, List.map_cons, List.map_nil]); first | done | rfl | (simp only [List.length_drop, List.length_take]; rfl)) ?_
        refine (HRB.out w hB).mono ?_
        rintro e w1 ⟨rfl, hb1⟩
        refine ⟨_, rfl, hb1, ?_⟩
        rfl
      · intro w hB; rintro _ ⟨_, rfl⟩ _ ⟨_, rfl⟩
        simp only [St.withD, List.nil_append, List.cons_append, Act.put, List.setIfInBounds_toArray, List.set_cons_zero, List.set_cons_succ]
        refine St.ob_value (v := ?_) (w' := w) (by rfl) ?_ ⟨Below.refl _ _, ?_⟩
        rotate_left
        · go_simp
          with_reducible rfl
        · rfl
    case hst => exact ⟨St.eqT_st, St.eqT_st, St.eqT_st, St.eqT_st, St.eqT_st, St.eqT_st, St.eqT_st, St.eqT_st, St.eqT_st, St.eqT_st, St.eqT_st, trivial⟩
    case h0 => exact below_drew1 (Below.refl _ _)
    case hB => exact fun w w' h k => below_step h k
    case hend =>
      intro w hB
      rintro _ rfl _ rfl _ rfl _ rfl _ rfl _ rfl _ rfl _ rfl _ rfl _ rfl _ rfl
      simp only [List.map_cons, List.map_nil, List.nil_append, List.cons_append, List.getD_cons_zero, List.getD_cons_succ, Act.put, List.setIfInBounds_toArray, List.set_cons_zero, List.set_cons_succ]
      rw [St.withE_nil]
      have HW := Aside0.mk hB
      clear hB HRA HRB hcutA hcutB
      by_cases he : r1 = r2
      · have HF : Aside0 (fnd lf pr a b n f = ([], 1)) := ⟨fnd_same lf pr (by rw [HR.out.1, HR.out.2, he])⟩
        have hq : (r1 == r2) = true := beq_iff_eq.2 he
        clear he
        go_wp2
        go_ret2
        rw [HF.out]
        exact ⟨_, rfl, ⟨rfl, .inl ⟨rfl, rfl⟩⟩, HW.out⟩
      have hq : (r1 == r2) = false := beq_eq_false_iff_ne.2 he
      have HNE : Aside0 (¬ root lf pr (sub a f n) = root lf pr (sub b f n)) := ⟨by rw [HR.out.1, HR.out.2]; exact he⟩
      clear he
      by_cases h1 : n = 1
      · have HF : Aside0 (fnd lf pr a b n f = ([(f : Int)], 1)) := ⟨fnd_one lf pr HNE.out (by omega)⟩
        have hq1 : ((t : Int) == (f : Int) + 1) = true := beq_iff_eq.2 (by omega)
        have HRO : Aside0 ((w.alloc (.cells #[.int .i64 (f : Int)] 3)).ownsRow w0.heap.size 3 1 (.slice (some ⟨w.heap.size, 0, none⟩) 1 1) [(f : Int)].length (nums .i64 [(f : Int)])) := ⟨(Blk.lit w 3 (Value.int .i64) [(f : Int)]).own (base := w0.heap.size) HW.out.size (by simp)⟩
        clear h1 IH HR HNE
        go_wp2
        go_ret2
        rw [HF.out]
        exact ⟨_, rfl, HRO.out, below_alloc HW.out _⟩
      have hq1 : ((t : Int) == (f : Int) + 1) = false := beq_eq_false_iff_ne.2 (by omega)
      have hn2 : 2 ≤ n := by omega
      have HF : Aside0 (fnd lf pr a b n f = ((fnd lf pr a b (half n) f).1 ++ (fnd lf pr a b (n - half n) (f + half n)).1, 1 + (fnd lf pr a b (half n) f).2 + (fnd lf pr a b (n - half n) (f + half n)).2)) := ⟨fnd_two lf pr HNE.out hn2⟩
      have hh1 := half_lt hn2
      have hh2 := half_pos n
      have HHF : Aside0 (∀ w : World, Calls Try.prog 15 #[.int .i64 ((t : Int) - f)] w fun e w' => e = .returned (.int .i64 (half n)) ∧ w' = w) := ⟨fun w => by
        have := refHalf_any n hn2 (by omega) w
        rwa [show (n : Int) = (t : Int) - f by omega] at this⟩
      obtain ⟨h, hh⟩ : ∃ h, half n = h := ⟨_, rfl⟩
      rw [hh] at HHF hh1 hh2 HF
      have hlen1 := fnd_asked lf pr a b h f (by omega)
      have hlen2 := fnd_asked lf pr a b (n - h) (f + h) (by omega)
      obtain ⟨F1, hF1⟩ : ∃ F1, fnd lf pr a b h f = F1 := ⟨_, rfl⟩
      obtain ⟨F2, hF2⟩ : ∃ F2, fnd lf pr a b (n - h) (f + h) = F2 := ⟨_, rfl⟩
      have IH1 : Aside0 (∀ w1 : World, Below w0.heap.size w0 w1 → Calls Try.prog 9 #[.slice A na ca, .slice B nb cb, .int .i64 (f : Int), .int .i64 ((f : Int) + h)] w1 (FindPost F1.1 F1.2 w1)) := ⟨fun w1 hb => by
        have := IH.out h hh1 f w1 (by omega) (by omega) (by omega) (HA.out.below hb) (HB.out.below hb)
        rw [hF1, show ((f + h : Nat) : Int) = (f : Int) + h by omega] at this
        exact this⟩
      rw [hF1] at hlen1
      rw [hF2] at hlen2
      have IH2 : Aside0 (∀ w1 : World, Below w0.heap.size w0 w1 → Calls Try.prog 9 #[.slice A na ca, .slice B nb cb, .int .i64 ((f : Int) + h), .int .i64 (t : Int)] w1 (FindPost F2.1 F2.2 w1)) := ⟨fun w1 hb => by
        have := IH.out (n - h) (by omega) (f + h) w1 (by omega) (by omega) (by omega) (HA.out.below hb) (HB.out.below hb)
        rw [hF2, show f + h + (n - h) = t by omega, show ((f + h : Nat) : Int) = (f : Int) + h by omega] at this
        exact this⟩
      have HFF : Aside0 (((fnd lf pr a b n f).2 : Int) = 1 + (F1.2 : Int) + (F2.2 : Int) ∧ (fnd lf pr a b n f).1 = F1.1 ++ F2.1) := ⟨by
        rw [HF.out, hF1, hF2]
        exact ⟨by show ((1 + F1.2 + F2.2 : Nat) : Int) = _; omega, rfl⟩⟩
      have e0 : (0 : Int) ≤ (t : Int) - f := by omega
      have e1 : (F1.2 : Int) ≤ 200 := by omega
      have e2 : (F2.2 : Int) ≤ 200 := by omega
      have e3 : F1.1.length + F2.1.length ≤ 200 := by omega
      have e4 : (f : Int) ≤ 60 := by omega
      have e5 : (t : Int) ≤ 60 := by omega
      have e6 : (h : Int) ≤ 60 := by omega
      clear IH HF hF1 hF2 hh HR HNE hh1 hh2 hlen1 hlen2 h1 HA HB
      go_wp2_with fail
      refine (HHF.out _).mono ?_
      rintro e w1 ⟨rfl, rfl⟩
      go_wp2_with fail
      refine (IH1.out _ HW.out).mono ?_
      rintro e w3 ⟨fv1, rfl, hr3, hb3⟩
      have HW3 : Aside0 (w3.ownsRow w0.heap.size 3 1 fv1 F1.1.length (nums .i64 F1.1) ∧ Below w0.heap.size w0 w3) := ⟨own_le hr3 HW.out.size, below_step HW.out hb3⟩
      clear hr3 hb3 IH1 HW
      go_wp2_with fail
      refine (IH2.out _ HW3.out.2).mono ?_
      rintro e w4 ⟨fv2, rfl, hr4, hb4⟩
      obtain ⟨A2, cc2, rfl, hrd⟩ := own_reads hr4
      have HW4 : Aside0 (w4.ownsRow w0.heap.size 3 1 fv1 F1.1.length (nums .i64 F1.1) ∧ Below w0.heap.size w0 w4) := ⟨(Ch.of_below (S := fun _ => False) hb4).own HW3.out.1 (fun _ _ h => h), below_step HW3.out.2 hb4⟩
      have HSZ := HW4.out.2.size
      clear hr4 hb4 IH2 HW3
      go_wp2_with ((with_reducible refine gate_dst (N := 56) rfl ?_); refine print_append_row (w0 := w4) w0.heap.size rfl (.tmp 54) (.tmp 55) 25 3 .i64 8 rfl Try.underlying25 info3 (by decide) fv1 F1.1 F2.1 A2 _ cc2 rfl rfl HW4.out.1 hrd (Below.refl _ _) HSZ (by omega) ?_; intro v1 w5 hown hbel hgrow hat; have HW5 := Aside0.mk (And.intro hown (HW4.out.2.grown hgrow HSZ (fun k hk => own_blk HW4.out.1 k hk))); clear hown hbel hgrow hat)
      go_ret2
      rw [HFF.out.1, HFF.out.2]
      exact ⟨_, rfl, HW5.out.1, HW5.out.2⟩
end Go.Proofs.Ytfijbhacobjjgaf
