/- ProofDiffers: the walk. -/
import Derived.Test.YtfafekejjnpbcaaProg
import Derived.Test.YtfafekejjnpbcaaVals
import Derived.Test.YtfafekejjnpbcaaWLast
import Derived.Test.YtfafekejjnpbcaaWMore
import Derived.RegionTactic
import Derived.ChangeAlike
import Derived.BigRegion
import Derived.WalkLawsBesides
import Derived.WalkSpells
import Derived.Deep.LoopGhost
import Derived.Deep.QuietTactic
import Derived.BigQuiet
import Derived.OwnWalk
import Derived.Test.YtfafekejjnpbcaaDifferB
import Derived.StillTailTactics
namespace Go.Proofs.Ytfafekejjnpbcaa
open Go.RowKit Go.Proofs.YtfafekejjnpbcaaW.PrintWords Go.Proofs.YtfafekejjnpbcaaW.PrintLast Go.Proofs.YtfafekejjnpbcaaW.PrintMore Go.Proofs.Ytfafekejjnpbcaa.Fr
set_option linter.unusedVariables false
set_option linter.unusedSimpArgs false
attribute [local go_sem] max2_int min2_int max_two min_two

open Pl
set_option maxRecDepth 100000 in
set_option maxHeartbeats 2000000 in
theorem differs_walk (A : Option Addr) (na ca : Nat) (a : List ByteArray) (B : Option Addr) (nb cb : Nat) (b : List ByteArray) (n : Int) (hn : (Lit.int .i64 n).wf = true) (w : World) (ha : IsStrs w A na ca a) (hb : IsStrs w B nb cb b) : Calls Try.prog 6 #[.slice A na ca, .slice B nb cb, .int .i64 n] w fun e w' => e = .returned (.bool true) ∧ Below w.heap.size w w' := by
  obtain ⟨hn0, hn1⟩ := bounds_i64 hn
  have HA := Aside0.mk ha
  have HB := Aside0.mk hb
  have hca := ha.2.2.1
  have hcb := hb.2.2.1
  have hna := ha.2.1
  have hnb := hb.2.1
  clear ha hb hn
  by_cases hba : 60 < na
  · have h60 : (60 : Int) < (na : Int) := by omega
    go_enter Try.func6, Try.ntmps6
    go_wp2_with fail
    refine (awake_any w).mono ?_
    rintro e w1 ⟨rfl, hb1⟩
    go_wp2
    go_ret
    exact ⟨rfl, hb1⟩
  · by_cases hbb : 60 < nb
    · have h60 : (60 : Int) < (nb : Int) := by omega
      have h61 : ¬ (60 : Int) < (na : Int) := by omega
      go_enter Try.func6, Try.ntmps6
      go_wp2_with fail
      refine (awake_any w).mono ?_
      rintro e w1 ⟨rfl, hb1⟩
      go_wp2
      go_ret
      exact ⟨rfl, hb1⟩
    · have h60 : ¬ (60 : Int) < (nb : Int) := by omega
      have h61 : ¬ (60 : Int) < (na : Int) := by omega
      have HDF : Aside0 (∀ w1, Below w.heap.size w w1 → Calls Try.prog 17 #[.slice A na ca, .slice B nb cb] w1 fun e w' => e = .returned (.tuple #[.int .i64 (difV (dl a b (max na nb) 0)).1, .bool (difV (dl a b (max na nb) 0)).2]) ∧ Below w1.heap.size w1 w') := ⟨fun w1 h => Differ_any a b A B na ca nb cb w1 HA.out.1 HB.out.1 (by omega) (by omega) hna hnb hca hcb (HA.out.2.2.2.1.below h) (HB.out.2.2.2.1.below h) (fun s hs => Nat.le_trans (HA.out.2.2.2.2.1 s hs) (by omega)) (fun s hs => Nat.le_trans (HB.out.2.2.2.2.1 s hs) (by omega))⟩
      obtain ⟨o, ho⟩ : ∃ o, dl a b (max na nb) 0 = o := ⟨_, rfl⟩
      rw [ho] at HDF
      have HO := Aside0.mk ho
      clear ho
      go_enter Try.func6, Try.ntmps6
      go_wp2_with fail
      refine (awake_any w).mono ?_
      rintro e w1 ⟨rfl, hb1⟩
      go_wp2_with fail
      refine (HDF.out w1 hb1).mono ?_
      rintro e w2 ⟨rfl, hb2⟩
      have HB2 := Aside0.mk (below_step hb1 hb2)
      clear hb1 hb2 HDF
      obtain ⟨z, hz⟩ : ∃ z, (difV o).1 = z := ⟨_, rfl⟩
      obtain ⟨q, hq⟩ : ∃ q, (difV o).2 = q := ⟨_, rfl⟩
      rw [hz, hq]
      have HZ := Aside0.mk (And.intro hz hq)
      clear hz hq
      go_wp2
      go_loopg [9, 10, 11] (max na nb) (fun gk t9 t10 t11 wr => ∃ (k : Nat) (x : Int) (t : Bool), Aside0 (k + gk = max na nb) ∧ t9 = .int .i64 x ∧ t10 = .bool t ∧ t11 = .int .i64 k ∧ Aside0 (Below w.heap.size w wr ∧ (t = false → x = 0 ∧ o = dl a b (max na nb - k) k)) ∧ Aside0 (t = true → difV o = (x, true)))
      case atStart => exact ⟨0, 0, false, ⟨by omega⟩, rfl, rfl, rfl, ⟨HB2.out, fun _ => ⟨rfl, HO.out.symm⟩⟩, ⟨fun h => by cases h⟩⟩
      case round =>
        clear HB2 HO
        obtain ⟨k, x0, t, HK, rfl, rfl, rfl, HI, HT⟩ := hrel
        cases t
        · obtain rfl : x0 = 0 := (HI.out.2 rfl).1
          have HI2 : Aside0 (o = dl a b (max na nb - k) k) := ⟨(HI.out.2 rfl).2⟩
          have hmm := HK.out
          by_cases hlt : k < max na nb
          · have HD : Aside0 (k < na → k < nb → dl a b (max na nb - k) k = if lf (a.getD k ByteArray.empty) = lf (b.getD k ByteArray.empty) then dl a b (max na nb - (k + 1)) (k + 1) else some k) := ⟨fun h1 h2 => by
              rw [show max na nb - k = (max na nb - (k + 1)) + 1 by omega]
              simp only [dl]
              rw [HA.out.1, HB.out.1]
              by_cases hq : lf (a.getD k ByteArray.empty) = lf (b.getD k ByteArray.empty)
              · rw [if_neg (by intro hc; rcases hc with hc | hc | hc; omega; omega; exact hc hq), if_pos hq]
              · rw [if_pos (.inr (.inr hq)), if_neg hq]⟩
            have HN : Aside0 (¬ (k < na ∧ k < nb) → o = some k) := ⟨fun h => by
              rw [(HI.out.2 rfl).2, show max na nb - k = (max na nb - (k + 1)) + 1 by omega]
              simp only [dl]
              rw [HA.out.1, HB.out.1, if_pos (by omega)]⟩
            by_cases hka : k < na
            · by_cases hkb : k < nb
              · obtain ⟨aa, rfl, _⟩ := HA.out.2.2.2.1 k (by rw [HA.out.1]; exact hka)
                obtain ⟨ab, rfl, _⟩ := HB.out.2.2.2.1 k (by rw [HB.out.1]; exact hkb)
                have hsa := HA.out.2.2.2.2.1 (a.getD k ByteArray.empty) (by rw [List.getD_eq_getElem?_getD, List.getElem?_eq_getElem (by rw [HA.out.1]; exact hka)]; exact List.getElem_mem _)
                have hsb := HB.out.2.2.2.2.1 (b.getD k ByteArray.empty) (by rw [List.getD_eq_getElem?_getD, List.getElem?_eq_getElem (by rw [HB.out.1]; exact hkb)]; exact List.getElem_mem _)
                obtain ⟨x, hx⟩ : ∃ x, a.getD k ByteArray.empty = x := ⟨_, rfl⟩
                obtain ⟨y, hy⟩ : ∃ y, b.getD k ByteArray.empty = y := ⟨_, rfl⟩
                rw [hx, hy] at HD
                rw [hx] at hsa
                rw [hy] at hsb
                have HX := Aside0.mk (And.intro hx hy)
                have HS : Aside0 (x.size ≤ 140737488355328 ∧ y.size ≤ 140737488355328) := ⟨by omega, by omega⟩
                clear hx hy hsa hsb HN HT hmm
                have hlm : (k : Int) < (if na < nb then (nb : Int) else (na : Int)) := by split <;> omega
                clear hlt
                have hd1 : decide (na ≤ k) = false := decide_eq_false (by omega)
                have hd2 : decide (nb ≤ k) = false := decide_eq_false (by omega)
                rcases Nat.lt_or_ge na nb with hnn | hnn
                · go_wp2
                  refine St.steadyR (n := 23) (by kernel_rfl) ([] :: [] :: [(1, 42)] :: [(0, 41), (2, 43)] :: [(3, 44)] :: [(4, 45)] :: [(4, 45)] :: [(4, 45), (6, 47)] :: [(4, 45), (5, 46), (7, 48)] :: [(4, 45), (8, 49)] :: [(9, 50)] :: [(10, 51)] :: [(10, 51)] :: [(10, 51), (11, 52), (12, 53)] :: [(10, 51), (13, 54)] :: [(10, 51), (14, 55)] :: [(10, 51)] :: [(10, 51)] :: [(10, 51), (16, 57), (17, 58)] :: [(10, 51), (18, 59)] :: [(10, 51), (19, 60)] :: [(10, 51), (15, 56), (20, 61)] :: [(10, 51), (21, 62)] :: []) (some 41 :: some 42 :: some 43 :: some 44 :: some 45 :: some 46 :: some 47 :: some 48 :: some 49 :: some 50 :: some 51 :: some 52 :: some 53 :: some 54 :: some 55 :: some 56 :: some 57 :: some 58 :: some 59 :: some 60 :: some 61 :: some 62 :: some 63 :: []) (by kernel_rfl) ((St.eqT ?c10_0x7) :: (St.eqT ?c10_1x7) :: (St.eqT ?c10_2x7) :: (St.eqT ?c10_3x7) :: (St.eqT ?c10_4x7) :: (St.eqT ?c10_5x7) :: (St.eqT ?c10_6x7) :: (St.eqT ?c10_7x7) :: (St.eqT ?c10_8x7) :: (St.eqT ?c10_9x7) :: (St.eqT ?c10_10x7) :: (St.eqT ?c10_11x7) :: (St.eqT ?c10_12x7) :: (St.eqT ?c10_13x7) :: (St.eqT ?c10_14x7) :: (St.eqT ?c10_15x7) :: (St.eqT ?c10_16x7) :: (St.eqT ?c10_17x7) :: (St.eqT ?c10_18x7) :: (St.eqT ?c10_19x7) :: (St.eqT ?c10_20x7) :: (St.eqT ?c10_21x7) :: (St.eqT ?c10_22x7) :: []) rfl (by rfl) (fun w' => Below wr.heap.size wr w') (fun w w' => Below w.heap.size w w') ?hst ?h0 ?hB ?hop ?hend
                  case hop =>
                    refine ⟨?_, ?_, ?_, ?_, ?_, ?_, ?_, ?_, ?_, ?_, ?_, ?_, ?_, ?_, ?_, ?_, ?_, ?_, ?_, ?_, ?_, ?_, ?_, trivial⟩
                    · intro w hB
                      simp only [St.withD]
                      refine St.ob_value (v := ?_) (w' := w) (by rfl) ?_ ⟨Below.refl _ _, ?_⟩
                      rotate_left
                      · go_simp
                        with_reducible rfl
                      · rfl
                    · intro w hB
                      simp only [St.withD]
                      refine St.ob_value (v := ?_) (w' := w) (by rfl) ?_ ⟨Below.refl _ _, ?_⟩
                      rotate_left
                      · go_simp
                        with_reducible rfl
                      · rfl
                    · intro w hB; rintro _ ⟨_, rfl⟩
                      simp only [St.withD, List.nil_append, List.cons_append, Act.put, List.setIfInBounds_toArray, List.set_cons_zero, List.set_cons_succ]
                      refine St.ob_value (v := ?_) (w' := w) (by rfl) ?_ ⟨Below.refl _ _, ?_⟩
                      rotate_left
                      · go_simp
                        with_reducible rfl
                      · rfl
                    · intro w hB; rintro _ ⟨_, rfl⟩ _ ⟨_, rfl⟩
                      simp only [St.withD, List.nil_append, List.cons_append, Act.put, List.setIfInBounds_toArray, List.set_cons_zero, List.set_cons_succ]
                      refine St.ob_value (v := ?_) (w' := w) (by rfl) ?_ ⟨Below.refl _ _, ?_⟩
                      rotate_left
                      · go_simp
                        with_reducible rfl
                      · rfl
                    · intro w hB; rintro _ ⟨_, rfl⟩
                      simp only [St.withD, List.nil_append, List.cons_append, Act.put, List.setIfInBounds_toArray, List.set_cons_zero, List.set_cons_succ]
                      refine St.ob_value (v := ?_) (w' := w) (by rfl) ?_ ⟨Below.refl _ _, ?_⟩
                      rotate_left
                      · go_simp
                        with_reducible rfl
                      · rfl
                    · intro w hB; rintro _ ⟨_, rfl⟩
                      simp only [St.withD, List.nil_append, List.cons_append, Act.put, List.setIfInBounds_toArray, List.set_cons_zero, List.set_cons_succ]
                      refine St.ob_value (v := ?_) (w' := w) (by rfl) ?_ ⟨Below.refl _ _, ?_⟩
                      rotate_left
                      · go_simp
                        with_reducible rfl
                      · rfl
                    · intro w hB; rintro _ ⟨_, rfl⟩
                      simp only [St.withD, List.nil_append, List.cons_append, Act.put, List.setIfInBounds_toArray, List.set_cons_zero, List.set_cons_succ]
                      refine St.ob_value (v := ?_) (w' := w) (by rfl) ?_ ⟨Below.refl _ _, ?_⟩
                      rotate_left
                      · go_simp
                        with_reducible rfl
                      · rfl
                    · intro w hB; rintro _ ⟨_, rfl⟩ _ ⟨_, rfl⟩
                      simp only [St.withD, List.nil_append, List.cons_append, Act.put, List.setIfInBounds_toArray, List.set_cons_zero, List.set_cons_succ]
                      refine St.ob_value (v := ?_) (w' := w) (by rfl) ?_ ⟨Below.refl _ _, ?_⟩
                      rotate_left
                      · go_simp
                        with_reducible rfl
                      · rfl
                    · intro w hB; rintro _ ⟨_, rfl⟩ _ ⟨_, rfl⟩ _ ⟨_, rfl⟩
                      simp only [St.withD, List.nil_append, List.cons_append, Act.put, List.setIfInBounds_toArray, List.set_cons_zero, List.set_cons_succ]
                      refine St.ob_value (v := ?_) (w' := w) (by rfl) ?_ ⟨Below.refl _ _, ?_⟩
                      rotate_left
                      · go_simp
                        with_reducible rfl
                      · rfl
                    · intro w hB; rintro _ ⟨_, rfl⟩ _ ⟨_, rfl⟩
                      simp only [St.withD, List.nil_append, List.cons_append, Act.put, List.setIfInBounds_toArray, List.set_cons_zero, List.set_cons_succ]
                      refine St.ob_value (v := ?_) (w' := w) (by rfl) ?_ ⟨Below.refl _ _, ?_⟩
                      rotate_left
                      · go_simp
                        with_reducible rfl
                      · rfl
                    · intro w hB; rintro _ ⟨_, rfl⟩
                      simp only [St.withD, List.nil_append, List.cons_append, Act.put, List.setIfInBounds_toArray, List.set_cons_zero, List.set_cons_succ]
                      refine St.ob_value (v := ?_) (w' := w) (by rfl) ?_ ⟨Below.refl _ _, ?_⟩
                      rotate_left
                      · go_simp
                        with_reducible rfl
                      · rfl
                    · intro w hB; rintro _ ⟨_, rfl⟩
                      simp only [St.withD, List.nil_append, List.cons_append, Act.put, List.setIfInBounds_toArray, List.set_cons_zero, List.set_cons_succ]
                      refine St.ob_value (v := ?_) (w' := w) (by rfl) ?_ ⟨Below.refl _ _, ?_⟩
                      rotate_left
                      · go_simp
                        with_reducible rfl
                      · rfl
                    · intro w hB; rintro _ ⟨_, rfl⟩
                      simp only [St.withD, List.nil_append, List.cons_append, Act.put, List.setIfInBounds_toArray, List.set_cons_zero, List.set_cons_succ]
                      refine St.ob_value (v := ?_) (w' := w) (by rfl) ?_ ⟨Below.refl _ _, ?_⟩
                      rotate_left
                      · go_simp
                        with_reducible rfl
                      · rfl
                    · intro w hB; rintro _ ⟨_, rfl⟩ _ ⟨_, rfl⟩ _ ⟨_, rfl⟩
                      simp only [St.withD, List.nil_append, List.cons_append, Act.put, List.setIfInBounds_toArray, List.set_cons_zero, List.set_cons_succ]
                      refine St.ob_value (v := ?_) (w' := w) (by rfl) ?_ ⟨Below.refl _ _, ?_⟩
                      rotate_left
                      · go_simp
                        with_reducible rfl
                      · rfl
                    · intro w hB; rintro _ ⟨_, rfl⟩ _ ⟨_, rfl⟩
                      simp only [St.withD, List.nil_append, List.cons_append, Act.put, List.setIfInBounds_toArray, List.set_cons_zero, List.set_cons_succ]
                      obtain ⟨ad', e, c0⟩ := (HA.out.2.2.2.1.below (below_step HI.out.1 hB)) k (by rw [HA.out.1]; exact hka)
                      cases e
                      rw [HX.out.1] at c0
                      refine St.ob_value (v := .string x) (w' := w) (by rfl) ?_ ⟨Below.refl _ _, ?_⟩
                      · go_simp
                      · rfl
                    · intro w hB; rintro _ ⟨_, rfl⟩ _ ⟨_, rfl⟩
                      simp only [St.withD, List.nil_append, List.cons_append, Act.put, List.setIfInBounds_toArray, List.set_cons_zero, List.set_cons_succ]
                      refine St.ob_call Try.func15 (by kernel_rfl) rfl #[.string x] (by rfl) rfl (by (try simp only [List.map_toArray, List.map_cons, List.map_nil]); first | done | rfl | (simp only [List.length_drop, List.length_take]; rfl)) ?_
                      refine (refLeaf_any x w HS.out.1).mono ?_
                      rintro e w1 ⟨rfl, rfl⟩
                      refine ⟨_, rfl, Below.refl _ _, ?_⟩
                      rfl
                    · intro w hB; rintro _ ⟨_, rfl⟩
                      simp only [St.withD, List.nil_append, List.cons_append, Act.put, List.setIfInBounds_toArray, List.set_cons_zero, List.set_cons_succ]
                      refine St.ob_value (v := ?_) (w' := w) (by rfl) ?_ ⟨Below.refl _ _, ?_⟩
                      rotate_left
                      · go_simp
                        with_reducible rfl
                      · rfl
                    · intro w hB; rintro _ ⟨_, rfl⟩
                      simp only [St.withD, List.nil_append, List.cons_append, Act.put, List.setIfInBounds_toArray, List.set_cons_zero, List.set_cons_succ]
                      refine St.ob_value (v := ?_) (w' := w) (by rfl) ?_ ⟨Below.refl _ _, ?_⟩
                      rotate_left
                      · go_simp
                        with_reducible rfl
                      · rfl
                    · intro w hB; rintro _ ⟨_, rfl⟩ _ ⟨_, rfl⟩ _ ⟨_, rfl⟩
                      simp only [St.withD, List.nil_append, List.cons_append, Act.put, List.setIfInBounds_toArray, List.set_cons_zero, List.set_cons_succ]
                      refine St.ob_value (v := ?_) (w' := w) (by rfl) ?_ ⟨Below.refl _ _, ?_⟩
                      rotate_left
                      · go_simp
                        with_reducible rfl
                      · rfl
                    · intro w hB; rintro _ ⟨_, rfl⟩ _ ⟨_, rfl⟩
                      simp only [St.withD, List.nil_append, List.cons_append, Act.put, List.setIfInBounds_toArray, List.set_cons_zero, List.set_cons_succ]
                      obtain ⟨ad', e, c0⟩ := (HB.out.2.2.2.1.below (below_step HI.out.1 hB)) k (by rw [HB.out.1]; exact hkb)
                      cases e
                      rw [HX.out.2] at c0
                      refine St.ob_value (v := .string y) (w' := w) (by rfl) ?_ ⟨Below.refl _ _, ?_⟩
                      · go_simp
                      · rfl
                    · intro w hB; rintro _ ⟨_, rfl⟩ _ ⟨_, rfl⟩
                      simp only [St.withD, List.nil_append, List.cons_append, Act.put, List.setIfInBounds_toArray, List.set_cons_zero, List.set_cons_succ]
                      refine St.ob_call Try.func15 (by kernel_rfl) rfl #[.string y] (by rfl) rfl (by (try simp only [List.map_toArray, List.map_cons, List.map_nil]); first | done | rfl | (simp only [List.length_drop, List.length_take]; rfl)) ?_
                      refine (refLeaf_any y w HS.out.2).mono ?_
                      rintro e w1 ⟨rfl, rfl⟩
                      refine ⟨_, rfl, Below.refl _ _, ?_⟩
                      rfl
                    · intro w hB; rintro _ ⟨_, rfl⟩ _ ⟨_, rfl⟩ _ ⟨_, rfl⟩
                      simp only [St.withD, List.nil_append, List.cons_append, Act.put, List.setIfInBounds_toArray, List.set_cons_zero, List.set_cons_succ]
                      refine St.ob_value (v := ?_) (w' := w) (by rfl) ?_ ⟨Below.refl _ _, ?_⟩
                      rotate_left
                      · go_simp
                        with_reducible rfl
                      · rfl
                    · intro w hB; rintro _ ⟨_, rfl⟩ _ ⟨_, rfl⟩
                      simp only [St.withD, List.nil_append, List.cons_append, Act.put, List.setIfInBounds_toArray, List.set_cons_zero, List.set_cons_succ]
                      refine St.ob_value (v := ?_) (w' := w) (by rfl) ?_ ⟨Below.refl _ _, ?_⟩
                      rotate_left
                      · go_simp
                        with_reducible rfl
                      · rfl
                  case hst => exact ⟨St.eqT_st, St.eqT_st, St.eqT_st, St.eqT_st, St.eqT_st, St.eqT_st, St.eqT_st, St.eqT_st, St.eqT_st, St.eqT_st, St.eqT_st, St.eqT_st, St.eqT_st, St.eqT_st, St.eqT_st, St.eqT_st, St.eqT_st, St.eqT_st, St.eqT_st, St.eqT_st, St.eqT_st, St.eqT_st, St.eqT_st, trivial⟩
                  case h0 => exact below_drew (Below.refl _ _)
                  case hB => exact fun w w' h k => below_step h k
                  case hend =>
                    intro w hB
                    rintro _ rfl _ rfl _ rfl _ rfl _ rfl _ rfl _ rfl _ rfl _ rfl _ rfl _ rfl _ rfl _ rfl _ rfl _ rfl _ rfl _ rfl _ rfl _ rfl _ rfl _ rfl _ rfl _ rfl
                    simp only [List.map_cons, List.map_nil, List.nil_append, List.cons_append, List.getD_cons_zero, List.getD_cons_succ, Act.put, List.setIfInBounds_toArray, List.set_cons_zero, List.set_cons_succ]
                    rw [St.withE_nil]
                    have HBX := Aside0.mk hB
                    clear hB
                    obtain ⟨fx', hfx⟩ : ∃ z, lf x = z := ⟨_, rfl⟩
                    obtain ⟨fy', hfy⟩ : ∃ z, lf y = z := ⟨_, rfl⟩
                    rw [hfx, hfy] at HD
                    rw [hfx, hfy]
                    clear hfx hfy
                    by_cases hq : fx' = fy'
                    · have hq1 : (fx' != fy') = false := by simp [hq]
                      have HE : Aside0 (o = dl a b (max na nb - (k + 1)) (k + 1)) := ⟨by rw [HI2.out, HD.out hka hkb, if_pos hq]⟩
                      clear hq
                      go_wp2
                      go_roundg (gk - 1)
                      case measure => have := HK.out; omega
                      case rel => exact ⟨k + 1, 0, false, ⟨by have := HK.out; omega⟩, rfl, rfl, by go_num, ⟨below_step HI.out.1 HBX.out, fun _ => ⟨rfl, HE.out⟩⟩, ⟨fun h => by cases h⟩⟩
                    · have hq1 : (fx' != fy') = true := by simp [hq]
                      have HE : Aside0 (o = some k) := ⟨by rw [HI2.out, HD.out hka hkb, if_neg hq]⟩
                      clear hq
                      go_wp2
                      go_roundg (gk - 1)
                      case measure => have := HK.out; omega
                      case rel => exact ⟨k + 1, k, true, ⟨by have := HK.out; omega⟩, rfl, rfl, by go_num, ⟨below_step HI.out.1 HBX.out, fun h => by cases h⟩, ⟨fun _ => by rw [HE.out]; rfl⟩⟩
                · go_wp2
                  refine St.steadyR (n := 23) (by kernel_rfl) ([] :: [] :: [(1, 42)] :: [(0, 41), (2, 43)] :: [(3, 44)] :: [(4, 45)] :: [(4, 45)] :: [(4, 45), (6, 47)] :: [(4, 45), (5, 46), (7, 48)] :: [(4, 45), (8, 49)] :: [(9, 50)] :: [(10, 51)] :: [(10, 51)] :: [(10, 51), (11, 52), (12, 53)] :: [(10, 51), (13, 54)] :: [(10, 51), (14, 55)] :: [(10, 51)] :: [(10, 51)] :: [(10, 51), (16, 57), (17, 58)] :: [(10, 51), (18, 59)] :: [(10, 51), (19, 60)] :: [(10, 51), (15, 56), (20, 61)] :: [(10, 51), (21, 62)] :: []) (some 41 :: some 42 :: some 43 :: some 44 :: some 45 :: some 46 :: some 47 :: some 48 :: some 49 :: some 50 :: some 51 :: some 52 :: some 53 :: some 54 :: some 55 :: some 56 :: some 57 :: some 58 :: some 59 :: some 60 :: some 61 :: some 62 :: some 63 :: []) (by kernel_rfl) ((St.eqT ?c10_0x7) :: (St.eqT ?c10_1x7) :: (St.eqT ?c10_2x7) :: (St.eqT ?c10_3x7) :: (St.eqT ?c10_4x7) :: (St.eqT ?c10_5x7) :: (St.eqT ?c10_6x7) :: (St.eqT ?c10_7x7) :: (St.eqT ?c10_8x7) :: (St.eqT ?c10_9x7) :: (St.eqT ?c10_10x7) :: (St.eqT ?c10_11x7) :: (St.eqT ?c10_12x7) :: (St.eqT ?c10_13x7) :: (St.eqT ?c10_14x7) :: (St.eqT ?c10_15x7) :: (St.eqT ?c10_16x7) :: (St.eqT ?c10_17x7) :: (St.eqT ?c10_18x7) :: (St.eqT ?c10_19x7) :: (St.eqT ?c10_20x7) :: (St.eqT ?c10_21x7) :: (St.eqT ?c10_22x7) :: []) rfl (by rfl) (fun w' => Below wr.heap.size wr w') (fun w w' => Below w.heap.size w w') ?hst ?h0 ?hB ?hop ?hend
                  case hop =>
                    refine ⟨?_, ?_, ?_, ?_, ?_, ?_, ?_, ?_, ?_, ?_, ?_, ?_, ?_, ?_, ?_, ?_, ?_, ?_, ?_, ?_, ?_, ?_, ?_, trivial⟩
                    · intro w hB
                      simp only [St.withD]
                      refine St.ob_value (v := ?_) (w' := w) (by rfl) ?_ ⟨Below.refl _ _, ?_⟩
                      rotate_left
                      · go_simp
                        with_reducible rfl
                      · rfl
                    · intro w hB
                      simp only [St.withD]
                      refine St.ob_value (v := ?_) (w' := w) (by rfl) ?_ ⟨Below.refl _ _, ?_⟩
                      rotate_left
                      · go_simp
                        with_reducible rfl
                      · rfl
                    · intro w hB; rintro _ ⟨_, rfl⟩
                      simp only [St.withD, List.nil_append, List.cons_append, Act.put, List.setIfInBounds_toArray, List.set_cons_zero, List.set_cons_succ]
                      refine St.ob_value (v := ?_) (w' := w) (by rfl) ?_ ⟨Below.refl _ _, ?_⟩
                      rotate_left
                      · go_simp
                        with_reducible rfl
                      · rfl
                    · intro w hB; rintro _ ⟨_, rfl⟩ _ ⟨_, rfl⟩
                      simp only [St.withD, List.nil_append, List.cons_append, Act.put, List.setIfInBounds_toArray, List.set_cons_zero, List.set_cons_succ]
                      refine St.ob_value (v := ?_) (w' := w) (by rfl) ?_ ⟨Below.refl _ _, ?_⟩
                      rotate_left
                      · go_simp
                        with_reducible rfl
                      · rfl
                    · intro w hB; rintro _ ⟨_, rfl⟩
                      simp only [St.withD, List.nil_append, List.cons_append, Act.put, List.setIfInBounds_toArray, List.set_cons_zero, List.set_cons_succ]
                      refine St.ob_value (v := ?_) (w' := w) (by rfl) ?_ ⟨Below.refl _ _, ?_⟩
                      rotate_left
                      · go_simp
                        with_reducible rfl
                      · rfl
                    · intro w hB; rintro _ ⟨_, rfl⟩
                      simp only [St.withD, List.nil_append, List.cons_append, Act.put, List.setIfInBounds_toArray, List.set_cons_zero, List.set_cons_succ]
                      refine St.ob_value (v := ?_) (w' := w) (by rfl) ?_ ⟨Below.refl _ _, ?_⟩
                      rotate_left
                      · go_simp
                        with_reducible rfl
                      · rfl
                    · intro w hB; rintro _ ⟨_, rfl⟩
                      simp only [St.withD, List.nil_append, List.cons_append, Act.put, List.setIfInBounds_toArray, List.set_cons_zero, List.set_cons_succ]
                      refine St.ob_value (v := ?_) (w' := w) (by rfl) ?_ ⟨Below.refl _ _, ?_⟩
                      rotate_left
                      · go_simp
                        with_reducible rfl
                      · rfl
                    · intro w hB; rintro _ ⟨_, rfl⟩ _ ⟨_, rfl⟩
                      simp only [St.withD, List.nil_append, List.cons_append, Act.put, List.setIfInBounds_toArray, List.set_cons_zero, List.set_cons_succ]
                      refine St.ob_value (v := ?_) (w' := w) (by rfl) ?_ ⟨Below.refl _ _, ?_⟩
                      rotate_left
                      · go_simp
                        with_reducible rfl
                      · rfl
                    · intro w hB; rintro _ ⟨_, rfl⟩ _ ⟨_, rfl⟩ _ ⟨_, rfl⟩
                      simp only [St.withD, List.nil_append, List.cons_append, Act.put, List.setIfInBounds_toArray, List.set_cons_zero, List.set_cons_succ]
                      refine St.ob_value (v := ?_) (w' := w) (by rfl) ?_ ⟨Below.refl _ _, ?_⟩
                      rotate_left
                      · go_simp
                        with_reducible rfl
                      · rfl
                    · intro w hB; rintro _ ⟨_, rfl⟩ _ ⟨_, rfl⟩
                      simp only [St.withD, List.nil_append, List.cons_append, Act.put, List.setIfInBounds_toArray, List.set_cons_zero, List.set_cons_succ]
                      refine St.ob_value (v := ?_) (w' := w) (by rfl) ?_ ⟨Below.refl _ _, ?_⟩
                      rotate_left
                      · go_simp
                        with_reducible rfl
                      · rfl
                    · intro w hB; rintro _ ⟨_, rfl⟩
                      simp only [St.withD, List.nil_append, List.cons_append, Act.put, List.setIfInBounds_toArray, List.set_cons_zero, List.set_cons_succ]
                      refine St.ob_value (v := ?_) (w' := w) (by rfl) ?_ ⟨Below.refl _ _, ?_⟩
                      rotate_left
                      · go_simp
                        with_reducible rfl
                      · rfl
                    · intro w hB; rintro _ ⟨_, rfl⟩
                      simp only [St.withD, List.nil_append, List.cons_append, Act.put, List.setIfInBounds_toArray, List.set_cons_zero, List.set_cons_succ]
                      refine St.ob_value (v := ?_) (w' := w) (by rfl) ?_ ⟨Below.refl _ _, ?_⟩
                      rotate_left
                      · go_simp
                        with_reducible rfl
                      · rfl
                    · intro w hB; rintro _ ⟨_, rfl⟩
                      simp only [St.withD, List.nil_append, List.cons_append, Act.put, List.setIfInBounds_toArray, List.set_cons_zero, List.set_cons_succ]
                      refine St.ob_value (v := ?_) (w' := w) (by rfl) ?_ ⟨Below.refl _ _, ?_⟩
                      rotate_left
                      · go_simp
                        with_reducible rfl
                      · rfl
                    · intro w hB; rintro _ ⟨_, rfl⟩ _ ⟨_, rfl⟩ _ ⟨_, rfl⟩
                      simp only [St.withD, List.nil_append, List.cons_append, Act.put, List.setIfInBounds_toArray, List.set_cons_zero, List.set_cons_succ]
                      refine St.ob_value (v := ?_) (w' := w) (by rfl) ?_ ⟨Below.refl _ _, ?_⟩
                      rotate_left
                      · go_simp
                        with_reducible rfl
                      · rfl
                    · intro w hB; rintro _ ⟨_, rfl⟩ _ ⟨_, rfl⟩
                      simp only [St.withD, List.nil_append, List.cons_append, Act.put, List.setIfInBounds_toArray, List.set_cons_zero, List.set_cons_succ]
                      obtain ⟨ad', e, c0⟩ := (HA.out.2.2.2.1.below (below_step HI.out.1 hB)) k (by rw [HA.out.1]; exact hka)
                      cases e
                      rw [HX.out.1] at c0
                      refine St.ob_value (v := .string x) (w' := w) (by rfl) ?_ ⟨Below.refl _ _, ?_⟩
                      · go_simp
                      · rfl
                    · intro w hB; rintro _ ⟨_, rfl⟩ _ ⟨_, rfl⟩
                      simp only [St.withD, List.nil_append, List.cons_append, Act.put, List.setIfInBounds_toArray, List.set_cons_zero, List.set_cons_succ]
                      refine St.ob_call Try.func15 (by kernel_rfl) rfl #[.string x] (by rfl) rfl (by (try simp only [List.map_toArray, List.map_cons, List.map_nil]); first | done | rfl | (simp only [List.length_drop, List.length_take]; rfl)) ?_
                      refine (refLeaf_any x w HS.out.1).mono ?_
                      rintro e w1 ⟨rfl, rfl⟩
                      refine ⟨_, rfl, Below.refl _ _, ?_⟩
                      rfl
                    · intro w hB; rintro _ ⟨_, rfl⟩
                      simp only [St.withD, List.nil_append, List.cons_append, Act.put, List.setIfInBounds_toArray, List.set_cons_zero, List.set_cons_succ]
                      refine St.ob_value (v := ?_) (w' := w) (by rfl) ?_ ⟨Below.refl _ _, ?_⟩
                      rotate_left
                      · go_simp
                        with_reducible rfl
                      · rfl
                    · intro w hB; rintro _ ⟨_, rfl⟩
                      simp only [St.withD, List.nil_append, List.cons_append, Act.put, List.setIfInBounds_toArray, List.set_cons_zero, List.set_cons_succ]
                      refine St.ob_value (v := ?_) (w' := w) (by rfl) ?_ ⟨Below.refl _ _, ?_⟩
                      rotate_left
                      · go_simp
                        with_reducible rfl
                      · rfl
                    · intro w hB; rintro _ ⟨_, rfl⟩ _ ⟨_, rfl⟩ _ ⟨_, rfl⟩
                      simp only [St.withD, List.nil_append, List.cons_append, Act.put, List.setIfInBounds_toArray, List.set_cons_zero, List.set_cons_succ]
                      refine St.ob_value (v := ?_) (w' := w) (by rfl) ?_ ⟨Below.refl _ _, ?_⟩
                      rotate_left
                      · go_simp
                        with_reducible rfl
                      · rfl
                    · intro w hB; rintro _ ⟨_, rfl⟩ _ ⟨_, rfl⟩
                      simp only [St.withD, List.nil_append, List.cons_append, Act.put, List.setIfInBounds_toArray, List.set_cons_zero, List.set_cons_succ]
                      obtain ⟨ad', e, c0⟩ := (HB.out.2.2.2.1.below (below_step HI.out.1 hB)) k (by rw [HB.out.1]; exact hkb)
                      cases e
                      rw [HX.out.2] at c0
                      refine St.ob_value (v := .string y) (w' := w) (by rfl) ?_ ⟨Below.refl _ _, ?_⟩
                      · go_simp
                      · rfl
                    · intro w hB; rintro _ ⟨_, rfl⟩ _ ⟨_, rfl⟩
                      simp only [St.withD, List.nil_append, List.cons_append, Act.put, List.setIfInBounds_toArray, List.set_cons_zero, List.set_cons_succ]
                      refine St.ob_call Try.func15 (by kernel_rfl) rfl #[.string y] (by rfl) rfl (by (try simp only [List.map_toArray, List.map_cons, List.map_nil]); first | done | rfl | (simp only [List.length_drop, List.length_take]; rfl)) ?_
                      refine (refLeaf_any y w HS.out.2).mono ?_
                      rintro e w1 ⟨rfl, rfl⟩
                      refine ⟨_, rfl, Below.refl _ _, ?_⟩
                      rfl
                    · intro w hB; rintro _ ⟨_, rfl⟩ _ ⟨_, rfl⟩ _ ⟨_, rfl⟩
                      simp only [St.withD, List.nil_append, List.cons_append, Act.put, List.setIfInBounds_toArray, List.set_cons_zero, List.set_cons_succ]
                      refine St.ob_value (v := ?_) (w' := w) (by rfl) ?_ ⟨Below.refl _ _, ?_⟩
                      rotate_left
                      · go_simp
                        with_reducible rfl
                      · rfl
                    · intro w hB; rintro _ ⟨_, rfl⟩ _ ⟨_, rfl⟩
                      simp only [St.withD, List.nil_append, List.cons_append, Act.put, List.setIfInBounds_toArray, List.set_cons_zero, List.set_cons_succ]
                      refine St.ob_value (v := ?_) (w' := w) (by rfl) ?_ ⟨Below.refl _ _, ?_⟩
                      rotate_left
                      · go_simp
                        with_reducible rfl
                      · rfl
                  case hst => exact ⟨St.eqT_st, St.eqT_st, St.eqT_st, St.eqT_st, St.eqT_st, St.eqT_st, St.eqT_st, St.eqT_st, St.eqT_st, St.eqT_st, St.eqT_st, St.eqT_st, St.eqT_st, St.eqT_st, St.eqT_st, St.eqT_st, St.eqT_st, St.eqT_st, St.eqT_st, St.eqT_st, St.eqT_st, St.eqT_st, St.eqT_st, trivial⟩
                  case h0 => exact below_drew (Below.refl _ _)
                  case hB => exact fun w w' h k => below_step h k
                  case hend =>
                    intro w hB
                    rintro _ rfl _ rfl _ rfl _ rfl _ rfl _ rfl _ rfl _ rfl _ rfl _ rfl _ rfl _ rfl _ rfl _ rfl _ rfl _ rfl _ rfl _ rfl _ rfl _ rfl _ rfl _ rfl _ rfl
                    simp only [List.map_cons, List.map_nil, List.nil_append, List.cons_append, List.getD_cons_zero, List.getD_cons_succ, Act.put, List.setIfInBounds_toArray, List.set_cons_zero, List.set_cons_succ]
                    rw [St.withE_nil]
                    have HBX := Aside0.mk hB
                    clear hB
                    obtain ⟨fx', hfx⟩ : ∃ z, lf x = z := ⟨_, rfl⟩
                    obtain ⟨fy', hfy⟩ : ∃ z, lf y = z := ⟨_, rfl⟩
                    rw [hfx, hfy] at HD
                    rw [hfx, hfy]
                    clear hfx hfy
                    by_cases hq : fx' = fy'
                    · have hq1 : (fx' != fy') = false := by simp [hq]
                      have HE : Aside0 (o = dl a b (max na nb - (k + 1)) (k + 1)) := ⟨by rw [HI2.out, HD.out hka hkb, if_pos hq]⟩
                      clear hq
                      go_wp2
                      go_roundg (gk - 1)
                      case measure => have := HK.out; omega
                      case rel => exact ⟨k + 1, 0, false, ⟨by have := HK.out; omega⟩, rfl, rfl, by go_num, ⟨below_step HI.out.1 HBX.out, fun _ => ⟨rfl, HE.out⟩⟩, ⟨fun h => by cases h⟩⟩
                    · have hq1 : (fx' != fy') = true := by simp [hq]
                      have HE : Aside0 (o = some k) := ⟨by rw [HI2.out, HD.out hka hkb, if_neg hq]⟩
                      clear hq
                      go_wp2
                      go_roundg (gk - 1)
                      case measure => have := HK.out; omega
                      case rel => exact ⟨k + 1, k, true, ⟨by have := HK.out; omega⟩, rfl, rfl, by go_num, ⟨below_step HI.out.1 HBX.out, fun h => by cases h⟩, ⟨fun _ => by rw [HE.out]; rfl⟩⟩
              · have HE := Aside0.mk (HN.out (by omega))
                clear HN HD HT hmm
                have hnn : nb ≤ k := by omega
                have hnl : nb ≤ na := by omega
                clear hlt
                have hd1 : decide (na ≤ k) = false := decide_eq_false (by omega)
                have hd2 : decide (nb ≤ k) = true := decide_eq_true hnn
                go_wp2
                refine St.steadyR (n := 23) (by kernel_rfl) ([] :: [] :: [(1, 42)] :: [(0, 41), (2, 43)] :: [(3, 44)] :: [(4, 45)] :: [(4, 45)] :: [(4, 45), (6, 47)] :: [(4, 45), (5, 46), (7, 48)] :: [(4, 45), (8, 49)] :: [(9, 50)] :: [(10, 51)] :: [(10, 51)] :: [(10, 51), (11, 52), (12, 53)] :: [(10, 51), (13, 54)] :: [(10, 51), (14, 55)] :: [(10, 51)] :: [(10, 51)] :: [(10, 51), (16, 57), (17, 58)] :: [(10, 51), (18, 59)] :: [(10, 51), (19, 60)] :: [(10, 51), (15, 56), (20, 61)] :: [(10, 51), (21, 62)] :: []) (some 41 :: some 42 :: some 43 :: some 44 :: some 45 :: some 46 :: some 47 :: some 48 :: some 49 :: some 50 :: some 51 :: some 52 :: some 53 :: some 54 :: some 55 :: some 56 :: some 57 :: some 58 :: some 59 :: some 60 :: some 61 :: some 62 :: some 63 :: []) (by kernel_rfl) ((St.eqT ?c10_0x8) :: (St.eqT ?c10_1x8) :: (St.eqT ?c10_2x8) :: (St.eqT ?c10_3x8) :: (St.eqT ?c10_4x8) :: (St.eqT ?c10_5x8) :: (St.eqT ?c10_6x8) :: (St.eqT ?c10_7x8) :: (St.eqT ?c10_8x8) :: (St.eqT ?c10_9x8) :: (St.eqT ?c10_10x8) :: (St.eqT undef) :: (St.eqT undef) :: (St.eqT undef) :: (St.eqT undef) :: (St.eqT undef) :: (St.eqT undef) :: (St.eqT undef) :: (St.eqT undef) :: (St.eqT undef) :: (St.eqT undef) :: (St.eqT undef) :: (St.eqT ?c10_22x8) :: []) rfl (by rfl) (fun w' => Below wr.heap.size wr w') (fun w w' => Below w.heap.size w w') ?hst ?h0 ?hB ?hop ?hend
                case hop =>
                  refine ⟨?_, ?_, ?_, ?_, ?_, ?_, ?_, ?_, ?_, ?_, ?_, ?_, ?_, ?_, ?_, ?_, ?_, ?_, ?_, ?_, ?_, ?_, ?_, trivial⟩
                  · intro w hB
                    simp only [St.withD]
                    refine St.ob_value (v := ?_) (w' := w) (by rfl) ?_ ⟨Below.refl _ _, ?_⟩
                    rotate_left
                    · go_simp
                      with_reducible rfl
                    · rfl
                  · intro w hB
                    simp only [St.withD]
                    refine St.ob_value (v := ?_) (w' := w) (by rfl) ?_ ⟨Below.refl _ _, ?_⟩
                    rotate_left
                    · go_simp
                      with_reducible rfl
                    · rfl
                  · intro w hB; rintro _ ⟨_, rfl⟩
                    simp only [St.withD, List.nil_append, List.cons_append, Act.put, List.setIfInBounds_toArray, List.set_cons_zero, List.set_cons_succ]
                    refine St.ob_value (v := ?_) (w' := w) (by rfl) ?_ ⟨Below.refl _ _, ?_⟩
                    rotate_left
                    · go_simp
                      with_reducible rfl
                    · rfl
                  · intro w hB; rintro _ ⟨_, rfl⟩ _ ⟨_, rfl⟩
                    simp only [St.withD, List.nil_append, List.cons_append, Act.put, List.setIfInBounds_toArray, List.set_cons_zero, List.set_cons_succ]
                    refine St.ob_value (v := ?_) (w' := w) (by rfl) ?_ ⟨Below.refl _ _, ?_⟩
                    rotate_left
                    · go_simp
                      with_reducible rfl
                    · rfl
                  · intro w hB; rintro _ ⟨_, rfl⟩
                    simp only [St.withD, List.nil_append, List.cons_append, Act.put, List.setIfInBounds_toArray, List.set_cons_zero, List.set_cons_succ]
                    refine St.ob_value (v := ?_) (w' := w) (by rfl) ?_ ⟨Below.refl _ _, ?_⟩
                    rotate_left
                    · go_simp
                      with_reducible rfl
                    · rfl
                  · intro w hB; rintro _ ⟨_, rfl⟩
                    simp only [St.withD, List.nil_append, List.cons_append, Act.put, List.setIfInBounds_toArray, List.set_cons_zero, List.set_cons_succ]
                    refine St.ob_value (v := ?_) (w' := w) (by rfl) ?_ ⟨Below.refl _ _, ?_⟩
                    rotate_left
                    · go_simp
                      with_reducible rfl
                    · rfl
                  · intro w hB; rintro _ ⟨_, rfl⟩
                    simp only [St.withD, List.nil_append, List.cons_append, Act.put, List.setIfInBounds_toArray, List.set_cons_zero, List.set_cons_succ]
                    refine St.ob_value (v := ?_) (w' := w) (by rfl) ?_ ⟨Below.refl _ _, ?_⟩
                    rotate_left
                    · go_simp
                      with_reducible rfl
                    · rfl
                  · intro w hB; rintro _ ⟨_, rfl⟩ _ ⟨_, rfl⟩
                    simp only [St.withD, List.nil_append, List.cons_append, Act.put, List.setIfInBounds_toArray, List.set_cons_zero, List.set_cons_succ]
                    refine St.ob_value (v := ?_) (w' := w) (by rfl) ?_ ⟨Below.refl _ _, ?_⟩
                    rotate_left
                    · go_simp
                      with_reducible rfl
                    · rfl
                  · intro w hB; rintro _ ⟨_, rfl⟩ _ ⟨_, rfl⟩ _ ⟨_, rfl⟩
                    simp only [St.withD, List.nil_append, List.cons_append, Act.put, List.setIfInBounds_toArray, List.set_cons_zero, List.set_cons_succ]
                    refine St.ob_value (v := ?_) (w' := w) (by rfl) ?_ ⟨Below.refl _ _, ?_⟩
                    rotate_left
                    · go_simp
                      with_reducible rfl
                    · rfl
                  · intro w hB; rintro _ ⟨_, rfl⟩ _ ⟨_, rfl⟩
                    simp only [St.withD, List.nil_append, List.cons_append, Act.put, List.setIfInBounds_toArray, List.set_cons_zero, List.set_cons_succ]
                    refine St.ob_value (v := ?_) (w' := w) (by rfl) ?_ ⟨Below.refl _ _, ?_⟩
                    rotate_left
                    · go_simp
                      with_reducible rfl
                    · rfl
                  · intro w hB; rintro _ ⟨_, rfl⟩
                    simp only [St.withD, List.nil_append, List.cons_append, Act.put, List.setIfInBounds_toArray, List.set_cons_zero, List.set_cons_succ]
                    refine St.ob_value (v := ?_) (w' := w) (by rfl) ?_ ⟨Below.refl _ _, ?_⟩
                    rotate_left
                    · go_simp
                      with_reducible rfl
                    · rfl
                  · intro w hB; rintro _ ⟨_, rfl⟩
                    simp only [St.withD, List.nil_append, List.cons_append, Act.put, List.setIfInBounds_toArray, List.set_cons_zero, List.set_cons_succ]
                    refine St.ob_off (by rfl) ⟨Below.refl _ _, rfl⟩
                  · intro w hB; rintro _ ⟨_, rfl⟩
                    simp only [St.withD, List.nil_append, List.cons_append, Act.put, List.setIfInBounds_toArray, List.set_cons_zero, List.set_cons_succ]
                    refine St.ob_off (by rfl) ⟨Below.refl _ _, rfl⟩
                  · intro w hB; rintro _ ⟨_, rfl⟩ _ ⟨_, rfl⟩ _ ⟨_, rfl⟩
                    simp only [St.withD, List.nil_append, List.cons_append, Act.put, List.setIfInBounds_toArray, List.set_cons_zero, List.set_cons_succ]
                    refine St.ob_off (by rfl) ⟨Below.refl _ _, rfl⟩
                  · intro w hB; rintro _ ⟨_, rfl⟩ _ ⟨_, rfl⟩
                    simp only [St.withD, List.nil_append, List.cons_append, Act.put, List.setIfInBounds_toArray, List.set_cons_zero, List.set_cons_succ]
                    refine St.ob_off (by rfl) ⟨Below.refl _ _, rfl⟩
                  · intro w hB; rintro _ ⟨_, rfl⟩ _ ⟨_, rfl⟩
                    simp only [St.withD, List.nil_append, List.cons_append, Act.put, List.setIfInBounds_toArray, List.set_cons_zero, List.set_cons_succ]
                    refine St.ob_off (by rfl) ⟨Below.refl _ _, rfl⟩
                  · intro w hB; rintro _ ⟨_, rfl⟩
                    simp only [St.withD, List.nil_append, List.cons_append, Act.put, List.setIfInBounds_toArray, List.set_cons_zero, List.set_cons_succ]
                    refine St.ob_off (by rfl) ⟨Below.refl _ _, rfl⟩
                  · intro w hB; rintro _ ⟨_, rfl⟩
                    simp only [St.withD, List.nil_append, List.cons_append, Act.put, List.setIfInBounds_toArray, List.set_cons_zero, List.set_cons_succ]
                    refine St.ob_off (by rfl) ⟨Below.refl _ _, rfl⟩
                  · intro w hB; rintro _ ⟨_, rfl⟩ _ ⟨_, rfl⟩ _ ⟨_, rfl⟩
                    simp only [St.withD, List.nil_append, List.cons_append, Act.put, List.setIfInBounds_toArray, List.set_cons_zero, List.set_cons_succ]
                    refine St.ob_off (by rfl) ⟨Below.refl _ _, rfl⟩
                  · intro w hB; rintro _ ⟨_, rfl⟩ _ ⟨_, rfl⟩
                    simp only [St.withD, List.nil_append, List.cons_append, Act.put, List.setIfInBounds_toArray, List.set_cons_zero, List.set_cons_succ]
                    refine St.ob_off (by rfl) ⟨Below.refl _ _, rfl⟩
                  · intro w hB; rintro _ ⟨_, rfl⟩ _ ⟨_, rfl⟩
                    simp only [St.withD, List.nil_append, List.cons_append, Act.put, List.setIfInBounds_toArray, List.set_cons_zero, List.set_cons_succ]
                    refine St.ob_off (by rfl) ⟨Below.refl _ _, rfl⟩
                  · intro w hB; rintro _ ⟨_, rfl⟩ _ ⟨_, rfl⟩ _ ⟨_, rfl⟩
                    simp only [St.withD, List.nil_append, List.cons_append, Act.put, List.setIfInBounds_toArray, List.set_cons_zero, List.set_cons_succ]
                    refine St.ob_off (by rfl) ⟨Below.refl _ _, rfl⟩
                  · intro w hB; rintro _ ⟨_, rfl⟩ _ ⟨_, rfl⟩
                    simp only [St.withD, List.nil_append, List.cons_append, Act.put, List.setIfInBounds_toArray, List.set_cons_zero, List.set_cons_succ]
                    refine St.ob_value (v := ?_) (w' := w) (by rfl) ?_ ⟨Below.refl _ _, ?_⟩
                    rotate_left
                    · go_simp
                      with_reducible rfl
                    · rfl
                case hst => exact ⟨St.eqT_st, St.eqT_st, St.eqT_st, St.eqT_st, St.eqT_st, St.eqT_st, St.eqT_st, St.eqT_st, St.eqT_st, St.eqT_st, St.eqT_st, St.eqT_st, St.eqT_st, St.eqT_st, St.eqT_st, St.eqT_st, St.eqT_st, St.eqT_st, St.eqT_st, St.eqT_st, St.eqT_st, St.eqT_st, St.eqT_st, trivial⟩
                case h0 => exact below_drew (Below.refl _ _)
                case hB => exact fun w w' h k => below_step h k
                case hend =>
                  intro w hB
                  rintro _ rfl _ rfl _ rfl _ rfl _ rfl _ rfl _ rfl _ rfl _ rfl _ rfl _ rfl _ rfl _ rfl _ rfl _ rfl _ rfl _ rfl _ rfl _ rfl _ rfl _ rfl _ rfl _ rfl
                  simp only [List.map_cons, List.map_nil, List.nil_append, List.cons_append, List.getD_cons_zero, List.getD_cons_succ, Act.put, List.setIfInBounds_toArray, List.set_cons_zero, List.set_cons_succ]
                  rw [St.withE_nil]
                  have HBX := Aside0.mk hB
                  clear hB
                  go_wp2
                  go_roundg (gk - 1)
                  case measure => have := HK.out; omega
                  case rel => exact ⟨k + 1, k, true, ⟨by have := HK.out; omega⟩, rfl, rfl, by go_num, ⟨below_step HI.out.1 HBX.out, fun h => by cases h⟩, ⟨fun _ => by rw [HE.out]; rfl⟩⟩
            · have HE := Aside0.mk (HN.out (by omega))
              clear HN HD HT hmm
              have hnn : na ≤ k := by omega
              have hnl : na < nb := by omega
              have hkl : k < nb := by omega
              clear hlt
              have hd1 : decide (na ≤ k) = true := decide_eq_true hnn
              go_wp2
              refine St.steadyR (n := 23) (by kernel_rfl) ([] :: [] :: [(1, 42)] :: [(0, 41), (2, 43)] :: [(3, 44)] :: [(4, 45)] :: [(4, 45)] :: [(4, 45), (6, 47)] :: [(4, 45), (5, 46), (7, 48)] :: [(4, 45), (8, 49)] :: [(9, 50)] :: [(10, 51)] :: [(10, 51)] :: [(10, 51), (11, 52), (12, 53)] :: [(10, 51), (13, 54)] :: [(10, 51), (14, 55)] :: [(10, 51)] :: [(10, 51)] :: [(10, 51), (16, 57), (17, 58)] :: [(10, 51), (18, 59)] :: [(10, 51), (19, 60)] :: [(10, 51), (15, 56), (20, 61)] :: [(10, 51), (21, 62)] :: []) (some 41 :: some 42 :: some 43 :: some 44 :: some 45 :: some 46 :: some 47 :: some 48 :: some 49 :: some 50 :: some 51 :: some 52 :: some 53 :: some 54 :: some 55 :: some 56 :: some 57 :: some 58 :: some 59 :: some 60 :: some 61 :: some 62 :: some 63 :: []) (by kernel_rfl) ((St.eqT ?c10_0x9) :: (St.eqT ?c10_1x9) :: (St.eqT ?c10_2x9) :: (St.eqT ?c10_3x9) :: (St.eqT ?c10_4x9) :: (St.eqT undef) :: (St.eqT undef) :: (St.eqT undef) :: (St.eqT undef) :: (St.eqT ?c10_9x9) :: (St.eqT ?c10_10x9) :: (St.eqT undef) :: (St.eqT undef) :: (St.eqT undef) :: (St.eqT undef) :: (St.eqT undef) :: (St.eqT undef) :: (St.eqT undef) :: (St.eqT undef) :: (St.eqT undef) :: (St.eqT undef) :: (St.eqT undef) :: (St.eqT ?c10_22x9) :: []) rfl (by rfl) (fun w' => Below wr.heap.size wr w') (fun w w' => Below w.heap.size w w') ?hst ?h0 ?hB ?hop ?hend
              case hop =>
                refine ⟨?_, ?_, ?_, ?_, ?_, ?_, ?_, ?_, ?_, ?_, ?_, ?_, ?_, ?_, ?_, ?_, ?_, ?_, ?_, ?_, ?_, ?_, ?_, trivial⟩
                · intro w hB
                  simp only [St.withD]
                  refine St.ob_value (v := ?_) (w' := w) (by rfl) ?_ ⟨Below.refl _ _, ?_⟩
                  rotate_left
                  · go_simp
                    with_reducible rfl
                  · rfl
                · intro w hB
                  simp only [St.withD]
                  refine St.ob_value (v := ?_) (w' := w) (by rfl) ?_ ⟨Below.refl _ _, ?_⟩
                  rotate_left
                  · go_simp
                    with_reducible rfl
                  · rfl
                · intro w hB; rintro _ ⟨_, rfl⟩
                  simp only [St.withD, List.nil_append, List.cons_append, Act.put, List.setIfInBounds_toArray, List.set_cons_zero, List.set_cons_succ]
                  refine St.ob_value (v := ?_) (w' := w) (by rfl) ?_ ⟨Below.refl _ _, ?_⟩
                  rotate_left
                  · go_simp
                    with_reducible rfl
                  · rfl
                · intro w hB; rintro _ ⟨_, rfl⟩ _ ⟨_, rfl⟩
                  simp only [St.withD, List.nil_append, List.cons_append, Act.put, List.setIfInBounds_toArray, List.set_cons_zero, List.set_cons_succ]
                  refine St.ob_value (v := ?_) (w' := w) (by rfl) ?_ ⟨Below.refl _ _, ?_⟩
                  rotate_left
                  · go_simp
                    with_reducible rfl
                  · rfl
                · intro w hB; rintro _ ⟨_, rfl⟩
                  simp only [St.withD, List.nil_append, List.cons_append, Act.put, List.setIfInBounds_toArray, List.set_cons_zero, List.set_cons_succ]
                  refine St.ob_value (v := ?_) (w' := w) (by rfl) ?_ ⟨Below.refl _ _, ?_⟩
                  rotate_left
                  · go_simp
                    with_reducible rfl
                  · rfl
                · intro w hB; rintro _ ⟨_, rfl⟩
                  simp only [St.withD, List.nil_append, List.cons_append, Act.put, List.setIfInBounds_toArray, List.set_cons_zero, List.set_cons_succ]
                  refine St.ob_off (by rfl) ⟨Below.refl _ _, rfl⟩
                · intro w hB; rintro _ ⟨_, rfl⟩
                  simp only [St.withD, List.nil_append, List.cons_append, Act.put, List.setIfInBounds_toArray, List.set_cons_zero, List.set_cons_succ]
                  refine St.ob_off (by rfl) ⟨Below.refl _ _, rfl⟩
                · intro w hB; rintro _ ⟨_, rfl⟩ _ ⟨_, rfl⟩
                  simp only [St.withD, List.nil_append, List.cons_append, Act.put, List.setIfInBounds_toArray, List.set_cons_zero, List.set_cons_succ]
                  refine St.ob_off (by rfl) ⟨Below.refl _ _, rfl⟩
                · intro w hB; rintro _ ⟨_, rfl⟩ _ ⟨_, rfl⟩ _ ⟨_, rfl⟩
                  simp only [St.withD, List.nil_append, List.cons_append, Act.put, List.setIfInBounds_toArray, List.set_cons_zero, List.set_cons_succ]
                  refine St.ob_off (by rfl) ⟨Below.refl _ _, rfl⟩
                · intro w hB; rintro _ ⟨_, rfl⟩ _ ⟨_, rfl⟩
                  simp only [St.withD, List.nil_append, List.cons_append, Act.put, List.setIfInBounds_toArray, List.set_cons_zero, List.set_cons_succ]
                  refine St.ob_value (v := ?_) (w' := w) (by rfl) ?_ ⟨Below.refl _ _, ?_⟩
                  rotate_left
                  · go_simp
                    with_reducible rfl
                  · rfl
                · intro w hB; rintro _ ⟨_, rfl⟩
                  simp only [St.withD, List.nil_append, List.cons_append, Act.put, List.setIfInBounds_toArray, List.set_cons_zero, List.set_cons_succ]
                  refine St.ob_value (v := ?_) (w' := w) (by rfl) ?_ ⟨Below.refl _ _, ?_⟩
                  rotate_left
                  · go_simp
                    with_reducible rfl
                  · rfl
                · intro w hB; rintro _ ⟨_, rfl⟩
                  simp only [St.withD, List.nil_append, List.cons_append, Act.put, List.setIfInBounds_toArray, List.set_cons_zero, List.set_cons_succ]
                  refine St.ob_off (by rfl) ⟨Below.refl _ _, rfl⟩
                · intro w hB; rintro _ ⟨_, rfl⟩
                  simp only [St.withD, List.nil_append, List.cons_append, Act.put, List.setIfInBounds_toArray, List.set_cons_zero, List.set_cons_succ]
                  refine St.ob_off (by rfl) ⟨Below.refl _ _, rfl⟩
                · intro w hB; rintro _ ⟨_, rfl⟩ _ ⟨_, rfl⟩ _ ⟨_, rfl⟩
                  simp only [St.withD, List.nil_append, List.cons_append, Act.put, List.setIfInBounds_toArray, List.set_cons_zero, List.set_cons_succ]
                  refine St.ob_off (by rfl) ⟨Below.refl _ _, rfl⟩
                · intro w hB; rintro _ ⟨_, rfl⟩ _ ⟨_, rfl⟩
                  simp only [St.withD, List.nil_append, List.cons_append, Act.put, List.setIfInBounds_toArray, List.set_cons_zero, List.set_cons_succ]
                  refine St.ob_off (by rfl) ⟨Below.refl _ _, rfl⟩
                · intro w hB; rintro _ ⟨_, rfl⟩ _ ⟨_, rfl⟩
                  simp only [St.withD, List.nil_append, List.cons_append, Act.put, List.setIfInBounds_toArray, List.set_cons_zero, List.set_cons_succ]
                  refine St.ob_off (by rfl) ⟨Below.refl _ _, rfl⟩
                · intro w hB; rintro _ ⟨_, rfl⟩
                  simp only [St.withD, List.nil_append, List.cons_append, Act.put, List.setIfInBounds_toArray, List.set_cons_zero, List.set_cons_succ]
                  refine St.ob_off (by rfl) ⟨Below.refl _ _, rfl⟩
                · intro w hB; rintro _ ⟨_, rfl⟩
                  simp only [St.withD, List.nil_append, List.cons_append, Act.put, List.setIfInBounds_toArray, List.set_cons_zero, List.set_cons_succ]
                  refine St.ob_off (by rfl) ⟨Below.refl _ _, rfl⟩
                · intro w hB; rintro _ ⟨_, rfl⟩ _ ⟨_, rfl⟩ _ ⟨_, rfl⟩
                  simp only [St.withD, List.nil_append, List.cons_append, Act.put, List.setIfInBounds_toArray, List.set_cons_zero, List.set_cons_succ]
                  refine St.ob_off (by rfl) ⟨Below.refl _ _, rfl⟩
                · intro w hB; rintro _ ⟨_, rfl⟩ _ ⟨_, rfl⟩
                  simp only [St.withD, List.nil_append, List.cons_append, Act.put, List.setIfInBounds_toArray, List.set_cons_zero, List.set_cons_succ]
                  refine St.ob_off (by rfl) ⟨Below.refl _ _, rfl⟩
                · intro w hB; rintro _ ⟨_, rfl⟩ _ ⟨_, rfl⟩
                  simp only [St.withD, List.nil_append, List.cons_append, Act.put, List.setIfInBounds_toArray, List.set_cons_zero, List.set_cons_succ]
                  refine St.ob_off (by rfl) ⟨Below.refl _ _, rfl⟩
                · intro w hB; rintro _ ⟨_, rfl⟩ _ ⟨_, rfl⟩ _ ⟨_, rfl⟩
                  simp only [St.withD, List.nil_append, List.cons_append, Act.put, List.setIfInBounds_toArray, List.set_cons_zero, List.set_cons_succ]
                  refine St.ob_off (by rfl) ⟨Below.refl _ _, rfl⟩
                · intro w hB; rintro _ ⟨_, rfl⟩ _ ⟨_, rfl⟩
                  simp only [St.withD, List.nil_append, List.cons_append, Act.put, List.setIfInBounds_toArray, List.set_cons_zero, List.set_cons_succ]
                  refine St.ob_value (v := ?_) (w' := w) (by rfl) ?_ ⟨Below.refl _ _, ?_⟩
                  rotate_left
                  · go_simp
                    with_reducible rfl
                  · rfl
              case hst => exact ⟨St.eqT_st, St.eqT_st, St.eqT_st, St.eqT_st, St.eqT_st, St.eqT_st, St.eqT_st, St.eqT_st, St.eqT_st, St.eqT_st, St.eqT_st, St.eqT_st, St.eqT_st, St.eqT_st, St.eqT_st, St.eqT_st, St.eqT_st, St.eqT_st, St.eqT_st, St.eqT_st, St.eqT_st, St.eqT_st, St.eqT_st, trivial⟩
              case h0 => exact below_drew (Below.refl _ _)
              case hB => exact fun w w' h k => below_step h k
              case hend =>
                intro w hB
                rintro _ rfl _ rfl _ rfl _ rfl _ rfl _ rfl _ rfl _ rfl _ rfl _ rfl _ rfl _ rfl _ rfl _ rfl _ rfl _ rfl _ rfl _ rfl _ rfl _ rfl _ rfl _ rfl _ rfl
                simp only [List.map_cons, List.map_nil, List.nil_append, List.cons_append, List.getD_cons_zero, List.getD_cons_succ, Act.put, List.setIfInBounds_toArray, List.set_cons_zero, List.set_cons_succ]
                rw [St.withE_nil]
                have HBX := Aside0.mk hB
                clear hB
                go_wp2
                go_roundg (gk - 1)
                case measure => have := HK.out; omega
                case rel => exact ⟨k + 1, k, true, ⟨by have := HK.out; omega⟩, rfl, rfl, by go_num, ⟨below_step HI.out.1 HBX.out, fun h => by cases h⟩, ⟨fun _ => by rw [HE.out]; rfl⟩⟩
          · have hE : o = none := by rw [(HI.out.2 rfl).2, show max na nb - k = 0 by omega]; rfl
            have hz : z = 0 := by rw [← HZ.out.1, hE]; rfl
            have hq : q = false := by rw [← HZ.out.2, hE]; rfl
            subst hz hq
            have hk1 : na ≤ k := by omega
            have hk2 : nb ≤ k := by omega
            clear hE hlt hmm HT
            rcases Nat.lt_or_ge na nb with hnn | hnn
            · go_wp2_with fail
              refine (half_z n wr hn1 hn0).mono ?_
              rintro e w5 ⟨rfl, rfl⟩
              go_wp2_with fail
              refine (refHalf_z n w5 hn1 hn0).mono ?_
              rintro e w6 ⟨rfl, rfl⟩
              go_wp2
              go_ret
              exact ⟨rfl, HI.out.1⟩
            · go_wp2_with fail
              refine (half_z n wr hn1 hn0).mono ?_
              rintro e w5 ⟨rfl, rfl⟩
              go_wp2_with fail
              refine (refHalf_z n w5 hn1 hn0).mono ?_
              rintro e w6 ⟨rfl, rfl⟩
              go_wp2
              go_ret
              exact ⟨rfl, HI.out.1⟩
        · have hE := HT.out rfl
          have hz : z = x0 := by rw [← HZ.out.1, hE]
          have hq : q = true := by rw [← HZ.out.2, hE]
          subst hz hq
          clear hE HT
          by_cases hk1 : k < na
          all_goals by_cases hk2 : k < nb
          all_goals rcases Nat.lt_or_ge na nb with hnn | hnn
          all_goals first
            | (exfalso; omega)
            | (go_wp2_with fail; refine (half_z n wr hn1 hn0).mono ?_; rintro e w5 ⟨rfl, rfl⟩; go_wp2_with fail; refine (refHalf_z n w5 hn1 hn0).mono ?_; rintro e w6 ⟨rfl, rfl⟩; go_wp2; go_ret; exact ⟨rfl, HI.out.1⟩)
end Go.Proofs.Ytfafekejjnpbcaa
