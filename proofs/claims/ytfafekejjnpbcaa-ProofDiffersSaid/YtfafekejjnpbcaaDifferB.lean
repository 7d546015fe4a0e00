/- The first unlike place. -/
import Derived.Test.YtfafekejjnpbcaaProg
import Derived.Test.YtfafekejjnpbcaaVals
import Derived.Test.YtfafekejjnpbcaaWLast
import Derived.Test.YtfafekejjnpbcaaWMore
import Derived.RegionTactic
import Derived.ChangeAlike
import Derived.BigRegion
import Derived.WalkLawsBesides
import Derived.WalkSpells
import Derived.Deep.LoopGhost
import Derived.Deep.QuietTactic
import Derived.BigQuiet
import Derived.OwnWalk
import Derived.Test.YtfafekejjnpbcaaDifferA
import Derived.StillTailTactics
namespace Go.Proofs.Ytfafekejjnpbcaa
open Go.RowKit Go.Proofs.YtfafekejjnpbcaaW.PrintWords Go.Proofs.YtfafekejjnpbcaaW.PrintLast Go.Proofs.YtfafekejjnpbcaaW.PrintMore Go.Proofs.Ytfafekejjnpbcaa.Fr
set_option linter.unusedVariables false
set_option linter.unusedSimpArgs false
attribute [local go_sem] max2_int min2_int max_two min_two

open Pl
def difV : Option Nat → Int × Bool
  | none => (0, false)
  | some k => ((k : Int), true)
theorem difR_eq (o : Option Nat) : difR o = .tuple #[.int .i64 (difV o).1, .bool (difV o).2] := by cases o <;> rfl
/-- The first unlike place of two lists, from k on. -/
def dl (a b : List ByteArray) : Nat → Nat → Option Nat
  | 0, _ => none
  | f + 1, k => if a.length ≤ k ∨ b.length ≤ k ∨ lf (a.getD k ByteArray.empty) ≠ lf (b.getD k ByteArray.empty) then some k else dl a b f (k + 1)
theorem dif_take (a b : List ByteArray) (m : Nat) : ∀ (f k : Nat), k + f ≤ m → dif (a.take m) (b.take m) f k = dif a b f k
  | 0, _, _ => rfl
  | f + 1, k, h => by
    have e : ∀ l : List ByteArray, (l.take m).getD k ByteArray.empty = l.getD k ByteArray.empty := fun l => by
      simp [List.getD_eq_getElem?_getD, List.getElem?_take, show k < m by omega]
    simp only [dif, e]
    rw [dif_take a b m f (k + 1) (by omega)]
theorem dl_dif (a b : List ByteArray) : ∀ (f k : Nat), k + f = max a.length b.length → k ≤ min a.length b.length → dl a b f k = match dif a b (min a.length b.length - k) k with
    | some j => some j
    | none => if a.length = b.length then none else some (min a.length b.length)
  | 0, k, h, hk => by
    have h1 : a.length = b.length := by omega
    rw [show min a.length b.length - k = 0 by omega]
    simp [dl, dif, h1]
  | f + 1, k, h, hk => by
    by_cases hlt : k < min a.length b.length
    · rw [show min a.length b.length - k = (min a.length b.length - (k + 1)) + 1 by omega]
      simp only [dl, dif]
      by_cases hq : lf (a.getD k ByteArray.empty) = lf (b.getD k ByteArray.empty)
      · rw [if_neg (by intro hc; rcases hc with hc | hc | hc; omega; omega; exact hc hq), if_pos hq]
        exact dl_dif a b f (k + 1) (by omega) (by omega)
      · rw [if_pos (.inr (.inr hq)), if_neg hq]
    · have hne : a.length ≠ b.length := by omega
      rw [show min a.length b.length - k = 0 by omega]
      simp only [dl, dif]
      rw [if_pos (by omega), if_neg hne]
      congr 1
      omega
theorem dl_V (a b : List ByteArray) : difV (dl a b (max a.length b.length) 0) = if (difV (dif a b (min a.length b.length) 0)).2 = true then difV (dif a b (min a.length b.length) 0) else if a.length = b.length then (0, false) else (((min a.length b.length : Nat) : Int), true) := by
  rw [dl_dif a b _ 0 (by omega) (by omega), Nat.sub_zero]
  cases dif a b (min a.length b.length) 0 with
  | some j => rfl
  | none =>
    simp only [difV]
    by_cases h : a.length = b.length
    · rw [if_pos h, if_pos h]; rfl
    · rw [if_neg h, if_neg h]; rfl
set_option maxRecDepth 100000 in
set_option maxHeartbeats 1000000 in
theorem Differ_any (a b : List ByteArray) (A B : Option Addr) (na ca nb cb : Nat) (w0 : World) (ha : a.length = na) (hb : b.length = nb) (hna : na ≤ 1000) (hnb : nb ≤ 1000) (hca : na ≤ ca) (hcb : nb ≤ cb) (hca1 : ca ≤ 9223372036854775807) (hcb1 : cb ≤ 9223372036854775807) (RA : RdS w0 A a) (RB : RdS w0 B b) (SA : ∀ s ∈ a, s.size ≤ 140737488355328) (SB : ∀ s ∈ b, s.size ≤ 140737488355328) : Calls Try.prog 17 #[.slice A na ca, .slice B nb cb] w0 fun e w' => e = .returned (.tuple #[.int .i64 (difV (dl a b (max na nb) 0)).1, .bool (difV (dl a b (max na nb) 0)).2]) ∧ Below w0.heap.size w0 w' := by
  obtain ⟨m, hm⟩ : ∃ m, min na nb = m := ⟨_, rfl⟩
  have HV : Aside0 (difV (dl a b (max na nb) 0) = if (difV (dif a b m 0)).2 = true then difV (dif a b m 0) else if na = nb then (0, false) else (((m : Nat) : Int), true)) := ⟨by
    have := dl_V a b
    rw [ha, hb, hm] at this
    exact this⟩
  obtain ⟨z, hz⟩ : ∃ z, (difV (dif a b m 0)).1 = z := ⟨_, rfl⟩
  obtain ⟨q, hq⟩ : ∃ q, (difV (dif a b m 0)).2 = q := ⟨_, rfl⟩
  have HC : Aside0 (∀ w, Below w0.heap.size w0 w → Calls Try.prog 25 #[.slice A m ca, .slice B m cb] w fun e w' => e = .returned (.tuple #[.int .i64 z, .bool q]) ∧ Below w.heap.size w w') := ⟨fun w hw => by
    have := differ_any (a.take m) (b.take m) A B m ca cb w (by rw [List.length_take]; omega) (by rw [List.length_take]; omega) (by omega) ((RA.below hw).take m) ((RB.below hw).take m) (fun s hs => SA s (List.mem_of_mem_take hs)) (fun s hs => SB s (List.mem_of_mem_take hs))
    rw [dif_take a b m m 0 (by omega), difR_eq, hz, hq] at this
    exact this⟩
  have HD : Aside0 (difV (dif a b m 0) = (z, q)) := ⟨by rw [← hz, ← hq]⟩
  rw [HD.out] at HV
  obtain ⟨o, ho⟩ : ∃ o, difV (dl a b (max na nb) 0) = o := ⟨_, rfl⟩
  rw [ho] at HV
  rw [ho]
  clear hz hq HD RA RB SA SB ho
  have k1 : m ≤ na := by omega
  have k2 : m ≤ nb := by omega
  have k3 : m ≤ ca := by omega
  have k4 : m ≤ cb := by omega
  go_enter Try.func17, Try.ntmps17
  rcases Nat.lt_trichotomy nb na with hlt | hlt | hlt
  · have hne : ¬ na = nb := by omega
    obtain rfl : m = nb := by omega
    rw [if_neg hne] at HV
    go_wp2
    refine St.steadyR (n := 12) (by kernel_rfl) ([] :: [] :: [(0, 15), (1, 16)] :: [] :: [] :: [(3, 18), (4, 19)] :: [(2, 17), (5, 20)] :: [(6, 21)] :: [(7, 14)] :: [(7, 14)] :: [(8, 22)] :: [(9, 23)] :: []) (some 15 :: some 16 :: some 17 :: some 18 :: some 19 :: some 20 :: some 21 :: some 14 :: some 22 :: some 23 :: some 7 :: some 8 :: []) (by kernel_rfl) ((St.eqT ?c2_0x4) :: (St.eqT ?c2_1x4) :: (St.eqT ?c2_2x4) :: (St.eqT ?c2_3x4) :: (St.eqT ?c2_4x4) :: (St.eqT ?c2_5x4) :: (St.eqT ?c2_6x4) :: (St.eqT ?c2_7x4) :: (St.eqT ?c2_8x4) :: (St.eqT ?c2_9x4) :: (St.eqT ?c2_10x4) :: (St.eqT ?c2_11x4) :: []) rfl (by rfl) (fun w' => Below w0.heap.size w0 w') (fun w w' => Below w.heap.size w w') ?hst ?h0 ?hB ?hop ?hend
    case hop =>
      refine ⟨?_, ?_, ?_, ?_, ?_, ?_, ?_, ?_, ?_, ?_, ?_, ?_, trivial⟩
      · intro w hB
        simp only [St.withD]
        refine St.ob_value (v := ?_) (w' := w) (by rfl) ?_ ⟨Below.refl _ _, ?_⟩
        rotate_left
        · go_simp
          with_reducible rfl
        · rfl
      · intro w hB
        simp only [St.withD]
        refine St.ob_value (v := ?_) (w' := w) (by rfl) ?_ ⟨Below.refl _ _, ?_⟩
        rotate_left
        · go_simp
          with_reducible rfl
        · rfl
      · intro w hB; rintro _ ⟨_, rfl⟩ _ ⟨_, rfl⟩
        simp only [St.withD, List.nil_append, List.cons_append, Act.put, List.setIfInBounds_toArray, List.set_cons_zero, List.set_cons_succ]
        refine St.ob_value (v := ?_) (w' := w) (by rfl) ?_ ⟨Below.refl _ _, ?_⟩
        rotate_left
        · go_simp
          with_reducible rfl
        · rfl
      · intro w hB
        simp only [St.withD]
        refine St.ob_value (v := ?_) (w' := w) (by rfl) ?_ ⟨Below.refl _ _, ?_⟩
        rotate_left
        · go_simp
          with_reducible rfl
        · rfl
      · intro w hB
        simp only [St.withD]
        refine St.ob_value (v := ?_) (w' := w) (by rfl) ?_ ⟨Below.refl _ _, ?_⟩
        rotate_left
        · go_simp
          with_reducible rfl
        · rfl
      · intro w hB; rintro _ ⟨_, rfl⟩ _ ⟨_, rfl⟩
        simp only [St.withD, List.nil_append, List.cons_append, Act.put, List.setIfInBounds_toArray, List.set_cons_zero, List.set_cons_succ]
        refine St.ob_value (v := ?_) (w' := w) (by rfl) ?_ ⟨Below.refl _ _, ?_⟩
        rotate_left
        · go_simp
          with_reducible rfl
        · rfl
      · intro w hB; rintro _ ⟨_, rfl⟩ _ ⟨_, rfl⟩
        simp only [St.withD, List.nil_append, List.cons_append, Act.put, List.setIfInBounds_toArray, List.set_cons_zero, List.set_cons_succ]
        refine St.ob_call Try.func25 (by kernel_rfl) rfl #[.slice A m ca, .slice B m cb] (by rfl) rfl (by (try simp only [List.map_toArray, List.map_cons, List.map_nil]); first | done | rfl | (simp only [List.length_drop, List.length_take]; rfl)) ?_
        refine (HC.out w hB).mono ?_
        rintro e w1 ⟨rfl, hb1⟩
        refine ⟨_, rfl, hb1, ?_⟩
        rfl
      · intro w hB; rintro _ ⟨_, rfl⟩
        simp only [St.withD, List.nil_append, List.cons_append, Act.put, List.setIfInBounds_toArray, List.set_cons_zero, List.set_cons_succ]
        refine St.ob_value (v := ?_) (w' := w) (by rfl) ?_ ⟨Below.refl _ _, ?_⟩
        rotate_left
        · go_simp
          with_reducible rfl
        · rfl
      · intro w hB; rintro _ ⟨_, rfl⟩
        simp only [St.withD, List.nil_append, List.cons_append, Act.put, List.setIfInBounds_toArray, List.set_cons_zero, List.set_cons_succ]
        refine St.ob_value (v := ?_) (w' := w) (by rfl) ?_ ⟨Below.refl _ _, ?_⟩
        rotate_left
        · go_simp
          with_reducible rfl
        · rfl
      · intro w hB; rintro _ ⟨_, rfl⟩
        simp only [St.withD, List.nil_append, List.cons_append, Act.put, List.setIfInBounds_toArray, List.set_cons_zero, List.set_cons_succ]
        refine St.ob_value (v := ?_) (w' := w) (by rfl) ?_ ⟨Below.refl _ _, ?_⟩
        rotate_left
        · go_simp
          with_reducible rfl
        · rfl
      · intro w hB; rintro _ ⟨_, rfl⟩
        simp only [St.withD, List.nil_append, List.cons_append, Act.put, List.setIfInBounds_toArray, List.set_cons_zero, List.set_cons_succ]
        refine St.ob_value (v := ?_) (w' := w) (by rfl) ?_ ⟨Below.refl _ _, ?_⟩
        rotate_left
        · go_simp
          with_reducible rfl
        · rfl
      · intro w hB; rintro _ ⟨_, rfl⟩
        simp only [St.withD, List.nil_append, List.cons_append, Act.put, List.setIfInBounds_toArray, List.set_cons_zero, List.set_cons_succ]
        refine St.ob_value (v := ?_) (w' := w) (by rfl) ?_ ⟨Below.refl _ _, ?_⟩
        rotate_left
        · go_simp
          with_reducible rfl
        · rfl
    case hst => exact ⟨St.eqT_st, St.eqT_st, St.eqT_st, St.eqT_st, St.eqT_st, St.eqT_st, St.eqT_st, St.eqT_st, St.eqT_st, St.eqT_st, St.eqT_st, St.eqT_st, trivial⟩
    case h0 => exact below_drew (Below.refl _ _)
    case hB => exact fun w w' h k => below_step h k
    case hend =>
      intro w hB
      rintro _ rfl _ rfl _ rfl _ rfl _ rfl _ rfl _ rfl _ rfl _ rfl _ rfl _ rfl _ rfl
      simp only [List.map_cons, List.map_nil, List.nil_append, List.cons_append, List.getD_cons_zero, List.getD_cons_succ, Act.put, List.setIfInBounds_toArray, List.set_cons_zero, List.set_cons_succ]
      rw [St.withE_nil]
      have HBX := Aside0.mk hB
      clear hB HC
      cases q
      · go_wp2
        go_ret2
        rw [HV.out]
        exact ⟨rfl, HBX.out⟩
      · go_wp2
        go_ret2
        rw [HV.out]
        exact ⟨rfl, HBX.out⟩
  · subst hlt
    obtain rfl : m = nb := by omega
    rw [if_pos rfl] at HV
    have hle : (m : Int) ≤ (m : Int) := by omega
    go_wp2
    refine St.steadyR (n := 12) (by kernel_rfl) ([] :: [] :: [(0, 15), (1, 16)] :: [] :: [] :: [(3, 18), (4, 19)] :: [(2, 17), (5, 20)] :: [(6, 21)] :: [(7, 14)] :: [(7, 14)] :: [(8, 22)] :: [(9, 23)] :: []) (some 15 :: some 16 :: some 17 :: some 18 :: some 19 :: some 20 :: some 21 :: some 14 :: some 22 :: some 23 :: some 7 :: some 8 :: []) (by kernel_rfl) ((St.eqT ?c2_0x5) :: (St.eqT ?c2_1x5) :: (St.eqT ?c2_2x5) :: (St.eqT ?c2_3x5) :: (St.eqT ?c2_4x5) :: (St.eqT ?c2_5x5) :: (St.eqT ?c2_6x5) :: (St.eqT ?c2_7x5) :: (St.eqT ?c2_8x5) :: (St.eqT ?c2_9x5) :: (St.eqT ?c2_10x5) :: (St.eqT ?c2_11x5) :: []) rfl (by rfl) (fun w' => Below w0.heap.size w0 w') (fun w w' => Below w.heap.size w w') ?hst ?h0 ?hB ?hop ?hend
    case hop =>
      refine ⟨?_, ?_, ?_, ?_, ?_, ?_, ?_, ?_, ?_, ?_, ?_, ?_, trivial⟩
      · intro w hB
        simp only [St.withD]
        refine St.ob_value (v := ?_) (w' := w) (by rfl) ?_ ⟨Below.refl _ _, ?_⟩
        rotate_left
        · go_simp
          with_reducible rfl
        · rfl
      · intro w hB
        simp only [St.withD]
        refine St.ob_value (v := ?_) (w' := w) (by rfl) ?_ ⟨Below.refl _ _, ?_⟩
        rotate_left
        · go_simp
          with_reducible rfl
        · rfl
      · intro w hB; rintro _ ⟨_, rfl⟩ _ ⟨_, rfl⟩
        simp only [St.withD, List.nil_append, List.cons_append, Act.put, List.setIfInBounds_toArray, List.set_cons_zero, List.set_cons_succ]
        refine St.ob_value (v := ?_) (w' := w) (by rfl) ?_ ⟨Below.refl _ _, ?_⟩
        rotate_left
        · go_simp
          with_reducible rfl
        · rfl
      · intro w hB
        simp only [St.withD]
        refine St.ob_value (v := ?_) (w' := w) (by rfl) ?_ ⟨Below.refl _ _, ?_⟩
        rotate_left
        · go_simp
          with_reducible rfl
        · rfl
      · intro w hB
        simp only [St.withD]
        refine St.ob_value (v := ?_) (w' := w) (by rfl) ?_ ⟨Below.refl _ _, ?_⟩
        rotate_left
        · go_simp
          with_reducible rfl
        · rfl
      · intro w hB; rintro _ ⟨_, rfl⟩ _ ⟨_, rfl⟩
        simp only [St.withD, List.nil_append, List.cons_append, Act.put, List.setIfInBounds_toArray, List.set_cons_zero, List.set_cons_succ]
        refine St.ob_value (v := ?_) (w' := w) (by rfl) ?_ ⟨Below.refl _ _, ?_⟩
        rotate_left
        · go_simp
          with_reducible rfl
        · rfl
      · intro w hB; rintro _ ⟨_, rfl⟩ _ ⟨_, rfl⟩
        simp only [St.withD, List.nil_append, List.cons_append, Act.put, List.setIfInBounds_toArray, List.set_cons_zero, List.set_cons_succ]
        refine St.ob_call Try.func25 (by kernel_rfl) rfl #[.slice A m ca, .slice B m cb] (by rfl) rfl (by (try simp only [List.map_toArray, List.map_cons, List.map_nil]); first | done | rfl | (simp only [List.length_drop, List.length_take]; rfl)) ?_
        refine (HC.out w hB).mono ?_
        rintro e w1 ⟨rfl, hb1⟩
        refine ⟨_, rfl, hb1, ?_⟩
        rfl
      · intro w hB; rintro _ ⟨_, rfl⟩
        simp only [St.withD, List.nil_append, List.cons_append, Act.put, List.setIfInBounds_toArray, List.set_cons_zero, List.set_cons_succ]
        refine St.ob_value (v := ?_) (w' := w) (by rfl) ?_ ⟨Below.refl _ _, ?_⟩
        rotate_left
        · go_simp
          with_reducible rfl
        · rfl
      · intro w hB; rintro _ ⟨_, rfl⟩
        simp only [St.withD, List.nil_append, List.cons_append, Act.put, List.setIfInBounds_toArray, List.set_cons_zero, List.set_cons_succ]
        refine St.ob_value (v := ?_) (w' := w) (by rfl) ?_ ⟨Below.refl _ _, ?_⟩
        rotate_left
        · go_simp
          with_reducible rfl
        · rfl
      · intro w hB; rintro _ ⟨_, rfl⟩
        simp only [St.withD, List.nil_append, List.cons_append, Act.put, List.setIfInBounds_toArray, List.set_cons_zero, List.set_cons_succ]
        refine St.ob_value (v := ?_) (w' := w) (by rfl) ?_ ⟨Below.refl _ _, ?_⟩
        rotate_left
        · go_simp
          with_reducible rfl
        · rfl
      · intro w hB; rintro _ ⟨_, rfl⟩
        simp only [St.withD, List.nil_append, List.cons_append, Act.put, List.setIfInBounds_toArray, List.set_cons_zero, List.set_cons_succ]
        refine St.ob_value (v := ?_) (w' := w) (by rfl) ?_ ⟨Below.refl _ _, ?_⟩
        rotate_left
        · go_simp
          with_reducible rfl
        · rfl
      · intro w hB; rintro _ ⟨_, rfl⟩
        simp only [St.withD, List.nil_append, List.cons_append, Act.put, List.setIfInBounds_toArray, List.set_cons_zero, List.set_cons_succ]
        refine St.ob_value (v := ?_) (w' := w) (by rfl) ?_ ⟨Below.refl _ _, ?_⟩
        rotate_left
        · go_simp
          with_reducible rfl
        · rfl
    case hst => exact ⟨St.eqT_st, St.eqT_st, St.eqT_st, St.eqT_st, St.eqT_st, St.eqT_st, St.eqT_st, St.eqT_st, St.eqT_st, St.eqT_st, St.eqT_st, St.eqT_st, trivial⟩
    case h0 => exact below_drew (Below.refl _ _)
    case hB => exact fun w w' h k => below_step h k
    case hend =>
      intro w hB
      rintro _ rfl _ rfl _ rfl _ rfl _ rfl _ rfl _ rfl _ rfl _ rfl _ rfl _ rfl _ rfl
      simp only [List.map_cons, List.map_nil, List.nil_append, List.cons_append, List.getD_cons_zero, List.getD_cons_succ, Act.put, List.setIfInBounds_toArray, List.set_cons_zero, List.set_cons_succ]
      rw [St.withE_nil]
      have HBX := Aside0.mk hB
      clear hB HC
      cases q
      · go_wp2
        go_ret2
        rw [HV.out]
        exact ⟨rfl, HBX.out⟩
      · go_wp2
        go_ret2
        rw [HV.out]
        exact ⟨rfl, HBX.out⟩
  · have hne : ¬ na = nb := by omega
    obtain rfl : m = na := by omega
    rw [if_neg hne] at HV
    go_wp2
    refine St.steadyR (n := 12) (by kernel_rfl) ([] :: [] :: [(0, 15), (1, 16)] :: [] :: [] :: [(3, 18), (4, 19)] :: [(2, 17), (5, 20)] :: [(6, 21)] :: [(7, 14)] :: [(7, 14)] :: [(8, 22)] :: [(9, 23)] :: []) (some 15 :: some 16 :: some 17 :: some 18 :: some 19 :: some 20 :: some 21 :: some 14 :: some 22 :: some 23 :: some 7 :: some 8 :: []) (by kernel_rfl) ((St.eqT ?c2_0x6) :: (St.eqT ?c2_1x6) :: (St.eqT ?c2_2x6) :: (St.eqT ?c2_3x6) :: (St.eqT ?c2_4x6) :: (St.eqT ?c2_5x6) :: (St.eqT ?c2_6x6) :: (St.eqT ?c2_7x6) :: (St.eqT ?c2_8x6) :: (St.eqT ?c2_9x6) :: (St.eqT ?c2_10x6) :: (St.eqT ?c2_11x6) :: []) rfl (by rfl) (fun w' => Below w0.heap.size w0 w') (fun w w' => Below w.heap.size w w') ?hst ?h0 ?hB ?hop ?hend
    case hop =>
      refine ⟨?_, ?_, ?_, ?_, ?_, ?_, ?_, ?_, ?_, ?_, ?_, ?_, trivial⟩
      · intro w hB
        simp only [St.withD]
        refine St.ob_value (v := ?_) (w' := w) (by rfl) ?_ ⟨Below.refl _ _, ?_⟩
        rotate_left
        · go_simp
          with_reducible rfl
        · rfl
      · intro w hB
        simp only [St.withD]
        refine St.ob_value (v := ?_) (w' := w) (by rfl) ?_ ⟨Below.refl _ _, ?_⟩
        rotate_left
        · go_simp
          with_reducible rfl
        · rfl
      · intro w hB; rintro _ ⟨_, rfl⟩ _ ⟨_, rfl⟩
        simp only [St.withD, List.nil_append, List.cons_append, Act.put, List.setIfInBounds_toArray, List.set_cons_zero, List.set_cons_succ]
        refine St.ob_value (v := ?_) (w' := w) (by rfl) ?_ ⟨Below.refl _ _, ?_⟩
        rotate_left
        · go_simp
          with_reducible rfl
        · rfl
      · intro w hB
        simp only [St.withD]
        refine St.ob_value (v := ?_) (w' := w) (by rfl) ?_ ⟨Below.refl _ _, ?_⟩
        rotate_left
        · go_simp
          with_reducible rfl
        · rfl
      · intro w hB
        simp only [St.withD]
        refine St.ob_value (v := ?_) (w' := w) (by rfl) ?_ ⟨Below.refl _ _, ?_⟩
        rotate_left
        · go_simp
          with_reducible rfl
        · rfl
      · intro w hB; rintro _ ⟨_, rfl⟩ _ ⟨_, rfl⟩
        simp only [St.withD, List.nil_append, List.cons_append, Act.put, List.setIfInBounds_toArray, List.set_cons_zero, List.set_cons_succ]
        refine St.ob_value (v := ?_) (w' := w) (by rfl) ?_ ⟨Below.refl _ _, ?_⟩
        rotate_left
        · go_simp
          with_reducible rfl
        · rfl
      · intro w hB; rintro _ ⟨_, rfl⟩ _ ⟨_, rfl⟩
        simp only [St.withD, List.nil_append, List.cons_append, Act.put, List.setIfInBounds_toArray, List.set_cons_zero, List.set_cons_succ]
        refine St.ob_call Try.func25 (by kernel_rfl) rfl #[.slice A m ca, .slice B m cb] (by rfl) rfl (by (try simp only [List.map_toArray, List.map_cons, List.map_nil]); first | done | rfl | (simp only [List.length_drop, List.length_take]; rfl)) ?_
        refine (HC.out w hB).mono ?_
        rintro e w1 ⟨rfl, hb1⟩
        refine ⟨_, rfl, hb1, ?_⟩
        rfl
      · intro w hB; rintro _ ⟨_, rfl⟩
        simp only [St.withD, List.nil_append, List.cons_append, Act.put, List.setIfInBounds_toArray, List.set_cons_zero, List.set_cons_succ]
        refine St.ob_value (v := ?_) (w' := w) (by rfl) ?_ ⟨Below.refl _ _, ?_⟩
        rotate_left
        · go_simp
          with_reducible rfl
        · rfl
      · intro w hB; rintro _ ⟨_, rfl⟩
        simp only [St.withD, List.nil_append, List.cons_append, Act.put, List.setIfInBounds_toArray, List.set_cons_zero, List.set_cons_succ]
        refine St.ob_value (v := ?_) (w' := w) (by rfl) ?_ ⟨Below.refl _ _, ?_⟩
        rotate_left
        · go_simp
          with_reducible rfl
        · rfl
      · intro w hB; rintro _ ⟨_, rfl⟩
        simp only [St.withD, List.nil_append, List.cons_append, Act.put, List.setIfInBounds_toArray, List.set_cons_zero, List.set_cons_succ]
        refine St.ob_value (v := ?_) (w' := w) (by rfl) ?_ ⟨Below.refl _ _, ?_⟩
        rotate_left
        · go_simp
          with_reducible rfl
        · rfl
      · intro w hB; rintro _ ⟨_, rfl⟩
        simp only [St.withD, List.nil_append, List.cons_append, Act.put, List.setIfInBounds_toArray, List.set_cons_zero, List.set_cons_succ]
        refine St.ob_value (v := ?_) (w' := w) (by rfl) ?_ ⟨Below.refl _ _, ?_⟩
        rotate_left
        · go_simp
          with_reducible rfl
        · rfl
      · intro w hB; rintro _ ⟨_, rfl⟩
        simp only [St.withD, List.nil_append, List.cons_append, Act.put, List.setIfInBounds_toArray, List.set_cons_zero, List.set_cons_succ]
        refine St.ob_value (v := ?_) (w' := w) (by rfl) ?_ ⟨Below.refl _ _, ?_⟩
        rotate_left
        · go_simp
          with_reducible rfl
        · rfl
    case hst => exact ⟨St.eqT_st, St.eqT_st, St.eqT_st, St.eqT_st, St.eqT_st, St.eqT_st, St.eqT_st, St.eqT_st, St.eqT_st, St.eqT_st, St.eqT_st, St.eqT_st, trivial⟩
    case h0 => exact below_drew (Below.refl _ _)
    case hB => exact fun w w' h k => below_step h k
    case hend =>
      intro w hB
      rintro _ rfl _ rfl _ rfl _ rfl _ rfl _ rfl _ rfl _ rfl _ rfl _ rfl _ rfl _ rfl
      simp only [List.map_cons, List.map_nil, List.nil_append, List.cons_append, List.getD_cons_zero, List.getD_cons_succ, Act.put, List.setIfInBounds_toArray, List.set_cons_zero, List.set_cons_succ]
      rw [St.withE_nil]
      have HBX := Aside0.mk hB
      clear hB HC
      cases q
      · go_wp2
        go_ret2
        rw [HV.out]
        exact ⟨rfl, HBX.out⟩
      · go_wp2
        go_ret2
        rw [HV.out]
        exact ⟨rfl, HBX.out⟩
end Go.Proofs.Ytfafekejjnpbcaa
