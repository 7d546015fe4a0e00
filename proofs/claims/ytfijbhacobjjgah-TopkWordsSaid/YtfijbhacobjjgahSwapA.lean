/- Two entries change places. -/
import Derived.Test.YtfijbhacobjjgahHeapA
import Derived.Test.YtfijbhacobjjgahSteadyF
namespace Go.Proofs.Ytfijbhacobjjgah
open Go.RowKit Go.Proofs.YtfijbhacobjjgahW.PrintWords Go.Proofs.YtfijbhacobjjgahW.PrintLast Go.Proofs.YtfijbhacobjjgahW.PrintMore Go.Proofs.Ytfijbhacobjjgah.Fr
set_option linter.unusedVariables false
set_option linter.unusedSimpArgs false
attribute [local go_sem] max2_int min2_int max_two min_two

open Pl Hp
theorem store_op {P : Program} {ρ : Operand → Value} {w w1 : World} {o : Oper} {t : TypeId} {p x : Operand} {v y : Value} (ho : o.op = .store t p x) (hp : ρ p = v) (hx : ρ x = y) (hrun : (Instr.storeAt t v y).run P w = .ok () w1) : (execOp ρ o).run P w = .ok .skip w1 := by
  unfold execOp
  rw [ho]
  simp only [hp, hx, Sem.run_bind, Sem.run_pure, Result.andThen_ok, hrun]
theorem swap_any (B g c i j : Nat) (l : List E) (w0 : World) (h : HR B w0 g c l) (hi : i < l.length) (hj : j < l.length) (hn : l.length ≤ 100000) :
    Calls Try.prog 44 #[.slice (some ⟨g, 0, none⟩) l.length c, .int .i64 i, .int .i64 j] w0 fun e w' => e = .returned (.tuple #[]) ∧ HR B w' g c (swp ez l i j) ∧ Ch (fun k => k = g) w0 w' := by
  have HC := Aside0.mk h
  obtain ⟨cur, hh, _, hlc, _, _, hcm⟩ := h.block
  have hi0 : (0 : Int) ≤ i := by omega
  have hj0 : (0 : Int) ≤ j := by omega
  have hiI : (i : Int) < l.length := by omega
  have hjI : (j : Int) < l.length := by omega
  clear h hh
  go_enter Try.func44, Try.ntmps44
  go_wp2
  refine St.steadyG (n := 16) (by kernel_rfl) ([] :: [] :: [] :: [] :: [] :: [] :: [(4, 10), (5, 11)] :: [(6, 12)] :: [] :: [] :: [(8, 14), (9, 15)] :: [(10, 16)] :: [(0, 6), (1, 7)] :: [(7, 13), (12, 18)] :: [(2, 8), (3, 9)] :: [(11, 17), (14, 19)] :: []) (some 6 :: some 7 :: some 8 :: some 9 :: some 10 :: some 11 :: some 12 :: some 13 :: some 14 :: some 15 :: some 16 :: some 17 :: some 18 :: none :: some 19 :: none :: []) (by kernel_rfl) ((St.eqT ?c0_0x2) :: (St.eqT ?c0_1x2) :: (St.eqT ?c0_2x2) :: (St.eqT ?c0_3x2) :: (St.eqT ?c0_4x2) :: (St.eqT ?c0_5x2) :: (St.eqT ?c0_6x2) :: (St.eqT (.agg (enc (l.getD j ez)).toArray)) :: (St.eqT ?c0_8x2) :: (St.eqT ?c0_9x2) :: (St.eqT ?c0_10x2) :: (St.eqT (.agg (enc (l.getD i ez)).toArray)) :: (St.eqT ?c0_12x2) :: (St.eqT undef) :: (St.eqT ?c0_14x2) :: (St.eqT undef) :: []) rfl (by rfl) (fun fl w' => (bif fl 15 then HR B w' g c (swp ez l i j) else bif fl 13 then HR B w' g c (l.set i (l.getD j ez)) else HR B w' g c l) ∧ Ch (fun k => k = g) w0 w') (fun k wa wb => (k = 13 → ((bif false then HR B wa g c (swp ez l i j) else bif false then HR B wa g c (l.set i (l.getD j ez)) else HR B wa g c l) ∧ Ch (fun k => k = g) w0 wa) → ((bif false then HR B wb g c (swp ez l i j) else bif true then HR B wb g c (l.set i (l.getD j ez)) else HR B wb g c l) ∧ Ch (fun k => k = g) w0 wb)) ∧ (k = 15 → ((bif false then HR B wa g c (swp ez l i j) else bif true then HR B wa g c (l.set i (l.getD j ez)) else HR B wa g c l) ∧ Ch (fun k => k = g) w0 wa) → ((bif true then HR B wb g c (swp ez l i j) else bif true then HR B wb g c (l.set i (l.getD j ez)) else HR B wb g c l) ∧ Ch (fun k => k = g) w0 wb)) ∧ (k ≠ 13 → k ≠ 15 → wa = wb)) ?hst ?h0 (fun k w' => ((k = 7 ∨ k = 11 ∨ k = 13) → ((bif false then HR B w' g c (swp ez l i j) else bif false then HR B w' g c (l.set i (l.getD j ez)) else HR B w' g c l) ∧ Ch (fun k => k = g) w0 w')) ∧ (k = 15 → ((bif false then HR B w' g c (swp ez l i j) else bif true then HR B w' g c (l.set i (l.getD j ez)) else HR B w' g c l) ∧ Ch (fun k => k = g) w0 w'))) ?hB ?hG ?hop ?hend
  case hop =>
    refine ⟨?_, ?_, ?_, ?_, ?_, ?_, ?_, ?_, ?_, ?_, ?_, ?_, ?_, ?_, ?_, ?_, trivial⟩
    · intro w hB
      simp only [St.withD]
      refine St.ob_value (v := ?_) (w' := w) (by rfl) ?_ ⟨⟨fun e => absurd e (by decide), fun e => absurd e (by decide), fun _ _ => rfl⟩, ?_⟩
      rotate_left
      · go_simp
        with_reducible rfl
      · rfl
    · intro w hB
      simp only [St.withD]
      refine St.ob_value (v := ?_) (w' := w) (by rfl) ?_ ⟨⟨fun e => absurd e (by decide), fun e => absurd e (by decide), fun _ _ => rfl⟩, ?_⟩
      rotate_left
      · go_simp
        with_reducible rfl
      · rfl
    · intro w hB
      simp only [St.withD]
      refine St.ob_value (v := ?_) (w' := w) (by rfl) ?_ ⟨⟨fun e => absurd e (by decide), fun e => absurd e (by decide), fun _ _ => rfl⟩, ?_⟩
      rotate_left
      · go_simp
        with_reducible rfl
      · rfl
    · intro w hB
      simp only [St.withD]
      refine St.ob_value (v := ?_) (w' := w) (by rfl) ?_ ⟨⟨fun e => absurd e (by decide), fun e => absurd e (by decide), fun _ _ => rfl⟩, ?_⟩
      rotate_left
      · go_simp
        with_reducible rfl
      · rfl
    · intro w hB
      simp only [St.withD]
      refine St.ob_value (v := ?_) (w' := w) (by rfl) ?_ ⟨⟨fun e => absurd e (by decide), fun e => absurd e (by decide), fun _ _ => rfl⟩, ?_⟩
      rotate_left
      · go_simp
        with_reducible rfl
      · rfl
    · intro w hB
      simp only [St.withD]
      refine St.ob_value (v := ?_) (w' := w) (by rfl) ?_ ⟨⟨fun e => absurd e (by decide), fun e => absurd e (by decide), fun _ _ => rfl⟩, ?_⟩
      rotate_left
      · go_simp
        with_reducible rfl
      · rfl
    · intro w hB; rintro _ ⟨_, rfl⟩ _ ⟨_, rfl⟩
      simp only [St.withD, List.nil_append, List.cons_append, Act.put, List.setIfInBounds_toArray, List.set_cons_zero, List.set_cons_succ]
      refine St.ob_value (v := ?_) (w' := w) (by rfl) ?_ ⟨⟨fun e => absurd e (by decide), fun e => absurd e (by decide), fun _ _ => rfl⟩, ?_⟩
      rotate_left
      · go_simp
        with_reducible rfl
      · rfl
    · intro w hB; rintro _ ⟨_, rfl⟩
      simp only [St.withD, List.nil_append, List.cons_append, Act.put, List.setIfInBounds_toArray, List.set_cons_zero, List.set_cons_succ]
      obtain ⟨b0, b1⟩ := HR.cells (hB.1 (by decide)).1 j hj
      refine St.ob_value (v := .agg (enc (l.getD j ez)).toArray) (w' := w) (by rfl) ?_ ⟨⟨fun e => absurd e (by decide), fun e => absurd e (by decide), fun _ _ => rfl⟩, rfl⟩
      unfold enc
      go_simp
    · intro w hB
      simp only [St.withD]
      refine St.ob_value (v := ?_) (w' := w) (by rfl) ?_ ⟨⟨fun e => absurd e (by decide), fun e => absurd e (by decide), fun _ _ => rfl⟩, ?_⟩
      rotate_left
      · go_simp
        with_reducible rfl
      · rfl
    · intro w hB
      simp only [St.withD]
      refine St.ob_value (v := ?_) (w' := w) (by rfl) ?_ ⟨⟨fun e => absurd e (by decide), fun e => absurd e (by decide), fun _ _ => rfl⟩, ?_⟩
      rotate_left
      · go_simp
        with_reducible rfl
      · rfl
    · intro w hB; rintro _ ⟨_, rfl⟩ _ ⟨_, rfl⟩
      simp only [St.withD, List.nil_append, List.cons_append, Act.put, List.setIfInBounds_toArray, List.set_cons_zero, List.set_cons_succ]
      refine St.ob_value (v := ?_) (w' := w) (by rfl) ?_ ⟨⟨fun e => absurd e (by decide), fun e => absurd e (by decide), fun _ _ => rfl⟩, ?_⟩
      rotate_left
      · go_simp
        with_reducible rfl
      · rfl
    · intro w hB; rintro _ ⟨_, rfl⟩
      simp only [St.withD, List.nil_append, List.cons_append, Act.put, List.setIfInBounds_toArray, List.set_cons_zero, List.set_cons_succ]
      obtain ⟨b0, b1⟩ := HR.cells (hB.1 (by decide)).1 i hi
      refine St.ob_value (v := .agg (enc (l.getD i ez)).toArray) (w' := w) (by rfl) ?_ ⟨⟨fun e => absurd e (by decide), fun e => absurd e (by decide), fun _ _ => rfl⟩, rfl⟩
      unfold enc
      go_simp
    · intro w hB; rintro _ ⟨_, rfl⟩ _ ⟨_, rfl⟩
      simp only [St.withD, List.nil_append, List.cons_append, Act.put, List.setIfInBounds_toArray, List.set_cons_zero, List.set_cons_succ]
      refine St.ob_value (v := ?_) (w' := w) (by rfl) ?_ ⟨⟨fun e => absurd e (by decide), fun e => absurd e (by decide), fun _ _ => rfl⟩, ?_⟩
      rotate_left
      · go_simp
        with_reducible rfl
      · rfl
    · intro w hB; rintro _ ⟨_, rfl⟩ _ ⟨_, rfl⟩
      simp only [St.withD, List.nil_append, List.cons_append, Act.put, List.setIfInBounds_toArray, List.set_cons_zero, List.set_cons_succ]
      have hb := (hB.1 (by decide))
      obtain ⟨p1, p2, p3⟩ := HR.put hb.1 i hi (l.getD j ez)
      refine St.ob_skip (w' := w.setCells g (i * 2) (enc (l.getD j ez))) (by rfl) ?_ ⟨⟨fun _ h => ⟨p2, h.2.trans p3⟩, fun e => absurd e (by decide), fun e => absurd rfl e⟩, rfl⟩
      exact store_op rfl rfl rfl p1
    · intro w hB; rintro _ ⟨_, rfl⟩ _ ⟨_, rfl⟩
      simp only [St.withD, List.nil_append, List.cons_append, Act.put, List.setIfInBounds_toArray, List.set_cons_zero, List.set_cons_succ]
      refine St.ob_value (v := ?_) (w' := w) (by rfl) ?_ ⟨⟨fun e => absurd e (by decide), fun e => absurd e (by decide), fun _ _ => rfl⟩, ?_⟩
      rotate_left
      · go_simp
        with_reducible rfl
      · rfl
    · intro w hB; rintro _ ⟨_, rfl⟩ _ ⟨_, rfl⟩
      simp only [St.withD, List.nil_append, List.cons_append, Act.put, List.setIfInBounds_toArray, List.set_cons_zero, List.set_cons_succ]
      have hb := (hB.2 rfl)
      obtain ⟨p1, p2, p3⟩ := HR.put hb.1 j (by rw [List.length_set]; exact hj) (l.getD i ez)
      refine St.ob_skip (w' := w.setCells g (j * 2) (enc (l.getD i ez))) (by rfl) ?_ ⟨⟨fun e => absurd e (by decide), fun _ h => ⟨by unfold swp; exact p2, h.2.trans p3⟩, fun _ e => absurd rfl e⟩, rfl⟩
      exact store_op rfl rfl rfl p1
  case hst =>
    intro i j fl hi hj _ _ _ ds v wa wb ht _
    refine St.sts_get (Rel := fun _ _ _ => True) 0 _ j (by simpa using hj) ?_ ds v wa wb ht trivial
    exact ⟨St.eqT_st, St.eqT_st, St.eqT_st, St.eqT_st, St.eqT_st, St.eqT_st, St.eqT_st, St.eqT_st, St.eqT_st, St.eqT_st, St.eqT_st, St.eqT_st, St.eqT_st, St.eqT_st, St.eqT_st, St.eqT_st, trivial⟩
  case h0 => exact ⟨HC.out.below (below_drew1 (Below.refl _ _)), Ch.of_below (below_drew1 (Below.refl _ _))⟩
  case hB => (
    intro k fl w' hk hfk hdone hcl hG
    refine ⟨fun e => ?_, fun e => ?_⟩
    · have e13 : fl 13 = false := by
        rcases e with rfl | rfl | rfl
        · cases e : fl 13
          · rfl
          · have := hcl 13 7 e (by kernel_rfl); rw [hfk] at this; cases this
        · cases e : fl 13
          · rfl
          · have := hcl 13 11 e (by kernel_rfl); rw [hfk] at this; cases this
        · exact hfk
      have e15 : fl 15 = false := by
        cases e : fl 15
        · rfl
        · have := hcl 15 13 e (by kernel_rfl); rw [e13] at this; cases this
      rw [e13, e15] at hG
      exact hG
    · subst e
      have e13 : fl 13 = true := hdone 13 (by kernel_rfl)
      rw [hfk, e13] at hG
      exact hG)
  case hG => (
    intro k fl wa wb hk hfk hdone hcl hG hR
    by_cases h3 : k = 13
    · subst h3
      have e15 : fl 15 = false := by
        cases e : fl 15
        · rfl
        · have := hcl 15 13 e (by kernel_rfl)
          rw [hfk] at this
          cases this
      rw [e15, hfk] at hG
      have hz := hR.1 rfl hG
      have a13 : St.upB fl 13 13 = true := by unfold St.upB; rw [if_pos rfl]
      have a15 : St.upB fl 13 15 = fl 15 := by unfold St.upB; rw [if_neg (by decide)]
      rw [a13, a15, e15]
      exact hz
    · by_cases h7 : k = 15
      · subst h7
        have e13 : fl 13 = true := by
          have := hdone 13 (by kernel_rfl)
          exact this
        rw [hfk, e13] at hG
        have hz := hR.2.1 rfl hG
        have a13 : St.upB fl 15 13 = fl 13 := by unfold St.upB; rw [if_neg (by decide)]
        have a15 : St.upB fl 15 15 = true := by unfold St.upB; rw [if_pos rfl]
        rw [a13, a15]
        exact hz
      · have e := hR.2.2 h3 h7
        subst e
        have a13 : St.upB fl k 13 = fl 13 := by unfold St.upB; rw [if_neg (Ne.symm h3)]
        have a15 : St.upB fl k 15 = fl 15 := by unfold St.upB; rw [if_neg (Ne.symm h7)]
        rw [a13, a15]
        exact hG)
  case hend =>
    intro fl w hall hB
    rintro _ rfl _ rfl _ rfl _ rfl _ rfl _ rfl _ rfl _ rfl _ rfl _ rfl _ rfl _ rfl _ rfl _ rfl _ rfl _ rfl
    simp only [List.map_cons, List.map_nil, List.nil_append, List.cons_append, List.getD_cons_zero, List.getD_cons_succ, Act.put, List.setIfInBounds_toArray, List.set_cons_zero, List.set_cons_succ]
    rw [St.withE_nil]
    have HW := hB
    have h13 := hall 13 (by decide)
    have h15 := hall 15 (by decide)
    rw [h13, h15] at HW
    clear hB hall h13 h15
    go_wp2
    go_end0
    exact ⟨rfl, HW⟩
end Go.Proofs.Ytfijbhacobjjgah
