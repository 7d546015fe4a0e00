/- The contract of Learn. -/
import Derived.Test.YtfijbhacobjjgaeProg
import Derived.Test.YtfijbhacobjjgaeVals
import Derived.Test.YtfijbhacobjjgaeWLast
import Derived.Test.YtfijbhacobjjgaeWMore
import Derived.RegionTactic
import Derived.ChangeAlike
import Derived.BigRegion
import Derived.WalkLawsBesides
import Derived.WalkSpells
import Derived.Deep.LoopGhost
import Derived.Deep.QuietTactic
import Derived.BigQuiet
import Derived.OwnWalk
import Derived.Test.YtfijbhacobjjgaeModelA
import Derived.Test.YtfijbhacobjjgaeSteadyT
namespace Go.Proofs.Ytfijbhacobjjgae
open Go.RowKit Go.Proofs.YtfijbhacobjjgaeW.PrintWords Go.Proofs.YtfijbhacobjjgaeW.PrintLast Go.Proofs.YtfijbhacobjjgaeW.PrintMore Go.Proofs.Ytfijbhacobjjgae.Fr
set_option linter.unusedVariables false
set_option linter.unusedSimpArgs false
attribute [local go_sem] max2_int min2_int max_two min_two

open Pl
theorem lrn_yes (c : List Int) (n : Nat) : lrn c n true = c.set n (c.getD n 0 + (4096 - c.getD n 0) / 32) := rfl
theorem lrn_no (c : List Int) (n : Nat) : lrn c n false = c.set n (c.getD n 0 - c.getD n 0 / 32) := rfl
set_option maxRecDepth 100000 in
set_option maxHeartbeats 4000000 in
theorem learn_yes (g n : Nat) (c : List Int) (b : Bool) (h1 : 1 ≤ n) (h2 : n < 256) (hc : OkC c) (w0 : World) (hB : Blk w0 g 66 (Value.int .i64) c) : Calls Try.prog 14 #[.pointer (some ⟨g, 0, none⟩), .int .i64 n, .bool b] w0 fun e w' => e = .returned (.bool true) ∧ Blk w' g 66 (Value.int .i64) (lrn c n b) ∧ Ch (fun i => i = g) w0 w' := by
  have HI := Aside0.mk (in_yes g n (by omega) (by omega) w0)
  have hx := hc.2 n h2
  have c0 := hB.cell n 0 (by rw [hc.1]; exact h2)
  have hn0 : (0 : Int) ≤ n := by omega
  have hn1 : (n : Int) < 256 := by omega
  have hy := lrn_yes c n
  have hz := lrn_no c n
  obtain ⟨x, hxe⟩ : ∃ x, c.getD n 0 = x := ⟨_, rfl⟩
  rw [hxe] at hx c0 hy hz
  obtain ⟨x1, x2⟩ := hx
  have HB := Aside0.mk hB
  have HC := Aside0.mk c0
  clear hB c0 hxe hc
  cases b
  · rw [hz]
    clear hy hz
    go_enter Try.func14, Try.ntmps14
    go_wp2_with fail
    refine HI.out.mono ?_
    rintro e w1 ⟨rfl, rfl⟩
    go_wp2
    refine St.steadyW (n := 10) (by kernel_rfl) ([] :: [(0, 28)] :: [(1, 29)] :: [] :: [(3, 31)] :: [(4, 32)] :: [(5, 33)] :: [(2, 30), (6, 34)] :: [(0, 28)] :: [(7, 35), (8, 36)] :: []) (some 28 :: some 29 :: some 30 :: some 31 :: some 32 :: some 33 :: some 34 :: some 35 :: some 36 :: none :: []) (by kernel_rfl) 9 (0 :: 0 :: 0 :: 0 :: 0 :: 0 :: 0 :: 0 :: 0 :: 1 :: []) (by kernel_rfl) rfl (by decide) ((St.eqT ?c6_0x2) :: (St.eqT ?c6_1x2) :: (St.eqT ?c6_2x2) :: (St.eqT ?c6_3x2) :: (St.eqT ?c6_4x2) :: (St.eqT ?c6_5x2) :: (St.eqT ?c6_6x2) :: (St.eqT ?c6_7x2) :: (St.eqT ?c6_8x2) :: (St.eqT undef) :: []) rfl (by rfl) (fun w' => Drawn0 w1 w') (fun w w' => w = w') (fun _ _ => True) (fun w' => ∃ nq, w' = ((w1.drewN nq).setCell ⟨g, n, none⟩ (.int .i64 (x - x / 32)))) (fun w w' => w = w') ?hst ?h0 ?hB ?hC ?hop ?hend
    case hop =>
      refine ⟨?_, ?_, ?_, ?_, ?_, ?_, ?_, ?_, ?_, ?_, trivial⟩
      · intro w hB
        simp only [St.withD]
        refine St.ob_value (v := ?_) (w' := w) (by rfl) ?_ ⟨rfl, ?_⟩
        rotate_left
        · go_simp
          with_reducible rfl
        · rfl
      · intro w hB; rintro _ ⟨_, rfl⟩
        simp only [St.withD, List.nil_append, List.cons_append, Act.put, List.setIfInBounds_toArray, List.set_cons_zero, List.set_cons_succ]
        refine St.ob_value (v := ?_) (w' := w) (by rfl) ?_ ⟨rfl, ?_⟩
        rotate_left
        · go_simp
          with_reducible rfl
        · rfl
      · intro w hB; rintro _ ⟨_, rfl⟩
        simp only [St.withD, List.nil_append, List.cons_append, Act.put, List.setIfInBounds_toArray, List.set_cons_zero, List.set_cons_succ]
        have c0 : w.cell? ⟨g, n, none⟩ = some (.int .i64 x) := by obtain ⟨⟨nq, rfl⟩⟩ := hB; exact HC.out
        refine St.ob_value (v := ?_) (w' := w) (by rfl) ?_ ⟨rfl, ?_⟩
        rotate_left
        · go_simp
          with_reducible rfl
        · rfl
      · intro w hB
        simp only [St.withD]
        refine St.ob_value (v := ?_) (w' := w) (by rfl) ?_ ⟨rfl, ?_⟩
        rotate_left
        · go_simp
          with_reducible rfl
        · rfl
      · intro w hB; rintro _ ⟨_, rfl⟩
        simp only [St.withD, List.nil_append, List.cons_append, Act.put, List.setIfInBounds_toArray, List.set_cons_zero, List.set_cons_succ]
        refine St.ob_value (v := ?_) (w' := w) (by rfl) ?_ ⟨rfl, ?_⟩
        rotate_left
        · go_simp
          with_reducible rfl
        · rfl
      · intro w hB; rintro _ ⟨_, rfl⟩
        simp only [St.withD, List.nil_append, List.cons_append, Act.put, List.setIfInBounds_toArray, List.set_cons_zero, List.set_cons_succ]
        have c0 : w.cell? ⟨g, n, none⟩ = some (.int .i64 x) := by obtain ⟨⟨nq, rfl⟩⟩ := hB; exact HC.out
        refine St.ob_value (v := ?_) (w' := w) (by rfl) ?_ ⟨rfl, ?_⟩
        rotate_left
        · go_simp
          with_reducible rfl
        · rfl
      · intro w hB; rintro _ ⟨_, rfl⟩
        simp only [St.withD, List.nil_append, List.cons_append, Act.put, List.setIfInBounds_toArray, List.set_cons_zero, List.set_cons_succ]
        refine St.ob_value (v := ?_) (w' := w) (by rfl) ?_ ⟨rfl, ?_⟩
        rotate_left
        · go_simp
          with_reducible rfl
        · rfl
      · intro w hB; rintro _ ⟨_, rfl⟩ _ ⟨_, rfl⟩
        simp only [St.withD, List.nil_append, List.cons_append, Act.put, List.setIfInBounds_toArray, List.set_cons_zero, List.set_cons_succ]
        refine St.ob_value (v := ?_) (w' := w) (by rfl) ?_ ⟨rfl, ?_⟩
        rotate_left
        · go_simp
          with_reducible rfl
        · rfl
      · intro w hB; rintro _ ⟨_, rfl⟩
        simp only [St.withD, List.nil_append, List.cons_append, Act.put, List.setIfInBounds_toArray, List.set_cons_zero, List.set_cons_succ]
        refine St.ob_value (v := ?_) (w' := w) (by rfl) ?_ ⟨rfl, ?_⟩
        rotate_left
        · go_simp
          with_reducible rfl
        · rfl
      · intro w hB; rintro _ ⟨_, rfl⟩ _ ⟨_, rfl⟩
        simp only [St.withD, List.nil_append, List.cons_append, Act.put, List.setIfInBounds_toArray, List.set_cons_zero, List.set_cons_succ]
        obtain ⟨⟨nq, rfl⟩⟩ := hB
        have f2 : (w1.drewN nq).frozen? ⟨g, n, none⟩ = false := HB.out.free _
        have c0 : w1.cell? ⟨g, n, none⟩ = some (.int .i64 x) := HC.out
        refine St.ob_skip (w' := ((w1.drewN nq).setCell ⟨g, n, none⟩ (.int .i64 (x - x / 32)))) (by rfl) ?_ ⟨⟨trivial, nq, rfl⟩, rfl⟩
        have hw2 : IntKind.i64.wrap (x - x / 32) = x - x / 32 := by rw [IntKind.wrap_i64]; omega
        go_simp
        try rfl
    case hst => exact ⟨St.eqT_st, St.eqT_st, St.eqT_st, St.eqT_st, St.eqT_st, St.eqT_st, St.eqT_st, St.eqT_st, St.eqT_st, St.eqT_st, trivial⟩
    case h0 => exact Drawn0.step (Drawn0.refl _) 1
    case hB => exact fun w w' h e => e ▸ h
    case hC => (intro w w' h e; subst e; exact h)
    case hend =>
      intro w hB
      rintro _ rfl _ rfl _ rfl _ rfl _ rfl _ rfl _ rfl _ rfl _ rfl _ rfl
      simp only [List.map_cons, List.map_nil, List.nil_append, List.cons_append, List.getD_cons_zero, List.getD_cons_succ, Act.put, List.setIfInBounds_toArray, List.set_cons_zero, List.set_cons_succ]
      rw [St.withE_nil]
      obtain ⟨nq, rfl⟩ := hB
      have HV : Aside0 (Blk ((w1.drewN nq).setCell ⟨g, n, none⟩ (.int .i64 (x - x / 32))) g 66 (Value.int .i64) (c.set n (x - x / 32)) ∧ Ch (fun i => i = g) w1 ((w1.drewN nq).setCell ⟨g, n, none⟩ (.int .i64 (x - x / 32)))) := ⟨HB.out.put n (x - x / 32), ((Ch.refl _ _).drewN nq).set rfl⟩
      generalize ((w1.drewN nq).setCell ⟨g, n, none⟩ (.int .i64 (x - x / 32))) = V at HV ⊢
      go_wp2
      go_ret
      exact ⟨rfl, HV.out.1, HV.out.2⟩
  · rw [hy]
    clear hy hz
    go_enter Try.func14, Try.ntmps14
    go_wp2_with fail
    refine HI.out.mono ?_
    rintro e w1 ⟨rfl, rfl⟩
    go_wp2
    refine St.steadyW (n := 11) (by kernel_rfl) ([] :: [(0, 18)] :: [(1, 19)] :: [] :: [(3, 21)] :: [(4, 22)] :: [(5, 23)] :: [(6, 24)] :: [(2, 20), (7, 25)] :: [(0, 18)] :: [(8, 26), (9, 27)] :: []) (some 18 :: some 19 :: some 20 :: some 21 :: some 22 :: some 23 :: some 24 :: some 25 :: some 26 :: some 27 :: none :: []) (by kernel_rfl) 10 (0 :: 0 :: 0 :: 0 :: 0 :: 0 :: 0 :: 0 :: 0 :: 0 :: 1 :: []) (by kernel_rfl) rfl (by decide) ((St.eqT ?c5_0) :: (St.eqT ?c5_1) :: (St.eqT ?c5_2) :: (St.eqT ?c5_3) :: (St.eqT ?c5_4) :: (St.eqT ?c5_5) :: (St.eqT ?c5_6) :: (St.eqT ?c5_7) :: (St.eqT ?c5_8) :: (St.eqT ?c5_9) :: (St.eqT undef) :: []) rfl (by rfl) (fun w' => Drawn0 w1 w') (fun w w' => w = w') (fun _ _ => True) (fun w' => ∃ nq, w' = ((w1.drewN nq).setCell ⟨g, n, none⟩ (.int .i64 (x + (4096 - x) / 32)))) (fun w w' => w = w') ?hst ?h0 ?hB ?hC ?hop ?hend
    case hop =>
      refine ⟨?_, ?_, ?_, ?_, ?_, ?_, ?_, ?_, ?_, ?_, ?_, trivial⟩
      · intro w hB
        simp only [St.withD]
        refine St.ob_value (v := ?_) (w' := w) (by rfl) ?_ ⟨rfl, ?_⟩
        rotate_left
        · go_simp
          with_reducible rfl
        · rfl
      · intro w hB; rintro _ ⟨_, rfl⟩
        simp only [St.withD, List.nil_append, List.cons_append, Act.put, List.setIfInBounds_toArray, List.set_cons_zero, List.set_cons_succ]
        refine St.ob_value (v := ?_) (w' := w) (by rfl) ?_ ⟨rfl, ?_⟩
        rotate_left
        · go_simp
          with_reducible rfl
        · rfl
      · intro w hB; rintro _ ⟨_, rfl⟩
        simp only [St.withD, List.nil_append, List.cons_append, Act.put, List.setIfInBounds_toArray, List.set_cons_zero, List.set_cons_succ]
        have c0 : w.cell? ⟨g, n, none⟩ = some (.int .i64 x) := by obtain ⟨⟨nq, rfl⟩⟩ := hB; exact HC.out
        refine St.ob_value (v := ?_) (w' := w) (by rfl) ?_ ⟨rfl, ?_⟩
        rotate_left
        · go_simp
          with_reducible rfl
        · rfl
      · intro w hB
        simp only [St.withD]
        refine St.ob_value (v := ?_) (w' := w) (by rfl) ?_ ⟨rfl, ?_⟩
        rotate_left
        · go_simp
          with_reducible rfl
        · rfl
      · intro w hB; rintro _ ⟨_, rfl⟩
        simp only [St.withD, List.nil_append, List.cons_append, Act.put, List.setIfInBounds_toArray, List.set_cons_zero, List.set_cons_succ]
        refine St.ob_value (v := ?_) (w' := w) (by rfl) ?_ ⟨rfl, ?_⟩
        rotate_left
        · go_simp
          with_reducible rfl
        · rfl
      · intro w hB; rintro _ ⟨_, rfl⟩
        simp only [St.withD, List.nil_append, List.cons_append, Act.put, List.setIfInBounds_toArray, List.set_cons_zero, List.set_cons_succ]
        have c0 : w.cell? ⟨g, n, none⟩ = some (.int .i64 x) := by obtain ⟨⟨nq, rfl⟩⟩ := hB; exact HC.out
        refine St.ob_value (v := ?_) (w' := w) (by rfl) ?_ ⟨rfl, ?_⟩
        rotate_left
        · go_simp
          with_reducible rfl
        · rfl
      · intro w hB; rintro _ ⟨_, rfl⟩
        simp only [St.withD, List.nil_append, List.cons_append, Act.put, List.setIfInBounds_toArray, List.set_cons_zero, List.set_cons_succ]
        refine St.ob_value (v := ?_) (w' := w) (by rfl) ?_ ⟨rfl, ?_⟩
        rotate_left
        · go_simp
          with_reducible rfl
        · rfl
      · intro w hB; rintro _ ⟨_, rfl⟩
        simp only [St.withD, List.nil_append, List.cons_append, Act.put, List.setIfInBounds_toArray, List.set_cons_zero, List.set_cons_succ]
        refine St.ob_value (v := ?_) (w' := w) (by rfl) ?_ ⟨rfl, ?_⟩
        rotate_left
        · go_simp
          with_reducible rfl
        · rfl
      · intro w hB; rintro _ ⟨_, rfl⟩ _ ⟨_, rfl⟩
        simp only [St.withD, List.nil_append, List.cons_append, Act.put, List.setIfInBounds_toArray, List.set_cons_zero, List.set_cons_succ]
        refine St.ob_value (v := ?_) (w' := w) (by rfl) ?_ ⟨rfl, ?_⟩
        rotate_left
        · go_simp
          with_reducible rfl
        · rfl
      · intro w hB; rintro _ ⟨_, rfl⟩
        simp only [St.withD, List.nil_append, List.cons_append, Act.put, List.setIfInBounds_toArray, List.set_cons_zero, List.set_cons_succ]
        refine St.ob_value (v := ?_) (w' := w) (by rfl) ?_ ⟨rfl, ?_⟩
        rotate_left
        · go_simp
          with_reducible rfl
        · rfl
      · intro w hB; rintro _ ⟨_, rfl⟩ _ ⟨_, rfl⟩
        simp only [St.withD, List.nil_append, List.cons_append, Act.put, List.setIfInBounds_toArray, List.set_cons_zero, List.set_cons_succ]
        obtain ⟨⟨nq, rfl⟩⟩ := hB
        have f2 : (w1.drewN nq).frozen? ⟨g, n, none⟩ = false := HB.out.free _
        have c0 : w1.cell? ⟨g, n, none⟩ = some (.int .i64 x) := HC.out
        refine St.ob_skip (w' := ((w1.drewN nq).setCell ⟨g, n, none⟩ (.int .i64 (x + (4096 - x) / 32)))) (by rfl) ?_ ⟨⟨trivial, nq, rfl⟩, rfl⟩
        have hw1 : IntKind.i64.wrap (4096 - x) = 4096 - x := by rw [IntKind.wrap_i64]; omega
        have hw2 : IntKind.i64.wrap (x + (4096 - x) / 32) = x + (4096 - x) / 32 := by rw [IntKind.wrap_i64]; omega
        go_simp
        try rfl
    case hst => exact ⟨St.eqT_st, St.eqT_st, St.eqT_st, St.eqT_st, St.eqT_st, St.eqT_st, St.eqT_st, St.eqT_st, St.eqT_st, St.eqT_st, St.eqT_st, trivial⟩
    case h0 => exact Drawn0.step (Drawn0.refl _) 1
    case hB => exact fun w w' h e => e ▸ h
    case hC => (intro w w' h e; subst e; exact h)
    case hend =>
      intro w hB
      rintro _ rfl _ rfl _ rfl _ rfl _ rfl _ rfl _ rfl _ rfl _ rfl _ rfl _ rfl
      simp only [List.map_cons, List.map_nil, List.nil_append, List.cons_append, List.getD_cons_zero, List.getD_cons_succ, Act.put, List.setIfInBounds_toArray, List.set_cons_zero, List.set_cons_succ]
      rw [St.withE_nil]
      obtain ⟨nq, rfl⟩ := hB
      have HV : Aside0 (Blk ((w1.drewN nq).setCell ⟨g, n, none⟩ (.int .i64 (x + (4096 - x) / 32))) g 66 (Value.int .i64) (c.set n (x + (4096 - x) / 32)) ∧ Ch (fun i => i = g) w1 ((w1.drewN nq).setCell ⟨g, n, none⟩ (.int .i64 (x + (4096 - x) / 32)))) := ⟨HB.out.put n (x + (4096 - x) / 32), ((Ch.refl _ _).drewN nq).set rfl⟩
      generalize ((w1.drewN nq).setCell ⟨g, n, none⟩ (.int .i64 (x + (4096 - x) / 32))) = V at HV ⊢
      go_wp2
      go_ret
      exact ⟨rfl, HV.out.1, HV.out.2⟩
end Go.Proofs.Ytfijbhacobjjgae
