/- The contract of the halves. -/
import Derived.Test.YtfijbhacobjjgafProg
import Derived.Test.YtfijbhacobjjgafVals
import Derived.Test.YtfijbhacobjjgafWLast
import Derived.Test.YtfijbhacobjjgafWMore
import Derived.RegionTactic
import Derived.ChangeAlike
import Derived.BigRegion
import Derived.WalkLawsBesides
import Derived.WalkSpells
import Derived.Deep.LoopGhost
import Derived.Deep.QuietTactic
import Derived.BigQuiet
import Derived.OwnWalk
import Derived.Test.YtfijbhacobjjgafOfA
namespace Go.Proofs.Ytfijbhacobjjgaf
open Go.RowKit Go.Proofs.YtfijbhacobjjgafW.PrintWords Go.Proofs.YtfijbhacobjjgafW.PrintLast Go.Proofs.YtfijbhacobjjgafW.PrintMore Go.Proofs.Ytfijbhacobjjgaf.Fr
set_option linter.unusedVariables false
set_option linter.unusedSimpArgs false
attribute [local go_sem] max2_int min2_int max_two min_two

open Pl
def HvPost (l : List ByteArray) (f m t : Nat) (w : World) (e : Ending) (w' : World) : Prop := ∃ g, e = .returned (.slice (some ⟨g, 0, none⟩) 2 2) ∧ w.heap.size ≤ g ∧ w'.heap[g]? = some (.cells #[.int .i64 (f : Int), .int .i64 (m : Int), .int .u64 (root lf pr (sub l f (m - f))), .int .i64 (m : Int), .int .i64 (t : Int), .int .u64 (root lf pr (sub l m (t - m)))] 37 (0, 0)) ∧ Below w.heap.size w w'
set_option maxRecDepth 100000 in
set_option maxHeartbeats 1000000 in
theorem halves_in (l : List ByteArray) (A : Option Addr) (n c f t : Nat) (x : Int) (hft : f + 2 ≤ t) (htn : t ≤ n) (w : World) (hL : LS w A n c l) : Calls Try.prog 14 #[.slice A n c, .agg #[.int .i64 (f : Int), .int .i64 (t : Int), .int .u64 x]] w (HvPost l f (f + half (t - f)) t w) := by
  have hn := hL.le
  have hh1 := half_lt (n := t - f) (by omega)
  have hh2 := half_pos (t - f)
  have HHF : Aside0 (∀ w : World, Calls Try.prog 23 #[.int .i64 ((t : Int) - f)] w fun e w' => e = .returned (.int .i64 (half (t - f))) ∧ w = w') := ⟨fun w => by
    have := half_any (t - f) (by omega) (by omega) w
    rw [show ((t - f : Nat) : Int) = (t : Int) - f by omega] at this
    exact this.mono fun _ _ h => ⟨h.1, h.2.symm⟩⟩
  unfold HvPost
  obtain ⟨h, hh⟩ : ∃ h, half (t - f) = h := ⟨_, rfl⟩
  rw [hh] at hh1 hh2 HHF ⊢
  have HO1 : Aside0 (∀ w1 : World, Below w.heap.size w w1 → Calls Try.prog 12 #[.slice A n c, .int .i64 (f : Int), .int .i64 (t : Int)] w1 fun e w' => e = .returned (.tuple #[rv l f t, .bool true]) ∧ Below w1.heap.size w1 w') := ⟨fun w1 hb => of_in l A n c f t (by omega) htn w1 (hL.below hb)⟩
  have HO2 : Aside0 (∀ w1 : World, Below w.heap.size w w1 → Calls Try.prog 12 #[.slice A n c, .int .i64 (f : Int), .int .i64 ((f : Int) + h)] w1 fun e w' => e = .returned (.tuple #[rv l f (f + h), .bool true]) ∧ Below w1.heap.size w1 w') := ⟨fun w1 hb => of_in l A n c f (f + h) (by omega) (by omega) w1 (hL.below hb)⟩
  have HO3 : Aside0 (∀ w1 : World, Below w.heap.size w w1 → Calls Try.prog 12 #[.slice A n c, .int .i64 ((f : Int) + h), .int .i64 (t : Int)] w1 fun e w' => e = .returned (.tuple #[rv l (f + h) t, .bool true]) ∧ Below w1.heap.size w1 w') := ⟨fun w1 hb => of_in l A n c (f + h) t (by omega) (by omega) w1 (hL.below hb)⟩
  unfold rv at HO1 HO2 HO3
  obtain ⟨r1, hr1⟩ : ∃ r1, root lf pr (sub l f (t - f)) = r1 := ⟨_, rfl⟩
  obtain ⟨r2, hr2⟩ : ∃ r2, root lf pr (sub l f (f + h - f)) = r2 := ⟨_, rfl⟩
  obtain ⟨r3, hr3⟩ : ∃ r3, root lf pr (sub l (f + h) (t - (f + h))) = r3 := ⟨_, rfl⟩
  rw [hr1] at HO1
  rw [hr2] at HO2 ⊢
  rw [hr3] at HO3 ⊢
  have HX : Aside0 (∀ w1 : World, Below (w.alloc (.cells #[.int .i64 (f : Int), .int .i64 (t : Int), .int .u64 x] 37)).heap.size (w.alloc (.cells #[.int .i64 (f : Int), .int .i64 (t : Int), .int .u64 x] 37)) w1 → w1.cell? ⟨w.heap.size, 0, none⟩ = some (.int .i64 (f : Int)) ∧ w1.cell? ⟨w.heap.size, 1, none⟩ = some (.int .i64 (t : Int)) ∧ Below w.heap.size w w1) := ⟨fun w1 hb => by
    have hx := blk_below (blk_new w (.cells #[.int .i64 (f : Int), .int .i64 (t : Int), .int .u64 x] 37)) hb
    exact ⟨(blk_cell hx 0).trans rfl, (blk_cell hx 1).trans rfl, below_step (below_alloc (Below.refl _ _) _) hb⟩⟩
  have d0 : (f : Int) + 2 ≤ t := by omega
  have d1 : (t : Int) ≤ 60 := by omega
  have d2 : ¬ (t : Int) - f < 2 := by omega
  have d3 : (h : Int) ≤ 60 := by omega
  have d4 : (0 : Int) ≤ (t : Int) - f := by omega
  have HMC : Aside0 ((f : Int) + h = ((f + h : Nat) : Int)) := ⟨by omega⟩
  clear hh hr1 hr2 hr3 hL hh1 hh2
  go_enter Try.func14, Try.ntmps14
  go_wp2_with fail
  have HW : Aside0 (Below (w.alloc (.cells #[.int .i64 (f : Int), .int .i64 (t : Int), .int .u64 x] 37)).heap.size (w.alloc (.cells #[.int .i64 (f : Int), .int .i64 (t : Int), .int .u64 x] 37)) (w.alloc (.cells #[.int .i64 (f : Int), .int .i64 (t : Int), .int .u64 x] 37))) := ⟨Below.refl _ _⟩
  refine (HO1.out _ (HX.out _ HW.out).2.2).mono ?_
  rintro e w2 ⟨rfl, hb2⟩
  have HB2 : Aside0 (Below (w.alloc (.cells #[.int .i64 (f : Int), .int .i64 (t : Int), .int .u64 x] 37)).heap.size (w.alloc (.cells #[.int .i64 (f : Int), .int .i64 (t : Int), .int .u64 x] 37)) w2) := ⟨hb2⟩
  obtain ⟨c0, c1, _⟩ := HX.out w2 HB2.out
  have hz2 : w.heap.size < w2.heap.size := by have := HB2.out.size; simp at this; omega
  clear hb2 HW
  go_wp2
  have HB3 : Aside0 (Below (w.alloc (.cells #[.int .i64 (f : Int), .int .i64 (t : Int), .int .u64 x] 37)).heap.size (w.alloc (.cells #[.int .i64 (f : Int), .int .i64 (t : Int), .int .u64 x] 37)) (w2.alloc (.cells #[.int .i64 (f : Int), .int .i64 (t : Int), .int .u64 r1] 37))) := ⟨below_alloc HB2.out _⟩
  generalize w2.alloc (.cells #[.int .i64 (f : Int), .int .i64 (t : Int), .int .u64 r1] 37) = w3 at HB3 ⊢
  clear c0 c1
  obtain ⟨c0, c1, _⟩ := HX.out w3 HB3.out
  have e1 : IntKind.i64.wrap ((t : Int) - f) = (t : Int) - f := by rw [IntKind.wrap_i64]; omega
  have e2 : IntKind.i64.wrap ((f : Int) + h) = (f : Int) + h := by rw [IntKind.wrap_i64]; omega
  go_quiet ((go_at_call 23; exact q_same (HHF.out _)))
  clear e1 e2
  have HB4 : Aside0 (Below (w.alloc (.cells #[.int .i64 (f : Int), .int .i64 (t : Int), .int .u64 x] 37)).heap.size (w.alloc (.cells #[.int .i64 (f : Int), .int .i64 (t : Int), .int .u64 x] 37)) (w3.drewN nq)) := ⟨pw_below_drewN HB3.out nq⟩
  generalize w3.drewN nq = w4 at HB4 ⊢
  clear c0 c1
  obtain ⟨c0, c1, _⟩ := HX.out w4 HB4.out
  go_wp2_with fail
  refine (HO2.out _ (HX.out _ HB4.out).2.2).mono ?_
  rintro e w5 ⟨rfl, hb5⟩
  have HB5 : Aside0 (Below (w.alloc (.cells #[.int .i64 (f : Int), .int .i64 (t : Int), .int .u64 x] 37)).heap.size (w.alloc (.cells #[.int .i64 (f : Int), .int .i64 (t : Int), .int .u64 x] 37)) w5) := ⟨below_step HB4.out hb5⟩
  clear c0 c1 hb5
  obtain ⟨c0, c1, _⟩ := HX.out w5 HB5.out
  have hz5 : w.heap.size < w5.heap.size := by have := HB5.out.size; simp at this; omega
  go_wp2_with fail
  refine (HO3.out _ (HX.out _ (below_alloc HB5.out _)).2.2).mono ?_
  rintro e w6 ⟨rfl, hb6⟩
  have hx8 := blk_below (blk_new w5 (.cells #[.int .i64 (f : Int), .int .i64 ((f + h : Nat) : Int), .int .u64 r2] 37)) hb6
  have k0 : w6.cell? ⟨w5.heap.size, 0, none⟩ = some (.int .i64 (f : Int)) := (blk_cell hx8 0).trans rfl
  have k1 : w6.cell? ⟨w5.heap.size, 1, none⟩ = some (.int .i64 ((f + h : Nat) : Int)) := (blk_cell hx8 1).trans rfl
  have k2 : w6.cell? ⟨w5.heap.size, 2, none⟩ = some (.int .u64 r2) := (blk_cell hx8 2).trans rfl
  have hz6 : w5.heap.size < w6.heap.size := by have := hb6.size; simp at this; omega
  have HB6 : Aside0 (Below (w.alloc (.cells #[.int .i64 (f : Int), .int .i64 (t : Int), .int .u64 x] 37)).heap.size (w.alloc (.cells #[.int .i64 (f : Int), .int .i64 (t : Int), .int .u64 x] 37)) w6) := ⟨below_step (below_alloc HB5.out _) hb6⟩
  have hz7 : w.heap.size < w6.heap.size := by have := HB6.out.size; simp at this; omega
  clear c0 c1 hb6 hx8
  go_wp2
  go_ret
  refine ⟨_, rfl, ?_, ?_, ?_⟩
  · have := HB6.out.size
    simp at this ⊢
    omega
  · rw [← HMC.out]
    have hnw := blk_new (w6.alloc (.cells #[.int .i64 ((f : Int) + h), .int .i64 (t : Int), .int .u64 r3] 37)) (.cells #[.int .i64 (f : Int), .int .i64 ((f : Int) + h), .int .u64 r2, .int .i64 ((f : Int) + h), .int .i64 (t : Int), .int .u64 r3] 37)
    have e : (w6.alloc (.cells #[.int .i64 ((f : Int) + h), .int .i64 (t : Int), .int .u64 r3] 37)).heap.size = w6.heap.size + 1 := by simp
    rw [e] at hnw
    exact hnw
  · exact below_alloc (below_alloc (below_step (below_alloc (Below.refl _ _) _) HB6.out) _) _
set_option maxRecDepth 100000 in
theorem halves_out (l : List ByteArray) (A : Option Addr) (n c : Nat) (f t x : Int) (w : World) (hL : LS w A n c l) (hwf : (Lit.int .i64 f).wf = true ∧ (Lit.int .i64 t).wf = true) (h : f < 0 ∨ t < f + 2 ∨ (n : Int) < t) : Calls Try.prog 14 #[.slice A n c, .agg #[.int .i64 f, .int .i64 t, .int .u64 x]] w fun e w' => e = .returned (.slice none 0 0) ∧ Below w.heap.size w w' := by
  have hn := hL.le
  by_cases hin : 0 ≤ f ∧ f ≤ t ∧ t ≤ n
  · obtain ⟨h0, h1, h2⟩ := hin
    obtain ⟨f, rfl⟩ := Int.eq_ofNat_of_zero_le h0
    obtain ⟨t, rfl⟩ := Int.eq_ofNat_of_zero_le (show 0 ≤ t by omega)
    have HO : Aside0 (∀ w1 : World, Below w.heap.size w w1 → Calls Try.prog 12 #[.slice A n c, .int .i64 (f : Int), .int .i64 (t : Int)] w1 fun e w' => e = .returned (.tuple #[rv l f t, .bool true]) ∧ Below w1.heap.size w1 w') := ⟨fun w1 hb => of_in l A n c f t (by omega) (by omega) w1 (hL.below hb)⟩
    unfold rv at HO
    obtain ⟨r1, hr1⟩ : ∃ r1, root lf pr (sub l f (t - f)) = r1 := ⟨_, rfl⟩
    rw [hr1] at HO
    have d1 : (t : Int) - f < 2 := by omega
    have d2 : (0 : Int) ≤ (t : Int) - f := by omega
    clear hr1 h hL hwf
    go_enter Try.func14, Try.ntmps14
    go_wp2_with fail
    refine (HO.out _ (below_alloc (Below.refl _ _) _)).mono ?_
    rintro e w2 ⟨rfl, hb2⟩
    have hx := blk_below (blk_new w (.cells #[.int .i64 (f : Int), .int .i64 (t : Int), .int .u64 x] 37)) hb2
    have c0 : w2.cell? ⟨w.heap.size, 0, none⟩ = some (.int .i64 (f : Int)) := (blk_cell hx 0).trans rfl
    have c1 : w2.cell? ⟨w.heap.size, 1, none⟩ = some (.int .i64 (t : Int)) := (blk_cell hx 1).trans rfl
    have hz2 : w.heap.size < w2.heap.size := by have := hb2.size; simp at this; omega
    have HB : Aside0 (Below w.heap.size w w2) := ⟨below_step (below_alloc (Below.refl _ _) _) hb2⟩
    clear hx hb2
    go_wp2
    go_ret
    exact ⟨rfl, below_alloc HB.out _⟩
  · have HO : Aside0 (∀ w1 : World, Calls Try.prog 12 #[.slice A n c, .int .i64 f, .int .i64 t] w1 fun e w' => e = .returned (.tuple #[rz, .bool false]) ∧ Below w1.heap.size w1 w') := ⟨fun w1 => of_out A n c f t hn hL.cap (by omega) w1⟩
    unfold rz at HO
    clear h hL hwf hin
    go_enter Try.func14, Try.ntmps14
    go_wp2_with fail
    have hal : Below w.heap.size w (w.alloc (.cells #[.int .i64 f, .int .i64 t, .int .u64 x] 37)) := below_alloc (Below.refl _ _) _
    refine (HO.out _).mono ?_
    rintro e w2 ⟨rfl, hb2⟩
    have hx := blk_below (blk_new w (.cells #[.int .i64 f, .int .i64 t, .int .u64 x] 37)) hb2
    have c0 : w2.cell? ⟨w.heap.size, 0, none⟩ = some (.int .i64 f) := (blk_cell hx 0).trans rfl
    have c1 : w2.cell? ⟨w.heap.size, 1, none⟩ = some (.int .i64 t) := (blk_cell hx 1).trans rfl
    have hz2 : w.heap.size < w2.heap.size := by have := hb2.size; simp at this; omega
    have HB : Aside0 (Below w.heap.size w w2) := ⟨below_step hal hb2⟩
    clear hx hb2 hal
    go_wp2
    go_ret
    exact ⟨rfl, below_alloc HB.out _⟩
end Go.Proofs.Ytfijbhacobjjgaf
