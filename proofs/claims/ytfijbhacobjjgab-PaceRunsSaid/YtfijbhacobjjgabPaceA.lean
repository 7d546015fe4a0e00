/- The contracts of pace's small functions. -/
import Derived.Test.YtfijbhacobjjgabProg
import Derived.Test.YtfijbhacobjjgabFrame
import Derived.Test.YtfijbhacobjjgabWLast
import Derived.Test.YtfijbhacobjjgabWMore
import Derived.RegionTactic
import Derived.ChangeAlike
import Derived.BigRegion
import Derived.WalkLawsBesides
import Derived.Deep.LoopGhost
import Derived.OwnWalk
namespace Go.Proofs.Ytfijbhacobjjgab
open Go.RowKit Go.Proofs.YtfijbhacobjjgabW.PrintWords Go.Proofs.YtfijbhacobjjgabW.PrintLast Go.Proofs.YtfijbhacobjjgabW.PrintMore Go.Proofs.Ytfijbhacobjjgab.Fr
set_option linter.unusedVariables false
set_option linter.unusedSimpArgs false

attribute [local go_sem] max2_int min2_int max_two min_two
def bring (n lo hi : Int) : Int := mn (mx n lo) hi
theorem brought_any (n lo hi : Int) (w : World) : Calls Try.prog 18 #[.int .i64 n, .int .i64 lo, .int .i64 hi] w fun e w' => e = .returned (.int .i64 (bring n lo hi)) ∧ w = w' := by
  by_cases h1 : n < lo
  · by_cases h2 : hi < lo
    · have E : Aside0 (bring n lo hi = hi) := ⟨by unfold bring mn mx; rw [if_pos h1, if_pos h2]⟩
      go_enter Try.func18, Try.ntmps18
      go_wp2
      go_ret
      rw [E.out]
      exact ⟨rfl, rfl⟩
    · have E : Aside0 (bring n lo hi = lo) := ⟨by unfold bring mn mx; rw [if_pos h1, if_neg h2]⟩
      go_enter Try.func18, Try.ntmps18
      go_wp2
      go_ret
      rw [E.out]
      exact ⟨rfl, rfl⟩
  · by_cases h2 : hi < n
    · have E : Aside0 (bring n lo hi = hi) := ⟨by unfold bring mn mx; rw [if_neg h1, if_pos h2]⟩
      go_enter Try.func18, Try.ntmps18
      go_wp2
      go_ret
      rw [E.out]
      exact ⟨rfl, rfl⟩
    · have E : Aside0 (bring n lo hi = n) := ⟨by unfold bring mn mx; rw [if_neg h1, if_neg h2]⟩
      go_enter Try.func18, Try.ntmps18
      go_wp2
      go_ret
      rw [E.out]
      exact ⟨rfl, rfl⟩
theorem has_none (w : World) : Calls Try.prog 17 #[.pointer none] w fun e w' => e = .returned (.int .i64 0) ∧ w = w' := by
  go_enter Try.func17, Try.ntmps17
  go_wp2
  go_ret
  exact ⟨rfl, rfl⟩
def BucketAt (w : World) (g : Nat) (r b h : Int) : Prop := w.heap[g]? = some (.cells #[.int .i64 r, .int .i64 b, .int .i64 h] 43 (0, 0))
theorem has_any (g : Nat) (r b h : Int) (w : World) (hb : BucketAt w g r b h) : Calls Try.prog 17 #[.pointer (some ⟨g, 0, none⟩)] w fun e w' => e = .returned (.int .i64 h) ∧ w = w' := by
  have c2 : w.cell? ⟨g, 2, none⟩ = some (.int .i64 h) := (blk_cell hb 2).trans rfl
  clear hb
  go_enter Try.func17, Try.ntmps17
  go_wp2
  go_ret
  exact ⟨rfl, rfl⟩
theorem new_any (r b : Int) (w : World) : Calls Try.prog 9 #[.int .i64 r, .int .i64 b] w fun e w' => ∃ g, e = .returned (.pointer (some ⟨g, 0, none⟩)) ∧ BucketAt w' g (bring r 0 1048576) (bring b 1 1048576) (bring b 1 1048576) ∧ Below w.heap.size w w' ∧ w.heap.size ≤ g := by
  go_enter Try.func9, Try.ntmps9
  go_wp2_with fail
  refine (brought_any r 0 1048576 _).mono ?_
  rintro e w1 ⟨rfl, rfl⟩
  obtain ⟨x, hx⟩ : ∃ x, bring r 0 1048576 = x := ⟨_, rfl⟩
  have HX := Aside0.mk hx
  rw [hx]
  clear hx
  go_wp2_with fail
  refine (brought_any b 1 1048576 _).mono ?_
  rintro e w2 ⟨rfl, rfl⟩
  obtain ⟨y, hy⟩ : ∃ y, bring b 1 1048576 = y := ⟨_, rfl⟩
  have HY := Aside0.mk hy
  rw [hy]
  clear hy
  go_wp2
  go_ret
  exact ⟨_, rfl, by rw [HX.out, HY.out]; exact blk_new w _, below_alloc (Below.refl _ _) _, Nat.le_refl _⟩
theorem take_no (g : Nat) (r b h n : Int) (w : World) (hb : BucketAt w g r b h) (hn : n < 0 ∨ h < n) : Calls Try.prog 11 #[.pointer (some ⟨g, 0, none⟩), .int .i64 n] w fun e w' => e = .returned (.bool false) ∧ w = w' := by
  have c2 : w.cell? ⟨g, 2, none⟩ = some (.int .i64 h) := (blk_cell hb 2).trans rfl
  clear hb
  by_cases h1 : n < 0
  · clear hn
    go_enter Try.func11, Try.ntmps11
    go_wp2
    go_ret
    exact ⟨rfl, rfl⟩
  · have h2 : h < n := hn.resolve_left h1
    have h3 : 0 ≤ n := by omega
    clear hn
    go_enter Try.func11, Try.ntmps11
    go_wp2
    go_ret
    exact ⟨rfl, rfl⟩
theorem take_none (n : Int) (w : World) : Calls Try.prog 11 #[.pointer none, .int .i64 n] w fun e w' => e = .returned (.bool false) ∧ w = w' := by
  go_enter Try.func11, Try.ntmps11
  go_wp2
  go_ret
  exact ⟨rfl, rfl⟩
theorem take_yes (g : Nat) (r b h n : Int) (w : World) (hb : BucketAt w g r b h) (h0 : 0 ≤ n) (h1 : n ≤ h) (h2 : h ≤ 1048576) : Calls Try.prog 11 #[.pointer (some ⟨g, 0, none⟩), .int .i64 n] w fun e w' => e = .returned (.bool true) ∧ BucketAt w' g r b (h - n) ∧ Ch (fun i => i = g) w w' := by
  have c2 : w.cell? ⟨g, 2, none⟩ = some (.int .i64 h) := (blk_cell hb 2).trans rfl
  have f2 := blk_frozen hb 2
  have HB := Aside0.mk hb
  clear hb
  go_enter Try.func11, Try.ntmps11
  go_wp2
  go_ret
  exact ⟨rfl, blk_put HB.out 2 _ rfl, (Ch.refl _ _).set rfl⟩
end Go.Proofs.Ytfijbhacobjjgab
