/- The walk of awake: it answers true. -/
import Derived.Test.YtfijbhacobjjgabPaceRef
import Derived.Test.YtfijbhacobjjgabPaceC
namespace Go.Proofs.Ytfijbhacobjjgab
open Go.RowKit Go.Proofs.YtfijbhacobjjgabW.PrintWords Go.Proofs.YtfijbhacobjjgabW.PrintLast Go.Proofs.YtfijbhacobjjgabW.PrintMore Go.Proofs.Ytfijbhacobjjgab.Fr
set_option linter.unusedVariables false
set_option linter.unusedSimpArgs false

open Go.Proofs.Ytfijbhacobjjgab.Pl
attribute [local go_sem] max2_int min2_int max_two min_two
theorem Pl_one : ∀ {r : List Int} {l : Int}, Pl.Ends [1, 9, 3] ([0, 0, 0], 7) (r, l) → r = [1, 3, 3] := fun h => (Prod.mk.inj (h.one (⟨by decide, 3, by decide⟩ : Pl.Ends [1, 9, 3] ([0, 0, 0], 7) ([1, 3, 3], 0)))).1
set_option maxRecDepth 100000 in
set_option maxHeartbeats 1000000 in
theorem awake_any (w : World) : Calls Try.prog 6 #[] w fun e w' => e = .returned (.bool true) ∧ Below w.heap.size w w' := by
  have HB := Aside0.mk (Below.refl w.heap.size w)
  go_enter Try.func6, Try.ntmps6
  go_wp2_with fail
  refine (new_any 2 5 _).mono ?_
  rintro e w1 ⟨g, rfl, hb, hbel, hg⟩
  rw [show bring 2 0 1048576 = 2 by decide, show bring 5 1 1048576 = 5 by decide] at hb
  have HK : Aside0 (BucketAt w1 g 2 5 5 ∧ Below w.heap.size w w1 ∧ w.heap.size ≤ g) := ⟨hb, hbel, hg⟩
  clear hb hbel hg HB
  go_wp2_with fail
  refine (take_yes g 2 5 5 5 _ HK.out.1 (by decide) (by decide) (by decide)).mono ?_
  rintro e w2 ⟨rfl, hb, hc⟩
  have HK2 : Aside0 (BucketAt w2 g 2 5 0 ∧ Below w.heap.size w w2 ∧ w.heap.size ≤ g) := ⟨hb, Ch.onto HK.out.2.1 hc HK.out.2.1.size (fun i e => e ▸ HK.out.2.2), HK.out.2.2⟩
  clear hb hc HK
  go_wp2_with fail
  refine (take_no g 2 5 0 1 _ HK2.out.1 (.inr (by decide))).mono ?_
  rintro e w3 ⟨rfl, rfl⟩
  go_wp2_with fail
  refine (wait_any g 2 5 0 3 _ HK2.out.1 (by decide) (by decide) (by decide) (by decide) (by decide)).mono ?_
  rintro e w4 ⟨rfl, hd⟩
  rw [show waitV 2 5 0 3 = (2, true) by decide]
  have HK3 : Aside0 (BucketAt w4 g 2 5 0 ∧ Below w.heap.size w w4 ∧ w.heap.size ≤ g) := ⟨blk_below HK2.out.1 hd.below, below_step HK2.out.2.1 hd.below, HK2.out.2.2⟩
  clear hd HK2
  go_wp2_with fail
  have HL : Aside0 (Blk (w4.alloc (.cells #[.int .i64 1, .int .i64 9, .int .i64 3] 3)) w4.heap.size 3 (Value.int .i64) [1, 9, 3]) := ⟨Blk.lit w4 3 (Value.int .i64) [1, 9, 3]⟩
  have HK4 : Aside0 (BucketAt (w4.alloc (.cells #[.int .i64 1, .int .i64 9, .int .i64 3] 3)) g 2 5 0 ∧ Below w.heap.size w (w4.alloc (.cells #[.int .i64 1, .int .i64 9, .int .i64 3] 3)) ∧ w.heap.size ≤ g) := ⟨blk_below HK3.out.1 (below_alloc (Below.refl _ _) _), below_alloc HK3.out.2.1 _, HK3.out.2.2⟩
  clear HK3
  generalize w4.alloc (.cells #[.int .i64 1, .int .i64 9, .int .i64 3] 3) = W at HL HK4 ⊢
  generalize w4.heap.size = gl at HL ⊢
  have hgW := blk_lt HK4.out.1
  refine (share_any (some ⟨gl, 0, none⟩) 3 [1, 9, 3] 7 W (HL.out.reads (by decide)) (by decide) (by decide)).mono ?_
  rintro e w5 ⟨v, r, rfl, hrow, hbel, hsh⟩
  obtain ⟨l5, hends⟩ := hsh.ends
  obtain rfl := Pl_one hends
  have HK5 : Aside0 (BucketAt w5 g 2 5 0 ∧ Below w.heap.size w w5 ∧ w.heap.size ≤ g) := ⟨blk_below HK4.out.1 hbel, below_step HK4.out.2.1 hbel, HK4.out.2.2⟩
  obtain ⟨g5, c5, rfl, hg5, hl5, _, _⟩ := Kd.R_form hrow (by decide)
  have HROW : Aside0 (Kd.R (Kd.int .i64) 3 w5 W.heap.size (fun _ => True) (.slice (some ⟨g5, 0, none⟩) 3 c5) [1, 3, 3]) := ⟨hrow⟩
  clear hrow hbel hsh hends HK4
  have HGL : Aside0 (g5 ≠ g ∧ g5 < w5.heap.size) := ⟨by omega, hl5⟩
  clear hg5 hl5 hgW
  go_wp2_with fail
  refine (tick_any g 2 5 0 1 1 (by decide) _ HK5.out.1 (by decide) (by decide) (by decide) (by decide)).mono ?_
  rintro e w6 ⟨rfl, hb, hc⟩
  rw [show mn (0 + 2 * 1) 5 = 2 by decide]
  have hblk := fun i => World.cell?_of_block (w := w5) (w' := w6) (a := ⟨g5, i, none⟩) (hc.block g5 HGL.out.2 (fun e => HGL.out.1 e))
  have c0 : w6.cell? ⟨g5, 0, none⟩ = some (.int .i64 1) := (hblk 0).trans (Kd.R_cell (0 : Int) HROW.out 0 (by decide) (by decide)).1
  have c1 : w6.cell? ⟨g5, 1, none⟩ = some (.int .i64 3) := (hblk 1).trans (Kd.R_cell (0 : Int) HROW.out 1 (by decide) (by decide)).1
  have c2 : w6.cell? ⟨g5, 2, none⟩ = some (.int .i64 3) := (hblk 2).trans (Kd.R_cell (0 : Int) HROW.out 2 (by decide) (by decide)).1
  have HBL : Aside0 (Below w.heap.size w w6) := ⟨Ch.onto HK5.out.2.1 hc HK5.out.2.1.size (fun i e => e ▸ HK5.out.2.2)⟩
  clear hblk hb hc
  go_wp2
  go_ret
  exact ⟨rfl, HBL.out⟩
end Go.Proofs.Ytfijbhacobjjgab
