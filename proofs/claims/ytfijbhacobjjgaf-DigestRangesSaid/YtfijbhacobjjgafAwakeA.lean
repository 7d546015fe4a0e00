/- The check that all is awake. -/
import Derived.Test.YtfijbhacobjjgafProg
import Derived.Test.YtfijbhacobjjgafVals
import Derived.Test.YtfijbhacobjjgafWLast
import Derived.Test.YtfijbhacobjjgafWMore
import Derived.RegionTactic
import Derived.ChangeAlike
import Derived.BigRegion
import Derived.WalkLawsBesides
import Derived.WalkSpells
import Derived.Deep.LoopGhost
import Derived.Deep.QuietTactic
import Derived.BigQuiet
import Derived.OwnWalk
import Derived.Test.YtfijbhacobjjgafSmallA
import Derived.ChangeKeysEq
namespace Go.Proofs.Ytfijbhacobjjgaf
open Go.RowKit Go.Proofs.YtfijbhacobjjgafW.PrintWords Go.Proofs.YtfijbhacobjjgafW.PrintLast Go.Proofs.YtfijbhacobjjgafW.PrintMore Go.Proofs.Ytfijbhacobjjgaf.Fr
set_option linter.unusedVariables false
set_option linter.unusedSimpArgs false
attribute [local go_sem] max2_int min2_int max_two min_two

open Pl
theorem part_at (w : World) (xs : Array Value) (i : Nat) (x : Int) (h : xs[i]? = some (.int .i64 x)) : (part 3 xs i).run Try.prog w = .ok (.int .i64 x) w := run_part_plain w (by kernel_rfl) h
theorem eqP (d : Nat) (w : World) (a b c e : Int) : (Op.equalIn (d + 2) 32 (.agg #[.int .i64 a, .int .i64 b]) (.agg #[.int .i64 c, .int .i64 e])).run Try.prog w = .ok (a == c && b == e) w := by
  obtain ⟨i, hi, hz⟩ := Option.map_eq_some_iff.1 info3
  have hc : Try.prog.cellsOf 3 = 1 := by kernel_rfl
  rw [run_equalIn_array (P := Try.prog) w (d + 1) _ _ Try.underlying32 hi, hc, show List.range 2 = [0, 1] from rfl]
  have p0 := part_at w #[.int .i64 a, .int .i64 b] 0 a rfl
  have p1 := part_at w #[.int .i64 a, .int .i64 b] 1 b rfl
  have q0 := part_at w #[.int .i64 c, .int .i64 e] 0 c rfl
  have q1 := part_at w #[.int .i64 c, .int .i64 e] 1 e rfl
  have r0 := run_equalIn_int (P := Try.prog) w d 3 .i64 .i64 a c Try.underlying3
  have r1 := run_equalIn_int (P := Try.prog) w d 3 .i64 .i64 b e Try.underlying3
  simp only [Op.eqItems, Sem.run_bind, Nat.zero_mul, Nat.one_mul, p0, q0, r0, p1, q1, r1, Result.andThen_ok]
  by_cases h : a = c
  · subst h
    by_cases h2 : b = e
    · subst h2; simp [Op.eqItems, p1, q1, r1]
    · simp [h2, Op.eqItems, p1, q1, r1]
  · simp [h, Op.eqItems]
def j235 : List (Int × Int) := [(2, 4), (5, 6)]
theorem join235 : ([2, 3, 5] : List Int).foldl stp [] = j235 := by decide
theorem fnT4 : fnT [sa, sb, sc, sd] [sa, sb, sx, sd] 4 = ([2], 5) := by
  unfold fnT
  rw [if_neg (by decide)]
  exact fnd4
theorem rd4 (w : World) (g : Nat) (a b c d : ByteArray) (h : w.heap[g]? = some (.cells #[.string a, .string b, .string c, .string d] 9 (0, 0))) (ha : a.size ≤ 30) (hb : b.size ≤ 30) (hc : c.size ≤ 30) (hd : d.size ≤ 30) : LI w (some ⟨g, 0, none⟩) 4 4 [a, b, c, d] := by
  refine ⟨⟨rfl, by decide, Nat.le_refl _, by decide, fun i hi => ?_, fun s hs => ?_⟩, fun ad e _ => by cases e; exact blk_lt h⟩
  · refine ⟨_, rfl, ?_⟩
    rw [Go.Proofs.YtfijbhacobjjgafW.PrintWords.add_plain, blk_cell h]
    match i, hi with
    | 0, _ => rfl
    | 1, _ => rfl
    | 2, _ => rfl
    | 3, _ => rfl
  · simp only [List.mem_cons, List.not_mem_nil, or_false] at hs
    rcases hs with rfl | rfl | rfl | rfl <;> omega
set_option maxRecDepth 100000 in
theorem awake_any (w : World) : Calls Try.prog 6 #[] w fun e w' => e = .returned (.bool true) ∧ Below w.heap.size w w' := by
  go_enter Try.func6, Try.ntmps6
  go_wp2_with fail
  have hal : Below w.heap.size w ((w.alloc (.cells #[.string sa, .string sb, .string sc, .string sd] 9)).alloc (.cells #[.string sa, .string sb, .string sx, .string sd] 9)) := below_alloc (below_alloc (Below.refl _ _) _) _
  have hA : LI ((w.alloc (.cells #[.string sa, .string sb, .string sc, .string sd] 9)).alloc (.cells #[.string sa, .string sb, .string sx, .string sd] 9)) (some ⟨w.heap.size, 0, none⟩) 4 4 [sa, sb, sc, sd] := rd4 _ _ _ _ _ _ (blk_below (blk_new w _) (below_alloc (Below.refl _ _) _)) (by decide) (by decide) (by decide) (by decide)
  have hB : LI ((w.alloc (.cells #[.string sa, .string sb, .string sc, .string sd] 9)).alloc (.cells #[.string sa, .string sb, .string sx, .string sd] 9)) (some ⟨w.heap.size + 1, 0, none⟩) 4 4 [sa, sb, sx, sd] := by
    have e : (w.alloc (.cells #[.string sa, .string sb, .string sc, .string sd] 9)).heap.size = w.heap.size + 1 := by simp
    rw [← e]
    exact rd4 _ _ _ _ _ _ (blk_new _ _) (by decide) (by decide) (by decide) (by decide)
  have hF := find_any _ 4 4 [sa, sb, sc, sd] _ 4 4 [sa, sb, sx, sd] _ hA hB
  rw [show min 4 4 = 4 from rfl, fnT4] at hF
  have hF2 : Calls Try.prog 8 #[.slice (some ⟨w.heap.size, 0, none⟩) 4 4, .slice (some ⟨w.heap.size + 1, 0, none⟩) 4 4] ((w.alloc (.cells #[.string sa, .string sb, .string sc, .string sd] 9)).alloc (.cells #[.string sa, .string sb, .string sx, .string sd] 9)) (FindPost [2] 5 ((w.alloc (.cells #[.string sa, .string sb, .string sc, .string sd] 9)).alloc (.cells #[.string sa, .string sb, .string sx, .string sd] 9))) := hF
  refine hF2.mono ?_
  rintro e w1 ⟨fv, rfl, hr1, hb1⟩
  obtain ⟨A1, c1, rfl, hc1, hcell⟩ := own_nums hr1
  obtain ⟨g1, rfl, hk0⟩ := hcell 0 (by decide)
  have hg1 : g1 < w1.heap.size := own_lt hr1 g1 rfl
  have HB1 : Aside0 (Below w.heap.size w w1 ∧ w1.cell? ⟨g1, 0, none⟩ = some (.int .i64 2)) := ⟨below_step hal hb1, hk0⟩
  have h1c : 1 ≤ c1 := hc1
  have hlen1 : ([2] : List Int).length = 1 := rfl
  clear hal hA hB hF hF2 hr1 hb1 hc1 hcell hk0
  rw [hlen1]
  go_wp2_with fail
  have HRD : Aside0 (RdK .i64 (w1.alloc (.cells #[.int .i64 2, .int .i64 3, .int .i64 5] 3)) (some ⟨w1.heap.size, 0, none⟩) [2, 3, 5]) := ⟨own_rdk ((Blk.lit w1 3 (Value.int .i64) [2, 3, 5]).own (base := 0) (Nat.zero_le _) (by decide))⟩
  have hJ := join_any (some ⟨w1.heap.size, 0, none⟩) 3 3 [2, 3, 5] rfl (by decide) _ HRD.out (by decide)
  rw [join235] at hJ
  refine hJ.mono ?_
  rintro e w2 ⟨v2, rfl, hp2, hb2⟩
  obtain ⟨A2, c2, rfl, hc2, hc22, hcl2⟩ := hp2.shape
  obtain ⟨g2, rfl, hg2, k0, k1⟩ := hcl2 0 (by decide)
  have hkk0 : w2.cell? ⟨g2, 0, none⟩ = some (.int .i64 2) := k0
  have hkk1 : w2.cell? ⟨g2, 1, none⟩ = some (.int .i64 4) := k1
  have hal1 : Below w1.heap.size w1 (w1.alloc (.cells #[.int .i64 2, .int .i64 3, .int .i64 5] 3)) := below_alloc (Below.refl _ _) _
  have hb12 := below_step hal1 hb2
  have hkk2 : w2.cell? ⟨g1, 0, none⟩ = some (.int .i64 2) := (hb12.cell (p := ⟨g1, 0, none⟩) hg1).trans HB1.out.2
  have HB2 : Aside0 (Below w.heap.size w w2) := ⟨below_step HB1.out.1 hb12⟩
  have hlen2 : j235.length = 2 := rfl
  rw [hlen2]
  have hlc : 2 ≤ c2 := hc2
  clear hp2 hb2 hc2 hcl2 k0 k1 hal1 hb12 hJ HRD HB1 hc22
  have hEQ : (Op.equalIn 10000 32 (.agg #[.int .i64 2, .int .i64 4]) (.agg #[.int .i64 2, .int .i64 4])).run Try.prog w2 = .ok true w2 := eqP 9998 w2 2 4 2 4
  go_wp2
  go_ret
  exact ⟨rfl, HB2.out⟩
end Go.Proofs.Ytfijbhacobjjgaf
