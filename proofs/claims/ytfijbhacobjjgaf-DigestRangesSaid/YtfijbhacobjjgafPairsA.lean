/- Rows of pairs. -/
import Derived.Test.YtfijbhacobjjgafProg
import Derived.Test.YtfijbhacobjjgafVals
import Derived.Test.YtfijbhacobjjgafWLast
import Derived.Test.YtfijbhacobjjgafWMore
import Derived.RegionTactic
import Derived.ChangeAlike
import Derived.BigRegion
import Derived.WalkLawsBesides
import Derived.WalkSpells
import Derived.Deep.LoopGhost
import Derived.Deep.QuietTactic
import Derived.BigQuiet
import Derived.OwnWalk
import Derived.Test.YtfijbhacobjjgafRefFindA
namespace Go.Proofs.Ytfijbhacobjjgaf
open Go.RowKit Go.Proofs.YtfijbhacobjjgafW.PrintWords Go.Proofs.YtfijbhacobjjgafW.PrintLast Go.Proofs.YtfijbhacobjjgafW.PrintMore Go.Proofs.Ytfijbhacobjjgaf.Fr
set_option linter.unusedVariables false
set_option linter.unusedSimpArgs false
attribute [local go_sem] max2_int min2_int max_two min_two

open Pl
theorem info32 : (Try.prog.info? 32).map (fun i => (i.zero, i.size, i.bytes)) = some (some (.agg #[.int .i64 0, .int .i64 0]), 2, 16) := by kernel_rfl
/-- One element of some cells more, behind a row of the call's own. -/
theorem ap_many {P : Program} {w : World} {t ty e : TypeId} {z : Value} {size bytes : Nat} (ht : P.underlying t = some (.slice e)) (hinfo : (P.info? e).map (fun i => (i.zero, i.size, i.bytes)) = some (some z, size, bytes)) (hz : z.cells.size = size) (hs0 : 0 < size) (hb0 : 0 < bytes)
    {base n : Nat} {v : Value} {xs ys : List Value} {k : Nat} (HO : w.ownsRow base e size v n xs) (hk : w.heap[k]? = some (.cells ys.toArray e (0, 0))) (hys : ys.length = size) (h1 : ∀ u ∈ ys, u.oneCell' = true) (hbase : base ≤ w.heap.size) (hl : (n + 1) * bytes ≤ 140737488355328) :
    ∃ v1 w1, (Builtin.append_ #[t, t] ty #[v, .slice (some ⟨k, 0, none⟩) 1 1]).run P w = .ok v1 w1 ∧ w1.ownsRow base e size v1 (n + 1) (xs ++ ys) ∧ w.grownBy w1 v.ownBlock := by
  obtain ⟨i0, hi, hzz⟩ := Option.map_eq_some_iff.1 hinfo
  simp only [Prod.mk.injEq] at hzz
  obtain ⟨hz0, hz1, hz2⟩ := hzz
  have hlen : n + 1 ≤ 140737488355328 := Nat.le_trans (Nat.le_mul_of_pos_right _ hb0) hl
  obtain ⟨v1, w1, a, b, c, _, d⟩ := run_append_own_at w base t ty e i0 z size bytes ht hi hz0 hz1 hz2 hz hs0 v n xs HO ⟨k, 0, none⟩ 1 1 ys (by rw [hys]; simp) (World.news_of_block (cs := ys.toArray) (t := e) (fr := (0, 0)) hk) h1 (by simp only [maxLen]; omega) hl hbase
  exact ⟨v1, w1, a, b, c⟩
def pcs (o : List (Int × Int)) : List Value := o.flatMap (fun p => [.int .i64 p.1, .int .i64 p.2])
theorem pcs_len (o : List (Int × Int)) : (pcs o).length = o.length * 2 := by
  induction o with
  | nil => rfl
  | cons p r ih => simp [pcs] at ih ⊢; omega
theorem pcs_snoc (o : List (Int × Int)) (p : Int × Int) : pcs (o ++ [p]) = pcs o ++ [.int .i64 p.1, .int .i64 p.2] := by simp [pcs]
theorem pcs_get0 (o : List (Int × Int)) : ∀ (k : Nat), k < o.length → (pcs o)[k * 2]? = some (.int .i64 (o.getD k (0, 0)).1) ∧ (pcs o)[k * 2 + 1]? = some (.int .i64 (o.getD k (0, 0)).2) := by
  induction o with
  | nil => intro k hk; simp at hk
  | cons p r ih =>
    intro k hk
    cases k with
    | zero => exact ⟨rfl, rfl⟩
    | succ k =>
      have := ih k (by simpa using hk)
      have e : pcs (p :: r) = .int .i64 p.1 :: .int .i64 p.2 :: pcs r := rfl
      rw [e, show (k + 1) * 2 = k * 2 + 1 + 1 by omega]
      simpa using this
/-- A row of pairs of the call's own. -/
def PR (B : Nat) (w : World) (v : Value) (o : List (Int × Int)) : Prop := w.ownsRow B 32 2 v o.length (pcs o)
section
variable {B : Nat} {w w1 : World} {v v1 : Value} {o : List (Int × Int)}
theorem PR.below (h : PR B w v o) (hb : Below w.heap.size w w1) : PR B w1 v o := (Ch.of_below (S := fun _ => False) hb).own h (fun _ _ h => h)
theorem PR.shape (h : PR B w v o) : ∃ A c, v = .slice A o.length c ∧ o.length ≤ c ∧ c ≤ 9223372036854775807 ∧ ∀ k, k < o.length → ∃ g, A = some ⟨g, 0, none⟩ ∧ B ≤ g ∧ w.cell? ⟨g, k * 2, none⟩ = some (.int .i64 (o.getD k (0, 0)).1) ∧ w.cell? ⟨g, k * 2 + 1, none⟩ = some (.int .i64 (o.getD k (0, 0)).2) := by
  rcases h.2 with ⟨rfl, h0⟩ | ⟨g, cap, cur, rfl, hb, hh, hn, hc, hs, ht⟩
  · obtain rfl : o = [] := List.eq_nil_of_length_eq_zero h0
    exact ⟨none, 0, rfl, by simp, by omega, fun k hk => by simp at hk⟩
  · refine ⟨_, cap, rfl, hn, by simpa [maxLen] using hc, fun k hk => ⟨g, rfl, hb, ?_, ?_⟩⟩
    · rw [blk_cell hh, ← Array.getElem?_toList]
      have e : (cur.toList.take (o.length * 2))[k * 2]? = (pcs o)[k * 2]? := by rw [ht]
      rw [List.getElem?_take, if_pos (by omega)] at e
      rw [e]
      exact (pcs_get0 o k hk).1
    · rw [blk_cell hh, ← Array.getElem?_toList]
      have e : (cur.toList.take (o.length * 2))[k * 2 + 1]? = (pcs o)[k * 2 + 1]? := by rw [ht]
      rw [List.getElem?_take, if_pos (by omega)] at e
      rw [e]
      exact (pcs_get0 o k hk).2
theorem pcs_set (o : List (Int × Int)) (s e x : Int) : (pcs (o ++ [(s, e)])).set (o.length * 2 + 1) (.int .i64 x) = pcs (o ++ [(s, x)]) := by
  rw [pcs_snoc, pcs_snoc, List.set_append_right _ _ (by rw [pcs_len]; omega), pcs_len, show o.length * 2 + 1 - o.length * 2 = 1 by omega]
  rfl
theorem PR.last {s e : Int} (h : PR B w v (o ++ [(s, e)])) : ∃ g c, v = .slice (some ⟨g, 0, none⟩) (o.length + 1) c ∧ B ≤ g ∧ o.length + 1 ≤ c ∧ w.cell? ⟨g, o.length * 2 + 1, none⟩ = some (.int .i64 e) ∧ (∀ i, w.frozen? ⟨g, i, none⟩ = false) ∧ ∀ x, PR B (w.setCell ⟨g, o.length * 2 + 1, none⟩ (.int .i64 x)) v (o ++ [(s, x)]) := by
  rcases h.2 with ⟨rfl, h0⟩ | ⟨g, cap, cur, rfl, hb, hh, hn, hc, hs, ht⟩
  · simp at h0
  · have hl : (o ++ [(s, e)]).length = o.length + 1 := by simp
    rw [hl] at hn ht ⊢
    refine ⟨g, cap, rfl, hb, hn, ?_, fun i => blk_frozen hh i, fun x => ?_⟩
    · rw [blk_cell hh, ← Array.getElem?_toList]
      have e1 : (cur.toList.take ((o.length + 1) * 2))[o.length * 2 + 1]? = (pcs (o ++ [(s, e)]))[o.length * 2 + 1]? := by rw [ht]
      rw [List.getElem?_take, if_pos (by omega)] at e1
      rw [e1]
      have := (pcs_get0 (o ++ [(s, e)]) o.length (by simp)).2
      rw [this]
      simp [List.getD_eq_getElem?_getD]
    · refine ⟨by rw [pcs_len], .inr ⟨g, cap, _, by simp, hb, blk_set hh _ _, by simpa using hn, hc, by simpa using hs, ?_⟩⟩
      rw [Array.toList_setIfInBounds, List.take_set, show (o ++ [(s, x)]).length * 2 = (o.length + 1) * 2 by simp, ht]
      exact pcs_set o s e x
end
end Go.Proofs.Ytfijbhacobjjgaf
