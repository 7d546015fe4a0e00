/- Steps in memory. -/
import Derived.Test.YtfcpjblogeofpacProg
import Derived.Test.YtfcpjblogeofpacVals
import Derived.Test.YtfcpjblogeofpacWLast
import Derived.Test.YtfcpjblogeofpacWMore
import Derived.RegionTactic
import Derived.ChangeAlike
import Derived.BigRegion
import Derived.WalkLawsBesides
import Derived.WalkSpells
import Derived.Deep.LoopGhost
import Derived.Deep.QuietTactic
import Derived.BigQuiet
import Derived.OwnWalk
import Derived.Test.YtfcpjblogeofpacExecG
import Derived.Test.YtfcpjblogeofpacNums
namespace Go.Proofs.Ytfcpjblogeofpac
open Go.RowKit Go.Proofs.YtfcpjblogeofpacW.PrintWords Go.Proofs.YtfcpjblogeofpacW.PrintLast Go.Proofs.YtfcpjblogeofpacW.PrintMore Go.Proofs.Ytfcpjblogeofpac.Fr
set_option linter.unusedVariables false
set_option linter.unusedSimpArgs false
attribute [local go_sem] max2_int min2_int max_two min_two

open Pl
/-- Steps as cells. -/
def sq : List Stp → List Value
  | [] => []
  | s :: r => .int .i64 s.1 :: .int .i64 s.2.1 :: .int .i64 s.2.2 :: sq r
theorem sq_len : ∀ l : List Stp, (sq l).length = 3 * l.length
  | [] => rfl
  | s :: r => by simp only [sq, List.length_cons, sq_len r]; omega
theorem sq_app : ∀ a b : List Stp, sq (a ++ b) = sq a ++ sq b
  | [], b => rfl
  | s :: r, b => by simp only [sq, List.cons_append, sq_app r b]
theorem sq_one : ∀ (l : List Stp), ∀ u ∈ sq l, u.oneCell' = true
  | [], u, h => by cases h
  | s :: r, u, h => by
    simp only [sq, List.mem_cons] at h
    rcases h with rfl | rfl | rfl | h
    · rfl
    · rfl
    · rfl
    · exact sq_one r u h
theorem sq_get : ∀ (l : List Stp) (i : Nat), i < l.length → (sq l)[i * 3]? = some (.int .i64 (l.getD i (0, 0, 0)).1) ∧ (sq l)[i * 3 + 1]? = some (.int .i64 (l.getD i (0, 0, 0)).2.1) ∧ (sq l)[i * 3 + 2]? = some (.int .i64 (l.getD i (0, 0, 0)).2.2)
  | [], i, h => by simp at h
  | s :: r, 0, _ => ⟨rfl, rfl, rfl⟩
  | s :: r, i + 1, h => by
    have ih := sq_get r i (by simpa using h)
    simp only [sq, Nat.succ_mul, show i * 3 + 3 = i * 3 + 2 + 1 from rfl, show i * 3 + 2 + 1 + 1 = (i * 3 + 1) + 2 + 1 from rfl, show i * 3 + 2 + 1 + 2 = (i * 3 + 2) + 2 + 1 from rfl, List.getElem?_cons_succ, List.getD_cons_succ]
    exact ih
theorem own_steps {w : World} {base n : Nat} {e : TypeId} {v : Value} {l : List Stp} (h : w.ownsRow base e 3 v n (sq l)) : ∃ A c, v = .slice A l.length c ∧ l.length ≤ c ∧ c ≤ 9223372036854775807 ∧ Steps w A l := by
  have hl : l.length = n := by have := h.1; rw [sq_len] at this; omega
  subst hl
  rcases h.2 with ⟨rfl, h0⟩ | ⟨g, cap, cur, rfl, hb, hh, hn, hc, hs, ht⟩
  · exact ⟨none, 0, by rw [h0], by omega, by omega, fun i hi => by omega⟩
  · refine ⟨_, cap, rfl, hn, by unfold maxLen at hc; omega, fun i hi => ⟨_, rfl, ?_⟩⟩
    have hg := sq_get l i hi
    rw [← ht] at hg
    simp only [List.getElem?_take] at hg
    rw [if_pos (by omega), if_pos (by omega), if_pos (by omega)] at hg
    simp only [Array.getElem?_toList] at hg
    rw [Go.Proofs.YtfcpjblogeofpacW.PrintWords.add_plain, Go.Proofs.YtfcpjblogeofpacW.PrintWords.add_plain, Go.Proofs.YtfcpjblogeofpacW.PrintWords.add_plain, blk_cell hh, blk_cell hh, blk_cell hh]
    exact hg
end Go.Proofs.Ytfcpjblogeofpac
