/- A schedule: its parts; Put. -/
import Derived.Test.YtfijbhacobjjgagPopA
namespace Go.Proofs.Ytfijbhacobjjgag
open Go.RowKit Go.Proofs.YtfijbhacobjjgagW.PrintWords Go.Proofs.YtfijbhacobjjgagW.PrintLast Go.Proofs.YtfijbhacobjjgagW.PrintMore Go.Proofs.Ytfijbhacobjjgag.Fr
set_option linter.unusedVariables false
set_option linter.unusedSimpArgs false
attribute [local go_sem] max2_int min2_int max_two min_two

open Pl Hp
structure SC (B : Nat) (w : World) (s : Nat) (v : Value) (now ord : Int) (l : List E) : Prop where
  box : w.heap[s]? = some (.cells #[v, .int .i64 now, .int .i64 ord] 52 (0, 0))
  row : w.ownsRow B 57 7 v l.length (ents l)
  ne : some s ≠ v.ownBlock
  lo : B ≤ s
section
variable {B s : Nat} {w w1 : World} {v v1 : Value} {now ord : Int} {l l1 : List E}
theorem SC.ch {S : Nat → Prop} (h : SC B w s v now ord l) (hc : Ch S w w1) (h1 : ¬ S s) (h2 : ∀ k, v.ownBlock = some k → ¬ S k) : SC B w1 s v now ord l := ⟨hc.blk h.box h1, hc.own h.row h2, h.ne, h.lo⟩
theorem SC.below (h : SC B w s v now ord l) (hb : Below w.heap.size w w1) : SC B w1 s v now ord l := h.ch (S := fun _ => False) (Ch.of_below hb) (fun e => e) (fun _ _ e => e)
theorem SC.slice (h : SC B w s v now ord l) : ∃ A c, v = .slice A l.length c ∧ l.length ≤ c := by
  rcases h.row.2 with ⟨rfl, h0⟩ | ⟨g, cap, cur, rfl, _, _, hn, _⟩
  · exact ⟨none, 0, by rw [h0], by omega⟩
  · exact ⟨_, _, rfl, hn⟩
def NewPost (w : World) (e : Ending) (w' : World) : Prop := ∃ s, e = .returned (.pointer (some ⟨s, 0, none⟩)) ∧ SC w.heap.size w' s (.slice none 0 0) 0 0 [] ∧ Below w.heap.size w w'
theorem new_any (w : World) : Calls Try.prog 7 #[] w (NewPost w) := by
  go_enter Try.func7, Try.ntmps7
  go_wp2
  go_ret
  exact ⟨w.heap.size, rfl, ⟨blk_new w _, own_nil _ _ _ _, by simp [Value.ownBlock], Nat.le_refl _⟩, below_alloc (Below.refl _ _) _⟩
theorem len_any (h : SC B w s v now ord l) : Calls Try.prog 11 #[.pointer (some ⟨s, 0, none⟩)] w fun e w' => e = .returned (.int .i64 l.length) ∧ w = w' := by
  obtain ⟨A, c, rfl, _⟩ := h.slice
  have c0 : w.cell? ⟨s, 0, none⟩ = some (.slice A l.length c) := (blk_cell h.box 0).trans rfl
  clear h
  go_enter Try.func11, Try.ntmps11
  go_wp2
  go_ret
  exact ⟨rfl, rfl⟩
theorem now_any (h : SC B w s v now ord l) : Calls Try.prog 10 #[.pointer (some ⟨s, 0, none⟩)] w fun e w' => e = .returned (.int .i64 now) ∧ w = w' := by
  have c0 : w.cell? ⟨s, 1, none⟩ = some (.int .i64 now) := (blk_cell h.box 1).trans rfl
  clear h
  go_enter Try.func10, Try.ntmps10
  go_wp2
  go_ret
  exact ⟨rfl, rfl⟩
def brI (n lo hi : Int) : Int := min (max n lo) hi
theorem brought_any (n lo hi : Int) (w : World) : Calls Try.prog 23 #[.int .i64 n, .int .i64 lo, .int .i64 hi] w fun e w' => e = .returned (.int .i64 (brI n lo hi)) ∧ w = w' := by
  have E : Aside0 (brI n lo hi = min (max n lo) hi) := ⟨rfl⟩
  go_enter Try.func23, Try.ntmps23
  go_wp2
  all_goals
    go_ret
    rw [E.out]
    have key : ∀ r, r = min (max n lo) hi → Ending.returned (.int .i64 r) = Ending.returned (.int .i64 (min (max n lo) hi)) := by rintro _ rfl; rfl
    exact ⟨key _ (by omega), rfl⟩
end
end Go.Proofs.Ytfijbhacobjjgag
