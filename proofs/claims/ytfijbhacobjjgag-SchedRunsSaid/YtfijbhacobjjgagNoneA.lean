/- Nobody's schedule; Peek; the document's bring. -/
import Derived.Test.YtfijbhacobjjgagAwakeA
namespace Go.Proofs.Ytfijbhacobjjgag
open Go.RowKit Go.Proofs.YtfijbhacobjjgagW.PrintWords Go.Proofs.YtfijbhacobjjgagW.PrintLast Go.Proofs.YtfijbhacobjjgagW.PrintMore Go.Proofs.Ytfijbhacobjjgag.Fr
set_option linter.unusedVariables false
set_option linter.unusedSimpArgs false
attribute [local go_sem] max2_int min2_int max_two min_two

open Pl Hp
theorem len_none (w : World) : Calls Try.prog 11 #[.pointer none] w fun e w' => e = .returned (.int .i64 0) ∧ Below w.heap.size w w' := by
  go_enter Try.func11, Try.ntmps11
  go_wp2
  go_ret
  exact ⟨rfl, Below.refl _ _⟩
theorem now_none (w : World) : Calls Try.prog 10 #[.pointer none] w fun e w' => e = .returned (.int .i64 0) ∧ Below w.heap.size w w' := by
  go_enter Try.func10, Try.ntmps10
  go_wp2
  go_ret
  exact ⟨rfl, Below.refl _ _⟩
theorem drop_none (n : Int) (w : World) : Calls Try.prog 17 #[.pointer none, .int .i64 n] w fun e w' => e = .returned (.int .i64 0) ∧ Below w.heap.size w w' := by
  go_enter Try.func17, Try.ntmps17
  go_wp2
  go_ret
  exact ⟨rfl, Below.refl _ _⟩
theorem until_none (n : Int) (w : World) : Calls Try.prog 15 #[.pointer none, .int .i64 n] w fun e w' => e = .returned (.slice none 0 0) ∧ Below w.heap.size w w' := by
  go_enter Try.func15, Try.ntmps15
  go_wp2
  go_ret
  exact ⟨rfl, Below.refl _ _⟩
theorem peek_nobody (w : World) : Calls Try.prog 19 #[.pointer none] w fun e w' => e = .returned (.tuple #[.int .i64 0, .bool false]) ∧ Below w.heap.size w w' := by
  go_enter Try.func19, Try.ntmps19
  have HB := Aside0.mk (Below.refl w.heap.size w)
  go_wp2_with ((go_at_call 11; refine (len_none _).mono ?_; rintro e w1 ⟨rfl, hb⟩; have zz_HB := Aside0.mk (below_step HB.out hb); clear HB; have HB := zz_HB; clear zz_HB; clear hb))
  go_ret2
  exact ⟨rfl, HB.out⟩
theorem bring_any (n lo hi : Int) (hlo : lo ≤ hi) (w : World) : Calls Try.prog 25 #[.int .i64 n, .int .i64 lo, .int .i64 hi] w fun e w' => e = .returned (.int .i64 (brI n lo hi)) ∧ w = w' := by
  have E : Aside0 (brI n lo hi = min (max n lo) hi) := ⟨rfl⟩
  go_enter Try.func25, Try.ntmps25
  go_wp2
  all_goals
    go_ret
    rw [E.out]
    have key : ∀ r, r = min (max n lo) hi → Ending.returned (.int .i64 r) = Ending.returned (.int .i64 (min (max n lo) hi)) := by rintro _ rfl; rfl
    exact ⟨key _ (by omega), rfl⟩
section
variable {B s : Nat} {w w1 : World} {v v1 : Value} {now ord : Int} {l l1 : List E}
theorem peek_none (h : SC B w s v now ord []) : Calls Try.prog 19 #[.pointer (some ⟨s, 0, none⟩)] w fun e w' => e = .returned (.tuple #[.int .i64 0, .bool false]) ∧ w = w' := by
  have H := Aside0.mk h
  clear h
  go_enter Try.func19, Try.ntmps19
  go_wp2_with fail
  refine (len_any H.out).mono ?_
  rintro e w1 ⟨rfl, rfl⟩
  go_wp2
  go_ret2
  exact ⟨rfl, rfl⟩
theorem peek_any (h : SC B w s v now ord l) (hl : 0 < l.length) (hm : l.length ≤ 10000) : Calls Try.prog 19 #[.pointer (some ⟨s, 0, none⟩)] w fun e w' => e = .returned (.tuple #[.int .i64 (l.getD 0 ez).t, .bool true]) ∧ w = w' := by
  obtain ⟨g, c, rfl⟩ : ∃ g c, v = .slice (some ⟨g, 0, none⟩) l.length c := by
    rcases h.row.2 with ⟨_, h0⟩ | ⟨g, cap, cur, rfl, _⟩
    · omega
    · exact ⟨g, cap, rfl⟩
  have H := Aside0.mk h
  have c0 : w.cell? ⟨s, 0, none⟩ = some (.slice (some ⟨g, 0, none⟩) l.length c) := (blk_cell h.box 0).trans rfl
  have hr : HR B w g c l := h.row
  obtain ⟨e0, _⟩ := hr.cells 0 hl
  rw [Nat.zero_mul] at e0
  obtain ⟨y, hy⟩ : ∃ y, (l.getD 0 ez).t = y := ⟨_, rfl⟩
  rw [hy] at e0 ⊢
  have hq : ((l.length : Int) == 0) = false := beq_eq_false_iff_ne.2 (by omega)
  have hlI : (0 : Int) < l.length := by omega
  clear h hr hy
  go_enter Try.func19, Try.ntmps19
  go_wp2_with fail
  refine (len_any H.out).mono ?_
  rintro e w1 ⟨rfl, rfl⟩
  go_wp2
  go_ret2
  exact ⟨rfl, rfl⟩
end
end Go.Proofs.Ytfijbhacobjjgag
