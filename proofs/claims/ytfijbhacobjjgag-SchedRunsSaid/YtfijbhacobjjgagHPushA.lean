/- The heap's Push. -/
import Derived.Test.YtfijbhacobjjgagPushA
namespace Go.Proofs.Ytfijbhacobjjgag
open Go.RowKit Go.Proofs.YtfijbhacobjjgagW.PrintWords Go.Proofs.YtfijbhacobjjgagW.PrintLast Go.Proofs.YtfijbhacobjjgagW.PrintMore Go.Proofs.Ytfijbhacobjjgag.Fr
set_option linter.unusedVariables false
set_option linter.unusedSimpArgs false
attribute [local go_sem] max2_int min2_int max_two min_two

open Pl Hp
theorem hlen_any (A : Option Addr) (n c : Nat) (w : World) : Calls Try.prog 45 #[.slice A n c] w fun e w' => e = .returned (.int .i64 n) ∧ w = w' := by
  go_enter Try.func45, Try.ntmps45
  go_wp2
  go_ret
  exact ⟨rfl, rfl⟩
def HPushPost (B s : Nat) (v p q : Value) (t : TypeId) (l : List E) (x : E) (W : World) (w' : World) : Prop := Ch (fun k => k = s ∨ some k = v.ownBlock) W w' ∧ ∃ g1 c1, w'.heap[s]? = some (.cells #[.slice (some ⟨g1, 0, none⟩) (l.length + 1) c1, p, q] t (0, 0)) ∧ HR B w' g1 c1 (psh elt ez l x) ∧ s ≠ g1 ∧ (some g1 = v.ownBlock ∨ W.heap.size ≤ g1)
theorem hpush_any (B s : Nat) (v p q : Value) (t : TypeId) (l : List E) (x : E) (w0 : World) (hb : w0.heap[s]? = some (.cells #[v, p, q] t (0, 0))) (hr : w0.ownsRow B 57 7 v l.length (ents l)) (hne : some s ≠ v.ownBlock) (hB : B ≤ w0.heap.size) (hl : l.length ≤ 10000) :
    Calls Try.prog 22 #[PI s, .iface 57 (.agg (enc x).toArray)] w0 fun e w' => e = .returned (.tuple #[]) ∧ HPushPost B s v p q t l x w0 w' := by
  have HB := Aside0.mk (And.intro hb (And.intro hr hne))
  have hm1 := met_push s w0
  clear hb hr hne
  go_enter Try.func22, Try.ntmps22
  go_wp2_with fail
  refine (push_any B s v p q t l x w0 HB.out.1 HB.out.2.1 HB.out.2.2 hB (by omega)).mono ?_
  rintro e w1 ⟨rfl, hc, g1, c1, y1, y2, y3, y4⟩
  have HY := Aside0.mk (And.intro hc (And.intro y1 (And.intro y2 (And.intro y3 y4))))
  have c0 : w1.cell? ⟨s, 0, none⟩ = some (.slice (some ⟨g1, 0, none⟩) (l ++ [x]).length c1) := (blk_cell y1 0).trans rfl
  have hm2 := met_len s _ w1 c0
  have hln : (l ++ [x]).length = l.length + 1 := by simp
  have HH1 : Aside0 (HH B w1 s g1 c1 (l ++ [x])) := ⟨⟨c0, y2, y3, blk_lt y1⟩⟩
  rw [hln] at hm2
  have HLN := Aside0.mk hln
  clear hc y1 y2 y3 y4 hm1 c0 hln HB hB
  have hw1 : IntKind.i64.wrap ((l.length : Int) + 1 - 1) = l.length := by rw [IntKind.wrap_i64]; omega
  have hw2 : ((l.length : Int) + 1 - 1) = l.length := by omega
  go_wp2_with ((go_at_call 45; refine (hlen_any _ _ _ _).mono ?_; rintro e w2 ⟨rfl, rfl⟩; skip))
  refine (up_any B s g1 c1 (l.length + 1) w1 (l ++ [x]) l.length HH1.out HLN.out (by omega) (by omega)).mono ?_
  rintro e w3 ⟨rfl, hh, hc3⟩
  have HZ := Aside0.mk (And.intro hh hc3)
  clear hh hc3 hm2
  go_wp2
  go_end0
  obtain ⟨hc, y1, y2, y3, y4⟩ := HY.out
  refine ⟨rfl, ?_, g1, c1, ?_, HZ.out.1.row, y3, y4⟩
  · have h1 : Ch (fun k => k = s ∨ some k = v.ownBlock ∨ w0.heap.size ≤ k) w0 w1 := hc.mono (fun i _ e => by rcases e with e | e; exact .inl e; exact .inr (.inl e))
    have h2 : Ch (fun k => k = s ∨ some k = v.ownBlock ∨ w0.heap.size ≤ k) w1 w3 := HZ.out.2.mono (fun i _ e => by subst e; rcases y4 with e | e; exact .inr (.inl e); exact .inr (.inr e))
    exact (h1.trans h2).mono (fun i hi e => by rcases e with e | e | e; exact .inl e; exact .inr e; omega)
  · rw [← HLN.out]
    exact HZ.out.2.blk y1 y3
end Go.Proofs.Ytfijbhacobjjgag
