/- The last entry is taken off; the heap's Pop. -/
import Derived.Test.YtfijbhacobjjgahDownA
namespace Go.Proofs.Ytfijbhacobjjgah
open Go.RowKit Go.Proofs.YtfijbhacobjjgahW.PrintWords Go.Proofs.YtfijbhacobjjgahW.PrintLast Go.Proofs.YtfijbhacobjjgahW.PrintMore Go.Proofs.Ytfijbhacobjjgah.Fr
set_option linter.unusedVariables false
set_option linter.unusedSimpArgs false
attribute [local go_sem] max2_int min2_int max_two min_two

open Pl Hp
theorem ents_take (l : List E) (k : Nat) (hk : k ≤ l.length) : ents (l.take k) = (ents l).take (k * 2) := by
  have h1 : ents l = ents (l.take k) ++ ents (l.drop k) := by
    have : ents (l.take k ++ l.drop k) = ents (l.take k) ++ ents (l.drop k) := by unfold ents; rw [List.flatMap_append]
    rw [← this, List.take_append_drop]
  rw [h1, List.take_left' (by rw [ents_len, List.length_take]; omega)]
theorem HR.take {B : Nat} {w : World} {g c : Nat} {l : List E} (h : HR B w g c l) (k : Nat) (hk : k ≤ l.length) : HR B w g c (l.take k) := by
  obtain ⟨cur, hh, hb, hn, hs, ht, hc⟩ := h.block
  have hl : (l.take k).length = k := by rw [List.length_take]; omega
  refine ⟨by rw [ents_len], .inr ⟨g, c, cur, rfl, hb, hh, by rw [hl]; omega, hc, hs, ?_⟩⟩
  rw [hl, ents_take l k hk, ← ht, List.take_take, Nat.min_eq_left (by omega)]
def PopPost (B s g c m : Nat) (t : TypeId) (l : List E) (W : World) (e : Ending) (w' : World) : Prop := e = .returned (.iface 47 (.agg (enc (l.getD m ez)).toArray)) ∧ w'.heap[s]? = some (.cells #[.slice (some ⟨g, 0, none⟩) m c] t (0, 0)) ∧ HR B w' g c (l.take m) ∧ Ch (fun k => k = s) W w'
theorem pop_any (B s g c m : Nat) (t : TypeId) (l : List E) (w0 : World) (hb : w0.heap[s]? = some (.cells #[.slice (some ⟨g, 0, none⟩) (m + 1) c] t (0, 0))) (hr : HR B w0 g c l) (hne : s ≠ g) (hl : l.length = m + 1) (hm : m ≤ 10000) :
    Calls Try.prog 43 #[.pointer (some ⟨s, 0, none⟩)] w0 (PopPost B s g c m t l w0) := by
  have HB := Aside0.mk (And.intro hb (And.intro hr (And.intro hne hl)))
  have c0 : w0.cell? ⟨s, 0, none⟩ = some (.slice (some ⟨g, 0, none⟩) (m + 1) c) := (blk_cell hb 0).trans rfl
  have f0 := blk_frozen hb 0
  obtain ⟨e0, e1⟩ := hr.cells m (by omega)
  obtain ⟨cur, hcur, _, hcn, _, _, _⟩ := hr.block
  have hmc : (m : Int) ≤ c := by omega
  have hm0 : (0 : Int) ≤ m := by omega
  have hw1 : IntKind.i64.wrap ((m : Int) + 1 - 1) = m := by rw [IntKind.wrap_i64]; omega
  have hw2 : ((m : Int) + 1 - 1) = m := by omega
  have hm1 : (m : Int) < (m : Int) + 1 := by omega
  have hlt := blk_lt hb
  have hgl := blk_lt hcur
  obtain ⟨y, hy⟩ : ∃ y, l.getD m ez = y := ⟨_, rfl⟩
  rw [hy] at e0 e1
  have HY := Aside0.mk hy
  clear hb hr hne hl hcur hcn hy
  go_enter Try.func43, Try.ntmps43
  go_wp2
  go_ret
  have h1 := blk_put HB.out.1 0 (.slice (some ⟨g, 0, none⟩) m c) rfl
  have h2 : HR B (w0.setCell ⟨s, 0, none⟩ (.slice (some ⟨g, 0, none⟩) m c)) g c (l.take m) := own_setCell (HB.out.2.1.take m (by have := HB.out.2.2.2; omega)) (fun e => HB.out.2.2.1 (by cases e; rfl)) _
  exact ⟨by rw [HY.out]; rfl, blk_below h1 (below_alloc (Below.refl _ _) _), h2.below (below_alloc (Below.refl _ _) _), ((Ch.refl (fun k => k = s) w0).set rfl).alloc _⟩
def HPopPost (B s g c m : Nat) (t : TypeId) (l : List E) (W : World) (e : Ending) (w' : World) : Prop := e = .returned (.iface 47 (.agg (enc ((down ilt ez (swp ez l 0 m) 0 m).getD m ez)).toArray)) ∧ w'.heap[s]? = some (.cells #[.slice (some ⟨g, 0, none⟩) m c] t (0, 0)) ∧ HR B w' g c (pop ilt ez l) ∧ Ch (fun k => k = s ∨ k = g) W w'
theorem hpop_any (B s g c m : Nat) (t : TypeId) (l : List E) (w0 : World) (hb : w0.heap[s]? = some (.cells #[.slice (some ⟨g, 0, none⟩) (m + 1) c] t (0, 0))) (hr : HR B w0 g c l) (hne : s ≠ g) (hl : l.length = m + 1) (hm : m ≤ 10000) :
    Calls Try.prog 24 #[PI s] w0 (HPopPost B s g c m t l w0) := by
  have HB := Aside0.mk (And.intro hb (And.intro hr (And.intro hne hl)))
  have c0 : w0.cell? ⟨s, 0, none⟩ = some (.slice (some ⟨g, 0, none⟩) (m + 1) c) := (blk_cell hb 0).trans rfl
  have hm1 := met_len s _ w0 c0
  have hm2 := met_swap s _ w0 c0
  have hm3 := fun w => met_pop s w
  have hw1 : IntKind.i64.wrap ((m : Int) + 1 - 1) = m := by rw [IntKind.wrap_i64]; omega
  have hw2 : ((m : Int) + 1 - 1) = m := by omega
  clear hb hr hne hl c0
  go_enter Try.func24, Try.ntmps24
  go_wp2_with ((go_at_call 23; refine (hlen_any _ _ _ _).mono ?_; rintro e w2 ⟨rfl, rfl⟩; skip))
  have hsw := swap_any B g c 0 m l w0 HB.out.2.1 (by have := HB.out.2.2.2; omega) (by have := HB.out.2.2.2; omega) (by have := HB.out.2.2.2; omega)
  rw [HB.out.2.2.2] at hsw
  refine hsw.mono ?_
  rintro e w3 ⟨rfl, hr3, hc3⟩
  have H3 : Aside0 (HH B w3 s g c (swp ez l 0 m)) := ⟨⟨by rw [swp_len, HB.out.2.2.2]; exact (blk_cell (hc3.blk HB.out.1 HB.out.2.2.1) 0).trans rfl, hr3, HB.out.2.2.1, Nat.lt_of_lt_of_le (blk_lt HB.out.1) hc3.size⟩⟩
  have HC3 := Aside0.mk hc3
  clear hsw hr3 hc3 hm1 hm2
  go_wp2_with fail
  have hdn := down_any B s g c m w3 (swp ez l 0 m) 0 H3.out (by rw [swp_len]; have := HB.out.2.2.2; omega) (by rw [swp_len]; have := HB.out.2.2.2; omega) (by omega)
  refine hdn.mono ?_
  rintro e w4 ⟨⟨r, rfl⟩, hh4, hc4⟩
  have hlen : (down ilt ez (swp ez l 0 m) 0 m).length = m + 1 := by
    rw [(down_perm ilt ez m m 0 (swp ez l 0 m) (by omega) (by rw [swp_len]; have := HB.out.2.2.2; omega)).2.1, swp_len]; exact HB.out.2.2.2
  have H4 := Aside0.mk (And.intro hh4 (And.intro hc4 hlen))
  clear hdn hh4 hc4 hlen
  go_wp2_with fail
  refine (pop_any B s g c m t _ w4 (H4.out.2.1.blk (HC3.out.blk HB.out.1 HB.out.2.2.1) HB.out.2.2.1) H4.out.1.row HB.out.2.2.1 H4.out.2.2 hm).mono ?_
  rintro e w5 ⟨rfl, hb5, hr5, hc5⟩
  have H5 := Aside0.mk (And.intro hb5 (And.intro hr5 hc5))
  clear hb5 hr5 hc5 hm3
  go_wp2
  go_ret
  refine ⟨rfl, H5.out.1, ?_, ?_⟩
  · unfold pop
    rw [HB.out.2.2.2, Nat.add_sub_cancel]
    exact H5.out.2.1
  · exact ((HC3.out.mono fun i _ e => .inr e).trans (H4.out.2.1.mono fun i _ e => .inr e)).trans (H5.out.2.2.mono fun i _ e => .inl e)
end Go.Proofs.Ytfijbhacobjjgah
