/- Rows of entries: how they lie; one is overwritten. -/
import Derived.Test.YtfijbhacobjjgahLessA
namespace Go.Proofs.Ytfijbhacobjjgah
open Go.RowKit Go.Proofs.YtfijbhacobjjgahW.PrintWords Go.Proofs.YtfijbhacobjjgahW.PrintLast Go.Proofs.YtfijbhacobjjgahW.PrintMore Go.Proofs.Ytfijbhacobjjgah.Fr
set_option linter.unusedVariables false
set_option linter.unusedSimpArgs false
attribute [local go_sem] max2_int min2_int max_two min_two

open Pl Hp
abbrev E := It
def enc (e : E) : List Value := [.string e.t, .int .i64 e.c]
def ents (l : List E) : List Value := l.flatMap enc
def ez : E := ⟨⟨#[]⟩, 0⟩
theorem enc_len (e : E) : (enc e).length = 2 := rfl
theorem ents_len (l : List E) : (ents l).length = l.length * 2 := by
  induction l with
  | nil => rfl
  | cons e r ih => simp [ents, enc] at ih ⊢; omega
theorem ents_get (l : List E) (i j : Nat) (hi : i < l.length) (hj : j < 2) : (ents l)[i * 2 + j]? = (enc (l.getD i ez))[j]? := by
  induction l generalizing i with
  | nil => simp at hi
  | cons e r ih =>
    have hcons : ents (e :: r) = enc e ++ ents r := rfl
    cases i with
    | zero => rw [hcons, List.getElem?_append_left (by rw [enc_len]; omega)]; simp
    | succ i =>
      rw [hcons, List.getElem?_append_right (by rw [enc_len]; omega), enc_len, show (i + 1) * 2 + j - 2 = i * 2 + j by omega, ih i (by simpa using hi)]
      simp
theorem ents_set (l : List E) (i : Nat) (x : E) (hi : i < l.length) : ents (l.set i x) = (ents l).take (i * 2) ++ enc x ++ (ents l).drop (i * 2 + 2) := by
  induction l generalizing i with
  | nil => simp at hi
  | cons e r ih =>
    have hcons : ∀ e r, ents (e :: r) = enc e ++ ents r := fun _ _ => rfl
    cases i with
    | zero => rw [List.set_cons_zero, hcons, hcons]; simp [enc]
    | succ i =>
      rw [List.set_cons_succ, hcons, hcons, ih i (by simpa using hi)]
      have e1 : (i + 1) * 2 = 2 + i * 2 := by omega
      rw [e1, show 2 + i * 2 + 2 = 2 + (i * 2 + 2) by omega]
      rw [List.take_append, enc_len, List.take_of_length_le (l := enc e) (by rw [enc_len]; omega), Nat.add_sub_cancel_left]
      rw [List.drop_append, enc_len, List.drop_eq_nil_of_le (show (enc e).length ≤ 2 + (i * 2 + 2) by rw [enc_len]; omega), Nat.add_sub_cancel_left]
      simp
theorem splice_take {α : Type} (C S : List α) (o m : Nat) (h : o + S.length ≤ m) (hm : m ≤ C.length) : (C.take o ++ S ++ C.drop (o + S.length)).take m = (C.take m).take o ++ S ++ (C.take m).drop (o + S.length) := by
  rw [List.take_take, Nat.min_eq_left (by omega), List.drop_take]
  rw [List.take_append, List.take_of_length_le (l := C.take o ++ S) (by rw [List.length_append, List.length_take]; omega)]
  rw [List.length_append, List.length_take, Nat.min_eq_left (by omega)]
/-- The row of a heap, in block g. -/
def HR (B : Nat) (w : World) (g c : Nat) (l : List E) : Prop := w.ownsRow B 47 2 (.slice (some ⟨g, 0, none⟩) l.length c) l.length (ents l)
section
variable {B : Nat} {w w1 : World} {g c : Nat} {l : List E}
theorem HR.ch {S : Nat → Prop} (h : HR B w g c l) (hc : Ch S w w1) (hs : ¬ S g) : HR B w1 g c l := hc.own h (fun k e => by cases e; exact hs)
theorem HR.below (h : HR B w g c l) (hb : Below w.heap.size w w1) : HR B w1 g c l := h.ch (S := fun _ => False) (Ch.of_below hb) (fun e => e)
theorem HR.block (h : HR B w g c l) : ∃ cur, w.heap[g]? = some (.cells cur 47 (0, 0)) ∧ B ≤ g ∧ l.length ≤ c ∧ cur.size = c * 2 ∧ cur.toList.take (l.length * 2) = ents l ∧ c ≤ maxLen := by
  obtain ⟨h1, h2 | ⟨g', cap, cur, e1, hb, hh, hn, hc, hs, ht⟩⟩ := h
  · cases h2.1
  · cases e1
    exact ⟨cur, hh, hb, hn, hs, ht, hc⟩
theorem HR.cells (h : HR B w g c l) (i : Nat) (hi : i < l.length) : w.cell? ⟨g, i * 2, none⟩ = some (.string (l.getD i ez).t) ∧ w.cell? ⟨g, i * 2 + 1, none⟩ = some (.int .i64 (l.getD i ez).c) := by
  obtain ⟨cur, hh, _, hn, hs, ht, _⟩ := h.block
  have hget : ∀ j, j < 2 → w.cell? ⟨g, i * 2 + j, none⟩ = (enc (l.getD i ez))[j]? := fun j hj => by
    rw [blk_cell hh, ← Array.getElem?_toList]
    have e : (cur.toList.take (l.length * 2))[i * 2 + j]? = (ents l)[i * 2 + j]? := by rw [ht]
    rw [List.getElem?_take, if_pos (by omega)] at e
    rw [e, ents_get l i j hi hj]
  exact ⟨hget 0 (by omega), hget 1 (by omega)⟩
theorem infoE : (Try.prog.info? 47).map (·.size) = some 2 := by kernel_rfl
/-- An entry is overwritten. -/
theorem HR.put (h : HR B w g c l) (i : Nat) (hi : i < l.length) (x : E) : (Instr.storeAt 47 (.pointer (some ⟨g, i * 2, none⟩)) (.agg (enc x).toArray)).run Try.prog w = .ok () (w.setCells g (i * 2) (enc x)) ∧ HR B (w.setCells g (i * 2) (enc x)) g c (l.set i x) ∧ Ch (fun k => k = g) w (w.setCells g (i * 2) (enc x)) := by
  obtain ⟨cur, hh, hb, hn, hs, ht, hc⟩ := h.block
  have hfit : i * 2 + (enc x).length ≤ cur.size := by rw [enc_len, hs]; omega
  refine ⟨run_store_run 47 _ (enc x) hh (by rfl) infoE hfit (by intro q hq; simp only [enc, List.mem_cons, List.not_mem_nil, or_false] at hq; rcases hq with rfl | rfl <;> rfl), ?_, ?_⟩
  · obtain ⟨cur', h3, h4, h5⟩ := setCells_row (enc x) (i * 2) w cur hh hfit
    refine ⟨by rw [ents_len], .inr ⟨g, c, cur', by rw [List.length_set], hb, h3, by rw [List.length_set]; exact hn, hc, by rw [h4, hs], ?_⟩⟩
    rw [h5, List.length_set, ents_set l i x hi, ← ht]
    have hsl := splice_take cur.toList (enc x) (i * 2) (l.length * 2) (by rw [enc_len]; omega) (by have e : cur.toList.length = cur.size := Array.length_toList; rw [e, hs]; omega)
    rw [enc_len] at hsl ⊢
    exact hsl
  · obtain ⟨s1, s2, s3, s4⟩ := setCells_same g (enc x) (i * 2) w
    exact ⟨s1, s2, s3, by rw [s4]; exact Nat.le_refl _, fun k _ hk => setCells_far _ _ k hk⟩
end
end Go.Proofs.Ytfijbhacobjjgah
