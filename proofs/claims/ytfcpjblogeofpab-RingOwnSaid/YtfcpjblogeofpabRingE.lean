/- The ring in plain lists: behind each record that is added it holds the last ones. -/
import Derived.Test.YtfcpjblogeofpabRingD
namespace Go.Proofs.Ytfcpjblogeofpab
open Go.RowKit Go.Proofs.YtfcpjblogeofpabW.PrintWords Go.Proofs.YtfcpjblogeofpabW.PrintLast Go.Proofs.YtfcpjblogeofpabW.PrintMore Go.Proofs.Ytfcpjblogeofpab.Fr
set_option linter.unusedVariables false
set_option linter.unusedSimpArgs false

/-- The ring r, of c places, has just these records. -/
structure Rep (c : Nat) (r : R) (xs : List ByteArray) : Prop where
  len : r.l.length = c
  pos : 0 < c
  cap : c ≤ 64
  first : r.first < c
  n : r.n = xs.length
  le : xs.length ≤ c
  bytes : r.bytes = total xs
  get : ∀ i, i < xs.length → r.l.getD ((r.first + i) % c) ByteArray.empty = xs.getD i ByteArray.empty
theorem Rep.ok {c : Nat} {r : R} {xs : List ByteArray} (h : Rep c r xs) (hs : ∀ s ∈ xs, s.size ≤ 140737488351232) : r.ok := by
  have ht := total_le xs hs
  have h1 := h.le
  have h2 := h.cap
  have h3 : (xs.length : Int) * 140737488351232 ≤ 64 * 140737488351232 := Int.mul_le_mul_of_nonneg_right (by omega) (by omega)
  exact ⟨by rw [h.len]; exact h.pos, by rw [h.len]; exact h.cap, by rw [h.len]; exact h.first, by rw [h.len, h.n]; exact h.le, by rw [h.bytes]; exact ht.1, by rw [h.bytes]; omega⟩
theorem Rep.recs {c : Nat} {r : R} {xs : List ByteArray} (h : Rep c r xs) : r.recs r.n = xs := by
  apply list_eq
  · rw [recs_length, h.n]
  · intro i hi
    rw [recs_length] at hi
    rw [← h.get i (by rw [← h.n]; exact hi)]
    simp [R.recs, List.getD_eq_getElem?_getD, hi, h.len]
theorem rep_new (c : Nat) (h0 : 0 < c) (h : c ≤ 64) : Rep c (newR c) [] := ⟨by simp [newR], h0, h, h0, rfl, by simp, rfl, fun i hi => by simp at hi⟩
theorem rep_clear {c : Nat} {r : R} {xs : List ByteArray} (h : Rep c r xs) : Rep c (clearR r) [] := ⟨by simp [clearR, h.len], h.pos, h.cap, h.pos, rfl, by simp, rfl, fun i hi => by simp at hi⟩
theorem mod_ne {c f i n : Nat} (hi : i < n) (hn : n < c) (e : (f + i) % c = (f + n) % c) : False := by
  have h1 : (f + n) % c = (f + n) - c * ((f + n) / c) := Nat.mod_eq_sub_mul_div ..
  have h2 : (f + i) % c = (f + i) - c * ((f + i) / c) := Nat.mod_eq_sub_mul_div ..
  have d1 := Nat.div_add_mod (f + n) c
  have d2 := Nat.div_add_mod (f + i) c
  rw [e] at d2
  have h3 : c * ((f + n) / c) - c * ((f + i) / c) = n - i := by omega
  rw [← Nat.mul_sub] at h3
  rcases Nat.eq_zero_or_pos ((f + n) / c - (f + i) / c) with h4 | h4
  · rw [h4] at h3; omega
  · have := Nat.le_mul_of_pos_right c h4
    omega
theorem rep_push {c : Nat} {r : R} {xs : List ByteArray} (h : Rep c r xs) (s : ByteArray) (hlt : xs.length < c) : Rep c (pushR r s) (xs ++ [s]) := by
  refine ⟨by simp [pushR, h.len], h.pos, h.cap, h.first, by simp [pushR, h.n], by simp; omega, by simp [pushR, h.bytes, total_snoc], fun i hi => ?_⟩
  have hc := h.pos
  show (r.l.set ((r.first + r.n) % r.l.length) s).getD ((r.first + i) % c) ByteArray.empty = _
  rw [h.len, h.n]
  have hm : (r.first + i) % c < c := Nat.mod_lt _ hc
  by_cases e : i = xs.length
  · subst e
    simp [List.getD_eq_getElem?_getD, h.len, hm]
  · have hi' : i < xs.length := by simp at hi; omega
    have hne : (r.first + xs.length) % c ≠ (r.first + i) % c := fun e => mod_ne hi' hlt e.symm
    rw [List.getD_eq_getElem?_getD, List.getElem?_set_ne hne, ← List.getD_eq_getElem?_getD, h.get i hi']
    simp [List.getD_eq_getElem?_getD, List.getElem?_append_left hi']
theorem rep_drop {c : Nat} {r : R} {x : ByteArray} {xs : List ByteArray} (h : Rep c r (x :: xs)) : Rep c (dropR r) xs := by
  have hc := h.pos
  have h0 := h.get 0 (by simp)
  have hf := h.first
  have hle := h.le
  simp only [Nat.add_zero, Nat.mod_eq_of_lt hf, List.getD_cons_zero] at h0
  refine ⟨h.len, h.pos, h.cap, ?_, ?_, by simp at hle; omega, ?_, fun i hi => ?_⟩
  · show (r.first + 1) % r.l.length < c
    rw [h.len]; exact Nat.mod_lt _ hc
  · show r.n - 1 = xs.length
    rw [h.n]; simp
  · show r.bytes - ((r.l.getD r.first ByteArray.empty).size : Int) = total xs
    rw [h0, h.bytes]
    simp [total]
    omega
  · show r.l.getD (((r.first + 1) % r.l.length + i) % c) ByteArray.empty = _
    rw [h.len, Nat.mod_add_mod]
    have := h.get (i + 1) (by simpa using hi)
    rw [show r.first + 1 + i = r.first + (i + 1) by omega, this]
    simp
theorem last_snoc (l : List ByteArray) (s : ByteArray) (c : Nat) (hc : 0 < c) : lastL (l ++ [s]) c = (if l.length < c then lastL l c else (lastL l c).tail) ++ [s] := by
  unfold lastL
  split
  · rw [show (l ++ [s]).length - c = 0 by simp; omega, show l.length - c = 0 by omega]
    simp
  · rw [List.tail_drop, show (l ++ [s]).length - c = l.length - c + 1 by simp; omega, List.drop_append_of_le_length (by omega)]
theorem last_length (l : List ByteArray) (c : Nat) : (lastL l c).length = min l.length c := by simp [lastL]; omega
theorem rep_add {c : Nat} {r : R} {l : List ByteArray} (h : Rep c r (lastL l c)) (s : ByteArray) : Rep c (addR r s) (lastL (l ++ [s]) c) := by
  have hc := h.pos
  have hl := last_length l c
  rw [last_snoc l s c hc]
  unfold addR
  by_cases hlt : l.length < c
  · rw [if_pos hlt, if_neg (by rw [h.n, h.len, hl]; omega)]
    exact rep_push h s (by rw [hl]; omega)
  · rw [if_neg hlt, if_pos (by rw [h.n, h.len, hl]; omega)]
    cases hx : lastL l c with
    | nil => rw [hx] at hl; simp at hl; omega
    | cons x xs =>
      rw [hx] at h hl
      exact rep_push (rep_drop h) s (by simp at hl ⊢; omega)
theorem head_le {c : Nat} {r : R} {xs : List ByteArray} (h : Rep c r xs) (hn : r.n = r.l.length) : ((r.l.getD r.first ByteArray.empty).size : Int) ≤ r.bytes := by
  have hc := h.pos
  cases xs with
  | nil => have := h.n; have := h.len; simp at *; omega
  | cons x xs =>
    have h0 := h.get 0 (by simp)
    simp only [Nat.add_zero, Nat.mod_eq_of_lt h.first, List.getD_cons_zero] at h0
    rw [h0, h.bytes]
    simp [total]
    omega
theorem last_mem {l : List ByteArray} {c : Nat} {s : ByteArray} (h : s ∈ lastL l c) : s ∈ l := List.mem_of_mem_drop h
end Go.Proofs.Ytfcpjblogeofpab
