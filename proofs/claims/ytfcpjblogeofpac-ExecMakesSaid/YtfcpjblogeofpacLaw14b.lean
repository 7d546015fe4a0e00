/- Plain law of chapter 14: the steps that make a text make it, of its literals. -/
import Derived.Test.YtfcpjblogeofpacLaw14
namespace Go.Proofs.Ytfcpjblogeofpac.Pl
set_option linter.unusedSimpArgs false
theorem take_more (all : Bs) (p : Nat) (h : p < all.length) : all.take (p + 1) = all.take p ++ [all.getD p 0] := by
  rw [List.take_add_one, List.getElem?_eq_getElem h, List.getD_eq_getElem?_getD, List.getElem?_eq_getElem h]
  rfl
theorem cop_take (all : Bs) (off p : Nat) (ho : 1 ≤ off) (hp : off ≤ p) : ∀ m, p + m ≤ all.length → (∀ k, k < m → all.getD (p + k) 0 = all.getD (p + k - off) 0) → cop off m (all.take p) = all.take (p + m)
  | 0, _, _ => rfl
  | m + 1, h, hk => by
    rw [cop_succ, cop_take all off p ho hp m (by omega) (fun k hk' => hk k (by omega)), show p + (m + 1) = p + m + 1 by omega, take_more all (p + m) (by omega)]
    congr 2
    rw [List.length_take, Nat.min_eq_left (by omega), hk m (by omega)]
    simp only [List.getD_eq_getElem?_getD]
    rw [List.getElem?_take, if_pos (by omega)]
theorem run_made (D X : Bs) (lim : Int) : ∀ (l : List Stp) (a : Nat), D.length ≤ a → a ≤ D.length + X.length → right (D ++ X) l a →
    run D.length lim l ((D ++ X).take a) (litsOf X l (a - D.length)) = if (X.length : Int) ≤ lim then (X, 0) else ([], 5)
  | [], a, h1, h2, _ => by
    have hb : ((D ++ X).take a).length = a := by rw [List.length_take, List.length_append]; omega
    rw [show litsOf X [] (a - D.length) = X.drop (a - D.length) from rfl, run, hb, List.length_drop]
    by_cases hl : (X.length : Int) ≤ lim
    · rw [if_pos (by omega), if_pos hl]
      congr 1
      have e : X.drop (a - D.length) = (D ++ X).drop a := by
        rw [List.drop_append, List.drop_of_length_le h1, List.nil_append]
      rw [e, List.take_append_drop, List.drop_left]
    · rw [if_neg (by omega), if_neg hl]
  | s :: r, a, h1, h2, h => by
    obtain ⟨hs, hby, hr⟩ := h
    unfold okStep at hs
    rw [List.length_append] at hs
    have hb : ((D ++ X).take a).length = a := by rw [List.length_take, List.length_append]; omega
    have hxl : ((X.drop (a - D.length)).take s.1.toNat).length = s.1.toNat := by rw [List.length_take, List.length_drop]; omega
    have hll : (litsOf X (s :: r) (a - D.length)).length = s.1.toNat + (litsOf X r (a - D.length + s.1.toNat + s.2.1.toNat)).length := by simp only [litsOf, List.length_append, hxl]
    have htk : (litsOf X (s :: r) (a - D.length)).take s.1.toNat = (X.drop (a - D.length)).take s.1.toNat := by
      simp only [litsOf]
      rw [List.take_append_of_le_length (by omega), List.take_of_length_le (by omega)]
    have hdk : (litsOf X (s :: r) (a - D.length)).drop s.1.toNat = litsOf X r (a - D.length + s.1.toNat + s.2.1.toNat) := by
      simp only [litsOf]
      rw [List.drop_append, List.drop_of_length_le (by omega), hxl, Nat.sub_self, List.drop_zero, List.nil_append]
    have hap : (D ++ X).take a ++ (X.drop (a - D.length)).take s.1.toNat = (D ++ X).take (a + s.1.toNat) := by
      have e : X.drop (a - D.length) = (D ++ X).drop a := by
        rw [List.drop_append, List.drop_of_length_le h1, List.nil_append]
      rw [e, List.take_add]
    have hpl : ((D ++ X).take (a + s.1.toNat)).length = a + s.1.toNat := by rw [List.length_take, List.length_append]; omega
    have hc := cop_take (D ++ X) s.2.2.toNat (a + s.1.toNat) (by omega) (by omega) s.2.1.toNat (by rw [List.length_append]; omega) hby
    have ih := run_made D X lim r (a + s.1.toNat + s.2.1.toNat) (by omega) (by omega) hr
    rw [show a + s.1.toNat + s.2.1.toNat - D.length = a - D.length + s.1.toNat + s.2.1.toNat by omega] at ih
    rw [run, htk, hdk, hap, hpl, hb, hll, hc, ih]
    rw [if_neg (by omega)]
    by_cases hl : (X.length : Int) ≤ lim
    · rw [if_neg (by omega), if_neg (by omega), if_neg (by omega)]
    · rw [if_neg hl]
      split
      · rfl
      · rw [if_neg (by omega)]
        split <;> rfl
end Go.Proofs.Ytfcpjblogeofpac.Pl
