/- Plain law of chapter 41: the steps that are best, and that none are better. -/
import Derived.Test.YtfijbhacobjjgadLaw14
import Derived.Test.YtfijbhacobjjgadLaw41
namespace Go.Proofs.Ytfijbhacobjjgad.Pl
set_option linter.unusedSimpArgs false
set_option linter.unusedVariables false
section
variable (C : Nat → Chc) (n : Nat)
/-- The steps from a place on, with so many literals ahead of it. -/
def wk : Nat → Nat → Nat → List Stp
  | 0, _, _ => []
  | f + 1, a, l => if n ≤ a then [] else if (C a).1 = 0 then wk f (a + 1) (l + 1) else ((l : Int), ((C a).1 : Int), ((C a).2.1 : Int)) :: wk f (a + (C a).1) 0
def costS (st : Nat → Nat → Int) : List Stp → Int
  | [] => 0
  | s :: r => st s.2.1.toNat s.2.2.toNat + costS st r
variable (all : Bs) (D : Nat) (st : Nat → Nat → Int) (S : Nat → Nat → Nat)
theorem wk_right (hall : all.length = D + n) (hS : ∀ a o i, a < n → i < S a o → all.getD (D + a + i) 0 = all.getD (D + a + i - o) 0) (hS2 : ∀ a o, a < n → S a o ≤ n - a)
    (hC : ∀ a, a < n → Good S D n st C a) : ∀ f a l, l ≤ a → a ≤ n → right all (wk C n f a l) (D + a - l)
  | 0, _, _, _, _ => trivial
  | f + 1, a, l, hl, ha => by
    simp only [wk]
    by_cases h : n ≤ a
    · rw [if_pos h]; trivial
    · rw [if_neg h]
      rcases hC a (by omega) with ⟨h0, _⟩ | ⟨h1, h2, h3, h4, _⟩
      · rw [if_pos h0]
        have := wk_right hall hS hS2 hC f (a + 1) (l + 1) (by omega) (by omega)
        rwa [show D + (a + 1) - (l + 1) = D + a - l by omega] at this
      · rw [if_neg (by omega)]
        have h5 := hS2 a (C a).2.1 (by omega)
        have ih := wk_right hall hS hS2 hC f (a + (C a).1) 0 (by omega) (by omega)
        refine ⟨?_, ?_, ?_⟩
        · unfold okStep
          simp only
          omega
        · intro k hk
          simp only [Int.toNat_natCast] at hk ⊢
          have := hS a (C a).2.1 k (by omega) (by omega)
          rw [show D + a - l + l + k = D + a + k by omega]
          exact this
        · simp only [Int.toNat_natCast]
          rw [show D + a - l + l + (C a).1 = D + (a + (C a).1) - 0 by omega]
          exact ih
theorem wk_cost (t : Bs) (ht : t.length = n) (hend : (C n).2.2 = 0) (hS2 : ∀ a o, a < n → S a o ≤ n - a)
    (hC : ∀ a, a < n → Good S D n st C a) : ∀ f a l, n - a ≤ f → l ≤ a → a ≤ n → 8 * ((litsOf t (wk C n f a l) (a - l)).length : Int) + costS st (wk C n f a l) = 8 * l + (C a).2.2
  | 0, a, l, hf, hl, ha => by
    obtain rfl : a = n := by omega
    simp only [wk, litsOf, costS, List.length_drop]
    rw [hend]
    omega
  | f + 1, a, l, hf, hl, ha => by
    simp only [wk]
    by_cases h : n ≤ a
    · obtain rfl : a = n := by omega
      rw [if_pos h]
      simp only [litsOf, costS, List.length_drop]
      rw [hend]
      omega
    · rw [if_neg h]
      rcases hC a (by omega) with ⟨h0, hc⟩ | ⟨h1, h2, h3, h4, hc⟩
      · rw [if_pos h0]
        have := wk_cost t ht hend hS2 hC f (a + 1) (l + 1) (by omega) (by omega) (by omega)
        rw [show a + 1 - (l + 1) = a - l by omega] at this
        rw [this, hc]
        omega
      · rw [if_neg (by omega)]
        have h5 := hS2 a (C a).2.1 (by omega)
        have ih := wk_cost t ht hend hS2 hC f (a + (C a).1) 0 (by omega) (by omega) (by omega)
        rw [Nat.sub_zero] at ih
        simp only [litsOf, costS, Int.toNat_natCast, List.length_append, List.length_take, List.length_drop]
        rw [show a - l + l + (C a).1 = a + (C a).1 by omega]
        rw [hc]
        omega
/-- None cost less. -/
theorem right_least (c : Nat → Int) (hall : all.length = D + n) (t : Bs) (ht : t.length = n) (hS : ∀ a o m, a + m ≤ n → (∀ k, k < m → all.getD (D + a + k) 0 = all.getD (D + a + k - o) 0) → 1 ≤ o → o ≤ D + a → m ≤ S a o)
    (hend : c n = 0) (h8 : ∀ a, a < n → c a ≤ c (a + 1) + 8) (hm : ∀ a o m, a < n → 1 ≤ o → o ≤ D + a → 3 ≤ m → m ≤ S a o → c a ≤ st m o + c (a + m)) :
    ∀ (l : List Stp) (a : Nat), a ≤ n → right all l (D + a) → c a ≤ 8 * ((litsOf t l a).length : Int) + costS st l := by
  have hk : ∀ k a, a + k ≤ n → c a ≤ 8 * (k : Int) + c (a + k) := by
    intro k
    induction k with
    | zero => intro a _; simp
    | succ k ih =>
      intro a h
      have h1 := ih a (by omega)
      have h2 := h8 (a + k) (by omega)
      rw [show a + (k + 1) = a + k + 1 by omega]
      omega
  intro l
  induction l with
  | nil =>
    intro a ha _
    simp only [litsOf, costS, List.length_drop]
    have := hk (n - a) a (by omega)
    rw [show a + (n - a) = n by omega, hend] at this
    omega
  | cons s r ih =>
    intro a ha h
    obtain ⟨h1, h2, h3⟩ := h
    unfold okStep at h1
    have e1 : (s.1.toNat : Int) = s.1 := by omega
    have e2 : (s.2.1.toNat : Int) = s.2.1 := by omega
    have e3 : (s.2.2.toNat : Int) = s.2.2 := by omega
    simp only [litsOf, costS, List.length_append, List.length_take, List.length_drop]
    generalize s.1.toNat = k at h2 h3 e1 ⊢
    generalize s.2.1.toNat = m at h2 h3 e2 ⊢
    generalize s.2.2.toNat = o at h2 e3 ⊢
    have i1 := hk k a (by omega)
    have i2 := hS (a + k) o m (by omega) (fun j hj => by
      have := h2 j hj
      rw [show D + (a + k) + j = D + a + k + j by omega]
      exact this) (by omega) (by omega)
    have i3 := hm (a + k) o m (by omega) (by omega) (by omega) (by omega) i2
    have i4 := ih (a + k + m) (by omega) (by rwa [show D + a + k + m = D + (a + k + m) by omega] at h3)
    have q1 : (min k (t.length - a) : Nat) = k := by omega
    rw [q1]
    omega
end
end Go.Proofs.Ytfijbhacobjjgad.Pl
