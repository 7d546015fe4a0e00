/- Choices: plain facts on lists of them. -/
import Derived.Test.YtfijbhacobjjgadNearB
namespace Go.Proofs.Ytfijbhacobjjgad
open Go Go.RowKit Pl
set_option linter.unusedVariables false
set_option linter.unusedSimpArgs false
def flat : List Chc → List Int
  | [] => []
  | c :: r => (c.1 : Int) :: (c.2.1 : Int) :: c.2.2 :: flat r
theorem flat_len : ∀ l : List Chc, (flat l).length = 3 * l.length
  | [] => rfl
  | c :: r => by simp only [flat, List.length_cons, flat_len r]; omega
theorem flat_get : ∀ (l : List Chc) (i : Nat), i < l.length → (flat l).getD (i * 3) 0 = ((l.getD i zc).1 : Int) ∧ (flat l).getD (i * 3 + 1) 0 = ((l.getD i zc).2.1 : Int) ∧ (flat l).getD (i * 3 + 2) 0 = (l.getD i zc).2.2
  | [], i, h => by simp at h
  | c :: r, 0, _ => ⟨rfl, rfl, rfl⟩
  | c :: r, i + 1, h => by
    have ih := flat_get r i (by simpa using h)
    simp only [flat, List.getD_cons_succ, Nat.succ_mul, show i * 3 + 3 = i * 3 + 2 + 1 from rfl, show i * 3 + 2 + 1 + 1 = (i * 3 + 1) + 2 + 1 from rfl, show i * 3 + 2 + 1 + 2 = (i * 3 + 2) + 2 + 1 from rfl]
    exact ih
theorem flat_set : ∀ (l : List Chc) (i : Nat) (c : Chc), (((flat l).set (i * 3) (c.1 : Int)).set (i * 3 + 1) (c.2.1 : Int)).set (i * 3 + 2) c.2.2 = flat (l.set i c)
  | [], i, c => by simp [flat]
  | d :: r, 0, c => by simp [flat]
  | d :: r, i + 1, c => by
    have ih := flat_set r i c
    simp only [flat, List.set_cons_succ, Nat.succ_mul, show i * 3 + 3 = i * 3 + 2 + 1 from rfl, show i * 3 + 2 + 1 + 1 = (i * 3 + 1) + 2 + 1 from rfl, show i * 3 + 2 + 1 + 2 = (i * 3 + 2) + 2 + 1 from rfl, ih]
theorem flat_zero : ∀ n : Nat, flat (List.replicate n zc) = List.replicate (3 * n) 0
  | 0 => rfl
  | n + 1 => by
    rw [List.replicate_succ, flat, flat_zero n, show 3 * (n + 1) = 3 * n + 1 + 1 + 1 by omega, List.replicate_succ, List.replicate_succ, List.replicate_succ]
    rfl
section
variable (T : ByteArray) (D n : Nat)
def Sx (a o : Nat) : Nat := so T (D + a) o
def tb (r : Nat) : List Chc := tab stN (Sx T D) D n r
def cx (r : Nat) : Chc := chc stN (Sx T D) D n r
def ch (r : Nat) : List Chc := List.replicate (n - r) zc ++ tb T D n r
theorem tb_succ (r : Nat) : tb T D n (r + 1) = cx T D n r :: tb T D n r := rfl
theorem tb_len (r : Nat) : (tb T D n r).length = r + 1 := tab_length _ _ _ _ _
theorem ch_len (r : Nat) (h : r ≤ n) : (ch T D n r).length = n + 1 := by unfold ch; rw [List.length_append, List.length_replicate, tb_len]; omega
theorem ch_zero : ch T D n 0 = List.replicate (n + 1) zc := by
  unfold ch
  rw [List.replicate_succ', Nat.sub_zero]
  rfl
theorem ch_full : ch T D n n = tb T D n n := by unfold ch; rw [Nat.sub_self]; rfl
theorem ch_get (r i : Nat) (h : n - r ≤ i) : (ch T D n r).getD i zc = (tb T D n r).getD (i - (n - r)) zc := by
  unfold ch
  simp only [List.getD_eq_getElem?_getD]
  rw [List.getElem?_append_right (by simpa using h), List.length_replicate]
theorem ch_set (r : Nat) (h : r < n) : (ch T D n r).set (n - (r + 1)) (cx T D n r) = ch T D n (r + 1) := by
  unfold ch
  rw [tb_succ]
  obtain ⟨m, hm⟩ : ∃ m, n - (r + 1) = m := ⟨_, rfl⟩
  rw [hm, show n - r = m + 1 by omega, List.replicate_succ', List.append_assoc, List.set_append]
  rw [if_neg (by simp), List.length_replicate, Nat.sub_self]
  rfl
/-- The choice at a place, having looked at j lengths. -/
def pk (r j : Nat) : Chc := pick stN (Sx T D (n - (r + 1))) (fun j => ((tb T D n r).getD (j - 1) zc).2.2) (D + (n - (r + 1))) (((tb T D n r).getD 0 zc).2.2 + 8) j
theorem pk_zero (r : Nat) : pk T D n r 0 = (0, 0, ((tb T D n r).getD 0 zc).2.2 + 8) := rfl
theorem pk_succ (r j : Nat) : pk T D n r (j + 1) = if nearF (Sx T D (n - (r + 1))) (D + (n - (r + 1))) j ≠ 0 ∧ stN j (nearF (Sx T D (n - (r + 1))) (D + (n - (r + 1))) j) + ((tb T D n r).getD (j - 1) zc).2.2 < (pk T D n r j).2.2 then (j, nearF (Sx T D (n - (r + 1))) (D + (n - (r + 1))) j, stN j (nearF (Sx T D (n - (r + 1))) (D + (n - (r + 1))) j) + ((tb T D n r).getD (j - 1) zc).2.2) else pk T D n r j := rfl
theorem pk_last (r : Nat) : pk T D n r (nlen (Sx T D (n - (r + 1))) (D + (n - (r + 1)))) = cx T D n r := rfl
theorem stN_in (m o : Nat) : 16 ≤ stN m o ∧ stN m o ≤ 80 := stI_in _ _
theorem pk_in (r : Nat) (ht : ∀ i, 0 ≤ ((tb T D n r).getD i zc).2.2 ∧ ((tb T D n r).getD i zc).2.2 ≤ 8 * r) : ∀ j, 0 ≤ (pk T D n r j).2.2 ∧ (pk T D n r j).2.2 ≤ 8 * r + 8
  | 0 => by have := ht 0; rw [pk_zero]; show 0 ≤ _ + 8 ∧ _ + 8 ≤ _; omega
  | j + 1 => by
    have ih := pk_in r ht j
    rw [pk_succ]
    have h1 := ht (j - 1)
    have h2 := stN_in j (nearF (Sx T D (n - (r + 1))) (D + (n - (r + 1))) j)
    split
    · rename_i h
      show 0 ≤ _ + _ ∧ _ + _ ≤ _
      omega
    · exact ih
theorem tb_in : ∀ r i, 0 ≤ ((tb T D n r).getD i zc).2.2 ∧ ((tb T D n r).getD i zc).2.2 ≤ 8 * r
  | 0, i => by
    show 0 ≤ (([zc] : List Chc).getD i zc).2.2 ∧ (([zc] : List Chc).getD i zc).2.2 ≤ _
    cases i with
    | zero => exact ⟨Int.le_refl _, Int.le_refl _⟩
    | succ i => simp [zc]
  | r + 1, i => by
    rw [tb_succ]
    cases i with
    | zero =>
      have := pk_in T D n r (tb_in r) (nlen (Sx T D (n - (r + 1))) (D + (n - (r + 1))))
      rw [pk_last] at this
      rw [List.getD_cons_zero]
      omega
    | succ i => have := tb_in r i; rw [List.getD_cons_succ]; omega
theorem near_le (a k j : Nat) (hn : T.size = D + n) (ha : a ≤ n) (h : nearF (Sx T D a) k j ≠ 0) : 3 ≤ j ∧ a + j ≤ n := by
  obtain ⟨h1, h2, h3⟩ := nearF_ne _ _ _ h
  have := lo_at _ _ _ h3
  have h4 := so_le T (D + a) (lo (Sx T D a) j k) (by omega)
  unfold Sx at this
  have e : (fun o => so T (D + a) o) = so T (D + a) := rfl
  unfold Sx at h4
  exact ⟨h1, by omega⟩
end
end Go.Proofs.Ytfijbhacobjjgad
