/- Plain law of chapter 38: roots, paths, and the way up. -/
namespace Go.Proofs.Ytfijbhacobjjgaf.Pl
set_option linter.unusedSimpArgs false
set_option linter.unusedVariables false
/-- The greatest power of two below a number that is at least 2. -/
def half (n : Nat) : Nat := 2 ^ (Nat.log2 (n - 1))
theorem half_lt {n : Nat} (h : 2 ≤ n) : half n < n := by
  have := Nat.log2_self_le (n := n - 1) (by omega)
  unfold half; omega
theorem half_pos (n : Nat) : 0 < half n := Nat.two_pow_pos _
theorem half_ge {n : Nat} (h : 2 ≤ n) : n ≤ 2 * half n := by
  have := Nat.lt_log2_self (n := n - 1)
  unfold half
  rw [Nat.pow_succ] at this
  omega
theorem half_one {n k : Nat} (h : 2 ≤ n) (h1 : 2 ^ k < n) (h2 : n ≤ 2 * 2 ^ k) : half n = 2 ^ k := by
  unfold half
  congr 1
  rw [Nat.log2_eq_iff (by omega)]
  rw [Nat.pow_succ]
  omega
section
variable (lf : ByteArray → Int) (pr : Int → Int → Int)
def root (l : List ByteArray) : Int :=
  if h : 2 ≤ l.length then
    have : half l.length < l.length := half_lt h
    have : 0 < half l.length := half_pos _
    pr (root (l.take (half l.length))) (root (l.drop (half l.length)))
  else match l with
    | [] => 0
    | s :: _ => lf s
termination_by l.length
decreasing_by
  · rw [List.length_take]; omega
  · rw [List.length_drop]; omega
theorem root_nil : root lf pr [] = 0 := by rw [root]; rfl
theorem root_one (s : ByteArray) : root lf pr [s] = lf s := by rw [root]; rfl
theorem root_two (l : List ByteArray) (h : 2 ≤ l.length) : root lf pr l = pr (root lf pr (l.take (half l.length))) (root lf pr (l.drop (half l.length))) := by
  rw [root, dif_pos h]
def path (l : List ByteArray) (i : Nat) : List Int :=
  if h : 2 ≤ l.length then
    have : half l.length < l.length := half_lt h
    have : 0 < half l.length := half_pos _
    if i < half l.length then path (l.take (half l.length)) i ++ [root lf pr (l.drop (half l.length))]
    else path (l.drop (half l.length)) (i - half l.length) ++ [root lf pr (l.take (half l.length))]
  else []
termination_by l.length
decreasing_by
  · rw [List.length_take]; omega
  · rw [List.length_drop]; omega
theorem path_one (l : List ByteArray) (i : Nat) (h : l.length < 2) : path lf pr l i = [] := by rw [path, dif_neg (by omega)]
theorem path_low (l : List ByteArray) (i : Nat) (h : 2 ≤ l.length) (hi : i < half l.length) : path lf pr l i = path lf pr (l.take (half l.length)) i ++ [root lf pr (l.drop (half l.length))] := by
  rw [path, dif_pos h, if_pos hi]
theorem path_high (l : List ByteArray) (i : Nat) (h : 2 ≤ l.length) (hi : ¬ i < half l.length) : path lf pr l i = path lf pr (l.drop (half l.length)) (i - half l.length) ++ [root lf pr (l.take (half l.length))] := by
  rw [path, dif_pos h, if_neg hi]
end
/-- How many sums it takes. -/
def steps (n i : Nat) : Nat :=
  if h : 2 ≤ n then
    have : half n < n := half_lt h
    have : 0 < half n := half_pos _
    if i < half n then steps (half n) i + 1 else steps (n - half n) (i - half n) + 1
  else 0
termination_by n
theorem steps_one {n : Nat} (i : Nat) (h : n < 2) : steps n i = 0 := by rw [steps, dif_neg (by omega)]
theorem steps_low {n i : Nat} (h : 2 ≤ n) (hi : i < half n) : steps n i = steps (half n) i + 1 := by rw [steps, dif_pos h, if_pos hi]
theorem steps_high {n i : Nat} (h : 2 ≤ n) (hi : ¬ i < half n) : steps n i = steps (n - half n) (i - half n) + 1 := by rw [steps, dif_pos h, if_neg hi]
section
variable (lf : ByteArray → Int) (pr : Int → Int → Int)
/-- Up by a path, its last sum first. -/
def climb (n i : Nat) (a : Int) (p : List Int) : Int :=
  if h : 2 ≤ n then
    have : half n < n := half_lt h
    have : 0 < half n := half_pos _
    if i < half n then pr (climb (half n) i a p.dropLast) (p.getLastD 0) else pr (p.getLastD 0) (climb (n - half n) (i - half n) a p.dropLast)
  else a
termination_by n
theorem climb_one {n : Nat} (i : Nat) (a : Int) (p : List Int) (h : n < 2) : climb pr n i a p = a := by rw [climb, dif_neg (by omega)]
theorem climb_low {n i : Nat} (a : Int) (p : List Int) (h : 2 ≤ n) (hi : i < half n) : climb pr n i a p = pr (climb pr (half n) i a p.dropLast) (p.getLastD 0) := by rw [climb, dif_pos h, if_pos hi]
theorem climb_high {n i : Nat} (a : Int) (p : List Int) (h : 2 ≤ n) (hi : ¬ i < half n) : climb pr n i a p = pr (p.getLastD 0) (climb pr (n - half n) (i - half n) a p.dropLast) := by rw [climb, dif_pos h, if_neg hi]
theorem path_length : ∀ (m : Nat) (l : List ByteArray) (i : Nat), l.length = m → (path lf pr l i).length = steps m i := by
  intro m
  induction m using Nat.strongRecOn with
  | _ m ih =>
    intro l i hl
    by_cases h : 2 ≤ m
    · have h1 := half_lt h
      have h2 := half_pos m
      by_cases hi : i < half m
      · rw [path_low lf pr l i (by omega) (by rw [hl]; exact hi), steps_low h hi, List.length_append, hl, ih (half m) h1 _ i (by rw [List.length_take]; omega)]
        rfl
      · rw [path_high lf pr l i (by omega) (by rw [hl]; exact hi), steps_high h hi, List.length_append, hl, ih (m - half m) (by omega) _ _ (by rw [List.length_drop]; omega)]
        rfl
    · rw [path_one lf pr l i (by omega), steps_one i (by omega)]
      rfl
/-- The path leads to the root. -/
theorem climb_path : ∀ (m : Nat) (l : List ByteArray) (i : Nat), l.length = m → i < m → climb pr m i (lf (l.getD i ByteArray.empty)) (path lf pr l i) = root lf pr l := by
  intro m
  induction m using Nat.strongRecOn with
  | _ m ih =>
    intro l i hl hlt
    by_cases h : 2 ≤ m
    · have h1 := half_lt h
      have h2 := half_pos m
      rw [root_two lf pr l (by omega)]
      by_cases hi : i < half m
      · rw [path_low lf pr l i (by omega) (by rw [hl]; exact hi), climb_low pr _ _ h hi, List.dropLast_concat, hl]
        have e : (l.take (half m)).getD i ByteArray.empty = l.getD i ByteArray.empty := by simp [List.getD_eq_getElem?_getD, List.getElem?_take, hi]
        rw [← e, ih (half m) h1 _ i (by rw [List.length_take]; omega) hi]
        simp
      · rw [path_high lf pr l i (by omega) (by rw [hl]; exact hi), climb_high pr _ _ h hi, List.dropLast_concat, hl]
        have e : (l.drop (half m)).getD (i - half m) ByteArray.empty = l.getD i ByteArray.empty := by
          simp only [List.getD_eq_getElem?_getD, List.getElem?_drop]
          rw [show half m + (i - half m) = i by omega]
        rw [← e, ih (m - half m) (by omega) _ _ (by rw [List.length_drop]; omega) (by omega)]
        simp
    · match l, hl with
      | [s], hl =>
        obtain rfl : i = 0 := by simp at hl; omega
        rw [climb_one pr _ _ _ (by omega), root_one]
        rfl
      | [], hl => simp at hl; omega
      | _ :: _ :: _, hl => simp at hl; omega
/-- Two unlike pairs with one sum on the way up. -/
def collides (n i : Nat) (a b : Int) (p : List Int) : Bool :=
  if h : 2 ≤ n then
    have : half n < n := half_lt h
    have : 0 < half n := half_pos _
    if i < half n then collides (half n) i a b p.dropLast || (climb pr (half n) i a p.dropLast != climb pr (half n) i b p.dropLast && climb pr n i a p == climb pr n i b p)
    else collides (n - half n) (i - half n) a b p.dropLast || (climb pr (n - half n) (i - half n) a p.dropLast != climb pr (n - half n) (i - half n) b p.dropLast && climb pr n i a p == climb pr n i b p)
  else false
termination_by n
theorem collides_one {n : Nat} (i : Nat) (a b : Int) (p : List Int) (h : n < 2) : collides pr n i a b p = false := by rw [collides, dif_neg (by omega)]
theorem collides_low {n i : Nat} (a b : Int) (p : List Int) (h : 2 ≤ n) (hi : i < half n) : collides pr n i a b p = (collides pr (half n) i a b p.dropLast || (climb pr (half n) i a p.dropLast != climb pr (half n) i b p.dropLast && climb pr n i a p == climb pr n i b p)) := by rw [collides, dif_pos h, if_pos hi]
theorem collides_high {n i : Nat} (a b : Int) (p : List Int) (h : 2 ≤ n) (hi : ¬ i < half n) : collides pr n i a b p = (collides pr (n - half n) (i - half n) a b p.dropLast || (climb pr (n - half n) (i - half n) a p.dropLast != climb pr (n - half n) (i - half n) b p.dropLast && climb pr n i a p == climb pr n i b p)) := by rw [collides, dif_pos h, if_neg hi]
theorem collides_of : ∀ (n i : Nat) (a b : Int) (p : List Int), a ≠ b → climb pr n i a p = climb pr n i b p → collides pr n i a b p = true := by
  intro n
  induction n using Nat.strongRecOn with
  | _ n ih =>
    intro i a b p hne he
    by_cases h : 2 ≤ n
    · have h1 := half_lt h
      have h2 := half_pos n
      by_cases hi : i < half n
      · rw [collides_low pr a b p h hi]
        by_cases hc : climb pr (half n) i a p.dropLast = climb pr (half n) i b p.dropLast
        · rw [ih _ h1 i a b _ hne hc]; rfl
        · rw [he]; simp [hc]
      · rw [collides_high pr a b p h hi]
        by_cases hc : climb pr (n - half n) (i - half n) a p.dropLast = climb pr (n - half n) (i - half n) b p.dropLast
        · rw [ih _ (by omega) _ a b _ hne hc]; rfl
        · rw [he]; simp [hc]
    · rw [climb_one pr i a p (by omega), climb_one pr i b p (by omega)] at he
      exact absurd he hne
end
end Go.Proofs.Ytfijbhacobjjgaf.Pl
