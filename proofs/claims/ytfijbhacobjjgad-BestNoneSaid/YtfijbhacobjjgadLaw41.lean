/- Plain law of chapter 41: least offsets, least costs, steps that have them. -/
namespace Go.Proofs.Ytfijbhacobjjgad.Pl
set_option linter.unusedSimpArgs false
set_option linter.unusedVariables false
section
variable (s : Nat → Nat)
/-- The longest match of k offsets. -/
def mxx : Nat → Nat
  | 0 => 0
  | k + 1 => max (mxx k) (s (k + 1))
/-- The least offset with so long a match; 0: none. -/
def lo (j : Nat) : Nat → Nat
  | 0 => 0
  | k + 1 => if lo j k ≠ 0 then lo j k else if j ≤ s (k + 1) then k + 1 else 0
theorem lo_le (j : Nat) : ∀ k, lo s j k ≤ k
  | 0 => Nat.le_refl _
  | k + 1 => by
    have := lo_le j k
    simp only [lo]
    split
    · omega
    · split <;> omega
theorem lo_ne (j : Nat) (hj : 1 ≤ j) : ∀ k, lo s j k ≠ 0 ↔ j ≤ mxx s k
  | 0 => by simp [lo, mxx]; omega
  | k + 1 => by
    have ih := lo_ne j hj k
    simp only [lo, mxx]
    by_cases h : lo s j k ≠ 0
    · rw [if_pos h]
      have := ih.1 h
      constructor
      · intro _; omega
      · intro _; exact h
    · rw [if_neg h]
      have h2 : ¬ j ≤ mxx s k := fun c => h (ih.2 c)
      by_cases h3 : j ≤ s (k + 1)
      · rw [if_pos h3]; constructor <;> intro _ <;> omega
      · rw [if_neg h3]; constructor
        · intro c; exact absurd rfl c
        · intro c; omega
theorem lo_at (j : Nat) : ∀ k, lo s j k ≠ 0 → j ≤ s (lo s j k)
  | 0, h => by simp [lo] at h
  | k + 1, h => by
    simp only [lo] at h ⊢
    by_cases h1 : lo s j k ≠ 0
    · rw [if_pos h1]; exact lo_at j k h1
    · rw [if_neg h1] at h ⊢
      by_cases h2 : j ≤ s (k + 1)
      · rw [if_pos h2]; exact h2
      · rw [if_neg h2] at h; exact absurd rfl h
theorem lo_min (j o : Nat) (h1 : 1 ≤ o) (h : j ≤ s o) : ∀ k, o ≤ k → lo s j k ≠ 0 ∧ lo s j k ≤ o
  | 0, h2 => by omega
  | k + 1, h2 => by
    simp only [lo]
    by_cases hc : o ≤ k
    · have ih := lo_min j o h1 h k hc
      rw [if_pos ih.1]; exact ih
    · obtain rfl : o = k + 1 := by omega
      by_cases h3 : lo s j k ≠ 0
      · rw [if_pos h3]
        have := lo_le s j k
        exact ⟨h3, by omega⟩
      · rw [if_neg h3, if_pos h]
        exact ⟨by omega, Nat.le_refl _⟩
def nearF (k j : Nat) : Nat := if j < 3 then 0 else lo s j k
def nlen (k : Nat) : Nat := if mxx s k < 3 then 0 else mxx s k + 1
def nearL (k m : Nat) : List Nat := (List.range m).map (nearF s k)
theorem nlen_zero : nlen s 0 = 0 := rfl
theorem nlen_succ (k : Nat) : nlen s (k + 1) = if 3 ≤ s (k + 1) then max (nlen s k) (s (k + 1) + 1) else nlen s k := by
  have e : mxx s (k + 1) = max (mxx s k) (s (k + 1)) := rfl
  unfold nlen
  generalize mxx s (k + 1) = z at e ⊢
  generalize mxx s k = y at e ⊢
  generalize s (k + 1) = x at e ⊢
  split <;> split <;> split <;> omega
theorem nearF_succ (k j : Nat) (h : j < nlen s k) : nearF s (k + 1) j = nearF s k j := by
  unfold nearF
  by_cases h3 : j < 3
  · rw [if_pos h3, if_pos h3]
  · rw [if_neg h3, if_neg h3]
    have hm : j ≤ mxx s k := by
      unfold nlen at h
      split at h <;> omega
    simp only [lo]
    rw [if_pos ((lo_ne s j (by omega) k).2 hm)]
theorem nearL_succ (k : Nat) : nearL s (k + 1) (nlen s k) = nearL s k (nlen s k) := by
  unfold nearL
  apply List.map_congr_left
  intro j hj
  exact nearF_succ s k j (List.mem_range.1 hj)
theorem nearL_snoc (k m : Nat) : nearL s k (m + 1) = nearL s k m ++ [nearF s k m] := by
  unfold nearL
  rw [List.range_succ, List.map_append]
  rfl
/-- What is appended at an offset. -/
theorem nearF_new (k m : Nat) (h1 : nlen s k ≤ m) (h2 : m ≤ s (k + 1)) : nearF s (k + 1) m = if m < 3 then 0 else k + 1 := by
  unfold nearF
  by_cases h3 : m < 3
  · rw [if_pos h3, if_pos h3]
  · rw [if_neg h3, if_neg h3]
    have hm : ¬ m ≤ mxx s k := by
      unfold nlen at h1
      split at h1 <;> omega
    simp only [lo]
    rw [if_neg (fun c => hm ((lo_ne s m (by omega) k).1 c)), if_pos h2]
theorem nearL_length (k m : Nat) : (nearL s k m).length = m := by simp [nearL]
theorem nearL_get (k m j : Nat) (h : j < m) : (nearL s k m).getD j 0 = nearF s k j := by
  simp [nearL, List.getD_eq_getElem?_getD, h]
theorem nearF_le (k j : Nat) : nearF s k j ≤ k := by
  unfold nearF
  split
  · omega
  · exact lo_le s j k
theorem nearF_ne (k j : Nat) (h : nearF s k j ≠ 0) : 3 ≤ j ∧ nearF s k j = lo s j k ∧ lo s j k ≠ 0 := by
  unfold nearF at h ⊢
  by_cases h3 : j < 3
  · rw [if_pos h3] at h; exact absurd rfl h
  · rw [if_neg h3] at h ⊢; exact ⟨by omega, rfl, h⟩
end
section
variable (st : Nat → Nat → Int) (s : Nat → Nat) (t : Nat → Int)
abbrev Chc := Nat × Nat × Int
/-- What is best of the first j lengths. -/
def pick (k : Nat) (b : Int) : Nat → Chc
  | 0 => (0, 0, b)
  | j + 1 => if nearF s k j ≠ 0 ∧ st j (nearF s k j) + t j < (pick k b j).2.2 then (j, nearF s k j, st j (nearF s k j) + t j) else pick k b j
/-- The document's: of one offset, m lengths; of all. -/
def rin (o : Nat) : Nat → Int → Int
  | 0, a => a
  | m + 1, a => min (rin o m a) (st (3 + m) o + t (3 + m))
def rout (b : Int) : Nat → Int
  | 0 => b
  | k + 1 => rin st t (k + 1) (s (k + 1) - 2) (rout b k)
theorem rin_le (o : Nat) (a : Int) : ∀ m, rin st t o m a ≤ a ∧ (∀ n, 3 ≤ n → n < 3 + m → rin st t o m a ≤ st n o + t n)
  | 0 => ⟨Int.le_refl _, fun n h1 h2 => by omega⟩
  | m + 1 => by
    have ih := rin_le o a m
    simp only [rin]
    refine ⟨by omega, fun n h1 h2 => ?_⟩
    by_cases h : n < 3 + m
    · have := ih.2 n h1 h; omega
    · obtain rfl : n = 3 + m := by omega
      omega
theorem rin_at (o : Nat) (a : Int) : ∀ m, rin st t o m a = a ∨ ∃ n, 3 ≤ n ∧ n < 3 + m ∧ rin st t o m a = st n o + t n
  | 0 => .inl rfl
  | m + 1 => by
    simp only [rin]
    rcases Int.le_total (rin st t o m a) (st (3 + m) o + t (3 + m)) with h | h
    · rw [Int.min_eq_left h]
      rcases rin_at o a m with e | ⟨n, h1, h2, h3⟩
      · exact .inl e
      · exact .inr ⟨n, h1, by omega, h3⟩
    · rw [Int.min_eq_right h]
      exact .inr ⟨3 + m, by omega, by omega, rfl⟩
theorem rout_le (b : Int) : ∀ k, rout st s t b k ≤ b ∧ (∀ o n, 1 ≤ o → o ≤ k → 3 ≤ n → n ≤ s o → rout st s t b k ≤ st n o + t n)
  | 0 => ⟨Int.le_refl _, fun o n h1 h2 => by omega⟩
  | k + 1 => by
    have ih := rout_le b k
    simp only [rout]
    have hr := rin_le st t (k + 1) (rout st s t b k) (s (k + 1) - 2)
    refine ⟨by omega, fun o n h1 h2 h3 h4 => ?_⟩
    by_cases h : o ≤ k
    · have := ih.2 o n h1 h h3 h4; omega
    · obtain rfl : o = k + 1 := by omega
      exact hr.2 n h3 (by omega)
theorem rout_at (b : Int) : ∀ k, rout st s t b k = b ∨ ∃ o n, 1 ≤ o ∧ o ≤ k ∧ 3 ≤ n ∧ n ≤ s o ∧ rout st s t b k = st n o + t n
  | 0 => .inl rfl
  | k + 1 => by
    simp only [rout]
    rcases rin_at st t (k + 1) (rout st s t b k) (s (k + 1) - 2) with e | ⟨n, h1, h2, h3⟩
    · rw [e]
      rcases rout_at b k with e2 | ⟨o, n, h1, h2, h3, h4, h5⟩
      · exact .inl e2
      · exact .inr ⟨o, n, h1, by omega, h3, h4, h5⟩
    · exact .inr ⟨k + 1, n, by omega, Nat.le_refl _, h1, by omega, h3⟩
theorem pick_le (k : Nat) (b : Int) : ∀ j, (pick st s t k b j).2.2 ≤ b ∧ (∀ n, n < j → nearF s k n ≠ 0 → (pick st s t k b j).2.2 ≤ st n (nearF s k n) + t n)
  | 0 => ⟨Int.le_refl _, fun n h => by omega⟩
  | j + 1 => by
    have ih := pick_le k b j
    simp only [pick]
    by_cases h : nearF s k j ≠ 0 ∧ st j (nearF s k j) + t j < (pick st s t k b j).2.2
    · rw [if_pos h]
      refine ⟨by show st j (nearF s k j) + t j ≤ b; omega, fun n h1 h2 => ?_⟩
      show st j (nearF s k j) + t j ≤ _
      by_cases hn : n < j
      · have := ih.2 n hn h2; omega
      · obtain rfl : n = j := by omega
        exact Int.le_refl _
    · rw [if_neg h]
      refine ⟨ih.1, fun n h1 h2 => ?_⟩
      by_cases hn : n < j
      · exact ih.2 n hn h2
      · obtain rfl : n = j := by omega
        have : ¬ st n (nearF s k n) + t n < (pick st s t k b n).2.2 := fun c => h ⟨h2, c⟩
        omega
theorem pick_at (k : Nat) (b : Int) : ∀ j, pick st s t k b j = (0, 0, b) ∨ ∃ n, n < j ∧ nearF s k n ≠ 0 ∧ pick st s t k b j = (n, nearF s k n, st n (nearF s k n) + t n)
  | 0 => .inl rfl
  | j + 1 => by
    simp only [pick]
    by_cases h : nearF s k j ≠ 0 ∧ st j (nearF s k j) + t j < (pick st s t k b j).2.2
    · rw [if_pos h]; exact .inr ⟨j, by omega, h.1, rfl⟩
    · rw [if_neg h]
      rcases pick_at k b j with e | ⟨n, h1, h2, h3⟩
      · exact .inl e
      · exact .inr ⟨n, by omega, h2, h3⟩
/-- Both have the same cost. -/
theorem pick_rout (hmono : ∀ n o o', o ≤ o' → st n o ≤ st n o') (k : Nat) (b : Int) : (pick st s t k b (nlen s k)).2.2 = rout st s t b k := by
  have hr := rout_le st s t b k
  have hp := pick_le st s t k b (nlen s k)
  apply Int.le_antisymm
  · rcases rout_at st s t b k with e | ⟨o, n, h1, h2, h3, h4, h5⟩
    · rw [e]; exact hp.1
    · rw [h5]
      have hl := lo_min s n o h1 h4 k h2
      have hm := (lo_ne s n (by omega) k).1 hl.1
      have hf : nearF s k n = lo s n k := by unfold nearF; rw [if_neg (by omega)]
      have := hp.2 n (by unfold nlen; split <;> omega) (by rw [hf]; exact hl.1)
      rw [hf] at this
      have h6 := hmono n _ _ hl.2
      omega
  · rcases pick_at st s t k b (nlen s k) with e | ⟨n, h1, h2, h3⟩
    · rw [e]; exact hr.1
    · rw [h3]
      show rout st s t b k ≤ st n (nearF s k n) + t n
      obtain ⟨a, e, c⟩ := nearF_ne s k n h2
      rw [e]
      exact hr.2 _ n (by omega) (lo_le s n k) a (lo_at s n k c)
end
section
variable (st : Nat → Nat → Int) (S : Nat → Nat → Nat) (D n : Nat)
def zc : Chc := (0, 0, 0)
/-- The choices of the last r places, and of the end. -/
def tab : Nat → List Chc
  | 0 => [zc]
  | r + 1 => pick st (S (n - (r + 1))) (fun j => ((tab r).getD (j - 1) zc).2.2) (D + (n - (r + 1))) (((tab r).getD 0 zc).2.2 + 8) (nlen (S (n - (r + 1))) (D + (n - (r + 1)))) :: tab r
def chc (r : Nat) : Chc := pick st (S (n - (r + 1))) (fun j => ((tab st S D n r).getD (j - 1) zc).2.2) (D + (n - (r + 1))) (((tab st S D n r).getD 0 zc).2.2 + 8) (nlen (S (n - (r + 1))) (D + (n - (r + 1))))
theorem tab_succ (r : Nat) : tab st S D n (r + 1) = chc st S D n r :: tab st S D n r := rfl
theorem tab_length : ∀ r, (tab st S D n r).length = r + 1
  | 0 => rfl
  | r + 1 => by rw [tab_succ, List.length_cons, tab_length r]
theorem tab_drop : ∀ (r i : Nat), i ≤ r → ∀ j, (tab st S D n r).getD (i + j) zc = (tab st S D n (r - i)).getD j zc
  | r, 0, _, j => by rw [Nat.zero_add]; rfl
  | 0, i + 1, h, j => by omega
  | r + 1, i + 1, h, j => by
    rw [tab_succ, show i + 1 + j = (i + j) + 1 by omega, List.getD_cons_succ, tab_drop r i (by omega) j, show r + 1 - (i + 1) = r - i by omega]
/-- The least cost from a place on. -/
def cst (at_ : Nat) : Int := ((tab st S D n n).getD at_ zc).2.2
theorem tab_cst (at_ : Nat) (h : at_ ≤ n) : cst st S D n at_ = ((tab st S D n (n - at_)).getD 0 zc).2.2 := by
  unfold cst
  have := tab_drop st S D n n at_ h 0
  rw [Nat.add_zero] at this
  rw [this]
theorem cst_end : cst st S D n n = 0 := by
  rw [tab_cst st S D n n (Nat.le_refl _), Nat.sub_self]; rfl
theorem cst_get (at_ i : Nat) (h : at_ < n) : ((tab st S D n (n - (at_ + 1))).getD i zc).2.2 = cst st S D n (at_ + 1 + i) := by
  unfold cst
  rw [← tab_drop st S D n n (at_ + 1) (by omega) i]
/-- What is best at a place. -/
def bst (at_ : Nat) : Chc := (tab st S D n n).getD at_ zc
theorem bst_eq (at_ : Nat) (h : at_ < n) : bst st S D n at_ = pick st (S at_) (fun j => ((tab st S D n (n - (at_ + 1))).getD (j - 1) zc).2.2) (D + at_) (cst st S D n (at_ + 1) + 8) (nlen (S at_) (D + at_)) := by
  unfold bst
  have := tab_drop st S D n n at_ (by omega) 0
  rw [Nat.add_zero] at this
  rw [this, show n - at_ = (n - (at_ + 1)) + 1 by omega, tab_succ, List.getD_cons_zero]
  unfold chc
  have h2 := cst_get st S D n at_ 0 h
  rw [Nat.add_zero] at h2
  rw [h2, show n - (n - (at_ + 1) + 1) = at_ by omega]
theorem bst_cost (at_ : Nat) : (bst st S D n at_).2.2 = cst st S D n at_ := rfl
/-- A literal, or a match that is one. -/
def Good (S : Nat → Nat → Nat) (D n : Nat) (st : Nat → Nat → Int) (C : Nat → Chc) (at_ : Nat) : Prop :=
  ((C at_).1 = 0 ∧ (C at_).2.2 = (C (at_ + 1)).2.2 + 8) ∨
  (3 ≤ (C at_).1 ∧ (C at_).1 ≤ S at_ (C at_).2.1 ∧ 1 ≤ (C at_).2.1 ∧ (C at_).2.1 ≤ D + at_ ∧ (C at_).2.2 = st (C at_).1 (C at_).2.1 + (C (at_ + (C at_).1)).2.2)
theorem bst_good (at_ : Nat) (h : at_ < n) : Good S D n st (bst st S D n) at_ := by
  rcases pick_at st (S at_) (fun j => ((tab st S D n (n - (at_ + 1))).getD (j - 1) zc).2.2) (D + at_) (cst st S D n (at_ + 1) + 8) (nlen (S at_) (D + at_)) with e | ⟨m, h1, h2, h3⟩
  · rw [← bst_eq st S D n at_ h] at e
    left
    rw [e]
    exact ⟨rfl, rfl⟩
  · rw [← bst_eq st S D n at_ h] at h3
    right
    rw [h3]
    obtain ⟨a, e, c⟩ := nearF_ne _ _ _ h2
    refine ⟨a, ?_, by show 1 ≤ nearF _ _ _; omega, by show nearF _ _ _ ≤ _; rw [e]; exact lo_le _ _ _, ?_⟩
    · show m ≤ S at_ (nearF _ _ _)
      rw [e]; exact lo_at _ _ _ c
    · show st m (nearF _ _ _) + _ = _
      congr 1
      rw [cst_get st S D n at_ (m - 1) h, show at_ + 1 + (m - 1) = at_ + m by omega]
      rfl
theorem cst_le (hmono : ∀ m o o', o ≤ o' → st m o ≤ st m o') (at_ : Nat) (h : at_ < n) : cst st S D n at_ ≤ cst st S D n (at_ + 1) + 8 ∧ ∀ o m, 1 ≤ o → o ≤ D + at_ → 3 ≤ m → m ≤ S at_ o → cst st S D n at_ ≤ st m o + cst st S D n (at_ + m) := by
  have e : cst st S D n at_ = rout st (S at_) (fun j => ((tab st S D n (n - (at_ + 1))).getD (j - 1) zc).2.2) (cst st S D n (at_ + 1) + 8) (D + at_) := by
    rw [← bst_cost, bst_eq st S D n at_ h, pick_rout _ _ _ hmono]
  have := rout_le st (S at_) (fun j => ((tab st S D n (n - (at_ + 1))).getD (j - 1) zc).2.2) (cst st S D n (at_ + 1) + 8) (D + at_)
  rw [← e] at this
  refine ⟨this.1, fun o m h1 h2 h3 h4 => ?_⟩
  have h5 := this.2 o m h1 h2 h3 h4
  rw [cst_get st S D n at_ (m - 1) h, show at_ + 1 + (m - 1) = at_ + m by omega] at h5
  exact h5
end
end Go.Proofs.Ytfijbhacobjjgad.Pl
