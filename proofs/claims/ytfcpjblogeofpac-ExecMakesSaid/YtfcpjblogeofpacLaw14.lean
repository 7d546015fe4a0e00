/- Plain law of chapter 14: steps, done. -/
namespace Go.Proofs.Ytfcpjblogeofpac.Pl
set_option linter.unusedSimpArgs false
abbrev Bs := List UInt8
/-- A match, byte by byte. -/
def cop (off : Nat) : Nat → Bs → Bs
  | 0, b => b
  | n + 1, b => cop off n (b ++ [b.getD (b.length - off) 0])
abbrev Stp := Int × Int × Int
/-- All steps: what is made behind a dictionary of so many bytes; the error. -/
def run (ah : Nat) (lim : Int) : List Stp → Bs → Bs → Bs × Int
  | [], b, lits => if (lits.length : Int) ≤ lim - ((b.length : Int) - ah) then ((b ++ lits).drop ah, 0) else ([], 5)
  | s :: r, b, lits =>
    if s.1 < 0 ∨ (lits.length : Int) < s.1 then ([], 3)
    else if ¬ s.1 ≤ lim - ((b.length : Int) - ah) then ([], 5)
    else if s.2.1 < 3 ∨ s.2.2 < 1 ∨ ((b ++ lits.take s.1.toNat).length : Int) < s.2.2 then ([], 3)
    else if ¬ s.2.1 ≤ lim - (((b ++ lits.take s.1.toNat).length : Int) - ah) then ([], 5)
    else run ah lim r (cop s.2.2.toNat s.2.1.toNat (b ++ lits.take s.1.toNat)) (lits.drop s.1.toNat)
theorem cop_length (off : Nat) : ∀ (n : Nat) (b : Bs), (cop off n b).length = b.length + n
  | 0, b => rfl
  | n + 1, b => by
    simp only [cop]
    rw [cop_length off n, List.length_append, List.length_singleton]
    omega
theorem cop_prefix (off : Nat) : ∀ (n : Nat) (b : Bs), b <+: cop off n b
  | 0, b => List.prefix_refl b
  | n + 1, b => (List.prefix_append b _).trans (cop_prefix off n _)
theorem cop_succ (off : Nat) : ∀ (n : Nat) (b : Bs), cop off (n + 1) b = cop off n b ++ [(cop off n b).getD ((cop off n b).length - off) 0]
  | 0, b => rfl
  | n + 1, b => by
    rw [cop, cop_succ off n]
    rfl
def mats : List Stp → Int
  | [] => 0
  | s :: r => s.2.1 + mats r
/-- What is known when all went well. -/
theorem run_ok {ah : Nat} {lim : Int} : ∀ {l : List Stp} {b lits r : Bs}, run ah lim l b lits = (r, 0) → ah ≤ b.length → (r.length : Int) = (b.length : Int) - ah + lits.length + mats l ∧ (r.length : Int) ≤ lim ∧ (∀ s ∈ l, 3 ≤ s.2.1 ∧ s.2.1 ≤ lim)
  | [], b, lits, r, h, ha => by
    simp only [run] at h
    split at h
    · simp only [Prod.mk.injEq, and_true] at h
      subst h
      simp only [List.length_drop, List.length_append, mats]
      refine ⟨by omega, by omega, by simp⟩
    · simp at h
  | s :: l, b, lits, r, h, ha => by
    simp only [run] at h
    split at h
    · simp at h
    · rename_i h1
      split at h
      · simp at h
      · rename_i h2
        split at h
        · simp at h
        · rename_i h3
          split at h
          · simp at h
          · rename_i h4
            have h2' := Decidable.not_not.1 h2
            have h4' := Decidable.not_not.1 h4
            have hl : (b ++ lits.take s.1.toNat).length = b.length + s.1.toNat := by
              rw [List.length_append, List.length_take]; omega
            rw [hl] at h3 h4'
            have ih := run_ok h (by rw [cop_length, hl]; omega)
            rw [cop_length, hl, List.length_drop] at ih
            refine ⟨by simp only [mats]; omega, ih.2.1, ?_⟩
            intro x hx
            rcases List.mem_cons.1 hx with rfl | hx
            · exact ⟨by omega, by omega⟩
            · exact ih.2.2 x hx
theorem run_err {ah : Nat} {lim : Int} : ∀ {l : List Stp} {b lits r : Bs} {e : Int}, run ah lim l b lits = (r, e) → (e = 0 ∨ e = 3 ∨ e = 5) ∧ (e ≠ 0 → r = [])
  | [], b, lits, r, e, h => by
    simp only [run] at h
    split at h <;> simp only [Prod.mk.injEq] at h <;> obtain ⟨rfl, rfl⟩ := h <;> simp
  | s :: l, b, lits, r, e, h => by
    simp only [run] at h
    split at h
    · simp only [Prod.mk.injEq] at h; obtain ⟨rfl, rfl⟩ := h; simp
    · split at h
      · simp only [Prod.mk.injEq] at h; obtain ⟨rfl, rfl⟩ := h; simp
      · split at h
        · simp only [Prod.mk.injEq] at h; obtain ⟨rfl, rfl⟩ := h; simp
        · split at h
          · simp only [Prod.mk.injEq] at h; obtain ⟨rfl, rfl⟩ := h; simp
          · exact run_err h
/-- Which steps make a text: all bytes, a place in them. -/
def okStep (n a : Int) (s : Stp) : Prop := 0 ≤ s.1 ∧ s.1 ≤ n ∧ 3 ≤ s.2.1 ∧ s.2.1 ≤ n ∧ 1 ≤ s.2.2 ∧ s.2.2 ≤ n ∧ a + s.1 + s.2.1 ≤ n ∧ s.2.2 ≤ a + s.1
def right (all : Bs) : List Stp → Nat → Prop
  | [], _ => True
  | s :: r, a => okStep all.length a s ∧ (∀ k, k < s.2.1.toNat → all.getD (a + s.1.toNat + k) 0 = all.getD (a + s.1.toNat + k - s.2.2.toNat) 0) ∧ right all r (a + s.1.toNat + s.2.1.toNat)
def litsOf (t : Bs) : List Stp → Nat → Bs
  | [], a => t.drop a
  | s :: r, a => (t.drop a).take s.1.toNat ++ litsOf t r (a + s.1.toNat + s.2.1.toNat)
theorem prefix_getD {b c : Bs} (h : b <+: c) (i : Nat) (hi : i < b.length) : c.getD i 0 = b.getD i 0 := by
  obtain ⟨d, rfl⟩ := h
  simp [List.getD_eq_getElem?_getD, List.getElem?_append_left hi]
theorem cop_get (off : Nat) (h1 : 1 ≤ off) : ∀ (n : Nat) (b : Bs), off ≤ b.length → ∀ k, k < n → (cop off n b).getD (b.length + k) 0 = (cop off n b).getD (b.length + k - off) 0
  | 0, b, _, k, hk => by omega
  | n + 1, b, h, k, hk => by
    have hp : b ++ [b.getD (b.length - off) 0] <+: cop off n (b ++ [b.getD (b.length - off) 0]) := cop_prefix off n _
    simp only [cop]
    cases k with
    | zero =>
      rw [prefix_getD hp _ (by simp), prefix_getD hp _ (by simp; omega), Nat.add_zero]
      simp only [List.getD_eq_getElem?_getD]
      rw [List.getElem?_append_right (Nat.le_refl _), List.getElem?_append_left (by omega)]
      simp
    | succ k =>
      have ih := cop_get off h1 n (b ++ [b.getD (b.length - off) 0]) (by simp; omega) k (by omega)
      rw [List.length_append, List.length_singleton] at ih
      rw [show b.length + (k + 1) = b.length + 1 + k by omega, ih]
theorem run_right {ah : Nat} {lim : Int} : ∀ {l : List Stp} {b lits r : Bs}, run ah lim l b lits = (r, 0) → ah ≤ b.length →
    b <+: b.take ah ++ r ∧ right (b.take ah ++ r) l b.length ∧ litsOf r l (b.length - ah) = lits
  | [], b, lits, r, h, ha => by
    simp only [run] at h
    split at h
    · simp only [Prod.mk.injEq, and_true] at h
      subst h
      have e : b.take ah ++ (b ++ lits).drop ah = b ++ lits := by
        have : b.take ah = (b ++ lits).take ah := by rw [List.take_append_of_le_length ha]
        rw [this, List.take_append_drop]
      rw [e]
      refine ⟨List.prefix_append _ _, trivial, ?_⟩
      simp only [litsOf, List.drop_drop]
      rw [show ah + (b.length - ah) = b.length by omega]
      simp
    · simp at h
  | s :: l, b, lits, r, h, ha => by
    simp only [run] at h
    split at h
    · simp at h
    · rename_i h1
      split at h
      · simp at h
      · rename_i h2
        split at h
        · simp at h
        · rename_i h3
          split at h
          · simp at h
          · rename_i h4
            have h2' := Decidable.not_not.1 h2
            have h4' := Decidable.not_not.1 h4
            obtain ⟨c, hc⟩ : ∃ c, lits.take s.1.toNat = c := ⟨_, rfl⟩
            have hcl : c.length = s.1.toNat := by rw [← hc, List.length_take]; omega
            rw [hc] at h h3 h4'
            have hl : (b ++ c).length = b.length + s.1.toNat := by rw [List.length_append, hcl]
            rw [hl] at h3 h4'
            obtain ⟨i1, i2, i3⟩ := run_right h (by rw [cop_length, hl]; omega)
            have hp1 : b ++ c <+: cop s.2.2.toNat s.2.1.toNat (b ++ c) := cop_prefix _ _ _
            have ht : (cop s.2.2.toNat s.2.1.toNat (b ++ c)).take ah = b.take ah := by
              obtain ⟨d, hd⟩ := (List.prefix_append b c).trans hp1
              rw [← hd, List.take_append_of_le_length ha]
            rw [ht] at i1 i2
            rw [cop_length, hl] at i2 i3
            have hp2 : b ++ c <+: b.take ah ++ r := hp1.trans i1
            have hlen := i1.length_le
            rw [cop_length, hl] at hlen
            refine ⟨(List.prefix_append b c).trans hp2, ⟨?_, ?_, i2⟩, ?_⟩
            · unfold okStep
              refine ⟨by omega, by omega, by omega, by omega, by omega, by omega, by omega, by omega⟩
            · intro k hk
              have hg := cop_get s.2.2.toNat (by omega) s.2.1.toNat (b ++ c) (by rw [hl]; omega) k hk
              rw [hl] at hg
              rw [prefix_getD i1 _ (by rw [cop_length, hl]; omega), prefix_getD i1 _ (by rw [cop_length, hl]; omega), hg]
            · simp only [litsOf]
              rw [show b.length - ah + s.1.toNat + s.2.1.toNat = b.length + s.1.toNat + s.2.1.toNat - ah by omega, i3]
              have e : r.drop (b.length - ah) = (b.take ah ++ r).drop b.length := by
                have e1 : (b.take ah).drop b.length = [] := List.drop_of_length_le (by rw [List.length_take]; omega)
                rw [List.drop_append, e1, List.length_take, Nat.min_eq_left ha, List.nil_append]
              rw [e]
              obtain ⟨d, hd⟩ := hp2
              rw [← hd, List.append_assoc, List.drop_left, ← hcl, List.take_left, hcl, ← hc]
              exact List.take_append_drop _ _
end Go.Proofs.Ytfcpjblogeofpac.Pl
