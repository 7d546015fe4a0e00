/- Plain law of chapter 49: texts and how often they came; which come first. -/
import Derived.Test.YtfijbhacobjjgahHeap
namespace Go.Proofs.Ytfijbhacobjjgah.Pl
open Go.Proofs.Ytfijbhacobjjgah.Hp
set_option linter.unusedSimpArgs false
set_option linter.unusedVariables false
abbrev bl := Go.Op.bytesLess
theorem bl_irr : ∀ x : List UInt8, bl x x = false
  | [] => rfl
  | a :: x => by simp [bl, Go.Op.bytesLess]; exact bl_irr x
theorem bl_asym : ∀ x y : List UInt8, bl x y = true → bl y x = false
  | _, [], h => by simp [bl, Go.Op.bytesLess] at h
  | [], b :: y, _ => rfl
  | a :: x, b :: y, h => by
    simp only [bl, Go.Op.bytesLess, Bool.or_eq_true, Bool.and_eq_true, decide_eq_true_eq, beq_iff_eq] at h
    simp only [bl, Go.Op.bytesLess, Bool.or_eq_false_iff, decide_eq_false_iff_not, Bool.and_eq_false_iff, beq_eq_false_iff_ne]
    rcases h with h | ⟨rfl, h⟩
    · refine ⟨fun e => ?_, .inl fun e => ?_⟩
      · exact absurd (UInt8.lt_trans h e) (UInt8.lt_irrefl _)
      · subst e; exact absurd h (UInt8.lt_irrefl _)
    · exact ⟨UInt8.lt_irrefl _, .inr (bl_asym x y h)⟩
theorem u8_tri (a b : UInt8) : a < b ∨ a = b ∨ b < a := by
  rcases Nat.lt_trichotomy a.toNat b.toNat with h | h | h
  · exact .inl (UInt8.lt_iff_toNat_lt.2 h)
  · exact .inr (.inl (UInt8.toNat_inj.1 h))
  · exact .inr (.inr (UInt8.lt_iff_toNat_lt.2 h))
theorem bl_tot : ∀ x y : List UInt8, bl x y = true ∨ x = y ∨ bl y x = true
  | [], [] => .inr (.inl rfl)
  | [], _ :: _ => .inl rfl
  | _ :: _, [] => .inr (.inr rfl)
  | a :: x, b :: y => by
    simp only [bl, Go.Op.bytesLess, Bool.or_eq_true, Bool.and_eq_true, decide_eq_true_eq, beq_iff_eq, List.cons.injEq]
    rcases u8_tri a b with h | rfl | h
    · exact .inl (.inl h)
    · rcases bl_tot x y with h | rfl | h
      · exact .inl (.inr ⟨rfl, h⟩)
      · exact .inr (.inl ⟨rfl, rfl⟩)
      · exact .inr (.inr (.inr ⟨rfl, h⟩))
    · exact .inr (.inr (.inl h))
theorem bl_trans : ∀ x y z : List UInt8, bl x y = true → bl y z = true → bl x z = true
  | _, [], _, h, _ => by simp [bl, Go.Op.bytesLess] at h
  | _, _ :: _, [], _, h => by simp [bl, Go.Op.bytesLess] at h
  | [], _ :: _, _ :: _, _, _ => rfl
  | a :: x, b :: y, c :: z, h, k => by
    simp only [bl, Go.Op.bytesLess, Bool.or_eq_true, Bool.and_eq_true, decide_eq_true_eq, beq_iff_eq] at h k ⊢
    rcases h with h | ⟨rfl, h⟩ <;> rcases k with k | ⟨rfl, k⟩
    · exact .inl (UInt8.lt_trans h k)
    · exact .inl h
    · exact .inl k
    · exact .inr ⟨rfl, bl_trans x y z h k⟩
/-- A text, and its count. -/
structure It where
  t : ByteArray
  c : Int
def ilt (x y : It) : Bool := decide (y.c < x.c) || (decide (x.c = y.c) && bl x.t.toList y.t.toList)
theorem ilt_iff (x y : It) : ilt x y = true ↔ y.c < x.c ∨ (x.c = y.c ∧ bl x.t.toList y.t.toList = true) := by simp [ilt]
theorem ilt_not (x y : It) : ilt x y = false ↔ ¬ (y.c < x.c ∨ (x.c = y.c ∧ bl x.t.toList y.t.toList = true)) := by rw [← ilt_iff]; simp
theorem ilt_irr (x : It) : ilt x x = false := by rw [ilt_not]; rintro (h | ⟨_, h⟩); omega; rw [bl_irr] at h; cases h
theorem ilt_asym {x y : It} (h : ilt x y = true) : ilt y x = false := by
  rw [ilt_iff] at h
  rw [ilt_not]
  rintro (k | ⟨k, k2⟩)
  · rcases h with h | ⟨h, _⟩ <;> omega
  · rcases h with h | ⟨h, h2⟩
    · omega
    · rw [bl_asym _ _ h2] at k2; cases k2
theorem ilt_trans {x y z : It} (h : ilt x y = true) (k : ilt y z = true) : ilt x z = true := by
  rw [ilt_iff] at h k ⊢
  rcases h with h | ⟨h, h2⟩ <;> rcases k with k | ⟨k, k2⟩
  · left; omega
  · left; omega
  · left; omega
  · exact .inr ⟨by omega, bl_trans _ _ _ h2 k2⟩
theorem toList_inj {x y : ByteArray} (h : x.toList = y.toList) : x = y := by
  rw [ByteArray.toList_eq, ByteArray.toList_eq] at h
  cases x; cases y; simp at h; subst h; rfl
theorem ilt_tot (x y : It) : ilt x y = true ∨ (x.t = y.t ∧ x.c = y.c) ∨ ilt y x = true := by
  rw [ilt_iff, ilt_iff]
  rcases Int.lt_trichotomy x.c y.c with h | h | h
  · exact .inr (.inr (.inl h))
  · rcases bl_tot x.t.toList y.t.toList with k | k | k
    · exact .inl (.inr ⟨h, k⟩)
    · exact .inr (.inl ⟨toList_inj k, h⟩)
    · exact .inr (.inr (.inr ⟨h.symm, k⟩))
  · exact .inl (.inl h)
theorem ilt_ord : Ord ilt := ⟨fun a b h => ilt_asym h, fun a b c h k => by
  cases e : ilt c a
  · rfl
  · exfalso
    -- b ≤ a, c ≤ b (none less the other way), yet c before a
    rcases ilt_tot a b with h1 | ⟨h1, h2⟩ | h1
    · have := ilt_trans e h1
      rw [this] at k; cases k
    · have : ilt c b = true := by
        rw [ilt_iff] at e ⊢
        rw [h1, h2] at e
        exact e
      rw [this] at k; cases k
    · rw [h1] at h; cases h⟩
end Go.Proofs.Ytfijbhacobjjgah.Pl
