/- The sums in plain numbers: what sum.State's Add, sum.Of and the document's Of answer. -/
import Derived.Test.YtfcpjblogeofpaaSumPre
namespace Go.Proofs.Ytfcpjblogeofpaa.PSumTexts
open Go.RowKit Go.Proofs.YtfcpjblogeofpaaW.PrintWords Go.Proofs.YtfcpjblogeofpaaW.PrintLast Go.Proofs.YtfcpjblogeofpaaW.PrintMore
set_option linter.unusedVariables false
set_option linter.unusedSimpArgs false

theorem wrap_inc {i : Nat} {n : Nat} (h : i < n) (hn : n ≤ 140737488351232) : wrap64 ((i : Int) + 1) = ((i + 1 : Nat) : Int) := by
  unfold wrap64
  omega
theorem u64_range (x : Int) : 0 ≤ IntKind.u64.wrap x ∧ IntKind.u64.wrap x < 18446744073709551616 := by
  have h : IntKind.u64.wrap x = x % 18446744073709551616 := by rfl
  rw [h]
  omega
theorem u64_small {x : Int} (h0 : 0 ≤ x) (h : x < 18446744073709551616) : IntKind.u64.wrap x = x := by
  have e : IntKind.u64.wrap x = x % 18446744073709551616 := by rfl
  rw [e]
  omega
theorem div_same (x c : Int) (hc : 0 < c) : IntKind.u64.wrap (Int.tdiv (IntKind.u64.wrap x) c) = IntKind.u64.wrap x / c := by
  obtain ⟨h0, h1⟩ := u64_range x
  rw [Int.tdiv_eq_ediv_of_nonneg h0]
  have h2 : 0 ≤ IntKind.u64.wrap x / c := Int.ediv_nonneg h0 (by omega)
  have h3 : IntKind.u64.wrap x / c ≤ IntKind.u64.wrap x := Int.ediv_le_self _ h0
  exact u64_small h2 (by omega)

theorem stA_snd (t : ByteArray) (s : Int × Int) (k : Nat) : (stA t s k).2 = IntKind.u64.wrap (s.2 + k) ∨ k = 0 := by
  induction k with
  | zero => exact .inr rfl
  | succ k ih =>
    refine .inl ?_
    show IntKind.u64.wrap ((stA t s k).2 + 1) = _
    have e (x : Int) : IntKind.u64.wrap x = x % 18446744073709551616 := by rfl
    rcases ih with ih | rfl
    · rw [ih]
      simp only [e]
      omega
    · show IntKind.u64.wrap (s.2 + 1) = _
      simp
theorem stA_count (t : ByteArray) (k : Nat) (hk : k ≤ 140737488351232) : (stA t new0 k).2 = k := by
  rcases stA_snd t new0 k with h | rfl
  · rw [h]
    show IntKind.u64.wrap (0 + (k : Int)) = _
    rw [Int.zero_add]
    exact u64_small (by omega) (by omega)
  · rfl

theorem add_l (t : ByteArray) (s : Int × Int) (hn : t.size ≤ 140737488351232) (d : Nat) : ∀ (f k : Nat), k + d = t.size → d < f →
    sum_State_Add.l0 f t (t.size : Int) (k : Int) (stA t s k).1 (stA t s k).2 = some ((stA t s t.size).1, (stA t s t.size).2) := by
  induction d with
  | zero =>
    intro f k hk hf
    obtain ⟨f, rfl⟩ : ∃ m, f = m + 1 := ⟨f - 1, by omega⟩
    obtain rfl : k = t.size := by omega
    simp only [sum_State_Add.l0]
    rw [if_neg (by omega)]
  | succ d ih =>
    intro f k hk hf
    obtain ⟨f, rfl⟩ : ∃ m, f = m + 1 := ⟨f - 1, by omega⟩
    simp only [sum_State_Add.l0]
    rw [if_pos (by omega), if_pos (by omega), if_pos (by omega), byte_f, Option.bind_some, wrap_inc (n := t.size) (by omega) hn]
    exact ih f (k + 1) (by omega) (by omega)
theorem add_f (t : ByteArray) (s : Int × Int) (hn : t.size ≤ 140737488351232) : sum_State_Add.f (t.size + 1) s.1 s.2 t = some ((stA t s t.size).1, (stA t s t.size).2) :=
  add_l t s hn t.size (t.size + 1) 0 (by omega) (by omega)
theorem of_f (t : ByteArray) (hn : t.size ≤ 140737488351232) : sum_Of.f (t.size + 1) t = some (sumS (stA t new0 t.size)) := by
  unfold sum_Of.f
  have h := add_f t new0 hn
  show (some new0).bind _ = _
  rw [Option.bind_some, h, Option.bind_some, sum_f, Option.bind_some]

theorem ref_l (t : ByteArray) (hn : t.size ≤ 140737488351232) (d : Nat) : ∀ (f k : Nat), k + d = t.size → d < f →
    pemmicanref04_Of.l0 f t (stA t new0 k).1 (k : Int) = some (sumS (stA t new0 t.size)) := by
  induction d with
  | zero =>
    intro f k hk hf
    obtain ⟨f, rfl⟩ : ∃ m, f = m + 1 := ⟨f - 1, by omega⟩
    obtain rfl : k = t.size := by omega
    simp only [pemmicanref04_Of.l0]
    rw [if_neg (by omega), div_same _ _ (by decide), u64_small (x := (t.size : Int)) (by omega) (by omega)]
    show _ = some (sumS ((stA t new0 t.size).1, (stA t new0 t.size).2))
    rw [stA_count t t.size hn]
    rfl
  | succ d ih =>
    intro f k hk hf
    obtain ⟨f, rfl⟩ : ∃ m, f = m + 1 := ⟨f - 1, by omega⟩
    simp only [pemmicanref04_Of.l0]
    rw [if_pos (by omega), if_pos (by omega), div_same _ _ (by decide), wrap_inc (n := t.size) (by omega) hn]
    exact ih f (k + 1) (by omega) (by omega)
theorem ref_f (t : ByteArray) (hn : t.size ≤ 140737488351232) : pemmicanref04_Of.f (t.size + 1) t = some (sumS (stA t new0 t.size)) :=
  ref_l t hn t.size (t.size + 1) 0 (by omega) (by omega)

theorem bt_extract (t : ByteArray) (a b i : Nat) (hb : b ≤ t.size) (hi : a + i < b) : bt (t.extract a b) (i : Int) = bt t ((a + i : Nat) : Int) := by
  unfold bt
  have h1 : (i : Int).toNat = i := by omega
  have h2 : ((a + i : Nat) : Int).toNat = a + i := by omega
  have h3 : i < (t.extract a b).size := by rw [ByteArray.size_extract]; omega
  rw [dif_pos (by omega), dif_pos (by omega)]
  simp only [h1, h2]
  rw [ByteArray.getElem_extract]
theorem stA_extract (t : ByteArray) (s : Int × Int) (a b : Nat) (hb : b ≤ t.size) (k : Nat) (hk : a + k ≤ b) : ∀ (s0 : Int × Int), stA t s0 a = s → stA (t.extract a b) s k = stA t s0 (a + k) := by
  intro s0 h0
  induction k with
  | zero => exact h0.symm
  | succ k ih =>
    show stepB (stA (t.extract a b) s k) (bt (t.extract a b) k) = stepB (stA t s0 (a + k)) (bt t ((a + k : Nat) : Int))
    rw [ih (by omega), bt_extract t a b k hb (by omega)]
theorem stA_head (t : ByteArray) (s : Int × Int) (k : Nat) (hk : k ≤ t.size) : stA (t.extract 0 k) s (t.extract 0 k).size = stA t s k := by
  have e : (t.extract 0 k).size = k := by rw [ByteArray.size_extract]; omega
  rw [e]
  have := stA_extract t s 0 k hk k (by omega) s rfl
  rwa [Nat.zero_add] at this
theorem stA_tail (t : ByteArray) (s : Int × Int) (k : Nat) (hk : k ≤ t.size) : stA (t.extract k t.size) (stA t s k) (t.extract k t.size).size = stA t s t.size := by
  have e : (t.extract k t.size).size = t.size - k := by rw [ByteArray.size_extract]; omega
  rw [e]
  have := stA_extract t (stA t s k) k t.size (Nat.le_refl _) (t.size - k) (by omega) s rfl
  rwa [show k + (t.size - k) = t.size by omega] at this
end Go.Proofs.Ytfcpjblogeofpaa.PSumTexts
