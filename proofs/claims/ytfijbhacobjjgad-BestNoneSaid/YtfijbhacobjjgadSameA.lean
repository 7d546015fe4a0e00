/- How many bytes are the same: program and document. -/
import Derived.Test.YtfijbhacobjjgadProg
import Derived.Test.YtfijbhacobjjgadVals
import Derived.Test.YtfijbhacobjjgadWLast
import Derived.Test.YtfijbhacobjjgadWMore
import Derived.RegionTactic
import Derived.ChangeAlike
import Derived.BigRegion
import Derived.WalkLawsBesides
import Derived.WalkSpells
import Derived.Deep.LoopGhost
import Derived.Deep.QuietTactic
import Derived.BigQuiet
import Derived.OwnWalk
namespace Go.Proofs.Ytfijbhacobjjgad
open Go.RowKit Go.Proofs.YtfijbhacobjjgadW.PrintWords Go.Proofs.YtfijbhacobjjgadW.PrintLast Go.Proofs.YtfijbhacobjjgadW.PrintMore Go.Proofs.Ytfijbhacobjjgad.Fr
set_option linter.unusedVariables false
set_option linter.unusedSimpArgs false
attribute [local go_sem] max2_int min2_int max_two min_two
/-- How many bytes are the same. -/
def bg (T : ByteArray) (i : Nat) : UInt8 := T.data.toList.getD i 0
theorem bg_get (T : ByteArray) (i : Nat) (h : i < T.size) : T[i] = bg T i := by
  have h2 : i < T.data.toList.length := by simpa using h
  unfold bg
  rw [List.getD_eq_getElem?_getD, List.getElem?_eq_getElem h2]
  rfl
def cnt (T : ByteArray) (a b : Nat) : Nat → Nat → Nat
  | 0, k => k
  | f + 1, k => if a + k < T.size ∧ b + k < T.size ∧ bg T (a + k) = bg T (b + k) then cnt T a b f (k + 1) else k
def sm (T : ByteArray) (a b : Nat) : Nat := cnt T a b T.size 0
theorem cnt_ge (T : ByteArray) (a b : Nat) : ∀ f k, k ≤ cnt T a b f k
  | 0, k => Nat.le_refl _
  | f + 1, k => by
    simp only [cnt]
    split
    · exact Nat.le_trans (Nat.le_succ k) (cnt_ge T a b f (k + 1))
    · exact Nat.le_refl _
theorem cnt_all (T : ByteArray) (a b : Nat) : ∀ f k j, k ≤ j → j < cnt T a b f k → a + j < T.size ∧ b + j < T.size ∧ bg T (a + j) = bg T (b + j)
  | 0, k, j, h1, h2 => by simp only [cnt] at h2; omega
  | f + 1, k, j, h1, h2 => by
    simp only [cnt] at h2
    split at h2
    · rename_i h
      by_cases e : j = k
      · subst e; exact h
      · exact cnt_all T a b f (k + 1) j (by omega) h2
    · omega
theorem cnt_more (T : ByteArray) (a b : Nat) : ∀ f k, T.size ≤ f + k → ¬ (a + cnt T a b f k < T.size ∧ b + cnt T a b f k < T.size ∧ bg T (a + cnt T a b f k) = bg T (b + cnt T a b f k))
  | 0, k, h => by simp only [cnt]; omega
  | f + 1, k, h => by
    simp only [cnt]
    split
    · exact cnt_more T a b f (k + 1) (by omega)
    · rename_i h2; exact h2
theorem cnt_comm (T : ByteArray) (a b : Nat) : ∀ f k, cnt T a b f k = cnt T b a f k
  | 0, k => rfl
  | f + 1, k => by
    simp only [cnt]
    rw [cnt_comm T a b f (k + 1)]
    by_cases h : a + k < T.size ∧ b + k < T.size ∧ bg T (a + k) = bg T (b + k)
    · rw [if_pos h, if_pos ⟨h.2.1, h.1, h.2.2.symm⟩]
    · rw [if_neg h, if_neg (fun k => h ⟨k.2.1, k.1, k.2.2.symm⟩)]
def smI (T : ByteArray) (a b : Int) : Nat := if a < 0 ∨ b < 0 ∨ (T.size : Int) < a ∨ (T.size : Int) < b then 0 else sm T a.toNat b.toNat
theorem smI_comm (T : ByteArray) (a b : Int) : smI T a b = smI T b a := by
  unfold smI sm
  by_cases h : a < 0 ∨ b < 0 ∨ (T.size : Int) < a ∨ (T.size : Int) < b
  · rw [if_pos h, if_pos (by omega)]
  · rw [if_neg h, if_neg (by omega), cnt_comm]
theorem sm_le (T : ByteArray) (a b : Nat) (ha : a ≤ T.size) : a + sm T a b ≤ T.size := by
  by_cases h : sm T a b = 0
  · omega
  · have := (cnt_all T a b T.size 0 (sm T a b - 1) (Nat.zero_le _) (by unfold sm at *; omega)).1
    omega
set_option maxRecDepth 100000 in
set_option maxHeartbeats 1000000 in
theorem same_any (T : ByteArray) (a b : Int) (hT : T.size ≤ 1000000) (w : World) : Calls Try.prog 35 #[.string T, .int .i64 a, .int .i64 b] w fun e w' => e = .returned (.int .i64 (smI T a b)) ∧ Drawn0 w w' := by
  have HD := Aside0.mk (Drawn0.refl w)
  by_cases h1 : a < 0
  · have E : Aside0 (smI T a b = 0) := ⟨by unfold smI; rw [if_pos (by omega)]⟩
    go_enter Try.func35, Try.ntmps35
    go_wp2
    go_ret
    rw [E.out]
    exact ⟨rfl, HD.out⟩
  by_cases h2 : b < 0
  · have E : Aside0 (smI T a b = 0) := ⟨by unfold smI; rw [if_pos (by omega)]⟩
    go_enter Try.func35, Try.ntmps35
    go_wp2
    go_ret
    rw [E.out]
    exact ⟨rfl, HD.out⟩
  by_cases h3 : (T.size : Int) < a
  · have E : Aside0 (smI T a b = 0) := ⟨by unfold smI; rw [if_pos (by omega)]⟩
    go_enter Try.func35, Try.ntmps35
    go_wp2
    go_ret
    rw [E.out]
    exact ⟨rfl, HD.out⟩
  by_cases h4 : (T.size : Int) < b
  · have E : Aside0 (smI T a b = 0) := ⟨by unfold smI; rw [if_pos (by omega)]⟩
    go_enter Try.func35, Try.ntmps35
    go_wp2
    go_ret
    rw [E.out]
    exact ⟨rfl, HD.out⟩
  obtain ⟨m, rfl⟩ : ∃ m : Nat, a = (m : Int) := ⟨a.toNat, by omega⟩
  obtain ⟨n, rfl⟩ : ∃ n : Nat, b = (n : Int) := ⟨b.toNat, by omega⟩
  have E : Aside0 (smI T m n = sm T m n) := ⟨by unfold smI; rw [if_neg (by omega)]; rfl⟩
  have hm : m ≤ T.size := by omega
  have hn : n ≤ T.size := by omega
  have q1 : decide ((m : Int) < 0) = false := decide_eq_false h1
  have q2 : decide ((n : Int) < 0) = false := decide_eq_false h2
  have q3 : decide ((T.size : Int) < (m : Int)) = false := decide_eq_false h3
  have q4 : decide ((T.size : Int) < (n : Int)) = false := decide_eq_false h4
  clear h1 h2 h3 h4
  go_enter Try.func35, Try.ntmps35
  go_wp2
  clear q1 q2 q3 q4
  go_loopw [7] (fun y wr => ∃ k : Nat, y = .int .i64 k ∧ k ≤ T.size ∧ Aside0 (cnt T m n (T.size - k) k = sm T m n) ∧ Aside0 (Drawn0 w wr)) (fun y _ => T.size - (intOf y).toNat)
  case atStart => exact ⟨0, rfl, Nat.zero_le _, ⟨rfl⟩, HD⟩
  case round =>
    obtain ⟨k, rfl, hk, HC, HD⟩ := hrel
    obtain ⟨i, hi⟩ : ∃ i : Nat, m + k = i := ⟨_, rfl⟩
    obtain ⟨j, hj⟩ : ∃ j : Nat, n + k = j := ⟨_, rfl⟩
    have hwi : IntKind.i64.wrap ((m : Int) + (k : Int)) = (i : Int) := by rw [IntKind.wrap_i64]; omega
    have hwj : IntKind.i64.wrap ((n : Int) + (k : Int)) = (j : Int) := by rw [IntKind.wrap_i64]; omega
    have HIJ := Aside0.mk (And.intro hi hj)
    obtain ⟨M, hM⟩ : ∃ M : Nat, (if m < n then (n : Int) else (m : Int)) = (M : Int) := ⟨max m n, by split <;> omega⟩
    obtain ⟨R, hR⟩ : ∃ R : Nat, T.size - k = R := ⟨_, rfl⟩
    have hwr : IntKind.i64.wrap ((T.size : Int) - (k : Int)) = (R : Int) := by rw [IntKind.wrap_i64]; omega
    have hMR : M < R ↔ i < T.size ∧ j < T.size := by split at hM <;> omega
    have HR := Aside0.mk hR
    clear hR hi hj
    by_cases h1 : i < T.size
    · by_cases h2 : j < T.size
      · have HCS : Aside0 (cnt T m n (T.size - k) k = if bg T i = bg T j then cnt T m n (T.size - (k + 1)) (k + 1) else k) := ⟨by
          obtain ⟨rfl, rfl⟩ := HIJ.out
          obtain ⟨f, hf⟩ : ∃ f, T.size - k = f + 1 := ⟨T.size - k - 1, by omega⟩
          rw [hf, show T.size - (k + 1) = f by omega]
          simp only [cnt]
          by_cases e : bg T (m + k) = bg T (n + k)
          · rw [if_pos ⟨by omega, by omega, e⟩, if_pos e]
          · rw [if_neg (fun h => e h.2.2), if_neg e]⟩
        have hb1 := bg_get T i h1
        have hb2 := bg_get T j h2
        have hd1 : decide (M < R) = true := decide_eq_true (hMR.2 ⟨h1, h2⟩)
        clear hMR
        by_cases hq : bg T i = bg T j
        · have hqq : ((T[i].toNat : Int) == (T[j].toNat : Int)) = true := by rw [hb1, hb2, hq]; simp
          have HQ := Aside0.mk hq
          clear hb1 hb2 hq
          go_wp2
          go_quiet (fail)
          go_wp2
          go_roundw
          case rel => exact ⟨k + 1, by go_num, by have := HIJ.out; omega, ⟨by rw [← HC.out, HCS.out, if_pos HQ.out]⟩, ⟨Drawn0.step HD.out _⟩⟩
          case measure => have := HIJ.out; simp [intOf]; omega
        · have hqq : ((T[i].toNat : Int) == (T[j].toNat : Int)) = false := by
            rw [hb1, hb2]
            have : (bg T i).toNat ≠ (bg T j).toNat := fun h => hq (UInt8.toNat_inj.1 h)
            simp; omega
          have HQ := Aside0.mk hq
          have HE : Aside0 (sm T m n = k) := ⟨by rw [← HC.out, HCS.out, if_neg hq]⟩
          clear hb1 hb2 hq
          go_wp2
          go_quiet (fail)
          go_wp2
          go_ret
          rw [E.out, HE.out]
          exact ⟨rfl, Drawn0.step HD.out _⟩
      · have HE : Aside0 (sm T m n = k) := ⟨by
          rw [← HC.out]
          cases hf : T.size - k with
          | zero => rfl
          | succ f => simp only [cnt]; have := HIJ.out; rw [if_neg (by omega)]⟩
        have hd1 : decide (M < R) = false := decide_eq_false (fun h => h2 (hMR.1 h).2)
        clear hMR
        go_wp2
        go_quiet (fail)
        go_wp2
        go_ret
        rw [E.out, HE.out]
        exact ⟨rfl, Drawn0.step HD.out _⟩
    · have HE : Aside0 (sm T m n = k) := ⟨by
        rw [← HC.out]
        cases hf : T.size - k with
        | zero => rfl
        | succ f => simp only [cnt]; have := HIJ.out; rw [if_neg (by omega)]⟩
      have hd1 : decide (M < R) = false := decide_eq_false (fun h => h1 (hMR.1 h).1)
      clear hMR
      go_wp2
      go_quiet (fail)
      go_wp2
      go_ret
      rw [E.out, HE.out]
      exact ⟨rfl, Drawn0.step HD.out _⟩

set_option maxRecDepth 100000 in
set_option maxHeartbeats 1000000 in
theorem rsame_any (T : ByteArray) (a b : Int) (hT : T.size ≤ 1000000) (w : World) : Calls Try.prog 20 #[.string T, .int .i64 a, .int .i64 b] w fun e w' => e = .returned (.int .i64 (smI T a b)) ∧ Drawn0 w w' := by
  have HD := Aside0.mk (Drawn0.refl w)
  by_cases h1 : a < 0
  · have E : Aside0 (smI T a b = 0) := ⟨by unfold smI; rw [if_pos (by omega)]⟩
    go_enter Try.func20, Try.ntmps20
    go_wp2
    go_ret
    rw [E.out]
    exact ⟨rfl, HD.out⟩
  by_cases h2 : b < 0
  · have E : Aside0 (smI T a b = 0) := ⟨by unfold smI; rw [if_pos (by omega)]⟩
    go_enter Try.func20, Try.ntmps20
    go_wp2
    go_ret
    rw [E.out]
    exact ⟨rfl, HD.out⟩
  by_cases h3 : (T.size : Int) < a
  · have E : Aside0 (smI T a b = 0) := ⟨by unfold smI; rw [if_pos (by omega)]⟩
    go_enter Try.func20, Try.ntmps20
    go_wp2
    go_ret
    rw [E.out]
    exact ⟨rfl, HD.out⟩
  by_cases h4 : (T.size : Int) < b
  · have E : Aside0 (smI T a b = 0) := ⟨by unfold smI; rw [if_pos (by omega)]⟩
    go_enter Try.func20, Try.ntmps20
    go_wp2
    go_ret
    rw [E.out]
    exact ⟨rfl, HD.out⟩
  obtain ⟨m, rfl⟩ : ∃ m : Nat, a = (m : Int) := ⟨a.toNat, by omega⟩
  obtain ⟨n, rfl⟩ : ∃ n : Nat, b = (n : Int) := ⟨b.toNat, by omega⟩
  have E : Aside0 (smI T m n = sm T m n) := ⟨by unfold smI; rw [if_neg (by omega)]; rfl⟩
  have hm : m ≤ T.size := by omega
  have hn : n ≤ T.size := by omega
  have q1 : decide ((m : Int) < 0) = false := decide_eq_false h1
  have q2 : decide ((n : Int) < 0) = false := decide_eq_false h2
  have q3 : decide ((T.size : Int) < (m : Int)) = false := decide_eq_false h3
  have q4 : decide ((T.size : Int) < (n : Int)) = false := decide_eq_false h4
  clear h1 h2 h3 h4
  go_enter Try.func20, Try.ntmps20
  go_wp2
  clear q1 q2 q3 q4
  go_loopw [7] (fun y wr => ∃ k : Nat, y = .int .i64 k ∧ k ≤ T.size ∧ Aside0 (cnt T m n (T.size - k) k = sm T m n) ∧ Aside0 (Drawn0 w wr)) (fun y _ => T.size - (intOf y).toNat)
  case atStart => exact ⟨0, rfl, Nat.zero_le _, ⟨rfl⟩, HD⟩
  case round =>
    obtain ⟨k, rfl, hk, HC, HD⟩ := hrel
    obtain ⟨i, hi⟩ : ∃ i : Nat, m + k = i := ⟨_, rfl⟩
    obtain ⟨j, hj⟩ : ∃ j : Nat, n + k = j := ⟨_, rfl⟩
    have hwi : IntKind.i64.wrap ((m : Int) + (k : Int)) = (i : Int) := by rw [IntKind.wrap_i64]; omega
    have hwj : IntKind.i64.wrap ((n : Int) + (k : Int)) = (j : Int) := by rw [IntKind.wrap_i64]; omega
    have HIJ := Aside0.mk (And.intro hi hj)
    clear hi hj
    by_cases h1 : i < T.size
    · by_cases h2 : j < T.size
      · have HCS : Aside0 (cnt T m n (T.size - k) k = if bg T i = bg T j then cnt T m n (T.size - (k + 1)) (k + 1) else k) := ⟨by
          obtain ⟨rfl, rfl⟩ := HIJ.out
          obtain ⟨f, hf⟩ : ∃ f, T.size - k = f + 1 := ⟨T.size - k - 1, by omega⟩
          rw [hf, show T.size - (k + 1) = f by omega]
          simp only [cnt]
          by_cases e : bg T (m + k) = bg T (n + k)
          · rw [if_pos ⟨by omega, by omega, e⟩, if_pos e]
          · rw [if_neg (fun h => e h.2.2), if_neg e]⟩
        have hb1 := bg_get T i h1
        have hb2 := bg_get T j h2
        have hd1 : decide (i < T.size) = true := decide_eq_true h1
        have hd2 : decide (j < T.size) = true := decide_eq_true h2
        by_cases hq : bg T i = bg T j
        · have hqq : ((T[i].toNat : Int) == (T[j].toNat : Int)) = true := by rw [hb1, hb2, hq]; simp
          have HQ := Aside0.mk hq
          clear hb1 hb2 hq
          go_wp2
          go_quiet (fail)
          go_wp2
          go_roundw
          case rel => exact ⟨k + 1, by go_num, by have := HIJ.out; omega, ⟨by rw [← HC.out, HCS.out, if_pos HQ.out]⟩, ⟨Drawn0.step HD.out _⟩⟩
          case measure => have := HIJ.out; simp [intOf]; omega
        · have hqq : ((T[i].toNat : Int) == (T[j].toNat : Int)) = false := by
            rw [hb1, hb2]
            have : (bg T i).toNat ≠ (bg T j).toNat := fun h => hq (UInt8.toNat_inj.1 h)
            simp; omega
          have HQ := Aside0.mk hq
          have HE : Aside0 (sm T m n = k) := ⟨by rw [← HC.out, HCS.out, if_neg hq]⟩
          clear hb1 hb2 hq
          go_wp2
          go_quiet (fail)
          go_wp2
          go_ret
          rw [E.out, HE.out]
          exact ⟨rfl, Drawn0.step HD.out _⟩
      · have HE : Aside0 (sm T m n = k) := ⟨by
          rw [← HC.out]
          cases hf : T.size - k with
          | zero => rfl
          | succ f => simp only [cnt]; have := HIJ.out; rw [if_neg (by omega)]⟩
        have hd1 : decide (i < T.size) = true := decide_eq_true h1
        have hd2 : decide (j < T.size) = false := decide_eq_false h2
        go_wp2
        go_quiet (fail)
        go_wp2
        go_ret
        rw [E.out, HE.out]
        exact ⟨rfl, Drawn0.step HD.out _⟩
    · have HE : Aside0 (sm T m n = k) := ⟨by
        rw [← HC.out]
        cases hf : T.size - k with
        | zero => rfl
        | succ f => simp only [cnt]; have := HIJ.out; rw [if_neg (by omega)]⟩
      have hd1 : decide (i < T.size) = false := decide_eq_false h1
      go_wp2
      go_quiet (fail)
      go_wp2
      go_ret
      rw [E.out, HE.out]
      exact ⟨rfl, Drawn0.step HD.out _⟩

theorem smI_nat (T : ByteArray) (a b : Nat) (ha : a ≤ T.size) (hb : b ≤ T.size) : smI T a b = sm T a b := by
  unfold smI; rw [if_neg (by omega)]; rfl
end Go.Proofs.Ytfijbhacobjjgad
