/- chain's finder: Len, right, hash, Same, Note, Find, New. -/
import Derived.Test.YtfcpjblogeofpacProg
import Derived.Test.YtfcpjblogeofpacVals
import Derived.Test.YtfcpjblogeofpacWLast
import Derived.Test.YtfcpjblogeofpacWMore
import Derived.RegionTactic
import Derived.ChangeAlike
import Derived.BigRegion
import Derived.WalkLawsBesides
import Derived.WalkSpells
import Derived.Deep.LoopGhost
import Derived.Deep.QuietTactic
import Derived.BigQuiet
import Derived.OwnWalk
import Derived.Test.YtfcpjblogeofpacLaw11
import Derived.Test.YtfcpjblogeofpacStrs
import Derived.Test.YtfcpjblogeofpacNums
namespace Go.Proofs.Ytfcpjblogeofpac
open Go.RowKit Go.Proofs.YtfcpjblogeofpacW.PrintWords Go.Proofs.YtfcpjblogeofpacW.PrintLast Go.Proofs.YtfcpjblogeofpacW.PrintMore Go.Proofs.Ytfcpjblogeofpac.Fr
set_option linter.unusedVariables false
set_option linter.unusedSimpArgs false
attribute [local go_sem] max2_int min2_int max_two min_two
/-- How many bytes are the same. -/
def bg (T : ByteArray) (i : Nat) : UInt8 := T.data.toList.getD i 0
theorem bg_get (T : ByteArray) (i : Nat) (h : i < T.size) : T[i] = bg T i := by
  have h2 : i < T.data.toList.length := by simpa using h
  unfold bg
  rw [List.getD_eq_getElem?_getD, List.getElem?_eq_getElem h2]
  rfl
def cnt (T : ByteArray) (a b : Nat) : Nat → Nat → Nat
  | 0, k => k
  | f + 1, k => if a + k < T.size ∧ b + k < T.size ∧ bg T (a + k) = bg T (b + k) then cnt T a b f (k + 1) else k
def sm (T : ByteArray) (a b : Nat) : Nat := cnt T a b T.size 0
theorem cnt_ge (T : ByteArray) (a b : Nat) : ∀ f k, k ≤ cnt T a b f k
  | 0, k => Nat.le_refl _
  | f + 1, k => by
    simp only [cnt]
    split
    · exact Nat.le_trans (Nat.le_succ k) (cnt_ge T a b f (k + 1))
    · exact Nat.le_refl _
theorem cnt_all (T : ByteArray) (a b : Nat) : ∀ f k j, k ≤ j → j < cnt T a b f k → a + j < T.size ∧ b + j < T.size ∧ bg T (a + j) = bg T (b + j)
  | 0, k, j, h1, h2 => by simp only [cnt] at h2; omega
  | f + 1, k, j, h1, h2 => by
    simp only [cnt] at h2
    split at h2
    · rename_i h
      by_cases e : j = k
      · subst e; exact h
      · exact cnt_all T a b f (k + 1) j (by omega) h2
    · omega
theorem cnt_more (T : ByteArray) (a b : Nat) : ∀ f k, T.size ≤ f + k → ¬ (a + cnt T a b f k < T.size ∧ b + cnt T a b f k < T.size ∧ bg T (a + cnt T a b f k) = bg T (b + cnt T a b f k))
  | 0, k, h => by simp only [cnt]; omega
  | f + 1, k, h => by
    simp only [cnt]
    split
    · exact cnt_more T a b f (k + 1) (by omega)
    · rename_i h2; exact h2
theorem cnt_comm (T : ByteArray) (a b : Nat) : ∀ f k, cnt T a b f k = cnt T b a f k
  | 0, k => rfl
  | f + 1, k => by
    simp only [cnt]
    rw [cnt_comm T a b f (k + 1)]
    by_cases h : a + k < T.size ∧ b + k < T.size ∧ bg T (a + k) = bg T (b + k)
    · rw [if_pos h, if_pos ⟨h.2.1, h.1, h.2.2.symm⟩]
    · rw [if_neg h, if_neg (fun k => h ⟨k.2.1, k.1, k.2.2.symm⟩)]
def smI (T : ByteArray) (a b : Int) : Nat := if a < 0 ∨ b < 0 ∨ (T.size : Int) < a ∨ (T.size : Int) < b then 0 else sm T a.toNat b.toNat
theorem smI_comm (T : ByteArray) (a b : Int) : smI T a b = smI T b a := by
  unfold smI sm
  by_cases h : a < 0 ∨ b < 0 ∨ (T.size : Int) < a ∨ (T.size : Int) < b
  · rw [if_pos h, if_pos (by omega)]
  · rw [if_neg h, if_neg (by omega), cnt_comm]
theorem sm_le (T : ByteArray) (a b : Nat) (ha : a ≤ T.size) : a + sm T a b ≤ T.size := by
  by_cases h : sm T a b = 0
  · omega
  · have := (cnt_all T a b T.size 0 (sm T a b - 1) (Nat.zero_le _) (by unfold sm at *; omega)).1
    omega
set_option maxRecDepth 100000 in
set_option maxHeartbeats 1000000 in
theorem same_any (T : ByteArray) (a b : Int) (hT : T.size ≤ 1000000) (w : World) : Calls Try.prog 28 #[.string T, .int .i64 a, .int .i64 b] w fun e w' => e = .returned (.int .i64 (smI T a b)) ∧ Drawn0 w w' := by
  have HD := Aside0.mk (Drawn0.refl w)
  by_cases h1 : a < 0
  · have E : Aside0 (smI T a b = 0) := ⟨by unfold smI; rw [if_pos (by omega)]⟩
    go_enter Try.func28, Try.ntmps28
    go_wp2
    go_ret
    rw [E.out]
    exact ⟨rfl, HD.out⟩
  by_cases h2 : b < 0
  · have E : Aside0 (smI T a b = 0) := ⟨by unfold smI; rw [if_pos (by omega)]⟩
    go_enter Try.func28, Try.ntmps28
    go_wp2
    go_ret
    rw [E.out]
    exact ⟨rfl, HD.out⟩
  by_cases h3 : (T.size : Int) < a
  · have E : Aside0 (smI T a b = 0) := ⟨by unfold smI; rw [if_pos (by omega)]⟩
    go_enter Try.func28, Try.ntmps28
    go_wp2
    go_ret
    rw [E.out]
    exact ⟨rfl, HD.out⟩
  by_cases h4 : (T.size : Int) < b
  · have E : Aside0 (smI T a b = 0) := ⟨by unfold smI; rw [if_pos (by omega)]⟩
    go_enter Try.func28, Try.ntmps28
    go_wp2
    go_ret
    rw [E.out]
    exact ⟨rfl, HD.out⟩
  obtain ⟨m, rfl⟩ : ∃ m : Nat, a = (m : Int) := ⟨a.toNat, by omega⟩
  obtain ⟨n, rfl⟩ : ∃ n : Nat, b = (n : Int) := ⟨b.toNat, by omega⟩
  have E : Aside0 (smI T m n = sm T m n) := ⟨by unfold smI; rw [if_neg (by omega)]; rfl⟩
  have hm : m ≤ T.size := by omega
  have hn : n ≤ T.size := by omega
  have q1 : decide ((m : Int) < 0) = false := decide_eq_false h1
  have q2 : decide ((n : Int) < 0) = false := decide_eq_false h2
  have q3 : decide ((T.size : Int) < (m : Int)) = false := decide_eq_false h3
  have q4 : decide ((T.size : Int) < (n : Int)) = false := decide_eq_false h4
  clear h1 h2 h3 h4
  go_enter Try.func28, Try.ntmps28
  go_wp2
  clear q1 q2 q3 q4
  go_loopw [7] (fun y wr => ∃ k : Nat, y = .int .i64 k ∧ k ≤ T.size ∧ Aside0 (cnt T m n (T.size - k) k = sm T m n) ∧ Aside0 (Drawn0 w wr)) (fun y _ => T.size - (intOf y).toNat)
  case atStart => exact ⟨0, rfl, Nat.zero_le _, ⟨rfl⟩, HD⟩
  case round =>
    obtain ⟨k, rfl, hk, HC, HD⟩ := hrel
    obtain ⟨i, hi⟩ : ∃ i : Nat, m + k = i := ⟨_, rfl⟩
    obtain ⟨j, hj⟩ : ∃ j : Nat, n + k = j := ⟨_, rfl⟩
    have hwi : IntKind.i64.wrap ((m : Int) + (k : Int)) = (i : Int) := by rw [IntKind.wrap_i64]; omega
    have hwj : IntKind.i64.wrap ((n : Int) + (k : Int)) = (j : Int) := by rw [IntKind.wrap_i64]; omega
    have HIJ := Aside0.mk (And.intro hi hj)
    obtain ⟨M, hM⟩ : ∃ M : Nat, (if m < n then (n : Int) else (m : Int)) = (M : Int) := ⟨max m n, by split <;> omega⟩
    obtain ⟨R, hR⟩ : ∃ R : Nat, T.size - k = R := ⟨_, rfl⟩
    have hwr : IntKind.i64.wrap ((T.size : Int) - (k : Int)) = (R : Int) := by rw [IntKind.wrap_i64]; omega
    have hMR : M < R ↔ i < T.size ∧ j < T.size := by split at hM <;> omega
    have HR := Aside0.mk hR
    clear hR hi hj
    by_cases h1 : i < T.size
    · by_cases h2 : j < T.size
      · have HCS : Aside0 (cnt T m n (T.size - k) k = if bg T i = bg T j then cnt T m n (T.size - (k + 1)) (k + 1) else k) := ⟨by
          obtain ⟨rfl, rfl⟩ := HIJ.out
          obtain ⟨f, hf⟩ : ∃ f, T.size - k = f + 1 := ⟨T.size - k - 1, by omega⟩
          rw [hf, show T.size - (k + 1) = f by omega]
          simp only [cnt]
          by_cases e : bg T (m + k) = bg T (n + k)
          · rw [if_pos ⟨by omega, by omega, e⟩, if_pos e]
          · rw [if_neg (fun h => e h.2.2), if_neg e]⟩
        have hb1 := bg_get T i h1
        have hb2 := bg_get T j h2
        have hd1 : decide (M < R) = true := decide_eq_true (hMR.2 ⟨h1, h2⟩)
        clear hMR
        by_cases hq : bg T i = bg T j
        · have hqq : ((T[i].toNat : Int) == (T[j].toNat : Int)) = true := by rw [hb1, hb2, hq]; simp
          have HQ := Aside0.mk hq
          clear hb1 hb2 hq
          go_wp2
          go_quiet (fail)
          go_wp2
          go_roundw
          case rel => exact ⟨k + 1, by go_num, by have := HIJ.out; omega, ⟨by rw [← HC.out, HCS.out, if_pos HQ.out]⟩, ⟨Drawn0.step HD.out _⟩⟩
          case measure => have := HIJ.out; simp [intOf]; omega
        · have hqq : ((T[i].toNat : Int) == (T[j].toNat : Int)) = false := by
            rw [hb1, hb2]
            have : (bg T i).toNat ≠ (bg T j).toNat := fun h => hq (UInt8.toNat_inj.1 h)
            simp; omega
          have HQ := Aside0.mk hq
          have HE : Aside0 (sm T m n = k) := ⟨by rw [← HC.out, HCS.out, if_neg hq]⟩
          clear hb1 hb2 hq
          go_wp2
          go_quiet (fail)
          go_wp2
          go_ret
          rw [E.out, HE.out]
          exact ⟨rfl, Drawn0.step HD.out _⟩
      · have HE : Aside0 (sm T m n = k) := ⟨by
          rw [← HC.out]
          cases hf : T.size - k with
          | zero => rfl
          | succ f => simp only [cnt]; have := HIJ.out; rw [if_neg (by omega)]⟩
        have hd1 : decide (M < R) = false := decide_eq_false (fun h => h2 (hMR.1 h).2)
        clear hMR
        go_wp2
        go_quiet (fail)
        go_wp2
        go_ret
        rw [E.out, HE.out]
        exact ⟨rfl, Drawn0.step HD.out _⟩
    · have HE : Aside0 (sm T m n = k) := ⟨by
        rw [← HC.out]
        cases hf : T.size - k with
        | zero => rfl
        | succ f => simp only [cnt]; have := HIJ.out; rw [if_neg (by omega)]⟩
      have hd1 : decide (M < R) = false := decide_eq_false (fun h => h1 (hMR.1 h).1)
      clear hMR
      go_wp2
      go_quiet (fail)
      go_wp2
      go_ret
      rw [E.out, HE.out]
      exact ⟨rfl, Drawn0.step HD.out _⟩

section
variable {w w1 : World} {g gh ga gn : Nat} {T : ByteArray} {hs ah : List Int} {nt : List Bool}
/-- A finder in memory. -/
structure FinderAt (w : World) (g gh ga gn : Nat) (T : ByteArray) (hs ah : List Int) (nt : List Bool) : Prop where
  box : w.heap[g]? = some (.cells #[.string T, .slice (some ⟨gh, 0, none⟩) 1024 1024, .slice (some ⟨ga, 0, none⟩) T.size T.size, .slice (some ⟨gn, 0, none⟩) T.size T.size] 63 (0, 0))
  heads : Blk w gh 3 (Value.int .i64) hs
  ahead : Blk w ga 3 (Value.int .i64) ah
  noted : Blk w gn 4 Value.bool nt
  hl : hs.length = 1024
  al : ah.length = T.size
  nl : nt.length = T.size
  small : T.size ≤ 2000
  d1 : g ≠ gh
  d2 : g ≠ ga
  d3 : g ≠ gn
  d4 : gh ≠ ga
  d5 : gh ≠ gn
  d6 : ga ≠ gn
theorem FinderAt.below (x : FinderAt w g gh ga gn T hs ah nt) (k : Below w.heap.size w w1) : FinderAt w1 g gh ga gn T hs ah nt := ⟨blk_below x.box k, x.heads.below k, x.ahead.below k, x.noted.below k, x.hl, x.al, x.nl, x.small, x.d1, x.d2, x.d3, x.d4, x.d5, x.d6⟩
theorem len_none (w : World) : Calls Try.prog 30 #[.pointer none] w fun e w' => e = .returned (.int .i64 0) ∧ w = w' := by
  go_enter Try.func30, Try.ntmps30
  go_wp2
  go_ret
  exact ⟨rfl, rfl⟩
theorem len_any (x : FinderAt w g gh ga gn T hs ah nt) : Calls Try.prog 30 #[.pointer (some ⟨g, 0, none⟩)] w fun e w' => e = .returned (.int .i64 T.size) ∧ w = w' := by
  have c0 : w.cell? ⟨g, 0, none⟩ = some (.string T) := (blk_cell x.box 0).trans rfl
  clear x
  go_enter Try.func30, Try.ntmps30
  go_wp2
  go_ret
  exact ⟨rfl, rfl⟩
def rightB (n : Nat) (a : Int) : Bool := decide (0 ≤ a ∧ a + 3 ≤ (n : Int))
theorem fright_any (a : Int) (ha : -9223372036854775808 ≤ a) (x : FinderAt w g gh ga gn T hs ah nt) : Calls Try.prog 26 #[.pointer (some ⟨g, 0, none⟩), .int .i64 a] w fun e w' => e = .returned (.bool (rightB T.size a)) ∧ w = w' := by
  have HX := Aside0.mk x
  have hsm := x.small
  clear x
  by_cases h0 : 0 ≤ a
  · have hd : decide (0 ≤ a) = true := decide_eq_true h0
    by_cases h1 : a ≤ (T.size : Int) - 3
    · have hd1 : decide (a ≤ (T.size : Int) - 3) = true := decide_eq_true h1
      have E : Aside0 (rightB T.size a = true) := ⟨by unfold rightB; exact decide_eq_true ⟨h0, by omega⟩⟩
      go_enter Try.func26, Try.ntmps26
      go_wp2_with fail
      refine (len_any HX.out).mono ?_
      rintro e w1 ⟨rfl, rfl⟩
      go_wp2
      go_ret
      rw [E.out]
      exact ⟨rfl, rfl⟩
    · have hd1 : decide (a ≤ (T.size : Int) - 3) = false := decide_eq_false h1
      have E : Aside0 (rightB T.size a = false) := ⟨by unfold rightB; exact decide_eq_false (by omega)⟩
      go_enter Try.func26, Try.ntmps26
      go_wp2_with fail
      refine (len_any HX.out).mono ?_
      rintro e w1 ⟨rfl, rfl⟩
      go_wp2
      go_ret
      rw [E.out]
      exact ⟨rfl, rfl⟩
  · have hd : decide (0 ≤ a) = false := decide_eq_false h0
    have E : Aside0 (rightB T.size a = false) := ⟨by unfold rightB; exact decide_eq_false (by omega)⟩
    go_enter Try.func26, Try.ntmps26
    go_wp2
    go_ret
    rw [E.out]
    exact ⟨rfl, rfl⟩
theorem right_none (a : Int) (w : World) : Calls Try.prog 26 #[.pointer none, .int .i64 a] w fun e w' => e = .returned (.bool false) ∧ w = w' := by
  by_cases h0 : 0 ≤ a
  · have hd : decide (0 ≤ a) = true := decide_eq_true h0
    have hd1 : decide (a ≤ -3) = false := decide_eq_false (by omega)
    go_enter Try.func26, Try.ntmps26
    go_wp2_with fail
    refine (len_none _).mono ?_
    rintro e w1 ⟨rfl, rfl⟩
    go_wp2
    go_ret
    exact ⟨rfl, rfl⟩
  · have hd : decide (0 ≤ a) = false := decide_eq_false h0
    go_enter Try.func26, Try.ntmps26
    go_wp2
    go_ret
    exact ⟨rfl, rfl⟩
def hash3 (b0 b1 b2 : UInt8) : Int := bits .or .u32 (bits .or .u32 ((b0.toNat : Int) % 4294967296) ((b1.toNat : Int) % 4294967296 * 256 % 4294967296)) ((b2.toNat : Int) % 4294967296 * 65536 % 4294967296) * 2654435761 % 4294967296 / 4194304
def hashS (s : ByteArray) : Int := if h : s.size = 3 then hash3 (s[0]'(by omega)) (s[1]'(by omega)) (s[2]'(by omega)) else 0
theorem hashS_in (s : ByteArray) : 0 ≤ hashS s ∧ hashS s < 1024 := by
  unfold hashS hash3
  split <;> omega
/-- The hash of the three bytes at a place. -/
def hsh (T : ByteArray) (p : Nat) : Nat := (hashS (T.extract p (p + 3))).toNat
theorem hsh_lt (T : ByteArray) (p : Nat) : hsh T p < 1024 := by have := hashS_in (T.extract p (p + 3)); unfold hsh; omega
set_option maxRecDepth 100000 in
theorem hash_any (a : Nat) (ha : a + 3 ≤ T.size) (x : FinderAt w g gh ga gn T hs ah nt) : Calls Try.prog 27 #[.pointer (some ⟨g, 0, none⟩), .int .i64 a] w fun e w' => e = .returned (.int .i64 (hsh T a)) ∧ Drawn0 w w' := by
  have c0 : w.cell? ⟨g, 0, none⟩ = some (.string T) := (blk_cell x.box 0).trans rfl
  have hsm := x.small
  clear x
  have h3 : (T.extract a (a + 3)).size = 3 := by rw [ByteArray.size_extract]; omega
  have E : Aside0 ((hsh T a : Int) = hash3 ((T.extract a (a + 3))[0]'(by omega)) ((T.extract a (a + 3))[1]'(by omega)) ((T.extract a (a + 3))[2]'(by omega))) := ⟨by
    have := (hashS_in (T.extract a (a + 3))).1
    unfold hsh
    rw [Int.toNat_of_nonneg this]
    unfold hashS
    rw [dif_pos h3]⟩
  go_enter Try.func27, Try.ntmps27
  go_wp2
  go_quiet (fail)
  go_wp2
  go_ret
  rw [E.out]
  exact ⟨rfl, Drawn0.step (Drawn0.refl _) _⟩
end
section
open Go.Proofs.Ytfcpjblogeofpac.Pl
variable {w w1 : World} {g gh ga gn : Nat} {T : ByteArray} {hs ah : List Int} {nt : List Bool}
theorem note_wrong (a : Int) (ha : -9223372036854775808 ≤ a) (hr : rightB T.size a = false) (x : FinderAt w g gh ga gn T hs ah nt) : Calls Try.prog 20 #[.pointer (some ⟨g, 0, none⟩), .int .i64 a] w fun e w' => e = .returned (.bool false) ∧ w = w' := by
  have HX := Aside0.mk x
  have HR := Aside0.mk hr
  clear x hr
  go_enter Try.func20, Try.ntmps20
  go_wp2_with fail
  refine (fright_any a ha HX.out).mono ?_
  rintro e w1 ⟨rfl, rfl⟩
  rw [HR.out]
  go_wp2
  go_ret
  exact ⟨rfl, rfl⟩
theorem note_again (a : Nat) (ha : a + 3 ≤ T.size) (hn : nt.getD a false = true) (x : FinderAt w g gh ga gn T hs ah nt) : Calls Try.prog 20 #[.pointer (some ⟨g, 0, none⟩), .int .i64 a] w fun e w' => e = .returned (.bool false) ∧ w = w' := by
  have HX := Aside0.mk x
  have hsm := x.small
  have c3 : w.cell? ⟨g, 3, none⟩ = some (.slice (some ⟨gn, 0, none⟩) T.size T.size) := (blk_cell x.box 3).trans rfl
  have cn : w.cell? ⟨gn, a, none⟩ = some (.bool true) := by have := x.noted.cell a false (by rw [x.nl]; omega); rwa [hn] at this
  have HR : Aside0 (rightB T.size a = true) := ⟨by unfold rightB; exact decide_eq_true (by omega)⟩
  clear x hn
  go_enter Try.func20, Try.ntmps20
  go_wp2_with fail
  refine (fright_any a (by omega) HX.out).mono ?_
  rintro e w1 ⟨rfl, rfl⟩
  rw [HR.out]
  go_wp2
  go_ret
  exact ⟨rfl, rfl⟩
set_option maxRecDepth 100000 in
set_option maxHeartbeats 1000000 in
theorem note_yes (a : Nat) (ha : a + 3 ≤ T.size) (hn : nt.getD a false = false) (x : FinderAt w g gh ga gn T hs ah nt) : Calls Try.prog 20 #[.pointer (some ⟨g, 0, none⟩), .int .i64 a] w fun e w' => e = .returned (.bool true) ∧ FinderAt w' g gh ga gn T (hs.set (hsh T a) a) (ah.set a (hs.getD (hsh T a) 0)) (nt.set a true) ∧ Ch (fun i => i = gh ∨ i = ga ∨ i = gn) w w' := by
  have HX := Aside0.mk x
  have hsm := x.small
  have c3 : w.cell? ⟨g, 3, none⟩ = some (.slice (some ⟨gn, 0, none⟩) T.size T.size) := (blk_cell x.box 3).trans rfl
  have cn : w.cell? ⟨gn, a, none⟩ = some (.bool false) := by have := x.noted.cell a false (by rw [x.nl]; omega); rwa [hn] at this
  have HR : Aside0 (rightB T.size a = true) := ⟨by unfold rightB; exact decide_eq_true (by omega)⟩
  have haT : a < T.size := by omega
  clear x hn
  go_enter Try.func20, Try.ntmps20
  go_wp2_with fail
  refine (fright_any a (by omega) HX.out).mono ?_
  rintro e w1 ⟨rfl, rfl⟩
  rw [HR.out]
  go_wp2_with fail
  refine (hash_any a ha HX.out).mono ?_
  rintro e w1 ⟨rfl, hd⟩
  have HX1 := Aside0.mk (HX.out.below hd.below)
  have HD := Aside0.mk hd
  clear hd c3 cn HX
  obtain ⟨h, hh⟩ : ∃ h, hsh T a = h := ⟨_, rfl⟩
  have hlt : h < 1024 := hh ▸ hsh_lt T a
  have HH := Aside0.mk hh
  rw [hh]
  clear hh
  have d1 : w1.cell? ⟨g, 1, none⟩ = some (.slice (some ⟨gh, 0, none⟩) 1024 1024) := (blk_cell HX1.out.box 1).trans rfl
  have d2 : w1.cell? ⟨g, 2, none⟩ = some (.slice (some ⟨ga, 0, none⟩) T.size T.size) := (blk_cell HX1.out.box 2).trans rfl
  have d3 : w1.cell? ⟨g, 3, none⟩ = some (.slice (some ⟨gn, 0, none⟩) T.size T.size) := (blk_cell HX1.out.box 3).trans rfl
  have e1 : w1.cell? ⟨gh, h, none⟩ = some (.int .i64 (hs.getD h 0)) := HX1.out.heads.cell h 0 (by rw [HX1.out.hl]; exact hlt)
  have e2 : w1.cell? ⟨ga, a, none⟩ = some (.int .i64 (ah.getD a 0)) := HX1.out.ahead.cell a 0 (by rw [HX1.out.al]; exact haT)
  have e3 : w1.cell? ⟨gn, a, none⟩ = some (.bool (nt.getD a false)) := HX1.out.noted.cell a false (by rw [HX1.out.nl]; exact haT)
  have f1 := HX1.out.heads.free h
  have f2 := HX1.out.ahead.free a
  have f3 := HX1.out.noted.free a
  obtain ⟨v, hv⟩ : ∃ v, hs.getD h 0 = v := ⟨_, rfl⟩
  have HV := Aside0.mk hv
  rw [hv] at e1
  clear hv
  have n1 : ga ≠ gn := HX1.out.d6
  have n2 : gn ≠ ga := fun e => n1 e.symm
  have e4 : (w1.setCell ⟨ga, a, none⟩ (.int .i64 v)).cell? ⟨gn, a, none⟩ = some (.bool (nt.getD a false)) := (HX1.out.noted.far n2 a _).cell a false (by rw [HX1.out.nl]; exact haT)
  have f4 : (w1.setCell ⟨ga, a, none⟩ (.int .i64 v)).frozen? ⟨gn, a, none⟩ = false := (HX1.out.noted.far n2 a _).free a
  have e5 : (w1.setCell ⟨gn, a, none⟩ (.bool true)).cell? ⟨ga, a, none⟩ = some (.int .i64 (ah.getD a 0)) := (HX1.out.ahead.far n1 a _).cell a 0 (by rw [HX1.out.al]; exact haT)
  have f5 : (w1.setCell ⟨gn, a, none⟩ (.bool true)).frozen? ⟨ga, a, none⟩ = false := (HX1.out.ahead.far n1 a _).free a
  have HF : Aside0 (∀ V : World, (V.heap = ((w1.setCell ⟨ga, a, none⟩ (.int .i64 v)).setCell ⟨gn, a, none⟩ (.bool true)).heap) → FinderAt V g gh ga gn T hs (ah.set a v) (nt.set a true)) := ⟨fun V hV => by
    have x := HX1.out
    have hb : ∀ {k : Nat} {o : Obj}, ((w1.setCell ⟨ga, a, none⟩ (.int .i64 v)).setCell ⟨gn, a, none⟩ (.bool true)).heap[k]? = some o → V.heap[k]? = some o := fun h => by rw [hV]; exact h
    exact ⟨hb (blk_far (blk_far x.box x.d2 _) x.d3 _), hb ((x.heads.far x.d4 a _).far x.d5 a _), hb ((x.ahead.put a v).far x.d6 a _), hb (Blk.put (x.noted.far n2 a _) a true), x.hl, by rw [List.length_set]; exact x.al, by rw [List.length_set]; exact x.nl, x.small, x.d1, x.d2, x.d3, x.d4, x.d5, x.d6⟩⟩
  go_wp2
  go_region
  have HF2 := HF.out ((w1.setCell ⟨ga, a, none⟩ (.int .i64 v)).setCell ⟨gn, a, none⟩ (.bool true)).drew rfl
  have HC2 : Aside0 (Ch (fun i => i = gh ∨ i = ga ∨ i = gn) w ((w1.setCell ⟨ga, a, none⟩ (.int .i64 v)).setCell ⟨gn, a, none⟩ (.bool true)).drew) := ⟨((((Ch.of_below (HD.out.below)).set (.inr (.inl rfl))).set (.inr (.inr rfl)))).drew⟩
  clear d1 d2 d3 e1 e2 e3 e4 e5 f1 f2 f3 f4 f5 HF HX1 HD
  generalize ((w1.setCell ⟨ga, a, none⟩ (.int .i64 v)).setCell ⟨gn, a, none⟩ (.bool true)).drew = V at HF2 HC2 ⊢
  have d1 : V.cell? ⟨g, 1, none⟩ = some (.slice (some ⟨gh, 0, none⟩) 1024 1024) := (blk_cell HF2.box 1).trans rfl
  have e1 : V.cell? ⟨gh, h, none⟩ = some (.int .i64 (hs.getD h 0)) := HF2.heads.cell h 0 (by rw [HF2.hl]; exact hlt)
  have f1 := HF2.heads.free h
  have HF3 := Aside0.mk HF2
  clear HF2
  go_wp2
  go_ret
  refine ⟨rfl, ?_, HC2.out.set (.inl rfl)⟩
  have x := HF3.out
  rw [HH.out, HV.out]
  exact ⟨blk_far x.box x.d1 _, x.heads.put h a, x.ahead.far (fun e => x.d4 e.symm) h _, x.noted.far (fun e => x.d5 e.symm) h _, by rw [List.length_set]; exact x.hl, x.al, x.nl, x.small, x.d1, x.d2, x.d3, x.d4, x.d5, x.d6⟩
theorem find_wrong (a d : Int) (ha : -9223372036854775808 ≤ a) (hr : rightB T.size a = false) (x : FinderAt w g gh ga gn T hs ah nt) : Calls Try.prog 21 #[.pointer (some ⟨g, 0, none⟩), .int .i64 a, .int .i64 d] w fun e w' => e = .returned (.tuple #[.int .i64 0, .int .i64 0]) ∧ w = w' := by
  have HX := Aside0.mk x
  have HR := Aside0.mk hr
  clear x hr
  go_enter Try.func21, Try.ntmps21
  go_wp2_with fail
  refine (fright_any a ha HX.out).mono ?_
  rintro e w1 ⟨rfl, rfl⟩
  rw [HR.out]
  go_wp2
  go_ret2
  exact ⟨rfl, rfl⟩
/-- Three bytes. -/
def three (T : ByteArray) (p : Nat) : ByteArray := T.extract p (p + 3)
def depthN (d : Int) : Nat := (mn (mx d 0) 1000).toNat
def thB (T : ByteArray) (a : Nat) (p : Nat) : Bool := decide (three T p = three T a)
def found (T : ByteArray) (rs : List Nat) (a : Nat) (d : Int) : Int × Int := Pl.look (sm T) (thB T a) a rs (depthN d) (0, 0)
theorem th_hsh (T : ByteArray) (a p : Nat) (h : thB T a p = true) : (hsh T p == hsh T a) = true := by
  have := of_decide_eq_true h
  unfold three at this
  unfold hsh
  rw [this]
  simp
set_option maxRecDepth 100000 in
set_option maxHeartbeats 4000000 in
theorem find_any (a : Nat) (ha : a + 3 ≤ T.size) (d : Int) (rs : List Nat) (hrs : ∀ p ∈ rs, p + 3 ≤ T.size) (hC : Chains (hsh T) rs hs ah) (x : FinderAt w g gh ga gn T hs ah nt) :
    Calls Try.prog 21 #[.pointer (some ⟨g, 0, none⟩), .int .i64 a, .int .i64 d] w fun e w' => e = .returned (.tuple #[.int .i64 (found T rs a d).1, .int .i64 (found T rs a d).2]) ∧ Drawn0 w w' := by
  have HX := Aside0.mk x
  have hsm := x.small
  have HR : Aside0 (rightB T.size a = true) := ⟨by unfold rightB; exact decide_eq_true (by omega)⟩
  have hcase : (d < 0 ∧ depthN d = 0) ∨ (0 ≤ d ∧ d ≤ 1000 ∧ (depthN d : Int) = d) ∨ (1000 < d ∧ depthN d = 1000) := by
    unfold depthN mn mx
    (repeat' split) <;> omega
  obtain ⟨D, hD⟩ : ∃ D : Nat, depthN d = D := ⟨_, rfl⟩
  have hl := hsh_lt T a
  have HCH : Aside0 (hs.getD (hsh T a) 0 = hd (rs.filter fun p => hsh T p == hsh T a) ∧ Walks ah (rs.filter fun p => hsh T p == hsh T a) ∧ found T rs a d = Pl.look (sm T) (thB T a) a (rs.filter fun p => hsh T p == hsh T a) D (0, 0) ∧ ∀ p ∈ (rs.filter fun p => hsh T p == hsh T a), p + 3 ≤ T.size) := ⟨hC.heads _ hl, hC.walks _ hl, by
    rw [look_filter _ _ _ _ (fun p hp => th_hsh T a p hp)]
    unfold found
    rw [hD], fun p hp => hrs p (List.mem_filter.1 hp).1⟩
  have HDE := Aside0.mk hD
  rw [hD] at hcase
  clear hD hC hrs hl x
  go_enter Try.func21, Try.ntmps21
  go_wp2_with fail
  refine (fright_any a (by omega) HX.out).mono ?_
  rintro e w1 ⟨rfl, rfl⟩
  rw [HR.out]
  clear HR
  have c0 : w.cell? ⟨g, 0, none⟩ = some (.string T) := (blk_cell HX.out.box 0).trans rfl
  have c1 : w.cell? ⟨g, 1, none⟩ = some (.slice (some ⟨gh, 0, none⟩) 1024 1024) := (blk_cell HX.out.box 1).trans rfl
  obtain ⟨h, hh⟩ : ∃ h, hsh T a = h := ⟨_, rfl⟩
  have hlt : h < 1024 := hh ▸ hsh_lt T a
  have HHS : Aside0 (∀ n, Calls Try.prog 27 #[.pointer (some ⟨g, 0, none⟩), .int .i64 a] (w.drewN n) fun e w' => e = .returned (.int .i64 h) ∧ Drawn0 (w.drewN n) w') := ⟨fun n => by
    have := hash_any (w := w.drewN n) a ha (HX.out.below (Drawn0.below ⟨⟨n, rfl⟩⟩))
    rwa [hh] at this⟩
  have e1 : w.cell? ⟨gh, h, none⟩ = some (.int .i64 (hs.getD h 0)) := HX.out.heads.cell h 0 (by rw [HX.out.hl]; exact hlt)
  rw [hh] at HCH
  have HH := Aside0.mk hh
  clear hh
  rw [HCH.out.1] at e1
  obtain ⟨ch, hch⟩ : ∃ ch, (rs.filter fun p => hsh T p == h) = ch := ⟨_, rfl⟩
  rw [hch] at HCH e1
  clear hch
  rcases hcase with ⟨q1, q2⟩ | ⟨q1, q2, q3⟩ | ⟨q1, q2⟩
  all_goals
    go_wp2
    go_quiet ((go_at_call 27; exact q_drawn (HHS.out _)))
    go_wp2_with fail
    go_loopg [2, 8, 9, 11] ch.length (fun gk x y z u wr => ∃ (c : List Nat) (k : Nat) (o n : Int), Aside0 (c.length = gk) ∧ x = .int .i64 (k : Int) ∧ y = .int .i64 o ∧ z = .int .i64 n ∧ u = .int .i64 (hd c) ∧ Aside0 (Pl.look (sm T) (thB T a) a c k (o, n) = found T rs a d ∧ Walks ah c ∧ (∀ p ∈ c, p + 3 ≤ T.size) ∧ k ≤ 1000) ∧ Aside0 (Drawn0 w wr))
    case atStart => exact ⟨ch, D, 0, 0, ⟨rfl⟩, by first | rfl | (rw [q3]) | (rw [q2]; rfl), rfl, rfl, rfl, ⟨HCH.out.2.2.1.symm, HCH.out.2.1, HCH.out.2.2.2, by omega⟩, ⟨Drawn0.step (Drawn0.refl _) _⟩⟩
    case round =>
      clear e1 c1 c0
      try clear q1 q2
      try clear q3
      obtain ⟨c, k, o, n, HK, rfl, rfl, rfl, rfl, HI, HD⟩ := hrel
      have HXW := Aside0.mk (HX.out.below HD.out.below)
      have hk0 := HI.out.2.2.2
      have cx0 : wr.cell? ⟨g, 0, none⟩ = some (.string T) := (blk_cell HXW.out.box 0).trans rfl
      have cx2 : wr.cell? ⟨g, 2, none⟩ = some (.slice (some ⟨ga, 0, none⟩) T.size T.size) := (blk_cell HXW.out.box 2).trans rfl
      match c with
      | [] =>
        have HEND : Aside0 (found T rs a d = (o, n)) := ⟨by rw [← HI.out.1]; rfl⟩
        have hm1 : hd [] = -1 := rfl
        rw [hm1]
        go_wp2
        go_ret2
        rw [HEND.out]
        exact ⟨rfl, HD.out⟩
      | p :: c =>
        have hp := HI.out.2.2.1 p (List.mem_cons_self ..)
        have hpa : wr.cell? ⟨ga, p, none⟩ = some (.int .i64 (hd c)) := by
          rw [HXW.out.ahead.cell p 0 (by rw [HXW.out.al]; omega), HI.out.2.1.1]
        have hm1 : hd (p :: c) = (p : Int) := rfl
        rw [hm1]
        have hpm : ((p : Int) == -1) = false := by first | (simp; done) | (simp; omega)
        have hpm' : ((p : Int) != -1) = true := by first | (simp; done) | (simp; omega)
        match k with
        | 0 =>
          have HEND : Aside0 (found T rs a d = (o, n)) := ⟨by rw [← HI.out.1]; rfl⟩
          go_wp2
          go_ret2
          rw [HEND.out]
          exact ⟨rfl, HD.out⟩
        | k + 1 =>
          have hkp : (0 : Int) < ((k + 1 : Nat) : Int) := by omega
          have HW2 : Aside0 (Walks ah c ∧ ∀ p ∈ c, p + 3 ≤ T.size) := ⟨HI.out.2.1.2, fun q hq => HI.out.2.2.1 q (List.mem_cons_of_mem _ hq)⟩
          by_cases ht : three T p = three T a
          · have hst : ((T.extract p (p + 3)).toList == (T.extract a (a + 3)).toList) = true := by rw [str_beq]; exact decide_eq_true ht
            have HL : Aside0 (found T rs a d = Pl.look (sm T) (thB T a) a c k (upd (sm T) a (o, n) p)) := ⟨by
              rw [← HI.out.1]
              simp only [Pl.look]
              rw [if_pos (show thB T a p = true from decide_eq_true ht)]⟩
            have HT := Aside0.mk ht
            clear ht
            by_cases hge : a ≤ p
            · have HU : Aside0 (upd (sm T) a (o, n) p = (o, n)) := ⟨by unfold upd; rw [if_pos hge]⟩
              go_wp2
              go_roundg (gk - 1)
              case measure => have := HK.out; simp at this; omega
              case rel => exact ⟨c, k, o, n, ⟨by have := HK.out; simp at this; omega⟩, by go_num, rfl, rfl, rfl, ⟨by rw [HL.out, HU.out], HW2.out.1, HW2.out.2, by omega⟩, HD⟩
            · obtain ⟨m, hm⟩ : ∃ m, sm T p a = m := ⟨_, rfl⟩
              have HSM : Aside0 (∀ w, Calls Try.prog 28 #[.string T, .int .i64 p, .int .i64 a] w fun e w' => e = .returned (.int .i64 m) ∧ Drawn0 w w') := ⟨fun w => by
                have := same_any T p a (by omega) w
                have e : smI T p a = m := by unfold smI; rw [if_neg (by omega)]; exact hm
                rwa [e] at this⟩
              have HUE : Aside0 (upd (sm T) a (o, n) p = if n < (m : Int) ∨ ((m : Int) = n ∧ (a : Int) - (p : Int) < o) then ((a : Int) - (p : Int), (m : Int)) else (o, n)) := ⟨by unfold upd; rw [if_neg hge, hm]⟩
              have hmle : m ≤ T.size := by have := sm_le T p a (by omega); omega
              clear hm
              by_cases hn1 : n < (m : Int)
              · have HU : Aside0 (upd (sm T) a (o, n) p = ((a : Int) - (p : Int), (m : Int))) := ⟨by rw [HUE.out, if_pos (.inl hn1)]⟩
                go_wp2_with fail
                refine (HSM.out _).mono ?_
                rintro e w5 ⟨rfl, hd5⟩
                have HD5 := Aside0.mk hd5
                have HX5 := HX.out.below (below_step HD.out.below hd5.below)
                have cy2 : w5.cell? ⟨g, 2, none⟩ = some (.slice (some ⟨ga, 0, none⟩) T.size T.size) := (blk_cell HX5.box 2).trans rfl
                have hpa5 : w5.cell? ⟨ga, p, none⟩ = some (.int .i64 (hd c)) := pw_cell_below hd5.below hpa
                clear hd5 HX5
                go_wp2
                go_roundg (gk - 1)
                case measure => have := HK.out; simp at this; omega
                case rel => exact ⟨c, k, _, _, ⟨by have := HK.out; simp at this; omega⟩, by go_num, rfl, rfl, rfl, ⟨by rw [HL.out, HU.out], HW2.out.1, HW2.out.2, by omega⟩, ⟨by obtain ⟨⟨i, hi⟩⟩ := HD.out; obtain ⟨⟨j, hj⟩⟩ := HD5.out; exact ⟨i + j, by rw [hj, hi, World.drewN_drewN]⟩⟩⟩
              · by_cases hmn : (m : Int) = n
                · obtain rfl := hmn
                  by_cases hao : (a : Int) - (p : Int) < o
                  · have HU : Aside0 (upd (sm T) a (o, (m : Int)) p = ((a : Int) - (p : Int), (m : Int))) := ⟨by rw [HUE.out, if_pos (.inr ⟨rfl, hao⟩)]⟩
                    go_wp2_with fail
                    refine (HSM.out _).mono ?_
                    rintro e w5 ⟨rfl, hd5⟩
                    have HD5 := Aside0.mk hd5
                    have HX5 := HX.out.below (below_step HD.out.below hd5.below)
                    have cy2 : w5.cell? ⟨g, 2, none⟩ = some (.slice (some ⟨ga, 0, none⟩) T.size T.size) := (blk_cell HX5.box 2).trans rfl
                    have hpa5 : w5.cell? ⟨ga, p, none⟩ = some (.int .i64 (hd c)) := pw_cell_below hd5.below hpa
                    clear hd5 HX5
                    go_wp2
                    go_roundg (gk - 1)
                    case measure => have := HK.out; simp at this; omega
                    case rel => exact ⟨c, k, _, _, ⟨by have := HK.out; simp at this; omega⟩, by go_num, rfl, rfl, rfl, ⟨by rw [HL.out, HU.out], HW2.out.1, HW2.out.2, by omega⟩, ⟨by obtain ⟨⟨i, hi⟩⟩ := HD.out; obtain ⟨⟨j, hj⟩⟩ := HD5.out; exact ⟨i + j, by rw [hj, hi, World.drewN_drewN]⟩⟩⟩
                  · have HU : Aside0 (upd (sm T) a (o, (m : Int)) p = (o, (m : Int))) := ⟨by rw [HUE.out, if_neg (by omega)]⟩
                    go_wp2_with fail
                    refine (HSM.out _).mono ?_
                    rintro e w5 ⟨rfl, hd5⟩
                    have HD5 := Aside0.mk hd5
                    have HX5 := HX.out.below (below_step HD.out.below hd5.below)
                    have cy2 : w5.cell? ⟨g, 2, none⟩ = some (.slice (some ⟨ga, 0, none⟩) T.size T.size) := (blk_cell HX5.box 2).trans rfl
                    have hpa5 : w5.cell? ⟨ga, p, none⟩ = some (.int .i64 (hd c)) := pw_cell_below hd5.below hpa
                    clear hd5 HX5
                    go_wp2
                    go_roundg (gk - 1)
                    case measure => have := HK.out; simp at this; omega
                    case rel => exact ⟨c, k, _, _, ⟨by have := HK.out; simp at this; omega⟩, by go_num, rfl, rfl, rfl, ⟨by rw [HL.out, HU.out], HW2.out.1, HW2.out.2, by omega⟩, ⟨by obtain ⟨⟨i, hi⟩⟩ := HD.out; obtain ⟨⟨j, hj⟩⟩ := HD5.out; exact ⟨i + j, by rw [hj, hi, World.drewN_drewN]⟩⟩⟩
                · have hmn' : ((m : Int) == n) = false := by simpa using hmn
                  have HU : Aside0 (upd (sm T) a (o, n) p = (o, n)) := ⟨by rw [HUE.out, if_neg (by omega)]⟩
                  clear hmn
                  go_wp2_with fail
                  refine (HSM.out _).mono ?_
                  rintro e w5 ⟨rfl, hd5⟩
                  have HD5 := Aside0.mk hd5
                  have HX5 := HX.out.below (below_step HD.out.below hd5.below)
                  have cy2 : w5.cell? ⟨g, 2, none⟩ = some (.slice (some ⟨ga, 0, none⟩) T.size T.size) := (blk_cell HX5.box 2).trans rfl
                  have hpa5 : w5.cell? ⟨ga, p, none⟩ = some (.int .i64 (hd c)) := pw_cell_below hd5.below hpa
                  clear hd5 HX5
                  go_wp2
                  go_roundg (gk - 1)
                  case measure => have := HK.out; simp at this; omega
                  case rel => exact ⟨c, k, _, _, ⟨by have := HK.out; simp at this; omega⟩, by go_num, rfl, rfl, rfl, ⟨by rw [HL.out, HU.out], HW2.out.1, HW2.out.2, by omega⟩, ⟨by obtain ⟨⟨i, hi⟩⟩ := HD.out; obtain ⟨⟨j, hj⟩⟩ := HD5.out; exact ⟨i + j, by rw [hj, hi, World.drewN_drewN]⟩⟩⟩
          · have hst : ((T.extract p (p + 3)).toList == (T.extract a (a + 3)).toList) = false := by rw [str_beq]; exact decide_eq_false ht
            have HL : Aside0 (found T rs a d = Pl.look (sm T) (thB T a) a c (k + 1) (o, n)) := ⟨by
              rw [← HI.out.1]
              simp only [Pl.look]
              rw [if_neg (show ¬ thB T a p = true from fun h => ht (of_decide_eq_true h))]⟩
            have HT := Aside0.mk ht
            clear ht
            go_wp2
            go_roundg (gk - 1)
            case measure => have := HK.out; simp at this; omega
            case rel => exact ⟨c, k + 1, o, n, ⟨by have := HK.out; simp at this; omega⟩, rfl, rfl, rfl, rfl, ⟨HL.out.symm, HW2.out.1, HW2.out.2, hk0⟩, HD⟩
end
section
theorem info3 : (Try.prog.info? 3).map (fun i => (i.zero, i.size, i.bytes)) = some (some (.int .i64 0), 1, 8) := by kernel_rfl
/-- What New answers. -/
def NewPost (T : ByteArray) (w0 : World) (e : Ending) (w' : World) : Prop := ∃ g gh ga gn hs, e = .returned (.pointer (some ⟨g, 0, none⟩)) ∧ FinderAt w' g gh ga gn T hs (List.replicate T.size 0) (List.replicate T.size false) ∧ (∀ k, k < 1024 → hs.getD k 0 = -1) ∧ Below w0.heap.size w0 w' ∧ w0.heap.size ≤ g ∧ w0.heap.size ≤ gh ∧ w0.heap.size ≤ ga ∧ w0.heap.size ≤ gn
theorem heap_two (V : World) (A B : Obj) : ((V.alloc A).alloc B).drew.heap[V.heap.size]? = some A ∧ ((V.alloc A).alloc B).drew.heap[V.heap.size + 1]? = some B ∧ Below V.heap.size V ((V.alloc A).alloc B).drew := by
  refine ⟨blk_below (w := V.alloc A) (w1 := ((V.alloc A).alloc B).drew) (blk_new V A) (below_drew (below_alloc (Below.refl _ _) _)), ?_, below_drew (below_alloc (below_alloc (Below.refl _ _) _) _)⟩
  have := blk_new (V.alloc A) B
  rw [show (V.alloc A).heap.size = V.heap.size + 1 by simp] at this
  exact this
theorem fin23i {w0 wr : World} {g gh n k : Nat} {T : ByteArray} {hs : List Int} (hn : wr.heap.size = n) (hg : w0.heap.size = g ∧ g + 1 = gh) (hT : T.size ≤ 2000) (hk : 1024 ≤ k)
    (hI : hs.length = 1024 ∧ (∀ j, j < k → hs.getD j 0 = -1) ∧ wr.heap[g]? = some (.cells #[.string T, .slice (some ⟨gh, 0, none⟩) 1024 1024, .slice none 0 0, .slice none 0 0] 63 (0, 0)) ∧ Blk wr gh 3 (Value.int .i64) hs ∧ Below g w0 wr) :
    NewPost T w0 (.returned (.pointer (some ⟨g, 0, none⟩))) ((((wr.setCell ⟨g, 2, none⟩ (.slice (some ⟨n, 0, none⟩) T.size T.size)).setCell ⟨g, 3, none⟩ (.slice (some ⟨n + 1, 0, none⟩) T.size T.size)).alloc (.cells (madeCells #[Value.int .i64 0] T.size) 3)).alloc (.cells (madeCells #[Value.bool false] T.size) 4)).drew := by
  have hV : ((wr.setCell ⟨g, 2, none⟩ (.slice (some ⟨n, 0, none⟩) T.size T.size)).setCell ⟨g, 3, none⟩ (.slice (some ⟨n + 1, 0, none⟩) T.size T.size)).heap.size = n := by simp [World.setCell, hn]
  have hb : ((wr.setCell ⟨g, 2, none⟩ (.slice (some ⟨n, 0, none⟩) T.size T.size)).setCell ⟨g, 3, none⟩ (.slice (some ⟨n + 1, 0, none⟩) T.size T.size)).heap[g]? = some (.cells #[.string T, .slice (some ⟨gh, 0, none⟩) 1024 1024, .slice (some ⟨n, 0, none⟩) T.size T.size, .slice (some ⟨n + 1, 0, none⟩) T.size T.size] 63 (0, 0)) := blk_put (blk_put hI.2.2.1 2 _ rfl) 3 _ rfl
  have hne : g ≠ gh := by omega
  have hh : Blk ((wr.setCell ⟨g, 2, none⟩ (.slice (some ⟨n, 0, none⟩) T.size T.size)).setCell ⟨g, 3, none⟩ (.slice (some ⟨n + 1, 0, none⟩) T.size T.size)) gh 3 (Value.int .i64) hs := (hI.2.2.2.1.far (Ne.symm hne) _ _).far (Ne.symm hne) _ _
  have hc : Below g w0 ((wr.setCell ⟨g, 2, none⟩ (.slice (some ⟨n, 0, none⟩) T.size T.size)).setCell ⟨g, 3, none⟩ (.slice (some ⟨n + 1, 0, none⟩) T.size T.size)) := Ch.onto (S := fun i => i = g) hI.2.2.2.2 (((Ch.refl (fun i => i = g) _).set rfl).set rfl) (by have := hI.2.2.2.2.size; omega) (fun i e => by omega)
  have hlt := hI.2.2.2.1.lt
  generalize ((wr.setCell ⟨g, 2, none⟩ (.slice (some ⟨n, 0, none⟩) T.size T.size)).setCell ⟨g, 3, none⟩ (.slice (some ⟨n + 1, 0, none⟩) T.size T.size)) = V at hV hb hh hc ⊢
  have hgl : g < n := by have := blk_lt hb; omega
  obtain ⟨hA, hB, hbel⟩ := heap_two V (.cells (madeCells #[Value.int .i64 0] T.size) 3) (.cells (madeCells #[Value.bool false] T.size) 4)
  rw [hV] at hA hB
  have hi1 : Blk (((V.alloc (.cells (madeCells #[Value.int .i64 0] T.size) 3)).alloc (.cells (madeCells #[Value.bool false] T.size) 4)).drew) (n) 3 (Value.int .i64) (List.replicate T.size 0) := by unfold Blk; rw [← vals_made]; exact hA
  have hb1 : Blk (((V.alloc (.cells (madeCells #[Value.int .i64 0] T.size) 3)).alloc (.cells (madeCells #[Value.bool false] T.size) 4)).drew) (n + 1) 4 Value.bool (List.replicate T.size false) := by unfold Blk; rw [← vals_made]; exact hB
  have hsz := hI.2.2.2.2.size
  exact ⟨g, gh, n, n + 1, hs, rfl, ⟨blk_below hb (by rw [hV]; rw [hV] at hbel; exact hbel), Blk.below hh (by rw [hV]; rw [hV] at hbel; exact hbel), hi1, hb1, hI.1, by simp, by simp, hT, hne, by omega, by omega, by omega, by omega, by omega⟩, fun j hj => hI.2.1 j (by omega), by rw [hg.1]; exact ⟨hbel.os.trans hc.os, hbel.tape.trans hc.tape, hbel.output.trans hc.output, Nat.le_trans hc.size hbel.size, fun i hi => (hbel.block i (by omega)).trans (hc.block i hi)⟩, by omega, by omega, by omega, by omega⟩
theorem fin32i {w0 wr : World} {g gh n k : Nat} {T : ByteArray} {hs : List Int} (hn : wr.heap.size = n) (hg : w0.heap.size = g ∧ g + 1 = gh) (hT : T.size ≤ 2000) (hk : 1024 ≤ k)
    (hI : hs.length = 1024 ∧ (∀ j, j < k → hs.getD j 0 = -1) ∧ wr.heap[g]? = some (.cells #[.string T, .slice (some ⟨gh, 0, none⟩) 1024 1024, .slice none 0 0, .slice none 0 0] 63 (0, 0)) ∧ Blk wr gh 3 (Value.int .i64) hs ∧ Below g w0 wr) :
    NewPost T w0 (.returned (.pointer (some ⟨g, 0, none⟩))) ((((wr.setCell ⟨g, 3, none⟩ (.slice (some ⟨n + 1, 0, none⟩) T.size T.size)).setCell ⟨g, 2, none⟩ (.slice (some ⟨n, 0, none⟩) T.size T.size)).alloc (.cells (madeCells #[Value.int .i64 0] T.size) 3)).alloc (.cells (madeCells #[Value.bool false] T.size) 4)).drew := by
  have hV : ((wr.setCell ⟨g, 3, none⟩ (.slice (some ⟨n + 1, 0, none⟩) T.size T.size)).setCell ⟨g, 2, none⟩ (.slice (some ⟨n, 0, none⟩) T.size T.size)).heap.size = n := by simp [World.setCell, hn]
  have hb : ((wr.setCell ⟨g, 3, none⟩ (.slice (some ⟨n + 1, 0, none⟩) T.size T.size)).setCell ⟨g, 2, none⟩ (.slice (some ⟨n, 0, none⟩) T.size T.size)).heap[g]? = some (.cells #[.string T, .slice (some ⟨gh, 0, none⟩) 1024 1024, .slice (some ⟨n, 0, none⟩) T.size T.size, .slice (some ⟨n + 1, 0, none⟩) T.size T.size] 63 (0, 0)) := blk_put (blk_put hI.2.2.1 3 _ rfl) 2 _ rfl
  have hne : g ≠ gh := by omega
  have hh : Blk ((wr.setCell ⟨g, 3, none⟩ (.slice (some ⟨n + 1, 0, none⟩) T.size T.size)).setCell ⟨g, 2, none⟩ (.slice (some ⟨n, 0, none⟩) T.size T.size)) gh 3 (Value.int .i64) hs := (hI.2.2.2.1.far (Ne.symm hne) _ _).far (Ne.symm hne) _ _
  have hc : Below g w0 ((wr.setCell ⟨g, 3, none⟩ (.slice (some ⟨n + 1, 0, none⟩) T.size T.size)).setCell ⟨g, 2, none⟩ (.slice (some ⟨n, 0, none⟩) T.size T.size)) := Ch.onto (S := fun i => i = g) hI.2.2.2.2 (((Ch.refl (fun i => i = g) _).set rfl).set rfl) (by have := hI.2.2.2.2.size; omega) (fun i e => by omega)
  have hlt := hI.2.2.2.1.lt
  generalize ((wr.setCell ⟨g, 3, none⟩ (.slice (some ⟨n + 1, 0, none⟩) T.size T.size)).setCell ⟨g, 2, none⟩ (.slice (some ⟨n, 0, none⟩) T.size T.size)) = V at hV hb hh hc ⊢
  have hgl : g < n := by have := blk_lt hb; omega
  obtain ⟨hA, hB, hbel⟩ := heap_two V (.cells (madeCells #[Value.int .i64 0] T.size) 3) (.cells (madeCells #[Value.bool false] T.size) 4)
  rw [hV] at hA hB
  have hi1 : Blk (((V.alloc (.cells (madeCells #[Value.int .i64 0] T.size) 3)).alloc (.cells (madeCells #[Value.bool false] T.size) 4)).drew) (n) 3 (Value.int .i64) (List.replicate T.size 0) := by unfold Blk; rw [← vals_made]; exact hA
  have hb1 : Blk (((V.alloc (.cells (madeCells #[Value.int .i64 0] T.size) 3)).alloc (.cells (madeCells #[Value.bool false] T.size) 4)).drew) (n + 1) 4 Value.bool (List.replicate T.size false) := by unfold Blk; rw [← vals_made]; exact hB
  have hsz := hI.2.2.2.2.size
  exact ⟨g, gh, n, n + 1, hs, rfl, ⟨blk_below hb (by rw [hV]; rw [hV] at hbel; exact hbel), Blk.below hh (by rw [hV]; rw [hV] at hbel; exact hbel), hi1, hb1, hI.1, by simp, by simp, hT, hne, by omega, by omega, by omega, by omega, by omega⟩, fun j hj => hI.2.1 j (by omega), by rw [hg.1]; exact ⟨hbel.os.trans hc.os, hbel.tape.trans hc.tape, hbel.output.trans hc.output, Nat.le_trans hc.size hbel.size, fun i hi => (hbel.block i (by omega)).trans (hc.block i hi)⟩, by omega, by omega, by omega, by omega⟩
theorem fin23b {w0 wr : World} {g gh n k : Nat} {T : ByteArray} {hs : List Int} (hn : wr.heap.size = n) (hg : w0.heap.size = g ∧ g + 1 = gh) (hT : T.size ≤ 2000) (hk : 1024 ≤ k)
    (hI : hs.length = 1024 ∧ (∀ j, j < k → hs.getD j 0 = -1) ∧ wr.heap[g]? = some (.cells #[.string T, .slice (some ⟨gh, 0, none⟩) 1024 1024, .slice none 0 0, .slice none 0 0] 63 (0, 0)) ∧ Blk wr gh 3 (Value.int .i64) hs ∧ Below g w0 wr) :
    NewPost T w0 (.returned (.pointer (some ⟨g, 0, none⟩))) ((((wr.setCell ⟨g, 2, none⟩ (.slice (some ⟨n + 1, 0, none⟩) T.size T.size)).setCell ⟨g, 3, none⟩ (.slice (some ⟨n, 0, none⟩) T.size T.size)).alloc (.cells (madeCells #[Value.bool false] T.size) 4)).alloc (.cells (madeCells #[Value.int .i64 0] T.size) 3)).drew := by
  have hV : ((wr.setCell ⟨g, 2, none⟩ (.slice (some ⟨n + 1, 0, none⟩) T.size T.size)).setCell ⟨g, 3, none⟩ (.slice (some ⟨n, 0, none⟩) T.size T.size)).heap.size = n := by simp [World.setCell, hn]
  have hb : ((wr.setCell ⟨g, 2, none⟩ (.slice (some ⟨n + 1, 0, none⟩) T.size T.size)).setCell ⟨g, 3, none⟩ (.slice (some ⟨n, 0, none⟩) T.size T.size)).heap[g]? = some (.cells #[.string T, .slice (some ⟨gh, 0, none⟩) 1024 1024, .slice (some ⟨n + 1, 0, none⟩) T.size T.size, .slice (some ⟨n, 0, none⟩) T.size T.size] 63 (0, 0)) := blk_put (blk_put hI.2.2.1 2 _ rfl) 3 _ rfl
  have hne : g ≠ gh := by omega
  have hh : Blk ((wr.setCell ⟨g, 2, none⟩ (.slice (some ⟨n + 1, 0, none⟩) T.size T.size)).setCell ⟨g, 3, none⟩ (.slice (some ⟨n, 0, none⟩) T.size T.size)) gh 3 (Value.int .i64) hs := (hI.2.2.2.1.far (Ne.symm hne) _ _).far (Ne.symm hne) _ _
  have hc : Below g w0 ((wr.setCell ⟨g, 2, none⟩ (.slice (some ⟨n + 1, 0, none⟩) T.size T.size)).setCell ⟨g, 3, none⟩ (.slice (some ⟨n, 0, none⟩) T.size T.size)) := Ch.onto (S := fun i => i = g) hI.2.2.2.2 (((Ch.refl (fun i => i = g) _).set rfl).set rfl) (by have := hI.2.2.2.2.size; omega) (fun i e => by omega)
  have hlt := hI.2.2.2.1.lt
  generalize ((wr.setCell ⟨g, 2, none⟩ (.slice (some ⟨n + 1, 0, none⟩) T.size T.size)).setCell ⟨g, 3, none⟩ (.slice (some ⟨n, 0, none⟩) T.size T.size)) = V at hV hb hh hc ⊢
  have hgl : g < n := by have := blk_lt hb; omega
  obtain ⟨hA, hB, hbel⟩ := heap_two V (.cells (madeCells #[Value.bool false] T.size) 4) (.cells (madeCells #[Value.int .i64 0] T.size) 3)
  rw [hV] at hA hB
  have hi1 : Blk (((V.alloc (.cells (madeCells #[Value.bool false] T.size) 4)).alloc (.cells (madeCells #[Value.int .i64 0] T.size) 3)).drew) (n + 1) 3 (Value.int .i64) (List.replicate T.size 0) := by unfold Blk; rw [← vals_made]; exact hB
  have hb1 : Blk (((V.alloc (.cells (madeCells #[Value.bool false] T.size) 4)).alloc (.cells (madeCells #[Value.int .i64 0] T.size) 3)).drew) (n) 4 Value.bool (List.replicate T.size false) := by unfold Blk; rw [← vals_made]; exact hA
  have hsz := hI.2.2.2.2.size
  exact ⟨g, gh, n + 1, n, hs, rfl, ⟨blk_below hb (by rw [hV]; rw [hV] at hbel; exact hbel), Blk.below hh (by rw [hV]; rw [hV] at hbel; exact hbel), hi1, hb1, hI.1, by simp, by simp, hT, hne, by omega, by omega, by omega, by omega, by omega⟩, fun j hj => hI.2.1 j (by omega), by rw [hg.1]; exact ⟨hbel.os.trans hc.os, hbel.tape.trans hc.tape, hbel.output.trans hc.output, Nat.le_trans hc.size hbel.size, fun i hi => (hbel.block i (by omega)).trans (hc.block i hi)⟩, by omega, by omega, by omega, by omega⟩
theorem fin32b {w0 wr : World} {g gh n k : Nat} {T : ByteArray} {hs : List Int} (hn : wr.heap.size = n) (hg : w0.heap.size = g ∧ g + 1 = gh) (hT : T.size ≤ 2000) (hk : 1024 ≤ k)
    (hI : hs.length = 1024 ∧ (∀ j, j < k → hs.getD j 0 = -1) ∧ wr.heap[g]? = some (.cells #[.string T, .slice (some ⟨gh, 0, none⟩) 1024 1024, .slice none 0 0, .slice none 0 0] 63 (0, 0)) ∧ Blk wr gh 3 (Value.int .i64) hs ∧ Below g w0 wr) :
    NewPost T w0 (.returned (.pointer (some ⟨g, 0, none⟩))) ((((wr.setCell ⟨g, 3, none⟩ (.slice (some ⟨n, 0, none⟩) T.size T.size)).setCell ⟨g, 2, none⟩ (.slice (some ⟨n + 1, 0, none⟩) T.size T.size)).alloc (.cells (madeCells #[Value.bool false] T.size) 4)).alloc (.cells (madeCells #[Value.int .i64 0] T.size) 3)).drew := by
  have hV : ((wr.setCell ⟨g, 3, none⟩ (.slice (some ⟨n, 0, none⟩) T.size T.size)).setCell ⟨g, 2, none⟩ (.slice (some ⟨n + 1, 0, none⟩) T.size T.size)).heap.size = n := by simp [World.setCell, hn]
  have hb : ((wr.setCell ⟨g, 3, none⟩ (.slice (some ⟨n, 0, none⟩) T.size T.size)).setCell ⟨g, 2, none⟩ (.slice (some ⟨n + 1, 0, none⟩) T.size T.size)).heap[g]? = some (.cells #[.string T, .slice (some ⟨gh, 0, none⟩) 1024 1024, .slice (some ⟨n + 1, 0, none⟩) T.size T.size, .slice (some ⟨n, 0, none⟩) T.size T.size] 63 (0, 0)) := blk_put (blk_put hI.2.2.1 3 _ rfl) 2 _ rfl
  have hne : g ≠ gh := by omega
  have hh : Blk ((wr.setCell ⟨g, 3, none⟩ (.slice (some ⟨n, 0, none⟩) T.size T.size)).setCell ⟨g, 2, none⟩ (.slice (some ⟨n + 1, 0, none⟩) T.size T.size)) gh 3 (Value.int .i64) hs := (hI.2.2.2.1.far (Ne.symm hne) _ _).far (Ne.symm hne) _ _
  have hc : Below g w0 ((wr.setCell ⟨g, 3, none⟩ (.slice (some ⟨n, 0, none⟩) T.size T.size)).setCell ⟨g, 2, none⟩ (.slice (some ⟨n + 1, 0, none⟩) T.size T.size)) := Ch.onto (S := fun i => i = g) hI.2.2.2.2 (((Ch.refl (fun i => i = g) _).set rfl).set rfl) (by have := hI.2.2.2.2.size; omega) (fun i e => by omega)
  have hlt := hI.2.2.2.1.lt
  generalize ((wr.setCell ⟨g, 3, none⟩ (.slice (some ⟨n, 0, none⟩) T.size T.size)).setCell ⟨g, 2, none⟩ (.slice (some ⟨n + 1, 0, none⟩) T.size T.size)) = V at hV hb hh hc ⊢
  have hgl : g < n := by have := blk_lt hb; omega
  obtain ⟨hA, hB, hbel⟩ := heap_two V (.cells (madeCells #[Value.bool false] T.size) 4) (.cells (madeCells #[Value.int .i64 0] T.size) 3)
  rw [hV] at hA hB
  have hi1 : Blk (((V.alloc (.cells (madeCells #[Value.bool false] T.size) 4)).alloc (.cells (madeCells #[Value.int .i64 0] T.size) 3)).drew) (n + 1) 3 (Value.int .i64) (List.replicate T.size 0) := by unfold Blk; rw [← vals_made]; exact hB
  have hb1 : Blk (((V.alloc (.cells (madeCells #[Value.bool false] T.size) 4)).alloc (.cells (madeCells #[Value.int .i64 0] T.size) 3)).drew) (n) 4 Value.bool (List.replicate T.size false) := by unfold Blk; rw [← vals_made]; exact hA
  have hsz := hI.2.2.2.2.size
  exact ⟨g, gh, n + 1, n, hs, rfl, ⟨blk_below hb (by rw [hV]; rw [hV] at hbel; exact hbel), Blk.below hh (by rw [hV]; rw [hV] at hbel; exact hbel), hi1, hb1, hI.1, by simp, by simp, hT, hne, by omega, by omega, by omega, by omega, by omega⟩, fun j hj => hI.2.1 j (by omega), by rw [hg.1]; exact ⟨hbel.os.trans hc.os, hbel.tape.trans hc.tape, hbel.output.trans hc.output, Nat.le_trans hc.size hbel.size, fun i hi => (hbel.block i (by omega)).trans (hc.block i hi)⟩, by omega, by omega, by omega, by omega⟩

theorem info4 : (Try.prog.info? 4).map (fun i => (i.zero, i.size, i.bytes)) = some (some (.bool false), 1, 1) := by kernel_rfl
set_option maxRecDepth 100000 in
set_option maxHeartbeats 4000000 in
theorem fnew_any (T : ByteArray) (hT : T.size ≤ 2000) (w0 : World) : Calls Try.prog 19 #[.string T] w0 (NewPost T w0) := by
  obtain ⟨mh, HMH⟩ : ∃ mh, Aside0 (madeCells #[Value.int .i64 0] 1024 = mh) := ⟨_, ⟨rfl⟩⟩
  have hmk : ∀ W : World, (Instr.makeSlice 60 (.int .i64 1024) (.int .i64 1024)).run Try.prog W = .ok (.slice (some ⟨W.heap.size, 0, none⟩) 1024 1024) (W.alloc (.cells mh 3)) := by
    rw [← HMH.out]
    exact print_make (P := Try.prog) 60 3 .i64 8 Try.underlying60 info3 (by decide) 1024 (by omega)
  have hmk2 := print_make (P := Try.prog) 60 3 .i64 8 Try.underlying60 info3 (by decide) T.size (by omega)
  have hmk3 := print_make_of (P := Try.prog) 61 4 (.bool false) 1 Try.underlying61 info4 rfl (by decide) T.size (by omega)
  have hmin : (if (2000 : Int) < (T.size : Int) then 2000 else (T.size : Int)) = (T.size : Int) := by rw [if_neg (by omega)]
  obtain ⟨hs0, hhs0⟩ : ∃ hs0 : List Int, List.replicate 1024 0 = hs0 := ⟨_, rfl⟩
  have HH0 : Aside0 (mh = vals (Value.int .i64) hs0 ∧ hs0.length = 1024) := ⟨by rw [← HMH.out, vals_made, hhs0], by rw [← hhs0]; simp⟩
  clear hhs0 HMH
  obtain ⟨g, hg⟩ : ∃ g, w0.heap.size = g := ⟨_, rfl⟩
  go_enter Try.func19, Try.ntmps19
  go_wp2_with fail
  have HT : Aside0 (((w0.alloc (.cells #[.string T, .slice (some ⟨g + 1, 0, none⟩) 1024 1024, .slice none 0 0, .slice none 0 0] 63)).alloc (.cells mh 3)).heap[g]? = some (.cells #[.string T, .slice (some ⟨g + 1, 0, none⟩) 1024 1024, .slice none 0 0, .slice none 0 0] 63 (0, 0)) ∧ Blk ((w0.alloc (.cells #[.string T, .slice (some ⟨g + 1, 0, none⟩) 1024 1024, .slice none 0 0, .slice none 0 0] 63)).alloc (.cells mh 3)) (g + 1) 3 (Value.int .i64) hs0 ∧ Below g w0 ((w0.alloc (.cells #[.string T, .slice (some ⟨g + 1, 0, none⟩) 1024 1024, .slice none 0 0, .slice none 0 0] 63)).alloc (.cells mh 3))) := ⟨by
    subst hg
    refine ⟨blk_below (blk_new w0 _) (below_alloc (Below.refl _ _) _), ?_, below_alloc (below_alloc (Below.refl _ _) _) _⟩
    have := blk_new (w0.alloc (.cells #[.string T, .slice (some ⟨w0.heap.size + 1, 0, none⟩) 1024 1024, .slice none 0 0, .slice none 0 0] 63)) (.cells mh 3)
    rw [HH0.out.1] at this ⊢
    simpa [Blk] using this⟩
  generalize (w0.alloc (.cells #[.string T, .slice (some ⟨g + 1, 0, none⟩) 1024 1024, .slice none 0 0, .slice none 0 0] 63)).alloc (.cells mh 3) = W at HT ⊢
  obtain ⟨gh, hgh⟩ : ∃ gh, g + 1 = gh := ⟨_, rfl⟩
  rw [hgh] at HT ⊢
  have HG : Aside0 (w0.heap.size = g ∧ g + 1 = gh) := ⟨hg, hgh⟩
  clear hg hgh hmk
  go_loopg [21] 1024 (fun gk y wr => ∃ (k : Nat) (hs : List Int), Aside0 (k + gk = 1024) ∧ y = .int .i64 k ∧ Aside0 (hs.length = 1024 ∧ (∀ j, j < k → hs.getD j 0 = -1) ∧ wr.heap[g]? = some (.cells #[.string T, .slice (some ⟨gh, 0, none⟩) 1024 1024, .slice none 0 0, .slice none 0 0] 63 (0, 0)) ∧ Blk wr gh 3 (Value.int .i64) hs ∧ Below g w0 wr))
  case atStart => exact ⟨0, hs0, ⟨by omega⟩, rfl, ⟨HH0.out.2, fun j hj => by omega, HT.out.1, HT.out.2.1, HT.out.2.2⟩⟩
  case round =>
    clear HT
    obtain ⟨k, hs, HK, rfl, HI⟩ := hrel
    have c1 : wr.cell? ⟨g, 1, none⟩ = some (.slice (some ⟨gh, 0, none⟩) 1024 1024) := (blk_cell HI.out.2.2.1 1).trans rfl
    have hne : g ≠ gh := by have := HG.out; omega
    by_cases hlt : k < 1024
    · have e1 : wr.cell? ⟨gh, k, none⟩ = some (.int .i64 (hs.getD k 0)) := HI.out.2.2.2.1.cell k 0 (by rw [HI.out.1]; exact hlt)
      have f1 := HI.out.2.2.2.1.free k
      go_wp2
      go_roundg (gk - 1)
      case measure => have := HK.out; omega
      case rel =>
        refine ⟨k + 1, hs.set k (-1), ⟨by have := HK.out; omega⟩, by go_num, ⟨by rw [List.length_set]; exact HI.out.1, ?_, blk_far HI.out.2.2.1 hne _, HI.out.2.2.2.1.put k (-1), Ch.onto (S := fun i => i = gh) HI.out.2.2.2.2 ((Ch.refl _ _).set rfl) (by have := HG.out; have := HI.out.2.2.2.2.size; omega) (fun i e => by have := HG.out; omega)⟩⟩
        intro j hj
        by_cases e : j = k
        · subst e; simp [List.getD_eq_getElem?_getD, List.getElem?_set, HI.out.1, hlt]
        · have := HI.out.2.1 j (by omega)
          rw [← this]
          simp [List.getD_eq_getElem?_getD, List.getElem?_set, Ne.symm e]
    · have c0 : wr.cell? ⟨g, 0, none⟩ = some (.string T) := (blk_cell HI.out.2.2.1 0).trans rfl
      have c2 : wr.cell? ⟨g, 2, none⟩ = some (.slice none 0 0) := (blk_cell HI.out.2.2.1 2).trans rfl
      have c3 : wr.cell? ⟨g, 3, none⟩ = some (.slice none 0 0) := (blk_cell HI.out.2.2.1 3).trans rfl
      have fg := fun i => blk_frozen HI.out.2.2.1 i
      have hgl : g < wr.heap.size := blk_lt HI.out.2.2.1
      have hk : 1024 ≤ k := by omega
      go_wp2
      go_region
      all_goals
        go_wp2
        go_ret
        show NewPost T w0 (.returned (.pointer (some ⟨g, 0, none⟩))) _
        first | (with_reducible exact fin23i rfl HG.out hT hk HI.out) | (with_reducible exact fin32i rfl HG.out hT hk HI.out) | (with_reducible exact fin23b rfl HG.out hT hk HI.out) | (with_reducible exact fin32b rfl HG.out hT hk HI.out) | trace_state
end
section
open Go.Proofs.Ytfcpjblogeofpac.Pl
variable {g gh ga gn : Nat} {w w1 : World} {T : ByteArray} {rs : List Nat}
/-- May a place be noted? -/
def okN (T : ByteArray) (rs : List Nat) (a : Int) : Bool := rightB T.size a && !decide (a.toNat ∈ rs)
def newR (T : ByteArray) (rs : List Nat) (a : Int) : List Nat := if okN T rs a = true then a.toNat :: rs else rs
def foundI (T : ByteArray) (rs : List Nat) (a d : Int) : Int × Int := if rightB T.size a = true then found T rs a.toNat d else (0, 0)
theorem right_in {n : Nat} {a : Int} (h : rightB n a = true) : ∃ m : Nat, a = (m : Int) ∧ m + 3 ≤ n := by
  have := of_decide_eq_true h
  exact ⟨a.toNat, by omega, by omega⟩
/-- A finder in which these places are noted. -/
def Fnd (w : World) (g gh ga gn : Nat) (T : ByteArray) (rs : List Nat) : Prop := ∃ hs ah nt, FinderAt w g gh ga gn T hs ah nt ∧ Chains (hsh T) rs hs ah ∧ (∀ p, p < T.size → nt.getD p false = decide (p ∈ rs)) ∧ (∀ p ∈ rs, p + 3 ≤ T.size)
theorem Fnd.below (x : Fnd w g gh ga gn T rs) (k : Below w.heap.size w w1) : Fnd w1 g gh ga gn T rs := by
  obtain ⟨hs, ah, nt, h1, h2⟩ := x
  exact ⟨hs, ah, nt, h1.below k, h2⟩
theorem Fnd.ch {S : Nat → Prop} (x : Fnd w g gh ga gn T rs) (hc : Ch S w w1) (h0 : ¬ S g) (h1 : ¬ S gh) (h2 : ¬ S ga) (h3 : ¬ S gn) : Fnd w1 g gh ga gn T rs := by
  obtain ⟨hs, ah, nt, y, r⟩ := x
  exact ⟨hs, ah, nt, ⟨hc.blk y.box h0, y.heads.ch hc h1, y.ahead.ch hc h2, y.noted.ch hc h3, y.hl, y.al, y.nl, y.small, y.d1, y.d2, y.d3, y.d4, y.d5, y.d6⟩, r⟩
theorem fnew_of {hs : List Int} (h1 : FinderAt w g gh ga gn T hs (List.replicate T.size 0) (List.replicate T.size false)) (h2 : ∀ k, k < 1024 → hs.getD k 0 = -1) : Fnd w g gh ga gn T [] :=
  ⟨_, _, _, h1, Chains.first _ _ _ h2, fun p hp => by simp [List.getD_eq_getElem?_getD, List.getElem?_replicate, hp], fun p hp => by cases hp⟩
theorem fnote (a : Int) (ha : -9223372036854775808 ≤ a) (x : Fnd w g gh ga gn T rs) : Calls Try.prog 20 #[.pointer (some ⟨g, 0, none⟩), .int .i64 a] w fun e w' => e = .returned (.bool (okN T rs a)) ∧ Fnd w' g gh ga gn T (newR T rs a) ∧ Ch (fun i => i = gh ∨ i = ga ∨ i = gn) w w' := by
  have hx := x
  obtain ⟨hs, ah, nt, h1, h2, h3, h4⟩ := x
  cases hr : rightB T.size a with
  | false =>
    refine (note_wrong a ha hr h1).mono ?_
    rintro e w' ⟨rfl, rfl⟩
    have e1 : okN T rs a = false := by simp [okN, hr]
    refine ⟨by rw [e1], by unfold newR; rw [e1]; exact hx, Ch.refl _ _⟩
  | true =>
    obtain ⟨m, rfl, hm⟩ := right_in hr
    by_cases hin : m ∈ rs
    · refine (note_again m hm (by rw [h3 m (by omega)]; exact decide_eq_true hin) h1).mono ?_
      rintro e w' ⟨rfl, rfl⟩
      have e1 : okN T rs (m : Int) = false := by simp [okN, hin]
      refine ⟨by rw [e1], by unfold newR; rw [e1]; exact hx, Ch.refl _ _⟩
    · refine (note_yes m hm (by rw [h3 m (by omega)]; exact decide_eq_false hin) h1).mono ?_
      rintro e w' ⟨rfl, hf, hc⟩
      have e1 : okN T rs (m : Int) = true := by simp [okN, hin, hr]
      refine ⟨by rw [e1], ?_, hc⟩
      unfold newR
      rw [if_pos e1]
      refine ⟨_, _, _, hf, Chains.note h2 m hin (by rw [h1.al]; omega) h1.hl (hsh_lt T m), fun p hp => ?_, fun p hp => ?_⟩
      · rw [Int.toNat_natCast]
        by_cases e : p = m
        · subst e
          simp [List.getD_eq_getElem?_getD, List.getElem?_set, h1.nl, hp]
        · have := h3 p hp
          rw [List.getD_eq_getElem?_getD, List.getElem?_set_ne (Ne.symm e), ← List.getD_eq_getElem?_getD, this]
          simp [e]
      · rcases List.mem_cons.1 hp with rfl | hp
        · exact hm
        · exact h4 p hp
theorem ffind (a d : Int) (ha : -9223372036854775808 ≤ a) (x : Fnd w g gh ga gn T rs) : Calls Try.prog 21 #[.pointer (some ⟨g, 0, none⟩), .int .i64 a, .int .i64 d] w fun e w' => e = .returned (.tuple #[.int .i64 (foundI T rs a d).1, .int .i64 (foundI T rs a d).2]) ∧ Drawn0 w w' := by
  obtain ⟨hs, ah, nt, h1, h2, h3, h4⟩ := x
  cases hr : rightB T.size a with
  | false =>
    refine (find_wrong a d ha hr h1).mono ?_
    rintro e w' ⟨rfl, rfl⟩
    have e1 : foundI T rs a d = (0, 0) := by unfold foundI; rw [if_neg (by rw [hr]; simp)]
    exact ⟨by rw [e1], Drawn0.refl _⟩
  | true =>
    obtain ⟨m, rfl, hm⟩ := right_in hr
    refine (find_any m hm d rs h4 h2 h1).mono ?_
    rintro e w' ⟨rfl, hd⟩
    have e1 : foundI T rs (m : Int) d = found T rs m d := by unfold foundI; rw [if_pos hr, Int.toNat_natCast]
    exact ⟨by rw [e1], hd⟩
end
end Go.Proofs.Ytfcpjblogeofpac
