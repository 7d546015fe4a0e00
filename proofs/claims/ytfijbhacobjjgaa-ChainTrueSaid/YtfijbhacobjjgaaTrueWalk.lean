/- The walk of ChainTrue: it answers true. -/
import Derived.Test.YtfijbhacobjjgaaChainE
namespace Go.Proofs.Ytfijbhacobjjgaa
open Go.RowKit Go.Proofs.YtfijbhacobjjgaaW.PrintWords Go.Proofs.YtfijbhacobjjgaaW.PrintLast Go.Proofs.YtfijbhacobjjgaaW.PrintMore Go.Proofs.Ytfijbhacobjjgaa.Fr
set_option linter.unusedVariables false
set_option linter.unusedSimpArgs false
attribute [local go_sem] max2_int min2_int max_two min_two

open Go.Proofs.Ytfijbhacobjjgaa.Pl
/-- The best of all below. -/
def bst (f : Nat → Nat) : Nat → Nat
  | 0 => 0
  | n + 1 => if 3 ≤ f n then max (bst f n) (f n) else bst f n
theorem bst_best3 (sm : Nat → Nat → Nat) (k : Nat) : ∀ n, bst (fun p => sm p k) n = best3 sm k n
  | 0 => rfl
  | n + 1 => by simp only [bst, best3, bst_best3 sm k n]
theorem bst_zero {f : Nat → Nat} : ∀ n, (∀ p, p < n → f p < 3) → bst f n = 0
  | 0, _ => rfl
  | n + 1, h => by
    simp only [bst]
    rw [if_neg (by have := h n (by omega); omega)]
    exact bst_zero n (fun p hp => h p (by omega))
theorem bst_le {f : Nat → Nat} {M : Nat} (h : ∀ p, f p ≤ M) : ∀ n, bst f n ≤ M
  | 0 => Nat.zero_le _
  | n + 1 => by
    simp only [bst]
    have h1 := bst_le h n
    have h2 := h n
    split <;> omega
theorem ext_bg (T : ByteArray) (p q n : Nat) (hp : p + n ≤ T.size) (hq : q + n ≤ T.size) : T.extract p (p + n) = T.extract q (q + n) ↔ ∀ j, j < n → bg T (p + j) = bg T (q + j) := by
  have key : ∀ a, a + n ≤ T.size → ∀ j, j < n → (T.extract a (a + n)).data.toList.getD j 0 = bg T (a + j) := by
    intro a ha j hj
    unfold bg
    rw [ByteArray.data_extract, Array.toList_extract]
    simp only [List.extract_eq_take_drop, List.getD_eq_getElem?_getD]
    rw [List.getElem?_take, if_pos (by omega), List.getElem?_drop]
  constructor
  · intro h j hj
    rw [← key p hp j hj, ← key q hq j hj, h]
  · intro h
    apply ByteArray.ext
    apply Array.ext'
    apply List.ext_getElem
    · simp [ByteArray.data_extract]
      have : T.data.size = T.size := rfl
      omega
    · intro j h1 h2
      have hj : j < n := by
        have : (T.extract p (p + n)).data.toList.length = n := by
          rw [Array.length_toList]
          show (T.extract p (p + n)).size = n
          rw [ByteArray.size_extract]; omega
        omega
      have e1 := key p hp j hj
      have e2 := key q hq j hj
      rw [List.getD_eq_getElem?_getD, List.getElem?_eq_getElem h1] at e1
      rw [List.getD_eq_getElem?_getD, List.getElem?_eq_getElem h2] at e2
      simp only [Option.getD_some] at e1 e2
      rw [e1, e2, h j hj]
theorem sm_ge (T : ByteArray) (p q n : Nat) (hp : p + n ≤ T.size) (hq : q + n ≤ T.size) : n ≤ sm T p q ↔ ∀ j, j < n → bg T (p + j) = bg T (q + j) := by
  constructor
  · intro h j hj
    exact (cnt_all T p q T.size 0 j (Nat.zero_le _) (by unfold sm at h; omega)).2.2
  · intro h
    refine Decidable.byContradiction fun hn => ?_
    have := cnt_more T p q T.size 0 (by omega)
    unfold sm at hn
    exact this ⟨by omega, by omega, h _ (by omega)⟩
theorem th_iff (T : ByteArray) (p k : Nat) (hp : p + 3 ≤ T.size) (hk : k + 3 ≤ T.size) : thB T k p = true ↔ 3 ≤ sm T p k := by
  unfold thB three
  rw [decide_eq_true_iff, ext_bg T p k 3 hp hk, sm_ge T p k 3 hp hk]
def rsAt (T : ByteArray) (i : Nat) : List Nat := (down i).filter (fun p => decide (p + 3 ≤ T.size))
theorem down_lt : ∀ (n p : Nat), p ∈ down n → p < n
  | 0, p, h => by cases h
  | n + 1, p, h => by
    rcases List.mem_cons.1 h with rfl | h
    · omega
    · have := down_lt n p h; omega
theorem rsAt_succ (T : ByteArray) (i : Nat) : newR T (rsAt T i) (i : Int) = rsAt T (i + 1) := by
  have hn : ¬ i ∈ rsAt T i := fun h => by have := down_lt i i (List.mem_filter.1 h).1; omega
  unfold newR okN
  rw [Int.toNat_natCast]
  have e : rsAt T (i + 1) = if i + 3 ≤ T.size then i :: rsAt T i else rsAt T i := by
    unfold rsAt
    simp only [down, List.filter_cons, decide_eq_true_eq]
  rw [e]
  by_cases h : i + 3 ≤ T.size
  · have hr : rightB T.size (i : Int) = true := by unfold rightB; exact decide_eq_true (by omega)
    simp [hr, hn, h]
  · have hr : rightB T.size (i : Int) = false := by unfold rightB; exact decide_eq_false (by omega)
    simp [hr, h]
/-- The longest match of all places ahead. -/
theorem found_best (T : ByteArray) (k : Nat) (hT : T.size ≤ 900) (hk : k ≤ 900) :
    (foundI T (rsAt T (min k T.size)) (k : Int) 1000 = (0, 0) ∧ bst (fun p => smI T p k) (min k T.size) = 0) ∨
    (∃ p n, p < k ∧ 3 ≤ n ∧ n = sm T p k ∧ k + n ≤ T.size ∧ foundI T (rsAt T (min k T.size)) (k : Int) 1000 = ((k : Int) - p, (n : Int)) ∧ bst (fun p => smI T p k) (min k T.size) = n ∧ T.extract p (p + n) = T.extract k (k + n)) := by
  by_cases hr : k + 3 ≤ T.size
  · have hrb : rightB T.size (k : Int) = true := by unfold rightB; exact decide_eq_true (by omega)
    have hmin : min k T.size = k := by omega
    have hd : depthN 1000 = 1000 := by decide
    have e1 : foundI T (rsAt T k) (k : Int) 1000 = Pl.look (sm T) (thB T k) k (rsAt T k) 1000 (0, 0) := by
      unfold foundI
      rw [if_pos hrb, Int.toNat_natCast]
      unfold found
      rw [hd]
    have e2 : ∀ n, n ≤ k → bst (fun p => smI T p k) n = best3 (sm T) k n := fun n hn => by
      rw [← bst_best3]
      induction n with
      | zero => rfl
      | succ n ih =>
        have e : smI T (n : Int) (k : Int) = sm T n k := by unfold smI; rw [if_neg (by omega)]; rfl
        simp only [bst, ih (by omega), e]
    rw [hmin, e1, e2 k (Nat.le_refl _)]
    have hth : ∀ p, p < k → (thB T k p = true ↔ 3 ≤ sm T p k) := fun p hp => th_iff T p k (by omega) hr
    have hg : ∀ p, 3 ≤ sm T p k → (fun p => decide (p + 3 ≤ T.size)) p = true := fun p hp => by
      have h := (cnt_all T p k T.size 0 2 (by omega) (by unfold sm at hp; omega)).1
      exact decide_eq_true (by omega)
    obtain ⟨r, hl, hr2, hr3⟩ := look_best (sm T) (thB T k) k hth _ hg k 1000 (0, 0) (Nat.le_refl _) (by omega) (.inl rfl)
    unfold rsAt
    rw [hl]
    simp only at hr2
    rcases hr3 with rfl | ⟨p, hp, rfl, h3⟩
    · left
      exact ⟨rfl, by simp only at hr2; omega⟩
    · right
      have hkn : k + sm T p k ≤ T.size := by
        have := (cnt_all T p k T.size 0 (sm T p k - 1) (Nat.zero_le _) (by unfold sm at *; omega)).2.1
        omega
      refine ⟨p, sm T p k, hp, h3, rfl, hkn, rfl, by simp only at hr2; omega, (ext_bg T p k _ (by omega) hkn).2 ?_⟩
      exact (sm_ge T p k _ (by omega) hkn).1 (Nat.le_refl _)
  · left
    have hrb : ¬ rightB T.size (k : Int) = true := by unfold rightB; rw [decide_eq_true_iff]; omega
    refine ⟨by unfold foundI; rw [if_neg hrb], bst_zero _ fun p hp => ?_⟩
    show smI T p k < 3
    unfold smI
    split
    · omega
    · rename_i h
      rw [Int.toNat_natCast, Int.toNat_natCast]
      refine Decidable.byContradiction fun hc => ?_
      have := (cnt_all T p k T.size 0 2 (by omega) (by unfold sm at hc; omega)).2.1
      omega
set_option maxRecDepth 100000 in
set_option maxHeartbeats 8000000 in
theorem true_walk (T : ByteArray) (hT : T.size ≤ 140737488351232) (at_ : Int) (hat : (Lit.int .u8 at_).wf = true) (w0 : World) :
    Calls Try.prog 4 #[.string T, .int .u8 at_] w0 fun e w' => e = .returned (.bool true) ∧ Below w0.heap.size w0 w' := by
  have h255 : 0 ≤ at_ ∧ at_ ≤ 255 := by simp [Lit.wf, IntKind.min, IntKind.max, IntKind.signed, IntKind.bits] at hat; omega
  obtain ⟨k, rfl⟩ : ∃ k : Nat, at_ = (k : Int) := ⟨at_.toNat, by omega⟩
  have hk : k ≤ 255 := by omega
  clear hat h255
  by_cases hlen : 120 < T.size
  · have hd : decide ((120 : Int) < (T.size : Int)) = true := decide_eq_true (by omega)
    go_enter Try.func4, Try.ntmps4
    go_wp2_with fail
    refine (awake_any _).mono ?_
    rintro e w1 ⟨rfl, hb⟩
    have HB := Aside0.mk hb
    clear hb
    go_wp2
    go_ret
    exact ⟨rfl, HB.out⟩
  · have hd : decide ((120 : Int) < (T.size : Int)) = false := decide_eq_false (by omega)
    have hT1 : T.size ≤ 120 := by omega
    clear hlen hT
    obtain ⟨N, hN⟩ : ∃ N, min k T.size = N := ⟨_, rfl⟩
    have hmin : (if T.size < k then (T.size : Int) else (k : Int)) = (N : Int) := by split <;> omega
    have HFB := Aside0.mk (found_best T k (by omega) (by omega))
    rw [hN] at HFB
    have hN1 : N ≤ k := by omega
    have hN2 : N ≤ T.size := by omega
    clear hN
    go_enter Try.func4, Try.ntmps4
    go_wp2_with fail
    refine (awake_any _).mono ?_
    rintro e w1 ⟨rfl, hb⟩
    have HB := Aside0.mk hb
    clear hb
    go_wp2_with fail
    refine (new_any T (by omega) _).mono ?_
    rintro e w2 ⟨g, gh, ga, gn, hs, rfl, hf, hh, hb, hg, hgh, hga, hgn⟩
    have HT : Aside0 (Fnd w2 g gh ga gn T [] ∧ Below w0.heap.size w0 w2 ∧ w0.heap.size ≤ g ∧ w0.heap.size ≤ gh ∧ w0.heap.size ≤ ga ∧ w0.heap.size ≤ gn) := ⟨fnew_of hf hh, below_step HB.out hb, by have := HB.out.size; omega, by have := HB.out.size; omega, by have := HB.out.size; omega, by have := HB.out.size; omega⟩
    clear hf hh hb hg hgh hga hgn HB
    go_wp2
    go_loopg [26] N (fun gk y wr => ∃ i : Nat, Aside0 (i + gk = N) ∧ y = .int .i64 i ∧ Aside0 (Fnd wr g gh ga gn T (rsAt T i) ∧ Below w0.heap.size w0 wr))
    case atStart => exact ⟨0, ⟨by omega⟩, rfl, ⟨HT.out.1, HT.out.2.1⟩⟩
    case round =>
      obtain ⟨i, HK, rfl, HI⟩ := hrel
      by_cases hlt : i < N
      · go_wp2_with fail
        refine (fnote (i : Int) (by omega) HI.out.1).mono ?_
        rintro e w3 ⟨rfl, hf, hc⟩
        have HI2 : Aside0 (Fnd w3 g gh ga gn T (rsAt T (i + 1)) ∧ Below w0.heap.size w0 w3) := ⟨by rw [← rsAt_succ]; exact hf, Ch.onto HI.out.2 hc HI.out.2.size (fun j hj => by have := HT.out.2.2; omega)⟩
        clear hf hc HI
        generalize okN T (rsAt T i) (i : Int) = bb
        go_wp2
        go_roundg (gk - 1)
        case measure => have := HK.out; omega
        case rel => exact ⟨i + 1, ⟨by have := HK.out; omega⟩, by go_num, HI2⟩
      · obtain rfl : i = N := by have := HK.out; omega
        clear HK hlt
        obtain ⟨o, n, hon⟩ : ∃ o n, foundI T (rsAt T i) (k : Int) 1000 = (o, n) := ⟨_, _, rfl⟩
        have HF : Aside0 (Calls Try.prog 10 #[.pointer (some ⟨g, 0, none⟩), .int .i64 k, .int .i64 1000] wr fun e w' => e = .returned (.tuple #[.int .i64 o, .int .i64 n]) ∧ Drawn0 wr w') := ⟨by have := ffind (k : Int) 1000 (by omega) HI.out.1; rwa [hon] at this⟩
        rw [hon] at HFB
        clear hon
        go_wp2_with fail
        refine (HF.out).mono ?_
        rintro e w3 ⟨rfl, hd3⟩
        have HB3 : Aside0 (Below w0.heap.size w0 w3) := ⟨below_step HI.out.2 hd3.below⟩
        clear hd3 HF HI HT
        go_wp2
        go_loopg [10, 43] i (fun gk x y wr => ∃ j : Nat, Aside0 (j + gk = i) ∧ x = .int .i64 (bst (fun p => smI T p k) j : Nat) ∧ y = .int .i64 j ∧ Aside0 (Below w0.heap.size w0 wr))
        case atStart => exact ⟨0, ⟨by omega⟩, rfl, rfl, HB3⟩
        case round =>
          clear HB3
          obtain ⟨j, HK, rfl, rfl, HB⟩ := hrel
          by_cases hlt : j < i
          · obtain ⟨m, hm⟩ : ∃ m, smI T (j : Int) (k : Int) = m := ⟨_, rfl⟩
            obtain ⟨b, hb⟩ : ∃ b, bst (fun p => smI T p k) j = b := ⟨_, rfl⟩
            have HSM : Aside0 (∀ w, Calls Try.prog 13 #[.string T, .int .i64 j, .int .i64 k] w fun e w' => e = .returned (.int .i64 m) ∧ Drawn0 w w') := ⟨fun w => hm ▸ rsame_any T j k (by omega) w⟩
            have HBS : Aside0 (bst (fun p => smI T p k) (j + 1) = if 3 ≤ m then max b m else b) := ⟨by simp only [bst]; rw [hm, hb]⟩
            rw [hb]
            clear hm hb
            by_cases h3 : 3 ≤ m
            · have hmx : (if b < m then (m : Int) else (b : Int)) = ((max b m : Nat) : Int) := by split <;> omega
              go_wp2_with fail
              refine (HSM.out _).mono ?_
              rintro e w5 ⟨rfl, hd5⟩
              have HB5 := Aside0.mk (below_step HB.out hd5.below)
              clear hd5
              go_wp2
              go_roundg (gk - 1)
              case measure => have := HK.out; omega
              case rel => exact ⟨j + 1, ⟨by have := HK.out; omega⟩, by rw [HBS.out, if_pos h3], by go_num, HB5⟩
            · go_wp2_with fail
              refine (HSM.out _).mono ?_
              rintro e w5 ⟨rfl, hd5⟩
              have HB5 := Aside0.mk (below_step HB.out hd5.below)
              clear hd5
              go_wp2
              go_roundg (gk - 1)
              case measure => have := HK.out; omega
              case rel => exact ⟨j + 1, ⟨by have := HK.out; omega⟩, by rw [HBS.out, if_neg h3], by go_num, HB5⟩
          · obtain rfl : j = i := by have := HK.out; omega
            rcases HFB.out with ⟨h1, h2⟩ | ⟨p, n, hp, h3, hn, hkn, h1, h2, hex⟩
            · cases h1
              rw [h2]
              clear h2
              go_wp2
              go_quiet (fail)
              go_wp2
              go_ret
              exact ⟨rfl, below_step HB.out (Drawn0.below (Drawn0.step (Drawn0.refl _) _))⟩
            · cases h1
              rw [h2]
              have HSM : Aside0 (∀ w, Calls Try.prog 14 #[.string T, .int .i64 p, .int .i64 k] w fun e w' => e = .returned (.int .i64 n) ∧ Drawn0 w w') := ⟨fun w => by
                have := same_any T p k (by omega) w
                have e : smI T p k = n := by unfold smI; rw [if_neg (by omega)]; exact hn.symm
                rwa [e] at this⟩
              have hst : ((T.extract p (p + n)).toList == (T.extract k (k + n)).toList) = true := by rw [str_beq]; exact decide_eq_true hex
              have hpp : (0 : Int) < (k : Int) - (p : Int) := by omega
              have hw1 : (k : Int) - ((k : Int) - (p : Int)) = (p : Int) := by omega
              have hw2 : IntKind.i64.wrap ((k : Int) - ((k : Int) - (p : Int))) = (p : Int) := by rw [hw1, IntKind.wrap_i64]; omega
              have hw3 : IntKind.i64.wrap ((k : Int) + (n : Int)) = (k : Int) + (n : Int) := by rw [IntKind.wrap_i64]; omega
              have hw4 : IntKind.i64.wrap ((p : Int) + (n : Int)) = (p : Int) + (n : Int) := by rw [IntKind.wrap_i64]; omega
              have hq3 : ((k : Int) + (n : Int)).toNat = k + n := by omega
              have hq4 : ((p : Int) + (n : Int)).toNat = p + n := by omega
              have hq5 : (0 : Int) ≤ (p : Int) + (n : Int) := by omega
              have hq6 : (0 : Int) ≤ (k : Int) + (n : Int) := by omega
              have hq7 : (p : Int) ≤ (p : Int) + (n : Int) := by omega
              have hq8 : (k : Int) ≤ (k : Int) + (n : Int) := by omega
              have hq9 : (p : Int) + (n : Int) ≤ (T.size : Int) := by omega
              have hq10 : (k : Int) + (n : Int) ≤ (T.size : Int) := by omega
              have hd3 : decide ((k : Int) + (n : Int) ≤ (T.size : Int)) = true := decide_eq_true hq10
              have hn0 : ((n : Int) == 0) = false := by simp; omega
              have hnd : decide (0 < n) = true := decide_eq_true (by omega)
              have hkle : (k : Int) - (p : Int) ≤ (k : Int) := by omega
              have hd1 : decide ((k : Int) - (p : Int) ≤ (k : Int)) = true := decide_eq_true hkle
              have hd2 : decide (k + n ≤ T.size) = true := decide_eq_true hkn
              clear h2 hn hex
              go_wp2
              clear hnd
              go_quiet ((go_at_call 14; exact q_drawn (HSM.out _)))
              go_wp2
              go_ret
              exact ⟨rfl, below_step HB.out (Drawn0.below (Drawn0.step (Drawn0.refl _) _))⟩
end Go.Proofs.Ytfijbhacobjjgaa
