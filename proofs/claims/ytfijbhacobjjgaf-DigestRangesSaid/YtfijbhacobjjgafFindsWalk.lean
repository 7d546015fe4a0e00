/- DigestFinds: the walk. -/
import Derived.Test.YtfijbhacobjjgafProg
import Derived.Test.YtfijbhacobjjgafVals
import Derived.Test.YtfijbhacobjjgafWLast
import Derived.Test.YtfijbhacobjjgafWMore
import Derived.RegionTactic
import Derived.ChangeAlike
import Derived.BigRegion
import Derived.WalkLawsBesides
import Derived.WalkSpells
import Derived.Deep.LoopGhost
import Derived.Deep.QuietTactic
import Derived.BigQuiet
import Derived.OwnWalk
import Derived.Test.YtfijbhacobjjgafAwakeA
namespace Go.Proofs.Ytfijbhacobjjgaf
open Go.RowKit Go.Proofs.YtfijbhacobjjgafW.PrintWords Go.Proofs.YtfijbhacobjjgafW.PrintLast Go.Proofs.YtfijbhacobjjgafW.PrintMore Go.Proofs.Ytfijbhacobjjgaf.Fr
set_option linter.unusedVariables false
set_option linter.unusedSimpArgs false
attribute [local go_sem] max2_int min2_int max_two min_two

open Pl
theorem smallB_in {l : List ByteArray} (h : smallB l = true) : l.length ≤ 60 ∧ ∀ s ∈ l, s.size ≤ 30 := of_decide_eq_true h
theorem li_of {w : World} {A : Option Addr} {n c : Nat} {l : List ByteArray} (h : IsStrs w A n c l) (hs : smallB l = true) : LI w A n c l := by
  obtain ⟨h1, h2, h3, h4, h5, h6⟩ := h
  have := smallB_in hs
  exact ⟨⟨h1, by omega, h2, h3, h4, h5⟩, h6⟩
theorem fnT_len (a b : List ByteArray) (k : Nat) (hk : k ≤ 60) : (fnT a b k).1.length ≤ 60 ∧ (k ≠ 0 → (fnT a b k).2 ≤ 2 * k - 1) ∧ (fnT a b k).2 ≤ 120 := by
  unfold fnT
  by_cases h : k = 0
  · rw [if_pos h]; exact ⟨by simp, fun h2 => absurd h h2, by simp⟩
  · rw [if_neg h]
    have := fnd_asked lf pr a b k 0 (by omega)
    omega
theorem fnT_mem (a b : List ByteArray) (k : Nat) (ha : k ≤ a.length) (hb : k ≤ b.length) : ∀ x ∈ (fnT a b k).1, ∃ i : Nat, x = (i : Int) ∧ i < k ∧ a.getD i ByteArray.empty ≠ b.getD i ByteArray.empty := by
  intro x hx
  unfold fnT at hx
  by_cases h : k = 0
  · rw [if_pos h] at hx; cases hx
  · rw [if_neg h] at hx
    obtain ⟨i, h1, h2, h3, h4⟩ := fnd_mem lf pr a b k 0 (by omega) (by omega) (by omega) x hx
    exact ⟨i, h1, by omega, h4⟩
theorem str_ne {s t : ByteArray} (h : s ≠ t) : (s.toList == t.toList) = false := by rw [str_beq]; exact decide_eq_false h
set_option maxRecDepth 100000 in
set_option maxHeartbeats 1000000 in
theorem finds_walk (A : Option Addr) (na ca : Nat) (a : List ByteArray) (B : Option Addr) (nb cb : Nat) (b : List ByteArray) (w0 : World) (ha : IsStrs w0 A na ca a) (hb : IsStrs w0 B nb cb b) : Calls Try.prog 3 #[.slice A na ca, .slice B nb cb] w0 fun e w' => e = .returned (.bool true) ∧ Below w0.heap.size w0 w' := by
  have HAW := Aside0.mk awake_any
  have HSA : Aside0 (∀ w : World, Below w0.heap.size w0 w → Calls Try.prog 7 #[.slice A na ca] w (SmPost (smallB a) w)) := ⟨fun w hbb => by
    obtain ⟨h1, h2, h3, h4, h5, h6⟩ := ha
    exact small_any A na ca a h1 (by omega) w (h4.below hbb) h5⟩
  have HSB : Aside0 (∀ w : World, Below w0.heap.size w0 w → Calls Try.prog 7 #[.slice B nb cb] w (SmPost (smallB b) w)) := ⟨fun w hbb => by
    obtain ⟨h1, h2, h3, h4, h5, h6⟩ := hb
    exact small_any B nb cb b h1 (by omega) w (h4.below hbb) h5⟩
  have HA := Aside0.mk ha
  have HB := Aside0.mk hb
  clear ha hb
  cases hsa : smallB a with
  | false =>
    rw [hsa] at HSA
    clear hsa
    go_enter Try.func3, Try.ntmps3
    go_wp2_with fail
    refine (HAW.out _).mono ?_
    rintro e w1 ⟨rfl, hb1⟩
    have HB1 := Aside0.mk hb1
    clear hb1
    go_wp2_with fail
    refine (HSA.out _ HB1.out).mono ?_
    rintro e w2 ⟨rfl, rfl⟩
    go_wp2
    go_ret
    exact ⟨rfl, HB1.out⟩
  | true =>
  cases hsb : smallB b with
  | false =>
    rw [hsa] at HSA
    rw [hsb] at HSB
    clear hsa hsb
    go_enter Try.func3, Try.ntmps3
    go_wp2_with fail
    refine (HAW.out _).mono ?_
    rintro e w1 ⟨rfl, hb1⟩
    have HB1 := Aside0.mk hb1
    clear hb1
    go_wp2_with fail
    refine (HSA.out _ HB1.out).mono ?_
    rintro e w2 ⟨rfl, rfl⟩
    go_wp2_with fail
    refine (HSB.out _ HB1.out).mono ?_
    rintro e w3 ⟨rfl, rfl⟩
    go_wp2
    go_ret
    exact ⟨rfl, HB1.out⟩
  | true =>
    have hLA := li_of HA.out hsa
    have hLB := li_of HB.out hsb
    rw [hsa] at HSA
    rw [hsb] at HSB
    have hna := hLA.ls.le
    have hnb := hLB.ls.le
    have hla := hLA.ls.len
    have hlb := hLB.ls.len
    have HLA := Aside0.mk hLA
    have HLB := Aside0.mk hLB
    have hfi := fun (w : World) (hbb : Below w0.heap.size w0 w) => find_any A na ca a B nb cb b w (hLA.below hbb) (hLB.below hbb)
    obtain ⟨k, hk⟩ : ∃ k, min na nb = k := ⟨_, rfl⟩
    rw [hk] at hfi
    have hln := fnT_len a b k (by omega)
    have hmem := fnT_mem a b k (by omega) (by omega)
    have hrf : k ≠ 0 → ∀ (w : World), Below w0.heap.size w0 w → Calls Try.prog 9 #[.slice A na ca, .slice B nb cb, .int .i64 0, .int .i64 (k : Int)] w (FindPost (fnT a b k).1 (fnT a b k).2 w) := fun h0 w hbb => by
      have := reffind_any A na ca a B nb cb b k 0 w (by omega) (by omega) (by omega) (hLA.ls.below hbb) (hLB.ls.below hbb)
      rw [Nat.zero_add] at this
      unfold fnT
      rw [if_neg h0]
      exact this
    obtain ⟨X, hX⟩ : ∃ X, fnT a b k = X := ⟨_, rfl⟩
    have hX0 : k = 0 → X = ([], 0) := fun h => by rw [← hX]; unfold fnT; rw [if_pos h]
    rw [hX] at hfi hln hmem hrf
    have HFI := Aside0.mk hfi
    have HRF := Aside0.mk hrf
    have HMEM := Aside0.mk hmem
    obtain ⟨xs, q⟩ := X
    obtain ⟨hl1, hl2, hl3⟩ := hln
    have hmn : (na ≤ nb ∧ k = na) ∨ (nb < na ∧ k = nb) := by omega
    have HLL := Aside0.mk (And.intro hla hlb)
    clear hsa hsb hLA hLB hfi hmem hrf hX hk hla hlb HA HB
    rcases hmn with ⟨hm1, rfl⟩ | ⟨hm1, rfl⟩
    · have h2 : (k : Int) ≤ nb := by omega
      go_enter Try.func3, Try.ntmps3
      go_wp2_with fail
      refine (HAW.out _).mono ?_
      rintro e w1 ⟨rfl, hb1⟩
      have HB1 := Aside0.mk hb1
      clear hb1
      go_wp2_with fail
      refine (HSA.out _ HB1.out).mono ?_
      rintro e w2 ⟨rfl, rfl⟩
      go_wp2_with fail
      refine (HSB.out _ HB1.out).mono ?_
      rintro e w3 ⟨rfl, rfl⟩
      go_wp2_with fail
      refine (HFI.out _ HB1.out).mono ?_
      rintro e w4 ⟨v4, rfl, hr4, hb4⟩
      have HW4 : Aside0 (w4.ownsRow w3.heap.size 3 1 v4 xs.length (nums .i64 xs) ∧ Below w0.heap.size w0 w4) := ⟨hr4, below_step HB1.out hb4⟩
      obtain ⟨A4, c4, rfl, hc4, _⟩ := own_nums hr4
      clear hr4 hb4 HB1 HFI HSA HSB
      by_cases h0 : k = 0
      · have hx := hX0 h0
        have e1 : xs = [] := congrArg Prod.fst hx
        have e2 : q = 0 := congrArg Prod.snd hx
        subst e1
        subst e2
        have hk0 : ((k : Int) == 0) = true := beq_iff_eq.2 (by omega)
        clear hx hX0 h0 HRF HMEM hl1 hl2 hl3
        go_wp2
        go_ret
        exact ⟨rfl, HW4.out.2⟩
      · have hk0 : ((k : Int) == 0) = false := beq_eq_false_iff_ne.2 (by omega)
        have HRF2 := Aside0.mk (HRF.out h0)
        have hq1 : ¬ 2 * (k : Int) - 1 < (q : Int) := by have := hl2 h0; omega
        have hq2 : (q : Int) ≤ 120 := by omega
        have hk60 : (k : Int) ≤ 60 := by omega
        have hk1 : (1 : Int) ≤ k := by omega
        clear hX0 HRF hl2 hl3 h0
        go_wp2_with fail
        refine (HRF2.out _ HW4.out.2).mono ?_
        rintro e w5 ⟨v5, rfl, hr5, hb5⟩
        have HW5 : Aside0 (w5.ownsRow w3.heap.size 3 1 (.slice A4 xs.length c4) xs.length (nums .i64 xs) ∧ w5.ownsRow w4.heap.size 3 1 v5 xs.length (nums .i64 xs) ∧ Below w0.heap.size w0 w5) := ⟨(Ch.of_below (S := fun _ => False) hb5).own HW4.out.1 (fun _ _ h => h), hr5, below_step HW4.out.2 hb5⟩
        obtain ⟨A5, c5, rfl, hc5, _⟩ := own_nums hr5
        clear hr5 hb5 HW4 HRF2
        obtain ⟨m, hm⟩ : ∃ m, xs.length = m := ⟨_, rfl⟩
        have HM := Aside0.mk hm
        rw [hm]
        rw [hm] at hl1 hc4 hc5
        clear hm
        go_wp2
        go_loopg [68] m (fun gk x wr => ∃ i : Nat, x = .int .i64 i ∧ Aside0 (i + gk = m) ∧ Aside0 (Drawn0 w5 wr))
        case atStart => exact ⟨0, rfl, ⟨Nat.zero_add _⟩, ⟨Drawn0.refl _⟩⟩
        case round =>
          obtain ⟨i, rfl, HQ, HD⟩ := hrel
          by_cases hlt : i < m
          · obtain ⟨A44, c44, e4, _, hs4⟩ := own_nums HW5.out.1
            obtain ⟨A55, c55, e5, _, hs5⟩ := own_nums HW5.out.2.1
            cases e4
            cases e5
            obtain ⟨g4, rfl, a0⟩ := hs4 i (by have := HM.out; omega)
            obtain ⟨g5, rfl, b0⟩ := hs5 i (by have := HM.out; omega)
            obtain ⟨j, hj, hjk, hne⟩ := HMEM.out (xs.getD i 0) (by rw [List.getD_eq_getElem?_getD, List.getElem?_eq_getElem (by have := HM.out; omega)]; exact List.getElem_mem _)
            rw [hj] at a0 b0
            obtain ⟨ad, rfl, s0⟩ := (HLA.out.below HW5.out.2.2).ls.rd j (by have := HLL.out.1; omega)
            obtain ⟨bd, rfl, t0⟩ := (HLB.out.below HW5.out.2.2).ls.rd j (by have := HLL.out.2; omega)
            obtain ⟨s, hs⟩ : ∃ s, a.getD j ByteArray.empty = s := ⟨_, rfl⟩
            obtain ⟨t, ht⟩ : ∃ t, b.getD j ByteArray.empty = t := ⟨_, rfl⟩
            rw [hs] at s0 hne
            rw [ht] at t0 hne
            have a1 : wr.cell? ⟨g4, i, none⟩ = some (.int .i64 (j : Int)) := by obtain ⟨⟨nq, rfl⟩⟩ := HD.out; exact a0
            have b1 : wr.cell? ⟨g5, i, none⟩ = some (.int .i64 (j : Int)) := by obtain ⟨⟨nq, rfl⟩⟩ := HD.out; exact b0
            have s1 : wr.cell? (ad.add j) = some (.string s) := by obtain ⟨⟨nq, rfl⟩⟩ := HD.out; exact s0
            have t1 : wr.cell? (bd.add j) = some (.string t) := by obtain ⟨⟨nq, rfl⟩⟩ := HD.out; exact t0
            have hst := str_ne hne
            have hii : (i : Int) < m := by omega
            have hi0 : (0 : Int) ≤ i := by omega
            have hj0 : (0 : Int) ≤ j := by omega
            have hja : (j : Int) < k := by omega
            have hjb : (j : Int) < nb := by omega
            clear a0 b0 s0 t0 hj hne hs ht hs4 hs5
            go_wp2
            go_quiet (fail)
            clear hst
            go_wp2
            go_roundg (gk - 1)
            case measure => have := HQ.out; omega
            case rel => exact ⟨i + 1, by go_num, ⟨by have := HQ.out; omega⟩, ⟨Drawn0.step HD.out _⟩⟩
          · have hii : ¬ (i : Int) < m := by omega
            have HBE : Aside0 (Below w0.heap.size w0 wr) := ⟨drawn_below HW5.out.2.2 HD.out⟩
            go_wp2
            go_ret
            exact ⟨rfl, HBE.out⟩
    · have h2 : ¬ (na : Int) ≤ k := by omega
      go_enter Try.func3, Try.ntmps3
      go_wp2_with fail
      refine (HAW.out _).mono ?_
      rintro e w1 ⟨rfl, hb1⟩
      have HB1 := Aside0.mk hb1
      clear hb1
      go_wp2_with fail
      refine (HSA.out _ HB1.out).mono ?_
      rintro e w2 ⟨rfl, rfl⟩
      go_wp2_with fail
      refine (HSB.out _ HB1.out).mono ?_
      rintro e w3 ⟨rfl, rfl⟩
      go_wp2_with fail
      refine (HFI.out _ HB1.out).mono ?_
      rintro e w4 ⟨v4, rfl, hr4, hb4⟩
      have HW4 : Aside0 (w4.ownsRow w3.heap.size 3 1 v4 xs.length (nums .i64 xs) ∧ Below w0.heap.size w0 w4) := ⟨hr4, below_step HB1.out hb4⟩
      obtain ⟨A4, c4, rfl, hc4, _⟩ := own_nums hr4
      clear hr4 hb4 HB1 HFI HSA HSB
      by_cases h0 : k = 0
      · have hx := hX0 h0
        have e1 : xs = [] := congrArg Prod.fst hx
        have e2 : q = 0 := congrArg Prod.snd hx
        subst e1
        subst e2
        have hk0 : ((k : Int) == 0) = true := beq_iff_eq.2 (by omega)
        clear hx hX0 h0 HRF HMEM hl1 hl2 hl3
        go_wp2
        go_ret
        exact ⟨rfl, HW4.out.2⟩
      · have hk0 : ((k : Int) == 0) = false := beq_eq_false_iff_ne.2 (by omega)
        have HRF2 := Aside0.mk (HRF.out h0)
        have hq1 : ¬ 2 * (k : Int) - 1 < (q : Int) := by have := hl2 h0; omega
        have hq2 : (q : Int) ≤ 120 := by omega
        have hk60 : (k : Int) ≤ 60 := by omega
        have hk1 : (1 : Int) ≤ k := by omega
        clear hX0 HRF hl2 hl3 h0
        go_wp2_with fail
        refine (HRF2.out _ HW4.out.2).mono ?_
        rintro e w5 ⟨v5, rfl, hr5, hb5⟩
        have HW5 : Aside0 (w5.ownsRow w3.heap.size 3 1 (.slice A4 xs.length c4) xs.length (nums .i64 xs) ∧ w5.ownsRow w4.heap.size 3 1 v5 xs.length (nums .i64 xs) ∧ Below w0.heap.size w0 w5) := ⟨(Ch.of_below (S := fun _ => False) hb5).own HW4.out.1 (fun _ _ h => h), hr5, below_step HW4.out.2 hb5⟩
        obtain ⟨A5, c5, rfl, hc5, _⟩ := own_nums hr5
        clear hr5 hb5 HW4 HRF2
        obtain ⟨m, hm⟩ : ∃ m, xs.length = m := ⟨_, rfl⟩
        have HM := Aside0.mk hm
        rw [hm]
        rw [hm] at hl1 hc4 hc5
        clear hm
        go_wp2
        go_loopg [68] m (fun gk x wr => ∃ i : Nat, x = .int .i64 i ∧ Aside0 (i + gk = m) ∧ Aside0 (Drawn0 w5 wr))
        case atStart => exact ⟨0, rfl, ⟨Nat.zero_add _⟩, ⟨Drawn0.refl _⟩⟩
        case round =>
          obtain ⟨i, rfl, HQ, HD⟩ := hrel
          by_cases hlt : i < m
          · obtain ⟨A44, c44, e4, _, hs4⟩ := own_nums HW5.out.1
            obtain ⟨A55, c55, e5, _, hs5⟩ := own_nums HW5.out.2.1
            cases e4
            cases e5
            obtain ⟨g4, rfl, a0⟩ := hs4 i (by have := HM.out; omega)
            obtain ⟨g5, rfl, b0⟩ := hs5 i (by have := HM.out; omega)
            obtain ⟨j, hj, hjk, hne⟩ := HMEM.out (xs.getD i 0) (by rw [List.getD_eq_getElem?_getD, List.getElem?_eq_getElem (by have := HM.out; omega)]; exact List.getElem_mem _)
            rw [hj] at a0 b0
            obtain ⟨ad, rfl, s0⟩ := (HLA.out.below HW5.out.2.2).ls.rd j (by have := HLL.out.1; omega)
            obtain ⟨bd, rfl, t0⟩ := (HLB.out.below HW5.out.2.2).ls.rd j (by have := HLL.out.2; omega)
            obtain ⟨s, hs⟩ : ∃ s, a.getD j ByteArray.empty = s := ⟨_, rfl⟩
            obtain ⟨t, ht⟩ : ∃ t, b.getD j ByteArray.empty = t := ⟨_, rfl⟩
            rw [hs] at s0 hne
            rw [ht] at t0 hne
            have a1 : wr.cell? ⟨g4, i, none⟩ = some (.int .i64 (j : Int)) := by obtain ⟨⟨nq, rfl⟩⟩ := HD.out; exact a0
            have b1 : wr.cell? ⟨g5, i, none⟩ = some (.int .i64 (j : Int)) := by obtain ⟨⟨nq, rfl⟩⟩ := HD.out; exact b0
            have s1 : wr.cell? (ad.add j) = some (.string s) := by obtain ⟨⟨nq, rfl⟩⟩ := HD.out; exact s0
            have t1 : wr.cell? (bd.add j) = some (.string t) := by obtain ⟨⟨nq, rfl⟩⟩ := HD.out; exact t0
            have hst := str_ne hne
            have hii : (i : Int) < m := by omega
            have hi0 : (0 : Int) ≤ i := by omega
            have hj0 : (0 : Int) ≤ j := by omega
            have hja : (j : Int) < k := by omega
            have hjb : (j : Int) < na := by omega
            clear a0 b0 s0 t0 hj hne hs ht hs4 hs5
            go_wp2
            go_quiet (fail)
            clear hst
            go_wp2
            go_roundg (gk - 1)
            case measure => have := HQ.out; omega
            case rel => exact ⟨i + 1, by go_num, ⟨by have := HQ.out; omega⟩, ⟨Drawn0.step HD.out _⟩⟩
          · have hii : ¬ (i : Int) < m := by omega
            have HBE : Aside0 (Below w0.heap.size w0 wr) := ⟨drawn_below HW5.out.2.2 HD.out⟩
            go_wp2
            go_ret
            exact ⟨rfl, HBE.out⟩
end Go.Proofs.Ytfijbhacobjjgaf
