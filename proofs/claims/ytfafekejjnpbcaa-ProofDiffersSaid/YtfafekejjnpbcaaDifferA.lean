/- The first unlike leaf. -/
import Derived.Test.YtfafekejjnpbcaaProg
import Derived.Test.YtfafekejjnpbcaaVals
import Derived.Test.YtfafekejjnpbcaaWLast
import Derived.Test.YtfafekejjnpbcaaWMore
import Derived.RegionTactic
import Derived.ChangeAlike
import Derived.BigRegion
import Derived.WalkLawsBesides
import Derived.WalkSpells
import Derived.Deep.LoopGhost
import Derived.Deep.QuietTactic
import Derived.BigQuiet
import Derived.OwnWalk
import Derived.Test.YtfafekejjnpbcaaAwakeA
import Derived.StillTailTactics
namespace Go.Proofs.Ytfafekejjnpbcaa
open Go.RowKit Go.Proofs.YtfafekejjnpbcaaW.PrintWords Go.Proofs.YtfafekejjnpbcaaW.PrintLast Go.Proofs.YtfafekejjnpbcaaW.PrintMore Go.Proofs.Ytfafekejjnpbcaa.Fr
set_option linter.unusedVariables false
set_option linter.unusedSimpArgs false
attribute [local go_sem] max2_int min2_int max_two min_two

open Pl
/-- Half of any number. -/
def hv (n : Int) : Int := if n < 2 then 0 else half (min n.toNat 1099511627776)
theorem hv_low {n : Int} (h : n < 2) : hv n = 0 := by rw [hv, if_pos h]
theorem hv_mid {n : Nat} (h : 2 ≤ n) (h2 : n ≤ 1099511627776) : hv (n : Int) = half n := by rw [hv, if_neg (by omega), show min (n : Int).toNat 1099511627776 = n by omega]
theorem hv_big {n : Int} (h : 1099511627776 < n) : hv n = 549755813888 := by
  rw [hv, if_neg (by omega), show min n.toNat 1099511627776 = 1099511627776 by omega]
  rw [half_one (k := 39) (by omega) (by decide) (by decide)]
  rfl
theorem half_z (n : Int) (w : World) (hn : n ≤ 9223372036854775807) (hn0 : -9223372036854775808 ≤ n) : Calls Try.prog 18 #[.int .i64 n] w fun e w' => e = .returned (.int .i64 (hv n)) ∧ w' = w := by
  by_cases h1 : n < 2
  · rw [hv_low h1]
    go_enter Try.func18, Try.ntmps18
    go_wp2
    go_ret
    exact ⟨rfl, rfl⟩
  · by_cases h2 : n ≤ 1099511627776
    · obtain ⟨m, rfl⟩ : ∃ m : Nat, n = (m : Int) := ⟨n.toNat, by omega⟩
      rw [hv_mid (by omega) (by omega)]
      exact half_any m (by omega) (by omega) w
    · have h3 : 1099511627776 < n := by omega
      rw [hv_big h3]
      go_enter Try.func18, Try.ntmps18
      go_wp2_with fail
      refine (Go.Proofs.Try.bits_Len 1099511627775 w (by omega) (by omega)).mono ?_
      rintro e w1 ⟨rfl, rfl⟩
      rw [show Lib.bitLen (1099511627775 : Int).toNat = 40 by decide +kernel]
      go_wp2
      go_ret
      exact ⟨rfl, rfl⟩
theorem refHalf_z (n : Int) (w : World) (hn : n ≤ 9223372036854775807) (hn0 : -9223372036854775808 ≤ n) : Calls Try.prog 19 #[.int .i64 n] w fun e w' => e = .returned (.int .i64 (hv n)) ∧ w' = w := by
  by_cases h1 : n < 2
  · rw [hv_low h1]
    go_enter Try.func19, Try.ntmps19
    go_wp2
    go_ret
    exact ⟨rfl, rfl⟩
  · by_cases h2 : n ≤ 1099511627776
    · obtain ⟨m, rfl⟩ : ∃ m : Nat, n = (m : Int) := ⟨n.toNat, by omega⟩
      rw [hv_mid (by omega) (by omega)]
      exact refHalf_any m (by omega) (by omega) w
    · have h3 : 1099511627776 < n := by omega
      rw [hv_big h3]
      go_enter Try.func19, Try.ntmps19
      go_wp2
      go_loopg [3] 64 (fun gk x wr => ∃ (j : Nat) (p : Nat), Aside0 (j + gk = 64 ∧ p = 2 ^ j) ∧ x = .int .i64 p ∧ Aside0 (p < 1099511627776 ∧ 1 ≤ p) ∧ wr = w)
      case atStart => exact ⟨0, 1, ⟨by omega, rfl⟩, rfl, ⟨by omega, by omega⟩, rfl⟩
      case round =>
        obtain ⟨j, p, HK, rfl, HP, rfl⟩ := hrel
        have hp := HP.out.1
        have hp1 := HP.out.2
        have hj : j < 40 := by
          have h1 := HK.out.2
          by_cases hc : j < 40
          · exact hc
          · have : 2 ^ 40 ≤ 2 ^ j := Nat.pow_le_pow_right (by omega) (by omega)
            omega
        by_cases hlt : p + p < 1099511627776
        · have hl : (p : Int) + (p : Int) < 1099511627776 := by omega
          go_wp2
          go_roundg (gk - 1)
          case measure =>
            have := HK.out.1
            omega
          case rel => exact ⟨j + 1, p + p, ⟨by have := HK.out.1; omega, by rw [Nat.pow_succ, ← HK.out.2]; omega⟩, by go_num, ⟨hlt, by omega⟩, rfl⟩
        · have hl : ¬ (p : Int) + (p : Int) < 1099511627776 := by omega
          have hh : half 1099511627776 = p := by
            rw [HK.out.2]
            exact half_one (by omega) (by rw [← HK.out.2]; exact hp) (by rw [← HK.out.2]; omega)
          rw [half_one (k := 39) (by omega) (by decide) (by decide)] at hh
          have hh2 : p = 549755813888 := by rw [← hh]
          have HH := Aside0.mk hh2
          clear hh hh2 hj
          go_wp2
          go_ret
          rw [HH.out]
          exact ⟨rfl, rfl⟩
/-- The first place from k on where two lists' leaves differ. -/
def dif (a b : List ByteArray) : Nat → Nat → Option Nat
  | 0, _ => none
  | f + 1, k => if lf (a.getD k ByteArray.empty) = lf (b.getD k ByteArray.empty) then dif a b f (k + 1) else some k
def difR : Option Nat → Value
  | none => .tuple #[.int .i64 0, .bool false]
  | some k => .tuple #[.int .i64 k, .bool true]
set_option maxRecDepth 100000 in
set_option maxHeartbeats 1000000 in
theorem differ_any (a b : List ByteArray) (A B : Option Addr) (n ca cb : Nat) (w0 : World) (ha : a.length = n) (hb : b.length = n) (hn : n ≤ 100000) (RA : RdS w0 A a) (RB : RdS w0 B b) (SA : ∀ s ∈ a, s.size ≤ 140737488355328) (SB : ∀ s ∈ b, s.size ≤ 140737488355328) : Calls Try.prog 25 #[.slice A n ca, .slice B n cb] w0 fun e w' => e = .returned (difR (dif a b n 0)) ∧ Below w0.heap.size w0 w' := by
  have HA := Aside0.mk (And.intro ha (And.intro RA SA))
  have HB := Aside0.mk (And.intro hb (And.intro RB SB))
  clear ha hb RA RB SA SB
  go_enter Try.func25, Try.ntmps25
  go_wp2
  go_loopg [9] n (fun gk x wr => ∃ k : Nat, Aside0 (k + gk = n) ∧ x = .int .i64 k ∧ Aside0 (dif a b n 0 = dif a b (n - k) k ∧ Below w0.heap.size w0 wr))
  case atStart => exact ⟨0, ⟨by omega⟩, rfl, ⟨rfl, Below.refl _ _⟩⟩
  case round =>
    obtain ⟨k, HK, rfl, HI⟩ := hrel
    by_cases hlt : k < n
    · have hd : dif a b (n - k) k = if lf (a.getD k ByteArray.empty) = lf (b.getD k ByteArray.empty) then dif a b (n - (k + 1)) (k + 1) else some k := by
        rw [show n - k = (n - (k + 1)) + 1 by omega]
        rfl
      have HD := Aside0.mk hd
      obtain ⟨aa, rfl, _⟩ := HA.out.2.1 k (by rw [HA.out.1]; exact hlt)
      obtain ⟨ab, rfl, _⟩ := HB.out.2.1 k (by rw [HB.out.1]; exact hlt)
      have hsa := HA.out.2.2 (a.getD k ByteArray.empty) (by rw [List.getD_eq_getElem?_getD, List.getElem?_eq_getElem (by rw [HA.out.1]; exact hlt)]; exact List.getElem_mem _)
      have hsb := HB.out.2.2 (b.getD k ByteArray.empty) (by rw [List.getD_eq_getElem?_getD, List.getElem?_eq_getElem (by rw [HB.out.1]; exact hlt)]; exact List.getElem_mem _)
      obtain ⟨x, hx⟩ : ∃ x, a.getD k ByteArray.empty = x := ⟨_, rfl⟩
      obtain ⟨y, hy⟩ : ∃ y, b.getD k ByteArray.empty = y := ⟨_, rfl⟩
      rw [hx, hy] at HD
      rw [hx] at hsa
      rw [hy] at hsb
      have HX := Aside0.mk (And.intro hx hy)
      have HS := Aside0.mk (And.intro hsa hsb)
      clear hd hx hy hsa hsb
      go_wp2
      refine St.steadyR (n := 11) (by kernel_rfl) ([] :: [] :: [(0, 12), (1, 13)] :: [(2, 14)] :: [(3, 15)] :: [] :: [] :: [(5, 17), (6, 18)] :: [(7, 19)] :: [(8, 20)] :: [(4, 16), (9, 21)] :: []) (some 12 :: some 13 :: some 14 :: some 15 :: some 16 :: some 17 :: some 18 :: some 19 :: some 20 :: some 21 :: some 22 :: []) (by kernel_rfl) ((St.eqT ?c4_0x3) :: (St.eqT ?c4_1x3) :: (St.eqT ?c4_2x3) :: (St.eqT ?c4_3x3) :: (St.eqT ?c4_4x3) :: (St.eqT ?c4_5x3) :: (St.eqT ?c4_6x3) :: (St.eqT ?c4_7x3) :: (St.eqT ?c4_8x3) :: (St.eqT ?c4_9x3) :: (St.eqT ?c4_10x3) :: []) rfl (by rfl) (fun w' => Below wr.heap.size wr w') (fun w w' => Below w.heap.size w w') ?hst ?h0 ?hB ?hop ?hend
      case hop =>
        refine ⟨?_, ?_, ?_, ?_, ?_, ?_, ?_, ?_, ?_, ?_, ?_, trivial⟩
        · intro w hB
          simp only [St.withD]
          refine St.ob_value (v := ?_) (w' := w) (by rfl) ?_ ⟨Below.refl _ _, ?_⟩
          rotate_left
          · go_simp
            with_reducible rfl
          · rfl
        · intro w hB
          simp only [St.withD]
          refine St.ob_value (v := ?_) (w' := w) (by rfl) ?_ ⟨Below.refl _ _, ?_⟩
          rotate_left
          · go_simp
            with_reducible rfl
          · rfl
        · intro w hB; rintro _ ⟨_, rfl⟩ _ ⟨_, rfl⟩
          simp only [St.withD, List.nil_append, List.cons_append, Act.put, List.setIfInBounds_toArray, List.set_cons_zero, List.set_cons_succ]
          refine St.ob_value (v := ?_) (w' := w) (by rfl) ?_ ⟨Below.refl _ _, ?_⟩
          rotate_left
          · go_simp
            with_reducible rfl
          · rfl
        · intro w hB; rintro _ ⟨_, rfl⟩
          simp only [St.withD, List.nil_append, List.cons_append, Act.put, List.setIfInBounds_toArray, List.set_cons_zero, List.set_cons_succ]
          obtain ⟨ad', e, c0⟩ := (HA.out.2.1.below (below_step HI.out.2 hB)) k (by rw [HA.out.1]; exact hlt)
          cases e
          rw [HX.out.1] at c0
          refine St.ob_value (v := .string x) (w' := w) (by rfl) ?_ ⟨Below.refl _ _, ?_⟩
          · go_simp
          · rfl
        · intro w hB; rintro _ ⟨_, rfl⟩
          simp only [St.withD, List.nil_append, List.cons_append, Act.put, List.setIfInBounds_toArray, List.set_cons_zero, List.set_cons_succ]
          refine St.ob_call Try.func21 (by kernel_rfl) rfl #[.string x] (by rfl) rfl (by (try simp only [List.map_toArray, List.map_cons, List.map_nil]); first | done | rfl | (simp only [List.length_drop, List.length_take]; rfl)) ?_
          refine (leaf_any x w HS.out.1).mono ?_
          rintro e w1 ⟨rfl, hb1⟩
          refine ⟨_, rfl, hb1, ?_⟩
          rfl
        · intro w hB
          simp only [St.withD]
          refine St.ob_value (v := ?_) (w' := w) (by rfl) ?_ ⟨Below.refl _ _, ?_⟩
          rotate_left
          · go_simp
            with_reducible rfl
          · rfl
        · intro w hB
          simp only [St.withD]
          refine St.ob_value (v := ?_) (w' := w) (by rfl) ?_ ⟨Below.refl _ _, ?_⟩
          rotate_left
          · go_simp
            with_reducible rfl
          · rfl
        · intro w hB; rintro _ ⟨_, rfl⟩ _ ⟨_, rfl⟩
          simp only [St.withD, List.nil_append, List.cons_append, Act.put, List.setIfInBounds_toArray, List.set_cons_zero, List.set_cons_succ]
          refine St.ob_value (v := ?_) (w' := w) (by rfl) ?_ ⟨Below.refl _ _, ?_⟩
          rotate_left
          · go_simp
            with_reducible rfl
          · rfl
        · intro w hB; rintro _ ⟨_, rfl⟩
          simp only [St.withD, List.nil_append, List.cons_append, Act.put, List.setIfInBounds_toArray, List.set_cons_zero, List.set_cons_succ]
          obtain ⟨ad', e, c0⟩ := (HB.out.2.1.below (below_step HI.out.2 hB)) k (by rw [HB.out.1]; exact hlt)
          cases e
          rw [HX.out.2] at c0
          refine St.ob_value (v := .string y) (w' := w) (by rfl) ?_ ⟨Below.refl _ _, ?_⟩
          · go_simp
          · rfl
        · intro w hB; rintro _ ⟨_, rfl⟩
          simp only [St.withD, List.nil_append, List.cons_append, Act.put, List.setIfInBounds_toArray, List.set_cons_zero, List.set_cons_succ]
          refine St.ob_call Try.func21 (by kernel_rfl) rfl #[.string y] (by rfl) rfl (by (try simp only [List.map_toArray, List.map_cons, List.map_nil]); first | done | rfl | (simp only [List.length_drop, List.length_take]; rfl)) ?_
          refine (leaf_any y w HS.out.2).mono ?_
          rintro e w1 ⟨rfl, hb1⟩
          refine ⟨_, rfl, hb1, ?_⟩
          rfl
        · intro w hB; rintro _ ⟨_, rfl⟩ _ ⟨_, rfl⟩
          simp only [St.withD, List.nil_append, List.cons_append, Act.put, List.setIfInBounds_toArray, List.set_cons_zero, List.set_cons_succ]
          refine St.ob_value (v := ?_) (w' := w) (by rfl) ?_ ⟨Below.refl _ _, ?_⟩
          rotate_left
          · go_simp
            with_reducible rfl
          · rfl
      case hst => exact ⟨St.eqT_st, St.eqT_st, St.eqT_st, St.eqT_st, St.eqT_st, St.eqT_st, St.eqT_st, St.eqT_st, St.eqT_st, St.eqT_st, St.eqT_st, trivial⟩
      case h0 => exact below_drew (Below.refl _ _)
      case hB => exact fun w w' h k => below_step h k
      case hend =>
        intro w hB
        rintro _ rfl _ rfl _ rfl _ rfl _ rfl _ rfl _ rfl _ rfl _ rfl _ rfl _ rfl
        simp only [List.map_cons, List.map_nil, List.nil_append, List.cons_append, List.getD_cons_zero, List.getD_cons_succ, Act.put, List.setIfInBounds_toArray, List.set_cons_zero, List.set_cons_succ]
        rw [St.withE_nil]
        have HBX := Aside0.mk hB
        clear hB
        obtain ⟨fx', hfx⟩ : ∃ z, lf x = z := ⟨_, rfl⟩
        obtain ⟨fy', hfy⟩ : ∃ z, lf y = z := ⟨_, rfl⟩
        rw [hfx, hfy] at HD
        rw [hfx, hfy]
        clear hfx hfy
        by_cases hq : fx' = fy'
        · have hq1 : (fx' != fy') = false := by simp [hq]
          have HE : Aside0 (dif a b n 0 = dif a b (n - (k + 1)) (k + 1)) := ⟨by rw [HI.out.1, HD.out, if_pos hq]⟩
          clear hq
          go_wp2
          go_roundg (gk - 1)
          case measure => have := HK.out; omega
          case rel => exact ⟨k + 1, ⟨by have := HK.out; omega⟩, by go_num, ⟨HE.out, below_step HI.out.2 HBX.out⟩⟩
        · have hq1 : (fx' != fy') = true := by simp [hq]
          have HE : Aside0 (dif a b n 0 = some k) := ⟨by rw [HI.out.1, HD.out, if_neg hq]⟩
          clear hq
          go_wp2
          go_ret2
          rw [HE.out]
          exact ⟨rfl, below_step HI.out.2 HBX.out⟩
    · have HE : Aside0 (dif a b n 0 = none) := ⟨by rw [HI.out.1, show n - k = 0 by omega]; rfl⟩
      go_wp2
      go_ret2
      rw [HE.out]
      exact ⟨rfl, HI.out.2⟩
end Go.Proofs.Ytfafekejjnpbcaa
