/- The least offsets at a place: the program's. -/
import Derived.Test.YtfijbhacobjjgadProg
import Derived.Test.YtfijbhacobjjgadVals
import Derived.Test.YtfijbhacobjjgadWLast
import Derived.Test.YtfijbhacobjjgadWMore
import Derived.RegionTactic
import Derived.ChangeAlike
import Derived.BigRegion
import Derived.WalkLawsBesides
import Derived.WalkSpells
import Derived.Deep.LoopGhost
import Derived.Deep.QuietTactic
import Derived.BigQuiet
import Derived.OwnWalk
import Derived.Test.YtfijbhacobjjgadWidthA
import Derived.Test.YtfijbhacobjjgadNums
import Derived.Test.YtfijbhacobjjgadLaw41
namespace Go.Proofs.Ytfijbhacobjjgad
open Go.RowKit Go.Proofs.YtfijbhacobjjgadW.PrintWords Go.Proofs.YtfijbhacobjjgadW.PrintLast Go.Proofs.YtfijbhacobjjgadW.PrintMore Go.Proofs.Ytfijbhacobjjgad.Fr
set_option linter.unusedVariables false
set_option linter.unusedSimpArgs false
attribute [local go_sem] max2_int min2_int max_two min_two

open Pl
theorem info3 : (Try.prog.info? 3).map (fun i => (i.zero, i.size, i.bytes)) = some (some (.int .i64 0), 1, 8) := by kernel_rfl
/-- How long the match at an offset is. -/
def so (T : ByteArray) (a : Nat) (o : Nat) : Nat := sm T (a - o) a
def nl (T : ByteArray) (a k m : Nat) : List Int := (nearL (so T a) k m).map fun n : Nat => (n : Int)
theorem nl_len (T : ByteArray) (a k m : Nat) : (nl T a k m).length = m := by simp [nl, nearL_length]
theorem nl_snoc (T : ByteArray) (a k m : Nat) : nl T a k (m + 1) = nl T a k m ++ [(nearF (so T a) k m : Int)] := by simp [nl, nearL_snoc]
theorem nl_succ (T : ByteArray) (a k : Nat) : nl T a (k + 1) (nlen (so T a) k) = nl T a k (nlen (so T a) k) := by simp [nl, nearL_succ]
theorem so_le (T : ByteArray) (a o : Nat) (ha : a ≤ T.size) : a + so T a o ≤ T.size := by
  unfold so sm
  rw [cnt_comm]
  exact sm_le T a (a - o) ha
theorem nlen_le (T : ByteArray) (a : Nat) (ha : a ≤ T.size) : ∀ k, nlen (so T a) k ≤ T.size + 1 := by
  intro k
  induction k with
  | zero => rw [nlen_zero]; omega
  | succ k ih =>
    rw [nlen_succ]
    have := so_le T a (k + 1) ha
    split <;> omega
set_option maxRecDepth 100000 in
set_option maxHeartbeats 4000000 in
theorem near_any (T : ByteArray) (a : Nat) (hT : T.size ≤ 2000) (ha : a ≤ T.size) (w0 : World) : Calls Try.prog 23 #[.string T, .int .i64 a] w0 (NumsPost .i64 3 (nl T a a (nlen (so T a) a)) w0) := by
  have hT2 : T.size ≤ 1000000 := by omega
  go_enter Try.func23, Try.ntmps23
  go_wp2
  go_loopg [5, 6] a (fun gk x y wr => ∃ (k c : Nat) (A : Option Addr), Aside0 (k + gk = a) ∧ x = .slice A (nlen (so T a) k) c ∧ y = .int .i64 ((k : Int) + 1) ∧ Aside0 (wr.ownsRow w0.heap.size 3 1 (.slice A (nlen (so T a) k) c) (nl T a k (nlen (so T a) k)).length (nums .i64 (nl T a k (nlen (so T a) k))) ∧ Below w0.heap.size w0 wr))
  case atStart => exact ⟨0, 0, none, ⟨by omega⟩, rfl, rfl, ⟨⟨rfl, .inl ⟨rfl, rfl⟩⟩, Below.refl _ _⟩⟩
  case round =>
    obtain ⟨k, c, A, HK, rfl, rfl, HI⟩ := hrel
    have hnk := nlen_le T a ha k
    by_cases hlt : k < a
    · have hl : (k : Int) + 1 ≤ (a : Int) := by omega
      have HS : Aside0 (∀ w, Calls Try.prog 35 #[.string T, .int .i64 ((a : Int) - ((k : Int) + 1)), .int .i64 a] w fun e w' => e = .returned (.int .i64 (so T a (k + 1))) ∧ Drawn0 w w') := ⟨fun w => by
        have := same_any T ((a - (k + 1) : Nat) : Int) (a : Int) hT2 w
        rw [smI_nat T _ _ (by omega) ha, show ((a - (k + 1) : Nat) : Int) = (a : Int) - ((k : Int) + 1) by omega] at this
        exact this⟩
      have hsl := so_le T a (k + 1) ha
      have HNS := Aside0.mk (nlen_succ (so T a) k)
      have HNF := Aside0.mk (nearF_new (so T a) k)
      have HNL := Aside0.mk (nl_succ T a k)
      obtain ⟨n, hn⟩ : ∃ n, so T a (k + 1) = n := ⟨_, rfl⟩
      rw [hn] at HS HNS HNF hsl
      obtain ⟨m0, hm0⟩ : ∃ m0, nlen (so T a) k = m0 := ⟨_, rfl⟩
      rw [hm0] at HNS HNF HNL hnk HI
      rw [hm0]
      have HM0 := Aside0.mk hm0
      clear hn hm0
      go_wp2_with fail
      refine (HS.out _).mono ?_
      rintro e w1 ⟨rfl, hd1⟩
      have HD1 := Aside0.mk (And.intro (drawn_below HI.out.2 hd1) hd1)
      have HO1 : Aside0 (w1.ownsRow w0.heap.size 3 1 (.slice A m0 c) (nl T a (k + 1) m0).length (nums .i64 (nl T a (k + 1) m0))) := ⟨by
        rw [HNL.out]
        obtain ⟨⟨q, rfl⟩⟩ := hd1
        exact HI.out.1⟩
      clear hd1 HS
      obtain ⟨gk1, rfl⟩ : ∃ g1 : Nat, g1 = gk := ⟨_, rfl⟩
      obtain ⟨wo, rfl⟩ : ∃ wo : World, wo = wr := ⟨_, rfl⟩
      go_wp2
      go_loopg [5] (n + 1 - m0) (fun gk x wr => ∃ (m c : Nat) (A : Option Addr), Aside0 (n + 1 - m = gk ∧ m0 ≤ m ∧ (m ≤ m0 ∨ m ≤ n + 1) ∧ (n < 3 → m = m0)) ∧ x = .slice A m c ∧ Aside0 (wr.ownsRow w0.heap.size 3 1 (.slice A m c) (nl T a (k + 1) m).length (nums .i64 (nl T a (k + 1) m)) ∧ Below w0.heap.size w0 wr))
      case atStart => exact ⟨m0, c, A, ⟨by omega, by omega, by omega, fun _ => rfl⟩, rfl, ⟨HO1.out, HD1.out.1⟩⟩
      case round =>
        clear HO1 HD1 HI
        obtain ⟨m, c, A, HM, rfl, HI⟩ := hrel
        by_cases hc : m ≤ n ∧ 3 ≤ n
        · obtain ⟨hc1, hc2⟩ := hc
          have hd1 : decide (m ≤ n) = true := decide_eq_true hc1
          have hd2 : decide ((3 : Int) ≤ (n : Int)) = true := decide_eq_true (by omega)
          have HV : Aside0 ((nearF (so T a) (k + 1) m : Int) = if m < 3 then 0 else (k : Int) + 1) := ⟨by
            rw [HNF.out m HM.out.2.1 hc1]
            split <;> simp⟩
          have HSN := Aside0.mk (nl_snoc T a (k + 1) m)
          have hmn : (m : Int) ≤ (n : Int) := by omega
          have hnl := nl_len T a (k + 1) m
          have HNLN := Aside0.mk hnl
          obtain ⟨xs, hxs⟩ : ∃ xs, nl T a (k + 1) m = xs := ⟨_, rfl⟩
          rw [hxs] at HSN HI HNLN hnl
          have hxl : xs.length ≤ 3000 := by omega
          clear hxs hnl
          by_cases h3 : m < 3
          · have hd3 : ¬ (3 : Int) ≤ (m : Int) := by omega
            have HE : Aside0 ((nearF (so T a) (k + 1) m : Int) = 0) := ⟨by rw [HV.out, if_pos h3]⟩
            clear HV
            go_wp2_with ((with_reducible refine gate_dst (N := 35) rfl ?_); refine print_append_num (w0 := w0) w0.heap.size rfl (.tmp 32) (.tmp 34) 29 3 .i64 8 rfl Try.underlying29 info3 (by decide) (.slice A m c) xs 0 rfl rfl HI.out.1 HI.out.2 HI.out.2.size (by omega) ?_; intro v1 w1 hown hbel hgrow hat; obtain ⟨A1, c1, rfl, hc1, hr1⟩ := own_nums hown; have HW := Aside0.mk (And.intro hown hbel); clear hown hbel hgrow hat hc1 hr1)
            go_roundg (gk - 1)
            case measure => have := HM.out; omega
            case rel =>
              have hl1 : (xs ++ [0]).length = m + 1 := by rw [List.length_append, HNLN.out]; rfl
              exact ⟨m + 1, c1, A1, ⟨by have := HM.out; omega, by have := HM.out; omega, by have := HM.out; omega, by have := HM.out; omega⟩, by rw [HNLN.out], ⟨by have h := HW.out.1; rw [HSN.out, HE.out]; rw [show (Value.slice A1 (m + 1) c1) = Value.slice A1 (xs ++ [0]).length c1 by rw [hl1]]; exact h, HW.out.2⟩⟩
          · have hd3 : (3 : Int) ≤ (m : Int) := by omega
            have HE : Aside0 ((nearF (so T a) (k + 1) m : Int) = (k : Int) + 1) := ⟨by rw [HV.out, if_neg h3]⟩
            clear HV
            go_wp2_with ((with_reducible refine gate_dst (N := 35) rfl ?_); refine print_append_num (w0 := w0) w0.heap.size rfl (.tmp 32) (.tmp 34) 29 3 .i64 8 rfl Try.underlying29 info3 (by decide) (.slice A m c) xs ((k : Int) + 1) rfl rfl HI.out.1 HI.out.2 HI.out.2.size (by omega) ?_; intro v1 w1 hown hbel hgrow hat; obtain ⟨A1, c1, rfl, hc1, hr1⟩ := own_nums hown; have HW := Aside0.mk (And.intro hown hbel); clear hown hbel hgrow hat hc1 hr1)
            go_roundg (gk - 1)
            case measure => have := HM.out; omega
            case rel =>
              have hl1 : (xs ++ [((k : Int) + 1)]).length = m + 1 := by rw [List.length_append, HNLN.out]; rfl
              exact ⟨m + 1, c1, A1, ⟨by have := HM.out; omega, by have := HM.out; omega, by have := HM.out; omega, by have := HM.out; omega⟩, by rw [HNLN.out], ⟨by have h := HW.out.1; rw [HSN.out, HE.out]; rw [show (Value.slice A1 (m + 1) c1) = Value.slice A1 (xs ++ [((k : Int) + 1)]).length c1 by rw [hl1]]; exact h, HW.out.2⟩⟩
        · have HE : Aside0 (m = nlen (so T a) (k + 1)) := ⟨by
            rw [HNS.out]
            have := HM.out
            split <;> omega⟩
          clear HM HNF HNL
          by_cases hc1 : m ≤ n
          · have hd1 : decide (m ≤ n) = true := decide_eq_true hc1
            have hd2 : decide ((3 : Int) ≤ (n : Int)) = false := decide_eq_false (by omega)
            go_wp2
            go_roundg (gk1 - 1)
            case measure => have := HK.out; omega
            case rel => exact ⟨k + 1, c, A, ⟨by have := HK.out; omega⟩, by rw [HE.out], by go_num, ⟨by rw [← HE.out]; exact HI.out.1, HI.out.2⟩⟩
          · have hd1 : decide (m ≤ n) = false := decide_eq_false hc1
            go_wp2
            go_roundg (gk1 - 1)
            case measure => have := HK.out; omega
            case rel => exact ⟨k + 1, c, A, ⟨by have := HK.out; omega⟩, by rw [HE.out], by go_num, ⟨by rw [← HE.out]; exact HI.out.1, HI.out.2⟩⟩
    · obtain rfl : k = a := by have := HK.out; omega
      have hl : ¬ (k : Int) + 1 ≤ (k : Int) := by omega
      go_wp2
      go_ret
      exact ⟨_, rfl, HI.out.1, HI.out.2⟩
end Go.Proofs.Ytfijbhacobjjgad
