/- DigestJoins: the walk. -/
import Derived.Test.YtfijbhacobjjgafProg
import Derived.Test.YtfijbhacobjjgafVals
import Derived.Test.YtfijbhacobjjgafWLast
import Derived.Test.YtfijbhacobjjgafWMore
import Derived.RegionTactic
import Derived.ChangeAlike
import Derived.BigRegion
import Derived.WalkLawsBesides
import Derived.WalkSpells
import Derived.Deep.LoopGhost
import Derived.Deep.QuietTactic
import Derived.BigQuiet
import Derived.OwnWalk
import Derived.Test.YtfijbhacobjjgafAwakeA
namespace Go.Proofs.Ytfijbhacobjjgaf
open Go.RowKit Go.Proofs.YtfijbhacobjjgafW.PrintWords Go.Proofs.YtfijbhacobjjgafW.PrintLast Go.Proofs.YtfijbhacobjjgafW.PrintMore Go.Proofs.Ytfijbhacobjjgaf.Fr
set_option linter.unusedVariables false
set_option linter.unusedSimpArgs false
attribute [local go_sem] max2_int min2_int max_two min_two

open Pl
theorem wf_i64 {x : Int} (h : (Lit.int .i64 x).wf = true) : -9223372036854775808 ≤ x ∧ x ≤ 9223372036854775807 := by
  simp [Lit.wf, IntKind.min, IntKind.max, IntKind.signed, IntKind.bits] at h
  omega
set_option maxRecDepth 100000 in
set_option maxHeartbeats 1000000 in
theorem joins_walk (A : Option Addr) (n c : Nat) (l : List Int) (w0 : World) (hcap : n ≤ c) (hC : (Kd.int .i64).C w0 A n l) (hwf : ∀ p ∈ l, (Lit.int .i64 p).wf = true) : Calls Try.prog 4 #[.slice A n c] w0 fun e w' => e = .returned (.bool true) ∧ Below w0.heap.size w0 w' := by
  have hnm : n ≤ 9223372036854775807 := hC.2.1
  obtain ⟨hl, hR⟩ := rdk_of hC
  have HAW := Aside0.mk awake_any
  have HR := Aside0.mk hR
  have HL := Aside0.mk hl
  have HWF : Aside0 (∀ i, i < n → -9223372036854775808 ≤ l.getD i 0 ∧ l.getD i 0 ≤ 9223372036854775807) := ⟨fun i hi => by
    have hm := hwf (l.getD i 0) (by rw [List.getD_eq_getElem?_getD, List.getElem?_eq_getElem (by omega)]; exact List.getElem_mem _)
    exact wf_i64 hm⟩
  clear hC hl hR hwf
  by_cases h100 : 100 < n
  · have h1 : (100 : Int) < n := by omega
    go_enter Try.func4, Try.ntmps4
    go_wp2_with fail
    refine (HAW.out _).mono ?_
    rintro e w1 ⟨rfl, hb⟩
    have HB := Aside0.mk hb
    clear hb
    go_wp2
    go_ret
    exact ⟨rfl, HB.out⟩
  have h1 : ¬ (100 : Int) < n := by omega
  go_enter Try.func4, Try.ntmps4
  go_wp2_with fail
  refine (HAW.out _).mono ?_
  rintro e w1 ⟨rfl, hb⟩
  have HB := Aside0.mk hb
  have HR1 : Aside0 (RdK .i64 w1 A l) := ⟨HR.out.below hb⟩
  have HI0 : Aside0 (∀ i, i < 0 → l.getD i 0 < 4611686018427387904) := ⟨fun i hi => by omega⟩
  clear hb HR
  go_wp2
  go_loopg [15] n (fun gk x wr => ∃ k : Nat, x = .int .i64 k ∧ Aside0 (k + gk = n) ∧ Aside0 (∀ i, i < k → l.getD i 0 < 4611686018427387904) ∧ wr = w1)
  case atStart => exact ⟨0, rfl, ⟨Nat.zero_add _⟩, HI0, rfl⟩
  case round =>
    clear HI0
    obtain ⟨k, rfl, HK, HI, rfl⟩ := hrel
    by_cases hlt : k < n
    · obtain ⟨ad, rfl, hc⟩ := HR1.out k (by have := HL.out; omega)
      obtain ⟨x, hx⟩ : ∃ x, l.getD k 0 = x := ⟨_, rfl⟩
      have HXE := Aside0.mk hx
      have hxb := HWF.out k hlt
      rw [hx] at hc hxb
      obtain ⟨hxa, hxb⟩ := hxb
      have hki : (k : Int) < n := by omega
      clear hx
      by_cases hbig : 4611686018427387904 ≤ x
      · go_wp2
        go_ret
        exact ⟨rfl, HB.out⟩
      · go_wp2
        go_roundg (gk - 1)
        case measure => have := HK.out; omega
        case rel => exact ⟨k + 1, by go_num, ⟨by have := HK.out; omega⟩, ⟨fun i hi => by
          rcases Nat.lt_or_ge i k with h | h
          · exact HI.out i h
          · obtain rfl : i = k := by omega
            rw [HXE.out]; omega⟩, rfl⟩
    · have hk : k = n := by have := HK.out; omega
      subst hk
      have hki : ¬ (k : Int) < k := by omega
      have HJ : Aside0 (∀ w2 : World, Below wr.heap.size wr w2 → Calls Try.prog 10 #[.slice A k c] w2 (JoinPost (l.foldl stp []) w2)) := ⟨fun w2 hb => join_any A k c l HL.out (by omega) w2 (HR1.out.below hb) (fun i hi => ⟨(HWF.out i hi).1, HI.out i hi⟩)⟩
      have HP : Aside0 (∀ w2 : World, Below wr.heap.size wr w2 → Calls Try.prog 11 #[.slice A k c] w2 (JoinPost (l.foldl stp []) w2)) := ⟨fun w2 hb => by
        rw [pairs_same]
        exact refpairs_any A k c l HL.out (by omega) w2 (HR1.out.below hb) (fun i hi => ⟨(HWF.out i hi).1, HI.out i hi⟩)⟩
      have hol := stp_len l []
      have hln := HL.out
      obtain ⟨o, ho⟩ : ∃ o, l.foldl stp [] = o := ⟨_, rfl⟩
      rw [ho] at HJ HP hol
      have hol2 : o.length ≤ 100 := by simp at hol; omega
      clear ho hol hln
      go_wp2_with fail
      refine (HJ.out _ (Below.refl _ _)).mono ?_
      rintro e w2 ⟨v2, rfl, hp2, hb2⟩
      have HB2 := Aside0.mk hb2
      have HP2 := Aside0.mk hp2
      clear hb2 hp2
      go_wp2_with fail
      refine (HP.out _ HB2.out).mono ?_
      rintro e w3 ⟨v3, rfl, hp3, hb3⟩
      have HW : Aside0 (PR wr.heap.size w3 v2 o ∧ PR w2.heap.size w3 v3 o ∧ Below w0.heap.size w0 w3) := ⟨HP2.out.below hb3, hp3, below_step (below_step HB.out HB2.out) hb3⟩
      obtain ⟨A2, c2, rfl, hc2, hcc2, _⟩ := HW.out.1.shape
      obtain ⟨A3, c3, rfl, hc3, hcc3, _⟩ := HW.out.2.1.shape
      clear hp3 hb3 HP2 HB2 HJ HP
      obtain ⟨m, hm⟩ : ∃ m, o.length = m := ⟨_, rfl⟩
      have HM := Aside0.mk hm
      rw [hm]
      rw [hm] at hol2 hc2 hc3
      clear hm
      go_wp2
      go_loopg [33] m (fun gk x wr => ∃ k : Nat, x = .int .i64 k ∧ Aside0 (k + gk = m) ∧ Aside0 (Drawn0 w3 wr))
      case atStart => exact ⟨0, rfl, ⟨Nat.zero_add _⟩, ⟨Drawn0.refl _⟩⟩
      case round =>
        obtain ⟨i, rfl, HQ, HD⟩ := hrel
        by_cases hlt2 : i < m
        · obtain ⟨A22, c22, e2, _, _, hs2⟩ := HW.out.1.shape
          obtain ⟨A33, c33, e3, _, _, hs3⟩ := HW.out.2.1.shape
          cases e2
          cases e3
          obtain ⟨g2, rfl, hg2, a0, a1⟩ := hs2 i (by have := HM.out; omega)
          obtain ⟨g3, rfl, hg3, b0, b1⟩ := hs3 i (by have := HM.out; omega)
          obtain ⟨x, hx⟩ : ∃ x, (o.getD i (0, 0)).1 = x := ⟨_, rfl⟩
          obtain ⟨y, hy⟩ : ∃ y, (o.getD i (0, 0)).2 = y := ⟨_, rfl⟩
          rw [hx] at a0 b0
          rw [hy] at a1 b1
          have a0 : wr.cell? ⟨g2, i * 2, none⟩ = some (.int .i64 x) := by obtain ⟨⟨nq, rfl⟩⟩ := HD.out; exact a0
          have a1 : wr.cell? ⟨g2, i * 2 + 1, none⟩ = some (.int .i64 y) := by obtain ⟨⟨nq, rfl⟩⟩ := HD.out; exact a1
          have b0 : wr.cell? ⟨g3, i * 2, none⟩ = some (.int .i64 x) := by obtain ⟨⟨nq, rfl⟩⟩ := HD.out; exact b0
          have b1 : wr.cell? ⟨g3, i * 2 + 1, none⟩ = some (.int .i64 y) := by obtain ⟨⟨nq, rfl⟩⟩ := HD.out; exact b1
          have hEQ : ∀ w : World, (Op.equalIn 10000 32 (.agg #[.int .i64 x, .int .i64 y]) (.agg #[.int .i64 x, .int .i64 y])).run Try.prog w = .ok true w := fun w => by
            have := eqP 9998 w x y x y
            simpa using this
          have hii : (i : Int) < m := by omega
          have hi0 : (0 : Int) ≤ i := by omega
          clear hx hy hs2 hs3
          go_wp2
          go_quiet (fail)
          clear hEQ
          go_wp2
          go_roundg (gk - 1)
          case measure => have := HQ.out; omega
          case rel => exact ⟨i + 1, by go_num, ⟨by have := HQ.out; omega⟩, ⟨Drawn0.step HD.out _⟩⟩
        · have hii : ¬ (i : Int) < m := by omega
          have HBE : Aside0 (Below w0.heap.size w0 wr) := ⟨drawn_below HW.out.2.2 HD.out⟩
          go_wp2
          go_ret
          exact ⟨rfl, HBE.out⟩
end Go.Proofs.Ytfijbhacobjjgaf
