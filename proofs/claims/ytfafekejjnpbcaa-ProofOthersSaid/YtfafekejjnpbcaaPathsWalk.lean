/- ProofPaths: the walk. -/
import Derived.Test.YtfafekejjnpbcaaProg
import Derived.Test.YtfafekejjnpbcaaVals
import Derived.Test.YtfafekejjnpbcaaWLast
import Derived.Test.YtfafekejjnpbcaaWMore
import Derived.RegionTactic
import Derived.ChangeAlike
import Derived.BigRegion
import Derived.WalkLawsBesides
import Derived.WalkSpells
import Derived.Deep.LoopGhost
import Derived.Deep.QuietTactic
import Derived.BigQuiet
import Derived.OwnWalk
import Derived.Test.YtfafekejjnpbcaaPathB
import Derived.StillTailTactics
namespace Go.Proofs.Ytfafekejjnpbcaa
open Go.RowKit Go.Proofs.YtfafekejjnpbcaaW.PrintWords Go.Proofs.YtfafekejjnpbcaaW.PrintLast Go.Proofs.YtfafekejjnpbcaaW.PrintMore Go.Proofs.Ytfafekejjnpbcaa.Fr
set_option linter.unusedVariables false
set_option linter.unusedSimpArgs false
attribute [local go_sem] max2_int min2_int max_two min_two

open Pl
theorem RdN.drawn {w w1 : World} {A : Option Addr} {l : List Int} (h : RdN w A l) (hb : Drawn0 w w1) : RdN w1 A l := by obtain ⟨⟨n, rfl⟩⟩ := hb; exact h
theorem drawn_below {B : Nat} {w w1 w2 : World} (h : Below B w w1) (hd : Drawn0 w1 w2) : Below B w w2 := by obtain ⟨⟨n, rfl⟩⟩ := hd; exact pw_below_drewN h n
set_option maxRecDepth 100000 in
set_option maxHeartbeats 4000000 in
theorem paths_walk (A : Option Addr) (n c : Nat) (l : List ByteArray) (i : Int) (hi : (Lit.int .i64 i).wf = true) (w : World) (hl : IsStrs w A n c l) : Calls Try.prog 3 #[.slice A n c, .int .i64 i] w fun e w' => e = .returned (.bool true) ∧ Below w.heap.size w w' := by
  obtain ⟨hi0, hi1⟩ := bounds_i64 hi
  have HL := Aside0.mk hl
  have hnc := hl.2.1
  have hcc := hl.2.2.1
  clear hl hi
  by_cases h40 : 40 < n
  · have h41 : (40 : Int) < (n : Int) := by omega
    go_enter Try.func3, Try.ntmps3
    go_wp2_with fail
    refine (awake_any w).mono ?_
    rintro e w1 ⟨rfl, hb1⟩
    go_wp2
    go_ret
    exact ⟨rfl, hb1⟩
  · have h41 : ¬ (40 : Int) < (n : Int) := by omega
    go_enter Try.func3, Try.ntmps3
    go_wp2_with fail
    refine (awake_any w).mono ?_
    rintro e w1 ⟨rfl, hb1⟩
    have HR := Aside0.mk (HL.out.2.2.2.1.below hb1)
    have HS : Aside0 (∀ s ∈ l, s.size ≤ 140737488355328) := ⟨fun s hs => Nat.le_trans (HL.out.2.2.2.2.1 s hs) (by omega)⟩
    have HN := Aside0.mk HL.out.1
    have HB := Aside0.mk hb1
    clear hb1 HL
    go_wp2
    go_loopg [19] n (fun gk x wr => ∃ k : Nat, Aside0 (k + gk = n) ∧ x = .int .i64 k ∧ wr = w1)
    case atStart => exact ⟨0, ⟨by omega⟩, rfl, rfl⟩
    case round =>
      obtain ⟨k, HK, rfl, rfl⟩ := hrel
      by_cases hlt : k < n
      · obtain ⟨ad, rfl, hc⟩ := HR.out k (by rw [HN.out]; exact hlt)
        obtain ⟨s, hs⟩ : ∃ s, l.getD k ByteArray.empty = s := ⟨_, rfl⟩
        rw [hs] at hc
        clear hs
        by_cases h30 : 30 < s.size
        · have h31 : (30 : Int) < (s.size : Int) := by omega
          go_wp2
          go_ret
          exact ⟨rfl, HB.out⟩
        · have h31 : ¬ (30 : Int) < (s.size : Int) := by omega
          go_wp2
          go_roundg (gk - 1)
          case measure => have := HK.out; omega
          case rel => exact ⟨k + 1, ⟨by have := HK.out; omega⟩, by go_num, rfl⟩
      · clear HK
        have hlt2 : n ≤ k := by omega
        go_wp2_with fail
        refine (root_any n l A c _ HN.out hnc hcc (by omega) HR.out HS.out).mono ?_
        rintro e w2 ⟨rfl, hb2⟩
        have HRT : Aside0 (∀ w3, Below wr.heap.size wr w3 → Calls Try.prog 9 #[.slice A n c] w3 fun e w' => e = .returned (.int .u64 (root lf pr l)) ∧ Below w3.heap.size w3 w') := ⟨fun w3 hw => refRoot_any n l A c w3 HN.out hnc hcc (by omega) (HR.out.below hw) HS.out⟩
        have HCP : Aside0 (∀ j : Nat, i = (j : Int) → j < n → climb pr n j (lf (l.getD j ByteArray.empty)) (path lf pr l j) = root lf pr l) := ⟨fun j _ h => climb_path lf pr n l j HN.out h⟩
        obtain ⟨r, hr⟩ : ∃ r, root lf pr l = r := ⟨_, rfl⟩
        rw [hr] at HRT HCP
        rw [hr]
        clear hr
        go_wp2_with fail
        refine (HRT.out w2 hb2).mono ?_
        rintro e w3 ⟨rfl, hb3⟩
        have HB3 := Aside0.mk (below_step hb2 hb3)
        clear hb2 hb3 HRT
        by_cases hin : 0 ≤ i ∧ i < (n : Int)
        · obtain ⟨hin1, hin2⟩ := hin
          obtain ⟨j, rfl⟩ : ∃ j : Nat, i = (j : Int) := ⟨i.toNat, by omega⟩
          have hjn : j < n := by omega
          have HR3 := Aside0.mk (HR.out.below HB3.out)
          have HC := Aside0.mk (HCP.out j rfl hjn)
          have HPL := Aside0.mk (path_length lf pr n l j HN.out)
          have HPR := Aside0.mk (path_in_range l j)
          have HPN := path_in n l A c j w3 HN.out hnc hcc (by omega) hjn HR3.out HS.out
          have HRP : Aside0 (∀ w4, Below w3.heap.size w3 w4 → Calls Try.prog 11 #[.slice A n c, .int .i64 j] w4 (RefPathPost (path lf pr l j) w4)) := ⟨fun w4 hw => refPath_in n l A c j w4 HN.out hnc hcc (by omega) hjn (HR3.out.below hw) HS.out⟩
          obtain ⟨p, hp⟩ : ∃ p, path lf pr l j = p := ⟨_, rfl⟩
          rw [hp] at HC HPL HPR HPN HRP
          have HPN := Aside0.mk HPN
          clear hp HCP
          go_wp2_with fail
          refine HPN.out.mono ?_
          rintro e w4 ⟨v, rfl, hown, hb4⟩
          obtain ⟨A1, c1, rfl, hc1, _⟩ := own_nums hown
          have hcc1 := own_cap hown
          have HP1 := Aside0.mk (own_rdn hown)
          have HB4 := Aside0.mk hb4
          clear hown hb4 HPN
          go_wp2_with fail
          refine (HRP.out w4 HB4.out).mono ?_
          rintro e w5 ⟨v, rfl, hown, hb5⟩
          obtain ⟨A2, c2, rfl, hc2, _⟩ := own_nums hown
          have HP2 := Aside0.mk (own_rdn hown)
          have HP3 := Aside0.mk (HP1.out.below hb5)
          have HB5 := Aside0.mk (below_step HB4.out hb5)
          have hl5 : p.length ≤ 9223372036854775807 := by omega
          obtain ⟨m, hm⟩ : ∃ m, p.length = m := ⟨_, rfl⟩
          rw [hm] at hc1 hc2 hl5
          have HM := Aside0.mk hm
          rw [hm]
          clear hown hb5 HRP HP1 hm
          go_wp2
          go_loopg [68] m (fun gk x wr => ∃ k : Nat, Aside0 (k + gk = m) ∧ x = .int .i64 k ∧ Aside0 (Drawn0 w5 wr))
          case atStart => exact ⟨0, ⟨by omega⟩, rfl, ⟨Drawn0.refl _⟩⟩
          case round =>
            obtain ⟨k2, HK2, rfl, HD⟩ := hrel
            by_cases hlt : k2 < m
            · obtain ⟨a1, rfl, hx1⟩ := (HP3.out.drawn HD.out) k2 (by rw [HM.out]; exact hlt)
              obtain ⟨a2, rfl, hx2⟩ := (HP2.out.drawn HD.out) k2 (by rw [HM.out]; exact hlt)
              obtain ⟨x, hx⟩ : ∃ x, p.getD k2 0 = x := ⟨_, rfl⟩
              rw [hx] at hx1 hx2
              clear hx
              have hk0 : (0 : Int) ≤ (k2 : Int) := by omega
              have hk1 : (k2 : Int) < (m : Int) := by omega
              go_wp2
              go_quiet (fail)
              go_wp2
              go_roundg (gk - 1)
              case measure => have := HK2.out; omega
              case rel => exact ⟨k2 + 1, ⟨by have := HK2.out; omega⟩, by go_num, ⟨Drawn0.step HD.out _⟩⟩
            · clear HK2
              have hlt3 : m ≤ k2 := by omega
              obtain ⟨ad, rfl, hc⟩ := (HR3.out.below (drawn_below HB5.out HD.out)) j (by rw [HN.out]; exact hjn)
              obtain ⟨s, hs⟩ : ∃ s, l.getD j ByteArray.empty = s := ⟨_, rfl⟩
              have HSS : Aside0 (s.size ≤ 140737488355328) := ⟨by rw [← hs]; exact HS.out _ (by rw [List.getD_eq_getElem?_getD, List.getElem?_eq_getElem (by rw [HN.out]; exact hjn)]; exact List.getElem_mem _)⟩
              rw [hs] at hc HC
              clear hs
              have HV : Aside0 (Calls Try.prog 12 #[.int .u64 r, .int .i64 n, .int .i64 j, .string s, .slice A1 m c1] wr fun e w' => e = .returned (.bool true) ∧ Below wr.heap.size wr w') := ⟨by
                have := verify_in r n j s p A1 c1 m wr (by omega) hjn HSS.out HM.out hc1 hcc1 (HP3.out.drawn HD.out) HPR.out
                rw [up_steps n j (lf s) p HPL.out, HC.out] at this
                simpa using this⟩
              go_wp2_with fail
              refine HV.out.mono ?_
              rintro e w6 ⟨rfl, hb6⟩
              go_wp2
              go_ret
              exact ⟨rfl, below_step (below_step HB.out HB3.out) (below_step (drawn_below HB5.out HD.out) hb6)⟩
        · have HO := Aside0.mk (path_out n A c i w3 (by omega))
          by_cases hneg : i < 0
          · go_wp2_with fail
            refine HO.out.mono ?_
            rintro e w4 ⟨rfl, rfl⟩
            go_wp2
            go_ret
            exact ⟨rfl, below_step HB.out HB3.out⟩
          · have hge : (n : Int) ≤ i := by omega
            go_wp2_with fail
            refine HO.out.mono ?_
            rintro e w4 ⟨rfl, rfl⟩
            go_wp2
            go_ret
            exact ⟨rfl, below_step HB.out HB3.out⟩
end Go.Proofs.Ytfafekejjnpbcaa
