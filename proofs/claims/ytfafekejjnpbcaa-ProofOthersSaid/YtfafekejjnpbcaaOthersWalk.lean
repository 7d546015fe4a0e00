/- ProofOthers: the walk. -/
import Derived.Test.YtfafekejjnpbcaaProg
import Derived.Test.YtfafekejjnpbcaaVals
import Derived.Test.YtfafekejjnpbcaaWLast
import Derived.Test.YtfafekejjnpbcaaWMore
import Derived.RegionTactic
import Derived.ChangeAlike
import Derived.BigRegion
import Derived.WalkLawsBesides
import Derived.WalkSpells
import Derived.Deep.LoopGhost
import Derived.Deep.QuietTactic
import Derived.BigQuiet
import Derived.OwnWalk
import Derived.Test.YtfafekejjnpbcaaVerifiesWalk
import Derived.StillTailTactics
namespace Go.Proofs.Ytfafekejjnpbcaa
open Go.RowKit Go.Proofs.YtfafekejjnpbcaaW.PrintWords Go.Proofs.YtfafekejjnpbcaaW.PrintLast Go.Proofs.YtfafekejjnpbcaaW.PrintMore Go.Proofs.Ytfafekejjnpbcaa.Fr
set_option linter.unusedVariables false
set_option linter.unusedSimpArgs false
attribute [local go_sem] max2_int min2_int max_two min_two

open Pl
theorem getD_mem {l : List ByteArray} {j : Nat} (h : j < l.length) : l.getD j ByteArray.empty ∈ l := by
  rw [List.getD_eq_getElem?_getD, List.getElem?_eq_getElem h]; exact List.getElem_mem _
set_option maxRecDepth 100000 in
set_option maxHeartbeats 4000000 in
theorem others_walk (A : Option Addr) (n c : Nat) (l : List ByteArray) (i : Int) (hi : (Lit.int .i64 i).wf = true) (t : ByteArray) (ht : t.size ≤ 140737488351232) (w : World) (hl : IsStrs w A n c l) : Calls Try.prog 5 #[.slice A n c, .int .i64 i, .string t] w fun e w' => e = .returned (.bool true) ∧ Below w.heap.size w w' := by
  obtain ⟨hi0, hi1⟩ := bounds_i64 hi
  have HL := Aside0.mk hl
  have hnc := hl.2.1
  have hcc := hl.2.2.1
  clear hl hi
  by_cases h30 : 30 < n
  · have h31 : (30 : Int) < (n : Int) := by omega
    go_enter Try.func5, Try.ntmps5
    go_wp2_with fail
    refine (awake_any w).mono ?_
    rintro e w1 ⟨rfl, hb1⟩
    go_wp2
    go_ret
    exact ⟨rfl, hb1⟩
  · have h31 : ¬ (30 : Int) < (n : Int) := by omega
    by_cases h20 : 20 < t.size
    · have h21 : (20 : Int) < (t.size : Int) := by omega
      go_enter Try.func5, Try.ntmps5
      go_wp2_with fail
      refine (awake_any w).mono ?_
      rintro e w1 ⟨rfl, hb1⟩
      go_wp2
      go_ret
      exact ⟨rfl, hb1⟩
    · have h21 : ¬ (20 : Int) < (t.size : Int) := by omega
      by_cases h0 : i < 0
      · go_enter Try.func5, Try.ntmps5
        go_wp2_with fail
        refine (awake_any w).mono ?_
        rintro e w1 ⟨rfl, hb1⟩
        go_wp2
        go_ret
        exact ⟨rfl, hb1⟩
      · by_cases h1 : (n : Int) ≤ i
        · go_enter Try.func5, Try.ntmps5
          go_wp2_with fail
          refine (awake_any w).mono ?_
          rintro e w1 ⟨rfl, hb1⟩
          go_wp2
          go_ret
          exact ⟨rfl, hb1⟩
        · obtain ⟨j, rfl⟩ : ∃ j : Nat, i = (j : Int) := ⟨i.toNat, by omega⟩
          have hjn : j < n := by omega
          obtain ⟨ad, rfl, _⟩ := HL.out.2.2.2.1 j (by rw [HL.out.1]; exact hjn)
          obtain ⟨s, hs⟩ : ∃ s, l.getD j ByteArray.empty = s := ⟨_, rfl⟩
          have HSJ := Aside0.mk hs
          have HCJ : Aside0 (∀ w', Below w.heap.size w w' → w'.cell? (ad.add j) = some (.string s)) := ⟨fun w' hw => by
            obtain ⟨a2, e2, hc2⟩ := (HL.out.2.2.2.1.below hw) j (by rw [HL.out.1]; exact hjn)
            cases e2
            rw [hs] at hc2
            exact hc2⟩
          clear hs
          have hjj : (0 : Int) ≤ (j : Int) := by omega
          have hjk : (j : Int) < (n : Int) := by omega
          by_cases hst : t = s
          · have hne : (t.toList == s.toList) = true := by rw [str_beq]; simpa using hst
            clear hst
            go_enter Try.func5, Try.ntmps5
            go_wp2_with fail
            refine (awake_any w).mono ?_
            rintro e w1 ⟨rfl, hb1⟩
            have hc := HCJ.out w1 hb1
            go_wp2
            go_ret
            exact ⟨rfl, hb1⟩
          · have hne : (t.toList == s.toList) = false := by rw [str_beq]; simpa using hst
            clear hst
            have d1 : decide ((30 : Int) < (n : Int)) = false := decide_eq_false h31
            have d2 : decide ((20 : Int) < (t.size : Int)) = false := decide_eq_false h21
            have d3 : decide ((j : Int) < 0) = false := decide_eq_false h0
            have d4 : decide (n ≤ j) = false := decide_eq_false (by omega)
            go_enter Try.func5, Try.ntmps5
            go_wp2_with fail
            refine (awake_any w).mono ?_
            rintro e w1 ⟨rfl, hb1⟩
            have hc := HCJ.out w1 hb1
            have HR := Aside0.mk (HL.out.2.2.2.1.below hb1)
            have HS : Aside0 (∀ s ∈ l, s.size ≤ 140737488355328) := ⟨fun s hs => Nat.le_trans (HL.out.2.2.2.2.1 s hs) (by omega)⟩
            have HN := Aside0.mk HL.out.1
            have HB := Aside0.mk hb1
            clear hb1 HL
            go_wp2
            go_loopg [43] n (fun gk x wr => ∃ k : Nat, Aside0 (k + gk = n) ∧ x = .int .i64 k ∧ wr = w1)
            case atStart => exact ⟨0, ⟨by omega⟩, rfl, rfl⟩
            case round =>
              obtain ⟨k, HK, rfl, rfl⟩ := hrel
              by_cases hlt : k < n
              · obtain ⟨ad2, e2, hc2⟩ := HR.out k (by rw [HN.out]; exact hlt)
                cases e2
                obtain ⟨s2, hs2⟩ : ∃ s, l.getD k ByteArray.empty = s := ⟨_, rfl⟩
                rw [hs2] at hc2
                clear hs2
                by_cases h30 : 20 < s2.size
                · have h31 : (20 : Int) < (s2.size : Int) := by omega
                  go_wp2
                  go_ret
                  exact ⟨rfl, HB.out⟩
                · have h31 : ¬ (20 : Int) < (s2.size : Int) := by omega
                  go_wp2
                  go_roundg (gk - 1)
                  case measure => have := HK.out; omega
                  case rel => exact ⟨k + 1, ⟨by have := HK.out; omega⟩, by go_num, rfl⟩
              · clear HK
                have hlt2 : n ≤ k := by omega
                have HPN := path_in n l (some ad) c j wr HN.out hnc hcc (by omega) hjn HR.out HS.out
                have HPL := Aside0.mk (path_length lf pr n l j HN.out)
                have HPR := Aside0.mk (path_in_range l j)
                have hts : t.size ≤ 140737488355328 := by omega
                have HSS : Aside0 (s.size ≤ 140737488355328) := ⟨by rw [← HSJ.out]; exact HS.out _ (getD_mem (by rw [HN.out]; exact hjn))⟩
                have HCO := fun h1 h2 => collides_of pr n j (lf s) (lf t) (path lf pr l j) h1 h2
                have HCP := climb_path lf pr n l j HN.out hjn
                rw [HSJ.out] at HCP
                have HRT := Aside0.mk (fun w2 (hw : Below wr.heap.size wr w2) => root_any n l (some ad) c w2 HN.out hnc hcc (by omega) (HR.out.below hw) HS.out)
                obtain ⟨p, hp⟩ : ∃ p, path lf pr l j = p := ⟨_, rfl⟩
                obtain ⟨r, hr⟩ : ∃ r, root lf pr l = r := ⟨_, rfl⟩
                rw [hp] at HPN HPL HPR HCO HCP
                rw [hr] at HCP HRT
                have HPN := Aside0.mk HPN
                have HCO := Aside0.mk HCO
                have HCP := Aside0.mk HCP
                clear hp hr
                go_wp2_with fail
                refine HPN.out.mono ?_
                rintro e w2 ⟨v, rfl, hown, hb2⟩
                obtain ⟨A1, c1, rfl, hc1, _⟩ := own_nums hown
                have hcc1 := own_cap hown
                have HP1 := Aside0.mk (own_rdn hown)
                have HB2 := Aside0.mk hb2
                obtain ⟨m, hm⟩ : ∃ m, p.length = m := ⟨_, rfl⟩
                rw [hm] at hc1 HPL
                rw [hm]
                have HM := Aside0.mk hm
                clear hown hb2 HPN hm
                go_wp2_with fail
                refine (HRT.out w2 HB2.out).mono ?_
                rintro e w3 ⟨rfl, hb3⟩
                have HB3 := Aside0.mk (below_step HB2.out hb3)
                have HP3 := Aside0.mk (HP1.out.below hb3)
                have HV := verify_in r n j t p A1 c1 m w3 (by omega) hjn hts HM.out hc1 hcc1 HP3.out HPR.out
                rw [up_steps n j (lf t) p (by rw [HM.out]; exact HPL.out)] at HV
                simp only [Bool.true_and] at HV
                have hcs := HCJ.out
                clear hb3 HRT HP1
                by_cases hq : climb pr n j (lf t) p = r
                · rw [decide_eq_true hq] at HV
                  have HV := Aside0.mk HV
                  have HQ := Aside0.mk hq
                  clear hq hcs
                  go_wp2_with fail
                  refine HV.out.mono ?_
                  rintro e w4 ⟨rfl, hb4⟩
                  have HB4 := Aside0.mk (below_step HB3.out hb4)
                  have HP4 := Aside0.mk (HP3.out.below hb4)
                  have hc4 := HCJ.out w4 (below_step HB.out HB4.out)
                  clear hb4 HV
                  go_wp2_with fail
                  refine (refLeaf_any s w4 HSS.out).mono ?_
                  rintro e w5 ⟨rfl, rfl⟩
                  go_wp2_with fail
                  refine (refLeaf_any t w5 hts).mono ?_
                  rintro e w6 ⟨rfl, rfl⟩
                  have HCL := collides_any n j (lf s) (lf t) p A1 c1 m w6 (by omega) (by omega) hjn (lf_in s) (lf_in t) HM.out HPL.out hc1 hcc1 HP4.out HPR.out
                  obtain ⟨x, hx⟩ : ∃ x, lf s = x := ⟨_, rfl⟩
                  obtain ⟨y, hy⟩ : ∃ y, lf t = y := ⟨_, rfl⟩
                  rw [hx, hy] at HCL HCO
                  rw [hx] at HCP
                  rw [hy] at HQ
                  rw [hx, hy]
                  clear hx hy
                  by_cases hxy : x = y
                  · have hxy1 : (x == y) = true := by simpa using hxy
                    clear hxy HCL
                    go_wp2
                    go_ret
                    exact ⟨rfl, below_step HB.out HB4.out⟩
                  · have hxy1 : (x == y) = false := by simpa using hxy
                    rw [HCO.out hxy (by rw [HCP.out, HQ.out])] at HCL
                    have HCL := Aside0.mk HCL
                    clear hxy
                    go_wp2_with fail
                    refine HCL.out.mono ?_
                    rintro e w7 ⟨rfl, hb7⟩
                    go_wp2
                    go_ret
                    exact ⟨rfl, below_step (below_step HB.out HB4.out) hb7⟩
                · rw [decide_eq_false hq] at HV
                  have HV := Aside0.mk HV
                  clear hq hcs
                  go_wp2_with fail
                  refine HV.out.mono ?_
                  rintro e w4 ⟨rfl, hb4⟩
                  go_wp2
                  go_ret
                  exact ⟨rfl, below_step HB.out (below_step HB3.out hb4)⟩
end Go.Proofs.Ytfafekejjnpbcaa
