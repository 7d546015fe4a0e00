/- BestNone: the walk. -/
import Derived.Test.YtfijbhacobjjgadProg
import Derived.Test.YtfijbhacobjjgadVals
import Derived.Test.YtfijbhacobjjgadWLast
import Derived.Test.YtfijbhacobjjgadWMore
import Derived.RegionTactic
import Derived.ChangeAlike
import Derived.BigRegion
import Derived.WalkLawsBesides
import Derived.WalkSpells
import Derived.Deep.LoopGhost
import Derived.Deep.QuietTactic
import Derived.BigQuiet
import Derived.OwnWalk
import Derived.Test.YtfijbhacobjjgadNoneP
import Derived.Test.YtfijbhacobjjgadParseA
import Derived.Test.YtfijbhacobjjgadRightA
namespace Go.Proofs.Ytfijbhacobjjgad
open Go.RowKit Go.Proofs.YtfijbhacobjjgadW.PrintWords Go.Proofs.YtfijbhacobjjgadW.PrintLast Go.Proofs.YtfijbhacobjjgadW.PrintMore Go.Proofs.Ytfijbhacobjjgad.Fr
set_option linter.unusedVariables false
set_option linter.unusedSimpArgs false
attribute [local go_sem] max2_int min2_int max_two min_two

open Pl
theorem costS_in : ∀ l : List Stp, 0 ≤ costS stN l ∧ costS stN l ≤ 80 * l.length
  | [] => by simp [costS]
  | s :: r => by
    have h1 := stN_in s.2.1.toNat s.2.2.toNat
    have h2 := costS_in r
    simp only [costS, List.length_cons]
    omega
theorem lits_le (t : Bs) : ∀ (l : List Stp) (a : Nat), fits t.length l a → (litsOf t l a).length ≤ t.length - a
  | [], a, _ => by simp [litsOf]
  | s :: r, a, h => by
    obtain ⟨h1, h2, h3, h4⟩ := h
    have := lits_le t r _ h4
    simp only [litsOf, List.length_append, List.length_take, List.length_drop]
    omega
/-- Behind the steps: parse's are no better, and the least one is not above the flat one. -/
def Tail (D X : ByteArray) (lev z : Int) : Prop := ∀ (w : World), Calls Try.prog 16 #[.string D, .string X, .int .i64 lev] w (PsPost D X lev w) ∧ True
set_option maxRecDepth 100000 in
set_option maxHeartbeats 4000000 in
theorem none_walk (D X : ByteArray) (A : Option Addr) (len cap : Nat) (xs : List Stp) (lev : Int) (hlev : (Lit.int .i64 lev).wf = true) (w0 : World) (hD : D.size ≤ maxLen) (hX : X.size ≤ maxLen) (hcap : len ≤ cap) (hC : int3.C w0 A len xs) (hwf : ∀ p ∈ xs, (Lit.int .i64 p.1).wf = true ∧ (Lit.int .i64 p.2.1).wf = true ∧ (Lit.int .i64 p.2.2).wf = true) :
    Calls Try.prog 5 #[.agg #[.string D, .string X], .slice A len cap, .int .i64 lev] w0 fun e w' => e = .returned (.bool true) ∧ Below w0.heap.size w0 w' := by
  obtain ⟨hS, hxl⟩ := steps_of hC
  have HS := Aside0.mk hS
  have HX := Aside0.mk hxl
  have HW := Aside0.mk hwf
  have hlm : len ≤ 9223372036854775807 := hC.2.1
  unfold maxLen at hD hX
  clear hC hS hlev hwf hxl
  have HB0 : Aside0 (Below w0.heap.size w0 (w0.alloc (.cells #[.string D, .string X] 32))) := ⟨below_alloc (Below.refl _ _) _⟩
  have HX0 := Aside0.mk (blk_new w0 (.cells #[.string D, .string X] 32))
  obtain ⟨g, hg⟩ : ∃ g, w0.heap.size = g := ⟨_, rfl⟩
  have HG := Aside0.mk hg
  rw [hg] at HX0
  go_enter Try.func5, Try.ntmps5
  go_wp2_with fail
  refine (awake_any _).mono ?_
  rintro e w1 ⟨rfl, hb1⟩
  have HBX : Aside0 (w1.heap[g]? = some (.cells #[.string D, .string X] 32 (0, 0))) := ⟨blk_below HX0.out hb1⟩
  have HB1 := Aside0.mk (below_step HB0.out hb1)
  have c0 : w1.cell? ⟨g, 0, none⟩ = some (.string D) := (blk_cell HBX.out 0).trans rfl
  have c1 : w1.cell? ⟨g, 1, none⟩ = some (.string X) := (blk_cell HBX.out 1).trans rfl
  clear hb1 hg HX0 HB0
  go_wp2
  go_quiet (fail)
  obtain ⟨w2, hw2⟩ : ∃ w2, w1.drewN nq = w2 := ⟨_, rfl⟩
  have HB2 : Aside0 (Below w0.heap.size w0 w2) := ⟨hw2 ▸ pw_below_drewN HB1.out nq⟩
  rw [hw2]
  clear c0 c1 hw2 HBX HB1
  by_cases h1 : 100 < D.size
  · have h2 : (100 : Int) < (D.size : Int) := by omega
    go_wp2
    go_ret
    exact ⟨rfl, HB2.out⟩
  · have h2 : ¬ (100 : Int) < (D.size : Int) := by omega
    by_cases h3 : 100 < X.size
    · have h4 : (100 : Int) < (X.size : Int) := by omega
      go_wp2
      go_ret
      exact ⟨rfl, HB2.out⟩
    · have h4 : ¬ (100 : Int) < (X.size : Int) := by omega
      by_cases h5 : 30 < len
      · have h6 : (30 : Int) < (len : Int) := by omega
        go_wp2
        go_ret
        exact ⟨rfl, HB2.out⟩
      · have h6 : ¬ (30 : Int) < (len : Int) := by omega
        have hD2 : D.size ≤ 100 := by omega
        have hX2 : X.size ≤ 100 := by omega
        have hx30 : len ≤ 30 := by omega
        have HL := Aside0.mk (fun w => least_any D X (by omega) (by omega) w)
        have HFL := Aside0.mk (least_flat D X)
        have HNL := Aside0.mk (least_cost D X)
        have HR : Aside0 (∀ w, Steps w A xs → Calls Try.prog 9 #[.string D, .string X, .slice A len cap] w (R12Post D X xs w)) := ⟨fun w h => by
          have := r12_gen D X A cap xs w (by omega) (by omega) (by rw [HX.out]; omega) h HW.out
          rwa [HX.out] at this⟩
        obtain ⟨z, hz⟩ : ∃ z, lst D X = z := ⟨_, rfl⟩
        rw [hz] at HL HFL HNL
        have d3 : decide ((100 : Int) < (D.size : Int)) = false := decide_eq_false h2
        have d4 : decide ((100 : Int) < (X.size : Int)) = false := decide_eq_false h4
        have d5 : decide ((30 : Int) < (len : Int)) = false := decide_eq_false h6
        clear hz
        go_wp2_with fail
        refine (HL.out w2).mono ?_
        rintro e w3 ⟨rfl, hb3⟩
        have HS3 := Aside0.mk ((HS.out.below HB2.out).below hb3)
        have HB3 := Aside0.mk (below_step HB2.out hb3)
        clear hb3 HL
        go_wp2_with fail
        refine (HR.out w3 HS3.out).mono ?_
        rintro e w4 ⟨⟨b, rfl, hbr⟩, hb4⟩
        have HS4 := Aside0.mk (HS3.out.below hb4)
        have HB4 := Aside0.mk (below_step HB3.out hb4)
        have HBR := Aside0.mk hbr
        clear hb4 hbr HR HS HS3
        cases b
        · clear HBR
          have HPS := Aside0.mk (psteps_any D X (by omega) (by omega) lev w4)
          go_wp2_with fail
          refine HPS.out.mono ?_
          rintro e wa ⟨l, A2, c2, rfl, hc, hc2, hst, hba, hrt, hpos, _, hll⟩
          have HCA := cost_any X A2 c2 l wa (by omega) (by omega) hst (fun s hs => by
            have := (right_pos _ _ hrt s hs).2.2
            rw [List.length_append, data_length, data_length] at this
            omega)
          have hge := HNL.out l hrt
          obtain ⟨y, hy⟩ : ∃ y, costI X.data.toList l = y := ⟨_, rfl⟩
          rw [hy] at HCA hge
          have HCA := Aside0.mk HCA
          have HBA := Aside0.mk (below_step HB4.out hba)
          have hfl := HFL.out
          clear hst hba hrt hpos hy HPS HB4
          go_wp2_with fail
          refine HCA.out.mono ?_
          rintro e wb ⟨rfl, hbb⟩
          go_wp2
          go_ret
          exact ⟨rfl, below_step HBA.out hbb⟩
        · have HRT := Aside0.mk (HBR.out rfl)
          have hft := right_fits (all := D.data.toList ++ X.data.toList) (n := X.data.toList.length) (ah := D.size) (by rw [List.length_append, data_length]) xs 0 HRT.out
          rw [data_length] at hft
          have HLI : Aside0 (∀ w, Steps w A xs → Calls Try.prog 14 #[.string X, .slice A len cap] w fun e w' => e = .returned (.string (toS (litsOf X.data.toList xs 0))) ∧ Drawn0 w w') := ⟨fun w h => by
            have := l12_any X A cap xs w (by omega) (by rw [HX.out]; omega) h hft
            rwa [HX.out] at this⟩
          have hle := lits_le X.data.toList xs 0 (by rw [data_length]; exact hft)
          have hts := toS_size (litsOf X.data.toList xs 0)
          have HCR := cost_right D X xs HRT.out
          have HNX := HNL.out xs HRT.out
          have HCS : Aside0 (∀ w, Steps w A xs → Calls Try.prog 11 #[.string X, .slice A len cap] w fun e w' => e = .returned (.int .i64 (costI X.data.toList xs)) ∧ Below w.heap.size w w') := ⟨fun w h => by
            have := cost_any X A cap xs w (by omega) (by rw [HX.out]; omega) h (fun s hs => by have := bounds_i64 (HW.out s hs).2.1; omega)
            rwa [HX.out] at this⟩
          have hci := costS_in xs
          rw [HX.out] at hci
          have hsp := right_pos xs D.size HRT.out
          obtain ⟨q, hq⟩ : ∃ q, (litsOf X.data.toList xs 0).length = q := ⟨_, rfl⟩
          rw [hq] at hts HCR hle
          rw [data_length] at hle
          obtain ⟨Y, hY⟩ : ∃ Y, toS (litsOf X.data.toList xs 0) = Y := ⟨_, rfl⟩
          rw [hY] at hts HLI
          rw [HCR] at HCS HNX
          have HSP := Aside0.mk hsp
          have HNX := Aside0.mk HNX
          clear HCR hq hY hft hsp HBR
          go_wp2_with fail
          refine (HLI.out w4 HS4.out).mono ?_
          rintro e w5 ⟨rfl, hd⟩
          have HS5 := Aside0.mk (HS4.out.below hd.below)
          have HB5 := Aside0.mk (drawn_below HB4.out hd)
          clear hd HLI HS4
          go_wp2
          clear hts
          go_loopg [10, 46] len (fun gk x y wr => ∃ (k : Nat) (u : Int), Aside0 (k + gk = len ∧ u + costS stN (xs.drop k) = 8 * (q : Int) + costS stN xs ∧ 0 ≤ u) ∧ x = .int .i64 u ∧ y = .int .i64 k ∧ Aside0 (Below w5.heap.size w5 wr))
          case atStart => exact ⟨0, 8 * (q : Int), ⟨by omega, rfl, by omega⟩, rfl, rfl, ⟨Below.refl _ _⟩⟩
          case round =>
            obtain ⟨k, u, HK, rfl, rfl, HB⟩ := hrel
            by_cases hlt : k < len
            · obtain ⟨ad, rfl, hc0, hc1, hc2⟩ := (HS5.out.below HB.out) k (by rw [HX.out]; exact hlt)
              have hu := HK.out.2.1
              have hu0 := HK.out.2.2
              rw [drop_get xs k (by rw [HX.out]; exact hlt)] at hu
              have hmm := HSP.out (xs.getD k (0, 0, 0)) (by rw [List.getD_eq_getElem?_getD, List.getElem?_eq_getElem (by rw [HX.out]; exact hlt)]; exact List.getElem_mem _)
              obtain ⟨s1, s2, s3, hs⟩ : ∃ s1 s2 s3, xs.getD k (0, 0, 0) = (s1, s2, s3) := ⟨_, _, _, rfl⟩
              rw [hs] at hc0 hc1 hc2 hu hmm
              simp only [costS] at hu
              simp only [List.length_append, data_length] at hc0 hc1 hc2 hmm
              rw [← add_add, cell_off _ (by decide)] at hc1 hc2
              obtain ⟨m, rfl⟩ : ∃ m : Nat, s2 = (m : Int) := ⟨s2.toNat, by omega⟩
              obtain ⟨o, rfl⟩ : ∃ o : Nat, s3 = (o : Int) := ⟨s3.toNat, by omega⟩
              simp only [Int.toNat_natCast] at hu
              have hst := stN_in m o
              have hsr := costS_in (xs.drop (k + 1))
              rw [List.length_drop, HX.out] at hsr
              have HST : Aside0 (∀ w, Calls Try.prog 15 #[.int .i64 m, .int .i64 o] w fun e w' => e = .returned (.int .i64 (stN m o)) ∧ w' = w) := ⟨fun w => rstep_any m o (by omega) (by omega) w⟩
              obtain ⟨x, hx⟩ : ∃ x, stN m o = x := ⟨_, rfl⟩
              rw [hx] at hu hst HST
              obtain ⟨r, hr⟩ : ∃ r, costS stN (xs.drop (k + 1)) = r := ⟨_, rfl⟩
              rw [hr] at hu hsr
              have HRR := Aside0.mk hr
              have hb : u + x ≤ 100000000 := by omega
              have HZ : Aside0 ((u + x) + r = 8 * (q : Int) + costS stN xs) := ⟨by omega⟩
              obtain ⟨b1, b2⟩ := hst
              clear hs hx hr hu hsr
              go_wp2_with fail
              refine (HST.out _).mono ?_
              rintro e w6 ⟨rfl, rfl⟩
              go_wp2
              go_roundg (gk - 1)
              case measure => have := HK.out.1; omega
              case rel => exact ⟨k + 1, u + x, ⟨by have := HK.out.1; omega, by rw [HRR.out]; exact HZ.out, by omega⟩, rfl, by go_num, ⟨below_alloc HB.out _⟩⟩
            · have hu : u = 8 * (q : Int) + costS stN xs := by
                have h := HK.out.2.1
                rw [List.drop_of_length_le (by rw [HX.out]; omega)] at h
                simp only [costS] at h
                omega
              rw [← hu] at HNX HCS
              have hnl : ¬ u < z := by have := HNX.out; omega
              have HS6 := Aside0.mk (HS5.out.below HB.out)
              have HB6 := Aside0.mk (below_step HB5.out HB.out)
              have hlk : ¬ (k : Int) < (len : Int) := by omega
              clear hu HB HS5 HB5 hci
              go_wp2_with fail
              refine (HCS.out _ HS6.out).mono ?_
              rintro e w4 ⟨rfl, hb7⟩
              have HB4 := Aside0.mk (below_step HB6.out hb7)
              clear hb7 HB6 HS6 HK
              have HPS := Aside0.mk (psteps_any D X (by omega) (by omega) lev w4)
              go_wp2_with fail
              refine HPS.out.mono ?_
              rintro e wa ⟨l, A2, c2, rfl, hc, hc2, hst, hba, hrt, hpos, _, hll⟩
              have HCA := cost_any X A2 c2 l wa (by omega) (by omega) hst (fun s hs => by
                have := (right_pos _ _ hrt s hs).2.2
                rw [List.length_append, data_length, data_length] at this
                omega)
              have hge := HNL.out l hrt
              obtain ⟨y, hy⟩ : ∃ y, costI X.data.toList l = y := ⟨_, rfl⟩
              rw [hy] at HCA hge
              have HCA := Aside0.mk HCA
              have HBA := Aside0.mk (below_step HB4.out hba)
              have hfl := HFL.out
              clear hst hba hrt hpos hy HPS HB4
              go_wp2_with fail
              refine HCA.out.mono ?_
              rintro e wb ⟨rfl, hbb⟩
              go_wp2
              go_ret
              exact ⟨rfl, below_step HBA.out hbb⟩
end Go.Proofs.Ytfijbhacobjjgad
