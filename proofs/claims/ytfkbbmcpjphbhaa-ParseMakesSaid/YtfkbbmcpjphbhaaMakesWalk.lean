/- ParseMakes: the walk. -/
import Derived.Test.YtfkbbmcpjphbhaaProg
import Derived.Test.YtfkbbmcpjphbhaaVals
import Derived.Test.YtfkbbmcpjphbhaaWLast
import Derived.Test.YtfkbbmcpjphbhaaWMore
import Derived.RegionTactic
import Derived.ChangeAlike
import Derived.BigRegion
import Derived.WalkLawsBesides
import Derived.WalkSpells
import Derived.Deep.LoopGhost
import Derived.Deep.QuietTactic
import Derived.BigQuiet
import Derived.OwnWalk
import Derived.Test.YtfkbbmcpjphbhaaAwakeA
import Derived.Test.YtfkbbmcpjphbhaaRightB
import Derived.OpenShut
namespace Go.Proofs.Ytfkbbmcpjphbhaa
open Go.RowKit Go.Proofs.YtfkbbmcpjphbhaaW.PrintWords Go.Proofs.YtfkbbmcpjphbhaaW.PrintLast Go.Proofs.YtfkbbmcpjphbhaaW.PrintMore Go.Proofs.Ytfkbbmcpjphbhaa.Fr
set_option linter.unusedVariables false
set_option linter.unusedSimpArgs false
attribute [local go_sem] max2_int min2_int max_two min_two

open Pl
def msum : List Stp → Int
  | [] => 0
  | s :: r => s.2.1 + msum r
theorem msum_fits (t : Bs) : ∀ (l : List Stp) (a : Nat), a ≤ t.length → fits t.length l a → ((litsOf t l a).length : Int) + msum l = (t.length : Int) - a ∧ 0 ≤ msum l
  | [], a, h, _ => by simp only [litsOf, msum, List.length_drop]; omega
  | s :: r, a, h, hf => by
    obtain ⟨h1, h2, h3, h4⟩ := hf
    have := msum_fits t r (a + s.1.toNat + s.2.1.toNat) (by omega) h4
    simp only [litsOf, msum, List.length_append, List.length_take, List.length_drop]
    omega
theorem msum_take : ∀ (l : List Stp) (k : Nat), (∀ s ∈ l, 0 ≤ s.2.1) → 0 ≤ msum (l.drop k) ∧ msum (l.drop k) ≤ msum l
  | [], k, _ => by simp [msum]
  | s :: r, 0, h => by
    have h1 := h s (List.mem_cons_self ..)
    have := msum_take r 0 (fun x hx => h x (List.mem_cons_of_mem _ hx))
    rw [List.drop_zero] at this ⊢
    simp only [msum]
    omega
  | s :: r, k + 1, h => by
    have h1 := h s (List.mem_cons_self ..)
    have := msum_take r k (fun x hx => h x (List.mem_cons_of_mem _ hx))
    rw [List.drop_succ_cons]
    simp only [msum]
    omega
theorem right_pos {all : Bs} : ∀ (l : List Stp) (a : Nat), right all l a → ∀ s ∈ l, 0 ≤ s.2.1
  | [], _, _, s, hs => by cases hs
  | x :: r, a, h, s, hs => by
    obtain ⟨h1, _, h3⟩ := h
    unfold okStep at h1
    rcases List.mem_cons.1 hs with rfl | hs
    · omega
    · exact right_pos r _ h3 s hs
set_option maxRecDepth 100000 in
set_option maxHeartbeats 4000000 in
theorem makes_walk (D : ByteArray) (hD : D.size ≤ 140737488351232) (X : ByteArray) (hX : X.size ≤ 140737488351232) (lev : Int) (hlev : (Lit.int .i64 lev).wf = true) (w : World) :
    Calls Try.prog 3 #[.string D, .string X, .int .i64 lev] w fun e w' => e = .returned (.bool true) ∧ Below w.heap.size w w' := by
  clear hlev
  by_cases h1 : 300 < D.size
  · have h2 : (300 : Int) < (D.size : Int) := by omega
    go_enter Try.func3, Try.ntmps3
    go_wp2_with fail
    refine (awake_any w).mono ?_
    rintro e w1 ⟨rfl, hb1⟩
    go_wp2
    go_ret
    exact ⟨rfl, hb1⟩
  · have h2 : ¬ (300 : Int) < (D.size : Int) := by omega
    by_cases h3 : 300 < X.size
    · have h4 : (300 : Int) < (X.size : Int) := by omega
      go_enter Try.func3, Try.ntmps3
      go_wp2_with fail
      refine (awake_any w).mono ?_
      rintro e w1 ⟨rfl, hb1⟩
      go_wp2
      go_ret
      exact ⟨rfl, hb1⟩
    · have h4 : ¬ (300 : Int) < (X.size : Int) := by omega
      have hD3 : D.size ≤ 300 := by omega
      have hX3 : X.size ≤ 300 := by omega
      have HS := Aside0.mk (fun w => psteps_any D X (by omega) (by omega) lev w)
      have d3 : decide ((300 : Int) < (D.size : Int)) = false := decide_eq_false h2
      have d4 : decide ((300 : Int) < (X.size : Int)) = false := decide_eq_false h4
      go_enter Try.func3, Try.ntmps3
      go_wp2_with fail
      refine (awake_any w).mono ?_
      rintro e w1 ⟨rfl, hb1⟩
      have HB1 := Aside0.mk hb1
      clear hb1
      go_wp2_with fail
      refine (HS.out _).mono ?_
      rintro e w2 ⟨l, A, c, rfl, hc, hc2, hst, hb2, hrt, hps1, hlz, hll, hps⟩
      clear hps hps1
      have HB2 := Aside0.mk (below_step HB1.out hb2)
      have HR12 : Aside0 (∀ w, Steps w A l → Calls Try.prog 6 #[.string D, .string X, .slice A l.length c] w fun e w' => e = .returned (.bool true) ∧ Below w.heap.size w w') := ⟨fun w h => r12_any D X A c l w (by omega) (by omega) (by omega) h hrt⟩
      have HPR : Aside0 (∀ w, Steps w A l → Calls Try.prog 7 #[.string D, .string X, .slice A l.length c] w fun e w' => e = .returned (.bool true) ∧ Below w.heap.size w w') := ⟨fun w h => pright_any D X A c l w (by omega) (by omega) (by omega) h hrt⟩
      have hft := right_fits (all := D.data.toList ++ X.data.toList) (n := X.data.toList.length) (ah := D.size) (by rw [List.length_append, data_length]) l 0 hrt
      have hlc := litC_fits X.data.toList l 0 hft
      rw [List.drop_zero] at hlc
      have hms := msum_fits X.data.toList l 0 (Nat.zero_le _) hft
      rw [data_length] at hft hms
      have HLI : Aside0 (∀ w, Steps w A l → Calls Try.prog 9 #[.string X, .slice A l.length c] w fun e w' => e = .returned (.string (toS (litsOf X.data.toList l 0))) ∧ Drawn0 w w') := ⟨fun w h => l12_any X A c l w (by omega) (by omega) h hft⟩
      have HPL : Aside0 (∀ w, Steps w A l → Calls Try.prog 8 #[.string X, .slice A l.length c] w fun e w' => e = .returned (.string (toS (litsOf X.data.toList l 0))) ∧ Below w.heap.size w w') := ⟨fun w h => by
        have := plits_any X A c l w (by omega) (by omega) h
        rwa [hlc] at this⟩
      have hts := toS_size (litsOf X.data.toList l 0)
      have HMT := Aside0.mk (msum_take l · (right_pos l _ hrt))
      have HMP := Aside0.mk (right_pos l _ hrt)
      obtain ⟨q, hq⟩ : ∃ q, (litsOf X.data.toList l 0).length = q := ⟨_, rfl⟩
      rw [hq] at hts hms
      obtain ⟨Y, hY⟩ : ∃ Y, toS (litsOf X.data.toList l 0) = Y := ⟨_, rfl⟩
      rw [hY] at hts HLI HPL
      obtain ⟨M, hM⟩ : ∃ M, msum l = M := ⟨_, rfl⟩
      rw [hM] at hms HMT
      have HM := Aside0.mk hM
      have HST := Aside0.mk hst
      have HLV : Aside0 (lev ≤ 0 → l.length = 0) := ⟨fun h => by rw [hlz h]; rfl⟩
      have HTS := Aside0.mk hts
      obtain ⟨hms1, hms2⟩ := hms
      clear hst hb2 hrt hlz hft hlc hq hY hM hts HS HB1
      go_wp2_with fail
      refine (HR12.out w2 HST.out).mono ?_
      rintro e w3 ⟨rfl, hb3⟩
      have HST3 := Aside0.mk (HST.out.below hb3)
      have HB3 := Aside0.mk (below_step HB2.out hb3)
      clear hb3 HR12
      go_wp2_with fail
      refine (HPR.out w3 HST3.out).mono ?_
      rintro e w4 ⟨rfl, hb4⟩
      have HST4 := Aside0.mk (HST3.out.below hb4)
      have HB4 := Aside0.mk (below_step HB3.out hb4)
      clear hb4 HPR
      by_cases hl0 : lev ≤ 0
      · have hlen := HLV.out hl0
        have hll0 : ¬ (0 : Int) < (l.length : Int) := by omega
        have e0 : decide (lev ≤ 0) = true := decide_eq_true hl0
        have e1 : decide ((0 : Int) < (l.length : Int)) = false := decide_eq_false hll0
        have HLL := Aside0.mk hlen
        obtain ⟨ln, hln⟩ : ∃ ln, l.length = ln := ⟨_, rfl⟩
        rw [hln] at hll0 e1 hll HPL HLI
        rw [hln]
        have HN := Aside0.mk hln
        clear hlen hln hl0 HLV
        go_wp2
        go_loopg [8, 49] ln (fun gk x y wr => ∃ (k : Nat) (u : Int), Aside0 (k + gk = ln ∧ u + msum (l.drop k) = M) ∧ x = .int .i64 u ∧ y = .int .i64 k ∧ Aside0 (Below w4.heap.size w4 wr))
        case atStart => exact ⟨0, 0, ⟨by omega, by rw [List.drop_zero, HM.out]; omega⟩, rfl, rfl, ⟨Below.refl _ _⟩⟩
        case round =>
          obtain ⟨k, u, HK, rfl, rfl, HB⟩ := hrel
          by_cases hlt : k < ln
          · exfalso; omega
          · have hu : u = M := by
              have h := HK.out.2
              rw [List.drop_of_length_le (by rw [HN.out]; omega)] at h
              simp only [msum] at h
              omega
            subst hu
            have HST5 := Aside0.mk (HST4.out.below HB.out)
            have HB5 := Aside0.mk (below_step HB4.out HB.out)
            have hlk : ¬ (k : Int) < (ln : Int) := by omega
            have hsum : (((q : Int) + u) == (X.size : Int)) = true := by simp; omega
            clear HB HK
            go_wp2_with fail
            refine (HPL.out _ HST5.out).mono ?_
            rintro e w6 ⟨rfl, hb6⟩
            have HST6 := Aside0.mk (HST5.out.below hb6)
            have HB6 := Aside0.mk (below_step HB5.out hb6)
            clear hb6 HPL
            go_wp2_with fail
            refine (HLI.out _ HST6.out).mono ?_
            rintro e w7 ⟨rfl, hd⟩
            have HB7 := Aside0.mk (drawn_below HB6.out hd)
            have hts := HTS.out
            clear hd HLI
            go_wp2
            go_ret
            exact ⟨rfl, HB7.out⟩
      · have e0 : decide (lev ≤ 0) = false := decide_eq_false hl0
        obtain ⟨ln, hln⟩ : ∃ ln, l.length = ln := ⟨_, rfl⟩
        rw [hln] at hll HPL HLI
        rw [hln]
        have HN := Aside0.mk hln
        clear hln HLV
        go_wp2
        go_loopg [8, 49] ln (fun gk x y wr => ∃ (k : Nat) (u : Int), Aside0 (k + gk = ln ∧ u + msum (l.drop k) = M) ∧ x = .int .i64 u ∧ y = .int .i64 k ∧ Aside0 (Below w4.heap.size w4 wr))
        case atStart => exact ⟨0, 0, ⟨by omega, by rw [List.drop_zero, HM.out]; omega⟩, rfl, rfl, ⟨Below.refl _ _⟩⟩
        case round =>
          obtain ⟨k, u, HK, rfl, rfl, HB⟩ := hrel
          by_cases hlt : k < ln
          · obtain ⟨ad, rfl, hc0, hc1, hc2⟩ := (HST4.out.below HB.out) k (by rw [HN.out]; exact hlt)
            have hu := HK.out.2
            have hmk := HMT.out k
            have hmk1 := HMT.out (k + 1)
            rw [drop_get l k (by rw [HN.out]; exact hlt)] at hu hmk
            have hmm := HMP.out (l.getD k (0, 0, 0)) (by rw [List.getD_eq_getElem?_getD, List.getElem?_eq_getElem (by rw [HN.out]; exact hlt)]; exact List.getElem_mem _)
            obtain ⟨s1, s2, s3, hs⟩ : ∃ s1 s2 s3, l.getD k (0, 0, 0) = (s1, s2, s3) := ⟨_, _, _, rfl⟩
            rw [hs] at hc0 hc1 hc2 hu hmm hmk
            simp only [msum] at hu hmk
            simp only at hc0 hc1 hc2 hmm
            rw [← add_add, cell_off _ (by decide)] at hc1 hc2
            obtain ⟨r, hr⟩ : ∃ r, msum (l.drop (k + 1)) = r := ⟨_, rfl⟩
            rw [hr] at hu hmk hmk1
            have HRR := Aside0.mk hr
            have HZ : Aside0 ((u + s2) + r = M) := ⟨by omega⟩
            have b1 : 0 ≤ u + s2 := by omega
            have b2 : u + s2 ≤ 1000 := by omega
            clear hs hr hu hmk hmk1
            go_wp2
            go_roundg (gk - 1)
            case measure => have := HK.out.1; omega
            case rel => exact ⟨k + 1, u + s2, ⟨by have := HK.out.1; omega, by rw [HRR.out]; exact HZ.out⟩, rfl, by go_num, ⟨below_alloc HB.out _⟩⟩
          · have hu : u = M := by
              have h := HK.out.2
              rw [List.drop_of_length_le (by rw [HN.out]; omega)] at h
              simp only [msum] at h
              omega
            subst hu
            have HST5 := Aside0.mk (HST4.out.below HB.out)
            have HB5 := Aside0.mk (below_step HB4.out HB.out)
            have hlk : ¬ (k : Int) < (ln : Int) := by omega
            have hsum : (((q : Int) + u) == (X.size : Int)) = true := by simp; omega
            clear HB HK
            go_wp2_with fail
            refine (HPL.out _ HST5.out).mono ?_
            rintro e w6 ⟨rfl, hb6⟩
            have HST6 := Aside0.mk (HST5.out.below hb6)
            have HB6 := Aside0.mk (below_step HB5.out hb6)
            clear hb6 HPL
            go_wp2_with fail
            refine (HLI.out _ HST6.out).mono ?_
            rintro e w7 ⟨rfl, hd⟩
            have HB7 := Aside0.mk (drawn_below HB6.out hd)
            have hts := HTS.out
            clear hd HLI
            go_wp2
            go_ret
            exact ⟨rfl, HB7.out⟩
end Go.Proofs.Ytfkbbmcpjphbhaa
