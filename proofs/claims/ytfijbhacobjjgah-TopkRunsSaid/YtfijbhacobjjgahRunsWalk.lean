/- The walk of TopkRuns: it answers true. -/
import Derived.Test.YtfijbhacobjjgahDeedsOpen
import Derived.Deep.CutBlock
namespace Go.Proofs.Ytfijbhacobjjgah
open Go.RowKit Go.Proofs.YtfijbhacobjjgahW.PrintWords Go.Proofs.YtfijbhacobjjgahW.PrintLast Go.Proofs.YtfijbhacobjjgahW.PrintMore Go.Proofs.Ytfijbhacobjjgah.Fr
set_option linter.unusedVariables false
set_option linter.unusedSimpArgs false
attribute [local go_sem] max2_int min2_int max_two min_two

open Pl Hp
set_option maxHeartbeats 8000000 in
set_option maxRecDepth 100000 in
theorem runs_walk (rm : Int) (hrm : (Lit.int .i64 rm).wf = true) (A : Option Addr) (len ca : Nat) (w0 : World) (hd : IsDeeds w0 A len ca) :
    Calls Try.prog 3 #[.int .i64 rm, .slice A len ca] w0 fun e w' => e = .returned (.bool true) ∧ Below w0.heap.size w0 w' := by
  obtain ⟨hcap, hds⟩ := hd
  have HB := Aside0.mk (Below.refl w0.heap.size w0)
  clear hrm
  by_cases hbig : 100 < len
  · go_enter Try.func3, Try.ntmps3
    go_wp2_with ((go_at_call 6; refine (awake_any _).mono ?_; rintro e w1 ⟨rfl, hb⟩; have zz_HB := Aside0.mk (below_step HB.out hb); clear HB; have HB := zz_HB; clear zz_HB; clear hb))
    go_ret
    exact ⟨rfl, HB.out⟩
  have hl100 : len ≤ 100 := by omega
  have HD := Aside0.mk hds
  clear hds hbig
  go_enter Try.func3, Try.ntmps3
  go_wp2_with ((go_at_call 6; refine (awake_any _).mono ?_; rintro e w1 ⟨rfl, hb⟩; have zz_HB := Aside0.mk (below_step HB.out hb); clear HB; have HB := zz_HB; clear zz_HB; clear hb))
  refine (new_any rm w1).mono ?_
  rintro e w2 ⟨g, md, room1, hroom, rfl, hs, hb⟩
  have HX : Aside0 (TB w0.heap.size w2 g md room1 (.map []) [] ∧ Below w0.heap.size w0 w2 ∧ (room1 : Int) = brI rm 1 1000 ∧ room1 ≤ 1000) := ⟨{ hs with lo := Nat.le_trans HB.out.size hs.lo, lom := Nat.le_trans HB.out.size hs.lom }, below_step HB.out hb, hroom, hs.r1⟩
  clear hs hb HB hroom
  go_wp2_with fail
  refine (rnew_any rm w2).mono ?_
  rintro e w3 ⟨b, room, hroom2, rfl, hs, hb⟩
  have hrr : room = room1 := by have := HX.out.2.2.1; omega
  subst hrr
  have HT := Aside0.mk (duo_start HX.out.1 HX.out.2.1 hs hb)
  have HRM := Aside0.mk HX.out.2.2.2
  clear hs hb HX hroom2
  go_wp2_with fail
  go_loopg [23] len (fun d x23 wr => ∃ (k : Nat) (L : List It), Aside0 (k + d = len) ∧ x23 = .int .i64 k ∧ Aside0 (WL room L ∧ room ≤ 1000) ∧ Aside0 (Duo w0.heap.size w0 none (XT w0.heap.size g md room L) (YT w0.heap.size b room L) wr))
  case atStart => exact ⟨0, [], ⟨by omega⟩, rfl, ⟨WL.nil _, HRM.out⟩, HT⟩
  case round =>
    clear HT
    obtain ⟨k, L, HK, rfl, HM, HT⟩ := hrel
    by_cases hlt : k < len
    · obtain ⟨⟨kd, nn, s⟩, hx, hk0, hk1, hwn⟩ := HD.out k hlt
      obtain ⟨ad, rfl, hc0, hc1, hc2⟩ := hx.below HT.out.bel
      clear hx
      simp only at hc0 hc1 hc2 hk0 hk1 hwn
      rw [cell_off _ (by decide)] at hc1 hc2
      have hk2 : k < 100 := by omega
      by_cases h20 : 20 < s.size
      · have h3 : (20 : Int) < (s.size : Int) := by omega
        go_wp2
        go_ret
        exact ⟨rfl, below_alloc HT.out.bel _⟩
      have h3 : (s.size : Int) ≤ 20 := by omega
      have HSZ : Aside0 (s.size ≤ 20) := ⟨by omega⟩
      have HQ := Aside0.mk hwn
      clear hwn h20
      go_upto_block 2 with fail
      have hal := HT.out.with fam_xt fam_yt (.cells #[.int .u8 kd, .int .i64 nn, .string s] 29)
      have zz_HT := Aside0.mk (hal); clear HT; have HT := zz_HT; clear zz_HT
      clear hal hc0 hc1 hc2
      generalize wr.alloc (.cells #[.int .u8 kd, .int .i64 nn, .string s] 29) = W1 at HT ⊢
      generalize wr.heap.size = gx at HT ⊢
      go_cut [9] from 34 to 71 (fun x9 W2 => x9 = .bool true ∧ ∃ (L : List It), Aside0 (WL room L ∧ room ≤ 1000) ∧ Aside0 (Duo w0.heap.size w0 (some (gx, (.cells #[.int .u8 kd, .int .i64 nn, .string s] 29 (0, 0)))) (XT w0.heap.size g md room L) (YT w0.heap.size b room L) W2))
      case first =>
        have cx1 : W1.cell? ⟨gx, 1, none⟩ = some (.int .i64 nn) := (blk_cell HT.out.box 1).trans rfl
        have hm : kd % 4 = 0 ∨ kd % 4 = 1 ∨ kd % 4 = 2 ∨ kd % 4 = 3 := by omega
        have ht5 : kd.tmod 4 = kd % 4 := Int.tmod_eq_emod_of_nonneg hk0
        have PIN := Aside0.mk HT.out.pin
        rcases hm with hm | hm | hm | hm
        · have hq0 : (kd % 4 == 0) = true := beq_iff_eq.2 (by omega)
          have pq0 : (kd.tmod 4 == 0) = true := beq_iff_eq.2 (by rw [ht5]; omega)
          clear hm hk0 hk1 ht5
          obtain ⟨FX, FY, _, _, hp⟩ := PIN.out
          have HP := Aside0.mk hp
          clear hp PIN cx1
          go_upto_region 15 with fail
          go_wp2
          refine St.steadyG (n := 14) (by kernel_rfl) ([] :: [] :: [(1, 38)] :: [] :: [(3, 40)] :: [(0, 37), (2, 39), (4, 41)] :: [] :: [] :: [(7, 44)] :: [] :: [(9, 46)] :: [(6, 43), (8, 45), (10, 47)] :: [(5, 42), (11, 48)] :: [(12, 49)] :: []) (some 37 :: some 38 :: some 39 :: some 40 :: some 41 :: some 42 :: some 43 :: some 44 :: some 45 :: some 46 :: some 47 :: some 48 :: some 49 :: some 9 :: []) (by kernel_rfl) ((St.eqT ?c15_0x15) :: (St.eqT ?c15_1x15) :: (St.eqT ?c15_2x15) :: (St.eqT ?c15_3x15) :: (St.eqT ?c15_4x15) :: (St.eqT ?c15_5x15) :: (St.eqT ?c15_6x15) :: (St.eqT ?c15_7x15) :: (St.eqT ?c15_8x15) :: (St.eqT ?c15_9x15) :: (St.eqT ?c15_10x15) :: (St.eqT ?c15_11x15) :: (St.eqT (.bool true)) :: (St.eqT ?c15_13x15) :: []) rfl (by rfl) (fun fl w' => Gd w0.heap.size w0 (some (gx, (.cells #[.int .u8 kd, .int .i64 nn, .string s] 29 (0, 0)))) (XT w0.heap.size g md room L) (XT w0.heap.size g md room (addL room s nn L).1) (YT w0.heap.size b room L) (YT w0.heap.size b room (addL room s nn L).1) FX FY (fl 5) (fl 11) w') (fun i wa wb => (i = 5 → Turned (XT w0.heap.size g md room (addL room s nn L).1) FX wa wb) ∧ (i = 11 → Turned (YT w0.heap.size b room (addL room s nn L).1) FY wa wb) ∧ (i ≠ 5 → i ≠ 11 → Below wa.heap.size wa wb)) ?hst ?h0 (fun i w' => ∃ p q, Gd w0.heap.size w0 (some (gx, (.cells #[.int .u8 kd, .int .i64 nn, .string s] 29 (0, 0)))) (XT w0.heap.size g md room L) (XT w0.heap.size g md room (addL room s nn L).1) (YT w0.heap.size b room L) (YT w0.heap.size b room (addL room s nn L).1) FX FY p q w' ∧ (i = 5 → p = false) ∧ (i = 11 → q = false)) ?hB ?hG ?hop ?hend
          case hop =>
            refine ⟨?_, ?_, ?_, ?_, ?_, ?_, ?_, ?_, ?_, ?_, ?_, ?_, ?_, ?_, trivial⟩
            · intro w hB
              simp only [St.withD]
              refine St.ob_value (v := ?_) (w' := w) (by rfl) ?_ ⟨⟨fun e => absurd e (by decide), fun e => absurd e (by decide), fun _ _ => Below.refl _ _⟩, ?_⟩
              rotate_left
              · go_simp
                with_reducible rfl
              · rfl
            · intro w hB
              simp only [St.withD]
              refine St.ob_value (v := ?_) (w' := w) (by rfl) ?_ ⟨⟨fun e => absurd e (by decide), fun e => absurd e (by decide), fun _ _ => Below.refl _ _⟩, ?_⟩
              rotate_left
              · go_simp
                with_reducible rfl
              · rfl
            · intro w hB; rintro _ ⟨_, rfl⟩
              simp only [St.withD, List.nil_append, List.cons_append, Act.put, List.setIfInBounds_toArray, List.set_cons_zero, List.set_cons_succ]
              have hbox := hB.choose_spec.choose_spec.1.box
              have cx1 : w.cell? ⟨gx, 1, none⟩ = some (.int .i64 nn) := (blk_cell hbox 1).trans rfl
              have cx2 : w.cell? ⟨gx, 2, none⟩ = some (.string s) := (blk_cell hbox 2).trans rfl
              refine St.ob_value (v := ?_) (w' := w) (by rfl) ?_ ⟨⟨fun e => absurd e (by decide), fun e => absurd e (by decide), fun _ _ => Below.refl _ _⟩, ?_⟩
              rotate_left
              · go_simp
                with_reducible rfl
              · rfl
            · intro w hB
              simp only [St.withD]
              refine St.ob_value (v := ?_) (w' := w) (by rfl) ?_ ⟨⟨fun e => absurd e (by decide), fun e => absurd e (by decide), fun _ _ => Below.refl _ _⟩, ?_⟩
              rotate_left
              · go_simp
                with_reducible rfl
              · rfl
            · intro w hB; rintro _ ⟨_, rfl⟩
              simp only [St.withD, List.nil_append, List.cons_append, Act.put, List.setIfInBounds_toArray, List.set_cons_zero, List.set_cons_succ]
              have hbox := hB.choose_spec.choose_spec.1.box
              have cx1 : w.cell? ⟨gx, 1, none⟩ = some (.int .i64 nn) := (blk_cell hbox 1).trans rfl
              have cx2 : w.cell? ⟨gx, 2, none⟩ = some (.string s) := (blk_cell hbox 2).trans rfl
              refine St.ob_value (v := ?_) (w' := w) (by rfl) ?_ ⟨⟨fun e => absurd e (by decide), fun e => absurd e (by decide), fun _ _ => Below.refl _ _⟩, ?_⟩
              rotate_left
              · go_simp
                with_reducible rfl
              · rfl
            · intro w hB; rintro _ ⟨_, rfl⟩ _ ⟨_, rfl⟩ _ ⟨_, rfl⟩
              simp only [St.withD, List.nil_append, List.cons_append, Act.put, List.setIfInBounds_toArray, List.set_cons_zero, List.set_cons_succ]
              obtain ⟨p, q, hR, hp3, _⟩ := hB
              have e := hp3 rfl
              subst e
              have hRB := Gd.hB hR
              refine St.ob_call Try.func9 (by kernel_rfl) rfl #[.pointer (some ⟨g, 0, none⟩), .string s, .int .i64 nn] (by rfl) rfl (by (try simp only [List.map_toArray, List.map_cons, List.map_nil]); first | done | rfl | (simp only [List.length_drop, List.length_take]; rfl)) ?_
              refine (add_x s HSZ.out nn (Duo.getX hR)).mono ?_
              rintro e w1 ⟨rfl, ht⟩
              refine ⟨_, rfl, ⟨fun _ => ht, fun e => absurd e (by decide), fun e => absurd rfl e⟩, ?_⟩
              rfl
            · intro w hB
              simp only [St.withD]
              refine St.ob_value (v := ?_) (w' := w) (by rfl) ?_ ⟨⟨fun e => absurd e (by decide), fun e => absurd e (by decide), fun _ _ => Below.refl _ _⟩, ?_⟩
              rotate_left
              · go_simp
                with_reducible rfl
              · rfl
            · intro w hB
              simp only [St.withD]
              refine St.ob_value (v := ?_) (w' := w) (by rfl) ?_ ⟨⟨fun e => absurd e (by decide), fun e => absurd e (by decide), fun _ _ => Below.refl _ _⟩, ?_⟩
              rotate_left
              · go_simp
                with_reducible rfl
              · rfl
            · intro w hB; rintro _ ⟨_, rfl⟩
              simp only [St.withD, List.nil_append, List.cons_append, Act.put, List.setIfInBounds_toArray, List.set_cons_zero, List.set_cons_succ]
              have hbox := hB.choose_spec.choose_spec.1.box
              have cx1 : w.cell? ⟨gx, 1, none⟩ = some (.int .i64 nn) := (blk_cell hbox 1).trans rfl
              have cx2 : w.cell? ⟨gx, 2, none⟩ = some (.string s) := (blk_cell hbox 2).trans rfl
              refine St.ob_value (v := ?_) (w' := w) (by rfl) ?_ ⟨⟨fun e => absurd e (by decide), fun e => absurd e (by decide), fun _ _ => Below.refl _ _⟩, ?_⟩
              rotate_left
              · go_simp
                with_reducible rfl
              · rfl
            · intro w hB
              simp only [St.withD]
              refine St.ob_value (v := ?_) (w' := w) (by rfl) ?_ ⟨⟨fun e => absurd e (by decide), fun e => absurd e (by decide), fun _ _ => Below.refl _ _⟩, ?_⟩
              rotate_left
              · go_simp
                with_reducible rfl
              · rfl
            · intro w hB; rintro _ ⟨_, rfl⟩
              simp only [St.withD, List.nil_append, List.cons_append, Act.put, List.setIfInBounds_toArray, List.set_cons_zero, List.set_cons_succ]
              have hbox := hB.choose_spec.choose_spec.1.box
              have cx1 : w.cell? ⟨gx, 1, none⟩ = some (.int .i64 nn) := (blk_cell hbox 1).trans rfl
              have cx2 : w.cell? ⟨gx, 2, none⟩ = some (.string s) := (blk_cell hbox 2).trans rfl
              refine St.ob_value (v := ?_) (w' := w) (by rfl) ?_ ⟨⟨fun e => absurd e (by decide), fun e => absurd e (by decide), fun _ _ => Below.refl _ _⟩, ?_⟩
              rotate_left
              · go_simp
                with_reducible rfl
              · rfl
            · intro w hB; rintro _ ⟨_, rfl⟩ _ ⟨_, rfl⟩ _ ⟨_, rfl⟩
              simp only [St.withD, List.nil_append, List.cons_append, Act.put, List.setIfInBounds_toArray, List.set_cons_zero, List.set_cons_succ]
              obtain ⟨p, q, hR, _, hp7⟩ := hB
              have e := hp7 rfl
              subst e
              have hRB := Gd.hB hR
              refine St.ob_call Try.func10 (by kernel_rfl) rfl #[.pointer (some ⟨b, 0, none⟩), .string s, .int .i64 nn] (by rfl) rfl (by (try simp only [List.map_toArray, List.map_cons, List.map_nil]); first | done | rfl | (simp only [List.length_drop, List.length_take]; rfl)) ?_
              refine (add_y s nn (Duo.getY hR) hRB HM.out.1 HM.out.2).mono ?_
              rintro e w1 ⟨rfl, ht⟩
              refine ⟨_, rfl, ⟨fun e => absurd e (by decide), fun _ => ht, fun _ e => absurd rfl e⟩, ?_⟩
              rfl
            · intro w hB; rintro _ ⟨_, rfl⟩ _ ⟨_, rfl⟩
              simp only [St.withD, List.nil_append, List.cons_append, Act.put, List.setIfInBounds_toArray, List.set_cons_zero, List.set_cons_succ]
              clear hB
              have hbb : ((addL room s nn L).2 == (addL room s nn L).2) = true := by simp
              refine St.ob_value (v := .bool true) (w' := w) (by rfl) ?_ ⟨⟨fun e => absurd e (by decide), fun e => absurd e (by decide), fun _ _ => Below.refl _ _⟩, rfl⟩
              go_simp
            · intro w hB; rintro _ ⟨_, rfl⟩
              simp only [St.withD, List.nil_append, List.cons_append, Act.put, List.setIfInBounds_toArray, List.set_cons_zero, List.set_cons_succ]
              refine St.ob_value (v := ?_) (w' := w) (by rfl) ?_ ⟨⟨fun e => absurd e (by decide), fun e => absurd e (by decide), fun _ _ => Below.refl _ _⟩, ?_⟩
              rotate_left
              · go_simp
                with_reducible rfl
              · rfl
          case hst =>
            intro i j fl hi hj _ _ _ ds v wa wb ht _
            refine St.sts_get (Rel := fun _ _ _ => True) 0 _ j (by simpa using hj) ?_ ds v wa wb ht trivial
            exact ⟨St.eqT_st, St.eqT_st, St.eqT_st, St.eqT_st, St.eqT_st, St.eqT_st, St.eqT_st, St.eqT_st, St.eqT_st, St.eqT_st, St.eqT_st, St.eqT_st, St.eqT_st, St.eqT_st, trivial⟩
          case h0 => exact Gd.from (p := false) (q := false) HP.out fam_xt fam_xt fam_yt fam_yt (below_drew1 (Below.refl _ _))
          case hB => exact (by
            intro i fl w' hi hfi _ hcl hG
            refine ⟨_, _, hG, ?_, ?_⟩
            · exact fun e => by subst e; exact hfi
            · exact fun e => by subst e; exact hfi)
          case hG => (
            intro i fl wa wb hi hfi _ _ hG hR
            by_cases h3 : i = 5
            · subst h3
              rw [hfi] at hG
              have hk := Gd.left hG fam_xt fam_yt fam_yt (hR.1 rfl)
              simpa [St.upB] using hk
            · by_cases h7 : i = 11
              · subst h7
                rw [hfi] at hG
                have hk := Gd.right hG fam_xt fam_xt fam_yt (hR.2.1 rfl)
                simpa [St.upB] using hk
              · have e := Gd.from hG fam_xt fam_xt fam_yt fam_yt (hR.2.2 h3 h7)
                have e3 : St.upB fl i 5 = fl 5 := by unfold St.upB; rw [if_neg (Ne.symm h3)]
                have e7 : St.upB fl i 11 = fl 11 := by unfold St.upB; rw [if_neg (Ne.symm h7)]
                simpa only [e3, e7] using e)
          case hend =>
            intro fl w hall hB
            rintro _ rfl _ rfl _ rfl _ rfl _ rfl _ rfl _ rfl _ rfl _ rfl _ rfl _ rfl _ rfl _ rfl _ rfl
            simp only [List.map_cons, List.map_nil, List.nil_append, List.cons_append, List.getD_cons_zero, List.getD_cons_succ, Act.put, List.setIfInBounds_toArray, List.set_cons_zero, List.set_cons_succ]
            rw [St.withE_nil]
            have HT : Aside0 (Duo w0.heap.size w0 (some (gx, (.cells #[.int .u8 kd, .int .i64 nn, .string s] 29 (0, 0)))) (XT w0.heap.size g md room (addL room s nn L).1) (YT w0.heap.size b room (addL room s nn L).1) w) := ⟨by have h3 := hall 5 (by decide); have h7 := hall 11 (by decide); rw [h3, h7] at hB; exact hB⟩
            clear hB hall HP
            go_wp2_with fail
            go_meet
            case rel => exact ⟨rfl, _, ⟨HM.out.1.add s nn, HM.out.2⟩, HT⟩
        · have hq0 : (kd % 4 == 0) = false := beq_eq_false_iff_ne.2 (by omega)
          have pq0 : (kd.tmod 4 == 0) = false := beq_eq_false_iff_ne.2 (by rw [ht5]; omega)
          have hq1 : (kd % 4 == 1) = true := beq_iff_eq.2 (by omega)
          have pq1 : (kd.tmod 4 == 1) = true := beq_iff_eq.2 (by rw [ht5]; omega)
          clear hm hk0 hk1 ht5
          obtain ⟨FX, FY, _, _, hp⟩ := PIN.out
          have HP := Aside0.mk hp
          clear hp PIN cx1
          go_upto_region 15 with fail
          go_wp2
          refine St.steadyG (n := 14) (by kernel_rfl) ([] :: [] :: [(1, 38)] :: [] :: [(3, 40)] :: [(0, 37), (2, 39), (4, 41)] :: [] :: [] :: [(7, 44)] :: [] :: [(9, 46)] :: [(6, 43), (8, 45), (10, 47)] :: [(5, 42), (11, 48)] :: [(12, 49)] :: []) (some 37 :: some 38 :: some 39 :: some 40 :: some 41 :: some 42 :: some 43 :: some 44 :: some 45 :: some 46 :: some 47 :: some 48 :: some 49 :: some 9 :: []) (by kernel_rfl) ((St.eqT ?c15_0x16) :: (St.eqT ?c15_1x16) :: (St.eqT ?c15_2x16) :: (St.eqT ?c15_3x16) :: (St.eqT ?c15_4x16) :: (St.eqT ?c15_5x16) :: (St.eqT ?c15_6x16) :: (St.eqT ?c15_7x16) :: (St.eqT ?c15_8x16) :: (St.eqT ?c15_9x16) :: (St.eqT ?c15_10x16) :: (St.eqT ?c15_11x16) :: (St.eqT (.bool true)) :: (St.eqT ?c15_13x16) :: []) rfl (by rfl) (fun fl w' => Gd w0.heap.size w0 (some (gx, (.cells #[.int .u8 kd, .int .i64 nn, .string s] 29 (0, 0)))) (XT w0.heap.size g md room L) (XT w0.heap.size g md room (addL room s nn L).1) (YT w0.heap.size b room L) (YT w0.heap.size b room (addL room s nn L).1) FX FY (fl 5) (fl 11) w') (fun i wa wb => (i = 5 → Turned (XT w0.heap.size g md room (addL room s nn L).1) FX wa wb) ∧ (i = 11 → Turned (YT w0.heap.size b room (addL room s nn L).1) FY wa wb) ∧ (i ≠ 5 → i ≠ 11 → Below wa.heap.size wa wb)) ?hst ?h0 (fun i w' => ∃ p q, Gd w0.heap.size w0 (some (gx, (.cells #[.int .u8 kd, .int .i64 nn, .string s] 29 (0, 0)))) (XT w0.heap.size g md room L) (XT w0.heap.size g md room (addL room s nn L).1) (YT w0.heap.size b room L) (YT w0.heap.size b room (addL room s nn L).1) FX FY p q w' ∧ (i = 5 → p = false) ∧ (i = 11 → q = false)) ?hB ?hG ?hop ?hend
          case hop =>
            refine ⟨?_, ?_, ?_, ?_, ?_, ?_, ?_, ?_, ?_, ?_, ?_, ?_, ?_, ?_, trivial⟩
            · intro w hB
              simp only [St.withD]
              refine St.ob_value (v := ?_) (w' := w) (by rfl) ?_ ⟨⟨fun e => absurd e (by decide), fun e => absurd e (by decide), fun _ _ => Below.refl _ _⟩, ?_⟩
              rotate_left
              · go_simp
                with_reducible rfl
              · rfl
            · intro w hB
              simp only [St.withD]
              refine St.ob_value (v := ?_) (w' := w) (by rfl) ?_ ⟨⟨fun e => absurd e (by decide), fun e => absurd e (by decide), fun _ _ => Below.refl _ _⟩, ?_⟩
              rotate_left
              · go_simp
                with_reducible rfl
              · rfl
            · intro w hB; rintro _ ⟨_, rfl⟩
              simp only [St.withD, List.nil_append, List.cons_append, Act.put, List.setIfInBounds_toArray, List.set_cons_zero, List.set_cons_succ]
              have hbox := hB.choose_spec.choose_spec.1.box
              have cx1 : w.cell? ⟨gx, 1, none⟩ = some (.int .i64 nn) := (blk_cell hbox 1).trans rfl
              have cx2 : w.cell? ⟨gx, 2, none⟩ = some (.string s) := (blk_cell hbox 2).trans rfl
              refine St.ob_value (v := ?_) (w' := w) (by rfl) ?_ ⟨⟨fun e => absurd e (by decide), fun e => absurd e (by decide), fun _ _ => Below.refl _ _⟩, ?_⟩
              rotate_left
              · go_simp
                with_reducible rfl
              · rfl
            · intro w hB
              simp only [St.withD]
              refine St.ob_value (v := ?_) (w' := w) (by rfl) ?_ ⟨⟨fun e => absurd e (by decide), fun e => absurd e (by decide), fun _ _ => Below.refl _ _⟩, ?_⟩
              rotate_left
              · go_simp
                with_reducible rfl
              · rfl
            · intro w hB; rintro _ ⟨_, rfl⟩
              simp only [St.withD, List.nil_append, List.cons_append, Act.put, List.setIfInBounds_toArray, List.set_cons_zero, List.set_cons_succ]
              have hbox := hB.choose_spec.choose_spec.1.box
              have cx1 : w.cell? ⟨gx, 1, none⟩ = some (.int .i64 nn) := (blk_cell hbox 1).trans rfl
              have cx2 : w.cell? ⟨gx, 2, none⟩ = some (.string s) := (blk_cell hbox 2).trans rfl
              refine St.ob_value (v := ?_) (w' := w) (by rfl) ?_ ⟨⟨fun e => absurd e (by decide), fun e => absurd e (by decide), fun _ _ => Below.refl _ _⟩, ?_⟩
              rotate_left
              · go_simp
                with_reducible rfl
              · rfl
            · intro w hB; rintro _ ⟨_, rfl⟩ _ ⟨_, rfl⟩ _ ⟨_, rfl⟩
              simp only [St.withD, List.nil_append, List.cons_append, Act.put, List.setIfInBounds_toArray, List.set_cons_zero, List.set_cons_succ]
              obtain ⟨p, q, hR, hp3, _⟩ := hB
              have e := hp3 rfl
              subst e
              have hRB := Gd.hB hR
              refine St.ob_call Try.func9 (by kernel_rfl) rfl #[.pointer (some ⟨g, 0, none⟩), .string s, .int .i64 nn] (by rfl) rfl (by (try simp only [List.map_toArray, List.map_cons, List.map_nil]); first | done | rfl | (simp only [List.length_drop, List.length_take]; rfl)) ?_
              refine (add_x s HSZ.out nn (Duo.getX hR)).mono ?_
              rintro e w1 ⟨rfl, ht⟩
              refine ⟨_, rfl, ⟨fun _ => ht, fun e => absurd e (by decide), fun e => absurd rfl e⟩, ?_⟩
              rfl
            · intro w hB
              simp only [St.withD]
              refine St.ob_value (v := ?_) (w' := w) (by rfl) ?_ ⟨⟨fun e => absurd e (by decide), fun e => absurd e (by decide), fun _ _ => Below.refl _ _⟩, ?_⟩
              rotate_left
              · go_simp
                with_reducible rfl
              · rfl
            · intro w hB
              simp only [St.withD]
              refine St.ob_value (v := ?_) (w' := w) (by rfl) ?_ ⟨⟨fun e => absurd e (by decide), fun e => absurd e (by decide), fun _ _ => Below.refl _ _⟩, ?_⟩
              rotate_left
              · go_simp
                with_reducible rfl
              · rfl
            · intro w hB; rintro _ ⟨_, rfl⟩
              simp only [St.withD, List.nil_append, List.cons_append, Act.put, List.setIfInBounds_toArray, List.set_cons_zero, List.set_cons_succ]
              have hbox := hB.choose_spec.choose_spec.1.box
              have cx1 : w.cell? ⟨gx, 1, none⟩ = some (.int .i64 nn) := (blk_cell hbox 1).trans rfl
              have cx2 : w.cell? ⟨gx, 2, none⟩ = some (.string s) := (blk_cell hbox 2).trans rfl
              refine St.ob_value (v := ?_) (w' := w) (by rfl) ?_ ⟨⟨fun e => absurd e (by decide), fun e => absurd e (by decide), fun _ _ => Below.refl _ _⟩, ?_⟩
              rotate_left
              · go_simp
                with_reducible rfl
              · rfl
            · intro w hB
              simp only [St.withD]
              refine St.ob_value (v := ?_) (w' := w) (by rfl) ?_ ⟨⟨fun e => absurd e (by decide), fun e => absurd e (by decide), fun _ _ => Below.refl _ _⟩, ?_⟩
              rotate_left
              · go_simp
                with_reducible rfl
              · rfl
            · intro w hB; rintro _ ⟨_, rfl⟩
              simp only [St.withD, List.nil_append, List.cons_append, Act.put, List.setIfInBounds_toArray, List.set_cons_zero, List.set_cons_succ]
              have hbox := hB.choose_spec.choose_spec.1.box
              have cx1 : w.cell? ⟨gx, 1, none⟩ = some (.int .i64 nn) := (blk_cell hbox 1).trans rfl
              have cx2 : w.cell? ⟨gx, 2, none⟩ = some (.string s) := (blk_cell hbox 2).trans rfl
              refine St.ob_value (v := ?_) (w' := w) (by rfl) ?_ ⟨⟨fun e => absurd e (by decide), fun e => absurd e (by decide), fun _ _ => Below.refl _ _⟩, ?_⟩
              rotate_left
              · go_simp
                with_reducible rfl
              · rfl
            · intro w hB; rintro _ ⟨_, rfl⟩ _ ⟨_, rfl⟩ _ ⟨_, rfl⟩
              simp only [St.withD, List.nil_append, List.cons_append, Act.put, List.setIfInBounds_toArray, List.set_cons_zero, List.set_cons_succ]
              obtain ⟨p, q, hR, _, hp7⟩ := hB
              have e := hp7 rfl
              subst e
              have hRB := Gd.hB hR
              refine St.ob_call Try.func10 (by kernel_rfl) rfl #[.pointer (some ⟨b, 0, none⟩), .string s, .int .i64 nn] (by rfl) rfl (by (try simp only [List.map_toArray, List.map_cons, List.map_nil]); first | done | rfl | (simp only [List.length_drop, List.length_take]; rfl)) ?_
              refine (add_y s nn (Duo.getY hR) hRB HM.out.1 HM.out.2).mono ?_
              rintro e w1 ⟨rfl, ht⟩
              refine ⟨_, rfl, ⟨fun e => absurd e (by decide), fun _ => ht, fun _ e => absurd rfl e⟩, ?_⟩
              rfl
            · intro w hB; rintro _ ⟨_, rfl⟩ _ ⟨_, rfl⟩
              simp only [St.withD, List.nil_append, List.cons_append, Act.put, List.setIfInBounds_toArray, List.set_cons_zero, List.set_cons_succ]
              clear hB
              have hbb : ((addL room s nn L).2 == (addL room s nn L).2) = true := by simp
              refine St.ob_value (v := .bool true) (w' := w) (by rfl) ?_ ⟨⟨fun e => absurd e (by decide), fun e => absurd e (by decide), fun _ _ => Below.refl _ _⟩, rfl⟩
              go_simp
            · intro w hB; rintro _ ⟨_, rfl⟩
              simp only [St.withD, List.nil_append, List.cons_append, Act.put, List.setIfInBounds_toArray, List.set_cons_zero, List.set_cons_succ]
              refine St.ob_value (v := ?_) (w' := w) (by rfl) ?_ ⟨⟨fun e => absurd e (by decide), fun e => absurd e (by decide), fun _ _ => Below.refl _ _⟩, ?_⟩
              rotate_left
              · go_simp
                with_reducible rfl
              · rfl
          case hst =>
            intro i j fl hi hj _ _ _ ds v wa wb ht _
            refine St.sts_get (Rel := fun _ _ _ => True) 0 _ j (by simpa using hj) ?_ ds v wa wb ht trivial
            exact ⟨St.eqT_st, St.eqT_st, St.eqT_st, St.eqT_st, St.eqT_st, St.eqT_st, St.eqT_st, St.eqT_st, St.eqT_st, St.eqT_st, St.eqT_st, St.eqT_st, St.eqT_st, St.eqT_st, trivial⟩
          case h0 => exact Gd.from (p := false) (q := false) HP.out fam_xt fam_xt fam_yt fam_yt (below_drew1 (Below.refl _ _))
          case hB => exact (by
            intro i fl w' hi hfi _ hcl hG
            refine ⟨_, _, hG, ?_, ?_⟩
            · exact fun e => by subst e; exact hfi
            · exact fun e => by subst e; exact hfi)
          case hG => (
            intro i fl wa wb hi hfi _ _ hG hR
            by_cases h3 : i = 5
            · subst h3
              rw [hfi] at hG
              have hk := Gd.left hG fam_xt fam_yt fam_yt (hR.1 rfl)
              simpa [St.upB] using hk
            · by_cases h7 : i = 11
              · subst h7
                rw [hfi] at hG
                have hk := Gd.right hG fam_xt fam_xt fam_yt (hR.2.1 rfl)
                simpa [St.upB] using hk
              · have e := Gd.from hG fam_xt fam_xt fam_yt fam_yt (hR.2.2 h3 h7)
                have e3 : St.upB fl i 5 = fl 5 := by unfold St.upB; rw [if_neg (Ne.symm h3)]
                have e7 : St.upB fl i 11 = fl 11 := by unfold St.upB; rw [if_neg (Ne.symm h7)]
                simpa only [e3, e7] using e)
          case hend =>
            intro fl w hall hB
            rintro _ rfl _ rfl _ rfl _ rfl _ rfl _ rfl _ rfl _ rfl _ rfl _ rfl _ rfl _ rfl _ rfl _ rfl
            simp only [List.map_cons, List.map_nil, List.nil_append, List.cons_append, List.getD_cons_zero, List.getD_cons_succ, Act.put, List.setIfInBounds_toArray, List.set_cons_zero, List.set_cons_succ]
            rw [St.withE_nil]
            have HT : Aside0 (Duo w0.heap.size w0 (some (gx, (.cells #[.int .u8 kd, .int .i64 nn, .string s] 29 (0, 0)))) (XT w0.heap.size g md room (addL room s nn L).1) (YT w0.heap.size b room (addL room s nn L).1) w) := ⟨by have h3 := hall 5 (by decide); have h7 := hall 11 (by decide); rw [h3, h7] at hB; exact hB⟩
            clear hB hall HP
            go_wp2_with fail
            go_meet
            case rel => exact ⟨rfl, _, ⟨HM.out.1.add s nn, HM.out.2⟩, HT⟩
        · have hq0 : (kd % 4 == 0) = false := beq_eq_false_iff_ne.2 (by omega)
          have pq0 : (kd.tmod 4 == 0) = false := beq_eq_false_iff_ne.2 (by rw [ht5]; omega)
          have hq1 : (kd % 4 == 1) = false := beq_eq_false_iff_ne.2 (by omega)
          have pq1 : (kd.tmod 4 == 1) = false := beq_eq_false_iff_ne.2 (by rw [ht5]; omega)
          have hq2 : (kd % 4 == 2) = true := beq_iff_eq.2 (by omega)
          have pq2 : (kd.tmod 4 == 2) = true := beq_iff_eq.2 (by rw [ht5]; omega)
          clear hm hk0 hk1 ht5
          clear PIN
          obtain ⟨gn, hgn⟩ : ∃ gn, (L.length : Int) - (halL L).length = gn := ⟨_, rfl⟩
          have hgg : (gn == gn) = true := by simp
          go_upto_region 17 with fail
          go_wp2_with fail
          · obtain ⟨F, hx, hgo⟩ := HT.out.goX fam_xt fam_yt
            refine (halve_x hx).mono ?_
            rintro e w5 ⟨rfl, ht⟩
            rw [hgn]
            have HT2 := Aside0.mk (hgo _ _ ht)
            clear ht hx hgo
            go_wp2_with fail
            obtain ⟨F2, hy, hgo2⟩ := HT2.out.goY fam_xt fam_yt
            refine (halve_y hy HT2.out.hB HM.out.1 HM.out.2).mono ?_
            rintro e w6 ⟨rfl, ht⟩
            rw [hgn]
            have HT3 := Aside0.mk (hgo2 _ _ ht)
            clear ht hy hgo2 HT2
            go_wp2_with fail
            go_meet
            case rel => exact ⟨rfl, _, ⟨HM.out.1.half, HM.out.2⟩, HT3⟩
          · go_meet
            case rel => exact ⟨rfl, _, HM, HT⟩
        · have hq0 : (kd % 4 == 0) = false := beq_eq_false_iff_ne.2 (by omega)
          have pq0 : (kd.tmod 4 == 0) = false := beq_eq_false_iff_ne.2 (by rw [ht5]; omega)
          have hq1 : (kd % 4 == 1) = false := beq_eq_false_iff_ne.2 (by omega)
          have pq1 : (kd.tmod 4 == 1) = false := beq_eq_false_iff_ne.2 (by rw [ht5]; omega)
          have hq2 : (kd % 4 == 2) = false := beq_eq_false_iff_ne.2 (by omega)
          have pq2 : (kd.tmod 4 == 2) = false := beq_eq_false_iff_ne.2 (by rw [ht5]; omega)
          have hq3 : (kd % 4 == 3) = true := beq_iff_eq.2 (by omega)
          have pq3 : (kd.tmod 4 == 3) = true := beq_iff_eq.2 (by rw [ht5]; omega)
          clear hm hk0 hk1 ht5
          clear PIN cx1
          go_upto_region 20 with fail
          go_wp2
          refine St.steadyR (n := 9) (by kernel_rfl) ([] :: [] :: [(1, 64)] :: [(0, 63), (2, 65)] :: [] :: [] :: [(5, 68)] :: [(3, 66), (4, 67), (6, 69)] :: [(7, 70)] :: []) (some 63 :: some 64 :: some 65 :: some 66 :: some 67 :: some 68 :: some 69 :: some 70 :: some 9 :: []) (by kernel_rfl) ((St.eqT ?c20_0x12) :: (St.eqT ?c20_1x12) :: (St.eqT ?c20_2x12) :: (fun _ v w => IsTop L (nn) v w) :: (St.eqT ?c20_4x12) :: (St.eqT ?c20_5x12) :: (St.eqT ?c20_6x12) :: (St.eqT ?c20_7x12) :: (St.eqT ?c20_8x12) :: []) rfl (by rfl) (fun w' => Duo w0.heap.size w0 (some (gx, (.cells #[.int .u8 kd, .int .i64 nn, .string s] 29 (0, 0)))) (XT w0.heap.size g md room L) (YT w0.heap.size b room L) w') (fun w w' => Below w.heap.size w w') ?hst ?h0 ?hB ?hop ?hend
          case hop =>
            refine ⟨?_, ?_, ?_, ?_, ?_, ?_, ?_, ?_, ?_, trivial⟩
            · intro w hB
              simp only [St.withD]
              refine St.ob_value (v := ?_) (w' := w) (by rfl) ?_ ⟨Below.refl _ _, ?_⟩
              rotate_left
              · go_simp
                with_reducible rfl
              · rfl
            · intro w hB
              simp only [St.withD]
              refine St.ob_value (v := ?_) (w' := w) (by rfl) ?_ ⟨Below.refl _ _, ?_⟩
              rotate_left
              · go_simp
                with_reducible rfl
              · rfl
            · intro w hB; rintro _ ⟨_, rfl⟩
              simp only [St.withD, List.nil_append, List.cons_append, Act.put, List.setIfInBounds_toArray, List.set_cons_zero, List.set_cons_succ]
              have hbox := hB.box
              have cx1 : w.cell? ⟨gx, 1, none⟩ = some (.int .i64 nn) := (blk_cell hbox 1).trans rfl
              refine St.ob_value (v := ?_) (w' := w) (by rfl) ?_ ⟨Below.refl _ _, ?_⟩
              rotate_left
              · go_simp
                with_reducible rfl
              · rfl
            · intro w hB; rintro _ ⟨_, rfl⟩ _ ⟨_, rfl⟩
              simp only [St.withD, List.nil_append, List.cons_append, Act.put, List.setIfInBounds_toArray, List.set_cons_zero, List.set_cons_succ]
              refine St.ob_call Try.func14 (by kernel_rfl) rfl #[.pointer (some ⟨g, 0, none⟩), .int .i64 (nn)] (by rfl) rfl (by (try simp only [List.map_toArray, List.map_cons, List.map_nil]); first | done | rfl | (simp only [List.length_drop, List.length_take]; rfl)) ?_
              refine (top_is (nn) hB.exX.choose_spec).mono ?_
              rintro e w1 ⟨v, rfl, ht, hd⟩
              refine ⟨_, rfl, hd, ?_⟩
              exact ht
            · intro w hB
              simp only [St.withD]
              refine St.ob_value (v := ?_) (w' := w) (by rfl) ?_ ⟨Below.refl _ _, ?_⟩
              rotate_left
              · go_simp
                with_reducible rfl
              · rfl
            · intro w hB
              simp only [St.withD]
              refine St.ob_value (v := ?_) (w' := w) (by rfl) ?_ ⟨Below.refl _ _, ?_⟩
              rotate_left
              · go_simp
                with_reducible rfl
              · rfl
            · intro w hB; rintro _ ⟨_, rfl⟩
              simp only [St.withD, List.nil_append, List.cons_append, Act.put, List.setIfInBounds_toArray, List.set_cons_zero, List.set_cons_succ]
              have hbox := hB.box
              have cx1 : w.cell? ⟨gx, 1, none⟩ = some (.int .i64 nn) := (blk_cell hbox 1).trans rfl
              refine St.ob_value (v := ?_) (w' := w) (by rfl) ?_ ⟨Below.refl _ _, ?_⟩
              rotate_left
              · go_simp
                with_reducible rfl
              · rfl
            · intro w hB; rintro v3 ⟨ds3, ht3⟩ _ ⟨_, rfl⟩ _ ⟨_, rfl⟩
              simp only [St.withD, List.nil_append, List.cons_append, Act.put, List.setIfInBounds_toArray, List.set_cons_zero, List.set_cons_succ]
              refine St.ob_call Try.func13 (by kernel_rfl) rfl #[_, .pointer (some ⟨b, 0, none⟩), .int .i64 (nn)] (by rfl) rfl (by (try simp only [List.map_toArray, List.map_cons, List.map_nil]); first | done | rfl | (simp only [List.length_drop, List.length_take]; rfl)) ?_
              refine (ranked_y ht3 hB.exY.choose_spec HM.out.1 HM.out.2).mono ?_
              rintro e w1 ⟨rfl, hd⟩
              refine ⟨_, rfl, hd, ?_⟩
              rfl
            · intro w hB; rintro _ ⟨_, rfl⟩
              simp only [St.withD, List.nil_append, List.cons_append, Act.put, List.setIfInBounds_toArray, List.set_cons_zero, List.set_cons_succ]
              refine St.ob_value (v := ?_) (w' := w) (by rfl) ?_ ⟨Below.refl _ _, ?_⟩
              rotate_left
              · go_simp
                with_reducible rfl
              · rfl
          case hst => exact ⟨St.eqT_st, St.eqT_st, St.eqT_st, fun ds v w w' h hR => by exact h.below hR, St.eqT_st, St.eqT_st, St.eqT_st, St.eqT_st, St.eqT_st, trivial⟩
          case h0 => exact HT.out.from fam_xt fam_yt (below_drew1 (Below.refl _ _))
          case hB => exact fun w w' h k => h.from fam_xt fam_yt k
          case hend =>
            intro w hB
            rintro _ rfl _ rfl _ rfl v3 ht3 _ rfl _ rfl _ rfl _ rfl _ rfl
            simp only [List.map_cons, List.map_nil, List.nil_append, List.cons_append, List.getD_cons_zero, List.getD_cons_succ, Act.put, List.setIfInBounds_toArray, List.set_cons_zero, List.set_cons_succ]
            rw [St.withE_nil]
            have HT : Aside0 (Duo w0.heap.size w0 (some (gx, (.cells #[.int .u8 kd, .int .i64 nn, .string s] 29 (0, 0)))) (XT w0.heap.size g md room L) (YT w0.heap.size b room L) w) := ⟨hB⟩
            clear hB ht3
            go_wp2_with fail
            go_meet
            case rel => exact ⟨rfl, _, HM, HT⟩
      case rest =>
        clear HT HM
        obtain ⟨rfl, L, HM, HT⟩ := hcut
        have cx2 : wc.cell? ⟨gx, 2, none⟩ = some (.string s) := (blk_cell HT.out.box 2).trans rfl
        go_wp2_with fail
        refine (at_y s HT.out.exY.choose_spec (by have := HM.out.1.len; have := HM.out.2; omega)).mono ?_
        rintro e w3 ⟨rfl, rfl⟩
        obtain ⟨v, hnm⟩ := HT.out.named
        have zz_HT := Aside0.mk (hnm); clear HT; have HT := zz_HT; clear zz_HT
        clear hnm
        obtain ⟨A2, c2, rfl, _⟩ := HT.out.refAt.slice
        obtain ⟨n, hn⟩ : ∃ n, L.length = n := ⟨_, rfl⟩
        have hbx := HT.out.refAt.box
        rw [hn] at hbx
        have hnn : ((n : Int) != n) = false := by simp
        by_cases hp : pos s L < L.length
        · obtain ⟨cn, hcn⟩ : ∃ cn, cnt s L = cn := ⟨_, rfl⟩
          have HN := Aside0.mk (And.intro hn hcn)
          have hcc : (cn != cn) = false := by simp
          have hat : atI s L = (pos s L : Nat) := by unfold atI; rw [if_pos hp]
          obtain ⟨gr, rfl, _, a1, _⟩ := own_item HT.out.refAt.row (pos s L) hp
          have hct : (L.getD (pos s L) ez).c = cn := by rw [← hcn]; unfold cnt; rw [if_pos hp]; rfl
          rw [hct] at a1
          obtain ⟨j, hj⟩ : ∃ j, pos s L = j := ⟨_, rfl⟩
          rw [hj] at a1 hat hp
          rw [hn] at hp
          rw [hat]
          have k1 : wc.cell? ⟨b, 1, none⟩ = some (.slice (some ⟨gr, 0, none⟩) n c2) := (blk_cell hbx 1).trans rfl
          have hjn : (j : Int) < n := by omega
          have hj0 : (0 : Int) ≤ j := by omega
          clear hat hct hj hbx hcn hn
          go_upto_region 25 with fail
          go_wp2
          clear a1 k1 cx2
          refine St.steadyR (n := 20) (by kernel_rfl) ([] :: [(0, 85)] :: [(1, 86)] :: [(2, 87)] :: [(2, 87), (3, 88)] :: [(2, 87)] :: [(2, 87), (5, 90)] :: [(2, 87), (6, 91)] :: [(2, 87), (7, 92)] :: [(2, 87), (8, 93)] :: [(2, 87), (4, 89), (9, 94)] :: [(2, 87), (10, 95)] :: [(11, 96)] :: [(12, 97)] :: [(12, 97)] :: [(12, 97), (14, 99)] :: [(12, 97), (13, 98), (15, 100)] :: [(12, 97)] :: [(12, 97), (16, 101), (17, 102)] :: [(12, 97), (18, 103)] :: []) (some 85 :: some 86 :: some 87 :: some 88 :: some 89 :: some 90 :: some 91 :: some 92 :: some 93 :: some 94 :: some 95 :: some 96 :: some 97 :: some 98 :: some 99 :: some 100 :: some 101 :: some 102 :: some 103 :: some 104 :: []) (by kernel_rfl) ((St.eqT ?c25_0x13) :: (St.eqT ?c25_1x13) :: (St.eqT ?c25_2x13) :: (St.eqT ?c25_3x13) :: (St.eqT ?c25_4x13) :: (St.eqT ?c25_5x13) :: (St.eqT ?c25_6x13) :: (St.eqT ?c25_7x13) :: (St.eqT ?c25_8x13) :: (St.eqT ?c25_9x13) :: (St.eqT (.bool false)) :: (St.eqT ?c25_11x13) :: (St.eqT ?c25_12x13) :: (St.eqT ?c25_13x13) :: (St.eqT ?c25_14x13) :: (St.eqT ?c25_15x13) :: (St.eqT ?c25_16x13) :: (St.eqT ?c25_17x13) :: (St.eqT (.bool false)) :: (St.eqT ?c25_19x13) :: []) rfl (by rfl) (fun w' => Duo w0.heap.size w0 (some (gx, (.cells #[.int .u8 kd, .int .i64 nn, .string s] 29 (0, 0)))) (XT w0.heap.size g md room L) (YP w0.heap.size b room (.slice (some ⟨gr, 0, none⟩) L.length c2) L) w') (fun w w' => Below w.heap.size w w') ?hst ?h0 ?hB ?hop ?hend
          case hop =>
            refine ⟨?_, ?_, ?_, ?_, ?_, ?_, ?_, ?_, ?_, ?_, ?_, ?_, ?_, ?_, ?_, ?_, ?_, ?_, ?_, ?_, trivial⟩
            · intro w hB
              simp only [St.withD]
              refine St.ob_value (v := ?_) (w' := w) (by rfl) ?_ ⟨Below.refl _ _, ?_⟩
              rotate_left
              · go_simp
                with_reducible rfl
              · rfl
            · intro w hB; rintro _ ⟨_, rfl⟩
              simp only [St.withD, List.nil_append, List.cons_append, Act.put, List.setIfInBounds_toArray, List.set_cons_zero, List.set_cons_succ]
              refine St.ob_value (v := ?_) (w' := w) (by rfl) ?_ ⟨Below.refl _ _, ?_⟩
              rotate_left
              · go_simp
                with_reducible rfl
              · rfl
            · intro w hB; rintro _ ⟨_, rfl⟩
              simp only [St.withD, List.nil_append, List.cons_append, Act.put, List.setIfInBounds_toArray, List.set_cons_zero, List.set_cons_succ]
              refine St.ob_value (v := ?_) (w' := w) (by rfl) ?_ ⟨Below.refl _ _, ?_⟩
              rotate_left
              · go_simp
                with_reducible rfl
              · rfl
            · intro w hB; rintro _ ⟨_, rfl⟩
              simp only [St.withD, List.nil_append, List.cons_append, Act.put, List.setIfInBounds_toArray, List.set_cons_zero, List.set_cons_succ]
              refine St.ob_value (v := ?_) (w' := w) (by rfl) ?_ ⟨Below.refl _ _, ?_⟩
              rotate_left
              · go_simp
                with_reducible rfl
              · rfl
            · intro w hB; rintro _ ⟨_, rfl⟩ _ ⟨_, rfl⟩
              simp only [St.withD, List.nil_append, List.cons_append, Act.put, List.setIfInBounds_toArray, List.set_cons_zero, List.set_cons_succ]
              refine St.ob_call Try.func16 (by kernel_rfl) rfl #[.pointer (some ⟨g, 0, none⟩)] (by rfl) rfl (by (try simp only [List.map_toArray, List.map_cons, List.map_nil]); first | done | rfl | (simp only [List.length_drop, List.length_take]; rfl)) ?_
              refine (len_x HN.out.1 hB.exX.choose_spec).mono ?_
              rintro e w1 ⟨rfl, rfl⟩
              refine ⟨_, rfl, Below.refl _ _, ?_⟩
              rfl
            · intro w hB; rintro _ ⟨_, rfl⟩
              simp only [St.withD, List.nil_append, List.cons_append, Act.put, List.setIfInBounds_toArray, List.set_cons_zero, List.set_cons_succ]
              refine St.ob_value (v := ?_) (w' := w) (by rfl) ?_ ⟨Below.refl _ _, ?_⟩
              rotate_left
              · go_simp
                with_reducible rfl
              · rfl
            · intro w hB; rintro _ ⟨_, rfl⟩ _ ⟨_, rfl⟩
              simp only [St.withD, List.nil_append, List.cons_append, Act.put, List.setIfInBounds_toArray, List.set_cons_zero, List.set_cons_succ]
              refine St.ob_value (v := ?_) (w' := w) (by rfl) ?_ ⟨Below.refl _ _, ?_⟩
              rotate_left
              · go_simp
                with_reducible rfl
              · rfl
            · intro w hB; rintro _ ⟨_, rfl⟩ _ ⟨_, rfl⟩
              simp only [St.withD, List.nil_append, List.cons_append, Act.put, List.setIfInBounds_toArray, List.set_cons_zero, List.set_cons_succ]
              refine St.ob_value (v := ?_) (w' := w) (by rfl) ?_ ⟨Below.refl _ _, ?_⟩
              rotate_left
              · go_simp
                with_reducible rfl
              · rfl
            · intro w hB; rintro _ ⟨_, rfl⟩ _ ⟨_, rfl⟩
              simp only [St.withD, List.nil_append, List.cons_append, Act.put, List.setIfInBounds_toArray, List.set_cons_zero, List.set_cons_succ]
              have hb := hB.refAt.box
              rw [HN.out.1] at hb
              have k1 : w.cell? ⟨b, 1, none⟩ = some (.slice (some ⟨gr, 0, none⟩) n c2) := (blk_cell hb 1).trans rfl
              have cx2 : w.cell? ⟨gx, 2, none⟩ = some (.string s) := (blk_cell hB.box 2).trans rfl
              clear hb hB
              refine St.ob_value (v := ?_) (w' := w) (by rfl) ?_ ⟨Below.refl _ _, ?_⟩
              rotate_left
              · go_simp
                with_reducible rfl
              · rfl
            · intro w hB; rintro _ ⟨_, rfl⟩ _ ⟨_, rfl⟩
              simp only [St.withD, List.nil_append, List.cons_append, Act.put, List.setIfInBounds_toArray, List.set_cons_zero, List.set_cons_succ]
              refine St.ob_value (v := ?_) (w' := w) (by rfl) ?_ ⟨Below.refl _ _, ?_⟩
              rotate_left
              · go_simp
                with_reducible rfl
              · rfl
            · intro w hB; rintro _ ⟨_, rfl⟩ _ ⟨_, rfl⟩ _ ⟨_, rfl⟩
              simp only [St.withD, List.nil_append, List.cons_append, Act.put, List.setIfInBounds_toArray, List.set_cons_zero, List.set_cons_succ]
              refine St.ob_value (v := .bool false) (w' := w) (by rfl) ?_ ⟨Below.refl _ _, rfl⟩
              clear hB
              go_simp
              try rfl
            · intro w hB; rintro _ ⟨_, rfl⟩ _ ⟨_, rfl⟩
              simp only [St.withD, List.nil_append, List.cons_append, Act.put, List.setIfInBounds_toArray, List.set_cons_zero, List.set_cons_succ]
              refine St.ob_value (v := ?_) (w' := w) (by rfl) ?_ ⟨Below.refl _ _, ?_⟩
              rotate_left
              · go_simp
                with_reducible rfl
              · rfl
            · intro w hB; rintro _ ⟨_, rfl⟩
              simp only [St.withD, List.nil_append, List.cons_append, Act.put, List.setIfInBounds_toArray, List.set_cons_zero, List.set_cons_succ]
              refine St.ob_value (v := ?_) (w' := w) (by rfl) ?_ ⟨Below.refl _ _, ?_⟩
              rotate_left
              · go_simp
                with_reducible rfl
              · rfl
            · intro w hB; rintro _ ⟨_, rfl⟩
              simp only [St.withD, List.nil_append, List.cons_append, Act.put, List.setIfInBounds_toArray, List.set_cons_zero, List.set_cons_succ]
              refine St.ob_value (v := ?_) (w' := w) (by rfl) ?_ ⟨Below.refl _ _, ?_⟩
              rotate_left
              · go_simp
                with_reducible rfl
              · rfl
            · intro w hB; rintro _ ⟨_, rfl⟩
              simp only [St.withD, List.nil_append, List.cons_append, Act.put, List.setIfInBounds_toArray, List.set_cons_zero, List.set_cons_succ]
              refine St.ob_value (v := ?_) (w' := w) (by rfl) ?_ ⟨Below.refl _ _, ?_⟩
              rotate_left
              · go_simp
                with_reducible rfl
              · rfl
            · intro w hB; rintro _ ⟨_, rfl⟩ _ ⟨_, rfl⟩
              simp only [St.withD, List.nil_append, List.cons_append, Act.put, List.setIfInBounds_toArray, List.set_cons_zero, List.set_cons_succ]
              have hb := hB.refAt.box
              rw [HN.out.1] at hb
              have k1 : w.cell? ⟨b, 1, none⟩ = some (.slice (some ⟨gr, 0, none⟩) n c2) := (blk_cell hb 1).trans rfl
              have cx2 : w.cell? ⟨gx, 2, none⟩ = some (.string s) := (blk_cell hB.box 2).trans rfl
              clear hb hB
              refine St.ob_value (v := ?_) (w' := w) (by rfl) ?_ ⟨Below.refl _ _, ?_⟩
              rotate_left
              · go_simp
                with_reducible rfl
              · rfl
            · intro w hB; rintro _ ⟨_, rfl⟩ _ ⟨_, rfl⟩ _ ⟨_, rfl⟩
              simp only [St.withD, List.nil_append, List.cons_append, Act.put, List.setIfInBounds_toArray, List.set_cons_zero, List.set_cons_succ]
              refine St.ob_call Try.func17 (by kernel_rfl) rfl #[.pointer (some ⟨g, 0, none⟩), .string s] (by rfl) rfl (by (try simp only [List.map_toArray, List.map_cons, List.map_nil]); first | done | rfl | (simp only [List.length_drop, List.length_take]; rfl)) ?_
              refine (count_x HN.out.2 HSZ.out hB.exX.choose_spec).mono ?_
              rintro e w1 ⟨rfl, rfl⟩
              refine ⟨_, rfl, Below.refl _ _, ?_⟩
              rfl
            · intro w hB; rintro _ ⟨_, rfl⟩
              simp only [St.withD, List.nil_append, List.cons_append, Act.put, List.setIfInBounds_toArray, List.set_cons_zero, List.set_cons_succ]
              refine St.ob_value (v := ?_) (w' := w) (by rfl) ?_ ⟨Below.refl _ _, ?_⟩
              rotate_left
              · go_simp
                with_reducible rfl
              · rfl
            · intro w hB; rintro _ ⟨_, rfl⟩ _ ⟨_, rfl⟩ _ ⟨_, rfl⟩
              simp only [St.withD, List.nil_append, List.cons_append, Act.put, List.setIfInBounds_toArray, List.set_cons_zero, List.set_cons_succ]
              refine St.ob_value (v := .bool false) (w' := w) (by rfl) ?_ ⟨Below.refl _ _, rfl⟩
              clear hB
              go_simp
              try rfl
            · intro w hB; rintro _ ⟨_, rfl⟩ _ ⟨_, rfl⟩
              simp only [St.withD, List.nil_append, List.cons_append, Act.put, List.setIfInBounds_toArray, List.set_cons_zero, List.set_cons_succ]
              refine St.ob_value (v := ?_) (w' := w) (by rfl) ?_ ⟨Below.refl _ _, ?_⟩
              rotate_left
              · go_simp
                with_reducible rfl
              · rfl
          case hst => exact ⟨St.eqT_st, St.eqT_st, St.eqT_st, St.eqT_st, St.eqT_st, St.eqT_st, St.eqT_st, St.eqT_st, St.eqT_st, St.eqT_st, St.eqT_st, St.eqT_st, St.eqT_st, St.eqT_st, St.eqT_st, St.eqT_st, St.eqT_st, St.eqT_st, St.eqT_st, St.eqT_st, trivial⟩
          case h0 => exact HT.out.from fam_xt fam_yp (below_drew1 (Below.refl _ _))
          case hB => exact fun w w' h k => h.from fam_xt fam_yp k
          case hend =>
            intro w hB
            rintro _ rfl _ rfl _ rfl _ rfl _ rfl _ rfl _ rfl _ rfl _ rfl _ rfl _ rfl _ rfl _ rfl _ rfl _ rfl _ rfl _ rfl _ rfl _ rfl _ rfl
            simp only [List.map_cons, List.map_nil, List.nil_append, List.cons_append, List.getD_cons_zero, List.getD_cons_succ, Act.put, List.setIfInBounds_toArray, List.set_cons_zero, List.set_cons_succ]
            rw [St.withE_nil]
            have HT3 : Aside0 (Duo w0.heap.size w0 none (XT w0.heap.size g md room L) (YT w0.heap.size b room L) w) := ⟨hB.unnamed.bare⟩
            clear hB HT
            go_wp2
            go_roundg (gk - 1)
            case measure => have := HK.out; omega
            case rel => exact ⟨k + 1, L, ⟨by have := HK.out; omega⟩, by go_num, HM, HT3⟩
        · have hat : atI s L = -1 := by unfold atI; rw [if_neg hp]
          have HN : Aside0 (L.length = n ∧ cnt s L = 0) := ⟨hn, by unfold cnt; rw [if_neg hp]⟩
          rw [hat]
          clear hat hbx hn hp
          go_upto_region 25 with fail
          go_wp2
          clear cx2
          refine St.steadyR (n := 20) (by kernel_rfl) ([] :: [(0, 85)] :: [(1, 86)] :: [(2, 87)] :: [(2, 87), (3, 88)] :: [(2, 87)] :: [(2, 87), (5, 90)] :: [(2, 87), (6, 91)] :: [(2, 87), (7, 92)] :: [(2, 87), (8, 93)] :: [(2, 87), (4, 89), (9, 94)] :: [(2, 87), (10, 95)] :: [(11, 96)] :: [(12, 97)] :: [(12, 97)] :: [(12, 97), (14, 99)] :: [(12, 97), (13, 98), (15, 100)] :: [(12, 97)] :: [(12, 97), (16, 101), (17, 102)] :: [(12, 97), (18, 103)] :: []) (some 85 :: some 86 :: some 87 :: some 88 :: some 89 :: some 90 :: some 91 :: some 92 :: some 93 :: some 94 :: some 95 :: some 96 :: some 97 :: some 98 :: some 99 :: some 100 :: some 101 :: some 102 :: some 103 :: some 104 :: []) (by kernel_rfl) ((St.eqT ?c25_0x14) :: (St.eqT ?c25_1x14) :: (St.eqT ?c25_2x14) :: (St.eqT ?c25_3x14) :: (St.eqT ?c25_4x14) :: (St.eqT ?c25_5x14) :: (St.eqT ?c25_6x14) :: (St.eqT ?c25_7x14) :: (St.eqT ?c25_8x14) :: (St.eqT ?c25_9x14) :: (St.eqT (.bool false)) :: (St.eqT ?c25_11x14) :: (St.eqT ?c25_12x14) :: (St.eqT ?c25_13x14) :: (St.eqT ?c25_14x14) :: (St.eqT ?c25_15x14) :: (St.eqT ?c25_16x14) :: (St.eqT ?c25_17x14) :: (St.eqT (.bool false)) :: (St.eqT ?c25_19x14) :: []) rfl (by rfl) (fun w' => Duo w0.heap.size w0 (some (gx, (.cells #[.int .u8 kd, .int .i64 nn, .string s] 29 (0, 0)))) (XT w0.heap.size g md room L) (YP w0.heap.size b room (.slice A2 L.length c2) L) w') (fun w w' => Below w.heap.size w w') ?hst ?h0 ?hB ?hop ?hend
          case hop =>
            refine ⟨?_, ?_, ?_, ?_, ?_, ?_, ?_, ?_, ?_, ?_, ?_, ?_, ?_, ?_, ?_, ?_, ?_, ?_, ?_, ?_, trivial⟩
            · intro w hB
              simp only [St.withD]
              refine St.ob_value (v := ?_) (w' := w) (by rfl) ?_ ⟨Below.refl _ _, ?_⟩
              rotate_left
              · go_simp
                with_reducible rfl
              · rfl
            · intro w hB; rintro _ ⟨_, rfl⟩
              simp only [St.withD, List.nil_append, List.cons_append, Act.put, List.setIfInBounds_toArray, List.set_cons_zero, List.set_cons_succ]
              refine St.ob_value (v := ?_) (w' := w) (by rfl) ?_ ⟨Below.refl _ _, ?_⟩
              rotate_left
              · go_simp
                with_reducible rfl
              · rfl
            · intro w hB; rintro _ ⟨_, rfl⟩
              simp only [St.withD, List.nil_append, List.cons_append, Act.put, List.setIfInBounds_toArray, List.set_cons_zero, List.set_cons_succ]
              refine St.ob_value (v := ?_) (w' := w) (by rfl) ?_ ⟨Below.refl _ _, ?_⟩
              rotate_left
              · go_simp
                with_reducible rfl
              · rfl
            · intro w hB; rintro _ ⟨_, rfl⟩
              simp only [St.withD, List.nil_append, List.cons_append, Act.put, List.setIfInBounds_toArray, List.set_cons_zero, List.set_cons_succ]
              refine St.ob_value (v := ?_) (w' := w) (by rfl) ?_ ⟨Below.refl _ _, ?_⟩
              rotate_left
              · go_simp
                with_reducible rfl
              · rfl
            · intro w hB; rintro _ ⟨_, rfl⟩ _ ⟨_, rfl⟩
              simp only [St.withD, List.nil_append, List.cons_append, Act.put, List.setIfInBounds_toArray, List.set_cons_zero, List.set_cons_succ]
              refine St.ob_call Try.func16 (by kernel_rfl) rfl #[.pointer (some ⟨g, 0, none⟩)] (by rfl) rfl (by (try simp only [List.map_toArray, List.map_cons, List.map_nil]); first | done | rfl | (simp only [List.length_drop, List.length_take]; rfl)) ?_
              refine (len_x HN.out.1 hB.exX.choose_spec).mono ?_
              rintro e w1 ⟨rfl, rfl⟩
              refine ⟨_, rfl, Below.refl _ _, ?_⟩
              rfl
            · intro w hB; rintro _ ⟨_, rfl⟩
              simp only [St.withD, List.nil_append, List.cons_append, Act.put, List.setIfInBounds_toArray, List.set_cons_zero, List.set_cons_succ]
              refine St.ob_value (v := ?_) (w' := w) (by rfl) ?_ ⟨Below.refl _ _, ?_⟩
              rotate_left
              · go_simp
                with_reducible rfl
              · rfl
            · intro w hB; rintro _ ⟨_, rfl⟩ _ ⟨_, rfl⟩
              simp only [St.withD, List.nil_append, List.cons_append, Act.put, List.setIfInBounds_toArray, List.set_cons_zero, List.set_cons_succ]
              refine St.ob_value (v := ?_) (w' := w) (by rfl) ?_ ⟨Below.refl _ _, ?_⟩
              rotate_left
              · go_simp
                with_reducible rfl
              · rfl
            · intro w hB; rintro _ ⟨_, rfl⟩ _ ⟨_, rfl⟩
              simp only [St.withD, List.nil_append, List.cons_append, Act.put, List.setIfInBounds_toArray, List.set_cons_zero, List.set_cons_succ]
              refine St.ob_value (v := ?_) (w' := w) (by rfl) ?_ ⟨Below.refl _ _, ?_⟩
              rotate_left
              · go_simp
                with_reducible rfl
              · rfl
            · intro w hB; rintro _ ⟨_, rfl⟩ _ ⟨_, rfl⟩
              simp only [St.withD, List.nil_append, List.cons_append, Act.put, List.setIfInBounds_toArray, List.set_cons_zero, List.set_cons_succ]
              have hb := hB.refAt.box
              rw [HN.out.1] at hb
              have k1 : w.cell? ⟨b, 1, none⟩ = some (.slice A2 n c2) := (blk_cell hb 1).trans rfl
              have cx2 : w.cell? ⟨gx, 2, none⟩ = some (.string s) := (blk_cell hB.box 2).trans rfl
              clear hb hB
              refine St.ob_value (v := ?_) (w' := w) (by rfl) ?_ ⟨Below.refl _ _, ?_⟩
              rotate_left
              · go_simp
                with_reducible rfl
              · rfl
            · intro w hB; rintro _ ⟨_, rfl⟩ _ ⟨_, rfl⟩
              simp only [St.withD, List.nil_append, List.cons_append, Act.put, List.setIfInBounds_toArray, List.set_cons_zero, List.set_cons_succ]
              refine St.ob_value (v := ?_) (w' := w) (by rfl) ?_ ⟨Below.refl _ _, ?_⟩
              rotate_left
              · go_simp
                with_reducible rfl
              · rfl
            · intro w hB; rintro _ ⟨_, rfl⟩ _ ⟨_, rfl⟩ _ ⟨_, rfl⟩
              simp only [St.withD, List.nil_append, List.cons_append, Act.put, List.setIfInBounds_toArray, List.set_cons_zero, List.set_cons_succ]
              refine St.ob_value (v := .bool false) (w' := w) (by rfl) ?_ ⟨Below.refl _ _, rfl⟩
              clear hB
              go_simp
              try rfl
            · intro w hB; rintro _ ⟨_, rfl⟩ _ ⟨_, rfl⟩
              simp only [St.withD, List.nil_append, List.cons_append, Act.put, List.setIfInBounds_toArray, List.set_cons_zero, List.set_cons_succ]
              refine St.ob_value (v := ?_) (w' := w) (by rfl) ?_ ⟨Below.refl _ _, ?_⟩
              rotate_left
              · go_simp
                with_reducible rfl
              · rfl
            · intro w hB; rintro _ ⟨_, rfl⟩
              simp only [St.withD, List.nil_append, List.cons_append, Act.put, List.setIfInBounds_toArray, List.set_cons_zero, List.set_cons_succ]
              refine St.ob_value (v := ?_) (w' := w) (by rfl) ?_ ⟨Below.refl _ _, ?_⟩
              rotate_left
              · go_simp
                with_reducible rfl
              · rfl
            · intro w hB; rintro _ ⟨_, rfl⟩
              simp only [St.withD, List.nil_append, List.cons_append, Act.put, List.setIfInBounds_toArray, List.set_cons_zero, List.set_cons_succ]
              refine St.ob_value (v := ?_) (w' := w) (by rfl) ?_ ⟨Below.refl _ _, ?_⟩
              rotate_left
              · go_simp
                with_reducible rfl
              · rfl
            · intro w hB; rintro _ ⟨_, rfl⟩
              simp only [St.withD, List.nil_append, List.cons_append, Act.put, List.setIfInBounds_toArray, List.set_cons_zero, List.set_cons_succ]
              refine St.ob_value (v := ?_) (w' := w) (by rfl) ?_ ⟨Below.refl _ _, ?_⟩
              rotate_left
              · go_simp
                with_reducible rfl
              · rfl
            · intro w hB; rintro _ ⟨_, rfl⟩ _ ⟨_, rfl⟩
              simp only [St.withD, List.nil_append, List.cons_append, Act.put, List.setIfInBounds_toArray, List.set_cons_zero, List.set_cons_succ]
              have hb := hB.refAt.box
              rw [HN.out.1] at hb
              have k1 : w.cell? ⟨b, 1, none⟩ = some (.slice A2 n c2) := (blk_cell hb 1).trans rfl
              have cx2 : w.cell? ⟨gx, 2, none⟩ = some (.string s) := (blk_cell hB.box 2).trans rfl
              clear hb hB
              refine St.ob_value (v := ?_) (w' := w) (by rfl) ?_ ⟨Below.refl _ _, ?_⟩
              rotate_left
              · go_simp
                with_reducible rfl
              · rfl
            · intro w hB; rintro _ ⟨_, rfl⟩ _ ⟨_, rfl⟩ _ ⟨_, rfl⟩
              simp only [St.withD, List.nil_append, List.cons_append, Act.put, List.setIfInBounds_toArray, List.set_cons_zero, List.set_cons_succ]
              refine St.ob_call Try.func17 (by kernel_rfl) rfl #[.pointer (some ⟨g, 0, none⟩), .string s] (by rfl) rfl (by (try simp only [List.map_toArray, List.map_cons, List.map_nil]); first | done | rfl | (simp only [List.length_drop, List.length_take]; rfl)) ?_
              refine (count_x HN.out.2 HSZ.out hB.exX.choose_spec).mono ?_
              rintro e w1 ⟨rfl, rfl⟩
              refine ⟨_, rfl, Below.refl _ _, ?_⟩
              rfl
            · intro w hB; rintro _ ⟨_, rfl⟩
              simp only [St.withD, List.nil_append, List.cons_append, Act.put, List.setIfInBounds_toArray, List.set_cons_zero, List.set_cons_succ]
              refine St.ob_value (v := ?_) (w' := w) (by rfl) ?_ ⟨Below.refl _ _, ?_⟩
              rotate_left
              · go_simp
                with_reducible rfl
              · rfl
            · intro w hB; rintro _ ⟨_, rfl⟩ _ ⟨_, rfl⟩ _ ⟨_, rfl⟩
              simp only [St.withD, List.nil_append, List.cons_append, Act.put, List.setIfInBounds_toArray, List.set_cons_zero, List.set_cons_succ]
              refine St.ob_value (v := .bool false) (w' := w) (by rfl) ?_ ⟨Below.refl _ _, rfl⟩
              clear hB
              go_simp
              try rfl
            · intro w hB; rintro _ ⟨_, rfl⟩ _ ⟨_, rfl⟩
              simp only [St.withD, List.nil_append, List.cons_append, Act.put, List.setIfInBounds_toArray, List.set_cons_zero, List.set_cons_succ]
              refine St.ob_value (v := ?_) (w' := w) (by rfl) ?_ ⟨Below.refl _ _, ?_⟩
              rotate_left
              · go_simp
                with_reducible rfl
              · rfl
          case hst => exact ⟨St.eqT_st, St.eqT_st, St.eqT_st, St.eqT_st, St.eqT_st, St.eqT_st, St.eqT_st, St.eqT_st, St.eqT_st, St.eqT_st, St.eqT_st, St.eqT_st, St.eqT_st, St.eqT_st, St.eqT_st, St.eqT_st, St.eqT_st, St.eqT_st, St.eqT_st, St.eqT_st, trivial⟩
          case h0 => exact HT.out.from fam_xt fam_yp (below_drew1 (Below.refl _ _))
          case hB => exact fun w w' h k => h.from fam_xt fam_yp k
          case hend =>
            intro w hB
            rintro _ rfl _ rfl _ rfl _ rfl _ rfl _ rfl _ rfl _ rfl _ rfl _ rfl _ rfl _ rfl _ rfl _ rfl _ rfl _ rfl _ rfl _ rfl _ rfl _ rfl
            simp only [List.map_cons, List.map_nil, List.nil_append, List.cons_append, List.getD_cons_zero, List.getD_cons_succ, Act.put, List.setIfInBounds_toArray, List.set_cons_zero, List.set_cons_succ]
            rw [St.withE_nil]
            have HT3 : Aside0 (Duo w0.heap.size w0 none (XT w0.heap.size g md room L) (YT w0.heap.size b room L) w) := ⟨hB.unnamed.bare⟩
            clear hB HT
            go_wp2
            go_roundg (gk - 1)
            case measure => have := HK.out; omega
            case rel => exact ⟨k + 1, L, ⟨by have := HK.out; omega⟩, by go_num, HM, HT3⟩
    · have hkl : ¬ (k : Int) < len := by omega
      go_wp2_with fail
      refine (top_is 1000 HT.out.exX.choose_spec).mono ?_
      rintro e w3 ⟨tv, rfl, ht, hb3⟩
      have HT2 := Aside0.mk (HT.out.from fam_xt fam_yt hb3)
      have HTV := Aside0.mk ht
      clear ht hb3
      go_wp2_with fail
      refine (ranked_y HTV.out HT2.out.exY.choose_spec HM.out.1 HM.out.2).mono ?_
      rintro e w4 ⟨rfl, hb4⟩
      have HB4 := Aside0.mk (below_step HT2.out.bel hb4)
      clear hb4
      go_wp2
      go_ret
      exact ⟨rfl, HB4.out⟩
end Go.Proofs.Ytfijbhacobjjgah
