/- The walk of SchedRuns: it answers true. -/
import Derived.Test.YtfijbhacobjjgagRunsB
import Derived.Deep.CutBlock
namespace Go.Proofs.Ytfijbhacobjjgag
open Go.RowKit Go.Proofs.YtfijbhacobjjgagW.PrintWords Go.Proofs.YtfijbhacobjjgagW.PrintLast Go.Proofs.YtfijbhacobjjgagW.PrintMore Go.Proofs.Ytfijbhacobjjgag.Fr
set_option linter.unusedVariables false
set_option linter.unusedSimpArgs false
attribute [local go_sem] max2_int min2_int max_two min_two

open Pl Hp
set_option maxHeartbeats 8000000 in
set_option maxRecDepth 100000 in
theorem runs_walk (A : Option Addr) (len ca : Nat) (w0 : World) (hd : IsDeeds w0 A len ca) :
    Calls Try.prog 4 #[.slice A len ca] w0 fun e w' => e = .returned (.bool true) ∧ Below w0.heap.size w0 w' := by
  obtain ⟨hcap, hds⟩ := hd
  have HB := Aside0.mk (Below.refl w0.heap.size w0)
  by_cases hbig : 120 < len
  · go_enter Try.func4, Try.ntmps4
    go_wp2_with ((go_at_call 6; refine (awake_any _).mono ?_; rintro e w1 ⟨rfl, hb⟩; have zz_HB := Aside0.mk (below_step HB.out hb); clear HB; have HB := zz_HB; clear zz_HB; clear hb))
    go_ret
    exact ⟨rfl, HB.out⟩
  have hl120 : len ≤ 120 := by omega
  have HD := Aside0.mk hds
  clear hds hbig
  go_enter Try.func4, Try.ntmps4
  go_wp2_with ((go_at_call 6; refine (awake_any _).mono ?_; rintro e w1 ⟨rfl, hb⟩; have zz_HB := Aside0.mk (below_step HB.out hb); clear HB; have HB := zz_HB; clear zz_HB; clear hb))
  refine (new_any w1).mono ?_
  rintro e w2 ⟨s, rfl, hs, hb⟩
  have HT := Aside0.mk (duo_start (v := .slice none 0 0) ⟨hs.box, own_less hs.row HB.out.size, hs.ne, Nat.le_trans HB.out.size hs.lo⟩ (below_step HB.out hb))
  clear hs hb HB
  go_wp2_with fail
  generalize w2.alloc (.cells #[.int .i64 0, .slice none 0 0, .slice none 0 0] 38) = W at HT ⊢
  generalize w2.heap.size = b at HT ⊢
  go_loopg [24] len (fun d x24 wr => ∃ (k : Nat) (now ord : Int) (D : List E), Aside0 (k + d = len) ∧ x24 = .int .i64 k ∧ Aside0 (MK k now ord D) ∧ Aside0 (Duo w0.heap.size w0 none (XD w0.heap.size s now ord D) (YD w0.heap.size b now D) wr))
  case atStart => exact ⟨0, 0, 0, [], ⟨by omega⟩, rfl, ⟨MK.start⟩, HT⟩
  case round =>
    clear HT
    obtain ⟨k, now, ord, D, HK, rfl, HM, HT⟩ := hrel
    by_cases hlt : k < len
    · obtain ⟨⟨kd, nn, a⟩, hx, hk0, hk1, hwn⟩ := HD.out k hlt
      obtain ⟨ad, rfl, hc0, hc1, hc2, hc3, hc4, hc5, hc6⟩ := hx.below HT.out.bel
      clear hx
      simp only at hc0 hc1 hc2 hc3 hc4 hc5 hc6 hk0 hk1 hwn
      rw [cell_off _ (by decide)] at hc1 hc2 hc3 hc4 hc5 hc6
      have hk2 : k < 120 := by omega
      by_cases h20 : 20 < a.s.size
      · have h3 : (20 : Int) < (a.s.size : Int) := by omega
        go_wp2
        go_ret
        exact ⟨rfl, below_alloc HT.out.bel _⟩
      have h3 : (a.s.size : Int) ≤ 20 := by omega
      have HQ := Aside0.mk hwn
      clear hwn h20
      go_upto_block 2 with fail
      have hal := HT.out.with fam_xd fam_yd (.cells #[.int .u8 kd, .int .i64 nn, .int .i64 a.k, .int .i64 a.nd, .int .i64 a.n, .bool a.up, .string a.s] 40)
      have zz_HT := Aside0.mk (hal); clear HT; have HT := zz_HT; clear zz_HT
      clear hal hc0 hc1 hc2 hc3 hc4 hc5 hc6
      generalize wr.alloc (.cells #[.int .u8 kd, .int .i64 nn, .int .i64 a.k, .int .i64 a.nd, .int .i64 a.n, .bool a.up, .string a.s] 40) = W1 at HT ⊢
      generalize wr.heap.size = gx at HT ⊢
      go_cut [7, 8, 9, 10, 11] from 36 to 110 (fun x7 x8 x9 x10 x11 W2 => x7 = .bool true ∧ ∃ (now ord : Int) (D : List E), Aside0 (MK (k + 1) now ord D) ∧ Aside0 (Duo w0.heap.size w0 none (XD w0.heap.size s now ord D) (YD w0.heap.size b now D) W2))
      case first =>
        have cx1 : W1.cell? ⟨gx, 1, none⟩ = some (.int .i64 nn) := (blk_cell HT.out.box 1).trans rfl
        have hm : kd % 5 = 0 ∨ kd % 5 = 1 ∨ kd % 5 = 2 ∨ kd % 5 = 3 ∨ kd % 5 = 4 := by omega
        have ht5 : kd.tmod 5 = kd % 5 := Int.tmod_eq_emod_of_nonneg hk0
        have PIN := Aside0.mk HT.out.pin
        rcases hm with hm | hm | hm | hm | hm
        · have hq0 : (kd % 5 == 0) = true := beq_iff_eq.2 (by omega)
          have pq0 : (kd.tmod 5 == 0) = true := beq_iff_eq.2 (by rw [ht5]; omega)
          clear hm hk0 hk1 ht5
          obtain ⟨FX, FY, _, _, hp⟩ := PIN.out
          have HP := Aside0.mk hp
          clear hp PIN cx1
          go_upto_region 14 with fail
          go_wp2
          refine St.steadyG (n := 14) (by kernel_rfl) ([] :: [] :: [(1, 39)] :: [] :: [(3, 41)] :: [(0, 38), (2, 40), (4, 42)] :: [] :: [] :: [(7, 45)] :: [] :: [(9, 47)] :: [(6, 44), (8, 46), (10, 48)] :: [(5, 43), (11, 49)] :: [(12, 50)] :: []) (some 38 :: some 39 :: some 40 :: some 41 :: some 42 :: some 43 :: some 44 :: some 45 :: some 46 :: some 47 :: some 48 :: some 49 :: some 50 :: some 7 :: []) (by kernel_rfl) ((St.eqT ?c14_0x13) :: (St.eqT ?c14_1x13) :: (St.eqT ?c14_2x13) :: (St.eqT ?c14_3x13) :: (St.eqT ?c14_4x13) :: (St.eqT ?c14_5x13) :: (St.eqT ?c14_6x13) :: (St.eqT ?c14_7x13) :: (St.eqT ?c14_8x13) :: (St.eqT ?c14_9x13) :: (St.eqT ?c14_10x13) :: (St.eqT ?c14_11x13) :: (St.eqT ?c14_12x13) :: (St.eqT ?c14_13x13) :: []) rfl (by rfl) (fun fl w' => Gd w0.heap.size w0 (some (gx, (.cells #[.int .u8 kd, .int .i64 nn, .int .i64 a.k, .int .i64 a.nd, .int .i64 a.n, .bool a.up, .string a.s] 40 (0, 0)))) (XD w0.heap.size s now ord D) (XD w0.heap.size s now (ord + 1) (ins D ⟨putT now nn, ord + 1, a⟩)) (YD w0.heap.size b now D) (YD w0.heap.size b now (ins D ⟨putT now nn, ord + 1, a⟩)) FX FY (fl 5) (fl 11) w' ∧ W1.heap.size ≤ w'.heap.size) (fun i wa wb => (i = 5 → Turned (XD w0.heap.size s now (ord + 1) (ins D ⟨putT now nn, ord + 1, a⟩)) FX wa wb) ∧ (i = 11 → Turned (YD w0.heap.size b now (ins D ⟨putT now nn, ord + 1, a⟩)) FY wa wb) ∧ (i ≠ 5 → i ≠ 11 → Below wa.heap.size wa wb)) ?hst ?h0 (fun i w' => ∃ p q, Gd w0.heap.size w0 (some (gx, (.cells #[.int .u8 kd, .int .i64 nn, .int .i64 a.k, .int .i64 a.nd, .int .i64 a.n, .bool a.up, .string a.s] 40 (0, 0)))) (XD w0.heap.size s now ord D) (XD w0.heap.size s now (ord + 1) (ins D ⟨putT now nn, ord + 1, a⟩)) (YD w0.heap.size b now D) (YD w0.heap.size b now (ins D ⟨putT now nn, ord + 1, a⟩)) FX FY p q w' ∧ (i = 5 → p = false) ∧ (i = 11 → q = false) ∧ W1.heap.size ≤ w'.heap.size) ?hB ?hG ?hop ?hend
          case hop =>
            refine ⟨?_, ?_, ?_, ?_, ?_, ?_, ?_, ?_, ?_, ?_, ?_, ?_, ?_, ?_, trivial⟩
            · intro w hB
              simp only [St.withD]
              refine St.ob_value (v := ?_) (w' := w) (by rfl) ?_ ⟨⟨fun e => absurd e (by decide), fun e => absurd e (by decide), fun _ _ => Below.refl _ _⟩, ?_⟩
              rotate_left
              · go_simp
                with_reducible rfl
              · rfl
            · intro w hB
              simp only [St.withD]
              refine St.ob_value (v := ?_) (w' := w) (by rfl) ?_ ⟨⟨fun e => absurd e (by decide), fun e => absurd e (by decide), fun _ _ => Below.refl _ _⟩, ?_⟩
              rotate_left
              · go_simp
                with_reducible rfl
              · rfl
            · intro w hB; rintro _ ⟨_, rfl⟩
              simp only [St.withD, List.nil_append, List.cons_append, Act.put, List.setIfInBounds_toArray, List.set_cons_zero, List.set_cons_succ]
              have hbox := hB.choose_spec.choose_spec.1.box
              have cx1 : w.cell? ⟨gx, 1, none⟩ = some (.int .i64 nn) := (blk_cell hbox 1).trans rfl
              have cx2 : w.cell? ⟨gx, 2, none⟩ = some (.int .i64 a.k) := (blk_cell hbox 2).trans rfl
              have cx3 : w.cell? ⟨gx, 3, none⟩ = some (.int .i64 a.nd) := (blk_cell hbox 3).trans rfl
              have cx4 : w.cell? ⟨gx, 4, none⟩ = some (.int .i64 a.n) := (blk_cell hbox 4).trans rfl
              have cx5 : w.cell? ⟨gx, 5, none⟩ = some (.bool a.up) := (blk_cell hbox 5).trans rfl
              have cx6 : w.cell? ⟨gx, 6, none⟩ = some (.string a.s) := (blk_cell hbox 6).trans rfl
              refine St.ob_value (v := ?_) (w' := w) (by rfl) ?_ ⟨⟨fun e => absurd e (by decide), fun e => absurd e (by decide), fun _ _ => Below.refl _ _⟩, ?_⟩
              rotate_left
              · go_simp
                with_reducible rfl
              · rfl
            · intro w hB
              simp only [St.withD]
              refine St.ob_value (v := ?_) (w' := w) (by rfl) ?_ ⟨⟨fun e => absurd e (by decide), fun e => absurd e (by decide), fun _ _ => Below.refl _ _⟩, ?_⟩
              rotate_left
              · go_simp
                with_reducible rfl
              · rfl
            · intro w hB; rintro _ ⟨_, rfl⟩
              simp only [St.withD, List.nil_append, List.cons_append, Act.put, List.setIfInBounds_toArray, List.set_cons_zero, List.set_cons_succ]
              have hbox := hB.choose_spec.choose_spec.1.box
              have cx1 : w.cell? ⟨gx, 1, none⟩ = some (.int .i64 nn) := (blk_cell hbox 1).trans rfl
              have cx2 : w.cell? ⟨gx, 2, none⟩ = some (.int .i64 a.k) := (blk_cell hbox 2).trans rfl
              have cx3 : w.cell? ⟨gx, 3, none⟩ = some (.int .i64 a.nd) := (blk_cell hbox 3).trans rfl
              have cx4 : w.cell? ⟨gx, 4, none⟩ = some (.int .i64 a.n) := (blk_cell hbox 4).trans rfl
              have cx5 : w.cell? ⟨gx, 5, none⟩ = some (.bool a.up) := (blk_cell hbox 5).trans rfl
              have cx6 : w.cell? ⟨gx, 6, none⟩ = some (.string a.s) := (blk_cell hbox 6).trans rfl
              refine St.ob_value (v := ?_) (w' := w) (by rfl) ?_ ⟨⟨fun e => absurd e (by decide), fun e => absurd e (by decide), fun _ _ => Below.refl _ _⟩, ?_⟩
              rotate_left
              · go_simp
                with_reducible rfl
              · rfl
            · intro w hB; rintro _ ⟨_, rfl⟩ _ ⟨_, rfl⟩ _ ⟨_, rfl⟩
              simp only [St.withD, List.nil_append, List.cons_append, Act.put, List.setIfInBounds_toArray, List.set_cons_zero, List.set_cons_succ]
              obtain ⟨p, q, hR, hp3, _, hsw⟩ := hB
              have e := hp3 rfl
              subst e
              have hRB := Gd.hB hR
              refine St.ob_call Try.func8 (by kernel_rfl) rfl #[.pointer (some ⟨s, 0, none⟩), .int .i64 nn, (.agg #[.int .i64 a.k, .int .i64 a.nd, .int .i64 a.n, .bool a.up, .string a.s])] (by rfl) rfl (by (try simp only [List.map_toArray, List.map_cons, List.map_nil]); first | done | rfl | (simp only [List.length_drop, List.length_take]; rfl)) ?_
              refine (put_x nn a (Duo.getX hR) hRB (by have := HM.out.len; omega) HM.out.n0 HM.out.n1 HM.out.o0 (by have := HM.out.o1; omega)).mono ?_
              rintro e w1 ⟨rfl, ht⟩
              refine ⟨_, rfl, ⟨fun _ => ht, fun e => absurd e (by decide), fun e => absurd rfl e⟩, ?_⟩
              rfl
            · intro w hB
              simp only [St.withD]
              refine St.ob_value (v := ?_) (w' := w) (by rfl) ?_ ⟨⟨fun e => absurd e (by decide), fun e => absurd e (by decide), fun _ _ => Below.refl _ _⟩, ?_⟩
              rotate_left
              · go_simp
                with_reducible rfl
              · rfl
            · intro w hB
              simp only [St.withD]
              refine St.ob_value (v := ?_) (w' := w) (by rfl) ?_ ⟨⟨fun e => absurd e (by decide), fun e => absurd e (by decide), fun _ _ => Below.refl _ _⟩, ?_⟩
              rotate_left
              · go_simp
                with_reducible rfl
              · rfl
            · intro w hB; rintro _ ⟨_, rfl⟩
              simp only [St.withD, List.nil_append, List.cons_append, Act.put, List.setIfInBounds_toArray, List.set_cons_zero, List.set_cons_succ]
              have hbox := hB.choose_spec.choose_spec.1.box
              have cx1 : w.cell? ⟨gx, 1, none⟩ = some (.int .i64 nn) := (blk_cell hbox 1).trans rfl
              have cx2 : w.cell? ⟨gx, 2, none⟩ = some (.int .i64 a.k) := (blk_cell hbox 2).trans rfl
              have cx3 : w.cell? ⟨gx, 3, none⟩ = some (.int .i64 a.nd) := (blk_cell hbox 3).trans rfl
              have cx4 : w.cell? ⟨gx, 4, none⟩ = some (.int .i64 a.n) := (blk_cell hbox 4).trans rfl
              have cx5 : w.cell? ⟨gx, 5, none⟩ = some (.bool a.up) := (blk_cell hbox 5).trans rfl
              have cx6 : w.cell? ⟨gx, 6, none⟩ = some (.string a.s) := (blk_cell hbox 6).trans rfl
              refine St.ob_value (v := ?_) (w' := w) (by rfl) ?_ ⟨⟨fun e => absurd e (by decide), fun e => absurd e (by decide), fun _ _ => Below.refl _ _⟩, ?_⟩
              rotate_left
              · go_simp
                with_reducible rfl
              · rfl
            · intro w hB
              simp only [St.withD]
              refine St.ob_value (v := ?_) (w' := w) (by rfl) ?_ ⟨⟨fun e => absurd e (by decide), fun e => absurd e (by decide), fun _ _ => Below.refl _ _⟩, ?_⟩
              rotate_left
              · go_simp
                with_reducible rfl
              · rfl
            · intro w hB; rintro _ ⟨_, rfl⟩
              simp only [St.withD, List.nil_append, List.cons_append, Act.put, List.setIfInBounds_toArray, List.set_cons_zero, List.set_cons_succ]
              have hbox := hB.choose_spec.choose_spec.1.box
              have cx1 : w.cell? ⟨gx, 1, none⟩ = some (.int .i64 nn) := (blk_cell hbox 1).trans rfl
              have cx2 : w.cell? ⟨gx, 2, none⟩ = some (.int .i64 a.k) := (blk_cell hbox 2).trans rfl
              have cx3 : w.cell? ⟨gx, 3, none⟩ = some (.int .i64 a.nd) := (blk_cell hbox 3).trans rfl
              have cx4 : w.cell? ⟨gx, 4, none⟩ = some (.int .i64 a.n) := (blk_cell hbox 4).trans rfl
              have cx5 : w.cell? ⟨gx, 5, none⟩ = some (.bool a.up) := (blk_cell hbox 5).trans rfl
              have cx6 : w.cell? ⟨gx, 6, none⟩ = some (.string a.s) := (blk_cell hbox 6).trans rfl
              refine St.ob_value (v := ?_) (w' := w) (by rfl) ?_ ⟨⟨fun e => absurd e (by decide), fun e => absurd e (by decide), fun _ _ => Below.refl _ _⟩, ?_⟩
              rotate_left
              · go_simp
                with_reducible rfl
              · rfl
            · intro w hB; rintro _ ⟨_, rfl⟩ _ ⟨_, rfl⟩ _ ⟨_, rfl⟩
              simp only [St.withD, List.nil_append, List.cons_append, Act.put, List.setIfInBounds_toArray, List.set_cons_zero, List.set_cons_succ]
              obtain ⟨p, q, hR, _, hp7, hsw⟩ := hB
              have e := hp7 rfl
              subst e
              have hRB := Gd.hB hR
              refine St.ob_call Try.func12 (by kernel_rfl) rfl #[.pointer (some ⟨b, 0, none⟩), .int .i64 nn, (.agg #[.int .i64 a.k, .int .i64 a.nd, .int .i64 a.n, .bool a.up, .string a.s])] (by rfl) rfl (by (try simp only [List.map_toArray, List.map_cons, List.map_nil]); first | done | rfl | (simp only [List.length_drop, List.length_take]; rfl)) ?_
              refine (put_y nn a (ord + 1) (Duo.getY hR) hRB (by have := HM.out.len; omega) HM.out.n0 HM.out.n1).mono ?_
              rintro e w1 ⟨rfl, ht⟩
              refine ⟨_, rfl, ⟨fun e => absurd e (by decide), fun _ => ht, fun _ e => absurd rfl e⟩, ?_⟩
              rfl
            · intro w hB; rintro _ ⟨_, rfl⟩ _ ⟨_, rfl⟩
              simp only [St.withD, List.nil_append, List.cons_append, Act.put, List.setIfInBounds_toArray, List.set_cons_zero, List.set_cons_succ]
              refine St.ob_value (v := ?_) (w' := w) (by rfl) ?_ ⟨⟨fun e => absurd e (by decide), fun e => absurd e (by decide), fun _ _ => Below.refl _ _⟩, ?_⟩
              rotate_left
              · go_simp
                with_reducible rfl
              · rfl
            · intro w hB; rintro _ ⟨_, rfl⟩
              simp only [St.withD, List.nil_append, List.cons_append, Act.put, List.setIfInBounds_toArray, List.set_cons_zero, List.set_cons_succ]
              refine St.ob_value (v := ?_) (w' := w) (by rfl) ?_ ⟨⟨fun e => absurd e (by decide), fun e => absurd e (by decide), fun _ _ => Below.refl _ _⟩, ?_⟩
              rotate_left
              · go_simp
                with_reducible rfl
              · rfl
          case hst =>
            intro i j fl hi hj _ _ _ ds v wa wb ht _
            refine St.sts_get (Rel := fun _ _ _ => True) 0 _ j (by simpa using hj) ?_ ds v wa wb ht trivial
            exact ⟨St.eqT_st, St.eqT_st, St.eqT_st, St.eqT_st, St.eqT_st, St.eqT_st, St.eqT_st, St.eqT_st, St.eqT_st, St.eqT_st, St.eqT_st, St.eqT_st, St.eqT_st, St.eqT_st, trivial⟩
          case h0 => exact ⟨Gd.from (p := false) (q := false) HP.out fam_xd fam_xd fam_yd fam_yd (below_drew1 (Below.refl _ _)), Nat.le_refl _⟩
          case hB => exact (by
            intro i fl w' hi hfi _ hcl hG
            refine ⟨_, _, hG.1, ?_, ?_, hG.2⟩
            · exact fun e => by subst e; exact hfi
            · exact fun e => by subst e; exact hfi)
          case hG => (
            intro i fl wa wb hi hfi _ _ hG hR
            obtain ⟨hG, hsw⟩ := hG
            refine ⟨?_, Nat.le_trans hsw ?_⟩
            rotate_left
            · by_cases h3 : i = 5
              · obtain ⟨_, _, hc, _⟩ := hR.1 h3; exact hc.size
              · by_cases h7 : i = 11
                · obtain ⟨_, _, hc, _⟩ := hR.2.1 h7; exact hc.size
                · exact (hR.2.2 h3 h7).size
            by_cases h3 : i = 5
            · subst h3
              rw [hfi] at hG
              have hk := Gd.left hG fam_xd fam_yd fam_yd (hR.1 rfl)
              simpa [St.upB] using hk
            · by_cases h7 : i = 11
              · subst h7
                rw [hfi] at hG
                have hk := Gd.right hG fam_xd fam_xd fam_yd (hR.2.1 rfl)
                simpa [St.upB] using hk
              · have e := Gd.from hG fam_xd fam_xd fam_yd fam_yd (hR.2.2 h3 h7)
                have e3 : St.upB fl i 5 = fl 5 := by unfold St.upB; rw [if_neg (Ne.symm h3)]
                have e7 : St.upB fl i 11 = fl 11 := by unfold St.upB; rw [if_neg (Ne.symm h7)]
                simpa only [e3, e7] using e)
          case hend =>
            intro fl w hall hB
            rintro _ rfl _ rfl _ rfl _ rfl _ rfl _ rfl _ rfl _ rfl _ rfl _ rfl _ rfl _ rfl _ rfl _ rfl
            simp only [List.map_cons, List.map_nil, List.nil_append, List.cons_append, List.getD_cons_zero, List.getD_cons_succ, Act.put, List.setIfInBounds_toArray, List.set_cons_zero, List.set_cons_succ]
            rw [St.withE_nil]
            have HT : Aside0 (Duo w0.heap.size w0 none (XD w0.heap.size s now (ord + 1) (ins D ⟨putT now nn, ord + 1, a⟩)) (YD w0.heap.size b now (ins D ⟨putT now nn, ord + 1, a⟩)) w) := ⟨by have h3 := hall 5 (by decide); have h7 := hall 11 (by decide); rw [h3, h7] at hB; exact Duo.bare hB.1⟩
            clear hB hall HP
            go_wp2_with fail
            go_meet
            case rel => exact ⟨rfl, now, ord + 1, _, ⟨HM.out.put nn a⟩, HT⟩
        · have hq0 : (kd % 5 == 0) = false := beq_eq_false_iff_ne.2 (by omega)
          have pq0 : (kd.tmod 5 == 0) = false := beq_eq_false_iff_ne.2 (by rw [ht5]; omega)
          have hq1 : (kd % 5 == 1) = true := beq_iff_eq.2 (by omega)
          have pq1 : (kd.tmod 5 == 1) = true := beq_iff_eq.2 (by rw [ht5]; omega)
          clear hm hk0 hk1 ht5
          clear PIN cx1
          go_upto_region 16 with fail
          obtain ⟨FX, hx, hgo⟩ := HT.out.goX fam_xd fam_yd
          have HG := Aside0.mk hgo
          rcases D with _ | ⟨y, r⟩
          · go_wp2_with fail
            refine (next_xn hx).mono ?_
            rintro e w3 ⟨rfl, hb3⟩
            have HT3 := Aside0.mk ((HT.out.bare.from fam_xd fam_yd hb3).with fam_xd fam_yd (.cells #[.int .i64 0, .int .i64 0, .int .i64 0, .bool false, .string ⟨#[]⟩] 28))
            clear hx hgo hb3 HG HT
            go_upto_region 17 with fail
            generalize w3.alloc (.cells #[.int .i64 0, .int .i64 0, .int .i64 0, .bool false, .string ⟨#[]⟩] 28) = W3 at HT3 ⊢
            generalize w3.heap.size = x8 at HT3 ⊢
            obtain ⟨FY, hy, hgo⟩ := HT3.out.goY fam_xd fam_yd
            clear hgo
            go_wp2_with fail
            refine (next_yn hy).mono ?_
            rintro e w4 ⟨rfl, hb4⟩
            have HT4 : Aside0 (Duo w0.heap.size w0 none (XD w0.heap.size s now ord []) (YD w0.heap.size b now []) (w4.alloc (.cells #[.int .i64 0, .int .i64 0, .int .i64 0, .bool false, .string ⟨#[]⟩] 28)) ∧ (w4.alloc (.cells #[.int .i64 0, .int .i64 0, .int .i64 0, .bool false, .string ⟨#[]⟩] 28)).heap[x8]? = some (.cells #[.int .i64 0, .int .i64 0, .int .i64 0, .bool false, .string ⟨#[]⟩] 28 (0, 0)) ∧ (w4.alloc (.cells #[.int .i64 0, .int .i64 0, .int .i64 0, .bool false, .string ⟨#[]⟩] 28)).heap[w4.heap.size]? = some (.cells #[.int .i64 0, .int .i64 0, .int .i64 0, .bool false, .string ⟨#[]⟩] 28 (0, 0))) := ⟨(HT3.out.bare.from fam_xd fam_yd hb4).from fam_xd fam_yd (below_alloc (Below.refl _ _) _), blk_below (blk_below HT3.out.box hb4) (below_alloc (Below.refl _ _) _), blk_new _ _⟩
            clear hy hb4 HT3
            go_upto_region 18 with fail
            generalize w4.alloc (.cells #[.int .i64 0, .int .i64 0, .int .i64 0, .bool false, .string ⟨#[]⟩] 28) = W4 at HT4 ⊢
            generalize w4.heap.size = x10 at HT4 ⊢
            have heq := act_eq ⟨0, 0, 0, false, ⟨#[]⟩⟩ W4
            unfold actV at heq
            have x80 : W4.cell? ⟨x8, 0, none⟩ = some (.int .i64 0) := (blk_cell HT4.out.2.1 0).trans rfl
            have x81 : W4.cell? ⟨x8, 1, none⟩ = some (.int .i64 0) := (blk_cell HT4.out.2.1 1).trans rfl
            have x82 : W4.cell? ⟨x8, 2, none⟩ = some (.int .i64 0) := (blk_cell HT4.out.2.1 2).trans rfl
            have x83 : W4.cell? ⟨x8, 3, none⟩ = some (.bool false) := (blk_cell HT4.out.2.1 3).trans rfl
            have x84 : W4.cell? ⟨x8, 4, none⟩ = some (.string ⟨#[]⟩) := (blk_cell HT4.out.2.1 4).trans rfl
            have x100 : W4.cell? ⟨x10, 0, none⟩ = some (.int .i64 0) := (blk_cell HT4.out.2.2 0).trans rfl
            have x101 : W4.cell? ⟨x10, 1, none⟩ = some (.int .i64 0) := (blk_cell HT4.out.2.2 1).trans rfl
            have x102 : W4.cell? ⟨x10, 2, none⟩ = some (.int .i64 0) := (blk_cell HT4.out.2.2 2).trans rfl
            have x103 : W4.cell? ⟨x10, 3, none⟩ = some (.bool false) := (blk_cell HT4.out.2.2 3).trans rfl
            have x104 : W4.cell? ⟨x10, 4, none⟩ = some (.string ⟨#[]⟩) := (blk_cell HT4.out.2.2 4).trans rfl
            have HT : Aside0 (Duo w0.heap.size w0 none (XD w0.heap.size s now ord []) (YD w0.heap.size b now []) W4) := ⟨HT4.out.1⟩
            clear HT4
            go_wp2
            go_meet
            case rel => exact ⟨rfl, now, ord, [], ⟨HM.out.more⟩, HT⟩
          · go_wp2_with fail
            refine (next_x hx (by have := HM.out.len; simp at this; omega)).mono ?_
            rintro e w3 ⟨rfl, ht3⟩
            have HT3 := Aside0.mk ((HG.out _ _ ht3).bare.with fam_xd fam_yd (.cells #[.int .i64 y.a.k, .int .i64 y.a.nd, .int .i64 y.a.n, .bool y.a.up, .string y.a.s] 28))
            clear hx hgo ht3 HG HT
            unfold actV
            go_upto_region 17 with fail
            generalize w3.alloc (.cells #[.int .i64 y.a.k, .int .i64 y.a.nd, .int .i64 y.a.n, .bool y.a.up, .string y.a.s] 28) = W3 at HT3 ⊢
            generalize w3.heap.size = x8 at HT3 ⊢
            obtain ⟨FY, hy, hgo⟩ := HT3.out.goY fam_xd fam_yd
            have HG := Aside0.mk hgo
            clear hgo
            go_wp2_with fail
            refine (next_y hy).mono ?_
            rintro e w4 ⟨rfl, ht4⟩
            have HT4 : Aside0 (Duo w0.heap.size w0 none (XD w0.heap.size s (max now y.t) ord r) (YD w0.heap.size b (max now y.t) r) (w4.alloc (.cells #[.int .i64 y.a.k, .int .i64 y.a.nd, .int .i64 y.a.n, .bool y.a.up, .string y.a.s] 28)) ∧ (w4.alloc (.cells #[.int .i64 y.a.k, .int .i64 y.a.nd, .int .i64 y.a.n, .bool y.a.up, .string y.a.s] 28)).heap[x8]? = some (.cells #[.int .i64 y.a.k, .int .i64 y.a.nd, .int .i64 y.a.n, .bool y.a.up, .string y.a.s] 28 (0, 0)) ∧ (w4.alloc (.cells #[.int .i64 y.a.k, .int .i64 y.a.nd, .int .i64 y.a.n, .bool y.a.up, .string y.a.s] 28)).heap[w4.heap.size]? = some (.cells #[.int .i64 y.a.k, .int .i64 y.a.nd, .int .i64 y.a.n, .bool y.a.up, .string y.a.s] 28 (0, 0))) := ⟨(HG.out _ _ ht4).bare.from fam_xd fam_yd (below_alloc (Below.refl _ _) _), blk_below (HG.out _ _ ht4).box (below_alloc (Below.refl _ _) _), blk_new _ _⟩
            clear hy ht4 HT3 HG
            unfold actV
            go_upto_region 18 with fail
            generalize w4.alloc (.cells #[.int .i64 y.a.k, .int .i64 y.a.nd, .int .i64 y.a.n, .bool y.a.up, .string y.a.s] 28) = W4 at HT4 ⊢
            generalize w4.heap.size = x10 at HT4 ⊢
            have heq := act_eq y.a W4
            unfold actV at heq
            have x80 : W4.cell? ⟨x8, 0, none⟩ = some (.int .i64 y.a.k) := (blk_cell HT4.out.2.1 0).trans rfl
            have x81 : W4.cell? ⟨x8, 1, none⟩ = some (.int .i64 y.a.nd) := (blk_cell HT4.out.2.1 1).trans rfl
            have x82 : W4.cell? ⟨x8, 2, none⟩ = some (.int .i64 y.a.n) := (blk_cell HT4.out.2.1 2).trans rfl
            have x83 : W4.cell? ⟨x8, 3, none⟩ = some (.bool y.a.up) := (blk_cell HT4.out.2.1 3).trans rfl
            have x84 : W4.cell? ⟨x8, 4, none⟩ = some (.string y.a.s) := (blk_cell HT4.out.2.1 4).trans rfl
            have x100 : W4.cell? ⟨x10, 0, none⟩ = some (.int .i64 y.a.k) := (blk_cell HT4.out.2.2 0).trans rfl
            have x101 : W4.cell? ⟨x10, 1, none⟩ = some (.int .i64 y.a.nd) := (blk_cell HT4.out.2.2 1).trans rfl
            have x102 : W4.cell? ⟨x10, 2, none⟩ = some (.int .i64 y.a.n) := (blk_cell HT4.out.2.2 2).trans rfl
            have x103 : W4.cell? ⟨x10, 3, none⟩ = some (.bool y.a.up) := (blk_cell HT4.out.2.2 3).trans rfl
            have x104 : W4.cell? ⟨x10, 4, none⟩ = some (.string y.a.s) := (blk_cell HT4.out.2.2 4).trans rfl
            have HT : Aside0 (Duo w0.heap.size w0 none (XD w0.heap.size s (max now y.t) ord r) (YD w0.heap.size b (max now y.t) r) W4) := ⟨HT4.out.1⟩
            clear HT4
            go_wp2
            go_meet
            case rel => exact ⟨rfl, _, ord, r, ⟨HM.out.next⟩, HT⟩
        · have hq0 : (kd % 5 == 0) = false := beq_eq_false_iff_ne.2 (by omega)
          have pq0 : (kd.tmod 5 == 0) = false := beq_eq_false_iff_ne.2 (by rw [ht5]; omega)
          have hq1 : (kd % 5 == 1) = false := beq_eq_false_iff_ne.2 (by omega)
          have pq1 : (kd.tmod 5 == 1) = false := beq_eq_false_iff_ne.2 (by rw [ht5]; omega)
          have hq2 : (kd % 5 == 2) = true := beq_iff_eq.2 (by omega)
          have pq2 : (kd.tmod 5 == 2) = true := beq_iff_eq.2 (by rw [ht5]; omega)
          clear hm hk0 hk1 ht5
          by_cases hb1 : nn ≤ 1125899906842624
          · by_cases hb2 : -1125899906842624 ≤ nn
            · obtain ⟨FX, FY, hfx, hfy, hp⟩ := PIN.out
              have HP := Aside0.mk hp
              have HFX : Aside0 (∀ i, FX i → i < W1.heap.size) := ⟨fun i hi => (fam_xd.lt _ _ _ hfx hi).1⟩
              have HFY : Aside0 (∀ i, FY i → i < W1.heap.size) := ⟨fun i hi => (fam_yd.lt _ _ _ hfy hi).1⟩
              have HWA : Aside0 (IntKind.i64.wrap (now + nn) = now + nn) := ⟨by have := HM.out.n0; have := HM.out.n1; rw [IntKind.wrap_i64]; omega⟩
              obtain ⟨la, hla⟩ : ∃ la, (D.takeWhile (due (now + nn))).map (·.a) = la := ⟨_, rfl⟩
              have HLA := Aside0.mk hla
              have HLL : Aside0 (la.length ≤ 100000) := ⟨by rw [← hla, List.length_map]; have := HM.out.len; have := (List.takeWhile_sublist (l := D) (due (now + nn))).length_le; omega⟩
              clear hp PIN hfx hfy hla
              go_upto_region 21 with fail
              clear cx1
              go_wp2
              refine St.steadyG (n := 18) (by kernel_rfl) ([] :: [] :: [(1, 82)] :: [] :: [(3, 84)] :: [(2, 83), (4, 85)] :: [(0, 81), (5, 86)] :: [] :: [] :: [(8, 89)] :: [(9, 90)] :: [(10, 91)] :: [] :: [(12, 93)] :: [(11, 92), (13, 94)] :: [(7, 88), (14, 95)] :: [(6, 87), (15, 96)] :: [(16, 97)] :: []) (some 81 :: some 82 :: some 83 :: some 84 :: some 85 :: some 86 :: some 87 :: some 88 :: some 89 :: some 90 :: some 91 :: some 92 :: some 93 :: some 94 :: some 95 :: some 96 :: some 97 :: some 7 :: []) (by kernel_rfl) ((St.eqT ?c21_0x15) :: (St.eqT ?c21_1x15) :: (St.eqT ?c21_2x15) :: (St.eqT ?c21_3x15) :: (St.eqT ?c21_4x15) :: (St.eqT (.int .i64 (now + nn))) :: (fun _ v w => ∃ p c, v = .slice (ap p) la.length c ∧ RdC w p (acs la) ∧ ∀ q, p = some q → W1.heap.size ≤ q.1) :: (St.eqT ?c21_7x15) :: (St.eqT ?c21_8x15) :: (St.eqT ?c21_9x15) :: (St.eqT ?c21_10x15) :: (St.eqT (.int .i64 now)) :: (St.eqT ?c21_12x15) :: (St.eqT ?c21_13x15) :: (St.eqT (.int .i64 (now + nn))) :: (fun _ v w => ∃ p c, v = .slice (ap p) la.length c ∧ RdC w p (acs la) ∧ ∀ q, p = some q → W1.heap.size ≤ q.1) :: (St.eqT ?c21_16x15) :: (St.eqT ?c21_17x15) :: []) rfl (by rfl) (fun fl w' => Gd w0.heap.size w0 (some (gx, (.cells #[.int .u8 kd, .int .i64 nn, .int .i64 a.k, .int .i64 a.nd, .int .i64 a.n, .bool a.up, .string a.s] 40 (0, 0)))) (XD w0.heap.size s now ord D) (XD w0.heap.size s (max now (min (now + nn) 1099511627776)) ord (D.dropWhile (due (now + nn)))) (YD w0.heap.size b now D) (YD w0.heap.size b (max now (min (now + nn) 1099511627776)) (D.dropWhile (due (now + nn)))) FX FY (fl 6) (fl 15) w' ∧ W1.heap.size ≤ w'.heap.size) (fun i wa wb => (i = 6 → Turned (XD w0.heap.size s (max now (min (now + nn) 1099511627776)) ord (D.dropWhile (due (now + nn)))) FX wa wb) ∧ (i = 15 → Turned (YD w0.heap.size b (max now (min (now + nn) 1099511627776)) (D.dropWhile (due (now + nn)))) FY wa wb) ∧ (i ≠ 6 → i ≠ 15 → Below wa.heap.size wa wb)) ?hst ?h0 (fun i w' => ∃ p q, Gd w0.heap.size w0 (some (gx, (.cells #[.int .u8 kd, .int .i64 nn, .int .i64 a.k, .int .i64 a.nd, .int .i64 a.n, .bool a.up, .string a.s] 40 (0, 0)))) (XD w0.heap.size s now ord D) (XD w0.heap.size s (max now (min (now + nn) 1099511627776)) ord (D.dropWhile (due (now + nn)))) (YD w0.heap.size b now D) (YD w0.heap.size b (max now (min (now + nn) 1099511627776)) (D.dropWhile (due (now + nn)))) FX FY p q w' ∧ (i = 6 ∨ i = 2 → p = false) ∧ (i = 15 ∨ i = 11 → q = false) ∧ W1.heap.size ≤ w'.heap.size) ?hB ?hG ?hop ?hend
              case hop =>
                refine ⟨?_, ?_, ?_, ?_, ?_, ?_, ?_, ?_, ?_, ?_, ?_, ?_, ?_, ?_, ?_, ?_, ?_, ?_, trivial⟩
                · intro w hB
                  simp only [St.withD]
                  refine St.ob_value (v := ?_) (w' := w) (by rfl) ?_ ⟨⟨fun e => absurd e (by decide), fun e => absurd e (by decide), fun _ _ => Below.refl _ _⟩, ?_⟩
                  rotate_left
                  · go_simp
                    with_reducible rfl
                  · rfl
                · intro w hB
                  simp only [St.withD]
                  refine St.ob_value (v := ?_) (w' := w) (by rfl) ?_ ⟨⟨fun e => absurd e (by decide), fun e => absurd e (by decide), fun _ _ => Below.refl _ _⟩, ?_⟩
                  rotate_left
                  · go_simp
                    with_reducible rfl
                  · rfl
                · intro w hB; rintro _ ⟨_, rfl⟩
                  simp only [St.withD, List.nil_append, List.cons_append, Act.put, List.setIfInBounds_toArray, List.set_cons_zero, List.set_cons_succ]
                  obtain ⟨p, q, hR, hp3, _, _⟩ := hB
                  have e := hp3 (.inr rfl)
                  subst e
                  refine St.ob_call Try.func10 (by kernel_rfl) rfl #[.pointer (some ⟨s, 0, none⟩)] (by rfl) rfl (by (try simp only [List.map_toArray, List.map_cons, List.map_nil]); first | done | rfl | (simp only [List.length_drop, List.length_take]; rfl)) ?_
                  refine (now_x (Duo.getX hR)).mono ?_
                  rintro e w1 ⟨rfl, rfl⟩
                  refine ⟨_, rfl, ⟨fun e => absurd e (by decide), fun e => absurd e (by decide), fun _ _ => Below.refl _ _⟩, ?_⟩
                  rfl
                · intro w hB
                  simp only [St.withD]
                  refine St.ob_value (v := ?_) (w' := w) (by rfl) ?_ ⟨⟨fun e => absurd e (by decide), fun e => absurd e (by decide), fun _ _ => Below.refl _ _⟩, ?_⟩
                  rotate_left
                  · go_simp
                    with_reducible rfl
                  · rfl
                · intro w hB; rintro _ ⟨_, rfl⟩
                  simp only [St.withD, List.nil_append, List.cons_append, Act.put, List.setIfInBounds_toArray, List.set_cons_zero, List.set_cons_succ]
                  have hbox := hB.choose_spec.choose_spec.1.box
                  have cx1 : w.cell? ⟨gx, 1, none⟩ = some (.int .i64 nn) := (blk_cell hbox 1).trans rfl
                  have cx2 : w.cell? ⟨gx, 2, none⟩ = some (.int .i64 a.k) := (blk_cell hbox 2).trans rfl
                  have cx3 : w.cell? ⟨gx, 3, none⟩ = some (.int .i64 a.nd) := (blk_cell hbox 3).trans rfl
                  have cx4 : w.cell? ⟨gx, 4, none⟩ = some (.int .i64 a.n) := (blk_cell hbox 4).trans rfl
                  have cx5 : w.cell? ⟨gx, 5, none⟩ = some (.bool a.up) := (blk_cell hbox 5).trans rfl
                  have cx6 : w.cell? ⟨gx, 6, none⟩ = some (.string a.s) := (blk_cell hbox 6).trans rfl
                  refine St.ob_value (v := ?_) (w' := w) (by rfl) ?_ ⟨⟨fun e => absurd e (by decide), fun e => absurd e (by decide), fun _ _ => Below.refl _ _⟩, ?_⟩
                  rotate_left
                  · go_simp
                    with_reducible rfl
                  · rfl
                · intro w hB; rintro _ ⟨_, rfl⟩ _ ⟨_, rfl⟩
                  simp only [St.withD, List.nil_append, List.cons_append, Act.put, List.setIfInBounds_toArray, List.set_cons_zero, List.set_cons_succ]
                  refine St.ob_value (v := .int .i64 (now + nn)) (w' := w) (by rfl) ?_ ⟨⟨fun e => absurd e (by decide), fun e => absurd e (by decide), fun _ _ => Below.refl _ _⟩, rfl⟩
                  have hwa := HWA.out
                  clear hB
                  go_simp
                · intro w hB; rintro _ ⟨_, rfl⟩ _ ⟨_, rfl⟩
                  simp only [St.withD, List.nil_append, List.cons_append, Act.put, List.setIfInBounds_toArray, List.set_cons_zero, List.set_cons_succ]
                  obtain ⟨p, q, hR, hp3, _, hsw⟩ := hB
                  have e := hp3 (.inl rfl)
                  subst e
                  have hRB := Gd.hB hR
                  refine St.ob_call Try.func15 (by kernel_rfl) rfl #[.pointer (some ⟨s, 0, none⟩), .int .i64 (now + nn)] (by rfl) rfl (by (try simp only [List.map_toArray, List.map_cons, List.map_nil]); first | done | rfl | (simp only [List.length_drop, List.length_take]; rfl)) ?_
                  refine (until_gx HLA.out (Duo.getX hR) hRB (by have := HM.out.len; omega) HM.out.ts).mono ?_
                  rintro e w1 ⟨⟨p, c, rfl, hr, hq⟩, ht⟩
                  refine ⟨_, rfl, ⟨fun _ => ht, fun e => absurd e (by decide), fun e => absurd rfl e⟩, ?_⟩
                  exact ⟨p, c, rfl, hr, fun q e => Nat.le_trans hsw (hq q e)⟩
                · intro w hB
                  simp only [St.withD]
                  refine St.ob_value (v := ?_) (w' := w) (by rfl) ?_ ⟨⟨fun e => absurd e (by decide), fun e => absurd e (by decide), fun _ _ => Below.refl _ _⟩, ?_⟩
                  rotate_left
                  · go_simp
                    with_reducible rfl
                  · rfl
                · intro w hB
                  simp only [St.withD]
                  refine St.ob_value (v := ?_) (w' := w) (by rfl) ?_ ⟨⟨fun e => absurd e (by decide), fun e => absurd e (by decide), fun _ _ => Below.refl _ _⟩, ?_⟩
                  rotate_left
                  · go_simp
                    with_reducible rfl
                  · rfl
                · intro w hB; rintro _ ⟨_, rfl⟩
                  simp only [St.withD, List.nil_append, List.cons_append, Act.put, List.setIfInBounds_toArray, List.set_cons_zero, List.set_cons_succ]
                  refine St.ob_value (v := ?_) (w' := w) (by rfl) ?_ ⟨⟨fun e => absurd e (by decide), fun e => absurd e (by decide), fun _ _ => Below.refl _ _⟩, ?_⟩
                  rotate_left
                  · go_simp
                    with_reducible rfl
                  · rfl
                · intro w hB; rintro _ ⟨_, rfl⟩
                  simp only [St.withD, List.nil_append, List.cons_append, Act.put, List.setIfInBounds_toArray, List.set_cons_zero, List.set_cons_succ]
                  refine St.ob_value (v := ?_) (w' := w) (by rfl) ?_ ⟨⟨fun e => absurd e (by decide), fun e => absurd e (by decide), fun _ _ => Below.refl _ _⟩, ?_⟩
                  rotate_left
                  · go_simp
                    with_reducible rfl
                  · rfl
                · intro w hB; rintro _ ⟨_, rfl⟩
                  simp only [St.withD, List.nil_append, List.cons_append, Act.put, List.setIfInBounds_toArray, List.set_cons_zero, List.set_cons_succ]
                  obtain ⟨p, q, hR, _, hp7, _⟩ := hB
                  have e := hp7 (.inr rfl)
                  subst e
                  have c0 := yd_now (Duo.getY hR)
                  refine St.ob_value (v := .int .i64 now) (w' := w) (by rfl) ?_ ⟨⟨fun e => absurd e (by decide), fun e => absurd e (by decide), fun _ _ => Below.refl _ _⟩, rfl⟩
                  clear hR
                  go_simp
                · intro w hB
                  simp only [St.withD]
                  refine St.ob_value (v := ?_) (w' := w) (by rfl) ?_ ⟨⟨fun e => absurd e (by decide), fun e => absurd e (by decide), fun _ _ => Below.refl _ _⟩, ?_⟩
                  rotate_left
                  · go_simp
                    with_reducible rfl
                  · rfl
                · intro w hB; rintro _ ⟨_, rfl⟩
                  simp only [St.withD, List.nil_append, List.cons_append, Act.put, List.setIfInBounds_toArray, List.set_cons_zero, List.set_cons_succ]
                  have hbox := hB.choose_spec.choose_spec.1.box
                  have cx1 : w.cell? ⟨gx, 1, none⟩ = some (.int .i64 nn) := (blk_cell hbox 1).trans rfl
                  have cx2 : w.cell? ⟨gx, 2, none⟩ = some (.int .i64 a.k) := (blk_cell hbox 2).trans rfl
                  have cx3 : w.cell? ⟨gx, 3, none⟩ = some (.int .i64 a.nd) := (blk_cell hbox 3).trans rfl
                  have cx4 : w.cell? ⟨gx, 4, none⟩ = some (.int .i64 a.n) := (blk_cell hbox 4).trans rfl
                  have cx5 : w.cell? ⟨gx, 5, none⟩ = some (.bool a.up) := (blk_cell hbox 5).trans rfl
                  have cx6 : w.cell? ⟨gx, 6, none⟩ = some (.string a.s) := (blk_cell hbox 6).trans rfl
                  refine St.ob_value (v := ?_) (w' := w) (by rfl) ?_ ⟨⟨fun e => absurd e (by decide), fun e => absurd e (by decide), fun _ _ => Below.refl _ _⟩, ?_⟩
                  rotate_left
                  · go_simp
                    with_reducible rfl
                  · rfl
                · intro w hB; rintro _ ⟨_, rfl⟩ _ ⟨_, rfl⟩
                  simp only [St.withD, List.nil_append, List.cons_append, Act.put, List.setIfInBounds_toArray, List.set_cons_zero, List.set_cons_succ]
                  refine St.ob_value (v := .int .i64 (now + nn)) (w' := w) (by rfl) ?_ ⟨⟨fun e => absurd e (by decide), fun e => absurd e (by decide), fun _ _ => Below.refl _ _⟩, rfl⟩
                  have hwa := HWA.out
                  clear hB
                  go_simp
                · intro w hB; rintro _ ⟨_, rfl⟩ _ ⟨_, rfl⟩
                  simp only [St.withD, List.nil_append, List.cons_append, Act.put, List.setIfInBounds_toArray, List.set_cons_zero, List.set_cons_succ]
                  obtain ⟨p, q, hR, _, hp7, hsw⟩ := hB
                  have e := hp7 (.inl rfl)
                  subst e
                  have hRB := Gd.hB hR
                  refine St.ob_call Try.func16 (by kernel_rfl) rfl #[.pointer (some ⟨b, 0, none⟩), .int .i64 (now + nn)] (by rfl) rfl (by (try simp only [List.map_toArray, List.map_cons, List.map_nil]); first | done | rfl | (simp only [List.length_drop, List.length_take]; rfl)) ?_
                  refine (until_gy HLA.out (Duo.getY hR) hRB (by have := HM.out.len; omega) HM.out.ts HM.out.n0).mono ?_
                  rintro e w1 ⟨⟨p, c, rfl, hr, hq⟩, ht⟩
                  refine ⟨_, rfl, ⟨fun e => absurd e (by decide), fun _ => ht, fun _ e => absurd rfl e⟩, ?_⟩
                  exact ⟨p, c, rfl, hr, fun q e => Nat.le_trans hsw (hq q e)⟩
                · intro w hB; rintro v6 ⟨ds6, ht6⟩ v15 ⟨ds15, ht15⟩
                  simp only [St.withD, List.nil_append, List.cons_append, Act.put, List.setIfInBounds_toArray, List.set_cons_zero, List.set_cons_succ]
                  obtain ⟨p, c, rfl, hr, _⟩ := ht6
                  obtain ⟨p2, c2, rfl, hr2, _⟩ := ht15
                  refine St.ob_call Try.func14 (by kernel_rfl) rfl #[.slice (ap p) la.length c, .slice (ap p2) la.length c2] (by rfl) rfl (by (try simp only [List.map_toArray, List.map_cons, List.map_nil]); first | done | rfl | (simp only [List.length_drop, List.length_take]; rfl)) ?_
                  refine (same_any la p p2 c c2 w hr hr2 (by have := HLL.out; omega)).mono ?_
                  rintro e w1 ⟨rfl, hd⟩
                  refine ⟨_, rfl, ⟨fun e => absurd e (by decide), fun e => absurd e (by decide), fun _ _ => hd.below⟩, ?_⟩
                  rfl
                · intro w hB; rintro _ ⟨_, rfl⟩
                  simp only [St.withD, List.nil_append, List.cons_append, Act.put, List.setIfInBounds_toArray, List.set_cons_zero, List.set_cons_succ]
                  refine St.ob_value (v := ?_) (w' := w) (by rfl) ?_ ⟨⟨fun e => absurd e (by decide), fun e => absurd e (by decide), fun _ _ => Below.refl _ _⟩, ?_⟩
                  rotate_left
                  · go_simp
                    with_reducible rfl
                  · rfl
              case hst =>
                intro i jx fl hi hj hfi hfj hcl dsx vx wa wb ht hR
                refine St.sts_get (Rel := fun jj wa wb => fl jj = true ∧ (fun i wa wb => (i = 6 → Turned (XD w0.heap.size s (max now (min (now + nn) 1099511627776)) ord (D.dropWhile (due (now + nn)))) FX wa wb) ∧ (i = 15 → Turned (YD w0.heap.size b (max now (min (now + nn) 1099511627776)) (D.dropWhile (due (now + nn)))) FY wa wb) ∧ (i ≠ 6 → i ≠ 15 → Below wa.heap.size wa wb)) i wa wb) 0 _ jx (by simpa using hj) ?_ dsx vx wa wb ht ⟨by simpa using hfj, hR⟩
                refine ⟨St.eqT_st, St.eqT_st, St.eqT_st, St.eqT_st, St.eqT_st, St.eqT_st, ?_, St.eqT_st, St.eqT_st, St.eqT_st, St.eqT_st, St.eqT_st, St.eqT_st, St.eqT_st, St.eqT_st, ?_, St.eqT_st, St.eqT_st, trivial⟩
                · intro dsx vx wa wb h hR
                  have hfj : fl 6 = true := hR.1
                  have hR := hR.2
                  obtain ⟨p, c, e1, hr, hq⟩ := h
                  refine ⟨p, c, e1, ?_, hq⟩
                  by_cases i6 : i = 6
                  · subst i6; rw [hfi] at hfj; cases hfj
                  · by_cases i15 : i = 15
                    · obtain ⟨_, _, hc, _⟩ := hR.2.1 i15
                      exact hr.ch hc (fun q e hf => by have := HFY.out _ hf; have := hq q e; omega)
                    · exact hr.below (hR.2.2 i6 i15)
                · intro dsx vx wa wb h hR
                  have hfj : fl 15 = true := hR.1
                  have hR := hR.2
                  obtain ⟨p, c, e1, hr, hq⟩ := h
                  refine ⟨p, c, e1, ?_, hq⟩
                  by_cases i6 : i = 15
                  · subst i6; rw [hfi] at hfj; cases hfj
                  · by_cases i15 : i = 6
                    · obtain ⟨_, _, hc, _⟩ := hR.1 i15
                      exact hr.ch hc (fun q e hf => by have := HFX.out _ hf; have := hq q e; omega)
                    · exact hr.below (hR.2.2 i15 i6)
              case h0 => exact ⟨Gd.from (p := false) (q := false) HP.out fam_xd fam_xd fam_yd fam_yd (below_drew1 (Below.refl _ _)), Nat.le_refl _⟩
              case hB => exact (by
                intro i fl w' hi hfi _ hcl hG
                refine ⟨_, _, hG.1, ?_, ?_, hG.2⟩
                · exact fun e => by
                    rcases e with rfl | rfl
                    · exact hfi
                    · cases e : fl 6
                      · rfl
                      · have := hcl 5 2 (hcl 6 5 e (by kernel_rfl)) (by kernel_rfl); rw [hfi] at this; cases this
                · exact fun e => by
                    rcases e with rfl | rfl
                    · exact hfi
                    · cases e : fl 15
                      · rfl
                      · have := hcl 14 11 (hcl 15 14 e (by kernel_rfl)) (by kernel_rfl); rw [hfi] at this; cases this)
              case hG => (
                intro i fl wa wb hi hfi _ _ hG hR
                obtain ⟨hG, hsw⟩ := hG
                refine ⟨?_, Nat.le_trans hsw ?_⟩
                rotate_left
                · by_cases h3 : i = 6
                  · obtain ⟨_, _, hc, _⟩ := hR.1 h3; exact hc.size
                  · by_cases h7 : i = 15
                    · obtain ⟨_, _, hc, _⟩ := hR.2.1 h7; exact hc.size
                    · exact (hR.2.2 h3 h7).size
                by_cases h3 : i = 6
                · subst h3
                  rw [hfi] at hG
                  have hk := Gd.left hG fam_xd fam_yd fam_yd (hR.1 rfl)
                  simpa [St.upB] using hk
                · by_cases h7 : i = 15
                  · subst h7
                    rw [hfi] at hG
                    have hk := Gd.right hG fam_xd fam_xd fam_yd (hR.2.1 rfl)
                    simpa [St.upB] using hk
                  · have e := Gd.from hG fam_xd fam_xd fam_yd fam_yd (hR.2.2 h3 h7)
                    have e3 : St.upB fl i 6 = fl 6 := by unfold St.upB; rw [if_neg (Ne.symm h3)]
                    have e7 : St.upB fl i 15 = fl 15 := by unfold St.upB; rw [if_neg (Ne.symm h7)]
                    simpa only [e3, e7] using e)
              case hend =>
                intro fl w hall hB
                rintro _ rfl _ rfl _ rfl _ rfl _ rfl _ rfl v6 ht6 _ rfl _ rfl _ rfl _ rfl _ rfl _ rfl _ rfl _ rfl v15 ht15 _ rfl _ rfl
                simp only [List.map_cons, List.map_nil, List.nil_append, List.cons_append, List.getD_cons_zero, List.getD_cons_succ, Act.put, List.setIfInBounds_toArray, List.set_cons_zero, List.set_cons_succ]
                rw [St.withE_nil]
                have HT : Aside0 (Duo w0.heap.size w0 none (XD w0.heap.size s (max now (min (now + nn) 1099511627776)) ord (D.dropWhile (due (now + nn)))) (YD w0.heap.size b (max now (min (now + nn) 1099511627776)) (D.dropWhile (due (now + nn)))) w) := ⟨by have h3 := hall 6 (by decide); have h7 := hall 15 (by decide); rw [h3, h7] at hB; exact Duo.bare hB.1⟩
                clear hB hall HP ht6 ht15
                go_wp2_with fail
                go_meet
                case rel => exact ⟨rfl, _, ord, _, ⟨HM.out.until (now + nn)⟩, HT⟩
            · have hb3 : ¬ -1125899906842624 ≤ nn := hb2
              clear PIN hb2
              have HT' : Aside0 (Duo w0.heap.size w0 none (XD w0.heap.size s now ord D) (YD w0.heap.size b now D) W1) := ⟨HT.out.bare⟩
              go_wp2
              go_meet
              case rel => exact ⟨rfl, now, ord, D, ⟨HM.out.more⟩, HT'⟩
          · have HT' : Aside0 (Duo w0.heap.size w0 none (XD w0.heap.size s now ord D) (YD w0.heap.size b now D) W1) := ⟨HT.out.bare⟩
            clear PIN
            go_wp2
            go_meet
            case rel => exact ⟨rfl, now, ord, D, ⟨HM.out.more⟩, HT'⟩
        · have hq0 : (kd % 5 == 0) = false := beq_eq_false_iff_ne.2 (by omega)
          have pq0 : (kd.tmod 5 == 0) = false := beq_eq_false_iff_ne.2 (by rw [ht5]; omega)
          have hq1 : (kd % 5 == 1) = false := beq_eq_false_iff_ne.2 (by omega)
          have pq1 : (kd.tmod 5 == 1) = false := beq_eq_false_iff_ne.2 (by rw [ht5]; omega)
          have hq2 : (kd % 5 == 2) = false := beq_eq_false_iff_ne.2 (by omega)
          have pq2 : (kd.tmod 5 == 2) = false := beq_eq_false_iff_ne.2 (by rw [ht5]; omega)
          have hq3 : (kd % 5 == 3) = true := beq_iff_eq.2 (by omega)
          have pq3 : (kd.tmod 5 == 3) = true := beq_iff_eq.2 (by rw [ht5]; omega)
          clear hm hk0 hk1 ht5
          obtain ⟨FX, FY, _, _, hp⟩ := PIN.out
          have HP := Aside0.mk hp
          obtain ⟨gn, hgn⟩ : ∃ gn, (D.length : Int) - (dropE a.nd D).length = gn := ⟨_, rfl⟩
          have HGN := Aside0.mk hgn
          clear hp PIN cx1 hgn
          go_upto_region 23 with fail
          go_wp2
          refine St.steadyG (n := 12) (by kernel_rfl) ([] :: [] :: [(1, 101)] :: [(2, 102)] :: [(0, 100), (3, 103)] :: [] :: [] :: [(6, 106)] :: [(7, 107)] :: [(5, 105), (8, 108)] :: [(4, 104), (9, 109)] :: [(10, 110)] :: []) (some 100 :: some 101 :: some 102 :: some 103 :: some 104 :: some 105 :: some 106 :: some 107 :: some 108 :: some 109 :: some 110 :: some 7 :: []) (by kernel_rfl) ((St.eqT ?c23_0x14) :: (St.eqT ?c23_1x14) :: (St.eqT ?c23_2x14) :: (St.eqT ?c23_3x14) :: (St.eqT ?c23_4x14) :: (St.eqT ?c23_5x14) :: (St.eqT ?c23_6x14) :: (St.eqT ?c23_7x14) :: (St.eqT ?c23_8x14) :: (St.eqT ?c23_9x14) :: (St.eqT ?c23_10x14) :: (St.eqT ?c23_11x14) :: []) rfl (by rfl) (fun fl w' => Gd w0.heap.size w0 (some (gx, (.cells #[.int .u8 kd, .int .i64 nn, .int .i64 a.k, .int .i64 a.nd, .int .i64 a.n, .bool a.up, .string a.s] 40 (0, 0)))) (XD w0.heap.size s now ord D) (XD w0.heap.size s now ord (dropE a.nd D)) (YD w0.heap.size b now D) (YD w0.heap.size b now (dropE a.nd D)) FX FY (fl 4) (fl 9) w' ∧ W1.heap.size ≤ w'.heap.size) (fun i wa wb => (i = 4 → Turned (XD w0.heap.size s now ord (dropE a.nd D)) FX wa wb) ∧ (i = 9 → Turned (YD w0.heap.size b now (dropE a.nd D)) FY wa wb) ∧ (i ≠ 4 → i ≠ 9 → Below wa.heap.size wa wb)) ?hst ?h0 (fun i w' => ∃ p q, Gd w0.heap.size w0 (some (gx, (.cells #[.int .u8 kd, .int .i64 nn, .int .i64 a.k, .int .i64 a.nd, .int .i64 a.n, .bool a.up, .string a.s] 40 (0, 0)))) (XD w0.heap.size s now ord D) (XD w0.heap.size s now ord (dropE a.nd D)) (YD w0.heap.size b now D) (YD w0.heap.size b now (dropE a.nd D)) FX FY p q w' ∧ (i = 4 → p = false) ∧ (i = 9 → q = false) ∧ W1.heap.size ≤ w'.heap.size) ?hB ?hG ?hop ?hend
          case hop =>
            refine ⟨?_, ?_, ?_, ?_, ?_, ?_, ?_, ?_, ?_, ?_, ?_, ?_, trivial⟩
            · intro w hB
              simp only [St.withD]
              refine St.ob_value (v := ?_) (w' := w) (by rfl) ?_ ⟨⟨fun e => absurd e (by decide), fun e => absurd e (by decide), fun _ _ => Below.refl _ _⟩, ?_⟩
              rotate_left
              · go_simp
                with_reducible rfl
              · rfl
            · intro w hB
              simp only [St.withD]
              refine St.ob_value (v := ?_) (w' := w) (by rfl) ?_ ⟨⟨fun e => absurd e (by decide), fun e => absurd e (by decide), fun _ _ => Below.refl _ _⟩, ?_⟩
              rotate_left
              · go_simp
                with_reducible rfl
              · rfl
            · intro w hB; rintro _ ⟨_, rfl⟩
              simp only [St.withD, List.nil_append, List.cons_append, Act.put, List.setIfInBounds_toArray, List.set_cons_zero, List.set_cons_succ]
              refine St.ob_value (v := ?_) (w' := w) (by rfl) ?_ ⟨⟨fun e => absurd e (by decide), fun e => absurd e (by decide), fun _ _ => Below.refl _ _⟩, ?_⟩
              rotate_left
              · go_simp
                with_reducible rfl
              · rfl
            · intro w hB; rintro _ ⟨_, rfl⟩
              simp only [St.withD, List.nil_append, List.cons_append, Act.put, List.setIfInBounds_toArray, List.set_cons_zero, List.set_cons_succ]
              have hbox := hB.choose_spec.choose_spec.1.box
              have cx1 : w.cell? ⟨gx, 1, none⟩ = some (.int .i64 nn) := (blk_cell hbox 1).trans rfl
              have cx2 : w.cell? ⟨gx, 2, none⟩ = some (.int .i64 a.k) := (blk_cell hbox 2).trans rfl
              have cx3 : w.cell? ⟨gx, 3, none⟩ = some (.int .i64 a.nd) := (blk_cell hbox 3).trans rfl
              have cx4 : w.cell? ⟨gx, 4, none⟩ = some (.int .i64 a.n) := (blk_cell hbox 4).trans rfl
              have cx5 : w.cell? ⟨gx, 5, none⟩ = some (.bool a.up) := (blk_cell hbox 5).trans rfl
              have cx6 : w.cell? ⟨gx, 6, none⟩ = some (.string a.s) := (blk_cell hbox 6).trans rfl
              refine St.ob_value (v := ?_) (w' := w) (by rfl) ?_ ⟨⟨fun e => absurd e (by decide), fun e => absurd e (by decide), fun _ _ => Below.refl _ _⟩, ?_⟩
              rotate_left
              · go_simp
                with_reducible rfl
              · rfl
            · intro w hB; rintro _ ⟨_, rfl⟩ _ ⟨_, rfl⟩
              simp only [St.withD, List.nil_append, List.cons_append, Act.put, List.setIfInBounds_toArray, List.set_cons_zero, List.set_cons_succ]
              obtain ⟨p, q, hR, hp3, _, hsw⟩ := hB
              have e := hp3 rfl
              subst e
              have hRB := Gd.hB hR
              refine St.ob_call Try.func17 (by kernel_rfl) rfl #[.pointer (some ⟨s, 0, none⟩), .int .i64 a.nd] (by rfl) rfl (by (try simp only [List.map_toArray, List.map_cons, List.map_nil]); first | done | rfl | (simp only [List.length_drop, List.length_take]; rfl)) ?_
              refine (drop_gx HGN.out (Duo.getX hR) hRB (by have := HM.out.len; omega)).mono ?_
              rintro e w1 ⟨rfl, ht⟩
              refine ⟨_, rfl, ⟨fun _ => ht, fun e => absurd e (by decide), fun e => absurd rfl e⟩, ?_⟩
              rfl
            · intro w hB
              simp only [St.withD]
              refine St.ob_value (v := ?_) (w' := w) (by rfl) ?_ ⟨⟨fun e => absurd e (by decide), fun e => absurd e (by decide), fun _ _ => Below.refl _ _⟩, ?_⟩
              rotate_left
              · go_simp
                with_reducible rfl
              · rfl
            · intro w hB
              simp only [St.withD]
              refine St.ob_value (v := ?_) (w' := w) (by rfl) ?_ ⟨⟨fun e => absurd e (by decide), fun e => absurd e (by decide), fun _ _ => Below.refl _ _⟩, ?_⟩
              rotate_left
              · go_simp
                with_reducible rfl
              · rfl
            · intro w hB; rintro _ ⟨_, rfl⟩
              simp only [St.withD, List.nil_append, List.cons_append, Act.put, List.setIfInBounds_toArray, List.set_cons_zero, List.set_cons_succ]
              refine St.ob_value (v := ?_) (w' := w) (by rfl) ?_ ⟨⟨fun e => absurd e (by decide), fun e => absurd e (by decide), fun _ _ => Below.refl _ _⟩, ?_⟩
              rotate_left
              · go_simp
                with_reducible rfl
              · rfl
            · intro w hB; rintro _ ⟨_, rfl⟩
              simp only [St.withD, List.nil_append, List.cons_append, Act.put, List.setIfInBounds_toArray, List.set_cons_zero, List.set_cons_succ]
              have hbox := hB.choose_spec.choose_spec.1.box
              have cx1 : w.cell? ⟨gx, 1, none⟩ = some (.int .i64 nn) := (blk_cell hbox 1).trans rfl
              have cx2 : w.cell? ⟨gx, 2, none⟩ = some (.int .i64 a.k) := (blk_cell hbox 2).trans rfl
              have cx3 : w.cell? ⟨gx, 3, none⟩ = some (.int .i64 a.nd) := (blk_cell hbox 3).trans rfl
              have cx4 : w.cell? ⟨gx, 4, none⟩ = some (.int .i64 a.n) := (blk_cell hbox 4).trans rfl
              have cx5 : w.cell? ⟨gx, 5, none⟩ = some (.bool a.up) := (blk_cell hbox 5).trans rfl
              have cx6 : w.cell? ⟨gx, 6, none⟩ = some (.string a.s) := (blk_cell hbox 6).trans rfl
              refine St.ob_value (v := ?_) (w' := w) (by rfl) ?_ ⟨⟨fun e => absurd e (by decide), fun e => absurd e (by decide), fun _ _ => Below.refl _ _⟩, ?_⟩
              rotate_left
              · go_simp
                with_reducible rfl
              · rfl
            · intro w hB; rintro _ ⟨_, rfl⟩ _ ⟨_, rfl⟩
              simp only [St.withD, List.nil_append, List.cons_append, Act.put, List.setIfInBounds_toArray, List.set_cons_zero, List.set_cons_succ]
              obtain ⟨p, q, hR, _, hp7, hsw⟩ := hB
              have e := hp7 rfl
              subst e
              have hRB := Gd.hB hR
              refine St.ob_call Try.func18 (by kernel_rfl) rfl #[.pointer (some ⟨b, 0, none⟩), .int .i64 a.nd] (by rfl) rfl (by (try simp only [List.map_toArray, List.map_cons, List.map_nil]); first | done | rfl | (simp only [List.length_drop, List.length_take]; rfl)) ?_
              refine (drop_gy HGN.out (Duo.getY hR) hRB (by have := HM.out.len; omega)).mono ?_
              rintro e w1 ⟨rfl, ht⟩
              refine ⟨_, rfl, ⟨fun e => absurd e (by decide), fun _ => ht, fun _ e => absurd rfl e⟩, ?_⟩
              rfl
            · intro w hB; rintro _ ⟨_, rfl⟩ _ ⟨_, rfl⟩
              simp only [St.withD, List.nil_append, List.cons_append, Act.put, List.setIfInBounds_toArray, List.set_cons_zero, List.set_cons_succ]
              refine St.ob_value (v := ?_) (w' := w) (by rfl) ?_ ⟨⟨fun e => absurd e (by decide), fun e => absurd e (by decide), fun _ _ => Below.refl _ _⟩, ?_⟩
              rotate_left
              · go_simp
                with_reducible rfl
              · rfl
            · intro w hB; rintro _ ⟨_, rfl⟩
              simp only [St.withD, List.nil_append, List.cons_append, Act.put, List.setIfInBounds_toArray, List.set_cons_zero, List.set_cons_succ]
              refine St.ob_value (v := ?_) (w' := w) (by rfl) ?_ ⟨⟨fun e => absurd e (by decide), fun e => absurd e (by decide), fun _ _ => Below.refl _ _⟩, ?_⟩
              rotate_left
              · go_simp
                with_reducible rfl
              · rfl
          case hst =>
            intro i j fl hi hj _ _ _ ds v wa wb ht _
            refine St.sts_get (Rel := fun _ _ _ => True) 0 _ j (by simpa using hj) ?_ ds v wa wb ht trivial
            exact ⟨St.eqT_st, St.eqT_st, St.eqT_st, St.eqT_st, St.eqT_st, St.eqT_st, St.eqT_st, St.eqT_st, St.eqT_st, St.eqT_st, St.eqT_st, St.eqT_st, trivial⟩
          case h0 => exact ⟨Gd.from (p := false) (q := false) HP.out fam_xd fam_xd fam_yd fam_yd (below_drew1 (Below.refl _ _)), Nat.le_refl _⟩
          case hB => exact (by
            intro i fl w' hi hfi _ hcl hG
            refine ⟨_, _, hG.1, ?_, ?_, hG.2⟩
            · exact fun e => by subst e; exact hfi
            · exact fun e => by subst e; exact hfi)
          case hG => (
            intro i fl wa wb hi hfi _ _ hG hR
            obtain ⟨hG, hsw⟩ := hG
            refine ⟨?_, Nat.le_trans hsw ?_⟩
            rotate_left
            · by_cases h3 : i = 4
              · obtain ⟨_, _, hc, _⟩ := hR.1 h3; exact hc.size
              · by_cases h7 : i = 9
                · obtain ⟨_, _, hc, _⟩ := hR.2.1 h7; exact hc.size
                · exact (hR.2.2 h3 h7).size
            by_cases h3 : i = 4
            · subst h3
              rw [hfi] at hG
              have hk := Gd.left hG fam_xd fam_yd fam_yd (hR.1 rfl)
              simpa [St.upB] using hk
            · by_cases h7 : i = 9
              · subst h7
                rw [hfi] at hG
                have hk := Gd.right hG fam_xd fam_xd fam_yd (hR.2.1 rfl)
                simpa [St.upB] using hk
              · have e := Gd.from hG fam_xd fam_xd fam_yd fam_yd (hR.2.2 h3 h7)
                have e3 : St.upB fl i 4 = fl 4 := by unfold St.upB; rw [if_neg (Ne.symm h3)]
                have e7 : St.upB fl i 9 = fl 9 := by unfold St.upB; rw [if_neg (Ne.symm h7)]
                simpa only [e3, e7] using e)
          case hend =>
            intro fl w hall hB
            rintro _ rfl _ rfl _ rfl _ rfl _ rfl _ rfl _ rfl _ rfl _ rfl _ rfl _ rfl _ rfl
            simp only [List.map_cons, List.map_nil, List.nil_append, List.cons_append, List.getD_cons_zero, List.getD_cons_succ, Act.put, List.setIfInBounds_toArray, List.set_cons_zero, List.set_cons_succ]
            rw [St.withE_nil]
            have HT : Aside0 (Duo w0.heap.size w0 none (XD w0.heap.size s now ord (dropE a.nd D)) (YD w0.heap.size b now (dropE a.nd D)) w) := ⟨by have h3 := hall 4 (by decide); have h7 := hall 9 (by decide); rw [h3, h7] at hB; exact Duo.bare hB.1⟩
            clear hB hall HP
            go_wp2_with fail
            go_meet
            case rel => exact ⟨rfl, now, ord, _, ⟨HM.out.drop a.nd⟩, HT⟩
        · have hq0 : (kd % 5 == 0) = false := beq_eq_false_iff_ne.2 (by omega)
          have pq0 : (kd.tmod 5 == 0) = false := beq_eq_false_iff_ne.2 (by rw [ht5]; omega)
          have hq1 : (kd % 5 == 1) = false := beq_eq_false_iff_ne.2 (by omega)
          have pq1 : (kd.tmod 5 == 1) = false := beq_eq_false_iff_ne.2 (by rw [ht5]; omega)
          have hq2 : (kd % 5 == 2) = false := beq_eq_false_iff_ne.2 (by omega)
          have pq2 : (kd.tmod 5 == 2) = false := beq_eq_false_iff_ne.2 (by rw [ht5]; omega)
          have hq3 : (kd % 5 == 3) = false := beq_eq_false_iff_ne.2 (by omega)
          have pq3 : (kd.tmod 5 == 3) = false := beq_eq_false_iff_ne.2 (by rw [ht5]; omega)
          clear hm hk0 hk1 ht5
          clear PIN cx1
          have HT' : Aside0 (Duo w0.heap.size w0 none (XD w0.heap.size s now ord D) (YD w0.heap.size b now D) W1) := ⟨HT.out.bare⟩
          go_wp2
          go_meet
          case rel => exact ⟨rfl, now, ord, D, ⟨HM.out.more⟩, HT'⟩
      case rest =>
        clear HT HM
        obtain ⟨rfl, now, ord, D, HM, HT⟩ := hcut
        obtain ⟨pa, pt, cA, cT, hnm⟩ := HT.out.named
        have zz_HT := Aside0.mk (hnm); clear HT; have HT := zz_HT; clear zz_HT
        clear hnm
        rcases D with _ | ⟨y, r⟩
        · have HN : Aside0 (([] : List E).length = 0) := ⟨rfl⟩
          go_wp2_with fail
          refine (peek_xn HT.out.exX.choose_spec).mono ?_
          rintro e w3 ⟨rfl, rfl⟩
          go_upto_region 25 with fail
          go_wp2
          refine St.steadyR (n := 52) (by kernel_rfl) ([] :: [(0, 116)] :: [(1, 117)] :: [(2, 118)] :: [(2, 118), (3, 119)] :: [(2, 118)] :: [(2, 118), (5, 121)] :: [(2, 118), (6, 122)] :: [(2, 118), (7, 123)] :: [(2, 118), (4, 120), (8, 124)] :: [(2, 118), (9, 125)] :: [(10, 126)] :: [(11, 127)] :: [(11, 127), (12, 128)] :: [(11, 127)] :: [(11, 127), (14, 130)] :: [(11, 127), (15, 131)] :: [(11, 127), (16, 132)] :: [(11, 127), (17, 133)] :: [(11, 127), (13, 129), (18, 134)] :: [(11, 127), (19, 135)] :: [(20, 136)] :: [(21, 137)] :: [(21, 137)] :: [(21, 137), (23, 139)] :: [(21, 137), (24, 140)] :: [(21, 137), (25, 141)] :: [(21, 137), (26, 142)] :: [(21, 137), (27, 143)] :: [(21, 137), (22, 138), (28, 144)] :: [(21, 137), (29, 145)] :: [(30, 146)] :: [(31, 147)] :: [(31, 147), (32, 148)] :: [(33, 149)] :: [(33, 149)] :: [(33, 149), (35, 151)] :: [(33, 149), (36, 152)] :: [(33, 149), (37, 153)] :: [(33, 149), (38, 154)] :: [(33, 149), (39, 155)] :: [(33, 149), (34, 150), (40, 156)] :: [(31, 147), (33, 149), (41, 157)] :: [(31, 147), (42, 158)] :: [(43, 159)] :: [(44, 160)] :: [(44, 160), (45, 161)] :: [(44, 160), (46, 162)] :: [(47, 163)] :: [(47, 163), (48, 164)] :: [(44, 160), (47, 163), (49, 165)] :: [(44, 160), (50, 166)] :: []) (some 116 :: some 117 :: some 118 :: some 119 :: some 120 :: some 121 :: some 122 :: some 123 :: some 124 :: some 125 :: some 126 :: some 127 :: some 128 :: some 129 :: some 130 :: some 131 :: some 132 :: some 133 :: some 134 :: some 135 :: some 136 :: some 137 :: some 138 :: some 139 :: some 140 :: some 141 :: some 142 :: some 143 :: some 144 :: some 145 :: some 146 :: some 147 :: some 148 :: some 149 :: some 150 :: some 151 :: some 152 :: some 153 :: some 154 :: some 155 :: some 156 :: some 157 :: some 158 :: some 159 :: some 160 :: some 161 :: some 162 :: some 163 :: some 164 :: some 165 :: some 166 :: some 167 :: []) (by kernel_rfl) ((St.eqT ?c25_0x16) :: (St.eqT ?c25_1x16) :: (St.eqT ?c25_2x16) :: (St.eqT ?c25_3x16) :: (St.eqT ?c25_4x16) :: (St.eqT ?c25_5x16) :: (St.eqT ?c25_6x16) :: (St.eqT ?c25_7x16) :: (St.eqT ?c25_8x16) :: (St.eqT (.bool false)) :: (St.eqT ?c25_10x16) :: (St.eqT ?c25_11x16) :: (St.eqT ?c25_12x16) :: (St.eqT ?c25_13x16) :: (St.eqT ?c25_14x16) :: (St.eqT ?c25_15x16) :: (St.eqT ?c25_16x16) :: (St.eqT ?c25_17x16) :: (St.eqT ?c25_18x16) :: (St.eqT (.bool false)) :: (St.eqT ?c25_20x16) :: (St.eqT ?c25_21x16) :: (St.eqT ?c25_22x16) :: (St.eqT ?c25_23x16) :: (St.eqT ?c25_24x16) :: (St.eqT ?c25_25x16) :: (St.eqT ?c25_26x16) :: (St.eqT ?c25_27x16) :: (St.eqT ?c25_28x16) :: (St.eqT (.bool false)) :: (St.eqT ?c25_30x16) :: (St.eqT ?c25_31x16) :: (St.eqT ?c25_32x16) :: (St.eqT ?c25_33x16) :: (St.eqT undef) :: (St.eqT undef) :: (St.eqT undef) :: (St.eqT undef) :: (St.eqT undef) :: (St.eqT undef) :: (St.eqT undef) :: (St.eqT undef) :: (St.eqT ?c25_42x16) :: (St.eqT ?c25_43x16) :: (St.eqT ?c25_44x16) :: (St.eqT ?c25_45x16) :: (St.eqT ?c25_46x16) :: (St.eqT ?c25_47x16) :: (St.eqT ?c25_48x16) :: (St.eqT (.bool false)) :: (St.eqT ?c25_50x16) :: (St.eqT ?c25_51x16) :: []) rfl (by rfl) (fun w' => Duo w0.heap.size w0 none (XD w0.heap.size s now ord []) (YP w0.heap.size b pa pt cA cT now []) w') (fun w w' => Below w.heap.size w w') ?hst ?h0 ?hB ?hop ?hend
          case hop =>
            refine ⟨?_, ?_, ?_, ?_, ?_, ?_, ?_, ?_, ?_, ?_, ?_, ?_, ?_, ?_, ?_, ?_, ?_, ?_, ?_, ?_, ?_, ?_, ?_, ?_, ?_, ?_, ?_, ?_, ?_, ?_, ?_, ?_, ?_, ?_, ?_, ?_, ?_, ?_, ?_, ?_, ?_, ?_, ?_, ?_, ?_, ?_, ?_, ?_, ?_, ?_, ?_, ?_, trivial⟩
            · intro w hB
              simp only [St.withD]
              refine St.ob_value (v := ?_) (w' := w) (by rfl) ?_ ⟨Below.refl _ _, ?_⟩
              rotate_left
              · go_simp
                with_reducible rfl
              · rfl
            · intro w hB; rintro _ ⟨_, rfl⟩
              simp only [St.withD, List.nil_append, List.cons_append, Act.put, List.setIfInBounds_toArray, List.set_cons_zero, List.set_cons_succ]
              refine St.ob_value (v := ?_) (w' := w) (by rfl) ?_ ⟨Below.refl _ _, ?_⟩
              rotate_left
              · go_simp
                with_reducible rfl
              · rfl
            · intro w hB; rintro _ ⟨_, rfl⟩
              simp only [St.withD, List.nil_append, List.cons_append, Act.put, List.setIfInBounds_toArray, List.set_cons_zero, List.set_cons_succ]
              refine St.ob_value (v := ?_) (w' := w) (by rfl) ?_ ⟨Below.refl _ _, ?_⟩
              rotate_left
              · go_simp
                with_reducible rfl
              · rfl
            · intro w hB; rintro _ ⟨_, rfl⟩
              simp only [St.withD, List.nil_append, List.cons_append, Act.put, List.setIfInBounds_toArray, List.set_cons_zero, List.set_cons_succ]
              refine St.ob_value (v := ?_) (w' := w) (by rfl) ?_ ⟨Below.refl _ _, ?_⟩
              rotate_left
              · go_simp
                with_reducible rfl
              · rfl
            · intro w hB; rintro _ ⟨_, rfl⟩ _ ⟨_, rfl⟩
              simp only [St.withD, List.nil_append, List.cons_append, Act.put, List.setIfInBounds_toArray, List.set_cons_zero, List.set_cons_succ]
              refine St.ob_call Try.func10 (by kernel_rfl) rfl #[.pointer (some ⟨s, 0, none⟩)] (by rfl) rfl (by (try simp only [List.map_toArray, List.map_cons, List.map_nil]); first | done | rfl | (simp only [List.length_drop, List.length_take]; rfl)) ?_
              refine (now_x hB.exX.choose_spec).mono ?_
              rintro e w1 ⟨rfl, rfl⟩
              refine ⟨_, rfl, Below.refl _ _, ?_⟩
              rfl
            · intro w hB; rintro _ ⟨_, rfl⟩
              simp only [St.withD, List.nil_append, List.cons_append, Act.put, List.setIfInBounds_toArray, List.set_cons_zero, List.set_cons_succ]
              refine St.ob_value (v := ?_) (w' := w) (by rfl) ?_ ⟨Below.refl _ _, ?_⟩
              rotate_left
              · go_simp
                with_reducible rfl
              · rfl
            · intro w hB; rintro _ ⟨_, rfl⟩ _ ⟨_, rfl⟩
              simp only [St.withD, List.nil_append, List.cons_append, Act.put, List.setIfInBounds_toArray, List.set_cons_zero, List.set_cons_succ]
              refine St.ob_value (v := ?_) (w' := w) (by rfl) ?_ ⟨Below.refl _ _, ?_⟩
              rotate_left
              · go_simp
                with_reducible rfl
              · rfl
            · intro w hB; rintro _ ⟨_, rfl⟩ _ ⟨_, rfl⟩
              simp only [St.withD, List.nil_append, List.cons_append, Act.put, List.setIfInBounds_toArray, List.set_cons_zero, List.set_cons_succ]
              refine St.ob_value (v := ?_) (w' := w) (by rfl) ?_ ⟨Below.refl _ _, ?_⟩
              rotate_left
              · go_simp
                with_reducible rfl
              · rfl
            · intro w hB; rintro _ ⟨_, rfl⟩ _ ⟨_, rfl⟩
              simp only [St.withD, List.nil_append, List.cons_append, Act.put, List.setIfInBounds_toArray, List.set_cons_zero, List.set_cons_succ]
              have hb := hB.refAt.box
              have k0 : w.cell? ⟨b, 0, none⟩ = some (.int .i64 now) := (blk_cell hb 0).trans rfl
              have k1 : w.cell? ⟨b, 1, none⟩ = some (.slice (ap pa) 0 cA) := (blk_cell hb 1).trans rfl
              clear hb
              clear hB
              refine St.ob_value (v := ?_) (w' := w) (by rfl) ?_ ⟨Below.refl _ _, ?_⟩
              rotate_left
              · go_simp
                with_reducible rfl
              · rfl
            · intro w hB; rintro _ ⟨_, rfl⟩ _ ⟨_, rfl⟩ _ ⟨_, rfl⟩
              simp only [St.withD, List.nil_append, List.cons_append, Act.put, List.setIfInBounds_toArray, List.set_cons_zero, List.set_cons_succ]
              refine St.ob_value (v := .bool false) (w' := w) (by rfl) ?_ ⟨Below.refl _ _, rfl⟩
              clear hB
              go_simp
              try rfl
            · intro w hB; rintro _ ⟨_, rfl⟩ _ ⟨_, rfl⟩
              simp only [St.withD, List.nil_append, List.cons_append, Act.put, List.setIfInBounds_toArray, List.set_cons_zero, List.set_cons_succ]
              refine St.ob_value (v := ?_) (w' := w) (by rfl) ?_ ⟨Below.refl _ _, ?_⟩
              rotate_left
              · go_simp
                with_reducible rfl
              · rfl
            · intro w hB; rintro _ ⟨_, rfl⟩
              simp only [St.withD, List.nil_append, List.cons_append, Act.put, List.setIfInBounds_toArray, List.set_cons_zero, List.set_cons_succ]
              refine St.ob_value (v := ?_) (w' := w) (by rfl) ?_ ⟨Below.refl _ _, ?_⟩
              rotate_left
              · go_simp
                with_reducible rfl
              · rfl
            · intro w hB; rintro _ ⟨_, rfl⟩
              simp only [St.withD, List.nil_append, List.cons_append, Act.put, List.setIfInBounds_toArray, List.set_cons_zero, List.set_cons_succ]
              refine St.ob_value (v := ?_) (w' := w) (by rfl) ?_ ⟨Below.refl _ _, ?_⟩
              rotate_left
              · go_simp
                with_reducible rfl
              · rfl
            · intro w hB; rintro _ ⟨_, rfl⟩ _ ⟨_, rfl⟩
              simp only [St.withD, List.nil_append, List.cons_append, Act.put, List.setIfInBounds_toArray, List.set_cons_zero, List.set_cons_succ]
              refine St.ob_call Try.func11 (by kernel_rfl) rfl #[.pointer (some ⟨s, 0, none⟩)] (by rfl) rfl (by (try simp only [List.map_toArray, List.map_cons, List.map_nil]); first | done | rfl | (simp only [List.length_drop, List.length_take]; rfl)) ?_
              refine (len_gx HN.out hB.exX.choose_spec).mono ?_
              rintro e w1 ⟨rfl, rfl⟩
              refine ⟨_, rfl, Below.refl _ _, ?_⟩
              rfl
            · intro w hB; rintro _ ⟨_, rfl⟩
              simp only [St.withD, List.nil_append, List.cons_append, Act.put, List.setIfInBounds_toArray, List.set_cons_zero, List.set_cons_succ]
              refine St.ob_value (v := ?_) (w' := w) (by rfl) ?_ ⟨Below.refl _ _, ?_⟩
              rotate_left
              · go_simp
                with_reducible rfl
              · rfl
            · intro w hB; rintro _ ⟨_, rfl⟩ _ ⟨_, rfl⟩
              simp only [St.withD, List.nil_append, List.cons_append, Act.put, List.setIfInBounds_toArray, List.set_cons_zero, List.set_cons_succ]
              refine St.ob_value (v := ?_) (w' := w) (by rfl) ?_ ⟨Below.refl _ _, ?_⟩
              rotate_left
              · go_simp
                with_reducible rfl
              · rfl
            · intro w hB; rintro _ ⟨_, rfl⟩ _ ⟨_, rfl⟩
              simp only [St.withD, List.nil_append, List.cons_append, Act.put, List.setIfInBounds_toArray, List.set_cons_zero, List.set_cons_succ]
              refine St.ob_value (v := ?_) (w' := w) (by rfl) ?_ ⟨Below.refl _ _, ?_⟩
              rotate_left
              · go_simp
                with_reducible rfl
              · rfl
            · intro w hB; rintro _ ⟨_, rfl⟩ _ ⟨_, rfl⟩
              simp only [St.withD, List.nil_append, List.cons_append, Act.put, List.setIfInBounds_toArray, List.set_cons_zero, List.set_cons_succ]
              have hb := hB.refAt.box
              have k0 : w.cell? ⟨b, 0, none⟩ = some (.int .i64 now) := (blk_cell hb 0).trans rfl
              have k1 : w.cell? ⟨b, 1, none⟩ = some (.slice (ap pa) 0 cA) := (blk_cell hb 1).trans rfl
              clear hb
              clear hB
              refine St.ob_value (v := ?_) (w' := w) (by rfl) ?_ ⟨Below.refl _ _, ?_⟩
              rotate_left
              · go_simp
                with_reducible rfl
              · rfl
            · intro w hB; rintro _ ⟨_, rfl⟩ _ ⟨_, rfl⟩
              simp only [St.withD, List.nil_append, List.cons_append, Act.put, List.setIfInBounds_toArray, List.set_cons_zero, List.set_cons_succ]
              refine St.ob_value (v := ?_) (w' := w) (by rfl) ?_ ⟨Below.refl _ _, ?_⟩
              rotate_left
              · go_simp
                with_reducible rfl
              · rfl
            · intro w hB; rintro _ ⟨_, rfl⟩ _ ⟨_, rfl⟩ _ ⟨_, rfl⟩
              simp only [St.withD, List.nil_append, List.cons_append, Act.put, List.setIfInBounds_toArray, List.set_cons_zero, List.set_cons_succ]
              refine St.ob_value (v := .bool false) (w' := w) (by rfl) ?_ ⟨Below.refl _ _, rfl⟩
              clear hB
              go_simp
              try rfl
            · intro w hB; rintro _ ⟨_, rfl⟩ _ ⟨_, rfl⟩
              simp only [St.withD, List.nil_append, List.cons_append, Act.put, List.setIfInBounds_toArray, List.set_cons_zero, List.set_cons_succ]
              refine St.ob_value (v := ?_) (w' := w) (by rfl) ?_ ⟨Below.refl _ _, ?_⟩
              rotate_left
              · go_simp
                with_reducible rfl
              · rfl
            · intro w hB; rintro _ ⟨_, rfl⟩
              simp only [St.withD, List.nil_append, List.cons_append, Act.put, List.setIfInBounds_toArray, List.set_cons_zero, List.set_cons_succ]
              refine St.ob_value (v := ?_) (w' := w) (by rfl) ?_ ⟨Below.refl _ _, ?_⟩
              rotate_left
              · go_simp
                with_reducible rfl
              · rfl
            · intro w hB; rintro _ ⟨_, rfl⟩
              simp only [St.withD, List.nil_append, List.cons_append, Act.put, List.setIfInBounds_toArray, List.set_cons_zero, List.set_cons_succ]
              refine St.ob_value (v := ?_) (w' := w) (by rfl) ?_ ⟨Below.refl _ _, ?_⟩
              rotate_left
              · go_simp
                with_reducible rfl
              · rfl
            · intro w hB; rintro _ ⟨_, rfl⟩
              simp only [St.withD, List.nil_append, List.cons_append, Act.put, List.setIfInBounds_toArray, List.set_cons_zero, List.set_cons_succ]
              refine St.ob_value (v := ?_) (w' := w) (by rfl) ?_ ⟨Below.refl _ _, ?_⟩
              rotate_left
              · go_simp
                with_reducible rfl
              · rfl
            · intro w hB; rintro _ ⟨_, rfl⟩ _ ⟨_, rfl⟩
              simp only [St.withD, List.nil_append, List.cons_append, Act.put, List.setIfInBounds_toArray, List.set_cons_zero, List.set_cons_succ]
              refine St.ob_value (v := ?_) (w' := w) (by rfl) ?_ ⟨Below.refl _ _, ?_⟩
              rotate_left
              · go_simp
                with_reducible rfl
              · rfl
            · intro w hB; rintro _ ⟨_, rfl⟩ _ ⟨_, rfl⟩
              simp only [St.withD, List.nil_append, List.cons_append, Act.put, List.setIfInBounds_toArray, List.set_cons_zero, List.set_cons_succ]
              refine St.ob_value (v := ?_) (w' := w) (by rfl) ?_ ⟨Below.refl _ _, ?_⟩
              rotate_left
              · go_simp
                with_reducible rfl
              · rfl
            · intro w hB; rintro _ ⟨_, rfl⟩ _ ⟨_, rfl⟩
              simp only [St.withD, List.nil_append, List.cons_append, Act.put, List.setIfInBounds_toArray, List.set_cons_zero, List.set_cons_succ]
              have hb := hB.refAt.box
              have k0 : w.cell? ⟨b, 0, none⟩ = some (.int .i64 now) := (blk_cell hb 0).trans rfl
              have k1 : w.cell? ⟨b, 1, none⟩ = some (.slice (ap pa) 0 cA) := (blk_cell hb 1).trans rfl
              clear hb
              clear hB
              refine St.ob_value (v := ?_) (w' := w) (by rfl) ?_ ⟨Below.refl _ _, ?_⟩
              rotate_left
              · go_simp
                with_reducible rfl
              · rfl
            · intro w hB; rintro _ ⟨_, rfl⟩ _ ⟨_, rfl⟩
              simp only [St.withD, List.nil_append, List.cons_append, Act.put, List.setIfInBounds_toArray, List.set_cons_zero, List.set_cons_succ]
              refine St.ob_value (v := ?_) (w' := w) (by rfl) ?_ ⟨Below.refl _ _, ?_⟩
              rotate_left
              · go_simp
                with_reducible rfl
              · rfl
            · intro w hB; rintro _ ⟨_, rfl⟩ _ ⟨_, rfl⟩
              simp only [St.withD, List.nil_append, List.cons_append, Act.put, List.setIfInBounds_toArray, List.set_cons_zero, List.set_cons_succ]
              refine St.ob_value (v := ?_) (w' := w) (by rfl) ?_ ⟨Below.refl _ _, ?_⟩
              rotate_left
              · go_simp
                with_reducible rfl
              · rfl
            · intro w hB; rintro _ ⟨_, rfl⟩ _ ⟨_, rfl⟩ _ ⟨_, rfl⟩
              simp only [St.withD, List.nil_append, List.cons_append, Act.put, List.setIfInBounds_toArray, List.set_cons_zero, List.set_cons_succ]
              refine St.ob_value (v := .bool false) (w' := w) (by rfl) ?_ ⟨Below.refl _ _, rfl⟩
              clear hB
              go_simp
              try rfl
            · intro w hB; rintro _ ⟨_, rfl⟩ _ ⟨_, rfl⟩
              simp only [St.withD, List.nil_append, List.cons_append, Act.put, List.setIfInBounds_toArray, List.set_cons_zero, List.set_cons_succ]
              refine St.ob_value (v := ?_) (w' := w) (by rfl) ?_ ⟨Below.refl _ _, ?_⟩
              rotate_left
              · go_simp
                with_reducible rfl
              · rfl
            · intro w hB; rintro _ ⟨_, rfl⟩
              simp only [St.withD, List.nil_append, List.cons_append, Act.put, List.setIfInBounds_toArray, List.set_cons_zero, List.set_cons_succ]
              refine St.ob_value (v := ?_) (w' := w) (by rfl) ?_ ⟨Below.refl _ _, ?_⟩
              rotate_left
              · go_simp
                with_reducible rfl
              · rfl
            · intro w hB; rintro _ ⟨_, rfl⟩
              simp only [St.withD, List.nil_append, List.cons_append, Act.put, List.setIfInBounds_toArray, List.set_cons_zero, List.set_cons_succ]
              refine St.ob_value (v := ?_) (w' := w) (by rfl) ?_ ⟨Below.refl _ _, ?_⟩
              rotate_left
              · go_simp
                with_reducible rfl
              · rfl
            · intro w hB; rintro _ ⟨_, rfl⟩ _ ⟨_, rfl⟩
              simp only [St.withD, List.nil_append, List.cons_append, Act.put, List.setIfInBounds_toArray, List.set_cons_zero, List.set_cons_succ]
              refine St.ob_value (v := ?_) (w' := w) (by rfl) ?_ ⟨Below.refl _ _, ?_⟩
              rotate_left
              · go_simp
                with_reducible rfl
              · rfl
            · intro w hB; rintro _ ⟨_, rfl⟩
              simp only [St.withD, List.nil_append, List.cons_append, Act.put, List.setIfInBounds_toArray, List.set_cons_zero, List.set_cons_succ]
              refine St.ob_off (by rfl) ⟨Below.refl _ _, rfl⟩
            · intro w hB; rintro _ ⟨_, rfl⟩
              simp only [St.withD, List.nil_append, List.cons_append, Act.put, List.setIfInBounds_toArray, List.set_cons_zero, List.set_cons_succ]
              refine St.ob_off (by rfl) ⟨Below.refl _ _, rfl⟩
            · intro w hB; rintro _ ⟨_, rfl⟩ _ ⟨_, rfl⟩
              simp only [St.withD, List.nil_append, List.cons_append, Act.put, List.setIfInBounds_toArray, List.set_cons_zero, List.set_cons_succ]
              refine St.ob_off (by rfl) ⟨Below.refl _ _, rfl⟩
            · intro w hB; rintro _ ⟨_, rfl⟩ _ ⟨_, rfl⟩
              simp only [St.withD, List.nil_append, List.cons_append, Act.put, List.setIfInBounds_toArray, List.set_cons_zero, List.set_cons_succ]
              refine St.ob_off (by rfl) ⟨Below.refl _ _, rfl⟩
            · intro w hB; rintro _ ⟨_, rfl⟩ _ ⟨_, rfl⟩
              simp only [St.withD, List.nil_append, List.cons_append, Act.put, List.setIfInBounds_toArray, List.set_cons_zero, List.set_cons_succ]
              refine St.ob_off (by rfl) ⟨Below.refl _ _, rfl⟩
            · intro w hB; rintro _ ⟨_, rfl⟩ _ ⟨_, rfl⟩
              simp only [St.withD, List.nil_append, List.cons_append, Act.put, List.setIfInBounds_toArray, List.set_cons_zero, List.set_cons_succ]
              refine St.ob_off (by rfl) ⟨Below.refl _ _, rfl⟩
            · intro w hB; rintro _ ⟨_, rfl⟩ _ ⟨_, rfl⟩
              simp only [St.withD, List.nil_append, List.cons_append, Act.put, List.setIfInBounds_toArray, List.set_cons_zero, List.set_cons_succ]
              refine St.ob_off (by rfl) ⟨Below.refl _ _, rfl⟩
            · intro w hB; rintro _ ⟨_, rfl⟩ _ ⟨_, rfl⟩ _ ⟨_, rfl⟩
              simp only [St.withD, List.nil_append, List.cons_append, Act.put, List.setIfInBounds_toArray, List.set_cons_zero, List.set_cons_succ]
              refine St.ob_off (by rfl) ⟨Below.refl _ _, rfl⟩
            · intro w hB; rintro _ ⟨_, rfl⟩ _ ⟨_, rfl⟩ _ ⟨_, rfl⟩
              simp only [St.withD, List.nil_append, List.cons_append, Act.put, List.setIfInBounds_toArray, List.set_cons_zero, List.set_cons_succ]
              refine St.ob_value (v := ?_) (w' := w) (by rfl) ?_ ⟨Below.refl _ _, ?_⟩
              rotate_left
              · go_simp
                with_reducible rfl
              · rfl
            · intro w hB; rintro _ ⟨_, rfl⟩ _ ⟨_, rfl⟩
              simp only [St.withD, List.nil_append, List.cons_append, Act.put, List.setIfInBounds_toArray, List.set_cons_zero, List.set_cons_succ]
              refine St.ob_value (v := ?_) (w' := w) (by rfl) ?_ ⟨Below.refl _ _, ?_⟩
              rotate_left
              · go_simp
                with_reducible rfl
              · rfl
            · intro w hB; rintro _ ⟨_, rfl⟩
              simp only [St.withD, List.nil_append, List.cons_append, Act.put, List.setIfInBounds_toArray, List.set_cons_zero, List.set_cons_succ]
              refine St.ob_value (v := ?_) (w' := w) (by rfl) ?_ ⟨Below.refl _ _, ?_⟩
              rotate_left
              · go_simp
                with_reducible rfl
              · rfl
            · intro w hB; rintro _ ⟨_, rfl⟩
              simp only [St.withD, List.nil_append, List.cons_append, Act.put, List.setIfInBounds_toArray, List.set_cons_zero, List.set_cons_succ]
              refine St.ob_value (v := ?_) (w' := w) (by rfl) ?_ ⟨Below.refl _ _, ?_⟩
              rotate_left
              · go_simp
                with_reducible rfl
              · rfl
            · intro w hB; rintro _ ⟨_, rfl⟩ _ ⟨_, rfl⟩
              simp only [St.withD, List.nil_append, List.cons_append, Act.put, List.setIfInBounds_toArray, List.set_cons_zero, List.set_cons_succ]
              refine St.ob_value (v := ?_) (w' := w) (by rfl) ?_ ⟨Below.refl _ _, ?_⟩
              rotate_left
              · go_simp
                with_reducible rfl
              · rfl
            · intro w hB; rintro _ ⟨_, rfl⟩ _ ⟨_, rfl⟩
              simp only [St.withD, List.nil_append, List.cons_append, Act.put, List.setIfInBounds_toArray, List.set_cons_zero, List.set_cons_succ]
              refine St.ob_value (v := ?_) (w' := w) (by rfl) ?_ ⟨Below.refl _ _, ?_⟩
              rotate_left
              · go_simp
                with_reducible rfl
              · rfl
            · intro w hB; rintro _ ⟨_, rfl⟩
              simp only [St.withD, List.nil_append, List.cons_append, Act.put, List.setIfInBounds_toArray, List.set_cons_zero, List.set_cons_succ]
              refine St.ob_value (v := ?_) (w' := w) (by rfl) ?_ ⟨Below.refl _ _, ?_⟩
              rotate_left
              · go_simp
                with_reducible rfl
              · rfl
            · intro w hB; rintro _ ⟨_, rfl⟩ _ ⟨_, rfl⟩
              simp only [St.withD, List.nil_append, List.cons_append, Act.put, List.setIfInBounds_toArray, List.set_cons_zero, List.set_cons_succ]
              refine St.ob_value (v := .bool false) (w' := w) (by rfl) ?_ ⟨Below.refl _ _, rfl⟩
              clear hB
              go_simp
              try rfl
            · intro w hB; rintro _ ⟨_, rfl⟩ _ ⟨_, rfl⟩ _ ⟨_, rfl⟩
              simp only [St.withD, List.nil_append, List.cons_append, Act.put, List.setIfInBounds_toArray, List.set_cons_zero, List.set_cons_succ]
              refine St.ob_value (v := ?_) (w' := w) (by rfl) ?_ ⟨Below.refl _ _, ?_⟩
              rotate_left
              · go_simp
                with_reducible rfl
              · rfl
            · intro w hB; rintro _ ⟨_, rfl⟩ _ ⟨_, rfl⟩
              simp only [St.withD, List.nil_append, List.cons_append, Act.put, List.setIfInBounds_toArray, List.set_cons_zero, List.set_cons_succ]
              refine St.ob_value (v := ?_) (w' := w) (by rfl) ?_ ⟨Below.refl _ _, ?_⟩
              rotate_left
              · go_simp
                with_reducible rfl
              · rfl
          case hst => exact ⟨St.eqT_st, St.eqT_st, St.eqT_st, St.eqT_st, St.eqT_st, St.eqT_st, St.eqT_st, St.eqT_st, St.eqT_st, St.eqT_st, St.eqT_st, St.eqT_st, St.eqT_st, St.eqT_st, St.eqT_st, St.eqT_st, St.eqT_st, St.eqT_st, St.eqT_st, St.eqT_st, St.eqT_st, St.eqT_st, St.eqT_st, St.eqT_st, St.eqT_st, St.eqT_st, St.eqT_st, St.eqT_st, St.eqT_st, St.eqT_st, St.eqT_st, St.eqT_st, St.eqT_st, St.eqT_st, St.eqT_st, St.eqT_st, St.eqT_st, St.eqT_st, St.eqT_st, St.eqT_st, St.eqT_st, St.eqT_st, St.eqT_st, St.eqT_st, St.eqT_st, St.eqT_st, St.eqT_st, St.eqT_st, St.eqT_st, St.eqT_st, St.eqT_st, St.eqT_st, trivial⟩
          case h0 => exact HT.out.from fam_xd fam_yp (below_drew1 (Below.refl _ _))
          case hB => exact fun w w' h k => h.from fam_xd fam_yp k
          case hend =>
            intro w hB
            rintro _ rfl _ rfl _ rfl _ rfl _ rfl _ rfl _ rfl _ rfl _ rfl _ rfl _ rfl _ rfl _ rfl _ rfl _ rfl _ rfl _ rfl _ rfl _ rfl _ rfl _ rfl _ rfl _ rfl _ rfl _ rfl _ rfl _ rfl _ rfl _ rfl _ rfl _ rfl _ rfl _ rfl _ rfl _ rfl _ rfl _ rfl _ rfl _ rfl _ rfl _ rfl _ rfl _ rfl _ rfl _ rfl _ rfl _ rfl _ rfl _ rfl _ rfl _ rfl _ rfl
            simp only [List.map_cons, List.map_nil, List.nil_append, List.cons_append, List.getD_cons_zero, List.getD_cons_succ, Act.put, List.setIfInBounds_toArray, List.set_cons_zero, List.set_cons_succ]
            rw [St.withE_nil]
            have HT3 : Aside0 (Duo w0.heap.size w0 none (XD w0.heap.size s now ord []) (YD w0.heap.size b now []) w) := ⟨hB.unnamed⟩
            clear hB HT
            go_wp2
            go_roundg (gk - 1)
            case measure => have := HK.out; omega
            case rel => exact ⟨k + 1, now, ord, [], ⟨by have := HK.out; omega⟩, by go_num, HM, HT3⟩
        · obtain ⟨gt, ot, e, _⟩ := HT.out.refAt.rt.tm 0 (by simp)
          subst e
          obtain ⟨n, hn⟩ : ∃ n, (y :: r).length = n := ⟨_, rfl⟩
          have HN := Aside0.mk hn
          have hn0 : (0 : Int) < n := by simp at hn; omega
          have hn1 : 0 < n := by omega
          clear hn
          go_wp2_with fail
          refine (peek_x HT.out.exX.choose_spec (by have := HM.out.len; simp at this; omega)).mono ?_
          rintro e w3 ⟨rfl, rfl⟩
          go_upto_region 25 with fail
          go_wp2
          refine St.steadyR (n := 52) (by kernel_rfl) ([] :: [(0, 116)] :: [(1, 117)] :: [(2, 118)] :: [(2, 118), (3, 119)] :: [(2, 118)] :: [(2, 118), (5, 121)] :: [(2, 118), (6, 122)] :: [(2, 118), (7, 123)] :: [(2, 118), (4, 120), (8, 124)] :: [(2, 118), (9, 125)] :: [(10, 126)] :: [(11, 127)] :: [(11, 127), (12, 128)] :: [(11, 127)] :: [(11, 127), (14, 130)] :: [(11, 127), (15, 131)] :: [(11, 127), (16, 132)] :: [(11, 127), (17, 133)] :: [(11, 127), (13, 129), (18, 134)] :: [(11, 127), (19, 135)] :: [(20, 136)] :: [(21, 137)] :: [(21, 137)] :: [(21, 137), (23, 139)] :: [(21, 137), (24, 140)] :: [(21, 137), (25, 141)] :: [(21, 137), (26, 142)] :: [(21, 137), (27, 143)] :: [(21, 137), (22, 138), (28, 144)] :: [(21, 137), (29, 145)] :: [(30, 146)] :: [(31, 147)] :: [(31, 147), (32, 148)] :: [(33, 149)] :: [(33, 149)] :: [(33, 149), (35, 151)] :: [(33, 149), (36, 152)] :: [(33, 149), (37, 153)] :: [(33, 149), (38, 154)] :: [(33, 149), (39, 155)] :: [(33, 149), (34, 150), (40, 156)] :: [(31, 147), (33, 149), (41, 157)] :: [(31, 147), (42, 158)] :: [(43, 159)] :: [(44, 160)] :: [(44, 160), (45, 161)] :: [(44, 160), (46, 162)] :: [(47, 163)] :: [(47, 163), (48, 164)] :: [(44, 160), (47, 163), (49, 165)] :: [(44, 160), (50, 166)] :: []) (some 116 :: some 117 :: some 118 :: some 119 :: some 120 :: some 121 :: some 122 :: some 123 :: some 124 :: some 125 :: some 126 :: some 127 :: some 128 :: some 129 :: some 130 :: some 131 :: some 132 :: some 133 :: some 134 :: some 135 :: some 136 :: some 137 :: some 138 :: some 139 :: some 140 :: some 141 :: some 142 :: some 143 :: some 144 :: some 145 :: some 146 :: some 147 :: some 148 :: some 149 :: some 150 :: some 151 :: some 152 :: some 153 :: some 154 :: some 155 :: some 156 :: some 157 :: some 158 :: some 159 :: some 160 :: some 161 :: some 162 :: some 163 :: some 164 :: some 165 :: some 166 :: some 167 :: []) (by kernel_rfl) ((St.eqT ?c25_0x17) :: (St.eqT ?c25_1x17) :: (St.eqT ?c25_2x17) :: (St.eqT ?c25_3x17) :: (St.eqT ?c25_4x17) :: (St.eqT ?c25_5x17) :: (St.eqT ?c25_6x17) :: (St.eqT ?c25_7x17) :: (St.eqT ?c25_8x17) :: (St.eqT (.bool false)) :: (St.eqT ?c25_10x17) :: (St.eqT ?c25_11x17) :: (St.eqT ?c25_12x17) :: (St.eqT ?c25_13x17) :: (St.eqT ?c25_14x17) :: (St.eqT ?c25_15x17) :: (St.eqT ?c25_16x17) :: (St.eqT ?c25_17x17) :: (St.eqT ?c25_18x17) :: (St.eqT (.bool false)) :: (St.eqT ?c25_20x17) :: (St.eqT ?c25_21x17) :: (St.eqT ?c25_22x17) :: (St.eqT ?c25_23x17) :: (St.eqT ?c25_24x17) :: (St.eqT ?c25_25x17) :: (St.eqT ?c25_26x17) :: (St.eqT ?c25_27x17) :: (St.eqT ?c25_28x17) :: (St.eqT (.bool false)) :: (St.eqT ?c25_30x17) :: (St.eqT ?c25_31x17) :: (St.eqT ?c25_32x17) :: (St.eqT ?c25_33x17) :: (St.eqT ?c25_34x17) :: (St.eqT ?c25_35x17) :: (St.eqT ?c25_36x17) :: (St.eqT ?c25_37x17) :: (St.eqT ?c25_38x17) :: (St.eqT ?c25_39x17) :: (St.eqT ?c25_40x17) :: (St.eqT (.bool false)) :: (St.eqT ?c25_42x17) :: (St.eqT ?c25_43x17) :: (St.eqT ?c25_44x17) :: (St.eqT ?c25_45x17) :: (St.eqT ?c25_46x17) :: (St.eqT ?c25_47x17) :: (St.eqT undef) :: (St.eqT undef) :: (St.eqT ?c25_50x17) :: (St.eqT ?c25_51x17) :: []) rfl (by rfl) (fun w' => Duo w0.heap.size w0 none (XD w0.heap.size s now ord (y :: r)) (YP w0.heap.size b pa (some (gt, ot)) cA cT now (y :: r)) w') (fun w w' => Below w.heap.size w w') ?hst ?h0 ?hB ?hop ?hend
          case hop =>
            refine ⟨?_, ?_, ?_, ?_, ?_, ?_, ?_, ?_, ?_, ?_, ?_, ?_, ?_, ?_, ?_, ?_, ?_, ?_, ?_, ?_, ?_, ?_, ?_, ?_, ?_, ?_, ?_, ?_, ?_, ?_, ?_, ?_, ?_, ?_, ?_, ?_, ?_, ?_, ?_, ?_, ?_, ?_, ?_, ?_, ?_, ?_, ?_, ?_, ?_, ?_, ?_, ?_, trivial⟩
            · intro w hB
              simp only [St.withD]
              refine St.ob_value (v := ?_) (w' := w) (by rfl) ?_ ⟨Below.refl _ _, ?_⟩
              rotate_left
              · go_simp
                with_reducible rfl
              · rfl
            · intro w hB; rintro _ ⟨_, rfl⟩
              simp only [St.withD, List.nil_append, List.cons_append, Act.put, List.setIfInBounds_toArray, List.set_cons_zero, List.set_cons_succ]
              refine St.ob_value (v := ?_) (w' := w) (by rfl) ?_ ⟨Below.refl _ _, ?_⟩
              rotate_left
              · go_simp
                with_reducible rfl
              · rfl
            · intro w hB; rintro _ ⟨_, rfl⟩
              simp only [St.withD, List.nil_append, List.cons_append, Act.put, List.setIfInBounds_toArray, List.set_cons_zero, List.set_cons_succ]
              refine St.ob_value (v := ?_) (w' := w) (by rfl) ?_ ⟨Below.refl _ _, ?_⟩
              rotate_left
              · go_simp
                with_reducible rfl
              · rfl
            · intro w hB; rintro _ ⟨_, rfl⟩
              simp only [St.withD, List.nil_append, List.cons_append, Act.put, List.setIfInBounds_toArray, List.set_cons_zero, List.set_cons_succ]
              refine St.ob_value (v := ?_) (w' := w) (by rfl) ?_ ⟨Below.refl _ _, ?_⟩
              rotate_left
              · go_simp
                with_reducible rfl
              · rfl
            · intro w hB; rintro _ ⟨_, rfl⟩ _ ⟨_, rfl⟩
              simp only [St.withD, List.nil_append, List.cons_append, Act.put, List.setIfInBounds_toArray, List.set_cons_zero, List.set_cons_succ]
              refine St.ob_call Try.func10 (by kernel_rfl) rfl #[.pointer (some ⟨s, 0, none⟩)] (by rfl) rfl (by (try simp only [List.map_toArray, List.map_cons, List.map_nil]); first | done | rfl | (simp only [List.length_drop, List.length_take]; rfl)) ?_
              refine (now_x hB.exX.choose_spec).mono ?_
              rintro e w1 ⟨rfl, rfl⟩
              refine ⟨_, rfl, Below.refl _ _, ?_⟩
              rfl
            · intro w hB; rintro _ ⟨_, rfl⟩
              simp only [St.withD, List.nil_append, List.cons_append, Act.put, List.setIfInBounds_toArray, List.set_cons_zero, List.set_cons_succ]
              refine St.ob_value (v := ?_) (w' := w) (by rfl) ?_ ⟨Below.refl _ _, ?_⟩
              rotate_left
              · go_simp
                with_reducible rfl
              · rfl
            · intro w hB; rintro _ ⟨_, rfl⟩ _ ⟨_, rfl⟩
              simp only [St.withD, List.nil_append, List.cons_append, Act.put, List.setIfInBounds_toArray, List.set_cons_zero, List.set_cons_succ]
              refine St.ob_value (v := ?_) (w' := w) (by rfl) ?_ ⟨Below.refl _ _, ?_⟩
              rotate_left
              · go_simp
                with_reducible rfl
              · rfl
            · intro w hB; rintro _ ⟨_, rfl⟩ _ ⟨_, rfl⟩
              simp only [St.withD, List.nil_append, List.cons_append, Act.put, List.setIfInBounds_toArray, List.set_cons_zero, List.set_cons_succ]
              refine St.ob_value (v := ?_) (w' := w) (by rfl) ?_ ⟨Below.refl _ _, ?_⟩
              rotate_left
              · go_simp
                with_reducible rfl
              · rfl
            · intro w hB; rintro _ ⟨_, rfl⟩ _ ⟨_, rfl⟩
              simp only [St.withD, List.nil_append, List.cons_append, Act.put, List.setIfInBounds_toArray, List.set_cons_zero, List.set_cons_succ]
              have hb := hB.refAt.box
              rw [HN.out] at hb
              have k0 : w.cell? ⟨b, 0, none⟩ = some (.int .i64 now) := (blk_cell hb 0).trans rfl
              have k1 : w.cell? ⟨b, 1, none⟩ = some (.slice (ap pa) n cA) := (blk_cell hb 1).trans rfl
              have k2 : w.cell? ⟨b, 2, none⟩ = some (.slice (some ⟨gt, ot, none⟩) n cT) := (blk_cell hb 2).trans rfl
              have kt := hB.refAt.first
              clear hb
              clear hB
              refine St.ob_value (v := ?_) (w' := w) (by rfl) ?_ ⟨Below.refl _ _, ?_⟩
              rotate_left
              · go_simp
                with_reducible rfl
              · rfl
            · intro w hB; rintro _ ⟨_, rfl⟩ _ ⟨_, rfl⟩ _ ⟨_, rfl⟩
              simp only [St.withD, List.nil_append, List.cons_append, Act.put, List.setIfInBounds_toArray, List.set_cons_zero, List.set_cons_succ]
              refine St.ob_value (v := .bool false) (w' := w) (by rfl) ?_ ⟨Below.refl _ _, rfl⟩
              clear hB
              go_simp
              try rfl
            · intro w hB; rintro _ ⟨_, rfl⟩ _ ⟨_, rfl⟩
              simp only [St.withD, List.nil_append, List.cons_append, Act.put, List.setIfInBounds_toArray, List.set_cons_zero, List.set_cons_succ]
              refine St.ob_value (v := ?_) (w' := w) (by rfl) ?_ ⟨Below.refl _ _, ?_⟩
              rotate_left
              · go_simp
                with_reducible rfl
              · rfl
            · intro w hB; rintro _ ⟨_, rfl⟩
              simp only [St.withD, List.nil_append, List.cons_append, Act.put, List.setIfInBounds_toArray, List.set_cons_zero, List.set_cons_succ]
              refine St.ob_value (v := ?_) (w' := w) (by rfl) ?_ ⟨Below.refl _ _, ?_⟩
              rotate_left
              · go_simp
                with_reducible rfl
              · rfl
            · intro w hB; rintro _ ⟨_, rfl⟩
              simp only [St.withD, List.nil_append, List.cons_append, Act.put, List.setIfInBounds_toArray, List.set_cons_zero, List.set_cons_succ]
              refine St.ob_value (v := ?_) (w' := w) (by rfl) ?_ ⟨Below.refl _ _, ?_⟩
              rotate_left
              · go_simp
                with_reducible rfl
              · rfl
            · intro w hB; rintro _ ⟨_, rfl⟩ _ ⟨_, rfl⟩
              simp only [St.withD, List.nil_append, List.cons_append, Act.put, List.setIfInBounds_toArray, List.set_cons_zero, List.set_cons_succ]
              refine St.ob_call Try.func11 (by kernel_rfl) rfl #[.pointer (some ⟨s, 0, none⟩)] (by rfl) rfl (by (try simp only [List.map_toArray, List.map_cons, List.map_nil]); first | done | rfl | (simp only [List.length_drop, List.length_take]; rfl)) ?_
              refine (len_gx HN.out hB.exX.choose_spec).mono ?_
              rintro e w1 ⟨rfl, rfl⟩
              refine ⟨_, rfl, Below.refl _ _, ?_⟩
              rfl
            · intro w hB; rintro _ ⟨_, rfl⟩
              simp only [St.withD, List.nil_append, List.cons_append, Act.put, List.setIfInBounds_toArray, List.set_cons_zero, List.set_cons_succ]
              refine St.ob_value (v := ?_) (w' := w) (by rfl) ?_ ⟨Below.refl _ _, ?_⟩
              rotate_left
              · go_simp
                with_reducible rfl
              · rfl
            · intro w hB; rintro _ ⟨_, rfl⟩ _ ⟨_, rfl⟩
              simp only [St.withD, List.nil_append, List.cons_append, Act.put, List.setIfInBounds_toArray, List.set_cons_zero, List.set_cons_succ]
              refine St.ob_value (v := ?_) (w' := w) (by rfl) ?_ ⟨Below.refl _ _, ?_⟩
              rotate_left
              · go_simp
                with_reducible rfl
              · rfl
            · intro w hB; rintro _ ⟨_, rfl⟩ _ ⟨_, rfl⟩
              simp only [St.withD, List.nil_append, List.cons_append, Act.put, List.setIfInBounds_toArray, List.set_cons_zero, List.set_cons_succ]
              refine St.ob_value (v := ?_) (w' := w) (by rfl) ?_ ⟨Below.refl _ _, ?_⟩
              rotate_left
              · go_simp
                with_reducible rfl
              · rfl
            · intro w hB; rintro _ ⟨_, rfl⟩ _ ⟨_, rfl⟩
              simp only [St.withD, List.nil_append, List.cons_append, Act.put, List.setIfInBounds_toArray, List.set_cons_zero, List.set_cons_succ]
              have hb := hB.refAt.box
              rw [HN.out] at hb
              have k0 : w.cell? ⟨b, 0, none⟩ = some (.int .i64 now) := (blk_cell hb 0).trans rfl
              have k1 : w.cell? ⟨b, 1, none⟩ = some (.slice (ap pa) n cA) := (blk_cell hb 1).trans rfl
              have k2 : w.cell? ⟨b, 2, none⟩ = some (.slice (some ⟨gt, ot, none⟩) n cT) := (blk_cell hb 2).trans rfl
              have kt := hB.refAt.first
              clear hb
              clear hB
              refine St.ob_value (v := ?_) (w' := w) (by rfl) ?_ ⟨Below.refl _ _, ?_⟩
              rotate_left
              · go_simp
                with_reducible rfl
              · rfl
            · intro w hB; rintro _ ⟨_, rfl⟩ _ ⟨_, rfl⟩
              simp only [St.withD, List.nil_append, List.cons_append, Act.put, List.setIfInBounds_toArray, List.set_cons_zero, List.set_cons_succ]
              refine St.ob_value (v := ?_) (w' := w) (by rfl) ?_ ⟨Below.refl _ _, ?_⟩
              rotate_left
              · go_simp
                with_reducible rfl
              · rfl
            · intro w hB; rintro _ ⟨_, rfl⟩ _ ⟨_, rfl⟩ _ ⟨_, rfl⟩
              simp only [St.withD, List.nil_append, List.cons_append, Act.put, List.setIfInBounds_toArray, List.set_cons_zero, List.set_cons_succ]
              refine St.ob_value (v := .bool false) (w' := w) (by rfl) ?_ ⟨Below.refl _ _, rfl⟩
              clear hB
              go_simp
              try rfl
            · intro w hB; rintro _ ⟨_, rfl⟩ _ ⟨_, rfl⟩
              simp only [St.withD, List.nil_append, List.cons_append, Act.put, List.setIfInBounds_toArray, List.set_cons_zero, List.set_cons_succ]
              refine St.ob_value (v := ?_) (w' := w) (by rfl) ?_ ⟨Below.refl _ _, ?_⟩
              rotate_left
              · go_simp
                with_reducible rfl
              · rfl
            · intro w hB; rintro _ ⟨_, rfl⟩
              simp only [St.withD, List.nil_append, List.cons_append, Act.put, List.setIfInBounds_toArray, List.set_cons_zero, List.set_cons_succ]
              refine St.ob_value (v := ?_) (w' := w) (by rfl) ?_ ⟨Below.refl _ _, ?_⟩
              rotate_left
              · go_simp
                with_reducible rfl
              · rfl
            · intro w hB; rintro _ ⟨_, rfl⟩
              simp only [St.withD, List.nil_append, List.cons_append, Act.put, List.setIfInBounds_toArray, List.set_cons_zero, List.set_cons_succ]
              refine St.ob_value (v := ?_) (w' := w) (by rfl) ?_ ⟨Below.refl _ _, ?_⟩
              rotate_left
              · go_simp
                with_reducible rfl
              · rfl
            · intro w hB; rintro _ ⟨_, rfl⟩
              simp only [St.withD, List.nil_append, List.cons_append, Act.put, List.setIfInBounds_toArray, List.set_cons_zero, List.set_cons_succ]
              refine St.ob_value (v := ?_) (w' := w) (by rfl) ?_ ⟨Below.refl _ _, ?_⟩
              rotate_left
              · go_simp
                with_reducible rfl
              · rfl
            · intro w hB; rintro _ ⟨_, rfl⟩ _ ⟨_, rfl⟩
              simp only [St.withD, List.nil_append, List.cons_append, Act.put, List.setIfInBounds_toArray, List.set_cons_zero, List.set_cons_succ]
              refine St.ob_value (v := ?_) (w' := w) (by rfl) ?_ ⟨Below.refl _ _, ?_⟩
              rotate_left
              · go_simp
                with_reducible rfl
              · rfl
            · intro w hB; rintro _ ⟨_, rfl⟩ _ ⟨_, rfl⟩
              simp only [St.withD, List.nil_append, List.cons_append, Act.put, List.setIfInBounds_toArray, List.set_cons_zero, List.set_cons_succ]
              refine St.ob_value (v := ?_) (w' := w) (by rfl) ?_ ⟨Below.refl _ _, ?_⟩
              rotate_left
              · go_simp
                with_reducible rfl
              · rfl
            · intro w hB; rintro _ ⟨_, rfl⟩ _ ⟨_, rfl⟩
              simp only [St.withD, List.nil_append, List.cons_append, Act.put, List.setIfInBounds_toArray, List.set_cons_zero, List.set_cons_succ]
              have hb := hB.refAt.box
              rw [HN.out] at hb
              have k0 : w.cell? ⟨b, 0, none⟩ = some (.int .i64 now) := (blk_cell hb 0).trans rfl
              have k1 : w.cell? ⟨b, 1, none⟩ = some (.slice (ap pa) n cA) := (blk_cell hb 1).trans rfl
              have k2 : w.cell? ⟨b, 2, none⟩ = some (.slice (some ⟨gt, ot, none⟩) n cT) := (blk_cell hb 2).trans rfl
              have kt := hB.refAt.first
              clear hb
              clear hB
              refine St.ob_value (v := ?_) (w' := w) (by rfl) ?_ ⟨Below.refl _ _, ?_⟩
              rotate_left
              · go_simp
                with_reducible rfl
              · rfl
            · intro w hB; rintro _ ⟨_, rfl⟩ _ ⟨_, rfl⟩
              simp only [St.withD, List.nil_append, List.cons_append, Act.put, List.setIfInBounds_toArray, List.set_cons_zero, List.set_cons_succ]
              refine St.ob_value (v := ?_) (w' := w) (by rfl) ?_ ⟨Below.refl _ _, ?_⟩
              rotate_left
              · go_simp
                with_reducible rfl
              · rfl
            · intro w hB; rintro _ ⟨_, rfl⟩ _ ⟨_, rfl⟩
              simp only [St.withD, List.nil_append, List.cons_append, Act.put, List.setIfInBounds_toArray, List.set_cons_zero, List.set_cons_succ]
              refine St.ob_value (v := ?_) (w' := w) (by rfl) ?_ ⟨Below.refl _ _, ?_⟩
              rotate_left
              · go_simp
                with_reducible rfl
              · rfl
            · intro w hB; rintro _ ⟨_, rfl⟩ _ ⟨_, rfl⟩ _ ⟨_, rfl⟩
              simp only [St.withD, List.nil_append, List.cons_append, Act.put, List.setIfInBounds_toArray, List.set_cons_zero, List.set_cons_succ]
              refine St.ob_value (v := .bool false) (w' := w) (by rfl) ?_ ⟨Below.refl _ _, rfl⟩
              clear hB
              go_simp
              try rfl
            · intro w hB; rintro _ ⟨_, rfl⟩ _ ⟨_, rfl⟩
              simp only [St.withD, List.nil_append, List.cons_append, Act.put, List.setIfInBounds_toArray, List.set_cons_zero, List.set_cons_succ]
              refine St.ob_value (v := ?_) (w' := w) (by rfl) ?_ ⟨Below.refl _ _, ?_⟩
              rotate_left
              · go_simp
                with_reducible rfl
              · rfl
            · intro w hB; rintro _ ⟨_, rfl⟩
              simp only [St.withD, List.nil_append, List.cons_append, Act.put, List.setIfInBounds_toArray, List.set_cons_zero, List.set_cons_succ]
              refine St.ob_value (v := ?_) (w' := w) (by rfl) ?_ ⟨Below.refl _ _, ?_⟩
              rotate_left
              · go_simp
                with_reducible rfl
              · rfl
            · intro w hB; rintro _ ⟨_, rfl⟩
              simp only [St.withD, List.nil_append, List.cons_append, Act.put, List.setIfInBounds_toArray, List.set_cons_zero, List.set_cons_succ]
              refine St.ob_value (v := ?_) (w' := w) (by rfl) ?_ ⟨Below.refl _ _, ?_⟩
              rotate_left
              · go_simp
                with_reducible rfl
              · rfl
            · intro w hB; rintro _ ⟨_, rfl⟩ _ ⟨_, rfl⟩
              simp only [St.withD, List.nil_append, List.cons_append, Act.put, List.setIfInBounds_toArray, List.set_cons_zero, List.set_cons_succ]
              refine St.ob_value (v := ?_) (w' := w) (by rfl) ?_ ⟨Below.refl _ _, ?_⟩
              rotate_left
              · go_simp
                with_reducible rfl
              · rfl
            · intro w hB; rintro _ ⟨_, rfl⟩
              simp only [St.withD, List.nil_append, List.cons_append, Act.put, List.setIfInBounds_toArray, List.set_cons_zero, List.set_cons_succ]
              refine St.ob_value (v := ?_) (w' := w) (by rfl) ?_ ⟨Below.refl _ _, ?_⟩
              rotate_left
              · go_simp
                with_reducible rfl
              · rfl
            · intro w hB; rintro _ ⟨_, rfl⟩
              simp only [St.withD, List.nil_append, List.cons_append, Act.put, List.setIfInBounds_toArray, List.set_cons_zero, List.set_cons_succ]
              refine St.ob_value (v := ?_) (w' := w) (by rfl) ?_ ⟨Below.refl _ _, ?_⟩
              rotate_left
              · go_simp
                with_reducible rfl
              · rfl
            · intro w hB; rintro _ ⟨_, rfl⟩ _ ⟨_, rfl⟩
              simp only [St.withD, List.nil_append, List.cons_append, Act.put, List.setIfInBounds_toArray, List.set_cons_zero, List.set_cons_succ]
              refine St.ob_value (v := ?_) (w' := w) (by rfl) ?_ ⟨Below.refl _ _, ?_⟩
              rotate_left
              · go_simp
                with_reducible rfl
              · rfl
            · intro w hB; rintro _ ⟨_, rfl⟩ _ ⟨_, rfl⟩
              simp only [St.withD, List.nil_append, List.cons_append, Act.put, List.setIfInBounds_toArray, List.set_cons_zero, List.set_cons_succ]
              refine St.ob_value (v := ?_) (w' := w) (by rfl) ?_ ⟨Below.refl _ _, ?_⟩
              rotate_left
              · go_simp
                with_reducible rfl
              · rfl
            · intro w hB; rintro _ ⟨_, rfl⟩ _ ⟨_, rfl⟩
              simp only [St.withD, List.nil_append, List.cons_append, Act.put, List.setIfInBounds_toArray, List.set_cons_zero, List.set_cons_succ]
              have hb := hB.refAt.box
              rw [HN.out] at hb
              have k0 : w.cell? ⟨b, 0, none⟩ = some (.int .i64 now) := (blk_cell hb 0).trans rfl
              have k1 : w.cell? ⟨b, 1, none⟩ = some (.slice (ap pa) n cA) := (blk_cell hb 1).trans rfl
              have k2 : w.cell? ⟨b, 2, none⟩ = some (.slice (some ⟨gt, ot, none⟩) n cT) := (blk_cell hb 2).trans rfl
              have kt := hB.refAt.first
              clear hb
              clear hB
              refine St.ob_value (v := ?_) (w' := w) (by rfl) ?_ ⟨Below.refl _ _, ?_⟩
              rotate_left
              · go_simp
                with_reducible rfl
              · rfl
            · intro w hB; rintro _ ⟨_, rfl⟩ _ ⟨_, rfl⟩
              simp only [St.withD, List.nil_append, List.cons_append, Act.put, List.setIfInBounds_toArray, List.set_cons_zero, List.set_cons_succ]
              refine St.ob_value (v := ?_) (w' := w) (by rfl) ?_ ⟨Below.refl _ _, ?_⟩
              rotate_left
              · go_simp
                with_reducible rfl
              · rfl
            · intro w hB; rintro _ ⟨_, rfl⟩ _ ⟨_, rfl⟩
              simp only [St.withD, List.nil_append, List.cons_append, Act.put, List.setIfInBounds_toArray, List.set_cons_zero, List.set_cons_succ]
              have hb := hB.refAt.box
              rw [HN.out] at hb
              have k0 : w.cell? ⟨b, 0, none⟩ = some (.int .i64 now) := (blk_cell hb 0).trans rfl
              have k1 : w.cell? ⟨b, 1, none⟩ = some (.slice (ap pa) n cA) := (blk_cell hb 1).trans rfl
              have k2 : w.cell? ⟨b, 2, none⟩ = some (.slice (some ⟨gt, ot, none⟩) n cT) := (blk_cell hb 2).trans rfl
              have kt := hB.refAt.first
              clear hb
              clear hB
              refine St.ob_value (v := ?_) (w' := w) (by rfl) ?_ ⟨Below.refl _ _, ?_⟩
              rotate_left
              · go_simp
                with_reducible rfl
              · rfl
            · intro w hB; rintro _ ⟨_, rfl⟩ _ ⟨_, rfl⟩ _ ⟨_, rfl⟩
              simp only [St.withD, List.nil_append, List.cons_append, Act.put, List.setIfInBounds_toArray, List.set_cons_zero, List.set_cons_succ]
              refine St.ob_value (v := .bool false) (w' := w) (by rfl) ?_ ⟨Below.refl _ _, rfl⟩
              clear hB
              go_simp
              try rfl
            · intro w hB; rintro _ ⟨_, rfl⟩ _ ⟨_, rfl⟩ _ ⟨_, rfl⟩
              simp only [St.withD, List.nil_append, List.cons_append, Act.put, List.setIfInBounds_toArray, List.set_cons_zero, List.set_cons_succ]
              refine St.ob_value (v := ?_) (w' := w) (by rfl) ?_ ⟨Below.refl _ _, ?_⟩
              rotate_left
              · go_simp
                with_reducible rfl
              · rfl
            · intro w hB; rintro _ ⟨_, rfl⟩ _ ⟨_, rfl⟩
              simp only [St.withD, List.nil_append, List.cons_append, Act.put, List.setIfInBounds_toArray, List.set_cons_zero, List.set_cons_succ]
              refine St.ob_value (v := ?_) (w' := w) (by rfl) ?_ ⟨Below.refl _ _, ?_⟩
              rotate_left
              · go_simp
                with_reducible rfl
              · rfl
            · intro w hB; rintro _ ⟨_, rfl⟩
              simp only [St.withD, List.nil_append, List.cons_append, Act.put, List.setIfInBounds_toArray, List.set_cons_zero, List.set_cons_succ]
              refine St.ob_value (v := ?_) (w' := w) (by rfl) ?_ ⟨Below.refl _ _, ?_⟩
              rotate_left
              · go_simp
                with_reducible rfl
              · rfl
            · intro w hB; rintro _ ⟨_, rfl⟩
              simp only [St.withD, List.nil_append, List.cons_append, Act.put, List.setIfInBounds_toArray, List.set_cons_zero, List.set_cons_succ]
              refine St.ob_value (v := ?_) (w' := w) (by rfl) ?_ ⟨Below.refl _ _, ?_⟩
              rotate_left
              · go_simp
                with_reducible rfl
              · rfl
            · intro w hB; rintro _ ⟨_, rfl⟩ _ ⟨_, rfl⟩
              simp only [St.withD, List.nil_append, List.cons_append, Act.put, List.setIfInBounds_toArray, List.set_cons_zero, List.set_cons_succ]
              refine St.ob_value (v := ?_) (w' := w) (by rfl) ?_ ⟨Below.refl _ _, ?_⟩
              rotate_left
              · go_simp
                with_reducible rfl
              · rfl
            · intro w hB; rintro _ ⟨_, rfl⟩ _ ⟨_, rfl⟩
              simp only [St.withD, List.nil_append, List.cons_append, Act.put, List.setIfInBounds_toArray, List.set_cons_zero, List.set_cons_succ]
              refine St.ob_value (v := ?_) (w' := w) (by rfl) ?_ ⟨Below.refl _ _, ?_⟩
              rotate_left
              · go_simp
                with_reducible rfl
              · rfl
            · intro w hB; rintro _ ⟨_, rfl⟩
              simp only [St.withD, List.nil_append, List.cons_append, Act.put, List.setIfInBounds_toArray, List.set_cons_zero, List.set_cons_succ]
              refine St.ob_off (by rfl) ⟨Below.refl _ _, rfl⟩
            · intro w hB; rintro _ ⟨_, rfl⟩ _ ⟨_, rfl⟩
              simp only [St.withD, List.nil_append, List.cons_append, Act.put, List.setIfInBounds_toArray, List.set_cons_zero, List.set_cons_succ]
              refine St.ob_off (by rfl) ⟨Below.refl _ _, rfl⟩
            · intro w hB; rintro _ ⟨_, rfl⟩ _ ⟨_, rfl⟩ _ ⟨_, rfl⟩
              simp only [St.withD, List.nil_append, List.cons_append, Act.put, List.setIfInBounds_toArray, List.set_cons_zero, List.set_cons_succ]
              refine St.ob_value (v := ?_) (w' := w) (by rfl) ?_ ⟨Below.refl _ _, ?_⟩
              rotate_left
              · go_simp
                with_reducible rfl
              · rfl
            · intro w hB; rintro _ ⟨_, rfl⟩ _ ⟨_, rfl⟩
              simp only [St.withD, List.nil_append, List.cons_append, Act.put, List.setIfInBounds_toArray, List.set_cons_zero, List.set_cons_succ]
              refine St.ob_value (v := ?_) (w' := w) (by rfl) ?_ ⟨Below.refl _ _, ?_⟩
              rotate_left
              · go_simp
                with_reducible rfl
              · rfl
          case hst => exact ⟨St.eqT_st, St.eqT_st, St.eqT_st, St.eqT_st, St.eqT_st, St.eqT_st, St.eqT_st, St.eqT_st, St.eqT_st, St.eqT_st, St.eqT_st, St.eqT_st, St.eqT_st, St.eqT_st, St.eqT_st, St.eqT_st, St.eqT_st, St.eqT_st, St.eqT_st, St.eqT_st, St.eqT_st, St.eqT_st, St.eqT_st, St.eqT_st, St.eqT_st, St.eqT_st, St.eqT_st, St.eqT_st, St.eqT_st, St.eqT_st, St.eqT_st, St.eqT_st, St.eqT_st, St.eqT_st, St.eqT_st, St.eqT_st, St.eqT_st, St.eqT_st, St.eqT_st, St.eqT_st, St.eqT_st, St.eqT_st, St.eqT_st, St.eqT_st, St.eqT_st, St.eqT_st, St.eqT_st, St.eqT_st, St.eqT_st, St.eqT_st, St.eqT_st, St.eqT_st, trivial⟩
          case h0 => exact HT.out.from fam_xd fam_yp (below_drew1 (Below.refl _ _))
          case hB => exact fun w w' h k => h.from fam_xd fam_yp k
          case hend =>
            intro w hB
            rintro _ rfl _ rfl _ rfl _ rfl _ rfl _ rfl _ rfl _ rfl _ rfl _ rfl _ rfl _ rfl _ rfl _ rfl _ rfl _ rfl _ rfl _ rfl _ rfl _ rfl _ rfl _ rfl _ rfl _ rfl _ rfl _ rfl _ rfl _ rfl _ rfl _ rfl _ rfl _ rfl _ rfl _ rfl _ rfl _ rfl _ rfl _ rfl _ rfl _ rfl _ rfl _ rfl _ rfl _ rfl _ rfl _ rfl _ rfl _ rfl _ rfl _ rfl _ rfl _ rfl
            simp only [List.map_cons, List.map_nil, List.nil_append, List.cons_append, List.getD_cons_zero, List.getD_cons_succ, Act.put, List.setIfInBounds_toArray, List.set_cons_zero, List.set_cons_succ]
            rw [St.withE_nil]
            have HT3 : Aside0 (Duo w0.heap.size w0 none (XD w0.heap.size s now ord (y :: r)) (YD w0.heap.size b now (y :: r)) w) := ⟨hB.unnamed⟩
            clear hB HT
            go_wp2
            go_roundg (gk - 1)
            case measure => have := HK.out; omega
            case rel => exact ⟨k + 1, now, ord, (y :: r), ⟨by have := HK.out; omega⟩, by go_num, HM, HT3⟩
    · go_wp2
      go_ret
      exact ⟨rfl, HT.out.bel⟩
end Go.Proofs.Ytfijbhacobjjgag
