/- A table's Add. -/
import Derived.Test.YtfijbhacobjjgahTabA
import Derived.Test.YtfijbhacobjjgahSwapA
namespace Go.Proofs.Ytfijbhacobjjgah
open Go.RowKit Go.Proofs.YtfijbhacobjjgahW.PrintWords Go.Proofs.YtfijbhacobjjgahW.PrintLast Go.Proofs.YtfijbhacobjjgahW.PrintMore Go.Proofs.Ytfijbhacobjjgah.Fr
set_option linter.unusedVariables false
set_option linter.unusedSimpArgs false
attribute [local go_sem] max2_int min2_int max_two min_two

open Pl Hp Go.Maps
theorem upd_op {P : Program} {ρ : Operand → Value} {w w1 : World} {o : Oper} {t : TypeId} {m x v : Operand} {M K V : Value} (ho : o.op = .mapUpdate t m x v) (hm : ρ m = M) (hx : ρ x = K) (hv : ρ v = V) (hrun : (Instr.mapUpdate t M K V).run P w = .ok () w1) : (execOp ρ o).run P w = .ok .skip w1 := by
  unfold execOp
  rw [ho]
  simp only [hm, hx, hv, Sem.run_bind, Sem.run_pure, Result.andThen_ok, hrun]
theorem ch_turned {w w1 : World} {md : Nat} (h : w.mapTurned w1 md) : Ch (fun i => i = md) w w1 := Ch.grown h.grown (fun k e => by cases e; rfl)
section
variable {B : Nat} {w w1 : World} {g md room : Nat} {D : DW} {L : List It}
def AddPost (B g md room : Nat) (L : List It) (s : ByteArray) (wt : Int) (W : World) (e : Ending) (w' : World) : Prop := ∃ D', e = .returned (.bool (addL room s wt L).2) ∧ TB B w' g md room D' (addL room s wt L).1 ∧ Ch (fun i => i = md) W w'
set_option maxHeartbeats 4000000 in
theorem tadd_any (s : ByteArray) (hs : s.size ≤ 9223372036854775807) (wt : Int) (w : World) (h : TB B w g md room D L) : Calls Try.prog 9 #[.pointer (some ⟨g, 0, none⟩), .string s, .int .i64 wt] w (AddPost B g md room L s wt w) := by
  have c1 : w.cell? ⟨g, 1, none⟩ = some (.map (some md)) := (blk_cell h.box 1).trans rfl
  have hlk := h.look2 hs
  obtain ⟨cn, hcn⟩ : ∃ cn, cnt s L = cn := ⟨_, rfl⟩
  obtain ⟨cc, hcc⟩ : ∃ cc, addC cn wt = cc := ⟨_, rfl⟩
  have hcb := h.wl.cnt s
  rw [hcn] at hcb hlk
  have HCC : Aside0 (cc = min (cn + brI wt 0 1048576) 1099511627776) := ⟨by rw [← hcc, addC_min hcb.1]⟩
  have HBD : Aside0 (0 ≤ brI wt 0 1048576 ∧ brI wt 0 1048576 ≤ 1048576 ∧ 0 ≤ cn ∧ cn ≤ 1099511627776) := ⟨by unfold brI; omega, by unfold brI; omega, hcb.1, hcb.2⟩
  have HCD : Aside0 (addC (cnt s L) wt = cc) := ⟨by rw [hcn]; exact hcc⟩
  have HSZ3 : Aside0 ((Lit.int .i64 cc).wf = true) := ⟨by have := addC_bd cn wt; rw [hcc] at this; exact WalkArith.wf_i64 (by omega)⟩
  have HSZ : Aside0 (s.size ≤ 9223372036854775807 ∧ Maps.size D < maxLen) := ⟨hs, by rw [h.rel.sz]; have := h.wl.len; have := h.r1; simp only [maxLen]; omega⟩
  have H := Aside0.mk h
  clear h hs hcn hcc hcb
  by_cases hp : pos s L < L.length
  · have HOK : Aside0 ((addL room s wt L).2 = true) := ⟨by unfold addL; rw [if_pos hp]⟩
    rw [decide_eq_true hp] at hlk
    clear hp
    go_enter Try.func9, Try.ntmps9
    go_upto_region 4 with fail
    go_wp2
    obtain ⟨wd, hwd⟩ : ∃ wd, w.drew = wd := ⟨_, rfl⟩
    have HT : Aside0 (TB B wd g md room D L) := ⟨hwd ▸ H.out.below (below_drew (Below.refl _ _))⟩
    clear hlk c1
    refine St.steadyR (n := 14) (by kernel_rfl) ([] :: [(0, 20)] :: [(1, 21)] :: [(2, 22)] :: [(2, 22), (3, 23)] :: [(2, 22), (4, 24)] :: [(2, 22), (5, 25)] :: [(2, 22), (6, 26)] :: [(2, 22)] :: [(2, 22), (8, 28)] :: [(2, 22), (9, 29)] :: [(2, 22), (10, 30)] :: [(2, 22), (7, 27), (11, 31)] :: [(2, 22), (12, 32)] :: []) (some 20 :: some 21 :: some 22 :: some 23 :: some 24 :: some 25 :: some 26 :: some 27 :: some 28 :: some 29 :: some 30 :: some 31 :: some 32 :: some 33 :: []) (by kernel_rfl) ((St.eqT ?c4_0x4) :: (St.eqT ?c4_1x4) :: (St.eqT ?c4_2x4) :: (St.eqT undef) :: (St.eqT undef) :: (St.eqT undef) :: (St.eqT undef) :: (St.eqT undef) :: (St.eqT undef) :: (St.eqT undef) :: (St.eqT undef) :: (St.eqT undef) :: (St.eqT undef) :: (St.eqT ?c4_13x4) :: []) rfl (by rfl) (fun w' => w' = wd) (fun w w' => w = w') ?hst ?h0 ?hB ?hop ?hend
    case hop =>
      refine ⟨?_, ?_, ?_, ?_, ?_, ?_, ?_, ?_, ?_, ?_, ?_, ?_, ?_, ?_, trivial⟩
      · intro w hB
        simp only [St.withD]
        refine St.ob_value (v := ?_) (w' := w) (by rfl) ?_ ⟨rfl, ?_⟩
        rotate_left
        · go_simp
          with_reducible rfl
        · rfl
      · intro w hB; rintro _ ⟨_, rfl⟩
        simp only [St.withD, List.nil_append, List.cons_append, Act.put, List.setIfInBounds_toArray, List.set_cons_zero, List.set_cons_succ]
        refine St.ob_value (v := ?_) (w' := w) (by rfl) ?_ ⟨rfl, ?_⟩
        rotate_left
        · go_simp
          with_reducible rfl
        · rfl
      · intro w hB; rintro _ ⟨_, rfl⟩
        simp only [St.withD, List.nil_append, List.cons_append, Act.put, List.setIfInBounds_toArray, List.set_cons_zero, List.set_cons_succ]
        refine St.ob_value (v := ?_) (w' := w) (by rfl) ?_ ⟨rfl, ?_⟩
        rotate_left
        · go_simp
          with_reducible rfl
        · rfl
      · intro w hB; rintro _ ⟨_, rfl⟩
        simp only [St.withD, List.nil_append, List.cons_append, Act.put, List.setIfInBounds_toArray, List.set_cons_zero, List.set_cons_succ]
        refine St.ob_off (by rfl) ⟨trivial, rfl⟩
      · intro w hB; rintro _ ⟨_, rfl⟩ _ ⟨_, rfl⟩
        simp only [St.withD, List.nil_append, List.cons_append, Act.put, List.setIfInBounds_toArray, List.set_cons_zero, List.set_cons_succ]
        refine St.ob_off (by rfl) ⟨trivial, rfl⟩
      · intro w hB; rintro _ ⟨_, rfl⟩ _ ⟨_, rfl⟩
        simp only [St.withD, List.nil_append, List.cons_append, Act.put, List.setIfInBounds_toArray, List.set_cons_zero, List.set_cons_succ]
        refine St.ob_off (by rfl) ⟨trivial, rfl⟩
      · intro w hB; rintro _ ⟨_, rfl⟩ _ ⟨_, rfl⟩
        simp only [St.withD, List.nil_append, List.cons_append, Act.put, List.setIfInBounds_toArray, List.set_cons_zero, List.set_cons_succ]
        refine St.ob_off (by rfl) ⟨trivial, rfl⟩
      · intro w hB; rintro _ ⟨_, rfl⟩ _ ⟨_, rfl⟩
        simp only [St.withD, List.nil_append, List.cons_append, Act.put, List.setIfInBounds_toArray, List.set_cons_zero, List.set_cons_succ]
        refine St.ob_off (by rfl) ⟨trivial, rfl⟩
      · intro w hB; rintro _ ⟨_, rfl⟩
        simp only [St.withD, List.nil_append, List.cons_append, Act.put, List.setIfInBounds_toArray, List.set_cons_zero, List.set_cons_succ]
        refine St.ob_off (by rfl) ⟨trivial, rfl⟩
      · intro w hB; rintro _ ⟨_, rfl⟩ _ ⟨_, rfl⟩
        simp only [St.withD, List.nil_append, List.cons_append, Act.put, List.setIfInBounds_toArray, List.set_cons_zero, List.set_cons_succ]
        refine St.ob_off (by rfl) ⟨trivial, rfl⟩
      · intro w hB; rintro _ ⟨_, rfl⟩ _ ⟨_, rfl⟩
        simp only [St.withD, List.nil_append, List.cons_append, Act.put, List.setIfInBounds_toArray, List.set_cons_zero, List.set_cons_succ]
        refine St.ob_off (by rfl) ⟨trivial, rfl⟩
      · intro w hB; rintro _ ⟨_, rfl⟩ _ ⟨_, rfl⟩
        simp only [St.withD, List.nil_append, List.cons_append, Act.put, List.setIfInBounds_toArray, List.set_cons_zero, List.set_cons_succ]
        refine St.ob_off (by rfl) ⟨trivial, rfl⟩
      · intro w hB; rintro _ ⟨_, rfl⟩ _ ⟨_, rfl⟩ _ ⟨_, rfl⟩
        simp only [St.withD, List.nil_append, List.cons_append, Act.put, List.setIfInBounds_toArray, List.set_cons_zero, List.set_cons_succ]
        refine St.ob_off (by rfl) ⟨trivial, rfl⟩
      · intro w hB; rintro _ ⟨_, rfl⟩ _ ⟨_, rfl⟩
        simp only [St.withD, List.nil_append, List.cons_append, Act.put, List.setIfInBounds_toArray, List.set_cons_zero, List.set_cons_succ]
        refine St.ob_value (v := ?_) (w' := w) (by rfl) ?_ ⟨rfl, ?_⟩
        rotate_left
        · go_simp
          with_reducible rfl
        · rfl
    case hst => exact ⟨St.eqT_st, St.eqT_st, St.eqT_st, St.eqT_st, St.eqT_st, St.eqT_st, St.eqT_st, St.eqT_st, St.eqT_st, St.eqT_st, St.eqT_st, St.eqT_st, St.eqT_st, St.eqT_st, trivial⟩
    case h0 => exact hwd
    case hB => exact fun w w' h e => e ▸ h
    case hend =>
      intro w hB
      rintro _ rfl _ rfl _ rfl _ rfl _ rfl _ rfl _ rfl _ rfl _ rfl _ rfl _ rfl _ rfl _ rfl _ rfl
      simp only [List.map_cons, List.map_nil, List.nil_append, List.cons_append, List.getD_cons_zero, List.getD_cons_succ, Act.put, List.setIfInBounds_toArray, List.set_cons_zero, List.set_cons_succ]
      rw [St.withE_nil]
      rw [hB]
      clear hB
      go_upto_region 6 with fail
      go_wp2
      obtain ⟨wd2, hwd2⟩ : ∃ wd2, wd.drew = wd2 := ⟨_, rfl⟩
      have HT2 : Aside0 (TB B wd2 g md room D L) := ⟨hwd2 ▸ HT.out.below (below_drew (Below.refl _ _))⟩
      refine St.steadyW (n := 11) (by kernel_rfl) ([] :: [(0, 34)] :: [(1, 35)] :: [(2, 36)] :: [] :: [] :: [] :: [(6, 40)] :: [(5, 39), (7, 41)] :: [(8, 42)] :: [(3, 37), (4, 38), (9, 43)] :: []) (some 34 :: some 35 :: some 36 :: some 37 :: some 38 :: some 39 :: some 40 :: some 41 :: some 42 :: some 43 :: none :: []) (by kernel_rfl) 10 (0 :: 0 :: 0 :: 0 :: 0 :: 0 :: 0 :: 0 :: 0 :: 0 :: 1 :: []) (by kernel_rfl) rfl (by decide) ((St.eqT ?c6_0x3) :: (St.eqT ?c6_1x3) :: (St.eqT ?c6_2x3) :: (St.eqT ?c6_3x3) :: (St.eqT ?c6_4x3) :: (St.eqT ?c6_5x3) :: (St.eqT ?c6_6x3) :: (St.eqT ?c6_7x3) :: (St.eqT ?c6_8x3) :: (St.eqT (.int .i64 cc)) :: (St.eqT undef) :: []) rfl (by rfl) (fun w' => w' = wd2) (fun w w' => w = w') (fun w w' => w'.ownsMap Try.prog 9 EL md (Maps.size D + 1) (D.put (ks s) (vi cc)) ∧ Ch (fun i => i = md) w w') (fun w' => w'.ownsMap Try.prog 9 EL md (Maps.size D + 1) (D.put (ks s) (vi cc)) ∧ Ch (fun i => i = md) wd2 w') (fun w w' => w = w') ?hst ?h0 ?hB ?hC ?hop ?hend
      case hop =>
        refine ⟨?_, ?_, ?_, ?_, ?_, ?_, ?_, ?_, ?_, ?_, ?_, trivial⟩
        · intro w hB
          simp only [St.withD]
          refine St.ob_value (v := ?_) (w' := w) (by rfl) ?_ ⟨rfl, ?_⟩
          rotate_left
          · go_simp
            with_reducible rfl
          · rfl
        · intro w hB; rintro _ ⟨_, rfl⟩
          simp only [St.withD, List.nil_append, List.cons_append, Act.put, List.setIfInBounds_toArray, List.set_cons_zero, List.set_cons_succ]
          refine St.ob_value (v := ?_) (w' := w) (by rfl) ?_ ⟨rfl, ?_⟩
          rotate_left
          · go_simp
            with_reducible rfl
          · rfl
        · intro w hB; rintro _ ⟨_, rfl⟩
          simp only [St.withD, List.nil_append, List.cons_append, Act.put, List.setIfInBounds_toArray, List.set_cons_zero, List.set_cons_succ]
          refine St.ob_value (v := ?_) (w' := w) (by rfl) ?_ ⟨rfl, ?_⟩
          rotate_left
          · go_simp
            with_reducible rfl
          · rfl
        · intro w hB; rintro _ ⟨_, rfl⟩
          simp only [St.withD, List.nil_append, List.cons_append, Act.put, List.setIfInBounds_toArray, List.set_cons_zero, List.set_cons_succ]
          have hs := HT2.out
          rw [← hB] at hs
          have c0 : w.cell? ⟨g, 0, none⟩ = some (.int .i64 (room : Nat)) := (blk_cell hs.box 0).trans rfl
          have c1 : w.cell? ⟨g, 1, none⟩ = some (.map (some md)) := (blk_cell hs.box 1).trans rfl
          clear hB hs
          refine St.ob_value (v := ?_) (w' := w) (by rfl) ?_ ⟨rfl, ?_⟩
          rotate_left
          · go_simp
            with_reducible rfl
          · rfl
        · intro w hB
          simp only [St.withD]
          refine St.ob_value (v := ?_) (w' := w) (by rfl) ?_ ⟨rfl, ?_⟩
          rotate_left
          · go_simp
            with_reducible rfl
          · rfl
        · intro w hB
          simp only [St.withD]
          refine St.ob_value (v := ?_) (w' := w) (by rfl) ?_ ⟨rfl, ?_⟩
          rotate_left
          · go_simp
            with_reducible rfl
          · rfl
        · intro w hB
          simp only [St.withD]
          refine St.ob_value (v := ?_) (w' := w) (by rfl) ?_ ⟨rfl, ?_⟩
          rotate_left
          · go_simp
            with_reducible rfl
          · rfl
        · intro w hB; rintro _ ⟨_, rfl⟩
          simp only [St.withD, List.nil_append, List.cons_append, Act.put, List.setIfInBounds_toArray, List.set_cons_zero, List.set_cons_succ]
          refine St.ob_call Try.func19 (by kernel_rfl) rfl #[.int .i64 wt, .int .i64 0, .int .i64 1048576] (by rfl) rfl (by (try simp only [List.map_toArray, List.map_cons, List.map_nil]); first | done | rfl | (simp only [List.length_drop, List.length_take]; rfl)) ?_
          refine (brought_any wt 0 1048576 w).mono ?_
          rintro e w1 ⟨rfl, rfl⟩
          refine ⟨_, rfl, rfl, ?_⟩
          rfl
        · intro w hB; rintro _ ⟨_, rfl⟩ _ ⟨_, rfl⟩
          simp only [St.withD, List.nil_append, List.cons_append, Act.put, List.setIfInBounds_toArray, List.set_cons_zero, List.set_cons_succ]
          refine St.ob_value (v := ?_) (w' := w) (by rfl) ?_ ⟨rfl, ?_⟩
          rotate_left
          · go_simp
            with_reducible rfl
          · rfl
        · intro w hB; rintro _ ⟨_, rfl⟩
          simp only [St.withD, List.nil_append, List.cons_append, Act.put, List.setIfInBounds_toArray, List.set_cons_zero, List.set_cons_succ]
          refine St.ob_value (v := .int .i64 cc) (w' := w) (by rfl) ?_ ⟨rfl, rfl⟩
          clear hB
          have hcc := HCC.out
          obtain ⟨bb, hbb⟩ : ∃ bb, brI wt 0 1048576 = bb := ⟨_, rfl⟩
          have hbd := HBD.out
          rw [hbb] at hcc hbd ⊢
          have hwa : IntKind.i64.wrap (cn + bb) = cn + bb := by rw [IntKind.wrap_i64]; omega
          by_cases hm : 1099511627776 < cn + bb
          · have e : cc = 1099511627776 := by omega
            rw [e]
            clear hcc
            go_simp
            try omega
          · have e : cc = cn + bb := by omega
            rw [e]
            clear hcc
            go_simp
            try omega
        · intro w hB; rintro _ ⟨_, rfl⟩ _ ⟨_, rfl⟩ _ ⟨_, rfl⟩
          simp only [St.withD, List.nil_append, List.cons_append, Act.put, List.setIfInBounds_toArray, List.set_cons_zero, List.set_cons_succ]
          have hs := HT2.out
          rw [← hB] at hs
          obtain ⟨w2, hrun, hm2, ht2⟩ := hs.map.store law9 Try.underlying49 HSZ.out.2 (key9 HSZ.out.1) (val := .int .i64 cc) (plainElem_int Try.underlying3 HSZ3.out)
          exact St.ob_skip (w' := w2) (by rfl) (upd_op rfl (by rfl) (by rfl) (by rfl) hrun) ⟨⟨⟨hm2, ch_turned ht2⟩, by rw [← hB]; exact ⟨hm2, ch_turned ht2⟩⟩, rfl⟩
      case hst => exact ⟨St.eqT_st, St.eqT_st, St.eqT_st, St.eqT_st, St.eqT_st, St.eqT_st, St.eqT_st, St.eqT_st, St.eqT_st, St.eqT_st, St.eqT_st, trivial⟩
      case h0 => exact hwd2
      case hB => exact fun w w' h e => e ▸ h
      case hC => (intro w w' h e; subst e; exact h)
      case hend =>
        intro w hB
        rintro _ rfl _ rfl _ rfl _ rfl _ rfl _ rfl _ rfl _ rfl _ rfl _ rfl _ rfl
        simp only [List.map_cons, List.map_nil, List.nil_append, List.cons_append, List.getD_cons_zero, List.getD_cons_succ, Act.put, List.setIfInBounds_toArray, List.set_cons_zero, List.set_cons_succ]
        rw [St.withE_nil]
        have HF := Aside0.mk hB
        clear hB
        go_wp2
        go_ret
        refine ⟨D.put (ks s) (vi cc), by rw [HOK.out]; rfl, ⟨HF.out.2.blk HT2.out.box (Ne.symm HT2.out.ne), own_tight HF.out.1, by rw [← HCD.out]; exact HT2.out.rel.add room (HT2.out.map.tidy law9) s wt HOK.out, HT2.out.wl.add s wt, HT2.out.r1, HT2.out.lo, HT2.out.lom, HT2.out.ne⟩, ?_⟩
        rw [← hwd2, ← hwd] at HF
        exact ⟨HF.out.2.os, HF.out.2.tape, HF.out.2.output, HF.out.2.size, HF.out.2.block⟩
  · rw [decide_eq_false hp] at hlk
    have hpe : ¬ pos s L < L.length := hp
    by_cases hr : L.length < room
    · have HOK : Aside0 ((addL room s wt L).2 = true) := ⟨by unfold addL; rw [if_neg hp, if_pos hr]⟩
      have hri : ¬ (room : Int) ≤ L.length := by omega
      clear hp hpe hr
      go_enter Try.func9, Try.ntmps9
      go_upto_region 4 with fail
      go_wp2
      obtain ⟨wd, hwd⟩ : ∃ wd, w.drew = wd := ⟨_, rfl⟩
      have HT : Aside0 (TB B wd g md room D L) := ⟨hwd ▸ H.out.below (below_drew (Below.refl _ _))⟩
      clear hlk c1
      refine St.steadyR (n := 14) (by kernel_rfl) ([] :: [(0, 20)] :: [(1, 21)] :: [(2, 22)] :: [(2, 22), (3, 23)] :: [(2, 22), (4, 24)] :: [(2, 22), (5, 25)] :: [(2, 22), (6, 26)] :: [(2, 22)] :: [(2, 22), (8, 28)] :: [(2, 22), (9, 29)] :: [(2, 22), (10, 30)] :: [(2, 22), (7, 27), (11, 31)] :: [(2, 22), (12, 32)] :: []) (some 20 :: some 21 :: some 22 :: some 23 :: some 24 :: some 25 :: some 26 :: some 27 :: some 28 :: some 29 :: some 30 :: some 31 :: some 32 :: some 33 :: []) (by kernel_rfl) ((St.eqT ?c4_0x5) :: (St.eqT ?c4_1x5) :: (St.eqT ?c4_2x5) :: (St.eqT ?c4_3x5) :: (St.eqT ?c4_4x5) :: (St.eqT ?c4_5x5) :: (St.eqT ?c4_6x5) :: (St.eqT (.int .i64 (L.length : Nat))) :: (St.eqT ?c4_8x5) :: (St.eqT ?c4_9x5) :: (St.eqT ?c4_10x5) :: (St.eqT ?c4_11x5) :: (St.eqT ?c4_12x5) :: (St.eqT ?c4_13x5) :: []) rfl (by rfl) (fun w' => w' = wd) (fun w w' => w = w') ?hst ?h0 ?hB ?hop ?hend
      case hop =>
        refine ⟨?_, ?_, ?_, ?_, ?_, ?_, ?_, ?_, ?_, ?_, ?_, ?_, ?_, ?_, trivial⟩
        · intro w hB
          simp only [St.withD]
          refine St.ob_value (v := ?_) (w' := w) (by rfl) ?_ ⟨rfl, ?_⟩
          rotate_left
          · go_simp
            with_reducible rfl
          · rfl
        · intro w hB; rintro _ ⟨_, rfl⟩
          simp only [St.withD, List.nil_append, List.cons_append, Act.put, List.setIfInBounds_toArray, List.set_cons_zero, List.set_cons_succ]
          refine St.ob_value (v := ?_) (w' := w) (by rfl) ?_ ⟨rfl, ?_⟩
          rotate_left
          · go_simp
            with_reducible rfl
          · rfl
        · intro w hB; rintro _ ⟨_, rfl⟩
          simp only [St.withD, List.nil_append, List.cons_append, Act.put, List.setIfInBounds_toArray, List.set_cons_zero, List.set_cons_succ]
          refine St.ob_value (v := ?_) (w' := w) (by rfl) ?_ ⟨rfl, ?_⟩
          rotate_left
          · go_simp
            with_reducible rfl
          · rfl
        · intro w hB; rintro _ ⟨_, rfl⟩
          simp only [St.withD, List.nil_append, List.cons_append, Act.put, List.setIfInBounds_toArray, List.set_cons_zero, List.set_cons_succ]
          refine St.ob_value (v := ?_) (w' := w) (by rfl) ?_ ⟨rfl, ?_⟩
          rotate_left
          · go_simp
            with_reducible rfl
          · rfl
        · intro w hB; rintro _ ⟨_, rfl⟩ _ ⟨_, rfl⟩
          simp only [St.withD, List.nil_append, List.cons_append, Act.put, List.setIfInBounds_toArray, List.set_cons_zero, List.set_cons_succ]
          refine St.ob_value (v := ?_) (w' := w) (by rfl) ?_ ⟨rfl, ?_⟩
          rotate_left
          · go_simp
            with_reducible rfl
          · rfl
        · intro w hB; rintro _ ⟨_, rfl⟩ _ ⟨_, rfl⟩
          simp only [St.withD, List.nil_append, List.cons_append, Act.put, List.setIfInBounds_toArray, List.set_cons_zero, List.set_cons_succ]
          refine St.ob_value (v := ?_) (w' := w) (by rfl) ?_ ⟨rfl, ?_⟩
          rotate_left
          · go_simp
            with_reducible rfl
          · rfl
        · intro w hB; rintro _ ⟨_, rfl⟩ _ ⟨_, rfl⟩
          simp only [St.withD, List.nil_append, List.cons_append, Act.put, List.setIfInBounds_toArray, List.set_cons_zero, List.set_cons_succ]
          have hs := HT.out
          rw [← hB] at hs
          have c0 : w.cell? ⟨g, 0, none⟩ = some (.int .i64 (room : Nat)) := (blk_cell hs.box 0).trans rfl
          have c1 : w.cell? ⟨g, 1, none⟩ = some (.map (some md)) := (blk_cell hs.box 1).trans rfl
          clear hB hs
          refine St.ob_value (v := ?_) (w' := w) (by rfl) ?_ ⟨rfl, ?_⟩
          rotate_left
          · go_simp
            with_reducible rfl
          · rfl
        · intro w hB; rintro _ ⟨_, rfl⟩ _ ⟨_, rfl⟩
          simp only [St.withD, List.nil_append, List.cons_append, Act.put, List.setIfInBounds_toArray, List.set_cons_zero, List.set_cons_succ]
          have hs := HT.out
          rw [← hB] at hs
          have hln := hs.len
          clear hB hs
          refine St.ob_value (v := .int .i64 (L.length : Nat)) (w' := w) (by rfl) ?_ ⟨rfl, rfl⟩
          go_simp
        · intro w hB; rintro _ ⟨_, rfl⟩
          simp only [St.withD, List.nil_append, List.cons_append, Act.put, List.setIfInBounds_toArray, List.set_cons_zero, List.set_cons_succ]
          refine St.ob_value (v := ?_) (w' := w) (by rfl) ?_ ⟨rfl, ?_⟩
          rotate_left
          · go_simp
            with_reducible rfl
          · rfl
        · intro w hB; rintro _ ⟨_, rfl⟩ _ ⟨_, rfl⟩
          simp only [St.withD, List.nil_append, List.cons_append, Act.put, List.setIfInBounds_toArray, List.set_cons_zero, List.set_cons_succ]
          refine St.ob_value (v := ?_) (w' := w) (by rfl) ?_ ⟨rfl, ?_⟩
          rotate_left
          · go_simp
            with_reducible rfl
          · rfl
        · intro w hB; rintro _ ⟨_, rfl⟩ _ ⟨_, rfl⟩
          simp only [St.withD, List.nil_append, List.cons_append, Act.put, List.setIfInBounds_toArray, List.set_cons_zero, List.set_cons_succ]
          refine St.ob_value (v := ?_) (w' := w) (by rfl) ?_ ⟨rfl, ?_⟩
          rotate_left
          · go_simp
            with_reducible rfl
          · rfl
        · intro w hB; rintro _ ⟨_, rfl⟩ _ ⟨_, rfl⟩
          simp only [St.withD, List.nil_append, List.cons_append, Act.put, List.setIfInBounds_toArray, List.set_cons_zero, List.set_cons_succ]
          have hs := HT.out
          rw [← hB] at hs
          have c0 : w.cell? ⟨g, 0, none⟩ = some (.int .i64 (room : Nat)) := (blk_cell hs.box 0).trans rfl
          have c1 : w.cell? ⟨g, 1, none⟩ = some (.map (some md)) := (blk_cell hs.box 1).trans rfl
          clear hB hs
          refine St.ob_value (v := ?_) (w' := w) (by rfl) ?_ ⟨rfl, ?_⟩
          rotate_left
          · go_simp
            with_reducible rfl
          · rfl
        · intro w hB; rintro _ ⟨_, rfl⟩ _ ⟨_, rfl⟩ _ ⟨_, rfl⟩
          simp only [St.withD, List.nil_append, List.cons_append, Act.put, List.setIfInBounds_toArray, List.set_cons_zero, List.set_cons_succ]
          refine St.ob_value (v := ?_) (w' := w) (by rfl) ?_ ⟨rfl, ?_⟩
          rotate_left
          · go_simp
            with_reducible rfl
          · rfl
        · intro w hB; rintro _ ⟨_, rfl⟩ _ ⟨_, rfl⟩
          simp only [St.withD, List.nil_append, List.cons_append, Act.put, List.setIfInBounds_toArray, List.set_cons_zero, List.set_cons_succ]
          refine St.ob_value (v := ?_) (w' := w) (by rfl) ?_ ⟨rfl, ?_⟩
          rotate_left
          · go_simp
            with_reducible rfl
          · rfl
      case hst => exact ⟨St.eqT_st, St.eqT_st, St.eqT_st, St.eqT_st, St.eqT_st, St.eqT_st, St.eqT_st, St.eqT_st, St.eqT_st, St.eqT_st, St.eqT_st, St.eqT_st, St.eqT_st, St.eqT_st, trivial⟩
      case h0 => exact hwd
      case hB => exact fun w w' h e => e ▸ h
      case hend =>
        intro w hB
        rintro _ rfl _ rfl _ rfl _ rfl _ rfl _ rfl _ rfl _ rfl _ rfl _ rfl _ rfl _ rfl _ rfl _ rfl
        simp only [List.map_cons, List.map_nil, List.nil_append, List.cons_append, List.getD_cons_zero, List.getD_cons_succ, Act.put, List.setIfInBounds_toArray, List.set_cons_zero, List.set_cons_succ]
        rw [St.withE_nil]
        rw [hB]
        clear hB
        go_upto_region 6 with fail
        go_wp2
        obtain ⟨wd2, hwd2⟩ : ∃ wd2, wd.drew = wd2 := ⟨_, rfl⟩
        have HT2 : Aside0 (TB B wd2 g md room D L) := ⟨hwd2 ▸ HT.out.below (below_drew (Below.refl _ _))⟩
        refine St.steadyW (n := 11) (by kernel_rfl) ([] :: [(0, 34)] :: [(1, 35)] :: [(2, 36)] :: [] :: [] :: [] :: [(6, 40)] :: [(5, 39), (7, 41)] :: [(8, 42)] :: [(3, 37), (4, 38), (9, 43)] :: []) (some 34 :: some 35 :: some 36 :: some 37 :: some 38 :: some 39 :: some 40 :: some 41 :: some 42 :: some 43 :: none :: []) (by kernel_rfl) 10 (0 :: 0 :: 0 :: 0 :: 0 :: 0 :: 0 :: 0 :: 0 :: 0 :: 1 :: []) (by kernel_rfl) rfl (by decide) ((St.eqT ?c6_0x3) :: (St.eqT ?c6_1x3) :: (St.eqT ?c6_2x3) :: (St.eqT ?c6_3x3) :: (St.eqT ?c6_4x3) :: (St.eqT ?c6_5x3) :: (St.eqT ?c6_6x3) :: (St.eqT ?c6_7x3) :: (St.eqT ?c6_8x3) :: (St.eqT (.int .i64 cc)) :: (St.eqT undef) :: []) rfl (by rfl) (fun w' => w' = wd2) (fun w w' => w = w') (fun w w' => w'.ownsMap Try.prog 9 EL md (Maps.size D + 1) (D.put (ks s) (vi cc)) ∧ Ch (fun i => i = md) w w') (fun w' => w'.ownsMap Try.prog 9 EL md (Maps.size D + 1) (D.put (ks s) (vi cc)) ∧ Ch (fun i => i = md) wd2 w') (fun w w' => w = w') ?hst ?h0 ?hB ?hC ?hop ?hend
        case hop =>
          refine ⟨?_, ?_, ?_, ?_, ?_, ?_, ?_, ?_, ?_, ?_, ?_, trivial⟩
          · intro w hB
            simp only [St.withD]
            refine St.ob_value (v := ?_) (w' := w) (by rfl) ?_ ⟨rfl, ?_⟩
            rotate_left
            · go_simp
              with_reducible rfl
            · rfl
          · intro w hB; rintro _ ⟨_, rfl⟩
            simp only [St.withD, List.nil_append, List.cons_append, Act.put, List.setIfInBounds_toArray, List.set_cons_zero, List.set_cons_succ]
            refine St.ob_value (v := ?_) (w' := w) (by rfl) ?_ ⟨rfl, ?_⟩
            rotate_left
            · go_simp
              with_reducible rfl
            · rfl
          · intro w hB; rintro _ ⟨_, rfl⟩
            simp only [St.withD, List.nil_append, List.cons_append, Act.put, List.setIfInBounds_toArray, List.set_cons_zero, List.set_cons_succ]
            refine St.ob_value (v := ?_) (w' := w) (by rfl) ?_ ⟨rfl, ?_⟩
            rotate_left
            · go_simp
              with_reducible rfl
            · rfl
          · intro w hB; rintro _ ⟨_, rfl⟩
            simp only [St.withD, List.nil_append, List.cons_append, Act.put, List.setIfInBounds_toArray, List.set_cons_zero, List.set_cons_succ]
            have hs := HT2.out
            rw [← hB] at hs
            have c0 : w.cell? ⟨g, 0, none⟩ = some (.int .i64 (room : Nat)) := (blk_cell hs.box 0).trans rfl
            have c1 : w.cell? ⟨g, 1, none⟩ = some (.map (some md)) := (blk_cell hs.box 1).trans rfl
            clear hB hs
            refine St.ob_value (v := ?_) (w' := w) (by rfl) ?_ ⟨rfl, ?_⟩
            rotate_left
            · go_simp
              with_reducible rfl
            · rfl
          · intro w hB
            simp only [St.withD]
            refine St.ob_value (v := ?_) (w' := w) (by rfl) ?_ ⟨rfl, ?_⟩
            rotate_left
            · go_simp
              with_reducible rfl
            · rfl
          · intro w hB
            simp only [St.withD]
            refine St.ob_value (v := ?_) (w' := w) (by rfl) ?_ ⟨rfl, ?_⟩
            rotate_left
            · go_simp
              with_reducible rfl
            · rfl
          · intro w hB
            simp only [St.withD]
            refine St.ob_value (v := ?_) (w' := w) (by rfl) ?_ ⟨rfl, ?_⟩
            rotate_left
            · go_simp
              with_reducible rfl
            · rfl
          · intro w hB; rintro _ ⟨_, rfl⟩
            simp only [St.withD, List.nil_append, List.cons_append, Act.put, List.setIfInBounds_toArray, List.set_cons_zero, List.set_cons_succ]
            refine St.ob_call Try.func19 (by kernel_rfl) rfl #[.int .i64 wt, .int .i64 0, .int .i64 1048576] (by rfl) rfl (by (try simp only [List.map_toArray, List.map_cons, List.map_nil]); first | done | rfl | (simp only [List.length_drop, List.length_take]; rfl)) ?_
            refine (brought_any wt 0 1048576 w).mono ?_
            rintro e w1 ⟨rfl, rfl⟩
            refine ⟨_, rfl, rfl, ?_⟩
            rfl
          · intro w hB; rintro _ ⟨_, rfl⟩ _ ⟨_, rfl⟩
            simp only [St.withD, List.nil_append, List.cons_append, Act.put, List.setIfInBounds_toArray, List.set_cons_zero, List.set_cons_succ]
            refine St.ob_value (v := ?_) (w' := w) (by rfl) ?_ ⟨rfl, ?_⟩
            rotate_left
            · go_simp
              with_reducible rfl
            · rfl
          · intro w hB; rintro _ ⟨_, rfl⟩
            simp only [St.withD, List.nil_append, List.cons_append, Act.put, List.setIfInBounds_toArray, List.set_cons_zero, List.set_cons_succ]
            refine St.ob_value (v := .int .i64 cc) (w' := w) (by rfl) ?_ ⟨rfl, rfl⟩
            clear hB
            have hcc := HCC.out
            obtain ⟨bb, hbb⟩ : ∃ bb, brI wt 0 1048576 = bb := ⟨_, rfl⟩
            have hbd := HBD.out
            rw [hbb] at hcc hbd ⊢
            have hwa : IntKind.i64.wrap (cn + bb) = cn + bb := by rw [IntKind.wrap_i64]; omega
            by_cases hm : 1099511627776 < cn + bb
            · have e : cc = 1099511627776 := by omega
              rw [e]
              clear hcc
              go_simp
              try omega
            · have e : cc = cn + bb := by omega
              rw [e]
              clear hcc
              go_simp
              try omega
          · intro w hB; rintro _ ⟨_, rfl⟩ _ ⟨_, rfl⟩ _ ⟨_, rfl⟩
            simp only [St.withD, List.nil_append, List.cons_append, Act.put, List.setIfInBounds_toArray, List.set_cons_zero, List.set_cons_succ]
            have hs := HT2.out
            rw [← hB] at hs
            obtain ⟨w2, hrun, hm2, ht2⟩ := hs.map.store law9 Try.underlying49 HSZ.out.2 (key9 HSZ.out.1) (val := .int .i64 cc) (plainElem_int Try.underlying3 HSZ3.out)
            exact St.ob_skip (w' := w2) (by rfl) (upd_op rfl (by rfl) (by rfl) (by rfl) hrun) ⟨⟨⟨hm2, ch_turned ht2⟩, by rw [← hB]; exact ⟨hm2, ch_turned ht2⟩⟩, rfl⟩
        case hst => exact ⟨St.eqT_st, St.eqT_st, St.eqT_st, St.eqT_st, St.eqT_st, St.eqT_st, St.eqT_st, St.eqT_st, St.eqT_st, St.eqT_st, St.eqT_st, trivial⟩
        case h0 => exact hwd2
        case hB => exact fun w w' h e => e ▸ h
        case hC => (intro w w' h e; subst e; exact h)
        case hend =>
          intro w hB
          rintro _ rfl _ rfl _ rfl _ rfl _ rfl _ rfl _ rfl _ rfl _ rfl _ rfl _ rfl
          simp only [List.map_cons, List.map_nil, List.nil_append, List.cons_append, List.getD_cons_zero, List.getD_cons_succ, Act.put, List.setIfInBounds_toArray, List.set_cons_zero, List.set_cons_succ]
          rw [St.withE_nil]
          have HF := Aside0.mk hB
          clear hB
          go_wp2
          go_ret
          refine ⟨D.put (ks s) (vi cc), by rw [HOK.out]; rfl, ⟨HF.out.2.blk HT2.out.box (Ne.symm HT2.out.ne), own_tight HF.out.1, by rw [← HCD.out]; exact HT2.out.rel.add room (HT2.out.map.tidy law9) s wt HOK.out, HT2.out.wl.add s wt, HT2.out.r1, HT2.out.lo, HT2.out.lom, HT2.out.ne⟩, ?_⟩
          rw [← hwd2, ← hwd] at HF
          exact ⟨HF.out.2.os, HF.out.2.tape, HF.out.2.output, HF.out.2.size, HF.out.2.block⟩
    · have HOK : Aside0 (addL room s wt L = (L, false)) := ⟨by unfold addL; rw [if_neg hp, if_neg hr]⟩
      have hri : (room : Int) ≤ L.length := by omega
      have hrn : room ≤ L.length := by omega
      clear hp hpe hr
      go_enter Try.func9, Try.ntmps9
      go_upto_region 4 with fail
      go_wp2
      obtain ⟨wd, hwd⟩ : ∃ wd, w.drew = wd := ⟨_, rfl⟩
      have HT : Aside0 (TB B wd g md room D L) := ⟨hwd ▸ H.out.below (below_drew (Below.refl _ _))⟩
      clear hlk c1
      refine St.steadyR (n := 14) (by kernel_rfl) ([] :: [(0, 20)] :: [(1, 21)] :: [(2, 22)] :: [(2, 22), (3, 23)] :: [(2, 22), (4, 24)] :: [(2, 22), (5, 25)] :: [(2, 22), (6, 26)] :: [(2, 22)] :: [(2, 22), (8, 28)] :: [(2, 22), (9, 29)] :: [(2, 22), (10, 30)] :: [(2, 22), (7, 27), (11, 31)] :: [(2, 22), (12, 32)] :: []) (some 20 :: some 21 :: some 22 :: some 23 :: some 24 :: some 25 :: some 26 :: some 27 :: some 28 :: some 29 :: some 30 :: some 31 :: some 32 :: some 33 :: []) (by kernel_rfl) ((St.eqT ?c4_0x6) :: (St.eqT ?c4_1x6) :: (St.eqT ?c4_2x6) :: (St.eqT ?c4_3x6) :: (St.eqT ?c4_4x6) :: (St.eqT ?c4_5x6) :: (St.eqT ?c4_6x6) :: (St.eqT (.int .i64 (L.length : Nat))) :: (St.eqT ?c4_8x6) :: (St.eqT ?c4_9x6) :: (St.eqT ?c4_10x6) :: (St.eqT ?c4_11x6) :: (St.eqT ?c4_12x6) :: (St.eqT ?c4_13x6) :: []) rfl (by rfl) (fun w' => w' = wd) (fun w w' => w = w') ?hst ?h0 ?hB ?hop ?hend
      case hop =>
        refine ⟨?_, ?_, ?_, ?_, ?_, ?_, ?_, ?_, ?_, ?_, ?_, ?_, ?_, ?_, trivial⟩
        · intro w hB
          simp only [St.withD]
          refine St.ob_value (v := ?_) (w' := w) (by rfl) ?_ ⟨rfl, ?_⟩
          rotate_left
          · go_simp
            with_reducible rfl
          · rfl
        · intro w hB; rintro _ ⟨_, rfl⟩
          simp only [St.withD, List.nil_append, List.cons_append, Act.put, List.setIfInBounds_toArray, List.set_cons_zero, List.set_cons_succ]
          refine St.ob_value (v := ?_) (w' := w) (by rfl) ?_ ⟨rfl, ?_⟩
          rotate_left
          · go_simp
            with_reducible rfl
          · rfl
        · intro w hB; rintro _ ⟨_, rfl⟩
          simp only [St.withD, List.nil_append, List.cons_append, Act.put, List.setIfInBounds_toArray, List.set_cons_zero, List.set_cons_succ]
          refine St.ob_value (v := ?_) (w' := w) (by rfl) ?_ ⟨rfl, ?_⟩
          rotate_left
          · go_simp
            with_reducible rfl
          · rfl
        · intro w hB; rintro _ ⟨_, rfl⟩
          simp only [St.withD, List.nil_append, List.cons_append, Act.put, List.setIfInBounds_toArray, List.set_cons_zero, List.set_cons_succ]
          refine St.ob_value (v := ?_) (w' := w) (by rfl) ?_ ⟨rfl, ?_⟩
          rotate_left
          · go_simp
            with_reducible rfl
          · rfl
        · intro w hB; rintro _ ⟨_, rfl⟩ _ ⟨_, rfl⟩
          simp only [St.withD, List.nil_append, List.cons_append, Act.put, List.setIfInBounds_toArray, List.set_cons_zero, List.set_cons_succ]
          refine St.ob_value (v := ?_) (w' := w) (by rfl) ?_ ⟨rfl, ?_⟩
          rotate_left
          · go_simp
            with_reducible rfl
          · rfl
        · intro w hB; rintro _ ⟨_, rfl⟩ _ ⟨_, rfl⟩
          simp only [St.withD, List.nil_append, List.cons_append, Act.put, List.setIfInBounds_toArray, List.set_cons_zero, List.set_cons_succ]
          refine St.ob_value (v := ?_) (w' := w) (by rfl) ?_ ⟨rfl, ?_⟩
          rotate_left
          · go_simp
            with_reducible rfl
          · rfl
        · intro w hB; rintro _ ⟨_, rfl⟩ _ ⟨_, rfl⟩
          simp only [St.withD, List.nil_append, List.cons_append, Act.put, List.setIfInBounds_toArray, List.set_cons_zero, List.set_cons_succ]
          have hs := HT.out
          rw [← hB] at hs
          have c0 : w.cell? ⟨g, 0, none⟩ = some (.int .i64 (room : Nat)) := (blk_cell hs.box 0).trans rfl
          have c1 : w.cell? ⟨g, 1, none⟩ = some (.map (some md)) := (blk_cell hs.box 1).trans rfl
          clear hB hs
          refine St.ob_value (v := ?_) (w' := w) (by rfl) ?_ ⟨rfl, ?_⟩
          rotate_left
          · go_simp
            with_reducible rfl
          · rfl
        · intro w hB; rintro _ ⟨_, rfl⟩ _ ⟨_, rfl⟩
          simp only [St.withD, List.nil_append, List.cons_append, Act.put, List.setIfInBounds_toArray, List.set_cons_zero, List.set_cons_succ]
          have hs := HT.out
          rw [← hB] at hs
          have hln := hs.len
          clear hB hs
          refine St.ob_value (v := .int .i64 (L.length : Nat)) (w' := w) (by rfl) ?_ ⟨rfl, rfl⟩
          go_simp
        · intro w hB; rintro _ ⟨_, rfl⟩
          simp only [St.withD, List.nil_append, List.cons_append, Act.put, List.setIfInBounds_toArray, List.set_cons_zero, List.set_cons_succ]
          refine St.ob_value (v := ?_) (w' := w) (by rfl) ?_ ⟨rfl, ?_⟩
          rotate_left
          · go_simp
            with_reducible rfl
          · rfl
        · intro w hB; rintro _ ⟨_, rfl⟩ _ ⟨_, rfl⟩
          simp only [St.withD, List.nil_append, List.cons_append, Act.put, List.setIfInBounds_toArray, List.set_cons_zero, List.set_cons_succ]
          refine St.ob_value (v := ?_) (w' := w) (by rfl) ?_ ⟨rfl, ?_⟩
          rotate_left
          · go_simp
            with_reducible rfl
          · rfl
        · intro w hB; rintro _ ⟨_, rfl⟩ _ ⟨_, rfl⟩
          simp only [St.withD, List.nil_append, List.cons_append, Act.put, List.setIfInBounds_toArray, List.set_cons_zero, List.set_cons_succ]
          refine St.ob_value (v := ?_) (w' := w) (by rfl) ?_ ⟨rfl, ?_⟩
          rotate_left
          · go_simp
            with_reducible rfl
          · rfl
        · intro w hB; rintro _ ⟨_, rfl⟩ _ ⟨_, rfl⟩
          simp only [St.withD, List.nil_append, List.cons_append, Act.put, List.setIfInBounds_toArray, List.set_cons_zero, List.set_cons_succ]
          have hs := HT.out
          rw [← hB] at hs
          have c0 : w.cell? ⟨g, 0, none⟩ = some (.int .i64 (room : Nat)) := (blk_cell hs.box 0).trans rfl
          have c1 : w.cell? ⟨g, 1, none⟩ = some (.map (some md)) := (blk_cell hs.box 1).trans rfl
          clear hB hs
          refine St.ob_value (v := ?_) (w' := w) (by rfl) ?_ ⟨rfl, ?_⟩
          rotate_left
          · go_simp
            with_reducible rfl
          · rfl
        · intro w hB; rintro _ ⟨_, rfl⟩ _ ⟨_, rfl⟩ _ ⟨_, rfl⟩
          simp only [St.withD, List.nil_append, List.cons_append, Act.put, List.setIfInBounds_toArray, List.set_cons_zero, List.set_cons_succ]
          refine St.ob_value (v := ?_) (w' := w) (by rfl) ?_ ⟨rfl, ?_⟩
          rotate_left
          · go_simp
            with_reducible rfl
          · rfl
        · intro w hB; rintro _ ⟨_, rfl⟩ _ ⟨_, rfl⟩
          simp only [St.withD, List.nil_append, List.cons_append, Act.put, List.setIfInBounds_toArray, List.set_cons_zero, List.set_cons_succ]
          refine St.ob_value (v := ?_) (w' := w) (by rfl) ?_ ⟨rfl, ?_⟩
          rotate_left
          · go_simp
            with_reducible rfl
          · rfl
      case hst => exact ⟨St.eqT_st, St.eqT_st, St.eqT_st, St.eqT_st, St.eqT_st, St.eqT_st, St.eqT_st, St.eqT_st, St.eqT_st, St.eqT_st, St.eqT_st, St.eqT_st, St.eqT_st, St.eqT_st, trivial⟩
      case h0 => exact hwd
      case hB => exact fun w w' h e => e ▸ h
      case hend =>
        intro w hB
        rintro _ rfl _ rfl _ rfl _ rfl _ rfl _ rfl _ rfl _ rfl _ rfl _ rfl _ rfl _ rfl _ rfl _ rfl
        simp only [List.map_cons, List.map_nil, List.nil_append, List.cons_append, List.getD_cons_zero, List.getD_cons_succ, Act.put, List.setIfInBounds_toArray, List.set_cons_zero, List.set_cons_succ]
        rw [St.withE_nil]
        rw [hB]
        clear hB
        go_wp2
        go_ret
        refine ⟨D, by rw [HOK.out]; rfl, by rw [HOK.out]; exact HT.out, ?_⟩
        rw [← hwd]
        exact (Ch.refl _ _).drew
end
end Go.Proofs.Ytfijbhacobjjgah
