/- The contract of exec's step. -/
import Derived.Test.YtfcpjblogeofpacExecB
namespace Go.Proofs.Ytfcpjblogeofpac
open Go.RowKit Go.Proofs.YtfcpjblogeofpacW.PrintWords Go.Proofs.YtfcpjblogeofpacW.PrintLast Go.Proofs.YtfcpjblogeofpacW.PrintMore Go.Proofs.Ytfcpjblogeofpac.Fr
set_option linter.unusedVariables false
set_option linter.unusedSimpArgs false
attribute [local go_sem] max2_int min2_int max_two min_two

open Go.Proofs.Ytfcpjblogeofpac.Pl
theorem append_op2 {P : Program} {w w1 : World} {ρ : Operand → Value} {o : Oper} {s x : Operand} {t u : TypeId} {v y v1 : Value} (ho : o.op = .call { callee := .builtin .append, args := #[s, x], argTypes := #[t, u] }) (hs : ρ s = v) (hx : ρ x = y) (hrun : (Builtin.append_ #[t, u] o.type #[v, y]).run P w = .ok v1 w1) :
    (execOp ρ o).run P w = .ok (.value v1) w1 := by
  unfold execOp
  rw [ho]
  simp [resolve, invoke, builtin, hs, hx, hrun]
theorem ext_bytes (L : ByteArray) (n : Nat) : bytesOf (L.extract 0 n) = bi (L.data.toList.take n) := by
  unfold bytesOf bi
  rw [ByteArray.data_extract, Array.toList_extract]
  simp [List.extract_eq_take_drop]
/-- An error: nothing is told of the text. -/
def Fails (w0 : World) (c : Int) (e : Ending) (w' : World) : Prop := e = .returned (.tuple #[.string { data := #[] }, .int .i64 c]) ∧ Below w0.heap.size w0 w'
theorem step_bad {w0 w : World} {g : Nat} {v : Value} {b : Bs} {ah : Nat} {lim : Int} (L : ByteArray) (l m o : Int) (x : TX w0 w g v b ah lim) (h : l < 0 ∨ (L.size : Int) < l) :
    Calls Try.prog 14 #[.pointer (some ⟨g, 0, none⟩), .string L, .agg #[.int .i64 l, .int .i64 m, .int .i64 o]] w (Fails w0 3) := by
  have HT := Aside0.mk x
  clear x
  by_cases h1 : l < 0
  · have hd1 : decide (l < 0) = true := decide_eq_true h1
    go_enter Try.func14, Try.ntmps14
    go_wp2
    go_ret2
    exact ⟨rfl, below_step HT.out.bel (below_alloc (Below.refl _ _) _)⟩
  · have h2 := h.resolve_left h1
    have hd1 : decide (l < 0) = false := decide_eq_false h1
    have hd2 : decide ((L.size : Int) < l) = true := decide_eq_true h2
    clear h
    go_enter Try.func14, Try.ntmps14
    go_wp2
    go_ret2
    exact ⟨rfl, below_step HT.out.bel (below_alloc (Below.refl _ _) _)⟩
theorem step_long {w0 w : World} {g : Nat} {v : Value} {b : Bs} {ah : Nat} {lim : Int} (L : ByteArray) (l m o : Int) (x : TX w0 w g v b ah lim) (h1 : 0 ≤ l) (h2 : l ≤ (L.size : Int)) (hr : roomB b ah lim l = false) (hb : b.length ≤ 100000) (ha : ah ≤ 100000) (hl0 : 0 ≤ lim) (hl : lim ≤ 1000) :
    Calls Try.prog 14 #[.pointer (some ⟨g, 0, none⟩), .string L, .agg #[.int .i64 l, .int .i64 m, .int .i64 o]] w (Fails w0 5) := by
  have HT := Aside0.mk x
  have HR := Aside0.mk hr
  clear x hr
  have hd1 : decide (l < 0) = false := decide_eq_false (by omega)
  have hd2 : decide ((L.size : Int) < l) = false := decide_eq_false (by omega)
  go_enter Try.func14, Try.ntmps14
  go_wp2_with fail
  refine (room_any l (HT.out.below (below_alloc (Below.refl _ _) _)) (by omega) (by omega) hl0 (by omega)).mono ?_
  rintro e w5 ⟨rfl, hd5⟩
  rw [HR.out]
  have HB := Aside0.mk (below_step (below_step HT.out.bel (below_alloc (Below.refl _ _) (.cells #[.int .i64 l, .int .i64 m, .int .i64 o] 37))) hd5.below)
  clear hd5
  go_wp2
  go_ret2
  exact ⟨rfl, HB.out⟩
set_option maxRecDepth 100000 in
set_option maxHeartbeats 4000000 in
theorem step_bad2 {w0 w : World} {g : Nat} {v : Value} {b : Bs} {ah : Nat} {lim : Int} (L : ByteArray) (ln : Nat) (m o : Int) (x : TX w0 w g v b ah lim) (hL : L.size ≤ 1000) (hb : b.length ≤ 100000) (ha : ah ≤ 100000) (hl0 : 0 ≤ lim) (hl : lim ≤ 1000) (hln : ln ≤ L.size) (hr1 : roomB b ah lim ln = true) (hm : m < 3 ∨ o < 1 ∨ ((b.length + ln : Nat) : Int) < o) :
    Calls Try.prog 14 #[.pointer (some ⟨g, 0, none⟩), .string L, .agg #[.int .i64 ln, .int .i64 m, .int .i64 o]] w (Fails w0 3) := by
  have HT0 := Aside0.mk x
  have HR1 := Aside0.mk hr1
  have HLS : Aside0 ((L.extract 0 ln).size = ln ∧ bytesOf (L.extract 0 ln) = bi (L.data.toList.take ln)) := ⟨by rw [ByteArray.size_extract]; omega, ext_bytes L ln⟩
  have hd1 : decide ((ln : Int) < 0) = false := decide_eq_false (by omega)
  have hd2 : decide (L.size < ln) = false := decide_eq_false (by omega)
  have hd3 : decide ((L.size : Int) < (ln : Int)) = false := decide_eq_false (by omega)
  clear x hr1
  go_enter Try.func14, Try.ntmps14
  go_wp2_with fail
  have HT1 : Aside0 (TX w0 (w.alloc (.cells #[.int .i64 ln, .int .i64 m, .int .i64 o] 37)) g v b ah lim) := ⟨HT0.out.below (below_alloc (Below.refl _ _) _)⟩
  have HGB0 : Aside0 ((w.alloc (.cells #[.int .i64 ln, .int .i64 m, .int .i64 o] 37)).heap[w.heap.size]? = some (.cells #[.int .i64 ln, .int .i64 m, .int .i64 o] 37 (0, 0))) := ⟨blk_new w _⟩
  generalize w.alloc (.cells #[.int .i64 ln, .int .i64 m, .int .i64 o] 37) = W at HT1 HGB0 ⊢
  generalize w.heap.size = gs at HGB0 ⊢
  clear HT0
  refine (room_any ln HT1.out (by omega) (by omega) hl0 (by omega)).mono ?_
  rintro e w5 ⟨rfl, hd5⟩
  rw [HR1.out]
  have HT := Aside0.mk (HT1.out.below hd5.below)
  have HGB := Aside0.mk (blk_below HGB0.out hd5.below)
  have HGS : Aside0 (gs ≠ g) := ⟨blk_ne HGB.out HT.out.box (by decide)⟩
  obtain ⟨A, c, hv, _, _⟩ := HT.out.shape
  have HSH := Aside0.mk hv
  clear hd5 HT1 HGB0 HR1 hv
  go_wp2
  refine St.steadyG (n := 13) (by kernel_rfl) ([] :: [] :: [(1, 26)] :: [(2, 27)] :: [(3, 28)] :: [] :: [] :: [(6, 31)] :: [(5, 30), (7, 32)] :: [(4, 29), (8, 33)] :: [(0, 25)] :: [(10, 35)] :: [(9, 34), (11, 36)] :: []) (some 25 :: some 26 :: some 27 :: some 28 :: some 29 :: some 30 :: some 31 :: some 32 :: some 33 :: some 34 :: some 35 :: some 36 :: none :: []) (by kernel_rfl) ((St.eqT ?c5_0x2) :: (St.eqT ?c5_1x2) :: (St.eqT ?c5_2x2) :: (St.eqT ?c5_3x2) :: (St.eqT ?c5_4x2) :: (St.eqT ?c5_5x2) :: (St.eqT ?c5_6x2) :: (St.eqT ?c5_7x2) :: (St.eqT ?c5_8x2) :: (fun _ u w => MRow w w0.heap.size 5 u (nums .u8 (bi (b ++ L.data.toList.take ln))) ∧ some g ≠ u.ownBlock) :: (St.eqT ?c5_10x2) :: (St.eqT ?c5_11x2) :: (fun ds _ w => w.heap[g]? = some (.cells #[ds.getD 0 undef, .int .i64 ah, .int .i64 lim] 41 (0, 0))) :: []) rfl (by rfl) (fun fl w' => (fl 12 = false → w'.heap[g]? = some (.cells #[v, .int .i64 ah, .int .i64 lim] 41 (0, 0))) ∧ (fl 9 = false → MRow w' w0.heap.size 5 v (nums .u8 (bi (b)))) ∧ Below w0.heap.size w0 w' ∧ w'.heap[gs]? = some (.cells #[.int .i64 ln, .int .i64 m, .int .i64 o] 37 (0, 0))) (fun i wa wb => (i = 9 → wa.grownBy wb v.ownBlock) ∧ (i = 12 → ∃ u, wb = wa.setCell ⟨g, 0, none⟩ u) ∧ (i ≠ 9 → i ≠ 12 → wa = wb)) ?hst ?h0 (fun i w' => w'.heap[g]? = some (.cells #[v, .int .i64 ah, .int .i64 lim] 41 (0, 0)) ∧ (i = 9 → MRow w' w0.heap.size 5 v (nums .u8 (bi (b)))) ∧ Below w0.heap.size w0 w' ∧ w'.heap[gs]? = some (.cells #[.int .i64 ln, .int .i64 m, .int .i64 o] 37 (0, 0))) ?hB ?hG ?hop ?hend
  case hop =>
    refine ⟨?_, ?_, ?_, ?_, ?_, ?_, ?_, ?_, ?_, ?_, ?_, ?_, ?_, trivial⟩
    · intro w hB
      simp only [St.withD]
      refine St.ob_value (v := ?_) (w' := w) (by rfl) ?_ ⟨⟨fun e => absurd e (by decide), fun e => absurd e (by decide), fun _ _ => rfl⟩, ?_⟩
      rotate_left
      · go_simp
        with_reducible rfl
      · rfl
    · intro w hB
      simp only [St.withD]
      refine St.ob_value (v := ?_) (w' := w) (by rfl) ?_ ⟨⟨fun e => absurd e (by decide), fun e => absurd e (by decide), fun _ _ => rfl⟩, ?_⟩
      rotate_left
      · go_simp
        with_reducible rfl
      · rfl
    · intro w hB; rintro _ ⟨_, rfl⟩
      simp only [St.withD, List.nil_append, List.cons_append, Act.put, List.setIfInBounds_toArray, List.set_cons_zero, List.set_cons_succ]
      refine St.ob_value (v := ?_) (w' := w) (by rfl) ?_ ⟨⟨fun e => absurd e (by decide), fun e => absurd e (by decide), fun _ _ => rfl⟩, ?_⟩
      rotate_left
      · go_simp
        with_reducible rfl
      · rfl
    · intro w hB; rintro _ ⟨_, rfl⟩
      simp only [St.withD, List.nil_append, List.cons_append, Act.put, List.setIfInBounds_toArray, List.set_cons_zero, List.set_cons_succ]
      refine St.ob_value (v := ?_) (w' := w) (by rfl) ?_ ⟨⟨fun e => absurd e (by decide), fun e => absurd e (by decide), fun _ _ => rfl⟩, ?_⟩
      rotate_left
      · go_simp
        with_reducible rfl
      · rfl
    · intro w hB; rintro _ ⟨_, rfl⟩
      simp only [St.withD, List.nil_append, List.cons_append, Act.put, List.setIfInBounds_toArray, List.set_cons_zero, List.set_cons_succ]
      obtain ⟨hbx, _, _, hgs⟩ := hB
      have c0 : w.cell? ⟨g, 0, none⟩ = some (.slice A b.length c) := (blk_cell hbx 0).trans (congrArg some HSH.out)
      have d0 : w.cell? ⟨gs, 0, none⟩ = some (.int .i64 ln) := (blk_cell hgs 0).trans rfl
      refine St.ob_value (v := ?_) (w' := w) (by rfl) ?_ ⟨⟨fun e => absurd e (by decide), fun e => absurd e (by decide), fun _ _ => rfl⟩, ?_⟩
      rotate_left
      · go_simp
        with_reducible rfl
      · rfl
    · intro w hB
      simp only [St.withD]
      refine St.ob_value (v := ?_) (w' := w) (by rfl) ?_ ⟨⟨fun e => absurd e (by decide), fun e => absurd e (by decide), fun _ _ => rfl⟩, ?_⟩
      rotate_left
      · go_simp
        with_reducible rfl
      · rfl
    · intro w hB
      simp only [St.withD]
      refine St.ob_value (v := ?_) (w' := w) (by rfl) ?_ ⟨⟨fun e => absurd e (by decide), fun e => absurd e (by decide), fun _ _ => rfl⟩, ?_⟩
      rotate_left
      · go_simp
        with_reducible rfl
      · rfl
    · intro w hB; rintro _ ⟨_, rfl⟩
      simp only [St.withD, List.nil_append, List.cons_append, Act.put, List.setIfInBounds_toArray, List.set_cons_zero, List.set_cons_succ]
      obtain ⟨hbx, _, _, hgs⟩ := hB
      have c0 : w.cell? ⟨g, 0, none⟩ = some (.slice A b.length c) := (blk_cell hbx 0).trans (congrArg some HSH.out)
      have d0 : w.cell? ⟨gs, 0, none⟩ = some (.int .i64 ln) := (blk_cell hgs 0).trans rfl
      refine St.ob_value (v := ?_) (w' := w) (by rfl) ?_ ⟨⟨fun e => absurd e (by decide), fun e => absurd e (by decide), fun _ _ => rfl⟩, ?_⟩
      rotate_left
      · go_simp
        with_reducible rfl
      · rfl
    · intro w hB; rintro _ ⟨_, rfl⟩ _ ⟨_, rfl⟩
      simp only [St.withD, List.nil_append, List.cons_append, Act.put, List.setIfInBounds_toArray, List.set_cons_zero, List.set_cons_succ]
      refine St.ob_value (v := ?_) (w' := w) (by rfl) ?_ ⟨⟨fun e => absurd e (by decide), fun e => absurd e (by decide), fun _ _ => rfl⟩, ?_⟩
      rotate_left
      · go_simp
        with_reducible rfl
      · rfl
    · intro w hB; rintro _ ⟨_, rfl⟩ _ ⟨_, rfl⟩
      simp only [St.withD, List.nil_append, List.cons_append, Act.put, List.setIfInBounds_toArray, List.set_cons_zero, List.set_cons_succ]
      obtain ⟨v1, w1, hrun, hrow1, hgr⟩ := run_append_Ms (P := Try.prog) w w0.heap.size 39 9 39 5 Try.underlying39 Try.underlying9 info5 (hB.2.1 rfl) (L.extract 0 ln) (by rw [nums_length, bi_length, HLS.out.1]; omega) hB.2.2.1.size
      rw [HSH.out] at hrun
      rw [nums_bytes, HLS.out.2, ← bi_append] at hrow1
      exact St.ob_value (v := v1) (w' := w1) (by rfl) (append_op2 rfl rfl rfl hrun) ⟨⟨fun _ => hgr, fun e => absurd e (by decide), fun h9 h12 => absurd rfl h9⟩, hrow1, fun e => mrow_ne (blk_grown hB.1 hgr (mrow_ne hB.1 (hB.2.1 rfl) (by decide))) hrow1 (by decide) e⟩
    · intro w hB; rintro _ ⟨_, rfl⟩
      simp only [St.withD, List.nil_append, List.cons_append, Act.put, List.setIfInBounds_toArray, List.set_cons_zero, List.set_cons_succ]
      refine St.ob_value (v := ?_) (w' := w) (by rfl) ?_ ⟨⟨fun e => absurd e (by decide), fun e => absurd e (by decide), fun _ _ => rfl⟩, ?_⟩
      rotate_left
      · go_simp
        with_reducible rfl
      · rfl
    · intro w hB; rintro _ ⟨_, rfl⟩
      simp only [St.withD, List.nil_append, List.cons_append, Act.put, List.setIfInBounds_toArray, List.set_cons_zero, List.set_cons_succ]
      refine St.ob_value (v := ?_) (w' := w) (by rfl) ?_ ⟨⟨fun e => absurd e (by decide), fun e => absurd e (by decide), fun _ _ => rfl⟩, ?_⟩
      rotate_left
      · go_simp
        with_reducible rfl
      · rfl
    · intro w hB; rintro v9 ⟨ds9, ht9⟩ _ ⟨_, rfl⟩
      simp only [St.withD, List.nil_append, List.cons_append, Act.put, List.setIfInBounds_toArray, List.set_cons_zero, List.set_cons_succ]
      obtain ⟨hbx, _, _⟩ := hB
      have c0 : w.cell? ⟨g, 0, none⟩ = some v := (blk_cell hbx 0).trans rfl
      have f0 := blk_frozen hbx 0
      refine St.ob_skip (w' := w.setCell ⟨g, 0, none⟩ v9) (by rfl) ?_ ⟨⟨fun e => absurd e (by decide), fun _ => ⟨_, rfl⟩, fun h9 h12 => absurd rfl h12⟩, blk_put hbx 0 _ rfl⟩
      obtain ⟨A1, c1, rfl, _⟩ := ht9.1.shape
      go_simp
  case hst =>
    intro i jx fl hi hj hfi hfj hcl dsx vx wa wb ht hR
    refine St.sts_get (Rel := fun jj wa wb => fl jj = true ∧ (fun i wa wb => (i = 9 → wa.grownBy wb v.ownBlock) ∧ (i = 12 → ∃ u, wb = wa.setCell ⟨g, 0, none⟩ u) ∧ (i ≠ 9 → i ≠ 12 → wa = wb)) i wa wb) 0 _ jx (by simpa using hj) ?_ dsx vx wa wb ht ⟨by simpa using hfj, hR⟩
    refine ⟨St.eqT_st, St.eqT_st, St.eqT_st, St.eqT_st, St.eqT_st, St.eqT_st, St.eqT_st, St.eqT_st, St.eqT_st, ?_, St.eqT_st, St.eqT_st, ?_, trivial⟩
    · intro dsx vx wa wb h hR
      have hfj : fl 9 = true := hR.1
      have hR := hR.2
      by_cases h2 : i = 9
      · subst h2; rw [hfi] at hfj; cases hfj
      · by_cases h3 : i = 12
        · subst h3
          obtain ⟨u, rfl⟩ := hR.2.1 rfl
          exact ⟨h.1.far h.2, h.2⟩
        · have e2 := hR.2.2 h2 h3
          subst e2
          exact h
    · intro dsx vx wa wb h hR
      have hfj : fl 12 = true := hR.1
      have hR := hR.2
      by_cases h2 : i = 9
      · subst h2; have := hcl 12 9 hfj (by kernel_rfl); rw [hfi] at this; cases this
      · by_cases h3 : i = 12
        · subst h3; rw [hfi] at hfj; cases hfj
        · have e2 := hR.2.2 h2 h3
          subst e2
          exact h
  case h0 => exact ⟨fun _ => HT.out.box, fun _ => HT.out.row, below_drew HT.out.bel, HGB.out⟩
  case hB => (
    intro i fl w' hi hfi hdn hcl hG
    obtain ⟨g1, g2, g3, g4⟩ := hG
    have hst : fl 12 = false := by
      cases h : fl 12 with
      | false => rfl
      | true =>
        have e : fl i = true := reach _ fl hcl 12 11 13 (by kernel_rfl) h i hi
        rw [hfi] at e
        cases e
    refine ⟨g1 hst, fun hi' => g2 ?_, g3, g4⟩
    rcases hi' with rfl
    · exact hfi)
  case hG => (
    intro i fl wa wb hi hfi hdn hcl hGG hR
    obtain ⟨g1, g2, g3, g4⟩ := hGG
    by_cases h2 : i = 9
    · subst h2
      have hR := hR.1 rfl
      have hrow := g2 hfi
      have hne : fl 12 = false → some g ≠ v.ownBlock := fun e => mrow_ne (g1 e) hrow (by decide)
      refine ⟨fun e => ?_, fun e => ?_, ?_, blk_grown g4 hR (mrow_ne g4 hrow (by decide))⟩
      · have e : fl 12 = false := by simpa [St.upB] using e
        exact blk_grown (g1 e) hR (hne e)
      · simp [St.upB] at e
      · exact g3.grown hR g3.size (fun k hk => (hrow.blk hk).1)
    · by_cases h3 : i = 12
      · subst h3
        obtain ⟨u, rfl⟩ := hR.2.1 rfl
        have hap : fl 9 = true := hdn 9 (by kernel_rfl)
        refine ⟨fun e => ?_, fun e => ?_, ?_, blk_far g4 HGS.out _⟩
        · simp [St.upB] at e
        · have e : fl 9 = false := by simpa [St.upB] using e
          rw [hap] at e
          cases e
        · exact Ch.onto (S := fun i => i = g) g3 ((Ch.refl _ _).set rfl) g3.size (fun i e => e ▸ HT.out.hg)
      · have e := hR.2.2 h2 h3
        subst e
        have e2 : St.upB fl i 12 = fl 12 := by unfold St.upB; rw [if_neg (Ne.symm h3)]
        have e3 : St.upB fl i 9 = fl 9 := by unfold St.upB; rw [if_neg (Ne.symm h2)]
        exact ⟨fun e => g1 (e2 ▸ e), fun e => g2 (e3 ▸ e), g3, g4⟩)
  case hend =>
    intro fl w hall hB
    rintro _ rfl _ rfl _ rfl _ rfl _ rfl _ rfl _ rfl _ rfl _ rfl v9 ht9 _ rfl _ rfl v12 ht12
    simp only [List.map_cons, List.map_nil, List.nil_append, List.cons_append, List.getD_cons_zero, List.getD_cons_succ, Act.put, List.setIfInBounds_toArray, List.set_cons_zero, List.set_cons_succ]
    rw [St.withE_nil]
    simp only [List.map_cons, List.map_nil, List.nil_append, List.cons_append, List.getD_cons_zero, List.getD_cons_succ] at ht12 ht9
    obtain ⟨h9a, h9b⟩ := ht9
    obtain ⟨b2, hb2⟩ : ∃ b2, b ++ L.data.toList.take ln = b2 := ⟨_, rfl⟩
    rw [hb2] at h9a
    have HT2 : Aside0 (TX w0 w g v9 b2 ah lim) := ⟨⟨ht12, h9a, hB.2.2.1, HT.out.hg⟩⟩
    have HGB2 := Aside0.mk hB.2.2.2
    have HB2 := Aside0.mk hb2
    clear ht12 h9a h9b hB hall hb2 HT HGB
    have hlen2 : b2.length = b.length + ln := by rw [← HB2.out, List.length_append, List.length_take]; have : L.data.toList.length = L.size := data_length L; omega
    have hlen2a : b2.length ≤ b.length + ln := by omega
    have hlen2b : b.length + ln ≤ b2.length := by omega
    clear hlen2
    obtain ⟨A2, c2, hv2, _, _⟩ := HT2.out.shape
    have c0 : w.cell? ⟨g, 0, none⟩ = some (.slice A2 b2.length c2) := hv2 ▸ (blk_cell HT2.out.box 0).trans rfl
    have d0 : w.cell? ⟨gs, 0, none⟩ = some (.int .i64 ln) := (blk_cell HGB2.out 0).trans rfl
    have d1 : w.cell? ⟨gs, 1, none⟩ = some (.int .i64 m) := (blk_cell HGB2.out 1).trans rfl
    have d2 : w.cell? ⟨gs, 2, none⟩ = some (.int .i64 o) := (blk_cell HGB2.out 2).trans rfl
    clear hv2
    have hc : (decide (m < 3) = true) ∨ (decide (m < 3) = false ∧ decide (o < 1) = true) ∨ (decide (m < 3) = false ∧ decide (o < 1) = false ∧ decide ((b2.length : Int) < o) = true) := by
      by_cases h1 : m < 3
      · exact .inl (decide_eq_true h1)
      · by_cases h2 : o < 1
        · exact .inr (.inl ⟨decide_eq_false h1, decide_eq_true h2⟩)
        · exact .inr (.inr ⟨decide_eq_false h1, decide_eq_false h2, decide_eq_true (by omega)⟩)
    clear hm
    rcases hc with e1 | ⟨e1, e2⟩ | ⟨e1, e2, e3⟩
    all_goals
      go_wp2
      go_quiet (fail)
      go_wp2
      go_ret2
      exact ⟨rfl, below_step HT2.out.bel (Drawn0.below (Drawn0.step (Drawn0.refl _) _))⟩
set_option maxRecDepth 100000 in
set_option maxHeartbeats 4000000 in
theorem step_long2 {w0 w : World} {g : Nat} {v : Value} {b : Bs} {ah : Nat} {lim : Int} (L : ByteArray) (ln : Nat) (m o : Int) (x : TX w0 w g v b ah lim) (hL : L.size ≤ 1000) (hb : b.length ≤ 100000) (ha : ah ≤ 100000) (hl0 : 0 ≤ lim) (hl : lim ≤ 1000) (hln : ln ≤ L.size) (hr1 : roomB b ah lim ln = true) (hm : 3 ≤ m ∧ 1 ≤ o ∧ o ≤ ((b.length + ln : Nat) : Int)) (hr2 : roomB (b ++ L.data.toList.take ln) ah lim m = false) :
    Calls Try.prog 14 #[.pointer (some ⟨g, 0, none⟩), .string L, .agg #[.int .i64 ln, .int .i64 m, .int .i64 o]] w (Fails w0 5) := by
  have HT0 := Aside0.mk x
  have HR1 := Aside0.mk hr1
  have HLS : Aside0 ((L.extract 0 ln).size = ln ∧ bytesOf (L.extract 0 ln) = bi (L.data.toList.take ln)) := ⟨by rw [ByteArray.size_extract]; omega, ext_bytes L ln⟩
  have hd1 : decide ((ln : Int) < 0) = false := decide_eq_false (by omega)
  have hd2 : decide (L.size < ln) = false := decide_eq_false (by omega)
  have hd3 : decide ((L.size : Int) < (ln : Int)) = false := decide_eq_false (by omega)
  clear x hr1
  go_enter Try.func14, Try.ntmps14
  go_wp2_with fail
  have HT1 : Aside0 (TX w0 (w.alloc (.cells #[.int .i64 ln, .int .i64 m, .int .i64 o] 37)) g v b ah lim) := ⟨HT0.out.below (below_alloc (Below.refl _ _) _)⟩
  have HGB0 : Aside0 ((w.alloc (.cells #[.int .i64 ln, .int .i64 m, .int .i64 o] 37)).heap[w.heap.size]? = some (.cells #[.int .i64 ln, .int .i64 m, .int .i64 o] 37 (0, 0))) := ⟨blk_new w _⟩
  generalize w.alloc (.cells #[.int .i64 ln, .int .i64 m, .int .i64 o] 37) = W at HT1 HGB0 ⊢
  generalize w.heap.size = gs at HGB0 ⊢
  clear HT0
  refine (room_any ln HT1.out (by omega) (by omega) hl0 (by omega)).mono ?_
  rintro e w5 ⟨rfl, hd5⟩
  rw [HR1.out]
  have HT := Aside0.mk (HT1.out.below hd5.below)
  have HGB := Aside0.mk (blk_below HGB0.out hd5.below)
  have HGS : Aside0 (gs ≠ g) := ⟨blk_ne HGB.out HT.out.box (by decide)⟩
  obtain ⟨A, c, hv, _, _⟩ := HT.out.shape
  have HSH := Aside0.mk hv
  clear hd5 HT1 HGB0 HR1 hv
  go_wp2
  refine St.steadyG (n := 13) (by kernel_rfl) ([] :: [] :: [(1, 26)] :: [(2, 27)] :: [(3, 28)] :: [] :: [] :: [(6, 31)] :: [(5, 30), (7, 32)] :: [(4, 29), (8, 33)] :: [(0, 25)] :: [(10, 35)] :: [(9, 34), (11, 36)] :: []) (some 25 :: some 26 :: some 27 :: some 28 :: some 29 :: some 30 :: some 31 :: some 32 :: some 33 :: some 34 :: some 35 :: some 36 :: none :: []) (by kernel_rfl) ((St.eqT ?c5_0x2) :: (St.eqT ?c5_1x2) :: (St.eqT ?c5_2x2) :: (St.eqT ?c5_3x2) :: (St.eqT ?c5_4x2) :: (St.eqT ?c5_5x2) :: (St.eqT ?c5_6x2) :: (St.eqT ?c5_7x2) :: (St.eqT ?c5_8x2) :: (fun _ u w => MRow w w0.heap.size 5 u (nums .u8 (bi (b ++ L.data.toList.take ln))) ∧ some g ≠ u.ownBlock) :: (St.eqT ?c5_10x2) :: (St.eqT ?c5_11x2) :: (fun ds _ w => w.heap[g]? = some (.cells #[ds.getD 0 undef, .int .i64 ah, .int .i64 lim] 41 (0, 0))) :: []) rfl (by rfl) (fun fl w' => (fl 12 = false → w'.heap[g]? = some (.cells #[v, .int .i64 ah, .int .i64 lim] 41 (0, 0))) ∧ (fl 9 = false → MRow w' w0.heap.size 5 v (nums .u8 (bi (b)))) ∧ Below w0.heap.size w0 w' ∧ w'.heap[gs]? = some (.cells #[.int .i64 ln, .int .i64 m, .int .i64 o] 37 (0, 0))) (fun i wa wb => (i = 9 → wa.grownBy wb v.ownBlock) ∧ (i = 12 → ∃ u, wb = wa.setCell ⟨g, 0, none⟩ u) ∧ (i ≠ 9 → i ≠ 12 → wa = wb)) ?hst ?h0 (fun i w' => w'.heap[g]? = some (.cells #[v, .int .i64 ah, .int .i64 lim] 41 (0, 0)) ∧ (i = 9 → MRow w' w0.heap.size 5 v (nums .u8 (bi (b)))) ∧ Below w0.heap.size w0 w' ∧ w'.heap[gs]? = some (.cells #[.int .i64 ln, .int .i64 m, .int .i64 o] 37 (0, 0))) ?hB ?hG ?hop ?hend
  case hop =>
    refine ⟨?_, ?_, ?_, ?_, ?_, ?_, ?_, ?_, ?_, ?_, ?_, ?_, ?_, trivial⟩
    · intro w hB
      simp only [St.withD]
      refine St.ob_value (v := ?_) (w' := w) (by rfl) ?_ ⟨⟨fun e => absurd e (by decide), fun e => absurd e (by decide), fun _ _ => rfl⟩, ?_⟩
      rotate_left
      · go_simp
        with_reducible rfl
      · rfl
    · intro w hB
      simp only [St.withD]
      refine St.ob_value (v := ?_) (w' := w) (by rfl) ?_ ⟨⟨fun e => absurd e (by decide), fun e => absurd e (by decide), fun _ _ => rfl⟩, ?_⟩
      rotate_left
      · go_simp
        with_reducible rfl
      · rfl
    · intro w hB; rintro _ ⟨_, rfl⟩
      simp only [St.withD, List.nil_append, List.cons_append, Act.put, List.setIfInBounds_toArray, List.set_cons_zero, List.set_cons_succ]
      refine St.ob_value (v := ?_) (w' := w) (by rfl) ?_ ⟨⟨fun e => absurd e (by decide), fun e => absurd e (by decide), fun _ _ => rfl⟩, ?_⟩
      rotate_left
      · go_simp
        with_reducible rfl
      · rfl
    · intro w hB; rintro _ ⟨_, rfl⟩
      simp only [St.withD, List.nil_append, List.cons_append, Act.put, List.setIfInBounds_toArray, List.set_cons_zero, List.set_cons_succ]
      refine St.ob_value (v := ?_) (w' := w) (by rfl) ?_ ⟨⟨fun e => absurd e (by decide), fun e => absurd e (by decide), fun _ _ => rfl⟩, ?_⟩
      rotate_left
      · go_simp
        with_reducible rfl
      · rfl
    · intro w hB; rintro _ ⟨_, rfl⟩
      simp only [St.withD, List.nil_append, List.cons_append, Act.put, List.setIfInBounds_toArray, List.set_cons_zero, List.set_cons_succ]
      obtain ⟨hbx, _, _, hgs⟩ := hB
      have c0 : w.cell? ⟨g, 0, none⟩ = some (.slice A b.length c) := (blk_cell hbx 0).trans (congrArg some HSH.out)
      have d0 : w.cell? ⟨gs, 0, none⟩ = some (.int .i64 ln) := (blk_cell hgs 0).trans rfl
      refine St.ob_value (v := ?_) (w' := w) (by rfl) ?_ ⟨⟨fun e => absurd e (by decide), fun e => absurd e (by decide), fun _ _ => rfl⟩, ?_⟩
      rotate_left
      · go_simp
        with_reducible rfl
      · rfl
    · intro w hB
      simp only [St.withD]
      refine St.ob_value (v := ?_) (w' := w) (by rfl) ?_ ⟨⟨fun e => absurd e (by decide), fun e => absurd e (by decide), fun _ _ => rfl⟩, ?_⟩
      rotate_left
      · go_simp
        with_reducible rfl
      · rfl
    · intro w hB
      simp only [St.withD]
      refine St.ob_value (v := ?_) (w' := w) (by rfl) ?_ ⟨⟨fun e => absurd e (by decide), fun e => absurd e (by decide), fun _ _ => rfl⟩, ?_⟩
      rotate_left
      · go_simp
        with_reducible rfl
      · rfl
    · intro w hB; rintro _ ⟨_, rfl⟩
      simp only [St.withD, List.nil_append, List.cons_append, Act.put, List.setIfInBounds_toArray, List.set_cons_zero, List.set_cons_succ]
      obtain ⟨hbx, _, _, hgs⟩ := hB
      have c0 : w.cell? ⟨g, 0, none⟩ = some (.slice A b.length c) := (blk_cell hbx 0).trans (congrArg some HSH.out)
      have d0 : w.cell? ⟨gs, 0, none⟩ = some (.int .i64 ln) := (blk_cell hgs 0).trans rfl
      refine St.ob_value (v := ?_) (w' := w) (by rfl) ?_ ⟨⟨fun e => absurd e (by decide), fun e => absurd e (by decide), fun _ _ => rfl⟩, ?_⟩
      rotate_left
      · go_simp
        with_reducible rfl
      · rfl
    · intro w hB; rintro _ ⟨_, rfl⟩ _ ⟨_, rfl⟩
      simp only [St.withD, List.nil_append, List.cons_append, Act.put, List.setIfInBounds_toArray, List.set_cons_zero, List.set_cons_succ]
      refine St.ob_value (v := ?_) (w' := w) (by rfl) ?_ ⟨⟨fun e => absurd e (by decide), fun e => absurd e (by decide), fun _ _ => rfl⟩, ?_⟩
      rotate_left
      · go_simp
        with_reducible rfl
      · rfl
    · intro w hB; rintro _ ⟨_, rfl⟩ _ ⟨_, rfl⟩
      simp only [St.withD, List.nil_append, List.cons_append, Act.put, List.setIfInBounds_toArray, List.set_cons_zero, List.set_cons_succ]
      obtain ⟨v1, w1, hrun, hrow1, hgr⟩ := run_append_Ms (P := Try.prog) w w0.heap.size 39 9 39 5 Try.underlying39 Try.underlying9 info5 (hB.2.1 rfl) (L.extract 0 ln) (by rw [nums_length, bi_length, HLS.out.1]; omega) hB.2.2.1.size
      rw [HSH.out] at hrun
      rw [nums_bytes, HLS.out.2, ← bi_append] at hrow1
      exact St.ob_value (v := v1) (w' := w1) (by rfl) (append_op2 rfl rfl rfl hrun) ⟨⟨fun _ => hgr, fun e => absurd e (by decide), fun h9 h12 => absurd rfl h9⟩, hrow1, fun e => mrow_ne (blk_grown hB.1 hgr (mrow_ne hB.1 (hB.2.1 rfl) (by decide))) hrow1 (by decide) e⟩
    · intro w hB; rintro _ ⟨_, rfl⟩
      simp only [St.withD, List.nil_append, List.cons_append, Act.put, List.setIfInBounds_toArray, List.set_cons_zero, List.set_cons_succ]
      refine St.ob_value (v := ?_) (w' := w) (by rfl) ?_ ⟨⟨fun e => absurd e (by decide), fun e => absurd e (by decide), fun _ _ => rfl⟩, ?_⟩
      rotate_left
      · go_simp
        with_reducible rfl
      · rfl
    · intro w hB; rintro _ ⟨_, rfl⟩
      simp only [St.withD, List.nil_append, List.cons_append, Act.put, List.setIfInBounds_toArray, List.set_cons_zero, List.set_cons_succ]
      refine St.ob_value (v := ?_) (w' := w) (by rfl) ?_ ⟨⟨fun e => absurd e (by decide), fun e => absurd e (by decide), fun _ _ => rfl⟩, ?_⟩
      rotate_left
      · go_simp
        with_reducible rfl
      · rfl
    · intro w hB; rintro v9 ⟨ds9, ht9⟩ _ ⟨_, rfl⟩
      simp only [St.withD, List.nil_append, List.cons_append, Act.put, List.setIfInBounds_toArray, List.set_cons_zero, List.set_cons_succ]
      obtain ⟨hbx, _, _⟩ := hB
      have c0 : w.cell? ⟨g, 0, none⟩ = some v := (blk_cell hbx 0).trans rfl
      have f0 := blk_frozen hbx 0
      refine St.ob_skip (w' := w.setCell ⟨g, 0, none⟩ v9) (by rfl) ?_ ⟨⟨fun e => absurd e (by decide), fun _ => ⟨_, rfl⟩, fun h9 h12 => absurd rfl h12⟩, blk_put hbx 0 _ rfl⟩
      obtain ⟨A1, c1, rfl, _⟩ := ht9.1.shape
      go_simp
  case hst =>
    intro i jx fl hi hj hfi hfj hcl dsx vx wa wb ht hR
    refine St.sts_get (Rel := fun jj wa wb => fl jj = true ∧ (fun i wa wb => (i = 9 → wa.grownBy wb v.ownBlock) ∧ (i = 12 → ∃ u, wb = wa.setCell ⟨g, 0, none⟩ u) ∧ (i ≠ 9 → i ≠ 12 → wa = wb)) i wa wb) 0 _ jx (by simpa using hj) ?_ dsx vx wa wb ht ⟨by simpa using hfj, hR⟩
    refine ⟨St.eqT_st, St.eqT_st, St.eqT_st, St.eqT_st, St.eqT_st, St.eqT_st, St.eqT_st, St.eqT_st, St.eqT_st, ?_, St.eqT_st, St.eqT_st, ?_, trivial⟩
    · intro dsx vx wa wb h hR
      have hfj : fl 9 = true := hR.1
      have hR := hR.2
      by_cases h2 : i = 9
      · subst h2; rw [hfi] at hfj; cases hfj
      · by_cases h3 : i = 12
        · subst h3
          obtain ⟨u, rfl⟩ := hR.2.1 rfl
          exact ⟨h.1.far h.2, h.2⟩
        · have e2 := hR.2.2 h2 h3
          subst e2
          exact h
    · intro dsx vx wa wb h hR
      have hfj : fl 12 = true := hR.1
      have hR := hR.2
      by_cases h2 : i = 9
      · subst h2; have := hcl 12 9 hfj (by kernel_rfl); rw [hfi] at this; cases this
      · by_cases h3 : i = 12
        · subst h3; rw [hfi] at hfj; cases hfj
        · have e2 := hR.2.2 h2 h3
          subst e2
          exact h
  case h0 => exact ⟨fun _ => HT.out.box, fun _ => HT.out.row, below_drew HT.out.bel, HGB.out⟩
  case hB => (
    intro i fl w' hi hfi hdn hcl hG
    obtain ⟨g1, g2, g3, g4⟩ := hG
    have hst : fl 12 = false := by
      cases h : fl 12 with
      | false => rfl
      | true =>
        have e : fl i = true := reach _ fl hcl 12 11 13 (by kernel_rfl) h i hi
        rw [hfi] at e
        cases e
    refine ⟨g1 hst, fun hi' => g2 ?_, g3, g4⟩
    rcases hi' with rfl
    · exact hfi)
  case hG => (
    intro i fl wa wb hi hfi hdn hcl hGG hR
    obtain ⟨g1, g2, g3, g4⟩ := hGG
    by_cases h2 : i = 9
    · subst h2
      have hR := hR.1 rfl
      have hrow := g2 hfi
      have hne : fl 12 = false → some g ≠ v.ownBlock := fun e => mrow_ne (g1 e) hrow (by decide)
      refine ⟨fun e => ?_, fun e => ?_, ?_, blk_grown g4 hR (mrow_ne g4 hrow (by decide))⟩
      · have e : fl 12 = false := by simpa [St.upB] using e
        exact blk_grown (g1 e) hR (hne e)
      · simp [St.upB] at e
      · exact g3.grown hR g3.size (fun k hk => (hrow.blk hk).1)
    · by_cases h3 : i = 12
      · subst h3
        obtain ⟨u, rfl⟩ := hR.2.1 rfl
        have hap : fl 9 = true := hdn 9 (by kernel_rfl)
        refine ⟨fun e => ?_, fun e => ?_, ?_, blk_far g4 HGS.out _⟩
        · simp [St.upB] at e
        · have e : fl 9 = false := by simpa [St.upB] using e
          rw [hap] at e
          cases e
        · exact Ch.onto (S := fun i => i = g) g3 ((Ch.refl _ _).set rfl) g3.size (fun i e => e ▸ HT.out.hg)
      · have e := hR.2.2 h2 h3
        subst e
        have e2 : St.upB fl i 12 = fl 12 := by unfold St.upB; rw [if_neg (Ne.symm h3)]
        have e3 : St.upB fl i 9 = fl 9 := by unfold St.upB; rw [if_neg (Ne.symm h2)]
        exact ⟨fun e => g1 (e2 ▸ e), fun e => g2 (e3 ▸ e), g3, g4⟩)
  case hend =>
    intro fl w hall hB
    rintro _ rfl _ rfl _ rfl _ rfl _ rfl _ rfl _ rfl _ rfl _ rfl v9 ht9 _ rfl _ rfl v12 ht12
    simp only [List.map_cons, List.map_nil, List.nil_append, List.cons_append, List.getD_cons_zero, List.getD_cons_succ, Act.put, List.setIfInBounds_toArray, List.set_cons_zero, List.set_cons_succ]
    rw [St.withE_nil]
    simp only [List.map_cons, List.map_nil, List.nil_append, List.cons_append, List.getD_cons_zero, List.getD_cons_succ] at ht12 ht9
    obtain ⟨h9a, h9b⟩ := ht9
    obtain ⟨b2, hb2⟩ : ∃ b2, b ++ L.data.toList.take ln = b2 := ⟨_, rfl⟩
    rw [hb2] at h9a
    have HT2 : Aside0 (TX w0 w g v9 b2 ah lim) := ⟨⟨ht12, h9a, hB.2.2.1, HT.out.hg⟩⟩
    have HGB2 := Aside0.mk hB.2.2.2
    have HB2 := Aside0.mk hb2
    clear ht12 h9a h9b hB hall hb2 HT HGB
    have hlen2 : b2.length = b.length + ln := by rw [← HB2.out, List.length_append, List.length_take]; have : L.data.toList.length = L.size := data_length L; omega
    have hlen2a : b2.length ≤ b.length + ln := by omega
    have hlen2b : b.length + ln ≤ b2.length := by omega
    clear hlen2
    obtain ⟨A2, c2, hv2, _, _⟩ := HT2.out.shape
    have c0 : w.cell? ⟨g, 0, none⟩ = some (.slice A2 b2.length c2) := hv2 ▸ (blk_cell HT2.out.box 0).trans rfl
    have d0 : w.cell? ⟨gs, 0, none⟩ = some (.int .i64 ln) := (blk_cell HGB2.out 0).trans rfl
    have d1 : w.cell? ⟨gs, 1, none⟩ = some (.int .i64 m) := (blk_cell HGB2.out 1).trans rfl
    have d2 : w.cell? ⟨gs, 2, none⟩ = some (.int .i64 o) := (blk_cell HGB2.out 2).trans rfl
    clear hv2
    obtain ⟨h1, h2, h3⟩ := hm
    have e1 : decide (m < 3) = false := decide_eq_false (by omega)
    have e2 : decide (o < 1) = false := decide_eq_false (by omega)
    have e3 : decide ((b2.length : Int) < o) = false := decide_eq_false (by omega)
    rw [HB2.out] at hr2
    have HR2 := Aside0.mk hr2
    clear hr2
    go_wp2
    go_quiet (fail)
    go_wp2_with fail
    refine (room_any m (HT2.out.below (Drawn0.below (Drawn0.step (Drawn0.refl _) _))) (by omega) (by omega) hl0 (by omega)).mono ?_
    rintro e w6 ⟨rfl, hd6⟩
    rw [HR2.out]
    have HB6 := Aside0.mk (below_step (below_step HT2.out.bel (Drawn0.below (Drawn0.step (Drawn0.refl _) _))) hd6.below)
    clear hd6
    go_wp2
    go_ret2
    exact ⟨rfl, HB6.out⟩
/-- What a step leaves. -/
def StepPost (w0 : World) (g : Nat) (rest : ByteArray) (b : Bs) (ah : Nat) (lim : Int) (e : Ending) (w' : World) : Prop := ∃ v', e = .returned (.tuple #[.string rest, .int .i64 0]) ∧ TX w0 w' g v' b ah lim
set_option maxRecDepth 100000 in
set_option maxHeartbeats 4000000 in
theorem step_ok {w0 w : World} {g : Nat} {v : Value} {b : Bs} {ah : Nat} {lim : Int} (L : ByteArray) (ln : Nat) (m o : Int) (x : TX w0 w g v b ah lim) (hL : L.size ≤ 1000) (hb : b.length ≤ 100000) (ha : ah ≤ 100000) (hl0 : 0 ≤ lim) (hl : lim ≤ 1000) (hln : ln ≤ L.size) (hr1 : roomB b ah lim ln = true) (mn on : Nat) (hmn : m = (mn : Int)) (hon : o = (on : Int)) (hm : 3 ≤ mn ∧ 1 ≤ on ∧ on ≤ b.length + ln) (hr2 : roomB (b ++ L.data.toList.take ln) ah lim m = true) :
    Calls Try.prog 14 #[.pointer (some ⟨g, 0, none⟩), .string L, .agg #[.int .i64 ln, .int .i64 m, .int .i64 o]] w (StepPost w0 g (L.extract ln L.size) (cop on mn (b ++ L.data.toList.take ln)) ah lim) := by
  have HT0 := Aside0.mk x
  have HR1 := Aside0.mk hr1
  have HLS : Aside0 ((L.extract 0 ln).size = ln ∧ bytesOf (L.extract 0 ln) = bi (L.data.toList.take ln)) := ⟨by rw [ByteArray.size_extract]; omega, ext_bytes L ln⟩
  have hd1 : decide ((ln : Int) < 0) = false := decide_eq_false (by omega)
  have hd2 : decide (L.size < ln) = false := decide_eq_false (by omega)
  have hd3 : decide ((L.size : Int) < (ln : Int)) = false := decide_eq_false (by omega)
  clear x hr1
  have HMN := Aside0.mk hmn
  have HON := Aside0.mk hon
  have hm3 : 3 ≤ m := by omega
  have ho1 : 1 ≤ o := by omega
  have ho2 : o ≤ ((b.length + ln : Nat) : Int) := by omega
  clear hmn hon
  go_enter Try.func14, Try.ntmps14
  go_wp2_with fail
  have HT1 : Aside0 (TX w0 (w.alloc (.cells #[.int .i64 ln, .int .i64 m, .int .i64 o] 37)) g v b ah lim) := ⟨HT0.out.below (below_alloc (Below.refl _ _) _)⟩
  have HGB0 : Aside0 ((w.alloc (.cells #[.int .i64 ln, .int .i64 m, .int .i64 o] 37)).heap[w.heap.size]? = some (.cells #[.int .i64 ln, .int .i64 m, .int .i64 o] 37 (0, 0))) := ⟨blk_new w _⟩
  generalize w.alloc (.cells #[.int .i64 ln, .int .i64 m, .int .i64 o] 37) = W at HT1 HGB0 ⊢
  generalize w.heap.size = gs at HGB0 ⊢
  clear HT0
  refine (room_any ln HT1.out (by omega) (by omega) hl0 (by omega)).mono ?_
  rintro e w5 ⟨rfl, hd5⟩
  rw [HR1.out]
  have HT := Aside0.mk (HT1.out.below hd5.below)
  have HGB := Aside0.mk (blk_below HGB0.out hd5.below)
  have HGS : Aside0 (gs ≠ g) := ⟨blk_ne HGB.out HT.out.box (by decide)⟩
  obtain ⟨A, c, hv, _, _⟩ := HT.out.shape
  have HSH := Aside0.mk hv
  clear hd5 HT1 HGB0 HR1 hv
  go_wp2
  refine St.steadyG (n := 13) (by kernel_rfl) ([] :: [] :: [(1, 26)] :: [(2, 27)] :: [(3, 28)] :: [] :: [] :: [(6, 31)] :: [(5, 30), (7, 32)] :: [(4, 29), (8, 33)] :: [(0, 25)] :: [(10, 35)] :: [(9, 34), (11, 36)] :: []) (some 25 :: some 26 :: some 27 :: some 28 :: some 29 :: some 30 :: some 31 :: some 32 :: some 33 :: some 34 :: some 35 :: some 36 :: none :: []) (by kernel_rfl) ((St.eqT ?c5_0x2) :: (St.eqT ?c5_1x2) :: (St.eqT ?c5_2x2) :: (St.eqT ?c5_3x2) :: (St.eqT ?c5_4x2) :: (St.eqT ?c5_5x2) :: (St.eqT ?c5_6x2) :: (St.eqT ?c5_7x2) :: (St.eqT ?c5_8x2) :: (fun _ u w => MRow w w0.heap.size 5 u (nums .u8 (bi (b ++ L.data.toList.take ln))) ∧ some g ≠ u.ownBlock) :: (St.eqT ?c5_10x2) :: (St.eqT ?c5_11x2) :: (fun ds _ w => w.heap[g]? = some (.cells #[ds.getD 0 undef, .int .i64 ah, .int .i64 lim] 41 (0, 0))) :: []) rfl (by rfl) (fun fl w' => (fl 12 = false → w'.heap[g]? = some (.cells #[v, .int .i64 ah, .int .i64 lim] 41 (0, 0))) ∧ (fl 9 = false → MRow w' w0.heap.size 5 v (nums .u8 (bi (b)))) ∧ Below w0.heap.size w0 w' ∧ w'.heap[gs]? = some (.cells #[.int .i64 ln, .int .i64 m, .int .i64 o] 37 (0, 0))) (fun i wa wb => (i = 9 → wa.grownBy wb v.ownBlock) ∧ (i = 12 → ∃ u, wb = wa.setCell ⟨g, 0, none⟩ u) ∧ (i ≠ 9 → i ≠ 12 → wa = wb)) ?hst ?h0 (fun i w' => w'.heap[g]? = some (.cells #[v, .int .i64 ah, .int .i64 lim] 41 (0, 0)) ∧ (i = 9 → MRow w' w0.heap.size 5 v (nums .u8 (bi (b)))) ∧ Below w0.heap.size w0 w' ∧ w'.heap[gs]? = some (.cells #[.int .i64 ln, .int .i64 m, .int .i64 o] 37 (0, 0))) ?hB ?hG ?hop ?hend
  case hop =>
    refine ⟨?_, ?_, ?_, ?_, ?_, ?_, ?_, ?_, ?_, ?_, ?_, ?_, ?_, trivial⟩
    · intro w hB
      simp only [St.withD]
      refine St.ob_value (v := ?_) (w' := w) (by rfl) ?_ ⟨⟨fun e => absurd e (by decide), fun e => absurd e (by decide), fun _ _ => rfl⟩, ?_⟩
      rotate_left
      · go_simp
        with_reducible rfl
      · rfl
    · intro w hB
      simp only [St.withD]
      refine St.ob_value (v := ?_) (w' := w) (by rfl) ?_ ⟨⟨fun e => absurd e (by decide), fun e => absurd e (by decide), fun _ _ => rfl⟩, ?_⟩
      rotate_left
      · go_simp
        with_reducible rfl
      · rfl
    · intro w hB; rintro _ ⟨_, rfl⟩
      simp only [St.withD, List.nil_append, List.cons_append, Act.put, List.setIfInBounds_toArray, List.set_cons_zero, List.set_cons_succ]
      refine St.ob_value (v := ?_) (w' := w) (by rfl) ?_ ⟨⟨fun e => absurd e (by decide), fun e => absurd e (by decide), fun _ _ => rfl⟩, ?_⟩
      rotate_left
      · go_simp
        with_reducible rfl
      · rfl
    · intro w hB; rintro _ ⟨_, rfl⟩
      simp only [St.withD, List.nil_append, List.cons_append, Act.put, List.setIfInBounds_toArray, List.set_cons_zero, List.set_cons_succ]
      refine St.ob_value (v := ?_) (w' := w) (by rfl) ?_ ⟨⟨fun e => absurd e (by decide), fun e => absurd e (by decide), fun _ _ => rfl⟩, ?_⟩
      rotate_left
      · go_simp
        with_reducible rfl
      · rfl
    · intro w hB; rintro _ ⟨_, rfl⟩
      simp only [St.withD, List.nil_append, List.cons_append, Act.put, List.setIfInBounds_toArray, List.set_cons_zero, List.set_cons_succ]
      obtain ⟨hbx, _, _, hgs⟩ := hB
      have c0 : w.cell? ⟨g, 0, none⟩ = some (.slice A b.length c) := (blk_cell hbx 0).trans (congrArg some HSH.out)
      have d0 : w.cell? ⟨gs, 0, none⟩ = some (.int .i64 ln) := (blk_cell hgs 0).trans rfl
      refine St.ob_value (v := ?_) (w' := w) (by rfl) ?_ ⟨⟨fun e => absurd e (by decide), fun e => absurd e (by decide), fun _ _ => rfl⟩, ?_⟩
      rotate_left
      · go_simp
        with_reducible rfl
      · rfl
    · intro w hB
      simp only [St.withD]
      refine St.ob_value (v := ?_) (w' := w) (by rfl) ?_ ⟨⟨fun e => absurd e (by decide), fun e => absurd e (by decide), fun _ _ => rfl⟩, ?_⟩
      rotate_left
      · go_simp
        with_reducible rfl
      · rfl
    · intro w hB
      simp only [St.withD]
      refine St.ob_value (v := ?_) (w' := w) (by rfl) ?_ ⟨⟨fun e => absurd e (by decide), fun e => absurd e (by decide), fun _ _ => rfl⟩, ?_⟩
      rotate_left
      · go_simp
        with_reducible rfl
      · rfl
    · intro w hB; rintro _ ⟨_, rfl⟩
      simp only [St.withD, List.nil_append, List.cons_append, Act.put, List.setIfInBounds_toArray, List.set_cons_zero, List.set_cons_succ]
      obtain ⟨hbx, _, _, hgs⟩ := hB
      have c0 : w.cell? ⟨g, 0, none⟩ = some (.slice A b.length c) := (blk_cell hbx 0).trans (congrArg some HSH.out)
      have d0 : w.cell? ⟨gs, 0, none⟩ = some (.int .i64 ln) := (blk_cell hgs 0).trans rfl
      refine St.ob_value (v := ?_) (w' := w) (by rfl) ?_ ⟨⟨fun e => absurd e (by decide), fun e => absurd e (by decide), fun _ _ => rfl⟩, ?_⟩
      rotate_left
      · go_simp
        with_reducible rfl
      · rfl
    · intro w hB; rintro _ ⟨_, rfl⟩ _ ⟨_, rfl⟩
      simp only [St.withD, List.nil_append, List.cons_append, Act.put, List.setIfInBounds_toArray, List.set_cons_zero, List.set_cons_succ]
      refine St.ob_value (v := ?_) (w' := w) (by rfl) ?_ ⟨⟨fun e => absurd e (by decide), fun e => absurd e (by decide), fun _ _ => rfl⟩, ?_⟩
      rotate_left
      · go_simp
        with_reducible rfl
      · rfl
    · intro w hB; rintro _ ⟨_, rfl⟩ _ ⟨_, rfl⟩
      simp only [St.withD, List.nil_append, List.cons_append, Act.put, List.setIfInBounds_toArray, List.set_cons_zero, List.set_cons_succ]
      obtain ⟨v1, w1, hrun, hrow1, hgr⟩ := run_append_Ms (P := Try.prog) w w0.heap.size 39 9 39 5 Try.underlying39 Try.underlying9 info5 (hB.2.1 rfl) (L.extract 0 ln) (by rw [nums_length, bi_length, HLS.out.1]; omega) hB.2.2.1.size
      rw [HSH.out] at hrun
      rw [nums_bytes, HLS.out.2, ← bi_append] at hrow1
      exact St.ob_value (v := v1) (w' := w1) (by rfl) (append_op2 rfl rfl rfl hrun) ⟨⟨fun _ => hgr, fun e => absurd e (by decide), fun h9 h12 => absurd rfl h9⟩, hrow1, fun e => mrow_ne (blk_grown hB.1 hgr (mrow_ne hB.1 (hB.2.1 rfl) (by decide))) hrow1 (by decide) e⟩
    · intro w hB; rintro _ ⟨_, rfl⟩
      simp only [St.withD, List.nil_append, List.cons_append, Act.put, List.setIfInBounds_toArray, List.set_cons_zero, List.set_cons_succ]
      refine St.ob_value (v := ?_) (w' := w) (by rfl) ?_ ⟨⟨fun e => absurd e (by decide), fun e => absurd e (by decide), fun _ _ => rfl⟩, ?_⟩
      rotate_left
      · go_simp
        with_reducible rfl
      · rfl
    · intro w hB; rintro _ ⟨_, rfl⟩
      simp only [St.withD, List.nil_append, List.cons_append, Act.put, List.setIfInBounds_toArray, List.set_cons_zero, List.set_cons_succ]
      refine St.ob_value (v := ?_) (w' := w) (by rfl) ?_ ⟨⟨fun e => absurd e (by decide), fun e => absurd e (by decide), fun _ _ => rfl⟩, ?_⟩
      rotate_left
      · go_simp
        with_reducible rfl
      · rfl
    · intro w hB; rintro v9 ⟨ds9, ht9⟩ _ ⟨_, rfl⟩
      simp only [St.withD, List.nil_append, List.cons_append, Act.put, List.setIfInBounds_toArray, List.set_cons_zero, List.set_cons_succ]
      obtain ⟨hbx, _, _⟩ := hB
      have c0 : w.cell? ⟨g, 0, none⟩ = some v := (blk_cell hbx 0).trans rfl
      have f0 := blk_frozen hbx 0
      refine St.ob_skip (w' := w.setCell ⟨g, 0, none⟩ v9) (by rfl) ?_ ⟨⟨fun e => absurd e (by decide), fun _ => ⟨_, rfl⟩, fun h9 h12 => absurd rfl h12⟩, blk_put hbx 0 _ rfl⟩
      obtain ⟨A1, c1, rfl, _⟩ := ht9.1.shape
      go_simp
  case hst =>
    intro i jx fl hi hj hfi hfj hcl dsx vx wa wb ht hR
    refine St.sts_get (Rel := fun jj wa wb => fl jj = true ∧ (fun i wa wb => (i = 9 → wa.grownBy wb v.ownBlock) ∧ (i = 12 → ∃ u, wb = wa.setCell ⟨g, 0, none⟩ u) ∧ (i ≠ 9 → i ≠ 12 → wa = wb)) i wa wb) 0 _ jx (by simpa using hj) ?_ dsx vx wa wb ht ⟨by simpa using hfj, hR⟩
    refine ⟨St.eqT_st, St.eqT_st, St.eqT_st, St.eqT_st, St.eqT_st, St.eqT_st, St.eqT_st, St.eqT_st, St.eqT_st, ?_, St.eqT_st, St.eqT_st, ?_, trivial⟩
    · intro dsx vx wa wb h hR
      have hfj : fl 9 = true := hR.1
      have hR := hR.2
      by_cases h2 : i = 9
      · subst h2; rw [hfi] at hfj; cases hfj
      · by_cases h3 : i = 12
        · subst h3
          obtain ⟨u, rfl⟩ := hR.2.1 rfl
          exact ⟨h.1.far h.2, h.2⟩
        · have e2 := hR.2.2 h2 h3
          subst e2
          exact h
    · intro dsx vx wa wb h hR
      have hfj : fl 12 = true := hR.1
      have hR := hR.2
      by_cases h2 : i = 9
      · subst h2; have := hcl 12 9 hfj (by kernel_rfl); rw [hfi] at this; cases this
      · by_cases h3 : i = 12
        · subst h3; rw [hfi] at hfj; cases hfj
        · have e2 := hR.2.2 h2 h3
          subst e2
          exact h
  case h0 => exact ⟨fun _ => HT.out.box, fun _ => HT.out.row, below_drew HT.out.bel, HGB.out⟩
  case hB => (
    intro i fl w' hi hfi hdn hcl hG
    obtain ⟨g1, g2, g3, g4⟩ := hG
    have hst : fl 12 = false := by
      cases h : fl 12 with
      | false => rfl
      | true =>
        have e : fl i = true := reach _ fl hcl 12 11 13 (by kernel_rfl) h i hi
        rw [hfi] at e
        cases e
    refine ⟨g1 hst, fun hi' => g2 ?_, g3, g4⟩
    rcases hi' with rfl
    · exact hfi)
  case hG => (
    intro i fl wa wb hi hfi hdn hcl hGG hR
    obtain ⟨g1, g2, g3, g4⟩ := hGG
    by_cases h2 : i = 9
    · subst h2
      have hR := hR.1 rfl
      have hrow := g2 hfi
      have hne : fl 12 = false → some g ≠ v.ownBlock := fun e => mrow_ne (g1 e) hrow (by decide)
      refine ⟨fun e => ?_, fun e => ?_, ?_, blk_grown g4 hR (mrow_ne g4 hrow (by decide))⟩
      · have e : fl 12 = false := by simpa [St.upB] using e
        exact blk_grown (g1 e) hR (hne e)
      · simp [St.upB] at e
      · exact g3.grown hR g3.size (fun k hk => (hrow.blk hk).1)
    · by_cases h3 : i = 12
      · subst h3
        obtain ⟨u, rfl⟩ := hR.2.1 rfl
        have hap : fl 9 = true := hdn 9 (by kernel_rfl)
        refine ⟨fun e => ?_, fun e => ?_, ?_, blk_far g4 HGS.out _⟩
        · simp [St.upB] at e
        · have e : fl 9 = false := by simpa [St.upB] using e
          rw [hap] at e
          cases e
        · exact Ch.onto (S := fun i => i = g) g3 ((Ch.refl _ _).set rfl) g3.size (fun i e => e ▸ HT.out.hg)
      · have e := hR.2.2 h2 h3
        subst e
        have e2 : St.upB fl i 12 = fl 12 := by unfold St.upB; rw [if_neg (Ne.symm h3)]
        have e3 : St.upB fl i 9 = fl 9 := by unfold St.upB; rw [if_neg (Ne.symm h2)]
        exact ⟨fun e => g1 (e2 ▸ e), fun e => g2 (e3 ▸ e), g3, g4⟩)
  case hend =>
    intro fl w hall hB
    rintro _ rfl _ rfl _ rfl _ rfl _ rfl _ rfl _ rfl _ rfl _ rfl v9 ht9 _ rfl _ rfl v12 ht12
    simp only [List.map_cons, List.map_nil, List.nil_append, List.cons_append, List.getD_cons_zero, List.getD_cons_succ, Act.put, List.setIfInBounds_toArray, List.set_cons_zero, List.set_cons_succ]
    rw [St.withE_nil]
    simp only [List.map_cons, List.map_nil, List.nil_append, List.cons_append, List.getD_cons_zero, List.getD_cons_succ] at ht12 ht9
    obtain ⟨h9a, h9b⟩ := ht9
    obtain ⟨b2, hb2⟩ : ∃ b2, b ++ L.data.toList.take ln = b2 := ⟨_, rfl⟩
    rw [hb2] at h9a
    have HT2 : Aside0 (TX w0 w g v9 b2 ah lim) := ⟨⟨ht12, h9a, hB.2.2.1, HT.out.hg⟩⟩
    have HGB2 := Aside0.mk hB.2.2.2
    have HB2 := Aside0.mk hb2
    clear ht12 h9a h9b hB hall hb2 HT HGB
    have hlen2 : b2.length = b.length + ln := by rw [← HB2.out, List.length_append, List.length_take]; have : L.data.toList.length = L.size := data_length L; omega
    have hlen2a : b2.length ≤ b.length + ln := by omega
    have hlen2b : b.length + ln ≤ b2.length := by omega
    clear hlen2
    obtain ⟨A2, c2, hv2, _, _⟩ := HT2.out.shape
    have c0 : w.cell? ⟨g, 0, none⟩ = some (.slice A2 b2.length c2) := hv2 ▸ (blk_cell HT2.out.box 0).trans rfl
    have d0 : w.cell? ⟨gs, 0, none⟩ = some (.int .i64 ln) := (blk_cell HGB2.out 0).trans rfl
    have d1 : w.cell? ⟨gs, 1, none⟩ = some (.int .i64 m) := (blk_cell HGB2.out 1).trans rfl
    have d2 : w.cell? ⟨gs, 2, none⟩ = some (.int .i64 o) := (blk_cell HGB2.out 2).trans rfl
    clear hv2
    obtain ⟨h1, h2, h3⟩ := hm
    rw [HB2.out] at hr2 ⊢
    have hmn9 : mn ≤ 200000 := by have := of_decide_eq_true hr2; have := HMN.out; omega
    have e1 : decide (m < 3) = false := decide_eq_false (by omega)
    have e2 : decide (o < 1) = false := decide_eq_false (by omega)
    have e3 : decide ((b2.length : Int) < o) = false := decide_eq_false (by omega)
    have HR2 := Aside0.mk hr2
    clear hr2
    go_wp2
    go_quiet (fail)
    go_wp2_with fail
    refine (room_any m (HT2.out.below (Drawn0.below (Drawn0.step (Drawn0.refl _) _))) (by omega) (by omega) hl0 (by omega)).mono ?_
    rintro e w6 ⟨rfl, hd6⟩
    rw [HR2.out]
    have HT6 := Aside0.mk ((HT2.out.below (Drawn0.below (Drawn0.step (Drawn0.refl _) _))).below hd6.below)
    have HGB6 := Aside0.mk (blk_below HGB2.out (below_step (Drawn0.below (Drawn0.step (Drawn0.refl _) _)) hd6.below))
    clear hd6 HT2 HGB2 c0 d0 d1 d2
    have d0 : w6.cell? ⟨gs, 0, none⟩ = some (.int .i64 ln) := (blk_cell HGB6.out 0).trans rfl
    have d1 : w6.cell? ⟨gs, 1, none⟩ = some (.int .i64 m) := (blk_cell HGB6.out 1).trans rfl
    have d2 : w6.cell? ⟨gs, 2, none⟩ = some (.int .i64 o) := (blk_cell HGB6.out 2).trans rfl
    go_wp2_with fail
    rw [HMN.out, HON.out]
    refine (copied_any on mn HT6.out h2 (by omega) (by omega)).mono ?_
    rintro e w7 ⟨v7, rfl, ht7, hk7⟩
    have HT7 := Aside0.mk ht7
    have HGB7 := Aside0.mk (hk7 gs _ _ (by decide) HGS.out HGB6.out)
    clear ht7 hk7 HT6 HGB6 d0 d1 d2
    have d0 : w7.cell? ⟨gs, 0, none⟩ = some (.int .i64 ln) := (blk_cell HGB7.out 0).trans rfl
    go_wp2
    go_ret2
    exact ⟨v7, rfl, by rw [HB2.out]; exact HT7.out⟩

end Go.Proofs.Ytfcpjblogeofpac
