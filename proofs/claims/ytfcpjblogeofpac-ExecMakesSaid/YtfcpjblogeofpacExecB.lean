/- The contract of exec's copied. -/
import Derived.Test.YtfcpjblogeofpacExecA
namespace Go.Proofs.Ytfcpjblogeofpac
open Go.RowKit Go.Proofs.YtfcpjblogeofpacW.PrintWords Go.Proofs.YtfcpjblogeofpacW.PrintLast Go.Proofs.YtfcpjblogeofpacW.PrintMore Go.Proofs.Ytfcpjblogeofpac.Fr
set_option linter.unusedVariables false
set_option linter.unusedSimpArgs false
attribute [local go_sem] max2_int min2_int max_two min_two

open Go.Proofs.Ytfcpjblogeofpac.Pl
theorem bcell {w : World} {B : Nat} {v : Value} {b : Bs} (h : MRow w B 5 v (nums .u8 (bi b))) (i : Nat) (hi : i < b.length) : ∃ g c, v = .slice (some ⟨g, 0, none⟩) b.length c ∧ w.cell? ⟨g, i, none⟩ = some (.int .u8 ((b.getD i 0).toNat : Int)) := by
  obtain ⟨g, c, e, hc⟩ := h.cell i (by rw [nums_length, bi_length]; exact hi)
  rw [nums_length, bi_length] at e
  refine ⟨g, c, e, ?_⟩
  rw [hc]
  simp [nums, bi, hi, List.getD_eq_getElem?_getD]
/-- Blocks of another kind than the row's, and not the text's own, are as they were. -/
def Keep (g : Nat) (w w' : World) : Prop := ∀ k cs t, t ≠ 5 → k ≠ g → w.heap[k]? = some (.cells cs t (0, 0)) → w'.heap[k]? = some (.cells cs t (0, 0))
def CopPost (w0 w : World) (g : Nat) (b : Bs) (ah : Nat) (lim : Int) (e : Ending) (w' : World) : Prop := ∃ v', e = .returned (.tuple #[]) ∧ TX w0 w' g v' b ah lim ∧ Keep g w w'
set_option maxRecDepth 100000 in
set_option maxHeartbeats 4000000 in
theorem copied_any {w0 w : World} {g : Nat} {v : Value} {b0 : Bs} {ah : Nat} {lim : Int} (off n : Nat) (x : TX w0 w g v b0 ah lim) (ho1 : 1 ≤ off) (ho2 : off ≤ b0.length) (hl : b0.length + n ≤ 1000000) :
    Calls Try.prog 25 #[.pointer (some ⟨g, 0, none⟩), .int .i64 off, .int .i64 n] w (CopPost w0 w g (cop off n b0) ah lim) := by
  have HT0 := Aside0.mk x
  clear x
  obtain ⟨ww, hww⟩ : ∃ ww, ww = w := ⟨_, rfl⟩
  have HK0 : Aside0 (Keep g ww w) := ⟨by subst hww; exact fun k cs t _ _ h => h⟩
  rw [← hww]
  rw [hww]
  have HWW := Aside0.mk hww
  clear hww
  go_enter Try.func25, Try.ntmps25
  go_wp2
  go_loopg [7] n (fun gk y wr => ∃ (k : Nat) (v : Value), Aside0 (k + gk = n) ∧ y = .int .i64 k ∧ Aside0 (TX w0 wr g v (cop off k b0) ah lim) ∧ Aside0 (Keep g ww wr))
  case atStart => exact ⟨0, v, ⟨by omega⟩, rfl, HT0, HK0⟩
  case round =>
    clear HT0
    obtain ⟨k, v, HK, rfl, HT, HKP⟩ := hrel
    by_cases hlt : k < n
    · have hcl := cop_length off k b0
      have hcs := cop_succ off k b0
      obtain ⟨b, hb⟩ : ∃ b, cop off k b0 = b := ⟨_, rfl⟩
      rw [hb] at hcl hcs HT
      obtain ⟨j, hj⟩ : ∃ j, b.length - off = j := ⟨_, rfl⟩
      rw [hj] at hcs
      obtain ⟨y, hy⟩ : ∃ y, b.getD j 0 = y := ⟨_, rfl⟩
      rw [hy] at hcs
      have HY : Aside0 (Value.int .u8 ((b.getD j 0).toNat : Int) = .int .u8 (y.toNat : Int)) := ⟨by rw [hy]⟩
      have HY8 : Aside0 (([.int .u8 (y.toNat : Int)] : List Value) = nums .u8 (bi [y])) := ⟨rfl⟩
      have HCS := Aside0.mk hcs
      have hbl : b.length ≤ 1000000 := by omega
      have hjl : j < b.length := by omega
      obtain ⟨g9, c, hv, _⟩ := bcell HT.out.row j hjl
      have HSH := Aside0.mk hv
      have hw1 : IntKind.i64.wrap ((b.length : Int) - (off : Int)) = (j : Int) := by rw [IntKind.wrap_i64]; omega
      have hji : (j : Int) < (b.length : Int) := by omega
      clear hcs hb hj hy hv hcl
      go_wp2
      refine St.steadyG (n := 23) (by kernel_rfl) ([] :: [] :: [(1, 10)] :: [(2, 11)] :: [(3, 12)] :: [] :: [(5, 14)] :: [(6, 15)] :: [(7, 16)] :: [] :: [(9, 18)] :: [(10, 19)] :: [(11, 20)] :: [(12, 21)] :: [] :: [(13, 22), (14, 23)] :: [(8, 17), (15, 24)] :: [(16, 25)] :: [(17, 26)] :: [(4, 13), (18, 27)] :: [(0, 9)] :: [(20, 29)] :: [(19, 28), (21, 30)] :: []) (some 9 :: some 10 :: some 11 :: some 12 :: some 13 :: some 14 :: some 15 :: some 16 :: some 17 :: some 18 :: some 19 :: some 20 :: some 21 :: some 22 :: some 23 :: some 24 :: some 25 :: some 26 :: some 27 :: some 28 :: some 29 :: some 30 :: none :: []) (by kernel_rfl) ((St.eqT ?c2_0) :: (St.eqT ?c2_1) :: (St.eqT ?c2_2) :: (St.eqT ?c2_3) :: (St.eqT ?c2_4) :: (St.eqT ?c2_5) :: (St.eqT ?c2_6) :: (St.eqT ?c2_7) :: (St.eqT ?c2_8) :: (St.eqT ?c2_9) :: (St.eqT ?c2_10) :: (St.eqT ?c2_11) :: (St.eqT ?c2_12) :: (St.eqT ?c2_13) :: (St.eqT ?c2_14) :: (St.eqT ?c2_15) :: (St.eqT ?c2_16) :: (St.eqT ?c2_17) :: (fun _ u w => ∃ k, u = .slice (some ⟨k, 0, none⟩) 1 1 ∧ some k ≠ v.ownBlock ∧ k ≠ g ∧ w.heap[k]? = some (.cells #[.int .u8 (y.toNat : Int)] 5 (0, 0))) :: (fun _ u w => MRow w w0.heap.size 5 u (nums .u8 (bi (b ++ [y]))) ∧ some g ≠ u.ownBlock) :: (St.eqT ?c2_20) :: (St.eqT ?c2_21) :: (fun ds _ w => w.heap[g]? = some (.cells #[ds.getD 0 undef, .int .i64 ah, .int .i64 lim] 41 (0, 0))) :: []) rfl (by rfl) (fun fl w' => (fl 22 = false → w'.heap[g]? = some (.cells #[v, .int .i64 ah, .int .i64 lim] 41 (0, 0))) ∧ (fl 19 = false → MRow w' w0.heap.size 5 v (nums .u8 (bi (b)))) ∧ Below w0.heap.size w0 w' ∧ Keep g ww w') (fun i wa wb => (i = 18 → wb = wa.alloc (.cells #[.int .u8 (y.toNat : Int)] 5 (0, 0))) ∧ (i = 19 → wa.grownBy wb v.ownBlock) ∧ (i = 22 → ∃ u, wb = wa.setCell ⟨g, 0, none⟩ u) ∧ (i ≠ 18 → i ≠ 19 → i ≠ 22 → wa = wb)) ?hst ?h0 (fun i w' => w'.heap[g]? = some (.cells #[v, .int .i64 ah, .int .i64 lim] 41 (0, 0)) ∧ (i = 17 ∨ i = 18 ∨ i = 19 → MRow w' w0.heap.size 5 v (nums .u8 (bi (b)))) ∧ Below w0.heap.size w0 w' ∧ Keep g ww w') ?hB ?hG ?hop ?hend
      case hop =>
        refine ⟨?_, ?_, ?_, ?_, ?_, ?_, ?_, ?_, ?_, ?_, ?_, ?_, ?_, ?_, ?_, ?_, ?_, ?_, ?_, ?_, ?_, ?_, ?_, trivial⟩
        · intro w hB
          simp only [St.withD]
          refine St.ob_value (v := ?_) (w' := w) (by rfl) ?_ ⟨⟨fun e => absurd e (by decide), fun e => absurd e (by decide), fun e => absurd e (by decide), fun _ _ _ => rfl⟩, ?_⟩
          rotate_left
          · go_simp
            with_reducible rfl
          · rfl
        · intro w hB
          simp only [St.withD]
          refine St.ob_value (v := ?_) (w' := w) (by rfl) ?_ ⟨⟨fun e => absurd e (by decide), fun e => absurd e (by decide), fun e => absurd e (by decide), fun _ _ _ => rfl⟩, ?_⟩
          rotate_left
          · go_simp
            with_reducible rfl
          · rfl
        · intro w hB; rintro _ ⟨_, rfl⟩
          simp only [St.withD, List.nil_append, List.cons_append, Act.put, List.setIfInBounds_toArray, List.set_cons_zero, List.set_cons_succ]
          refine St.ob_value (v := ?_) (w' := w) (by rfl) ?_ ⟨⟨fun e => absurd e (by decide), fun e => absurd e (by decide), fun e => absurd e (by decide), fun _ _ _ => rfl⟩, ?_⟩
          rotate_left
          · go_simp
            with_reducible rfl
          · rfl
        · intro w hB; rintro _ ⟨_, rfl⟩
          simp only [St.withD, List.nil_append, List.cons_append, Act.put, List.setIfInBounds_toArray, List.set_cons_zero, List.set_cons_succ]
          refine St.ob_value (v := ?_) (w' := w) (by rfl) ?_ ⟨⟨fun e => absurd e (by decide), fun e => absurd e (by decide), fun e => absurd e (by decide), fun _ _ _ => rfl⟩, ?_⟩
          rotate_left
          · go_simp
            with_reducible rfl
          · rfl
        · intro w hB; rintro _ ⟨_, rfl⟩
          simp only [St.withD, List.nil_append, List.cons_append, Act.put, List.setIfInBounds_toArray, List.set_cons_zero, List.set_cons_succ]
          obtain ⟨hbx, _, _, hgs⟩ := hB
          have c0 : w.cell? ⟨g, 0, none⟩ = some (.slice (some ⟨g9, 0, none⟩) b.length c) := (blk_cell hbx 0).trans (congrArg some HSH.out)
          refine St.ob_value (v := ?_) (w' := w) (by rfl) ?_ ⟨⟨fun e => absurd e (by decide), fun e => absurd e (by decide), fun e => absurd e (by decide), fun _ _ _ => rfl⟩, ?_⟩
          rotate_left
          · go_simp
            with_reducible rfl
          · rfl
        · intro w hB
          simp only [St.withD]
          refine St.ob_value (v := ?_) (w' := w) (by rfl) ?_ ⟨⟨fun e => absurd e (by decide), fun e => absurd e (by decide), fun e => absurd e (by decide), fun _ _ _ => rfl⟩, ?_⟩
          rotate_left
          · go_simp
            with_reducible rfl
          · rfl
        · intro w hB; rintro _ ⟨_, rfl⟩
          simp only [St.withD, List.nil_append, List.cons_append, Act.put, List.setIfInBounds_toArray, List.set_cons_zero, List.set_cons_succ]
          refine St.ob_value (v := ?_) (w' := w) (by rfl) ?_ ⟨⟨fun e => absurd e (by decide), fun e => absurd e (by decide), fun e => absurd e (by decide), fun _ _ _ => rfl⟩, ?_⟩
          rotate_left
          · go_simp
            with_reducible rfl
          · rfl
        · intro w hB; rintro _ ⟨_, rfl⟩
          simp only [St.withD, List.nil_append, List.cons_append, Act.put, List.setIfInBounds_toArray, List.set_cons_zero, List.set_cons_succ]
          refine St.ob_value (v := ?_) (w' := w) (by rfl) ?_ ⟨⟨fun e => absurd e (by decide), fun e => absurd e (by decide), fun e => absurd e (by decide), fun _ _ _ => rfl⟩, ?_⟩
          rotate_left
          · go_simp
            with_reducible rfl
          · rfl
        · intro w hB; rintro _ ⟨_, rfl⟩
          simp only [St.withD, List.nil_append, List.cons_append, Act.put, List.setIfInBounds_toArray, List.set_cons_zero, List.set_cons_succ]
          obtain ⟨hbx, _, _, hgs⟩ := hB
          have c0 : w.cell? ⟨g, 0, none⟩ = some (.slice (some ⟨g9, 0, none⟩) b.length c) := (blk_cell hbx 0).trans (congrArg some HSH.out)
          refine St.ob_value (v := ?_) (w' := w) (by rfl) ?_ ⟨⟨fun e => absurd e (by decide), fun e => absurd e (by decide), fun e => absurd e (by decide), fun _ _ _ => rfl⟩, ?_⟩
          rotate_left
          · go_simp
            with_reducible rfl
          · rfl
        · intro w hB
          simp only [St.withD]
          refine St.ob_value (v := ?_) (w' := w) (by rfl) ?_ ⟨⟨fun e => absurd e (by decide), fun e => absurd e (by decide), fun e => absurd e (by decide), fun _ _ _ => rfl⟩, ?_⟩
          rotate_left
          · go_simp
            with_reducible rfl
          · rfl
        · intro w hB; rintro _ ⟨_, rfl⟩
          simp only [St.withD, List.nil_append, List.cons_append, Act.put, List.setIfInBounds_toArray, List.set_cons_zero, List.set_cons_succ]
          refine St.ob_value (v := ?_) (w' := w) (by rfl) ?_ ⟨⟨fun e => absurd e (by decide), fun e => absurd e (by decide), fun e => absurd e (by decide), fun _ _ _ => rfl⟩, ?_⟩
          rotate_left
          · go_simp
            with_reducible rfl
          · rfl
        · intro w hB; rintro _ ⟨_, rfl⟩
          simp only [St.withD, List.nil_append, List.cons_append, Act.put, List.setIfInBounds_toArray, List.set_cons_zero, List.set_cons_succ]
          refine St.ob_value (v := ?_) (w' := w) (by rfl) ?_ ⟨⟨fun e => absurd e (by decide), fun e => absurd e (by decide), fun e => absurd e (by decide), fun _ _ _ => rfl⟩, ?_⟩
          rotate_left
          · go_simp
            with_reducible rfl
          · rfl
        · intro w hB; rintro _ ⟨_, rfl⟩
          simp only [St.withD, List.nil_append, List.cons_append, Act.put, List.setIfInBounds_toArray, List.set_cons_zero, List.set_cons_succ]
          obtain ⟨hbx, _, _, hgs⟩ := hB
          have c0 : w.cell? ⟨g, 0, none⟩ = some (.slice (some ⟨g9, 0, none⟩) b.length c) := (blk_cell hbx 0).trans (congrArg some HSH.out)
          refine St.ob_value (v := ?_) (w' := w) (by rfl) ?_ ⟨⟨fun e => absurd e (by decide), fun e => absurd e (by decide), fun e => absurd e (by decide), fun _ _ _ => rfl⟩, ?_⟩
          rotate_left
          · go_simp
            with_reducible rfl
          · rfl
        · intro w hB; rintro _ ⟨_, rfl⟩
          simp only [St.withD, List.nil_append, List.cons_append, Act.put, List.setIfInBounds_toArray, List.set_cons_zero, List.set_cons_succ]
          refine St.ob_value (v := ?_) (w' := w) (by rfl) ?_ ⟨⟨fun e => absurd e (by decide), fun e => absurd e (by decide), fun e => absurd e (by decide), fun _ _ _ => rfl⟩, ?_⟩
          rotate_left
          · go_simp
            with_reducible rfl
          · rfl
        · intro w hB
          simp only [St.withD]
          refine St.ob_value (v := ?_) (w' := w) (by rfl) ?_ ⟨⟨fun e => absurd e (by decide), fun e => absurd e (by decide), fun e => absurd e (by decide), fun _ _ _ => rfl⟩, ?_⟩
          rotate_left
          · go_simp
            with_reducible rfl
          · rfl
        · intro w hB; rintro _ ⟨_, rfl⟩ _ ⟨_, rfl⟩
          simp only [St.withD, List.nil_append, List.cons_append, Act.put, List.setIfInBounds_toArray, List.set_cons_zero, List.set_cons_succ]
          refine St.ob_value (v := ?_) (w' := w) (by rfl) ?_ ⟨⟨fun e => absurd e (by decide), fun e => absurd e (by decide), fun e => absurd e (by decide), fun _ _ _ => rfl⟩, ?_⟩
          rotate_left
          · go_simp
            with_reducible rfl
          · rfl
        · intro w hB; rintro _ ⟨_, rfl⟩ _ ⟨_, rfl⟩
          simp only [St.withD, List.nil_append, List.cons_append, Act.put, List.setIfInBounds_toArray, List.set_cons_zero, List.set_cons_succ]
          refine St.ob_value (v := ?_) (w' := w) (by rfl) ?_ ⟨⟨fun e => absurd e (by decide), fun e => absurd e (by decide), fun e => absurd e (by decide), fun _ _ _ => rfl⟩, ?_⟩
          rotate_left
          · go_simp
            with_reducible rfl
          · rfl
        · intro w hB; rintro _ ⟨_, rfl⟩
          simp only [St.withD, List.nil_append, List.cons_append, Act.put, List.setIfInBounds_toArray, List.set_cons_zero, List.set_cons_succ]
          obtain ⟨_, hrow, _⟩ := hB
          have hcell := bcell (hrow (.inl rfl)) j hjl
          obtain ⟨g8, c9, e9, hc9⟩ := hcell
          have e10 := HSH.out.symm.trans e9
          simp only [Value.slice.injEq, Option.some.injEq, Addr.mk.injEq] at e10
          obtain ⟨⟨rfl, _⟩, _, _⟩ := e10
          rw [HY.out] at hc9
          refine St.ob_value (v := .int .u8 (y.toNat : Int)) (w' := w) (by rfl) ?_ ⟨⟨fun e => absurd e (by decide), fun e => absurd e (by decide), fun e => absurd e (by decide), fun _ _ _ => rfl⟩, ?_⟩
          · go_simp
          · rfl
        · intro w hB; rintro _ ⟨_, rfl⟩
          simp only [St.withD, List.nil_append, List.cons_append, Act.put, List.setIfInBounds_toArray, List.set_cons_zero, List.set_cons_succ]
          refine St.ob_value (v := .slice (some ⟨w.heap.size, 0, none⟩) 1 1) (w' := w.alloc (.cells #[.int .u8 (y.toNat : Int)] 5 (0, 0))) (by rfl) (by go_simp) ⟨⟨fun _ => rfl, fun e => absurd e (by decide), fun e => absurd e (by decide), fun h18 h19 h22 => absurd rfl h18⟩, w.heap.size, rfl, ?_, ?_, blk_new w _⟩
          · intro e
            obtain ⟨_, cs, fr, hh⟩ := (hB.2.1 (.inr (.inl rfl))).blk e.symm
            exact absurd (blk_lt hh) (Nat.lt_irrefl _)
          · intro e
            have := blk_lt hB.1
            omega
        · intro w hB; rintro _ ⟨_, rfl⟩ v18 ⟨ds18, ht18⟩
          simp only [St.withD, List.nil_append, List.cons_append, Act.put, List.setIfInBounds_toArray, List.set_cons_zero, List.set_cons_succ]
          obtain ⟨k18, rfl, hne, hng, hk18⟩ := ht18
          obtain ⟨v1, w1, hrun, hrow1, hgr⟩ := run_append_M1 (P := Try.prog) w w0.heap.size 39 39 5 Try.underlying39 info5 (hB.2.1 (.inr (.inr rfl))) hk18 (by rfl) (by rw [nums_length, bi_length]; omega) hB.2.2.1.size
          rw [HSH.out] at hrun
          exact St.ob_value (v := v1) (w' := w1) (by rfl) (append_op rfl rfl rfl hrun) ⟨⟨fun e => absurd e (by decide), fun _ => hgr, fun e => absurd e (by decide), fun h18 h19 h22 => absurd rfl h19⟩, by rw [bi_append, nums_append, ← HY8.out]; exact hrow1, fun e => mrow_ne (blk_grown hB.1 hgr (mrow_ne hB.1 (hB.2.1 (.inr (.inr rfl))) (by decide))) hrow1 (by decide) e⟩
        · intro w hB; rintro _ ⟨_, rfl⟩
          simp only [St.withD, List.nil_append, List.cons_append, Act.put, List.setIfInBounds_toArray, List.set_cons_zero, List.set_cons_succ]
          refine St.ob_value (v := ?_) (w' := w) (by rfl) ?_ ⟨⟨fun e => absurd e (by decide), fun e => absurd e (by decide), fun e => absurd e (by decide), fun _ _ _ => rfl⟩, ?_⟩
          rotate_left
          · go_simp
            with_reducible rfl
          · rfl
        · intro w hB; rintro _ ⟨_, rfl⟩
          simp only [St.withD, List.nil_append, List.cons_append, Act.put, List.setIfInBounds_toArray, List.set_cons_zero, List.set_cons_succ]
          refine St.ob_value (v := ?_) (w' := w) (by rfl) ?_ ⟨⟨fun e => absurd e (by decide), fun e => absurd e (by decide), fun e => absurd e (by decide), fun _ _ _ => rfl⟩, ?_⟩
          rotate_left
          · go_simp
            with_reducible rfl
          · rfl
        · intro w hB; rintro v19 ⟨ds19, ht19⟩ _ ⟨_, rfl⟩
          simp only [St.withD, List.nil_append, List.cons_append, Act.put, List.setIfInBounds_toArray, List.set_cons_zero, List.set_cons_succ]
          obtain ⟨hbx, _, _⟩ := hB
          have c0 : w.cell? ⟨g, 0, none⟩ = some v := (blk_cell hbx 0).trans rfl
          have f0 := blk_frozen hbx 0
          refine St.ob_skip (w' := w.setCell ⟨g, 0, none⟩ v19) (by rfl) ?_ ⟨⟨fun e => absurd e (by decide), fun e => absurd e (by decide), fun _ => ⟨_, rfl⟩, fun h18 h19 h22 => absurd rfl h22⟩, blk_put hbx 0 _ rfl⟩
          obtain ⟨A1, c1, rfl, _⟩ := ht19.1.shape
          go_simp
      case hst =>
        intro i jx fl hi hj hfi hfj hcl dsx vx wa wb ht hR
        refine St.sts_get (Rel := fun jj wa wb => fl jj = true ∧ (fun i wa wb => (i = 18 → wb = wa.alloc (.cells #[.int .u8 (y.toNat : Int)] 5 (0, 0))) ∧ (i = 19 → wa.grownBy wb v.ownBlock) ∧ (i = 22 → ∃ u, wb = wa.setCell ⟨g, 0, none⟩ u) ∧ (i ≠ 18 → i ≠ 19 → i ≠ 22 → wa = wb)) i wa wb) 0 _ jx (by simpa using hj) ?_ dsx vx wa wb ht ⟨by simpa using hfj, hR⟩
        refine ⟨St.eqT_st, St.eqT_st, St.eqT_st, St.eqT_st, St.eqT_st, St.eqT_st, St.eqT_st, St.eqT_st, St.eqT_st, St.eqT_st, St.eqT_st, St.eqT_st, St.eqT_st, St.eqT_st, St.eqT_st, St.eqT_st, St.eqT_st, St.eqT_st, ?_, ?_, St.eqT_st, St.eqT_st, ?_, trivial⟩
        · intro dsx vx wa wb h hR
          have hfj : fl 18 = true := hR.1
          have hR := hR.2
          obtain ⟨k, e, hne, hng, hk⟩ := h
          by_cases h1 : i = 18
          · subst h1; rw [hfi] at hfj; cases hfj
          · by_cases h2 : i = 19
            · subst h2; exact ⟨k, e, hne, hng, blk_grown hk (hR.2.1 rfl) hne⟩
            · by_cases h3 : i = 22
              · subst h3
                obtain ⟨u, rfl⟩ := hR.2.2.1 rfl
                exact ⟨k, e, hne, hng, blk_far hk hng _⟩
              · have e2 := hR.2.2.2 h1 h2 h3
                subst e2
                exact ⟨k, e, hne, hng, hk⟩
        · intro dsx vx wa wb h hR
          have hfj : fl 19 = true := hR.1
          have hR := hR.2
          by_cases h1 : i = 18
          · subst h1; have := hcl 19 18 hfj (by kernel_rfl); rw [hfi] at this; cases this
          · by_cases h2 : i = 19
            · subst h2; rw [hfi] at hfj; cases hfj
            · by_cases h3 : i = 22
              · subst h3
                obtain ⟨u, rfl⟩ := hR.2.2.1 rfl
                exact ⟨h.1.far h.2, h.2⟩
              · have e2 := hR.2.2.2 h1 h2 h3
                subst e2
                exact h
        · intro dsx vx wa wb h hR
          have hfj : fl 22 = true := hR.1
          have hR := hR.2
          by_cases h1 : i = 18
          · subst h1; have := hcl 22 18 hfj (by kernel_rfl); rw [hfi] at this; cases this
          · by_cases h2 : i = 19
            · subst h2; have := hcl 22 19 hfj (by kernel_rfl); rw [hfi] at this; cases this
            · by_cases h3 : i = 22
              · subst h3; rw [hfi] at hfj; cases hfj
              · have e2 := hR.2.2.2 h1 h2 h3
                subst e2
                exact h
      case h0 => exact ⟨fun _ => HT.out.box, fun _ => HT.out.row, below_drew HT.out.bel, HKP.out⟩
      case hB => (
        intro i fl w' hi hfi hdn hcl hG
        obtain ⟨g1, g2, g3, g4⟩ := hG
        have hst : fl 22 = false := by
          cases h : fl 22 with
          | false => rfl
          | true =>
            have e : fl i = true := reach _ fl hcl 22 21 23 (by kernel_rfl) h i hi
            rw [hfi] at e
            cases e
        refine ⟨g1 hst, fun hi' => g2 ?_, g3, g4⟩
        rcases hi' with rfl | rfl | rfl
        · cases h : fl 19 with
          | false => rfl
          | true =>
            have e : fl 17 = true := hcl 18 17 (hcl 19 18 h (by kernel_rfl)) (by kernel_rfl)
            rw [hfi] at e
            cases e
        · cases h : fl 19 with
          | false => rfl
          | true =>
            have e : fl 18 = true := hcl 19 18 h (by kernel_rfl)
            rw [hfi] at e
            cases e
        · exact hfi)
      case hG => (
        intro i fl wa wb hi hfi hdn hcl hGG hR
        obtain ⟨g1, g2, g3, g4⟩ := hGG
        by_cases h1 : i = 18
        · subst h1
          have e := hR.1 rfl
          subst e
          have e2 : St.upB fl 18 22 = fl 22 := by unfold St.upB; rw [if_neg (by decide)]
          have e3 : St.upB fl 18 19 = fl 19 := by unfold St.upB; rw [if_neg (by decide)]
          exact ⟨fun e => blk_below (g1 (e2 ▸ e)) (below_alloc (Below.refl _ _) _), fun e => (g2 (e3 ▸ e)).below (below_alloc (Below.refl _ _) _), below_then g3 g3.size (below_alloc (Below.refl _ _) _), fun k cs t ht hk h => blk_below (g4 k cs t ht hk h) (below_alloc (Below.refl _ _) _)⟩
        by_cases h2 : i = 19
        · subst h2
          have hR := hR.2.1 rfl
          have hrow := g2 hfi
          have hne : fl 22 = false → some g ≠ v.ownBlock := fun e => mrow_ne (g1 e) hrow (by decide)
          refine ⟨fun e => ?_, fun e => ?_, ?_, fun k cs t ht hk h => blk_grown (g4 k cs t ht hk h) hR (mrow_ne (g4 k cs t ht hk h) hrow ht)⟩
          · have e : fl 22 = false := by simpa [St.upB] using e
            exact blk_grown (g1 e) hR (hne e)
          · simp [St.upB] at e
          · exact g3.grown hR g3.size (fun k hk => (hrow.blk hk).1)
        · by_cases h3 : i = 22
          · subst h3
            obtain ⟨u, rfl⟩ := hR.2.2.1 rfl
            have hap : fl 19 = true := hdn 19 (by kernel_rfl)
            refine ⟨fun e => ?_, fun e => ?_, ?_, fun k cs t ht hk h => blk_far (g4 k cs t ht hk h) hk _⟩
            · simp [St.upB] at e
            · have e : fl 19 = false := by simpa [St.upB] using e
              rw [hap] at e
              cases e
            · exact Ch.onto (S := fun i => i = g) g3 ((Ch.refl _ _).set rfl) g3.size (fun i e => e ▸ HT.out.hg)
          · have e := hR.2.2.2 h1 h2 h3
            subst e
            have e2 : St.upB fl i 22 = fl 22 := by unfold St.upB; rw [if_neg (Ne.symm h3)]
            have e3 : St.upB fl i 19 = fl 19 := by unfold St.upB; rw [if_neg (Ne.symm h2)]
            exact ⟨fun e => g1 (e2 ▸ e), fun e => g2 (e3 ▸ e), g3, g4⟩)
      case hend =>
        intro fl w hall hB
        rintro _ rfl _ rfl _ rfl _ rfl _ rfl _ rfl _ rfl _ rfl _ rfl _ rfl _ rfl _ rfl _ rfl _ rfl _ rfl _ rfl _ rfl _ rfl v18 ht18 v19 ht19 _ rfl _ rfl v22 ht22
        simp only [List.map_cons, List.map_nil, List.nil_append, List.cons_append, List.getD_cons_zero, List.getD_cons_succ, Act.put, List.setIfInBounds_toArray, List.set_cons_zero, List.set_cons_succ]
        rw [St.withE_nil]
        simp only [List.map_cons, List.map_nil, List.nil_append, List.cons_append, List.getD_cons_zero, List.getD_cons_succ] at ht22 ht19
        obtain ⟨h19a, h19b⟩ := ht19
        have HT2 : Aside0 (TX w0 w g v19 (b ++ [y]) ah lim) := ⟨⟨ht22, h19a, hB.2.2.1, HT.out.hg⟩⟩
        rw [← HCS.out] at HT2
        have HKP2 := Aside0.mk hB.2.2.2
        clear ht22 h19a h19b ht18 hB hall hw1
        go_wp2
        go_roundg (gk - 1)
        case measure => have := HK.out; omega
        case rel => exact ⟨k + 1, v19, ⟨by have := HK.out; omega⟩, by go_num, HT2, HKP2⟩
    · obtain rfl : k = n := by have := HK.out; omega
      go_wp2
      refine bodyPost_end (results_none rfl _ _ _) rfl ⟨v, rfl, HT.out, HWW.out ▸ HKP.out⟩
end Go.Proofs.Ytfcpjblogeofpac
